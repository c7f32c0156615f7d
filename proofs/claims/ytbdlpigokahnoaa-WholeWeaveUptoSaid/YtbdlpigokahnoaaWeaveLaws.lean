/- Plain laws on merges: all parts together, the sides, both ways, kinds. -/
import Derived.Test.YtbdlpigokahnoaaWeavePlain
set_option linter.unusedVariables false
namespace Go.Proofs.Ytbdlpigokahnoaa
open Go.RowKit

/-! ### all parts together -/
def baseOf (ps : List Pt) : List ByteArray := ps.flatMap (·.2.1)
def oursOf (ps : List Pt) : List ByteArray := ps.flatMap (·.2.2.1)
def theirsOf (ps : List Pt) : List ByteArray := ps.flatMap (·.2.2.2)

/-- what holds of the parts of a merge: each of the kind that its lines say, none empty, no two without a change side by side -/
structure PartsOk (ps : List Pt) : Prop where
  kind : ∀ p ∈ ps, p.1 = kindG p.2.1 p.2.2.1 p.2.2.2
  some_ : ∀ p ∈ ps, ¬ p.2.1.length + p.2.2.1.length + p.2.2.2.length = 0
  apart : ∀ (i : Nat) (p q : Pt), ps[i]? = some p → ps[i + 1]? = some q → ¬ (p.1 = 0 ∧ q.1 = 0)

theorem partsOk_nil : PartsOk [] := ⟨fun p h => (List.not_mem_nil h).elim, fun p h => (List.not_mem_nil h).elim, fun i p q h => by rw [List.getElem?_nil] at h; cases h⟩
theorem snoc_cases {α : Type} (l : List α) : l = [] ∨ ∃ init x, l = init ++ [x] := by
  rcases List.eq_nil_or_concat l with h | ⟨init, x, h⟩
  · exact .inl h
  · exact .inr ⟨init, x, by rw [h, List.concat_eq_append]⟩

/-- the three ways of a push -/
theorem pushG_cases (ps : List Pt) (s : Seg) : (s.1.length + s.2.1.length + s.2.2.length = 0 ∧ pushG ps s = ps) ∨
    (¬ s.1.length + s.2.1.length + s.2.2.length = 0 ∧ kindG s.1 s.2.1 s.2.2 = 0 ∧ ∃ init lb lo lt, ps = init ++ [(0, lb, lo, lt)] ∧ pushG ps s = init ++ [(0, lb ++ s.1, lo ++ s.2.1, lt ++ s.2.2)]) ∨
    (¬ s.1.length + s.2.1.length + s.2.2.length = 0 ∧ (kindG s.1 s.2.1 s.2.2 ≠ 0 ∨ ∀ init x, ps = init ++ [x] → x.1 ≠ 0) ∧ pushG ps s = ps ++ [(kindG s.1 s.2.1 s.2.2, s.1, s.2.1, s.2.2)]) := by
  obtain ⟨b, o, t⟩ := s
  by_cases h : b.length + o.length + t.length = 0
  · exact .inl ⟨h, pushG_empty h⟩
  · right
    by_cases hk : kindG b o t = 0
    · rcases snoc_cases ps with rfl | ⟨init, x, rfl⟩
      · exact .inr ⟨h, .inr (fun init x e => by simp at e), pushG_new h (.inr (fun init x e => by simp at e))⟩
      · by_cases hx : x.1 = 0
        · obtain ⟨k, lb, lo, lt⟩ := x
          simp only at hx
          subst hx
          exact .inl ⟨h, hk, init, lb, lo, lt, rfl, pushG_join h hk⟩
        · have : ∀ init' x', init ++ [x] = init' ++ [x'] → x'.1 ≠ 0 := fun init' x' e => by
            have := List.append_inj' e rfl
            simp at this
            rw [← this.2]; exact hx
          exact .inr ⟨h, .inr this, pushG_new h (.inr this)⟩
    · exact .inr ⟨h, .inl hk, pushG_new h (.inl hk)⟩

theorem push_flat (ps : List Pt) (s : Seg) : baseOf (pushG ps s) = baseOf ps ++ s.1 ∧ oursOf (pushG ps s) = oursOf ps ++ s.2.1 ∧ theirsOf (pushG ps s) = theirsOf ps ++ s.2.2 := by
  rcases pushG_cases ps s with ⟨h, e⟩ | ⟨_, _, init, lb, lo, lt, rfl, e⟩ | ⟨_, _, e⟩
  · rw [e]
    have h1 : s.1 = [] := List.eq_nil_of_length_eq_zero (by omega)
    have h2 : s.2.1 = [] := List.eq_nil_of_length_eq_zero (by omega)
    have h3 : s.2.2 = [] := List.eq_nil_of_length_eq_zero (by omega)
    rw [h1, h2, h3]; simp
  · rw [e]; simp [baseOf, oursOf, theirsOf]
  · rw [e]; simp [baseOf, oursOf, theirsOf]

theorem push_ok {ps : List Pt} (h : PartsOk ps) (s : Seg) : PartsOk (pushG ps s) := by
  rcases pushG_cases ps s with ⟨_, e⟩ | ⟨hn, hk, init, lb, lo, lt, rfl, e⟩ | ⟨hn, hk, e⟩
  · rw [e]; exact h
  · rw [e]
    have hlast := h.kind (0, lb, lo, lt) (by simp)
    simp only at hlast
    have e3 := (kindG_zero.1 hlast.symm).1.symm
    have e4 := (kindG_zero.1 hlast.symm).2.symm
    subst e3
    subst e4
    obtain ⟨e1, e2⟩ := kindG_zero.1 hk
    refine ⟨fun p hp => ?_, fun p hp => ?_, fun i p q hp hq => ?_⟩
    · rcases List.mem_append.1 hp with hp | hp
      · exact h.kind p (List.mem_append_left _ hp)
      · simp at hp; subst hp; simp only; rw [e1, e2]; exact (kindG_zero.2 ⟨rfl, rfl⟩).symm
    · rcases List.mem_append.1 hp with hp | hp
      · exact h.some_ p (List.mem_append_left _ hp)
      · simp at hp; subst hp
        simp only [List.length_append]
        omega
    · rcases Nat.lt_or_ge (i + 1) init.length with hi | hi
      · exact h.apart i p q (by rw [List.getElem?_append_left (by omega)] at hp ⊢; exact hp) (by rw [List.getElem?_append_left hi] at hq ⊢; exact hq)
      · rcases Nat.eq_or_lt_of_le hi with hi | hi
        · have hq' : q.1 = 0 := by
            rw [List.getElem?_append_right (by omega), ← hi] at hq
            simp at hq; rw [← hq]
          have hp' : (init ++ [((0 : Int), lb, lb, lb)])[i]? = some p := by rw [List.getElem?_append_left (by omega)] at hp ⊢; exact hp
          have h9 := h.apart i p (0, lb, lb, lb) hp' (by rw [List.getElem?_append_right (by omega), ← hi]; simp)
          rw [hq']; exact h9
        · rw [List.getElem?_eq_none (by simp; omega)] at hq
          cases hq
  · rw [e]
    refine ⟨fun p hp => ?_, fun p hp => ?_, fun i p q hp hq => ?_⟩
    · rcases List.mem_append.1 hp with hp | hp
      · exact h.kind p hp
      · simp at hp; subst hp; rfl
    · rcases List.mem_append.1 hp with hp | hp
      · exact h.some_ p hp
      · simp at hp; subst hp; exact hn
    · rcases Nat.lt_or_ge (i + 1) ps.length with hi | hi
      · exact h.apart i p q (by rw [List.getElem?_append_left (by omega)] at hp; exact hp) (by rw [List.getElem?_append_left hi] at hq; exact hq)
      · rcases Nat.eq_or_lt_of_le hi with hi | hi
        · rw [List.getElem?_append_left (by omega)] at hp
          rw [List.getElem?_append_right (by omega), ← hi] at hq
          simp at hq
          subst hq
          rintro ⟨h1, h2⟩
          simp only at h2
          rcases hk with hk | hk
          · exact hk h2
          · refine hk (ps.take i) p ?_ h1
            have := List.take_append_drop i ps
            rw [← this]
            congr 1
            · rw [List.take_append_drop]
            · rw [show i = ps.length - 1 from by omega] at hp ⊢
              have hlt : ps.length - 1 < ps.length := by omega
              rw [List.drop_eq_getElem_cons hlt, List.drop_eq_nil_of_le (by omega)]
              rw [List.getElem?_eq_getElem hlt] at hp
              injection hp with hp
              rw [hp]
        · rw [List.getElem?_eq_none (by simp; omega)] at hq
          cases hq

/-- places that rise in all three lists -/
def Rise3 (n m r : Nat) : Nat → Nat → Nat → List (Nat × Nat × Nat) → Prop
  | _, _, _, [] => True
  | i, j, k, c :: l => i ≤ c.1 ∧ j ≤ c.2.1 ∧ k ≤ c.2.2 ∧ c.1 < n ∧ c.2.1 < m ∧ c.2.2 < r ∧ Rise3 n m r (c.1 + 1) (c.2.1 + 1) (c.2.2 + 1) l
theorem Rise3.weak {n m r i j k i' j' k' : Nat} {l : List (Nat × Nat × Nat)} (h : Rise3 n m r i j k l) (hi : i' ≤ i) (hj : j' ≤ j) (hk : k' ≤ k) : Rise3 n m r i' j' k' l := by
  cases l with
  | nil => trivial
  | cons c l => obtain ⟨h1, h2, h3, h4⟩ := h; exact ⟨by omega, by omega, by omega, h4⟩

theorem commons_rise {x y z : List ByteArray} (a b : List (Nat × Nat)) : ∀ {i j i' k : Nat}, Rising x y i j a → Rising x z i' k b → Rise3 x.length y.length z.length (max i i') j k (commons a b) := by
  fun_induction commons a b with
  | case1 b => intro i j i' k _ _; trivial
  | case2 a c => intro i j i' k _ _; trivial
  | case3 p a q b he ih =>
    intro i j i' k h1 h2
    obtain ⟨a1, a2, a3, a4, a5, a6⟩ := h1
    obtain ⟨b1, b2, b3, b4, b5, b6⟩ := h2
    have := ih a6 b6
    rw [he, Nat.max_self] at this
    exact ⟨by simp only; omega, a2, b2, a3, a4, b4, by simp only; rw [he]; exact this⟩
  | case4 p a q b he hl ih =>
    intro i j i' k h1 h2
    obtain ⟨a1, a2, a3, a4, a5, a6⟩ := h1
    exact (ih a6 h2).weak (by omega) (by omega) (Nat.le_refl _)
  | case5 p a q b he hl ih =>
    intro i j i' k h1 h2
    obtain ⟨b1, b2, b3, b4, b5, b6⟩ := h2
    exact (ih h1 b6).weak (by omega) (Nat.le_refl _) (by omega)

theorem piece (l : List ByteArray) {i c : Nat} (h : i ≤ c) (hc : c < l.length) : (l.drop i).take (c - i) ++ ((l.drop c).take 1 ++ l.drop (c + 1)) = l.drop i := by
  have h1 : (l.drop c).take 1 ++ l.drop (c + 1) = l.drop c := by
    rw [← List.drop_drop]; exact List.take_append_drop _ _
  rw [h1]
  have h2 := List.take_append_drop (c - i) (l.drop i)
  rw [List.drop_drop, show i + (c - i) = c from by omega] at h2
  exact h2

theorem segs_flat (x y z : List ByteArray) : ∀ (l : List (Nat × Nat × Nat)) (i j k : Nat), Rise3 x.length y.length z.length i j k l →
    (segsG x y z i j k l).flatMap (·.1) = x.drop i ∧ (segsG x y z i j k l).flatMap (·.2.1) = y.drop j ∧ (segsG x y z i j k l).flatMap (·.2.2) = z.drop k
  | [], i, j, k, _ => by simp [segsG]
  | c :: l, i, j, k, ⟨h1, h2, h3, h4, h5, h6, h7⟩ => by
    obtain ⟨q1, q2, q3⟩ := segs_flat x y z l _ _ _ h7
    simp only [segsG, List.flatMap_cons, q1, q2, q3]
    exact ⟨piece x h1 h4, piece y h2 h5, piece z h3 h6⟩

theorem fold_flat : ∀ (ss : List Seg) (ps : List Pt), baseOf (ss.foldl pushG ps) = baseOf ps ++ ss.flatMap (·.1) ∧ oursOf (ss.foldl pushG ps) = oursOf ps ++ ss.flatMap (·.2.1) ∧ theirsOf (ss.foldl pushG ps) = theirsOf ps ++ ss.flatMap (·.2.2)
  | [], ps => by simp
  | s :: ss, ps => by
    obtain ⟨h1, h2, h3⟩ := fold_flat ss (pushG ps s)
    obtain ⟨q1, q2, q3⟩ := push_flat ps s
    rw [List.foldl_cons, h1, h2, h3, q1, q2, q3]
    simp
theorem fold_ok : ∀ (ss : List Seg) (ps : List Pt), PartsOk ps → PartsOk (ss.foldl pushG ps)
  | [], _, h => h
  | s :: ss, ps, h => fold_ok ss _ (push_ok h s)

theorem merge_rise (x y z : List ByteArray) : Rise3 x.length y.length z.length 0 0 0 (commons (pairsAt x y 0 0) (pairsAt x z 0 0)) := by
  have := commons_rise (pairsAt x y 0 0) (pairsAt x z 0 0) (pairsAt_rising x y 0 0) (pairsAt_rising x z 0 0)
  simpa using this
theorem merge_flat (x y z : List ByteArray) : baseOf (mergeG x y z) = x ∧ oursOf (mergeG x y z) = y ∧ theirsOf (mergeG x y z) = z := by
  obtain ⟨h1, h2, h3⟩ := fold_flat (segsG x y z 0 0 0 (commons (pairsAt x y 0 0) (pairsAt x z 0 0))) []
  obtain ⟨q1, q2, q3⟩ := segs_flat x y z _ 0 0 0 (merge_rise x y z)
  unfold mergeG
  rw [h1, h2, h3, q1, q2, q3]
  simp [baseOf, oursOf, theirsOf]
theorem merge_ok (x y z : List ByteArray) : PartsOk (mergeG x y z) := fold_ok _ _ partsOk_nil

/-! ### a property of all pieces -/
theorem fold_all {Q : Seg → Prop} (hj : ∀ a b c d e f, Q (a, b, c) → Q (d, e, f) → kindG a b c = 0 → kindG d e f = 0 → Q (a ++ d, b ++ e, c ++ f)) : ∀ (ss : List Seg) (ps : List Pt), PartsOk ps → (∀ s ∈ ss, Q s) → (∀ p ∈ ps, Q (p.2.1, p.2.2.1, p.2.2.2)) →
    ∀ p ∈ ss.foldl pushG ps, Q (p.2.1, p.2.2.1, p.2.2.2)
  | [], ps, _, _, h => h
  | s :: ss, ps, ho, hs, h => by
    refine fold_all hj ss (pushG ps s) (push_ok ho s) (fun s hs' => hs s (List.mem_cons_of_mem _ hs')) ?_
    have hs0 := hs s (List.mem_cons_self)
    rcases pushG_cases ps s with ⟨_, e⟩ | ⟨hn, hk, init, lb, lo, lt, rfl, e⟩ | ⟨hn, hk, e⟩
    · rw [e]; exact h
    · rw [e]
      intro p hp
      rcases List.mem_append.1 hp with hp | hp
      · exact h p (List.mem_append_left _ hp)
      · simp at hp; subst hp
        have hk' := ho.kind (0, lb, lo, lt) (by simp)
        exact hj _ _ _ _ _ _ (h (0, lb, lo, lt) (by simp)) hs0 hk'.symm hk
    · rw [e]
      intro p hp
      rcases List.mem_append.1 hp with hp | hp
      · exact h p hp
      · simp at hp; subst hp; exact hs0

/-- of a list of clean parts of which each gives its ours, the text is ours -/
theorem text_ours {o t : ByteArray} {ps : List Pt} (h : ∀ p ∈ ps, p.1 = 0 ∨ p.1 = 1 ∨ p.1 = 3) : textG o t ps = oursOf ps ∧ cleanG ps = true := by
  induction ps with
  | nil => exact ⟨rfl, rfl⟩
  | cons p ps ih =>
    obtain ⟨h1, h2⟩ := ih fun q hq => h q (List.mem_cons_of_mem _ hq)
    have hp := h p List.mem_cons_self
    refine ⟨?_, ?_⟩
    · simp only [textG, oursOf, List.flatMap_cons] at *
      rw [h1, chunkG, if_pos hp]
    · simp only [cleanG, List.all_cons, Bool.and_eq_true] at *
      refine ⟨?_, h2⟩
      simp only [cleanP, decide_eq_true_eq]
      rcases hp with h | h | h
      · exact .inl h
      · exact .inr (.inl h)
      · exact .inr (.inr (.inl h))
theorem text_theirs {o t : ByteArray} {ps : List Pt} (h : ∀ p ∈ ps, (p.1 = 0 ∧ p.2.2.1 = p.2.2.2) ∨ p.1 = 2) : textG o t ps = theirsOf ps ∧ cleanG ps = true := by
  induction ps with
  | nil => exact ⟨rfl, rfl⟩
  | cons p ps ih =>
    obtain ⟨h1, h2⟩ := ih fun q hq => h q (List.mem_cons_of_mem _ hq)
    have hp := h p List.mem_cons_self
    refine ⟨?_, ?_⟩
    · simp only [textG, theirsOf, List.flatMap_cons] at *
      rw [h1, chunkG]
      rcases hp with ⟨h, e⟩ | h
      · rw [if_pos (.inl h), e]
      · rw [if_neg (by rw [h]; omega), if_pos h]
    · simp only [cleanG, List.all_cons, Bool.and_eq_true] at *
      refine ⟨?_, h2⟩
      simp only [cleanP, decide_eq_true_eq]
      rcases hp with ⟨h, _⟩ | h
      · exact .inl h
      · exact .inr (.inr (.inr h))

/-! ### a side that is the base; two sides alike -/
theorem pairs_self : ∀ (x : List ByteArray) (f i : Nat), x.length - i ≤ f → ∀ p ∈ pairsAt x x i i, p.2 = p.1
  | x, 0, i, hf => by rw [pairsAt_end (by omega)]; intro p hp; cases hp
  | x, f + 1, i, hf => by
    by_cases h : i < x.length
    · have hx : x[i]? = some x[i] := List.getElem?_eq_getElem h
      rw [pairsAt_eq hx hx]
      intro p hp
      rcases List.mem_cons.1 hp with rfl | hp
      · rfl
      · exact pairs_self x f (i + 1) (by omega) p hp
    · rw [pairsAt_end (by omega)]; intro p hp; cases hp

theorem commons_mem (a b : List (Nat × Nat)) : ∀ c ∈ commons a b, (c.1, c.2.1) ∈ a ∧ (c.1, c.2.2) ∈ b := by
  fun_induction commons a b with
  | case1 b => intro c hc; cases hc
  | case2 a c => intro c hc; cases hc
  | case3 p a q b he ih =>
    intro c hc
    rcases List.mem_cons.1 hc with rfl | hc
    · exact ⟨by simp, by simp only; rw [he]; simp⟩
    · obtain ⟨h1, h2⟩ := ih c hc
      exact ⟨List.mem_cons_of_mem _ h1, List.mem_cons_of_mem _ h2⟩
  | case4 p a q b he hl ih =>
    intro c hc
    obtain ⟨h1, h2⟩ := ih c hc
    exact ⟨List.mem_cons_of_mem _ h1, h2⟩
  | case5 p a q b he hl ih =>
    intro c hc
    obtain ⟨h1, h2⟩ := ih c hc
    exact ⟨h1, List.mem_cons_of_mem _ h2⟩

/-- theirs is the base: each piece's theirs is its base -/
theorem segs_theirs_base (x y : List ByteArray) : ∀ (l : List (Nat × Nat × Nat)) (i j : Nat), (∀ c ∈ l, c.2.2 = c.1) → ∀ s ∈ segsG x y x i j i l, s.2.2 = s.1
  | [], i, j, _, s, hs => by simp [segsG] at hs; subst hs; rfl
  | c :: l, i, j, h, s, hs => by
    have hc := h c List.mem_cons_self
    simp only [segsG, hc] at hs
    rcases List.mem_cons.1 hs with rfl | hs
    · rfl
    · rcases List.mem_cons.1 hs with rfl | hs
      · rfl
      · exact segs_theirs_base x y l _ _ (fun c hc => h c (List.mem_cons_of_mem _ hc)) s hs
theorem segs_ours_base (x z : List ByteArray) : ∀ (l : List (Nat × Nat × Nat)) (i k : Nat), (∀ c ∈ l, c.2.1 = c.1) → ∀ s ∈ segsG x x z i i k l, s.2.1 = s.1
  | [], i, k, _, s, hs => by simp [segsG] at hs; subst hs; rfl
  | c :: l, i, k, h, s, hs => by
    have hc := h c List.mem_cons_self
    simp only [segsG, hc] at hs
    rcases List.mem_cons.1 hs with rfl | hs
    · rfl
    · rcases List.mem_cons.1 hs with rfl | hs
      · rfl
      · exact segs_ours_base x z l _ _ (fun c hc => h c (List.mem_cons_of_mem _ hc)) s hs
theorem segs_alike (x y : List ByteArray) : ∀ (l : List (Nat × Nat × Nat)) (i j : Nat), (∀ c ∈ l, c.2.2 = c.2.1) → ∀ s ∈ segsG x y y i j j l, s.2.2 = s.2.1
  | [], i, j, _, s, hs => by simp [segsG] at hs; subst hs; rfl
  | c :: l, i, j, h, s, hs => by
    have hc := h c List.mem_cons_self
    simp only [segsG, hc] at hs
    rcases List.mem_cons.1 hs with rfl | hs
    · rfl
    · rcases List.mem_cons.1 hs with rfl | hs
      · rfl
      · exact segs_alike x y l _ _ (fun c hc => h c (List.mem_cons_of_mem _ hc)) s hs
theorem commons_self (a : List (Nat × Nat)) : ∀ c ∈ commons a a, c.2.2 = c.2.1 := by
  induction a with
  | nil => intro c hc; rw [commons_nil_left] at hc; cases hc
  | cons p a ih =>
    intro c hc
    rw [commons_eq rfl] at hc
    rcases List.mem_cons.1 hc with rfl | hc
    · rfl
    · exact ih c hc

theorem merge_theirs_base (x y : List ByteArray) (o t : ByteArray) : textG o t (mergeG x y x) = y ∧ cleanG (mergeG x y x) = true := by
  have hc : ∀ c ∈ commons (pairsAt x y 0 0) (pairsAt x x 0 0), c.2.2 = c.1 := fun c hc => pairs_self x x.length 0 (by omega) _ (commons_mem _ _ c hc).2
  have hs := segs_theirs_base x y _ 0 0 hc
  have hq := fold_all (Q := fun s => s.2.2 = s.1) (fun a b c d e f h1 h2 _ _ => by simp only at *; rw [h1, h2]) _ [] partsOk_nil hs (fun p h => by cases h)
  have ho := merge_ok x y x
  have := text_ours (o := o) (t := t) (ps := mergeG x y x) (fun p hp => by
    have h1 := ho.kind p hp
    have h2 : p.2.2.2 = p.2.1 := hq p hp
    rw [h1, h2]
    unfold kindG
    by_cases h3 : p.2.2.1 = p.2.1
    · rw [if_pos ⟨h3, rfl⟩]; exact .inl rfl
    · rw [if_neg (fun e => h3 e.1), if_pos rfl]; exact .inr (.inl rfl))
  rw [this.1, (merge_flat x y x).2.1]
  exact ⟨rfl, this.2⟩
theorem merge_ours_base (x z : List ByteArray) (o t : ByteArray) : textG o t (mergeG x x z) = z ∧ cleanG (mergeG x x z) = true := by
  have hc : ∀ c ∈ commons (pairsAt x x 0 0) (pairsAt x z 0 0), c.2.1 = c.1 := fun c hc => pairs_self x x.length 0 (by omega) _ (commons_mem _ _ c hc).1
  have hs := segs_ours_base x z _ 0 0 hc
  have hq := fold_all (Q := fun s => s.2.1 = s.1) (fun a b c d e f h1 h2 _ _ => by simp only at *; rw [h1, h2]) _ [] partsOk_nil hs (fun p h => by cases h)
  have ho := merge_ok x x z
  have := text_theirs (o := o) (t := t) (ps := mergeG x x z) (fun p hp => by
    have h1 := ho.kind p hp
    have h2 : p.2.2.1 = p.2.1 := hq p hp
    by_cases h3 : p.2.2.2 = p.2.1
    · left
      refine ⟨?_, by rw [h2, h3]⟩
      rw [h1]; exact kindG_zero.2 ⟨h2, h3⟩
    · right
      rw [h1, h2]
      unfold kindG
      rw [if_neg (fun e => h3 e.2), if_neg h3, if_pos rfl])
  rw [this.1, (merge_flat x x z).2.2]
  exact ⟨rfl, this.2⟩
theorem merge_alike (x y : List ByteArray) (o t : ByteArray) : textG o t (mergeG x y y) = y ∧ cleanG (mergeG x y y) = true := by
  have hs := segs_alike x y _ 0 0 (commons_self (pairsAt x y 0 0))
  have hq := fold_all (Q := fun s => s.2.2 = s.2.1) (fun a b c d e f h1 h2 _ _ => by simp only at *; rw [h1, h2]) _ [] partsOk_nil hs (fun p h => by cases h)
  have ho := merge_ok x y y
  have := text_ours (o := o) (t := t) (ps := mergeG x y y) (fun p hp => by
    have h1 := ho.kind p hp
    have h2 : p.2.2.2 = p.2.2.1 := hq p hp
    rw [h1, h2]
    unfold kindG
    by_cases h3 : p.2.2.1 = p.2.1
    · rw [if_pos ⟨h3, h3⟩]; exact .inl rfl
    · rw [if_neg (fun e => h3 e.1), if_neg h3, if_neg h3, if_pos rfl]; exact .inr (.inr rfl))
  rw [this.1, (merge_flat x y y).2.1]
  exact ⟨rfl, this.2⟩

/-! ### both ways -/
theorem kind_swap (b o t : List ByteArray) : kindG b t o = swapK (kindG b o t) := by
  unfold kindG
  by_cases h1 : o = b <;> by_cases h2 : t = b
  · subst h1; subst h2; simp [swapK]
  · subst h1; simp [h2, swapK]
  · subst h2; simp [h1, swapK]
  · by_cases h3 : o = t
    · subst h3; simp [h1, swapK]
    · simp [h1, h2, h3, Ne.symm h3, swapK]
def swapS (s : Seg) : Seg := (s.1, s.2.2, s.2.1)
theorem push_swap (ps : List Pt) (s : Seg) : pushG (ps.map swapP) (swapS s) = (pushG ps s).map swapP := by
  obtain ⟨b, o, t⟩ := s
  by_cases h : b.length + o.length + t.length = 0
  · rw [pushG_empty h, swapS, pushG_empty (by simp only; omega)]
  · have h' : ¬ b.length + t.length + o.length = 0 := by omega
    have hks := kind_swap b o t
    by_cases hk : kindG b o t = 0
    · have hk' : kindG b t o = 0 := by rw [hks, hk]; rfl
      rcases snoc_cases ps with rfl | ⟨init, x, rfl⟩
      · rw [pushG_new h (.inr (fun init x e => by simp at e)), List.map_nil, swapS, pushG_new h' (.inr (fun init x e => by simp at e))]
        simp [swapP, hk, hk', swapK]
      · obtain ⟨k, lb, lo, lt⟩ := x
        by_cases hx : k = 0
        · subst hx
          rw [pushG_join h hk, List.map_append, List.map_cons, List.map_nil, swapS]
          show pushG (init.map swapP ++ [(0, lb, lt, lo)]) (b, t, o) = _
          rw [pushG_join h' hk', List.map_append]
          rfl
        · have n1 : ∀ init' x', init ++ [(k, lb, lo, lt)] = init' ++ [x'] → x'.1 ≠ 0 := fun init' x' e => by
            have := List.append_inj' e rfl
            simp at this
            rw [← this.2]; exact hx
          have n2 : ∀ init' x', (init ++ [(k, lb, lo, lt)]).map swapP = init' ++ [x'] → x'.1 ≠ 0 := fun init' x' e => by
            rw [List.map_append, List.map_cons, List.map_nil] at e
            have := List.append_inj' e rfl
            simp at this
            rw [← this.2]
            simp only [swapP, swapK]
            split
            · omega
            · split
              · omega
              · exact hx
          rw [pushG_new h (.inr n1), swapS, pushG_new h' (.inr n2), List.map_append]
          simp [swapP, hks]
    · have hk' : kindG b t o ≠ 0 := by
        rw [hks]
        unfold swapK
        split
        · omega
        · split
          · omega
          · exact hk
      rw [pushG_new h (.inl hk), swapS, pushG_new h' (.inl hk'), List.map_append]
      simp [swapP, hks]
theorem fold_swap : ∀ (ss : List Seg) (ps : List Pt), (ss.map swapS).foldl pushG (ps.map swapP) = (ss.foldl pushG ps).map swapP
  | [], ps => rfl
  | s :: ss, ps => by rw [List.map_cons, List.foldl_cons, List.foldl_cons, push_swap, fold_swap ss]
def swapC (c : Nat × Nat × Nat) : Nat × Nat × Nat := (c.1, c.2.2, c.2.1)
theorem commons_swap (a b : List (Nat × Nat)) : commons b a = (commons a b).map swapC := by
  fun_induction commons a b with
  | case1 b => rw [commons_nil_right]; rfl
  | case2 x a => rw [commons_nil_left]; rfl
  | case3 p a q b he ih => rw [commons_eq he.symm, List.map_cons, ih]; simp [swapC, he]
  | case4 p a q b he hl ih => rw [commons_gt hl, ih]
  | case5 p a q b he hl ih => rw [commons_lt (by omega), ih]
theorem segs_swap (x y z : List ByteArray) : ∀ (l : List (Nat × Nat × Nat)) (i j k : Nat), segsG x z y i k j (l.map swapC) = (segsG x y z i j k l).map swapS
  | [], i, j, k => rfl
  | c :: l, i, j, k => by simp only [List.map_cons, segsG, swapC, swapS, segs_swap x y z l]
theorem merge_swap (x y z : List ByteArray) : mergeG x z y = (mergeG x y z).map swapP := by
  unfold mergeG
  rw [commons_swap (pairsAt x y 0 0) (pairsAt x z 0 0), segs_swap]
  exact fold_swap _ []
theorem swapP_swapP (p : Pt) : swapP (swapP p) = p := by
  obtain ⟨k, b, o, t⟩ := p
  simp only [swapP, swapK, Prod.mk.injEq, and_true]
  by_cases h1 : k = 1
  · subst h1; rfl
  · by_cases h2 : k = 2
    · subst h2; rfl
    · simp [h1, h2]
theorem clean_swap {ps : List Pt} : cleanG (ps.map swapP) = cleanG ps := by
  simp only [cleanG, List.all_map]
  congr 1
  funext p
  simp only [Function.comp_def, cleanP, swapP, swapK]
  refine decide_eq_decide.2 ?_
  by_cases h1 : p.1 = 1
  · simp [h1]
  · by_cases h2 : p.1 = 2
    · simp [h2]
    · simp [h1, h2]
theorem text_swap {ps : List Pt} (ho : PartsOk ps) (hc : cleanG ps = true) (a b : ByteArray) : textG a b (ps.map swapP) = textG b a ps := by
  simp only [textG, List.flatMap_map]
  have key : ∀ p ∈ ps, chunkG a b (swapP p) = chunkG b a p := fun p hp => by
    have h1 := ho.kind p hp
    have h2 : cleanP p = true := List.all_eq_true.1 hc p hp
    obtain ⟨k, x, y, z⟩ := p
    simp only [cleanP, decide_eq_true_eq] at h1 h2
    rcases h2 with h | h | h | h
    · subst h
      obtain ⟨e1, e2⟩ := kindG_zero.1 h1.symm
      simp [chunkG, swapP, swapK, e1, e2]
    · subst h; simp [chunkG, swapP, swapK]
    · subst h
      have : y = z := by
        unfold kindG at h1
        split at h1
        · cases h1
        · split at h1
          · cases h1
          · split at h1
            · cases h1
            · split at h1
              · assumption
              · cases h1
      simp [chunkG, swapP, swapK, this]
    · subst h; simp [chunkG, swapP, swapK]
  induction ps with
  | nil => rfl
  | cons p ps ih =>
    rw [List.flatMap_cons, List.flatMap_cons, key p List.mem_cons_self]
    congr 1
    refine ih ⟨fun q hq => ho.kind q (List.mem_cons_of_mem _ hq), fun q hq => ho.some_ q (List.mem_cons_of_mem _ hq), fun i q r h1 h2 => ho.apart (i + 1) q r (by simpa using h1) (by simpa using h2)⟩ ?_ (fun q hq => key q (List.mem_cons_of_mem _ hq))
    simp only [cleanG, List.all_cons, Bool.and_eq_true] at hc
    exact hc.2
end Go.Proofs.Ytbdlpigokahnoaa
