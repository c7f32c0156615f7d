/- Plain law: changes on either side of a line that nobody touched are both made. -/
import Derived.Test.YtbdlpigokahnoaaWeaveLaws
set_option linter.unusedVariables false
namespace Go.Proofs.Ytbdlpigokahnoaa
open Go.RowKit

theorem lcs_self : ∀ (s : List ByteArray), lcs s s = s.length
  | [] => by rw [lcs_nil_left]; rfl
  | a :: s => by rw [lcs_eq _ _ rfl, lcs_self s]; rfl
theorem lcs_behind (s : List ByteArray) : ∀ (t : List ByteArray), lcs s (t ++ s) = s.length
  | [] => lcs_self s
  | a :: t => by
    have h1 := lcs_behind s t
    have h2 := lcs_tail a (t ++ s) s
    have h3 := lcs_le_left s (a :: t ++ s)
    rw [lcs_comm (t ++ s) s, h1, lcs_comm (a :: (t ++ s)) s] at h2
    have h4 : a :: t ++ s = a :: (t ++ s) := rfl
    rw [h4] at h3 ⊢
    omega
theorem Lc_le2 (a b : List ByteArray) (i k : Nat) : Lc a b i k ≤ a.length - i ∧ Lc a b i k ≤ b.length - k := by
  unfold Lc
  have h1 := lcs_le_left (a.drop i) (b.drop k)
  have h2 := lcs_le_left (b.drop k) (a.drop i)
  rw [lcs_comm] at h2
  rw [List.length_drop] at h1 h2
  exact ⟨h1, h2⟩

section
variable {a0 a1 b : List ByteArray} {m : ByteArray}
theorem mid_get (a b : List ByteArray) (m : ByteArray) : (a ++ m :: b)[a.length]? = some m := by
  rw [List.getElem?_append_right (Nat.le_refl _), Nat.sub_self]; rfl
theorem mid_drop (a b : List ByteArray) (m : ByteArray) (i : Nat) : (a ++ m :: b).drop (a.length + 1 + i) = b.drop i := by
  rw [List.drop_append, List.drop_eq_nil_of_le (by omega), show a.length + 1 + i - a.length = i + 1 from by omega, List.nil_append, List.drop_succ_cons]
theorem pairs_reach (hm0 : m ∉ a0) (hm1 : m ∉ a1) : ∀ (f i k : Nat), (a0.length - i) + (a1.length - k) ≤ f → i ≤ a0.length → k ≤ a1.length →
    ∃ P, pairsAt (a0 ++ m :: b) (a1 ++ m :: b) i k = P ++ pairsAt (a0 ++ m :: b) (a1 ++ m :: b) a0.length a1.length ∧ ∀ p ∈ P, p.1 < a0.length ∧ p.2 < a1.length
  | 0, i, k, hf, hi, hk => by
    obtain rfl : i = a0.length := by omega
    obtain rfl : k = a1.length := by omega
    exact ⟨[], rfl, fun p h => by cases h⟩
  | f + 1, i, k, hf, hi, hk => by
    have hlx : (a0 ++ m :: b).length = a0.length + 1 + b.length := by simp; omega
    have hly : (a1 ++ m :: b).length = a1.length + 1 + b.length := by simp; omega
    have stepA : ∀ x y, (a0 ++ m :: b)[i]? = some x → (a1 ++ m :: b)[k]? = some y → ¬ x = y → Lc (a0 ++ m :: b) (a1 ++ m :: b) i (k + 1) ≤ Lc (a0 ++ m :: b) (a1 ++ m :: b) (i + 1) k → i < a0.length →
        ∃ P, pairsAt (a0 ++ m :: b) (a1 ++ m :: b) i k = P ++ pairsAt (a0 ++ m :: b) (a1 ++ m :: b) a0.length a1.length ∧ ∀ p ∈ P, p.1 < a0.length ∧ p.2 < a1.length := fun x y hx hy hne hc hlt => by
      rw [pairsAt_a hx hy hne hc]
      exact pairs_reach hm0 hm1 f (i + 1) k (by omega) (by omega) hk
    have stepB : ∀ x y, (a0 ++ m :: b)[i]? = some x → (a1 ++ m :: b)[k]? = some y → ¬ x = y → ¬ Lc (a0 ++ m :: b) (a1 ++ m :: b) i (k + 1) ≤ Lc (a0 ++ m :: b) (a1 ++ m :: b) (i + 1) k → k < a1.length →
        ∃ P, pairsAt (a0 ++ m :: b) (a1 ++ m :: b) i k = P ++ pairsAt (a0 ++ m :: b) (a1 ++ m :: b) a0.length a1.length ∧ ∀ p ∈ P, p.1 < a0.length ∧ p.2 < a1.length := fun x y hx hy hne hc hlt => by
      rw [pairsAt_b hx hy hne hc]
      exact pairs_reach hm0 hm1 f i (k + 1) (by omega) hi (by omega)
    by_cases h1 : i < a0.length
    · have hx : (a0 ++ m :: b)[i]? = some a0[i] := by rw [List.getElem?_append_left h1]; exact List.getElem?_eq_getElem h1
      have hx0 : ¬ a0[i] = m := fun e => hm0 (by rw [← e]; exact List.getElem_mem h1)
      by_cases h2 : k < a1.length
      · have hy : (a1 ++ m :: b)[k]? = some a1[k] := by rw [List.getElem?_append_left h2]; exact List.getElem?_eq_getElem h2
        by_cases he : a0[i] = a1[k]
        · obtain ⟨P, hP, hp⟩ := pairs_reach hm0 hm1 f (i + 1) (k + 1) (by omega) (by omega) (by omega)
          rw [pairsAt_eq hx (by rw [he]; exact hy), hP]
          refine ⟨(i, k) :: P, rfl, fun p hp' => ?_⟩
          rcases List.mem_cons.1 hp' with rfl | hp'
          · exact ⟨h1, h2⟩
          · exact hp p hp'
        · by_cases hc : Lc (a0 ++ m :: b) (a1 ++ m :: b) i (k + 1) ≤ Lc (a0 ++ m :: b) (a1 ++ m :: b) (i + 1) k
          · exact stepA _ _ hx hy he hc h1
          · exact stepB _ _ hx hy he hc h2
      · obtain rfl : k = a1.length := by omega
        refine stepA _ _ hx (mid_get _ _ _) hx0 ?_ h1
        have e1 := (Lc_le2 (a0 ++ m :: b) (a1 ++ m :: b) i (a1.length + 1)).2
        have e2 : Lc (a0 ++ m :: b) (a1 ++ m :: b) (i + 1) a1.length = b.length + 1 := by
          unfold Lc
          rw [List.drop_left, lcs_comm, List.drop_append_of_le_length (by omega), lcs_behind]; rfl
        omega
    · obtain rfl : i = a0.length := by omega
      by_cases h2 : k < a1.length
      case neg =>
        obtain rfl : k = a1.length := by omega
        exact ⟨[], rfl, fun p h => by cases h⟩
      have hy : (a1 ++ m :: b)[k]? = some a1[k] := by rw [List.getElem?_append_left h2]; exact List.getElem?_eq_getElem h2
      have hy0 : ¬ m = a1[k] := fun e => hm1 (by rw [e]; exact List.getElem_mem h2)
      refine stepB _ _ (mid_get _ _ _) hy hy0 ?_ h2
      have e1 := (Lc_le2 (a0 ++ m :: b) (a1 ++ m :: b) (a0.length + 1) k).1
      have e2 : Lc (a0 ++ m :: b) (a1 ++ m :: b) a0.length (k + 1) = b.length + 1 := by
        unfold Lc
        rw [List.drop_left, List.drop_append_of_le_length (by omega), lcs_behind]; rfl
      omega

theorem pairs_tail : ∀ (f i : Nat), b.length - i ≤ f → ∀ p ∈ pairsAt (a0 ++ m :: b) (a1 ++ m :: b) (a0.length + 1 + i) (a1.length + 1 + i), p.2 + a0.length = p.1 + a1.length ∧ a0.length < p.1
  | 0, i, hf => by rw [pairsAt_end (by simp only [List.length_append, List.length_cons]; omega)]; intro p hp; cases hp
  | f + 1, i, hf => by
    by_cases h : i < b.length
    · have hx : ∀ a : List ByteArray, (a ++ m :: b)[a.length + 1 + i]? = some b[i] := fun a => by
        rw [List.getElem?_append_right (by omega), show a.length + 1 + i - a.length = i + 1 from by omega, List.getElem?_cons_succ]; exact List.getElem?_eq_getElem h
      rw [pairsAt_eq (hx a0) (hx a1)]
      intro p hp
      rcases List.mem_cons.1 hp with rfl | hp
      · exact ⟨by simp only; omega, by simp only; omega⟩
      · exact pairs_tail f (i + 1) (by omega) p hp
    · rw [pairsAt_end (by simp only [List.length_append, List.length_cons]; omega)]; intro p hp; cases hp
theorem pairs_ahead {c : List ByteArray} : ∀ (f i : Nat), a0.length - i ≤ f → i ≤ a0.length → ∃ P, pairsAt (a0 ++ m :: b) (a0 ++ m :: c) i i = P ++ pairsAt (a0 ++ m :: b) (a0 ++ m :: c) a0.length a0.length ∧ ∀ p ∈ P, p.2 = p.1 ∧ p.1 < a0.length
  | 0, i, hf, hi => by
    obtain rfl : i = a0.length := by omega
    exact ⟨[], rfl, fun p h => by cases h⟩
  | f + 1, i, hf, hi => by
    by_cases h1 : i < a0.length
    · have hx : ∀ b : List ByteArray, (a0 ++ m :: b)[i]? = some a0[i] := fun b => by rw [List.getElem?_append_left h1]; exact List.getElem?_eq_getElem h1
      obtain ⟨P, hP, hp⟩ := pairs_ahead (c := c) f (i + 1) (by omega) (by omega)
      rw [pairsAt_eq (hx b) (hx c), hP]
      refine ⟨(i, i) :: P, rfl, fun p hp' => ?_⟩
      rcases List.mem_cons.1 hp' with rfl | hp'
      · exact ⟨rfl, h1⟩
      · exact hp p hp'
    · obtain rfl : i = a0.length := by omega
      exact ⟨[], rfl, fun p h => by cases h⟩
end

theorem commons_cut {A B C : Nat} {R T : List (Nat × Nat)} : ∀ (P Q : List (Nat × Nat)), (∀ p ∈ P, p.1 < A) → (∀ q ∈ Q, q.1 < A) →
    commons (P ++ (A, B) :: R) (Q ++ (A, C) :: T) = commons P Q ++ (A, B, C) :: commons R T
  | [], [], _, _ => by rw [List.nil_append, List.nil_append, commons_eq (x := (A, B)) (y := (A, C)) rfl, commons_nil_left]; rfl
  | [], q :: Q, hP, hQ => by
    have ih := commons_cut (B := B) (C := C) (R := R) (T := T) [] Q hP (fun q h => hQ q (List.mem_cons_of_mem _ h))
    have := hQ q List.mem_cons_self
    rw [List.nil_append, commons_nil_left] at *
    rw [List.cons_append, commons_gt (by simpa using this), ih]
  | p :: P, [], hP, hQ => by
    have ih := commons_cut (B := B) (C := C) (R := R) (T := T) P [] (fun q h => hP q (List.mem_cons_of_mem _ h)) hQ
    have := hP p List.mem_cons_self
    rw [List.nil_append, commons_nil_right] at *
    rw [List.cons_append, commons_lt (by simpa using this), ih]
  | p :: P, q :: Q, hP, hQ => by
    have hP' : ∀ p ∈ P, p.1 < A := fun q h => hP q (List.mem_cons_of_mem _ h)
    have hQ' : ∀ q ∈ Q, q.1 < A := fun q h => hQ q (List.mem_cons_of_mem _ h)
    rcases Nat.lt_trichotomy p.1 q.1 with h | h | h
    · have ih := commons_cut (B := B) (C := C) (R := R) (T := T) P (q :: Q) hP' hQ
      rw [List.cons_append, List.cons_append, commons_lt h, commons_lt h, ← List.cons_append, ih]
    · have ih := commons_cut (B := B) (C := C) (R := R) (T := T) P Q hP' hQ'
      rw [List.cons_append, List.cons_append, commons_eq h, commons_eq h, ih]; rfl
    · have ih := commons_cut (B := B) (C := C) (R := R) (T := T) (p :: P) Q hP hQ'
      rw [List.cons_append, List.cons_append, commons_gt h, commons_gt h, ← List.cons_append, ih]
termination_by P Q => P.length + Q.length

/-- of pieces of which one side is the base: the other side -/
def selS (s : Seg) : List ByteArray := if s.2.2 = s.1 then s.2.1 else s.2.2
theorem chunk_sel {o t : ByteArray} {s : Seg} (h : s.2.2 = s.1 ∨ s.2.1 = s.1) : chunkG o t (kindG s.1 s.2.1 s.2.2, s.1, s.2.1, s.2.2) = selS s ∧ cleanP (kindG s.1 s.2.1 s.2.2, s.1, s.2.1, s.2.2) = true := by
  obtain ⟨b, x, y⟩ := s
  simp only at h
  unfold selS chunkG kindG cleanP
  by_cases h1 : y = b
  · by_cases h2 : x = b
    · simp [h1, h2]
    · simp [h1, h2]
  · have h2 : x = b := by rcases h with h | h; exact absurd h h1; exact h
    simp [h1, h2]
theorem fold_sel {o t : ByteArray} : ∀ (ss : List Seg) (ps : List Pt), (∀ s ∈ ss, s.2.2 = s.1 ∨ s.2.1 = s.1) → cleanG ps = true →
    textG o t (ss.foldl pushG ps) = textG o t ps ++ ss.flatMap selS ∧ cleanG (ss.foldl pushG ps) = true
  | [], ps, _, hc => by simp [hc]
  | s :: ss, ps, hs, hc => by
    have h0 := hs s List.mem_cons_self
    have key : textG o t (pushG ps s) = textG o t ps ++ selS s ∧ cleanG (pushG ps s) = true := by
      rcases pushG_cases ps s with ⟨h, e⟩ | ⟨hn, hk, init, lb, lo, lt, rfl, e⟩ | ⟨hn, hk, e⟩
      · have h1 : s.2.1 = [] := List.eq_nil_of_length_eq_zero (by omega)
        have h2 : s.2.2 = [] := List.eq_nil_of_length_eq_zero (by omega)
        rw [e]
        refine ⟨?_, hc⟩
        unfold selS; rw [h1, h2]; simp
      · rw [e]
        obtain ⟨k1, k2⟩ := kindG_zero.1 hk
        refine ⟨?_, ?_⟩
        · simp only [textG, List.flatMap_append, List.flatMap_cons, List.flatMap_nil, List.append_nil, List.append_assoc]
          congr 1
          unfold selS chunkG
          simp [k1, k2]
        · simp only [cleanG, List.all_append, List.all_cons, List.all_nil, Bool.and_eq_true] at hc ⊢
          exact ⟨hc.1, by simp [cleanP]⟩
      · rw [e]
        obtain ⟨q1, q2⟩ := chunk_sel (o := o) (t := t) h0
        refine ⟨?_, ?_⟩
        · simp only [textG, List.flatMap_append, List.flatMap_cons, List.flatMap_nil, List.append_nil]
          rw [q1]
        · simp only [cleanG, List.all_append, List.all_cons, List.all_nil, Bool.and_eq_true] at hc ⊢
          exact ⟨hc, by simpa using q2⟩
    obtain ⟨i1, i2⟩ := fold_sel (o := o) (t := t) ss (pushG ps s) (fun s h => hs s (List.mem_cons_of_mem _ h)) key.2
    rw [List.foldl_cons, i1, key.1, List.flatMap_cons, List.append_assoc]
    exact ⟨rfl, i2⟩

section
variable {a0 a1 b0 b1 : List ByteArray} {m : ByteArray}
theorem take_agree {n i : Nat} (hn : n ≤ a0.length + 1) : ((a0 ++ m :: b1).drop i).take (n - i) = ((a0 ++ m :: b0).drop i).take (n - i) := by
  have h : ∀ b : List ByteArray, ((a0 ++ m :: b).drop i).take (n - i) = ((a0 ++ [m]).take n).drop i := fun b => by
    rw [← List.drop_take]
    congr 1
    have e : a0 ++ m :: b = (a0 ++ [m]) ++ b := by simp
    rw [e, List.take_append_of_le_length (by simp; omega)]
  rw [h, h]
theorem segs_head {C2 : List (Nat × Nat × Nat)} {B : Nat} : ∀ (C1 : List (Nat × Nat × Nat)) (i j : Nat), (∀ c ∈ C1, c.2.2 = c.1 ∧ c.1 < a0.length) → 
    ∃ S1, segsG (a0 ++ m :: b0) (a1 ++ m :: b0) (a0 ++ m :: b1) i j i (C1 ++ (a0.length, B, a0.length) :: C2) = S1 ++ segsG (a0 ++ m :: b0) (a1 ++ m :: b0) (a0 ++ m :: b1) (a0.length + 1) (B + 1) (a0.length + 1) C2 ∧ ∀ s ∈ S1, s.2.2 = s.1
  | [], i, j, _ => by
    refine ⟨[_, _], rfl, fun s hs => ?_⟩
    rcases List.mem_cons.1 hs with rfl | hs
    · exact take_agree (Nat.le_succ _)
    · rcases List.mem_cons.1 hs with rfl | hs
      · have := take_agree (a0 := a0) (b0 := b0) (b1 := b1) (m := m) (i := a0.length) (Nat.le_refl (a0.length + 1))
        rw [show a0.length + 1 - a0.length = 1 from by omega] at this
        exact this
      · cases hs
  | c :: C1, i, j, h => by
    obtain ⟨S1, e, hs⟩ := segs_head (C2 := C2) (B := B) C1 (c.1 + 1) (c.2.1 + 1) (fun c hc => h c (List.mem_cons_of_mem _ hc))
    obtain ⟨h1, h2⟩ := h c List.mem_cons_self
    refine ⟨(((a0 ++ m :: b0).drop i).take (c.1 - i), ((a1 ++ m :: b0).drop j).take (c.2.1 - j), ((a0 ++ m :: b1).drop i).take (c.1 - i)) :: (((a0 ++ m :: b0).drop c.1).take 1, ((a1 ++ m :: b0).drop c.2.1).take 1, ((a0 ++ m :: b1).drop c.1).take 1) :: S1, ?_, ?_⟩
    · rw [List.cons_append, segsG, h1, e]; rfl
    · intro s hs'
      rcases List.mem_cons.1 hs' with rfl | hs'
      · exact take_agree (by omega)
      · rcases List.mem_cons.1 hs' with rfl | hs'
        · have := take_agree (a0 := a0) (b0 := b0) (b1 := b1) (m := m) (i := c.1) (n := c.1 + 1) (by omega)
          rw [show c.1 + 1 - c.1 = 1 from by omega] at this
          exact this
        · exact hs s hs'
theorem drop_agree {i j : Nat} (hi : a0.length < i) (h : j + a0.length = i + a1.length) : (a1 ++ m :: b0).drop j = (a0 ++ m :: b0).drop i := by
  have e1 := mid_drop a1 b0 m (i - a0.length - 1)
  have e2 := mid_drop a0 b0 m (i - a0.length - 1)
  rw [show a1.length + 1 + (i - a0.length - 1) = j from by omega] at e1
  rw [show a0.length + 1 + (i - a0.length - 1) = i from by omega] at e2
  rw [e1, e2]
theorem segs_behind {z : List ByteArray} : ∀ (C2 : List (Nat × Nat × Nat)) (i j k : Nat), a0.length < i → j + a0.length = i + a1.length → (∀ c ∈ C2, c.2.1 + a0.length = c.1 + a1.length ∧ a0.length < c.1) →
    ∀ s ∈ segsG (a0 ++ m :: b0) (a1 ++ m :: b0) z i j k C2, s.2.1 = s.1
  | [], i, j, k, hi, hj, _, s, hs => by
    simp only [segsG, List.mem_cons, List.not_mem_nil, or_false] at hs
    subst hs
    exact drop_agree hi hj
  | c :: C2, i, j, k, hi, hj, hc, s, hs => by
    obtain ⟨h1, h2⟩ := hc c List.mem_cons_self
    simp only [segsG] at hs
    rcases List.mem_cons.1 hs with rfl | hs
    · simp only
      rw [drop_agree hi hj, show c.2.1 - j = c.1 - i from by omega]
    · rcases List.mem_cons.1 hs with rfl | hs
      · simp only
        rw [drop_agree h2 h1]
      · exact segs_behind C2 _ _ _ (by omega) (by omega) (fun c h => hc c (List.mem_cons_of_mem _ h)) s hs

theorem merge_apart (hm0 : m ∉ a0) (hm1 : m ∉ a1) (o t : ByteArray) :
    textG o t (mergeG (a0 ++ m :: b0) (a1 ++ m :: b0) (a0 ++ m :: b1)) = a1 ++ m :: b1 ∧ cleanG (mergeG (a0 ++ m :: b0) (a1 ++ m :: b0) (a0 ++ m :: b1)) = true := by
  obtain ⟨P, hP, hp⟩ := pairs_reach (b := b0) hm0 hm1 _ 0 0 (Nat.le_refl _) (Nat.zero_le _) (Nat.zero_le _)
  obtain ⟨Q, hQ, hq⟩ := pairs_ahead (a0 := a0) (b := b0) (c := b1) (m := m) _ 0 (Nat.le_refl _) (Nat.zero_le _)
  rw [pairsAt_eq (mid_get _ _ _) (mid_get _ _ _)] at hP hQ
  have hT := pairs_tail (a0 := a0) (a1 := a1) (b := b0) (m := m) b0.length 0 (Nat.le_refl _)
  rw [Nat.add_zero, Nat.add_zero] at hT
  have hC := commons_cut (A := a0.length) (B := a1.length) (C := a0.length) (R := pairsAt (a0 ++ m :: b0) (a1 ++ m :: b0) (a0.length + 1) (a1.length + 1)) (T := pairsAt (a0 ++ m :: b0) (a0 ++ m :: b1) (a0.length + 1) (a0.length + 1)) P Q (fun p h => (hp p h).1) (fun q h => (hq q h).2)
  rw [← hP, ← hQ] at hC
  have hR := merge_rise (a0 ++ m :: b0) (a1 ++ m :: b0) (a0 ++ m :: b1)
  have hF := segs_flat (a0 ++ m :: b0) (a1 ++ m :: b0) (a0 ++ m :: b1) _ 0 0 0 hR
  rw [hC] at hR hF
  obtain ⟨S1, hS, hs1⟩ := segs_head (a0 := a0) (a1 := a1) (b0 := b0) (b1 := b1) (m := m) (B := a1.length) (C2 := commons (pairsAt (a0 ++ m :: b0) (a1 ++ m :: b0) (a0.length + 1) (a1.length + 1)) (pairsAt (a0 ++ m :: b0) (a0 ++ m :: b1) (a0.length + 1) (a0.length + 1))) (commons P Q) 0 0
    (fun c hc => by have := commons_mem _ _ c hc; exact hq _ this.2)
  have hs2 := segs_behind (a0 := a0) (a1 := a1) (b0 := b0) (m := m) (z := a0 ++ m :: b1) (commons (pairsAt (a0 ++ m :: b0) (a1 ++ m :: b0) (a0.length + 1) (a1.length + 1)) (pairsAt (a0 ++ m :: b0) (a0 ++ m :: b1) (a0.length + 1) (a0.length + 1))) (a0.length + 1) (a1.length + 1) (a0.length + 1) (by omega) (by omega)
    (fun c hc => by have := commons_mem _ _ c hc; exact hT _ this.1)
  have hR2 : Rise3 (a0 ++ m :: b0).length (a1 ++ m :: b0).length (a0 ++ m :: b1).length (a0.length + 1) (a1.length + 1) (a0.length + 1) (commons (pairsAt (a0 ++ m :: b0) (a1 ++ m :: b0) (a0.length + 1) (a1.length + 1)) (pairsAt (a0 ++ m :: b0) (a0 ++ m :: b1) (a0.length + 1) (a0.length + 1))) := by
    have key : ∀ (C1 : List (Nat × Nat × Nat)) (i j k : Nat) {n r s : Nat} {c : Nat × Nat × Nat} {C2 : List (Nat × Nat × Nat)}, Rise3 n r s i j k (C1 ++ c :: C2) → Rise3 n r s (c.1 + 1) (c.2.1 + 1) (c.2.2 + 1) C2 := by
      intro C1
      induction C1 with
      | nil => intro i j k n r s c C2 h; exact h.2.2.2.2.2.2
      | cons d C1 ih => intro i j k n r s c C2 h; exact ih _ _ _ h.2.2.2.2.2.2
    exact key _ _ _ _ hR
  obtain ⟨g1, g2, g3⟩ := segs_flat _ _ _ _ _ _ _ hR2
  rw [hS] at hF
  obtain ⟨f1, f2, f3⟩ := hF
  rw [List.flatMap_append, g2, List.drop_zero] at f2
  have hours : S1.flatMap (·.2.1) = a1 ++ [m] := by
    have e1 := mid_drop a1 b0 m 0
    rw [Nat.add_zero, List.drop_zero] at e1
    rw [e1, show a1 ++ m :: b0 = (a1 ++ [m]) ++ b0 from by simp] at f2
    exact List.append_cancel_right f2
  have hfm : ∀ (S : List Seg) (f : Seg → List ByteArray), (∀ s ∈ S, selS s = f s) → S.flatMap selS = S.flatMap f := by
    intro S f
    induction S with
    | nil => intro _; rfl
    | cons s S ih => intro h; rw [List.flatMap_cons, List.flatMap_cons, h s List.mem_cons_self, ih fun s hs => h s (List.mem_cons_of_mem _ hs)]
  have hsel := fold_sel (o := o) (t := t) _ [] (fun s hs => by
    rcases List.mem_append.1 hs with h | h
    · exact .inl (hs1 s h)
    · exact .inr (hs2 s h)) rfl
  rw [← hS, ← hC] at hsel
  unfold mergeG
  refine ⟨?_, hsel.2⟩
  rw [hsel.1, hC, hS, List.flatMap_append, hfm S1 (·.2.1) (fun s hs => by unfold selS; rw [if_pos (hs1 s hs)]), hours,
    hfm _ (·.2.2) (fun s hs => by unfold selS; have := hs2 s hs; split
                                  · rename_i h; rw [this, h]
                                  · rfl), g3]
  have e1 := mid_drop a0 b1 m 0
  rw [Nat.add_zero, List.drop_zero] at e1
  rw [e1]
  simp [textG]
end
end Go.Proofs.Ytbdlpigokahnoaa
