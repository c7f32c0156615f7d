/- Plain law: in the text of a merge each line ends, but perhaps the last; no line is empty; marks. -/
import Derived.Test.YtbdlpigokahnoaaWeaveLaws
set_option linter.unusedVariables false
namespace Go.Proofs.Ytbdlpigokahnoaa
open Go.RowKit

def AllEnd (l : List ByteArray) : Prop := ∀ s ∈ l, endsNl s = true
/-- each line ends, but perhaps the last -/
def LastOnly (l : List ByteArray) : Prop := AllEnd l.dropLast

theorem AllEnd.nil : AllEnd [] := fun s h => by cases h
theorem AllEnd.app {a b : List ByteArray} (h : AllEnd a) (k : AllEnd b) : AllEnd (a ++ b) := fun s hs => by
  rcases List.mem_append.1 hs with h1 | h1
  · exact h s h1
  · exact k s h1
theorem AllEnd.only {a : List ByteArray} (h : AllEnd a) : LastOnly a := fun s hs => h s ((List.dropLast_sublist _).subset hs)
theorem AllEnd.appOnly {a b : List ByteArray} (h : AllEnd a) (k : LastOnly b) : LastOnly (a ++ b) := by
  rcases snoc_cases b with rfl | ⟨init, x, rfl⟩
  · rw [List.append_nil]; exact h.only
  · unfold LastOnly at *
    rw [← List.append_assoc, List.dropLast_concat]
    rw [List.dropLast_concat] at k
    exact h.app k
theorem LastOnly.left {a b : List ByteArray} (h : LastOnly (a ++ b)) (hb : b ≠ []) : AllEnd a := fun s hs => by
  apply h s
  rw [List.dropLast_append_of_ne_nil hb]
  exact List.mem_append_left _ hs
theorem LastOnly.right {a b : List ByteArray} (h : LastOnly (a ++ b)) : LastOnly b := fun s hs => by
  have hb : b ≠ [] := by rintro rfl; cases hs
  apply h s
  rw [List.dropLast_append_of_ne_nil hb]
  exact List.mem_append_right _ hs
theorem LastOnly.drop {l : List ByteArray} (h : LastOnly l) (i : Nat) : LastOnly (l.drop i) := by
  rw [← List.take_append_drop i l] at h; exact h.right
theorem LastOnly.take {l : List ByteArray} (h : LastOnly l) {n : Nat} (hn : n < l.length) : AllEnd (l.take n) := by
  rw [← List.take_append_drop n l] at h
  exact h.left (fun e => by have := List.drop_eq_nil_iff.1 e; omega)
theorem LastOnly.at {l : List ByteArray} (h : LastOnly l) {c : Nat} (hc : c + 1 < l.length) : AllEnd ((l.drop c).take 1) := (h.drop c).take (by rw [List.length_drop]; omega)
theorem LastOnly.one (l : List ByteArray) (c : Nat) : LastOnly ((l.drop c).take 1) := fun s hs => by
  have : ((l.drop c).take 1).dropLast = [] := List.eq_nil_of_length_eq_zero (by rw [List.length_dropLast, List.length_take]; omega)
  rw [this] at hs; cases hs

/-- all lines of a piece end -/
def EndS (s : Seg) : Prop := AllEnd s.1 ∧ AllEnd s.2.1 ∧ AllEnd s.2.2
def OnlyS (s : Seg) : Prop := LastOnly s.1 ∧ LastOnly s.2.1 ∧ LastOnly s.2.2
def NilS (s : Seg) : Prop := s.1.length + s.2.1.length + s.2.2.length = 0
def LastSeg : List Seg → Prop
  | [] => True
  | s :: r => (EndS s ∧ LastSeg r) ∨ (OnlyS s ∧ ∀ t ∈ r, NilS t)

/-- like lines at such places -/
def Like3 (x y z : List ByteArray) (l : List (Nat × Nat × Nat)) : Prop := ∀ c ∈ l, x[c.1]? = y[c.2.1]? ∧ x[c.1]? = z[c.2.2]?
theorem rising_mem {a b : List ByteArray} : ∀ {l : List (Nat × Nat)} {i k : Nat}, Rising a b i k l → ∀ p ∈ l, a[p.1]? = b[p.2]?
  | [], _, _, _, p, hp => by cases hp
  | q :: l, i, k, ⟨_, _, _, _, h, h6⟩, p, hp => by
    rcases List.mem_cons.1 hp with rfl | hp
    · exact h
    · exact rising_mem h6 p hp
theorem merge_like (x y z : List ByteArray) : Like3 x y z (commons (pairsAt x y 0 0) (pairsAt x z 0 0)) := fun c hc => by
  obtain ⟨h1, h2⟩ := commons_mem _ _ c hc
  exact ⟨rising_mem (pairsAt_rising x y 0 0) _ h1, rising_mem (pairsAt_rising x z 0 0) _ h2⟩

theorem segs_last {x y z : List ByteArray} (hx : LastOnly x) (hy : LastOnly y) (hz : LastOnly z) : ∀ (l : List (Nat × Nat × Nat)) (i j k : Nat), Rise3 x.length y.length z.length i j k l → Like3 x y z l → LastSeg (segsG x y z i j k l)
  | [], i, j, k, _, _ => .inr ⟨⟨hx.drop i, hy.drop j, hz.drop k⟩, fun t h => by cases h⟩
  | c :: l, i, j, k, ⟨h1, h2, h3, h4, h5, h6, h7⟩, hl => by
    have ih := segs_last hx hy hz l _ _ _ h7 (fun c hc => hl c (List.mem_cons_of_mem _ hc))
    obtain ⟨e1, e2⟩ := hl c List.mem_cons_self
    refine .inl ⟨⟨(hx.drop i).take (by rw [List.length_drop]; omega), (hy.drop j).take (by rw [List.length_drop]; omega), (hz.drop k).take (by rw [List.length_drop]; omega)⟩, ?_⟩
    have one : ∀ (w : List ByteArray) (q : Nat) (s : ByteArray), w[q]? = some s → (w.drop q).take 1 = [s] := fun w q s h => by rw [drop_cons h]; rfl
    have hs : x[c.1]? = some x[c.1] := List.getElem?_eq_getElem h4
    have ex := one x c.1 _ hs
    have ey := one y c.2.1 x[c.1] (by rw [← e1]; exact hs)
    have ez := one z c.2.2 x[c.1] (by rw [← e2]; exact hs)
    by_cases he : endsNl x[c.1] = true
    · have : AllEnd [x[c.1]] := fun s h => by rw [List.mem_singleton.1 h]; exact he
      exact .inl ⟨⟨by simp only; rw [ex]; exact this, by simp only; rw [ey]; exact this, by simp only; rw [ez]; exact this⟩, ih⟩
    · right
      refine ⟨⟨LastOnly.one _ _, LastOnly.one _ _, LastOnly.one _ _⟩, ?_⟩
      have no : ¬ AllEnd [x[c.1]] := fun h => he (h _ (by simp))
      have l1 : c.1 + 1 = x.length := by
        rcases Nat.lt_or_ge (c.1 + 1) x.length with h | h
        · exact absurd (by rw [← ex]; exact hx.at h) no
        · omega
      have l2 : c.2.1 + 1 = y.length := by
        rcases Nat.lt_or_ge (c.2.1 + 1) y.length with h | h
        · exact absurd (by rw [← ey]; exact hy.at h) no
        · omega
      have l3 : c.2.2 + 1 = z.length := by
        rcases Nat.lt_or_ge (c.2.2 + 1) z.length with h | h
        · exact absurd (by rw [← ez]; exact hz.at h) no
        · omega
      cases l with
      | cons d l => have := h7.1; have := h7.2.2.2.1; omega
      | nil =>
        intro t ht
        simp only [segsG, List.mem_cons, List.not_mem_nil, or_false] at ht
        subst ht
        simp only [NilS, List.length_drop]; omega

def segOf (p : Pt) : Seg := (p.2.1, p.2.2.1, p.2.2.2)
def Fin (ps : List Pt) : Prop := (∀ p ∈ ps.dropLast, EndS (segOf p)) ∧ ∀ p ∈ ps.getLast?, OnlyS (segOf p)
theorem fin_of_all {ps : List Pt} (h : ∀ p ∈ ps, EndS (segOf p)) : Fin ps :=
  ⟨fun p hp => h p ((List.dropLast_sublist _).subset hp), fun p hp => by have := h p (List.mem_of_getLast? hp); exact ⟨this.1.only, this.2.1.only, this.2.2.only⟩⟩
theorem fold_nil : ∀ (ss : List Seg) (ps : List Pt), (∀ s ∈ ss, NilS s) → ss.foldl pushG ps = ps
  | [], _, _ => rfl
  | s :: ss, ps, h => by
    obtain ⟨b, o, t⟩ := s
    rw [List.foldl_cons, pushG_empty (h _ List.mem_cons_self)]
    exact fold_nil ss ps fun s hs => h s (List.mem_cons_of_mem _ hs)
theorem fin_snoc {ps : List Pt} {p : Pt} (h : ∀ p ∈ ps, EndS (segOf p)) (hp : OnlyS (segOf p)) : Fin (ps ++ [p]) :=
  ⟨fun q hq => by rw [List.dropLast_concat] at hq; exact h q hq, fun q hq => by rw [List.getLast?_concat] at hq; injection hq with hq; subst hq; exact hp⟩
theorem fold_fin : ∀ (ss : List Seg) (ps : List Pt), LastSeg ss → (∀ p ∈ ps, EndS (segOf p)) → Fin (ss.foldl pushG ps)
  | [], ps, _, h => fin_of_all h
  | s :: ss, ps, hl, h => by
    rw [List.foldl_cons]
    rcases hl with ⟨he, hr⟩ | ⟨ho, hr⟩
    · refine fold_fin ss _ hr ?_
      rcases pushG_cases ps s with ⟨_, e⟩ | ⟨_, _, init, lb, lo, lt, rfl, e⟩ | ⟨_, _, e⟩
      · rw [e]; exact h
      · rw [e]
        intro p hp
        rcases List.mem_append.1 hp with hp | hp
        · exact h p (List.mem_append_left _ hp)
        · obtain rfl := List.mem_singleton.1 hp
          have := h (0, lb, lo, lt) (by simp)
          exact ⟨this.1.app he.1, this.2.1.app he.2.1, this.2.2.app he.2.2⟩
      · rw [e]
        intro p hp
        rcases List.mem_append.1 hp with hp | hp
        · exact h p hp
        · obtain rfl := List.mem_singleton.1 hp
          exact he
    · rw [fold_nil ss _ hr]
      rcases pushG_cases ps s with ⟨_, e⟩ | ⟨_, _, init, lb, lo, lt, rfl, e⟩ | ⟨_, _, e⟩
      · rw [e]; exact fin_of_all h
      · rw [e]
        have := h (0, lb, lo, lt) (by simp)
        exact fin_snoc (fun p hp => h p (List.mem_append_left _ hp)) ⟨this.1.appOnly ho.1, this.2.1.appOnly ho.2.1, this.2.2.appOnly ho.2.2⟩
      · rw [e]
        exact fin_snoc h ho
theorem merge_fin {x y z : List ByteArray} (hx : LastOnly x) (hy : LastOnly y) (hz : LastOnly z) : Fin (mergeG x y z) :=
  fold_fin _ [] (segs_last hx hy hz _ 0 0 0 (merge_rise x y z) (merge_like x y z)) (fun p h => by cases h)

theorem ends_nl (s : ByteArray) : endsNl (s ++ nl) = true := by
  have e : (s ++ nl).data.toList = s.data.toList ++ [10] := by rw [ByteArray.data_append]; simp [nl]
  unfold endsNl
  rw [e, List.getLast?_concat]; rfl
theorem closed_end {l : List ByteArray} (h : LastOnly l) : AllEnd (closedG l) := by
  rcases snoc_cases l with rfl | ⟨init, x, rfl⟩
  · exact AllEnd.nil
  · unfold closedG
    rw [List.getLast?_concat]
    have hi : AllEnd init := by unfold LastOnly at h; rwa [List.dropLast_concat] at h
    simp only
    split
    · rename_i he
      exact hi.app fun s hs => by rw [List.mem_singleton.1 hs]; exact he
    · rw [List.dropLast_concat]
      exact hi.app fun s hs => by rw [List.mem_singleton.1 hs]; exact ends_nl x
theorem conflict_end {o t : ByteArray} {a b c : List ByteArray} (ha : LastOnly a) (hb : LastOnly b) (hc : LastOnly c) : AllEnd (mOurs o :: closedG a ++ (mBase :: closedG b ++ (mMid :: closedG c ++ [mTheirs t]))) := by
  have h1 : AllEnd [mOurs o] := fun s hs => by rw [List.mem_singleton.1 hs]; exact ends_nl _
  have h2 : AllEnd [mBase] := fun s hs => by rw [List.mem_singleton.1 hs]; rfl
  have h3 : AllEnd [mMid] := fun s hs => by rw [List.mem_singleton.1 hs]; rfl
  have h4 : AllEnd [mTheirs t] := fun s hs => by rw [List.mem_singleton.1 hs]; exact ends_nl _
  exact (h1.app (closed_end ha)).app ((h2.app (closed_end hb)).app ((h3.app (closed_end hc)).app h4))
theorem chunk_end {o t : ByteArray} {p : Pt} (h : EndS (segOf p)) : AllEnd (chunkG o t p) := by
  unfold chunkG
  split
  · exact h.2.1
  · split
    · exact h.2.2
    · exact conflict_end h.2.1.only h.1.only h.2.2.only
theorem chunk_only {o t : ByteArray} {p : Pt} (h : OnlyS (segOf p)) : LastOnly (chunkG o t p) := by
  unfold chunkG
  split
  · exact h.2.1
  · split
    · exact h.2.2
    · exact (conflict_end h.2.1 h.1 h.2.2).only
theorem text_only {o t : ByteArray} {ps : List Pt} (h : Fin ps) : LastOnly (textG o t ps) := by
  rcases snoc_cases ps with rfl | ⟨init, p, rfl⟩
  · exact AllEnd.nil.only
  · obtain ⟨h1, h2⟩ := h
    rw [List.dropLast_concat] at h1
    have hp := h2 p (by rw [List.getLast?_concat]; rfl)
    unfold textG
    rw [List.flatMap_append, List.flatMap_cons, List.flatMap_nil, List.append_nil]
    refine AllEnd.appOnly (fun s hs => ?_) (chunk_only hp)
    obtain ⟨q, hq, hs⟩ := List.mem_flatMap.1 hs
    exact chunk_end (h1 q hq) s hs

/-! ### no line is empty -/
def Full (l : List ByteArray) : Prop := ∀ s ∈ l, s.size ≠ 0
theorem Full.app {a b : List ByteArray} (h : Full a) (k : Full b) : Full (a ++ b) := fun s hs => by
  rcases List.mem_append.1 hs with h1 | h1
  · exact h s h1
  · exact k s h1
theorem full_one {s : ByteArray} (h : s.size ≠ 0) : Full [s] := fun x hx => by rw [List.mem_singleton.1 hx]; exact h
theorem full_nl (s : ByteArray) : (s ++ nl).size ≠ 0 := by rw [ByteArray.size_append]; have : nl.size = 1 := rfl; omega
theorem closed_full {l : List ByteArray} (h : Full l) : Full (closedG l) := by
  rcases snoc_cases l with rfl | ⟨init, x, rfl⟩
  · exact h
  · unfold closedG
    rw [List.getLast?_concat]
    simp only
    split
    · exact h
    · rw [List.dropLast_concat]
      exact Full.app (fun s hs => h s (List.mem_append_left _ hs)) (full_one (full_nl x))
theorem text_full {o t : ByteArray} {ps : List Pt} (h1 : Full (baseOf ps)) (h2 : Full (oursOf ps)) (h3 : Full (theirsOf ps)) : Full (textG o t ps) := by
  intro s hs
  obtain ⟨p, hp, hs⟩ := List.mem_flatMap.1 hs
  have q1 : Full p.2.1 := fun s hs => h1 s (List.mem_flatMap.2 ⟨p, hp, hs⟩)
  have q2 : Full p.2.2.1 := fun s hs => h2 s (List.mem_flatMap.2 ⟨p, hp, hs⟩)
  have q3 : Full p.2.2.2 := fun s hs => h3 s (List.mem_flatMap.2 ⟨p, hp, hs⟩)
  have : Full (chunkG o t p) := by
    unfold chunkG
    split
    · exact q2
    · split
      · exact q3
      · exact Full.app (Full.app (full_one (full_nl _)) (closed_full q2)) (Full.app (Full.app (full_one (by decide)) (closed_full q1)) (Full.app (Full.app (full_one (by decide)) (closed_full q3)) (full_one (full_nl _))))
  exact this s hs

/-! ### marks and conflicts -/
def marksG (l : List ByteArray) : Nat := (l.filter fun s => decide (s = mMid)).length
def conflG (ps : List Pt) : Nat := (ps.filter fun p => p.1 == 4).length
theorem marks_append (a b : List ByteArray) : marksG (a ++ b) = marksG a + marksG b := by unfold marksG; rw [List.filter_append, List.length_append]
theorem mid_beq : decide (mMid = mMid) = true := by simp
theorem marks_conf {o t : ByteArray} : ∀ {ps : List Pt}, conflG ps ≤ marksG (textG o t ps)
  | [] => by simp [conflG]
  | p :: ps => by
    have ih := marks_conf (o := o) (t := t) (ps := ps)
    have e : textG o t (p :: ps) = chunkG o t p ++ textG o t ps := rfl
    rw [e, marks_append]
    by_cases h : p.1 = 4
    · have h1 : conflG (p :: ps) = conflG ps + 1 := by unfold conflG; rw [List.filter_cons, if_pos (by simpa using h), List.length_cons]
      have h2 : 1 ≤ marksG (chunkG o t p) := by
        unfold chunkG
        rw [if_neg (by rw [h]; omega), if_neg (by rw [h]; omega)]
        have : marksG (mMid :: closedG p.2.2.2 ++ [mTheirs t]) = marksG (closedG p.2.2.2 ++ [mTheirs t]) + 1 := by
          unfold marksG; rw [List.cons_append, List.filter_cons, if_pos mid_beq, List.length_cons]
        rw [marks_append, show mBase :: closedG p.2.1 ++ (mMid :: closedG p.2.2.2 ++ [mTheirs t]) = (mBase :: closedG p.2.1) ++ (mMid :: closedG p.2.2.2 ++ [mTheirs t]) from rfl, marks_append, this]
        omega
      omega
    · have h1 : conflG (p :: ps) = conflG ps := by unfold conflG; rw [List.filter_cons, if_neg (by simpa using h)]
      omega
theorem clean_conf {ps : List Pt} (h : PartsOk ps) : cleanG ps = decide (conflG ps = 0) := by
  have key : ∀ ps : List Pt, (∀ p ∈ ps, p.1 = kindG p.2.1 p.2.2.1 p.2.2.2) → cleanG ps = decide (conflG ps = 0) := by
    intro ps
    induction ps with
    | nil => intro _; rfl
    | cons p ps ih =>
      intro h
      have ih := ih fun q hq => h q (List.mem_cons_of_mem _ hq)
      have hk := h p List.mem_cons_self
      have hr := kindG_range p.2.1 p.2.2.1 p.2.2.2
      rw [← hk] at hr
      unfold cleanG at *
      rw [List.all_cons, ih]
      by_cases h4 : p.1 = 4
      · have h1 : conflG (p :: ps) = conflG ps + 1 := by unfold conflG; rw [List.filter_cons, if_pos (by simpa using h4), List.length_cons]
        rw [h1]
        have : cleanP p = false := by unfold cleanP; rw [decide_eq_false_iff_not]; omega
        rw [this]; simp
      · have h1 : conflG (p :: ps) = conflG ps := by unfold conflG; rw [List.filter_cons, if_neg (by simpa using h4)]
        rw [h1]
        have : cleanP p = true := by unfold cleanP; rw [decide_eq_true_iff]; omega
        rw [this]; simp
  exact key ps h.kind

/-! ### what stands fast -/
def sameOf (ps : List Pt) : List ByteArray := ps.flatMap fun p => if p.1 = 0 then p.2.1 else []
theorem lcs_grow : ∀ (y : List ByteArray) {s x : List ByteArray}, s.Sublist x → lcs s y ≤ lcs x y := by
  intro y
  induction y with
  | nil => intro s x _; rw [lcs_nil_right]; omega
  | cons b y ihy =>
    intro s x h
    induction h with
    | slnil => omega
    | @cons l1 l2 a _ ih => have := (lcs_tail a l2 (b :: y)).1; omega
    | @cons_cons l1 l2 a h ih =>
      by_cases e : a = b
      · rw [lcs_eq _ _ e, lcs_eq _ _ e]; have := ihy h; omega
      · rw [lcs_ne _ _ e, lcs_ne _ _ e]
        have := ihy (h.cons_cons a)
        omega
theorem lcs_own : ∀ (s : List ByteArray), lcs s s = s.length
  | [] => by rw [lcs_nil_left]; rfl
  | a :: s => by rw [lcs_eq _ _ rfl, lcs_own s]; rfl
theorem lcs_sub {s x y : List ByteArray} (hx : s.Sublist x) (hy : s.Sublist y) : s.length ≤ lcs x y := by
  have h1 := lcs_grow s hx
  have h2 := lcs_grow x hy
  rw [lcs_own] at h1
  rw [lcs_comm s x, lcs_comm y x] at h2
  omega
theorem same_sub {o t : ByteArray} : ∀ {ps : List Pt}, (∀ p ∈ ps, p.1 = kindG p.2.1 p.2.2.1 p.2.2.2) → (sameOf ps).Sublist (baseOf ps) ∧ (sameOf ps).Sublist (textG o t ps)
  | [], _ => ⟨List.Sublist.refl _, List.Sublist.refl _⟩
  | p :: ps, h => by
    obtain ⟨i1, i2⟩ := same_sub (o := o) (t := t) (ps := ps) fun q hq => h q (List.mem_cons_of_mem _ hq)
    have hk := h p List.mem_cons_self
    have e1 : sameOf (p :: ps) = (if p.1 = 0 then p.2.1 else []) ++ sameOf ps := rfl
    have e2 : baseOf (p :: ps) = p.2.1 ++ baseOf ps := rfl
    have e3 : textG o t (p :: ps) = chunkG o t p ++ textG o t ps := rfl
    rw [e1, e2, e3]
    by_cases h0 : p.1 = 0
    · rw [if_pos h0]
      refine ⟨(List.Sublist.refl _).append i1, ?_⟩
      have : chunkG o t p = p.2.1 := by unfold chunkG; rw [if_pos (.inl h0)]; exact (kindG_zero.1 (by rw [← hk]; exact h0)).1
      rw [this]
      exact (List.Sublist.refl _).append i2
    · rw [if_neg h0]
      exact ⟨(List.nil_sublist _).append i1, (List.nil_sublist _).append i2⟩
theorem merge_fast (x y z : List ByteArray) (o t : ByteArray) : (sameOf (mergeG x y z)).length ≤ lcs x (textG o t (mergeG x y z)) := by
  obtain ⟨h1, h2⟩ := same_sub (o := o) (t := t) (merge_ok x y z).kind
  rw [(merge_flat x y z).1] at h1
  exact lcs_sub h1 h2

theorem closed_size {l : List ByteArray} {k : Nat} (h : ∀ s ∈ l, s.size ≤ k) : ∀ s ∈ closedG l, s.size ≤ k + 1 := by
  rcases snoc_cases l with rfl | ⟨init, x, rfl⟩
  · intro s hs; cases hs
  · unfold closedG
    rw [List.getLast?_concat]
    simp only
    split
    · intro s hs; have := h s hs; omega
    · rw [List.dropLast_concat]
      intro s hs
      rcases List.mem_append.1 hs with hs | hs
      · have := h s (List.mem_append_left _ hs); omega
      · rw [List.mem_singleton.1 hs, ByteArray.size_append]
        have := h x (by simp)
        have e : nl.size = 1 := rfl
        omega
theorem mark_size (a : ByteArray) : (mOurs a).size = a.size + 9 ∧ (mTheirs a).size = a.size + 9 := by
  have e : nl.size = 1 := rfl
  unfold mOurs mTheirs
  rw [ByteArray.size_append, ByteArray.size_append, ByteArray.size_append, ByteArray.size_append, e]
  have e2 : (⟨#[60, 60, 60, 60, 60, 60, 60, 32]⟩ : ByteArray).size = 8 := rfl
  have e3 : (⟨#[62, 62, 62, 62, 62, 62, 62, 32]⟩ : ByteArray).size = 8 := rfl
  omega
theorem text_size {o t : ByteArray} {k : Nat} {ps : List Pt} (ho : o.size ≤ k) (ht : t.size ≤ k) (h : ∀ p ∈ ps, (∀ s ∈ p.2.1, s.size ≤ k) ∧ (∀ s ∈ p.2.2.1, s.size ≤ k) ∧ (∀ s ∈ p.2.2.2, s.size ≤ k)) : ∀ s ∈ textG o t ps, s.size ≤ k + 13 := by
  intro s hs
  obtain ⟨p, hp, hs⟩ := List.mem_flatMap.1 hs
  obtain ⟨h1, h2, h3⟩ := h p hp
  unfold chunkG at hs
  split at hs
  · have := h2 s hs; omega
  · split at hs
    · have := h3 s hs; omega
    · rcases List.mem_append.1 hs with hs | hs
      · rcases List.mem_cons.1 hs with rfl | hs
        · have := (mark_size o).1; omega
        · have := closed_size h2 s hs; omega
      · rcases List.mem_append.1 hs with hs | hs
        · rcases List.mem_cons.1 hs with rfl | hs
          · have e : mBase.size = 13 := rfl
            omega
          · have := closed_size h1 s hs; omega
        · rcases List.mem_append.1 hs with hs | hs
          · rcases List.mem_cons.1 hs with rfl | hs
            · have e : mMid.size = 8 := rfl
              omega
            · have := closed_size h3 s hs; omega
          · rw [List.mem_singleton.1 hs]
            have := (mark_size t).2; omega

/-! ### how long a text is -/
theorem closed_len (l : List ByteArray) : (closedG l).length = l.length := by
  rcases snoc_cases l with rfl | ⟨init, x, rfl⟩
  · rfl
  · unfold closedG
    rw [List.getLast?_concat]
    simp only
    split
    · rfl
    · rw [List.dropLast_concat]; simp
theorem text_len {o t : ByteArray} : ∀ (ps : List Pt), (∀ p ∈ ps, ¬ p.2.1.length + p.2.2.1.length + p.2.2.2.length = 0) → (textG o t ps).length ≤ 5 * ((baseOf ps).length + (oursOf ps).length + (theirsOf ps).length)
  | [], _ => by simp [textG]
  | p :: ps, h => by
    have ih := text_len (o := o) (t := t) ps fun q hq => h q (List.mem_cons_of_mem _ hq)
    have h0 := h p List.mem_cons_self
    have e2 : baseOf (p :: ps) = p.2.1 ++ baseOf ps := rfl
    have e3 : textG o t (p :: ps) = chunkG o t p ++ textG o t ps := rfl
    have e4 : oursOf (p :: ps) = p.2.2.1 ++ oursOf ps := rfl
    have e5 : theirsOf (p :: ps) = p.2.2.2 ++ theirsOf ps := rfl
    have hc : (chunkG o t p).length ≤ p.2.1.length + p.2.2.1.length + p.2.2.2.length + 4 := by
      unfold chunkG
      split
      · omega
      · split
        · omega
        · simp only [List.length_append, List.length_cons, closed_len, List.length_nil]; omega
    rw [e2, e3, e4, e5]
    simp only [List.length_append]
    omega
theorem merge_text_len (x y z : List ByteArray) (o t : ByteArray) : (textG o t (mergeG x y z)).length ≤ 5 * (x.length + y.length + z.length) := by
  have := text_len (o := o) (t := t) (mergeG x y z) (merge_ok x y z).some_
  obtain ⟨h1, h2, h3⟩ := merge_flat x y z
  rw [h1, h2, h3] at this
  exact this
theorem text_clean_len {o t : ByteArray} : ∀ (ps : List Pt), cleanG ps = true → (textG o t ps).length ≤ (oursOf ps).length + (theirsOf ps).length
  | [], _ => by simp [textG]
  | p :: ps, h => by
    unfold cleanG at h
    rw [List.all_cons, Bool.and_eq_true] at h
    have ih := text_clean_len (o := o) (t := t) ps h.2
    have e3 : textG o t (p :: ps) = chunkG o t p ++ textG o t ps := rfl
    have e4 : oursOf (p :: ps) = p.2.2.1 ++ oursOf ps := rfl
    have e5 : theirsOf (p :: ps) = p.2.2.2 ++ theirsOf ps := rfl
    have hp : p.1 = 0 ∨ p.1 = 1 ∨ p.1 = 3 ∨ p.1 = 2 := by have := h.1; unfold cleanP at this; simpa using this
    have hc : (chunkG o t p).length ≤ p.2.2.1.length + p.2.2.2.length := by
      unfold chunkG
      by_cases h1 : p.1 = 0 ∨ p.1 = 1 ∨ p.1 = 3
      · rw [if_pos h1]; omega
      · rw [if_neg h1, if_pos (by omega)]; omega
    rw [e3, e4, e5]
    simp only [List.length_append]
    omega
theorem merge_clean_len (x y z : List ByteArray) (o t : ByteArray) (h : cleanG (mergeG x y z) = true) : (textG o t (mergeG x y z)).length ≤ y.length + z.length := by
  have := text_clean_len (o := o) (t := t) _ h
  obtain ⟨h1, h2, h3⟩ := merge_flat x y z
  rw [h2, h3] at this
  exact this
end Go.Proofs.Ytbdlpigokahnoaa
