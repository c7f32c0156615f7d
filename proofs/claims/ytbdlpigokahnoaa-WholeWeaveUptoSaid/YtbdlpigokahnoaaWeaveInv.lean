/- What Merge's loop keeps, in plain lists. -/
import Derived.Test.YtbdlpigokahnoaaWeaveLaws
set_option linter.unusedVariables false
namespace Go.Proofs.Ytbdlpigokahnoaa
open Go.RowKit

theorem partsOk_length {ps : List Pt} (h : PartsOk ps) : ps.length ≤ (baseOf ps).length + (oursOf ps).length + (theirsOf ps).length := by
  have key : ∀ ps : List Pt, (∀ p ∈ ps, ¬ p.2.1.length + p.2.2.1.length + p.2.2.2.length = 0) → ps.length ≤ (baseOf ps).length + (oursOf ps).length + (theirsOf ps).length := by
    intro ps
    induction ps with
    | nil => intro _; simp
    | cons p ps ih =>
      intro h
      have h1 := h p List.mem_cons_self
      have h2 := ih fun q hq => h q (List.mem_cons_of_mem _ hq)
      simp only [baseOf, oursOf, theirsOf, List.flatMap_cons, List.length_append, List.length_cons] at *
      omega
  exact key ps h.some_
theorem part_le {ps : List Pt} {p : Pt} (h : p ∈ ps) : p.2.1.length ≤ (baseOf ps).length ∧ p.2.2.1.length ≤ (oursOf ps).length ∧ p.2.2.2.length ≤ (theirsOf ps).length := by
  induction ps with
  | nil => cases h
  | cons q ps ih =>
    simp only [baseOf, oursOf, theirsOf, List.flatMap_cons, List.length_append] at *
    rcases List.mem_cons.1 h with rfl | h
    · exact ⟨by omega, by omega, by omega⟩
    · have := ih h; exact ⟨by omega, by omega, by omega⟩

structure MergeInv (x y z : List ByteArray) (I J K : Nat) (la lb : List (Nat × Nat)) (ps : List Pt) : Prop where
  ra : ∃ i j, Rising x y i j la
  rb : ∃ i j, Rising x z i j lb
  r3 : Rise3 x.length y.length z.length I J K (commons la lb)
  fold : (segsG x y z I J K (commons la lb)).foldl pushG ps = mergeG x y z
  hI : I ≤ x.length
  hJ : J ≤ y.length
  hK : K ≤ z.length
  b : baseOf ps = x.take I
  o : oursOf ps = y.take J
  t : theirsOf ps = z.take K
  ok : PartsOk ps

section
variable {x y z : List ByteArray} {I J K : Nat} {la lb : List (Nat × Nat)} {ps : List Pt}
theorem MergeInv.start (x y z : List ByteArray) : MergeInv x y z 0 0 0 (pairsAt x y 0 0) (pairsAt x z 0 0) [] :=
  ⟨⟨0, 0, pairsAt_rising x y 0 0⟩, ⟨0, 0, pairsAt_rising x z 0 0⟩, merge_rise x y z, rfl, Nat.zero_le _, Nat.zero_le _, Nat.zero_le _, rfl, rfl, rfl, partsOk_nil⟩
theorem MergeInv.bound (h : MergeInv x y z I J K la lb ps) : ps.length ≤ x.length + y.length + z.length ∧ ∀ p ∈ ps, p.2.1.length ≤ x.length ∧ p.2.2.1.length ≤ y.length ∧ p.2.2.2.length ≤ z.length := by
  have h1 := partsOk_length h.ok
  have hb := congrArg List.length h.b
  have ho := congrArg List.length h.o
  have ht := congrArg List.length h.t
  rw [List.length_take] at hb ho ht
  refine ⟨by omega, fun p hp => ?_⟩
  have := part_le hp
  exact ⟨by omega, by omega, by omega⟩
theorem take_mid (x : List ByteArray) {I k : Nat} (h : I ≤ k) : x.take I ++ (x.drop I).take (k - I) = x.take k := by
  have := List.take_add (l := x) (i := I) (j := k - I)
  rw [show I + (k - I) = k by omega] at this
  exact this.symm
theorem MergeInv.eq {p q : Nat × Nat} (h : MergeInv x y z I J K (p :: la) (q :: lb) ps) (he : p.1 = q.1) :
    I ≤ p.1 ∧ J ≤ p.2 ∧ K ≤ q.2 ∧ p.1 < x.length ∧ p.2 < y.length ∧ q.2 < z.length ∧
    MergeInv x y z (p.1 + 1) (p.2 + 1) (q.2 + 1) la lb (pushG (pushG ps ((x.drop I).take (p.1 - I), (y.drop J).take (p.2 - J), (z.drop K).take (q.2 - K))) ((x.drop p.1).take 1, (y.drop p.2).take 1, (z.drop q.2).take 1)) := by
  obtain ⟨⟨i, j, ra⟩, ⟨i', j', rb⟩, r3, fold, hI, hJ, hK, b, o, t, ok⟩ := h
  rw [commons_eq he] at r3 fold
  obtain ⟨a1, a2, a3, a4, a5, a6, a7⟩ := r3
  simp only at a1 a2 a3 a4 a5 a6 a7
  refine ⟨a1, a2, a3, a4, a5, a6, ⟨_, _, ra.2.2.2.2.2⟩, ⟨_, _, rb.2.2.2.2.2⟩, a7, fold, a4, a5, a6, ?_, ?_, ?_, push_ok (push_ok ok _) _⟩
  · rw [(push_flat _ _).1, (push_flat _ _).1, b, take_mid x a1]
    have := take_mid x (I := p.1) (k := p.1 + 1) (by omega)
    rwa [show p.1 + 1 - p.1 = 1 by omega] at this
  · rw [(push_flat _ _).2.1, (push_flat _ _).2.1, o, take_mid y a2]
    have := take_mid y (I := p.2) (k := p.2 + 1) (by omega)
    rwa [show p.2 + 1 - p.2 = 1 by omega] at this
  · rw [(push_flat _ _).2.2, (push_flat _ _).2.2, t, take_mid z a3]
    have := take_mid z (I := q.2) (k := q.2 + 1) (by omega)
    rwa [show q.2 + 1 - q.2 = 1 by omega] at this
theorem MergeInv.lt {p q : Nat × Nat} (h : MergeInv x y z I J K (p :: la) (q :: lb) ps) (he : p.1 < q.1) : MergeInv x y z I J K la (q :: lb) ps := by
  obtain ⟨⟨i, j, ra⟩, rb, r3, fold, h1, h2, h3, h4, h5, h6, h7⟩ := h
  rw [commons_lt he] at r3 fold
  exact ⟨⟨_, _, ra.2.2.2.2.2⟩, rb, r3, fold, h1, h2, h3, h4, h5, h6, h7⟩
theorem MergeInv.gt {p q : Nat × Nat} (h : MergeInv x y z I J K (p :: la) (q :: lb) ps) (he : q.1 < p.1) : MergeInv x y z I J K (p :: la) lb ps := by
  obtain ⟨ra, ⟨i, j, rb⟩, r3, fold, h1, h2, h3, h4, h5, h6, h7⟩ := h
  rw [commons_gt he] at r3 fold
  exact ⟨ra, ⟨_, _, rb.2.2.2.2.2⟩, r3, fold, h1, h2, h3, h4, h5, h6, h7⟩
theorem MergeInv.head (h : MergeInv x y z I J K la lb ps) : (∀ p r, la = p :: r → p.1 < x.length ∧ p.2 < y.length) ∧ (∀ q r, lb = q :: r → q.1 < x.length ∧ q.2 < z.length) := by
  obtain ⟨⟨i, j, ra⟩, ⟨i', j', rb⟩, _⟩ := h
  exact ⟨fun p r e => by subst e; exact ⟨ra.2.2.1, ra.2.2.2.1⟩, fun q r e => by subst e; exact ⟨rb.2.2.1, rb.2.2.2.1⟩⟩
theorem MergeInv.stop (h : MergeInv x y z I J K la lb ps) (he : la = [] ∨ lb = []) : pushG ps (x.drop I, y.drop J, z.drop K) = mergeG x y z := by
  have hc : commons la lb = [] := by
    rcases he with rfl | rfl
    · exact commons_nil_left _
    · exact commons_nil_right _
  have := h.fold
  rw [hc] at this
  exact this
theorem MergeInv.mid (h : MergeInv x y z I J K la lb ps) {a b c : Nat} (ha : I + a ≤ x.length) (hb : J + b ≤ y.length) (hc : K + c ≤ z.length) :
    (pushG ps ((x.drop I).take a, (y.drop J).take b, (z.drop K).take c)).length ≤ x.length + y.length + z.length ∧ ∀ p ∈ pushG ps ((x.drop I).take a, (y.drop J).take b, (z.drop K).take c), p.2.1.length ≤ x.length ∧ p.2.2.1.length ≤ y.length ∧ p.2.2.2.length ≤ z.length := by
  have hok := push_ok h.ok ((x.drop I).take a, (y.drop J).take b, (z.drop K).take c)
  obtain ⟨f1, f2, f3⟩ := push_flat ps ((x.drop I).take a, (y.drop J).take b, (z.drop K).take c)
  have hl := partsOk_length hok
  rw [f1, f2, f3, h.b, h.o, h.t] at hl
  simp only [List.length_append, List.length_take, List.length_drop] at hl
  refine ⟨by omega, fun p hp => ?_⟩
  have := part_le hp
  rw [f1, f2, f3, h.b, h.o, h.t] at this
  simp only [List.length_append, List.length_take, List.length_drop] at this
  omega
end
end Go.Proofs.Ytbdlpigokahnoaa
