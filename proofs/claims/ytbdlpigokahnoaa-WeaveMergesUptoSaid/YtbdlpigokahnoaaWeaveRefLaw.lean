/- Plain law: the document's way through the base meets the places that are paired in both lists. -/
import Derived.Test.YtbdlpigokahnoaaWeaveInv
set_option linter.unusedVariables false
namespace Go.Proofs.Ytbdlpigokahnoaa
open Go.RowKit

/-- the place in the other list with which a place is paired -/
def placeG : List (Nat × Nat) → Nat → Option Nat
  | [], _ => none
  | p :: l, n => if p.1 = n then some p.2 else placeG l n
def placeI (l : List (Nat × Nat)) (n : Nat) : Int := match placeG l n with | some x => (x : Int) | none => -1
/-- the pairs that are left from a place on -/
def fromG (n : Nat) (l : List (Nat × Nat)) : List (Nat × Nat) := l.filter fun p => decide (n ≤ p.1)
theorem rising_all {x y : List ByteArray} : ∀ {l : List (Nat × Nat)} {i k : Nat}, Rising x y i k l → ∀ p ∈ l, i ≤ p.1
  | [], _, _, _, p, hp => by cases hp
  | q :: l, i, k, ⟨h1, h2, h3, h4, h5, h6⟩, p, hp => by
    rcases List.mem_cons.1 hp with rfl | hp
    · exact h1
    · have := rising_all h6 p hp; omega
theorem from_all {n : Nat} {l : List (Nat × Nat)} (h : ∀ p ∈ l, n ≤ p.1) : fromG n l = l := List.filter_eq_self.2 fun p hp => by simpa using h p hp
theorem from_cons_lt {n : Nat} {p : Nat × Nat} {l : List (Nat × Nat)} (h : p.1 < n) : fromG n (p :: l) = fromG n l := by
  unfold fromG; rw [List.filter_cons, if_neg (by simpa using h)]
theorem place_none {l : List (Nat × Nat)} {n : Nat} (h : ∀ p ∈ l, n < p.1) : placeG l n = none := by
  induction l with
  | nil => rfl
  | cons p l ih => rw [placeG, if_neg (by have := h p List.mem_cons_self; omega)]; exact ih fun q hq => h q (List.mem_cons_of_mem _ hq)
/-- a place is paired: what is left begins with that pair -/
theorem from_some {x y : List ByteArray} : ∀ {l : List (Nat × Nat)} {i k n v : Nat}, Rising x y i k l → placeG l n = some v → fromG n l = (n, v) :: fromG (n + 1) l ∧ v < y.length
  | [], _, _, _, _, _, h => by cases h
  | p :: l, i, k, n, v, hr, h => by
    obtain ⟨h1, h2, h3, h4, h5, h6⟩ := hr
    unfold placeG at h
    by_cases he : p.1 = n
    · rw [if_pos he] at h
      injection h with h
      have ha := rising_all h6
      refine ⟨?_, by omega⟩
      rw [from_cons_lt (n := n + 1) (by omega), from_all (n := n + 1) (l := l) (fun q hq => by have := ha q hq; omega)]
      rw [from_all]
      · obtain ⟨p1, p2⟩ := p; simp only at he h; rw [he, h]
      · intro q hq
        rcases List.mem_cons.1 hq with rfl | hq
        · omega
        · have := ha q hq; omega
    · rw [if_neg he] at h
      obtain ⟨e, hv⟩ := from_some h6 h
      have hlt : p.1 < n := by
        rcases Nat.lt_or_ge p.1 n with h' | h'
        · exact h'
        · have := place_none (l := l) (n := n) (fun q hq => by have := rising_all h6 q hq; omega)
          rw [this] at h; cases h
      exact ⟨by rw [from_cons_lt hlt, from_cons_lt (by omega)]; exact e, hv⟩
theorem from_none {x y : List ByteArray} : ∀ {l : List (Nat × Nat)} {i k n : Nat}, Rising x y i k l → placeG l n = none → fromG n l = fromG (n + 1) l
  | [], _, _, _, _, _ => rfl
  | p :: l, i, k, n, hr, h => by
    obtain ⟨h1, h2, h3, h4, h5, h6⟩ := hr
    unfold placeG at h
    by_cases he : p.1 = n
    · rw [if_pos he] at h; cases h
    · rw [if_neg he] at h
      have ih := from_none h6 h
      by_cases hlt : p.1 < n
      · rw [from_cons_lt hlt, from_cons_lt (by omega)]; exact ih
      · rw [from_all, from_all]
        · intro q hq
          rcases List.mem_cons.1 hq with rfl | hq
          · omega
          · have := rising_all h6 q hq; omega
        · intro q hq
          rcases List.mem_cons.1 hq with rfl | hq
          · omega
          · have := rising_all h6 q hq; omega
theorem from_end {x y : List ByteArray} : ∀ {l : List (Nat × Nat)} {i k : Nat}, Rising x y i k l → fromG x.length l = []
  | [], _, _, _ => rfl
  | p :: l, i, k, ⟨h1, h2, h3, h4, h5, h6⟩ => by rw [from_cons_lt h3]; exact from_end h6
theorem from_zero (l : List (Nat × Nat)) : fromG 0 l = l := from_all fun p _ => Nat.zero_le _

/-- what is left in common -/
theorem commons_both {n u v : Nat} {A B : List (Nat × Nat)} : commons ((n, u) :: A) ((n, v) :: B) = (n, u, v) :: commons A B := commons_eq (x := (n, u)) (y := (n, v)) rfl
theorem commons_skip_left {n u : Nat} {A B : List (Nat × Nat)} (hB : ∀ q ∈ B, n < q.1) : commons ((n, u) :: A) B = commons A B := by
  cases B with
  | nil => rw [commons_nil_right, commons_nil_right]
  | cons q B => rw [commons_lt (hB q List.mem_cons_self)]
theorem commons_skip_right {n v : Nat} {A B : List (Nat × Nat)} (hA : ∀ q ∈ A, n < q.1) : commons A ((n, v) :: B) = commons A B := by
  cases A with
  | nil => rw [commons_nil_left, commons_nil_left]
  | cons q A => rw [commons_gt (hA q List.mem_cons_self)]
theorem from_mem {n : Nat} {l : List (Nat × Nat)} : ∀ q ∈ fromG (n + 1) l, n < q.1 := fun q hq => by
  have := (List.mem_filter.1 hq).2
  have : n + 1 ≤ q.1 := by simpa using this
  omega

section
variable {x y z : List ByteArray} {la lb : List (Nat × Nat)} {i k i' k' n : Nat}
theorem scan_both (ha : Rising x y i k la) (hb : Rising x z i' k' lb) {u v : Nat} (h1 : placeG la n = some u) (h2 : placeG lb n = some v) : commons (fromG n la) (fromG n lb) = (n, u, v) :: commons (fromG (n + 1) la) (fromG (n + 1) lb) := by
  rw [(from_some ha h1).1, (from_some hb h2).1, commons_both]
theorem scan_not (ha : Rising x y i k la) (hb : Rising x z i' k' lb) (h : placeG la n = none ∨ placeG lb n = none) : commons (fromG n la) (fromG n lb) = commons (fromG (n + 1) la) (fromG (n + 1) lb) := by
  cases h1 : placeG la n with
  | none =>
    rw [from_none ha h1]
    cases h2 : placeG lb n with
    | none => rw [from_none hb h2]
    | some v => rw [(from_some hb h2).1, commons_skip_right from_mem]
  | some u =>
    have h2 : placeG lb n = none := by rcases h with h | h; rw [h1] at h; cases h; exact h
    rw [from_none hb h2, (from_some ha h1).1, commons_skip_left from_mem]
end

/-- what the loop over the base keeps -/
structure ScanInv (x y z : List ByteArray) (n I J K : Nat) (all : List Seg) : Prop where
  r3 : Rise3 x.length y.length z.length I J K (commons (fromG n (pairsAt x y 0 0)) (fromG n (pairsAt x z 0 0)))
  segs : all ++ segsG x y z I J K (commons (fromG n (pairsAt x y 0 0)) (fromG n (pairsAt x z 0 0))) = segsG x y z 0 0 0 (commons (pairsAt x y 0 0) (pairsAt x z 0 0))
  hn : n ≤ x.length
  hI : I ≤ n
  hJ : J ≤ y.length
  hK : K ≤ z.length
  len : all.length ≤ 2 * n
section
variable {x y z : List ByteArray} {n I J K : Nat} {all : List Seg}
theorem ScanInv.start (x y z : List ByteArray) : ScanInv x y z 0 0 0 0 [] :=
  ⟨by rw [from_zero, from_zero]; exact merge_rise x y z, by rw [from_zero, from_zero]; rfl, Nat.zero_le _, Nat.le_refl _, Nat.zero_le _, Nat.zero_le _, Nat.zero_le _⟩
theorem ScanInv.skip (h : ScanInv x y z n I J K all) (hn : n < x.length) (hp : placeG (pairsAt x y 0 0) n = none ∨ placeG (pairsAt x z 0 0) n = none) : ScanInv x y z (n + 1) I J K all := by
  have e := scan_not (pairsAt_rising x y 0 0) (pairsAt_rising x z 0 0) hp
  obtain ⟨h1, h2, h3, h4, h5, h6, h7⟩ := h
  rw [e] at h1 h2
  exact ⟨h1, h2, hn, by omega, h5, h6, by omega⟩
theorem ScanInv.both (h : ScanInv x y z n I J K all) (hn : n < x.length) {u v : Nat} (h1 : placeG (pairsAt x y 0 0) n = some u) (h2 : placeG (pairsAt x z 0 0) n = some v) :
    J ≤ u ∧ u < y.length ∧ K ≤ v ∧ v < z.length ∧ ScanInv x y z (n + 1) (n + 1) (u + 1) (v + 1) (all ++ [((x.drop I).take (n - I), (y.drop J).take (u - J), (z.drop K).take (v - K)), ((x.drop n).take 1, (y.drop u).take 1, (z.drop v).take 1)]) := by
  have e := scan_both (pairsAt_rising x y 0 0) (pairsAt_rising x z 0 0) h1 h2
  obtain ⟨r1, r2, r3, r4, r5, r6, r7⟩ := h
  rw [e] at r1 r2
  obtain ⟨a1, a2, a3, a4, a5, a6, a7⟩ := r1
  simp only at a1 a2 a3 a4 a5 a6 a7
  refine ⟨a2, a5, a3, a6, a7, ?_, hn, Nat.le_refl _, a5, a6, by rw [List.length_append]; simp; omega⟩
  rw [← r2, List.append_assoc]
  rfl
theorem ScanInv.done (h : ScanInv x y z x.length I J K all) : all ++ [((x.drop I).take (x.length - I), (y.drop J).take (y.length - J), (z.drop K).take (z.length - K))] = segsG x y z 0 0 0 (commons (pairsAt x y 0 0) (pairsAt x z 0 0)) := by
  obtain ⟨h1, h2, h3, h4, h5, h6, h7⟩ := h
  rw [from_end (pairsAt_rising x y 0 0), from_end (pairsAt_rising x z 0 0), commons_nil_left] at h2
  rw [← h2, segsG, List.take_of_length_le (by rw [List.length_drop]; omega), List.take_of_length_le (by rw [List.length_drop]; omega), List.take_of_length_le (by rw [List.length_drop]; omega)]
end
end Go.Proofs.Ytbdlpigokahnoaa
