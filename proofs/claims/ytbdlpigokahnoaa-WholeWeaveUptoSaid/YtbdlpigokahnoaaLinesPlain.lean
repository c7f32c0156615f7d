/- Plain laws of layer 7: longest common lists, pairs, hunks. No program in sight. -/
import Derived.Test.YtbdlpigokahnoaaMem
import Derived.Laws.StructEq
set_option linter.unusedVariables false
namespace Go.Proofs.Ytbdlpigokahnoaa
open Go.RowKit

/-- strings that differ, as the walk asks it -/
theorem str_ne {x y : ByteArray} (h : ¬ x = y) : (x.toList == y.toList) = false := by
  rw [beq_eq_false_iff_ne]
  intro e
  rw [ByteArray.toList_eq, ByteArray.toList_eq] at e
  apply h
  cases x; cases y
  simpa using Array.toList_inj.1 e
theorem str_eq (x : ByteArray) : (x.toList == x.toList) = true := by simp

def strV (l : List ByteArray) : List Value := l.map Value.string

theorem strV_length (l : List ByteArray) : (strV l).length = l.length := by simp [strV]
theorem strV_get (l : List ByteArray) (k : Nat) (h : k < l.length) : (strV l)[k]? = some (.string l[k]) := by simp [strV, h]
theorem strV_take (l : List ByteArray) (k : Nat) : (strV l).take k = strV (l.take k) := by simp [strV, List.map_take]
theorem strV_drop (l : List ByteArray) (k : Nat) : (strV l).drop k = strV (l.drop k) := by simp [strV, List.map_drop]
theorem strV_append (l r : List ByteArray) : strV l ++ strV r = strV (l ++ r) := by simp [strV]
theorem strV_one (l : List ByteArray) : ∀ u ∈ strV l, u.oneCell' = true := by
  intro u hu
  simp only [strV, List.mem_map] at hu
  obtain ⟨s, _, rfl⟩ := hu
  rfl

theorem Sl.strLen {w : World} {A : Option Addr} {n : Nat} {l : List ByteArray} (h : Sl w 1 A n (strV l)) : l.length = n := by
  have := h.1; simpa [strV] using this

theorem strV_look {w : World} {A : Option Addr} {n k : Nat} {l : List ByteArray} (h : Sl w 1 A n (strV l)) (hk : k < n) :
    ∃ (b off : Nat) (s : ByteArray), A = some ⟨b, off, none⟩ ∧ b < w.heap.size ∧ w.cell? ⟨b, off + k, none⟩ = some (.string s) ∧ l[k]? = some s := by
  have hl := h.strLen
  have hkl : k < l.length := by omega
  obtain ⟨b, off, u, e, hb, hu, hc⟩ := h.look hk
  rw [strV_get l k hkl] at hu
  injection hu with hu
  subst hu
  exact ⟨b, off, l[k], e, hb, hc, List.getElem?_eq_getElem hkl⟩

/-! ### the longest common list -/
def lcs : List ByteArray → List ByteArray → Nat
  | [], _ => 0
  | _ :: _, [] => 0
  | a :: x, b :: y => if a = b then lcs x y + 1 else max (lcs x (b :: y)) (lcs (a :: x) y)
termination_by x y => x.length + y.length

theorem lcs_nil_left (y : List ByteArray) : lcs [] y = 0 := by rw [lcs]
theorem lcs_nil_right (x : List ByteArray) : lcs x [] = 0 := by cases x <;> rw [lcs]
theorem lcs_eq {a b : ByteArray} (x y : List ByteArray) (h : a = b) : lcs (a :: x) (b :: y) = lcs x y + 1 := by rw [lcs, if_pos h]
theorem lcs_ne {a b : ByteArray} (x y : List ByteArray) (h : ¬ a = b) : lcs (a :: x) (b :: y) = max (lcs x (b :: y)) (lcs (a :: x) y) := by rw [lcs, if_neg h]

theorem lcs_le_left : ∀ (x y : List ByteArray), lcs x y ≤ x.length
  | [], y => by rw [lcs_nil_left]; simp
  | a :: x, [] => by rw [lcs_nil_right]; simp
  | a :: x, b :: y => by
    by_cases h : a = b
    · rw [lcs_eq x y h]; have := lcs_le_left x y; simp; omega
    · rw [lcs_ne x y h]; have h1 := lcs_le_left x (b :: y); have h2 := lcs_le_left (a :: x) y; simp at *; omega
termination_by x y => x.length + y.length

theorem lcs_comm : ∀ (x y : List ByteArray), lcs x y = lcs y x
  | [], y => by rw [lcs_nil_left, lcs_nil_right]
  | a :: x, [] => by rw [lcs_nil_left, lcs_nil_right]
  | a :: x, b :: y => by
    by_cases h : a = b
    · rw [lcs_eq x y h, lcs_eq y x h.symm, lcs_comm x y]
    · rw [lcs_ne x y h, lcs_ne y x (fun e => h e.symm), lcs_comm x (b :: y), lcs_comm (a :: x) y, Nat.max_comm]
termination_by x y => x.length + y.length

/-- leaving out the first line costs at most one -/
theorem lcs_tail : ∀ (a : ByteArray) (x y : List ByteArray), lcs x y ≤ lcs (a :: x) y ∧ lcs (a :: x) y ≤ lcs x y + 1
  | a, x, [] => by rw [lcs_nil_right, lcs_nil_right]; omega
  | a, [], b :: y => by
    rw [lcs_nil_left]
    have := lcs_le_left [a] (b :: y)
    simp at this; omega
  | a, c :: x, b :: y => by
    by_cases h : a = b
    · rw [lcs_eq _ y h]
      have h1 := lcs_tail b y (c :: x)
      have h2 := lcs_comm (c :: x) (b :: y)
      have h3 := lcs_comm (c :: x) y
      omega
    · rw [lcs_ne _ y h]
      have h1 := lcs_tail a (c :: x) y
      have h2 := lcs_tail b y (c :: x)
      have h3 := lcs_comm (c :: x) (b :: y)
      have h4 := lcs_comm (c :: x) y
      omega
termination_by a x y => x.length + y.length

def Lc (a b : List ByteArray) (i k : Nat) : Nat := lcs (a.drop i) (b.drop k)

theorem Lc_left {a b : List ByteArray} {i k : Nat} (h : a.length ≤ i) : Lc a b i k = 0 := by
  unfold Lc; rw [List.drop_eq_nil_of_le h, lcs_nil_left]
theorem Lc_right {a b : List ByteArray} {i k : Nat} (h : b.length ≤ k) : Lc a b i k = 0 := by
  unfold Lc; rw [List.drop_eq_nil_of_le h, lcs_nil_right]
theorem drop_cons {a : List ByteArray} {i : Nat} {x : ByteArray} (h : a[i]? = some x) : a.drop i = x :: a.drop (i + 1) := by
  obtain ⟨hi, rfl⟩ := List.getElem?_eq_some_iff.1 h
  exact List.drop_eq_getElem_cons hi
theorem Lc_eq {a b : List ByteArray} {i k : Nat} {x : ByteArray} (h : a[i]? = some x) (h' : b[k]? = some x) : Lc a b i k = Lc a b (i + 1) (k + 1) + 1 := by
  unfold Lc; rw [drop_cons h, drop_cons h', lcs_eq _ _ rfl]
theorem Lc_ne {a b : List ByteArray} {i k : Nat} {x y : ByteArray} (h : a[i]? = some x) (h' : b[k]? = some y) (hne : ¬ x = y) : Lc a b i k = max (Lc a b (i + 1) k) (Lc a b i (k + 1)) := by
  unfold Lc; rw [drop_cons h, drop_cons h', lcs_ne _ _ hne]
theorem Lc_le (a b : List ByteArray) (i k : Nat) : Lc a b i k ≤ a.length := by
  have h := lcs_le_left (a.drop i) (b.drop k)
  rw [List.length_drop] at h
  unfold Lc; omega
theorem Lc_comm (a b : List ByteArray) (i k : Nat) : Lc a b i k = Lc b a k i := lcs_comm _ _
/-- the two neighbours are at most one more than the corner -/
theorem Lc_near {a b : List ByteArray} {i k : Nat} {x y : ByteArray} (h : a[i]? = some x) (h' : b[k]? = some y) :
    Lc a b (i + 1) k ≤ Lc a b (i + 1) (k + 1) + 1 ∧ Lc a b i (k + 1) ≤ Lc a b (i + 1) (k + 1) + 1 ∧ Lc a b (i + 1) k ≤ Lc a b i k ∧ Lc a b i (k + 1) ≤ Lc a b i k := by
  unfold Lc
  rw [drop_cons h, drop_cons h']
  have h1 := lcs_tail x (a.drop (i + 1)) (b.drop (k + 1))
  have h2 := lcs_tail y (b.drop (k + 1)) (a.drop (i + 1))
  have h3 := lcs_tail x (a.drop (i + 1)) (y :: b.drop (k + 1))
  have h4 := lcs_tail y (b.drop (k + 1)) (x :: a.drop (i + 1))
  rw [lcs_comm (b.drop (k + 1)) (a.drop (i + 1)), lcs_comm (y :: b.drop (k + 1)) (a.drop (i + 1))] at h2
  rw [lcs_comm (b.drop (k + 1)) _, lcs_comm (y :: b.drop (k + 1)) _] at h4
  omega

/-! ### pairs -/
def pairsAt (a b : List ByteArray) (i k : Nat) : List (Nat × Nat) :=
  if h : i < a.length ∧ k < b.length then
    if a[i]'h.1 = b[k]'h.2 then (i, k) :: pairsAt a b (i + 1) (k + 1)
    else if Lc a b i (k + 1) ≤ Lc a b (i + 1) k then pairsAt a b (i + 1) k else pairsAt a b i (k + 1)
  else []
termination_by (a.length - i) + (b.length - k)

theorem pairsAt_end {a b : List ByteArray} {i k : Nat} (h : ¬ (i < a.length ∧ k < b.length)) : pairsAt a b i k = [] := by
  rw [pairsAt, dif_neg h]
theorem pairsAt_eq {a b : List ByteArray} {i k : Nat} {x : ByteArray} (h : a[i]? = some x) (h' : b[k]? = some x) : pairsAt a b i k = (i, k) :: pairsAt a b (i + 1) (k + 1) := by
  obtain ⟨hi, h⟩ := List.getElem?_eq_some_iff.1 h
  obtain ⟨hk, h'⟩ := List.getElem?_eq_some_iff.1 h'
  rw [pairsAt, dif_pos ⟨hi, hk⟩, if_pos (h.trans h'.symm)]
theorem pairsAt_a {a b : List ByteArray} {i k : Nat} {x y : ByteArray} (h : a[i]? = some x) (h' : b[k]? = some y) (hne : ¬ x = y) (hc : Lc a b i (k + 1) ≤ Lc a b (i + 1) k) : pairsAt a b i k = pairsAt a b (i + 1) k := by
  obtain ⟨hi, h⟩ := List.getElem?_eq_some_iff.1 h
  obtain ⟨hk, h'⟩ := List.getElem?_eq_some_iff.1 h'
  rw [pairsAt, dif_pos ⟨hi, hk⟩, if_neg (by rw [h, h']; exact hne), if_pos hc]
theorem pairsAt_b {a b : List ByteArray} {i k : Nat} {x y : ByteArray} (h : a[i]? = some x) (h' : b[k]? = some y) (hne : ¬ x = y) (hc : ¬ Lc a b i (k + 1) ≤ Lc a b (i + 1) k) : pairsAt a b i k = pairsAt a b i (k + 1) := by
  obtain ⟨hi, h⟩ := List.getElem?_eq_some_iff.1 h
  obtain ⟨hk, h'⟩ := List.getElem?_eq_some_iff.1 h'
  rw [pairsAt, dif_pos ⟨hi, hk⟩, if_neg (by rw [h, h']; exact hne), if_neg hc]

theorem pairsAt_length (a b : List ByteArray) (i k : Nat) : (pairsAt a b i k).length = Lc a b i k := by
  fun_induction pairsAt a b i k with
  | case1 i k h he ih => rw [List.length_cons, ih]; exact (Lc_eq (List.getElem?_eq_getElem h.1) (by rw [he]; exact List.getElem?_eq_getElem h.2)).symm
  | case2 i k h he hc ih =>
    rw [ih, Lc_ne (List.getElem?_eq_getElem h.1) (List.getElem?_eq_getElem h.2) he]; omega
  | case3 i k h he hc ih =>
    rw [ih, Lc_ne (List.getElem?_eq_getElem h.1) (List.getElem?_eq_getElem h.2) he]; omega
  | case4 i k h =>
    by_cases h1 : i < a.length
    · rw [Lc_right (by omega)]; rfl
    · rw [Lc_left (by omega)]; rfl

theorem pairsAt_le (a b : List ByteArray) (i k : Nat) : (pairsAt a b i k).length ≤ a.length := by
  rw [pairsAt_length]; exact Lc_le _ _ _ _

/-- the pairs stand in the order of both lists, within them, on like lines -/
def Rising (a b : List ByteArray) : Nat → Nat → List (Nat × Nat) → Prop
  | _, _, [] => True
  | i, k, p :: r => i ≤ p.1 ∧ k ≤ p.2 ∧ p.1 < a.length ∧ p.2 < b.length ∧ a[p.1]? = b[p.2]? ∧ Rising a b (p.1 + 1) (p.2 + 1) r

theorem Rising.weak {a b : List ByteArray} {i k i' k' : Nat} {l : List (Nat × Nat)} (h : Rising a b i k l) (hi : i' ≤ i) (hk : k' ≤ k) : Rising a b i' k' l := by
  cases l with
  | nil => trivial
  | cons p r => obtain ⟨h1, h2, h3⟩ := h; exact ⟨by omega, by omega, h3⟩

theorem pairsAt_rising (a b : List ByteArray) (i k : Nat) : Rising a b i k (pairsAt a b i k) := by
  fun_induction pairsAt a b i k with
  | case1 i k h he ih => exact ⟨Nat.le_refl _, Nat.le_refl _, h.1, h.2, by rw [List.getElem?_eq_getElem h.1, List.getElem?_eq_getElem h.2, he], ih⟩
  | case2 i k h he hc ih => exact ih.weak (by omega) (Nat.le_refl _)
  | case3 i k h he hc ih => exact ih.weak (Nat.le_refl _) (by omega)
  | case4 i k h => trivial

def pairV (l : List (Nat × Nat)) : List Value := l.flatMap fun p => [.int .i64 (p.1 : Int), .int .i64 (p.2 : Int)]
theorem pairV_length (l : List (Nat × Nat)) : (pairV l).length = l.length * 2 := by
  induction l with
  | nil => rfl
  | cons p r ih => simp only [pairV, List.flatMap_cons, List.length_append, List.length_cons, List.length_nil] at *; omega
theorem pairV_snoc (l : List (Nat × Nat)) (i k : Nat) : pairV l ++ [.int .i64 (i : Int), .int .i64 (k : Int)] = pairV (l ++ [(i, k)]) := by simp [pairV]
theorem pairV_append (l r : List (Nat × Nat)) : pairV l ++ pairV r = pairV (l ++ r) := by simp [pairV]
theorem pairV_one (l : List (Nat × Nat)) : ∀ u ∈ pairV l, u.oneCell' = true := by
  intro u hu
  simp only [pairV, List.mem_flatMap] at hu
  obtain ⟨p, _, hu⟩ := hu
  simp at hu
  rcases hu with rfl | rfl <;> rfl
theorem pairV_get {l : List (Nat × Nat)} {j : Nat} {p : Nat × Nat} (h : l[j]? = some p) : (pairV l)[2 * j]? = some (.int .i64 (p.1 : Int)) ∧ (pairV l)[2 * j + 1]? = some (.int .i64 (p.2 : Int)) := by
  induction l generalizing j with
  | nil => simp at h
  | cons q r ih =>
    cases j with
    | zero => simp at h; subst h; exact ⟨rfl, rfl⟩
    | succ j =>
      simp at h
      have := ih h
      simp only [pairV, List.flatMap_cons]
      rw [show 2 * (j + 1) = 2 * j + 2 from by omega]
      exact this

/-! ### the table's places -/
theorem idx_inj {m i k i' k' : Nat} (hk : k ≤ m) (hk' : k' ≤ m) (h : i * (m + 1) + k = i' * (m + 1) + k') : i = i' ∧ k = k' := by
  have h1 : (i * (m + 1) + k) / (m + 1) = i := by rw [Nat.mul_comm, Nat.mul_add_div (by omega), Nat.div_eq_of_lt (by omega)]; rfl
  have h2 : (i' * (m + 1) + k') / (m + 1) = i' := by rw [Nat.mul_comm, Nat.mul_add_div (by omega), Nat.div_eq_of_lt (by omega)]; rfl
  have h3 : i = i' := by rw [← h1, ← h2, h]
  subst h3
  exact ⟨rfl, by omega⟩
theorem idx_lt {n m i k : Nat} (hi : i ≤ n) (hk : k ≤ m) : i * (m + 1) + k < (n + 1) * (m + 1) := by
  have : i * (m + 1) ≤ n * (m + 1) := Nat.mul_le_mul_right _ hi
  rw [Nat.add_mul]; omega
end Go.Proofs.Ytbdlpigokahnoaa
