/- Plain laws on sums: bytes taken in piece by piece. -/
import Derived.Test.YtknbbekinpamjaaShaBuf
import Derived.Test.YtknbbekinpamjaaBytesList
set_option linter.unusedVariables false
namespace Go.Proofs.Ytknbbekinpamjaa
open Go.RowKit

theorem blocksS_step {s : List UInt32} {b : List UInt8} (h : 64 ≤ b.length) : blocksS s b = blocksS (blockS s (b.take 64)) (b.drop 64) := by
  rw [blocksS, dif_pos h]
theorem blocksS_short {s : List UInt32} {b : List UInt8} (h : b.length < 64) : blocksS s b = s := by
  rw [blocksS, dif_neg (by omega)]
/-- the bytes behind the last whole block -/
def tailS (b : List UInt8) : List UInt8 := if h : 64 ≤ b.length then tailS (b.drop 64) else b
termination_by b.length
decreasing_by rw [List.length_drop]; omega
theorem tailS_step {b : List UInt8} (h : 64 ≤ b.length) : tailS b = tailS (b.drop 64) := by rw [tailS, dif_pos h]
theorem tailS_short {b : List UInt8} (h : b.length < 64) : tailS b = b := by rw [tailS, dif_neg (by omega)]
theorem blocksS_length : ∀ (m : Nat) (s : List UInt32) (b : List UInt8), b.length ≤ m → s.length = 8 → (blocksS s b).length = 8
  | m, s, b, hm, hs => by
    by_cases h : 64 ≤ b.length
    · match m with
      | 0 => omega
      | m + 1 =>
        rw [blocksS_step h]
        exact blocksS_length m _ _ (by rw [List.length_drop]; omega) (blockS_length hs _)
    · rw [blocksS_short (by omega)]; exact hs
theorem blocksS_app : ∀ (m : Nat) (s : List UInt32) (D E : List UInt8), D.length ≤ m → blocksS s (D ++ E) = blocksS (blocksS s D) (tailS D ++ E)
  | m, s, D, E, hm => by
    by_cases h : 64 ≤ D.length
    · match m with
      | 0 => omega
      | m + 1 =>
        rw [blocksS_step (s := s) (b := D ++ E) (by rw [List.length_append]; omega), List.take_append_of_le_length h, List.drop_append_of_le_length h,
          blocksS_app m _ _ _ (by rw [List.length_drop]; omega), ← blocksS_step h, ← tailS_step h]
    · rw [blocksS_short (b := D) (by omega), tailS_short (by omega)]
theorem blocksS_append (s : List UInt32) (D E : List UInt8) : blocksS s (D ++ E) = blocksS (blocksS s D) (tailS D ++ E) := blocksS_app _ s D E (Nat.le_refl _)
theorem tailS_app : ∀ (m : Nat) (D E : List UInt8), D.length ≤ m → tailS (D ++ E) = tailS (tailS D ++ E)
  | m, D, E, hm => by
    by_cases h : 64 ≤ D.length
    · match m with
      | 0 => omega
      | m + 1 =>
        rw [tailS_step (b := D ++ E) (by rw [List.length_append]; omega), List.drop_append_of_le_length h, tailS_app m _ _ (by rw [List.length_drop]; omega), ← tailS_step h]
    · rw [tailS_short (b := D) (by omega)]
theorem tailS_append (D E : List UInt8) : tailS (D ++ E) = tailS (tailS D ++ E) := tailS_app _ D E (Nat.le_refl _)
theorem tailS_len : ∀ (m : Nat) (D : List UInt8), D.length ≤ m → (tailS D).length = D.length % 64
  | m, D, hm => by
    by_cases h : 64 ≤ D.length
    · match m with
      | 0 => omega
      | m + 1 =>
        rw [tailS_step h, tailS_len m _ (by rw [List.length_drop]; omega), List.length_drop]; omega
    · rw [tailS_short (by omega), Nat.mod_eq_of_lt (by omega)]
theorem tailS_length (D : List UInt8) : (tailS D).length = D.length % 64 := tailS_len _ D (Nat.le_refl _)

/-- the bytes behind a text of n bytes -/
def padL (n : Nat) : List UInt8 := 128 :: (List.replicate (padZ n) 0 ++ lenB n)
theorem shaG_tail (D : List UInt8) : shaG D = bytesU (blocksS (blocksS shaH D) (tailS D ++ padL D.length)) := by
  unfold shaG padded
  rw [← blocksS_append]; rfl
theorem lenB_length (n : Nat) : (lenB n).length = 8 := rfl
theorem padZ_lt (n : Nat) : padZ n < 64 := by unfold padZ; omega
/-- where the noughts end -/
theorem padZ_end {n t j : Nat} (ht : t = n % 64) (hj : j ≤ padZ n) : (t + 1 + j) % 64 = 56 ↔ j = padZ n := by
  unfold padZ at *; omega
theorem padL_whole (D : List UInt8) : (tailS D ++ padL D.length).length % 64 = 0 := by
  rw [List.length_append, tailS_length]
  unfold padL
  rw [List.length_cons, List.length_append, List.length_replicate, lenB_length]
  unfold padZ
  omega
theorem lenB_succ {n k : Nat} (hk : k < 8) : (lenB n).take (k + 1) = (lenB n).take k ++ [UInt8.ofNat (8 * n / 2 ^ (56 - 8 * k))] := by
  have h8 : k = 0 ∨ k = 1 ∨ k = 2 ∨ k = 3 ∨ k = 4 ∨ k = 5 ∨ k = 6 ∨ k = 7 := by omega
  rcases h8 with rfl | rfl | rfl | rfl | rfl | rfl | rfl | rfl <;> rfl
/-- a row that is filled from the front -/
def fill (l : List UInt8) (m : Nat) : List UInt8 := l.take m ++ List.replicate (l.length - m) 0
theorem fill_put {l : List UInt8} {m : Nat} {x : UInt8} (h : l[m]? = some x) : (fill l m).set m x = fill l (m + 1) := by
  have hm := (List.getElem?_eq_some_iff.1 h).1
  have hl : (l.take m).length = m := by rw [List.length_take]; omega
  unfold fill
  rw [List.set_append, if_neg (by omega), hl, Nat.sub_self, show l.length - m = (l.length - (m + 1)) + 1 from by omega, List.replicate_succ, List.set_cons_zero, List.take_add_one, h, List.append_assoc]
  rfl
theorem fill_all (l : List UInt8) : fill l l.length = l := by unfold fill; simp
theorem fill_length {l : List UInt8} {m : Nat} (hm : m ≤ l.length) : (fill l m).length = l.length := by
  unfold fill; rw [List.length_append, List.length_take, List.length_replicate]; omega
theorem bytesU_length (s : List UInt32) : (bytesU s).length = 4 * s.length := by
  unfold bytesU
  induction s with
  | nil => rfl
  | cons x s ih => rw [List.flatMap_cons, List.length_append, ih, List.length_cons, List.length_map]; simp; omega
theorem bytesU_get : ∀ {s : List UInt32} {i k : Nat} {x : UInt32}, s[i]? = some x → k < 4 → (bytesU s)[4 * i + k]? = some (UInt8.ofNat (x.toNat / 2 ^ (24 - 8 * k)))
  | [], i, k, x, h, _ => by simp at h
  | y :: s, 0, k, x, h, hk => by
    simp at h; subst h
    unfold bytesU
    rw [List.flatMap_cons]
    have h4 : k = 0 ∨ k = 1 ∨ k = 2 ∨ k = 3 := by omega
    rcases h4 with rfl | rfl | rfl | rfl <;> rfl
  | y :: s, i + 1, k, x, h, hk => by
    have h2 := bytesU_get (s := s) (i := i) (k := k) (x := x) (by simpa using h) hk
    unfold bytesU at h2 ⊢
    rw [List.flatMap_cons, List.getElem?_append_right (by simp; omega), ← h2]
    congr 1
    simp; omega
theorem bytesV_set (l : List UInt8) (i : Nat) (x : UInt8) : (bytesV l).toArray.setIfInBounds i (.int .u8 (x.toNat : Int)) = (bytesV (l.set i x)).toArray := by
  simp [bytesV, List.map_set]
theorem bytesV_arr {l : List UInt8} {i : Nat} {x : UInt8} (h : l[i]? = some x) : (bytesV l).toArray[i]? = some (.int .u8 (x.toNat : Int)) := by
  rw [List.getElem?_toArray]; simp [bytesV, h]
theorem fill_hole {l : List UInt8} {m : Nat} (hm : m < l.length) : (fill l m)[m]? = some 0 := by
  unfold fill
  rw [List.getElem?_append_right (by rw [List.length_take]; omega), List.length_take, show m - min m l.length = 0 from by omega, show l.length - m = (l.length - (m + 1)) + 1 from by omega, List.replicate_succ]
  rfl
theorem fill_zero (l : List UInt8) : fill l 0 = List.replicate l.length 0 := rfl
theorem shr_byte (x : UInt32) (e : Nat) : ((UInt8.ofNat (x.toNat / 2 ^ e)).toNat : Int) = uI x / 2 ^ e % 256 := by
  unfold uI
  generalize x.toNat = n
  rw [UInt8.toNat_ofNat', Int.natCast_emod, Int.natCast_ediv, Int.natCast_pow]; rfl
end Go.Proofs.Ytknbbekinpamjaa
