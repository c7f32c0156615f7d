/- sha.Short. -/
import Derived.Test.YtknbbekinpamjaaShaAwake
import Derived.Test.YtknbbekinpamjaaShaBackLaw
import Derived.Test.YtknbbekinpamjaaAgg
set_option linter.unusedVariables false
namespace Go.Proofs.Ytknbbekinpamjaa
open Go.RowKit
attribute [local go_sem ↓] eqlId_eq neqId_eq

theorem each_bytes {w : World} {av : Av} {cs : List Value} {l : List UInt8} (h : Each (byteR.R w av) cs l) : cs = bytesV l := by
  induction h with
  | nil => rfl
  | cons h1 _ ih => rw [ih, show _ = _ from h1]; rfl
theorem str_of (s : ByteArray) : s = ⟨s.data.toList.toArray⟩ := by cases s; simp

theorem shaG_length (l : List UInt8) : (shaG l).length = 32 := by
  unfold shaG
  rw [bytesU_length, blocksS_length _ _ _ (Nat.le_refl _) rfl]
/-! ### plain: the common beginning of two texts -/
def cpl : List UInt8 → List UInt8 → Nat
  | x :: xs, y :: ys => if x = y then cpl xs ys + 1 else 0
  | _, _ => 0
theorem cpl_le : ∀ (X Y : List UInt8), cpl X Y ≤ X.length
  | [], _ => by simp [cpl]
  | _ :: _, [] => by simp [cpl]
  | x :: X, y :: Y => by unfold cpl; split; have := cpl_le X Y; simp; exact this; simp
theorem cpl_take : ∀ (X Y : List UInt8) (n : Nat), n ≤ X.length → X.length = Y.length → (X.take n = Y.take n ↔ n ≤ cpl X Y)
  | [], [], n, h, _ => by simp at h; subst h; simp
  | [], _ :: _, _, _, h => by simp at h
  | _ :: _, [], _, _, h => by simp at h
  | x :: X, y :: Y, 0, _, _ => by simp
  | x :: X, y :: Y, n + 1, h, hl => by
    have ih := cpl_take X Y n (by simpa using h) (by simpa using hl)
    rw [List.take_succ_cons, List.take_succ_cons]
    unfold cpl
    by_cases hx : x = y
    · subst hx; rw [if_pos rfl]; simp [ih]
    · rw [if_neg hx]; simp [hx]
theorem cpl_lt {X Y : List UInt8} (hl : X.length = Y.length) (hne : X ≠ Y) : cpl X Y < X.length := by
  have h1 := cpl_le X Y
  have h2 := cpl_take X Y X.length (Nat.le_refl _) hl
  rcases Nat.lt_or_ge (cpl X Y) X.length with h | h
  · exact h
  · exact absurd (by have := h2.2 h; rw [List.take_length, hl, List.take_length] at this; exact this) hne
theorem hexS_inj {a b : List UInt8} (ha : a.length = 32) (hb : b.length = 32) (h : hexS a = hexS b) : a = b := by
  have h1 := parR_hex ha
  rw [h, parR_hex hb] at h1
  injection h1 with h1 _
  exact h1.symm
/-- one other id more -/
def shortStep (id : List UInt8) (n : Nat) (o : List UInt8) : Nat := if o = id then n else max n (cpl (hexS id) (hexS o) + 1)
def shortN (id : List UInt8) (os : List (List UInt8)) : Nat := os.foldl (shortStep id) 4
theorem shortStep_le {id o : List UInt8} {n : Nat} (hi : id.length = 32) (ho : o.length = 32) (hn : n ≤ 64) : n ≤ shortStep id n o ∧ shortStep id n o ≤ 64 := by
  unfold shortStep
  split
  · exact ⟨Nat.le_refl _, hn⟩
  · rename_i hne
    have h1 : (hexS id).length = 64 := by rw [hexS_length, hi]
    have h2 : (hexS o).length = 64 := by rw [hexS_length, ho]
    have := cpl_lt (X := hexS id) (Y := hexS o) (by omega) (fun e => hne (hexS_inj hi ho e).symm)
    omega
theorem short_le {id : List UInt8} (hi : id.length = 32) {os : List (List UInt8)} (ho : ∀ o ∈ os, o.length = 32) : ∀ k, 4 ≤ shortN id (os.take k) ∧ shortN id (os.take k) ≤ 64
  | 0 => by simp [shortN]
  | k + 1 => by
    have ih := short_le hi ho k
    rcases Nat.lt_or_ge k os.length with h | h
    · have hx : os[k]? = some os[k] := List.getElem?_eq_getElem h
      rw [List.take_add_one, hx]
      unfold shortN at ih ⊢
      rw [List.foldl_append]
      have := shortStep_le (n := (os.take k).foldl (shortStep id) 4) hi (ho os[k] (List.getElem_mem h)) ih.2
      simp
      omega
    · rw [List.take_of_length_le (by omega)] at ih ⊢; exact ih
theorem short_snoc (id : List UInt8) {os : List (List UInt8)} {k : Nat} {o : List UInt8} (h : os[k]? = some o) : shortN id (os.take (k + 1)) = shortStep id (shortN id (os.take k)) o := by
  unfold shortN
  rw [List.take_add_one, h, List.foldl_append]; rfl
end Go.Proofs.Ytknbbekinpamjaa
