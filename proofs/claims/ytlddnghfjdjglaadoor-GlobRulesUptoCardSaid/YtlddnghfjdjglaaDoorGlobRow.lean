/- rows of bools. -/
import Derived.Test.YtlddnghfjdjglaaDoorBlk
import Derived.Test.YtlddnghfjdjglaaDoorGlobMat
import Derived.Deep.OwnRows
set_option linter.unusedVariables false
set_option linter.unusedSimpArgs false
namespace Go.Proofs.YtlddnghfjdjglaaDoor
open Go.RowKit

def rowB (M : Nat) (f : Nat → Bool) : Array Value := ((List.range (M + 1)).map fun k => Value.bool (f k)).toArray
theorem rowB_get {M : Nat} (f : Nat → Bool) {k : Nat} (h : k ≤ M) : (rowB M f)[k]? = some (.bool (f k)) := by
  unfold rowB
  rw [List.getElem?_toArray, List.getElem?_map, List.getElem?_range (by omega)]; rfl
theorem rowB_congr {M : Nat} {f g : Nat → Bool} (h : ∀ k, k ≤ M → f k = g k) : rowB M f = rowB M g := by
  unfold rowB
  congr 1
  exact List.map_congr_left fun k hk => by rw [h k (by have := List.mem_range.1 hk; omega)]
theorem rowB_set {M : Nat} (f : Nat → Bool) (k : Nat) (v : Bool) : (rowB M f).setIfInBounds k (.bool v) = rowB M (fun c => if c = k then v else f c) := by
  unfold rowB
  apply Array.ext_getElem?
  intro i
  rw [Array.getElem?_setIfInBounds]
  simp only [List.getElem?_toArray, List.getElem?_map, List.size_toArray, List.length_map, List.length_range]
  by_cases hi : i < M + 1
  · rw [List.getElem?_range hi]
    by_cases hk : k = i
    · subst hk; simp [hi]
    · rw [if_neg hk]; simp [Ne.symm hk]
  · rw [List.getElem?_eq_none (by simpa using hi)]
    by_cases hk : k = i
    · subst hk; simp [hi]
    · rw [if_neg hk]; rfl
theorem rowB_zero (M : Nat) : madeCells #[.bool false] (M + 1) = rowB M (fun _ => false) := by
  unfold rowB madeCells
  apply Array.ext_getElem?
  intro i
  by_cases hi : i < M + 1
  · simp [hi, Nat.mod_one]
  · simp [hi]
theorem mkRow (M : Nat) (hM : M ≤ 4294967280) (w : World) : (Instr.makeSlice 60 (.int .i64 ((M : Int) + 1)) (.int .i64 ((M : Int) + 1))).run Tryd.prog w = .ok (.slice (some ⟨w.heap.size, 0, none⟩) (M + 1) (M + 1)) (w.alloc (.cells (madeCells #[.bool false] (M + 1)) 4)) :=
  run_make_row' (P := Tryd.prog) 60 4 (.bool false) 1 Tryd.underlying60 (by kernel_rfl) rfl .i64 .i64 (M + 1) (by omega) (by omega) w

section
variable {α β : Type} (star : α → Bool) (takes : α → β → Bool)
/-- row i -/
def fR (l : List α) (s : List β) (i k : Nat) : Bool := mat star takes (l.take i) (s.take k)
/-- row i + 1, up to place k -/
def fP (l : List α) (s : List β) (i k c : Nat) : Bool := if c < k then fR star takes l s (i + 1) c else false
variable {star takes} {l : List α} {s : List β} {i k : Nat}
theorem fR_zero {c : Nat} (h : c ≤ s.length) : (if c = 0 then true else false) = fR star takes l s 0 c := by
  unfold fR
  rw [List.take_zero, mat_nil]
  cases c with
  | zero => simp
  | succ c =>
    cases s with
    | nil => simp at h
    | cons x t => simp
theorem fP_zero : fP star takes l s i 0 = fun _ => false := by funext c; simp [fP]
theorem fP_step : (fun c => if c = k then fR star takes l s (i + 1) k else fP star takes l s i k c) = fP star takes l s i (k + 1) := by
  funext c
  unfold fP
  by_cases h : c = k
  · subst h; simp
  · rw [if_neg h]
    by_cases h1 : c < k
    · rw [if_pos h1, if_pos (by omega)]
    · rw [if_neg h1, if_neg (by omega)]
theorem fP_end {c : Nat} {M : Nat} (h : c ≤ M) : fP star takes l s i (M + 1) c = fR star takes l s (i + 1) c := by unfold fP; rw [if_pos (by omega)]
theorem fP_prev (h : 0 < k) : fP star takes l s i k (k - 1) = fR star takes l s (i + 1) (k - 1) := by unfold fP; rw [if_pos (by omega)]
theorem fR_star {a : α} (hi : l[i]? = some a) (hs : star a = true) (hk : k ≤ s.length) : fR star takes l s (i + 1) k = (fR star takes l s i k || (decide (0 < k) && fR star takes l s (i + 1) (k - 1))) := by
  unfold fR; rw [mat_row hi hk, if_pos hs]
theorem fR_sign {a : α} (hi : l[i]? = some a) (hs : star a = false) (hk : k ≤ s.length) : fR star takes l s (i + 1) k = (decide (0 < k) && fR star takes l s i (k - 1) && (match s[k - 1]? with | some y => takes a y | none => false)) := by
  unfold fR; rw [mat_row hi hk, if_neg (by simp [hs])]; cases s[k - 1]? <;> rfl
theorem fR_end (hi : l.length ≤ i) : fR star takes l s i s.length = mat star takes l s := by
  unfold fR; rw [List.take_of_length_le hi, List.take_length]
end
end Go.Proofs.YtlddnghfjdjglaaDoor
