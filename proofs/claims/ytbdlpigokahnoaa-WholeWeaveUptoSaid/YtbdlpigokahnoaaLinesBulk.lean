/- How much of the bulk lists of strings and hunks are. -/
import Derived.Test.YtbdlpigokahnoaaHunks
import Derived.Test.YtbdlpigokahnoaaOpenRd
set_option linter.unusedVariables false
namespace Go.Proofs.Ytbdlpigokahnoaa
open Go.RowKit

def strB (l : List ByteArray) : Nat := bulkL (fun s : ByteArray => s.size + 1) l + 1
theorem bulkL_length {α : Type} (b : α → Nat) (h : ∀ x, 1 ≤ b x) : ∀ l : List α, l.length ≤ bulkL b l
  | [] => Nat.zero_le _
  | x :: l => by have h1 := h x; have h2 := bulkL_length b h l; simp only [bulkL, List.length_cons]; omega
theorem strB_length (l : List ByteArray) : l.length ≤ strB l := by
  have := bulkL_length (fun s : ByteArray => s.size + 1) (fun s => by omega) l
  unfold strB; omega
def hkB (l : List Hk) : Nat := bulkL (fun x : Hk => 1 + (strB x.2.1 + strB x.2.2) + 1) l + 1
theorem hkB_length (l : List Hk) : l.length ≤ hkB l := by
  have := bulkL_length (fun x : Hk => 1 + (strB x.2.1 + strB x.2.2) + 1) (fun s => by omega) l
  unfold hkB; omega
theorem hkB_new (l : List Hk) : newSum l ≤ hkB l := by
  have : ∀ l : List Hk, newSum l ≤ bulkL (fun x : Hk => 1 + (strB x.2.1 + strB x.2.2) + 1) l := by
    intro l
    induction l with
    | nil => exact Nat.zero_le _
    | cons x l ih =>
      have := strB_length x.2.2
      simp only [newSum, List.map_cons, List.sum_cons, bulkL] at *
      omega
  have := this l
  unfold hkB; omega

end Go.Proofs.Ytbdlpigokahnoaa
