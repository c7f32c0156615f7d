/- names, plain. -/
import Derived.Test.YtlddnghfjdjglaaDoorBytesV
set_option linter.unusedVariables false
namespace Go.Proofs.YtlddnghfjdjglaaDoor
open Go.RowKit

def sB (s : ByteArray) : List UInt8 := s.data.toList
def badB (x : UInt8) : Bool := x < 32 || x == 127 || x == 47
def nameG (l : List UInt8) : Bool := l != [] && l != [46] && l != [46, 46] && decide (l.length ≤ 64) && l.all (fun x => !badB x)
def strL (l : List UInt8) : ByteArray := ⟨l.toArray⟩
theorem sB_mk (b : List UInt8) : sB ⟨b.toArray⟩ = b := by simp [sB]
theorem mk_sB (s : ByteArray) : (⟨(sB s).toArray⟩ : ByteArray) = s := by
  cases s
  simp [sB]
theorem sB_len (s : ByteArray) : (sB s).length = s.size := rfl
end Go.Proofs.YtlddnghfjdjglaaDoor
