/- The known sum: of three letters. -/
import Derived.Test.YtknbbekinpamjaaShaShort0
set_option linter.unusedVariables false
namespace Go.Proofs.Ytknbbekinpamjaa
open Go.RowKit

def knownT : List UInt8 := [98, 97, 55, 56, 49, 54, 98, 102, 56, 102, 48, 49, 99, 102, 101, 97, 52, 49, 52, 49, 52, 48, 100, 101, 53, 100, 97, 101, 50, 50, 50, 51, 98, 48, 48, 51, 54, 49, 97, 51, 57, 54, 49, 55, 55, 97, 57, 99, 98, 52, 49, 48, 102, 102, 54, 49, 102, 50, 48, 48, 49, 53, 97, 100]
def knownL : List UInt8 := [186, 120, 22, 191, 143, 1, 207, 234, 65, 65, 64, 222, 93, 174, 34, 35, 176, 3, 97, 163, 150, 23, 122, 156, 180, 16, 255, 97, 242, 0, 21, 173]
set_option maxRecDepth 100000 in
theorem known_hex : hexS knownL = knownT := by decide +kernel
set_option maxRecDepth 100000 in
theorem known_par : parR knownT = (knownL, 0) := by decide +kernel
set_option maxRecDepth 100000 in
theorem known_block : bytesU (blockS shaH (padded [97, 98, 99])) = knownL := by decide +kernel
theorem known_sum : shaG [97, 98, 99] = knownL := by
  have hl : (padded [97, 98, 99]).length = 64 := by decide +kernel
  unfold shaG
  rw [blocksS_step (by omega), blocksS_short (by rw [List.length_drop]; omega), blockS_take, known_block]
end Go.Proofs.Ytknbbekinpamjaa
