/- lines out of texts. -/
import Derived.Test.YtlddnghfjdjglaaDoorNamePlain
import Derived.Test.YtlddnghfjdjglaaDoorOpenRd
set_option linter.unusedVariables false
namespace Go.Proofs.YtlddnghfjdjglaaDoor
open Go.RowKit

theorem lines_of (ls : List ByteArray) : ls = (ls.map sB).map strL := by
  rw [List.map_map]
  have : strL ∘ sB = id := by funext s; exact mk_sB s
  rw [this, List.map_id]
theorem bulk_mem : ∀ {ls : List ByteArray} {s : ByteArray}, s ∈ ls → s.size ≤ bulkL (fun s : ByteArray => s.size + 1) ls
  | x :: r, s, h => by
    rcases List.mem_cons.1 h with rfl | h
    · simp only [bulkL]; omega
    · have := bulk_mem h; simp only [bulkL]; omega
end Go.Proofs.YtlddnghfjdjglaaDoor
