/- Ids (arrays of 32 bytes): loaded whole, compared. -/
import Derived.Test.YtknbbekinpamjaaShaParseWalk
import Derived.Stop.BytesEq
set_option linter.unusedVariables false
namespace Go.Proofs.Ytknbbekinpamjaa
open Go.RowKit

/-- the load of an id behind a name ('attribute [local go_sem ↓] ldId_eq') -/
noncomputable def ldId (w : World) (g : Nat) : Result Value := (loadVar 25 ⟨g, 0, none⟩).run Try.prog w
theorem ldId_eq (w : World) (g : Nat) : (loadVar 25 ⟨g, 0, none⟩).run Try.prog w = ldId w g := rfl
theorem ldId_of {w : World} {g : Nat} {t : TypeId} {l : List UInt8} (h : Blk w g t (bytesV l).toArray) (hl : l.length = 32) : ldId w g = .ok (.agg (bytesV l).toArray) w :=
  run_loadVar_row (P := Try.prog) w g t 25 _ (0, 0) _ h Try.underlying25 rfl (id_size hl)
theorem bytesV_cell (l : List UInt8) : (bytesV l).toArray = (l.map Extern.Stop.cell).toArray := rfl
/-- two ids compared, behind a name ('attribute [local go_sem ↓] eqlId_eq neqId_eq') -/
noncomputable def eqlId (w : World) (x y : Array Value) : Result Value := (binOp .eql 25 (.agg x) (.agg y)).run Try.prog w
noncomputable def neqId (w : World) (x y : Array Value) : Result Value := (binOp .neq 25 (.agg x) (.agg y)).run Try.prog w
theorem eqlId_eq (w : World) (x y : Array Value) : (binOp .eql 25 (.agg x) (.agg y)).run Try.prog w = eqlId w x y := rfl
theorem neqId_eq (w : World) (x y : Array Value) : (binOp .neq 25 (.agg x) (.agg y)).run Try.prog w = neqId w x y := rfl
theorem u8_sizeOf (w : World) : (sizeOf 5).run Try.prog w = .ok 1 w := by
  have h : (Try.prog.info? 5).map (·.size) = some 1 := by kernel_rfl
  cases hq : Try.prog.info? 5 with
  | none => simp [hq] at h
  | some i =>
    have h1 : i.size = 1 := by simpa [hq] using h
    simp [sizeOf, typeInfo, hq, h1]
theorem eqlId_of {x y : List UInt8} (hx : x.length = 32) (hy : y.length = 32) (w : World) : eqlId w (bytesV x).toArray (bytesV y).toArray = .ok (.bool (x == y)) w :=
  run_eql_bytes (P := Try.prog) w 25 5 32 Try.underlying25 Try.underlying5 u8_sizeOf x y hx hy
theorem neqId_of {x y : List UInt8} (hx : x.length = 32) (hy : y.length = 32) (w : World) : neqId w (bytesV x).toArray (bytesV y).toArray = .ok (.bool (!(x == y))) w := by
  unfold neqId
  rw [run_neq_struct, bytesV_cell, bytesV_cell, run_equalIn_bytes w 9998 25 5 32 Try.underlying25 Try.underlying5 u8_sizeOf x y hx hy]
  rfl
end Go.Proofs.Ytknbbekinpamjaa
