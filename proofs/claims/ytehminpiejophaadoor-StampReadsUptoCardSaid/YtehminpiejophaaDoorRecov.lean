/- Steps through a region of a deferred function that recovers. -/
import Derived.Test.YtehminpiejophaaDoorMem
import Derived.Defers
import Derived.Recover
import Derived.Laws.Tables
import Derived.Deep.WholeRow
set_option linter.unusedVariables false
namespace Go.Proofs.YtehminpiejophaaDoor
open Go.RowKit

/-- the region from an operation on (behind a structure, that nothing unfolds it) -/
structure WpR (P : Program) (ops : Array Oper) (Q : Exit → Act → List Frame → World → Prop) (l : List Nat) (a : Act) (cs : List Frame) (w : World) : Prop where
  out : wpOpsS P ops Q l a cs w

section
variable {P : Program} {ops : Array Oper} {Q : Exit → Act → List Frame → World → Prop} {rest : List Nat} {i : Nat} {o : Oper} {a : Act} {cs : List Frame} {w : World}
theorem WpR.val {v : Value} {a' : Act} {w' : World} (ho : ops[i]? = some o) (hg : o.guard = none) (hr : (execOp a.eval o).run P w = .ok (.value v) w') (ha : a.put o.dst v = a') (h : WpR P ops Q rest a' cs w') : WpR P ops Q (i :: rest) a cs w := by
  subst ha
  refine ⟨?_⟩
  simp only [wpOpsS, ho]
  rw [if_pos (by simp [Region.wanted, hg]), hr]
  exact h.out
theorem WpR.skip {a' : Act} {w' : World} (ho : ops[i]? = some o) (hg : o.guard = none) (hr : (execOp a.eval o).run P w = .ok .skip w') (ha : a.put o.dst undef = a') (h : WpR P ops Q rest a' cs w') : WpR P ops Q (i :: rest) a cs w := by
  subst ha
  refine ⟨?_⟩
  simp only [wpOpsS, ho]
  rw [if_pos (by simp [Region.wanted, hg]), hr]
  exact h.out
theorem WpR.recover {v : Value} {a' : Act} {cs' : List Frame} (ho : ops[i]? = some o) (hg : o.guard = none) (hr : (execOp a.eval o).run P w = .ok .recover w) (hd : recoverD cs = some (v, cs')) (ha : a.put o.dst v = a') (h : WpR P ops Q rest a' cs' w) : WpR P ops Q (i :: rest) a cs w := by
  subst ha
  refine ⟨?_⟩
  simp only [wpOpsS, ho]
  rw [if_pos (by simp [Region.wanted, hg]), hr]
  simp only [hd]
  exact h.out
theorem WpR.idle {a' : Act} (ho : ops[i]? = some o) (hg : o.guard = none) (hr : (execOp a.eval o).run P w = .ok .recover w) (hd : recoverD cs = none) (ha : a.put o.dst .nilIface = a') (h : WpR P ops Q rest a' cs w) : WpR P ops Q (i :: rest) a cs w := by
  subst ha
  refine ⟨?_⟩
  simp only [wpOpsS, ho]
  rw [if_pos (by simp [Region.wanted, hg]), hr]
  simp only [hd]
  exact h.out
theorem WpR.done (h : Q .normal a cs w) : WpR P ops Q [] a cs w := ⟨h⟩
end

theorem run_assert_hit {P : Program} {x s : TypeId} {fs : Array Field} (hs : P.underlying s = some (.struct fs)) (v : Value) (w : World) : (Instr.typeAssert (.iface s v) x s true).run P w = .ok (.tuple #[v, .bool true]) w := by
  simp [Instr.typeAssert, run_underlying hs]
theorem run_assert_nil {P : Program} {x s : TypeId} {fs : Array Field} {z : Value} (hs : P.underlying s = some (.struct fs)) (w : World) (hz : (zeroValue s).run P w = .ok z w) : (Instr.typeAssert .nilIface x s true).run P w = .ok (.tuple #[z, .bool false]) w := by
  simp [Instr.typeAssert, run_underlying hs, hz]
end Go.Proofs.YtehminpiejophaaDoor
