/- sha.rounds: the constants. -/
import Derived.Test.YtknbbekinpamjaaShaPlain
import Derived.Laws.Tables
import Derived.Deep.WholeRow
import Derived.Deep.DeepCutAuto
import Derived.Deep.CutBlock
set_option linter.unusedVariables false
namespace Go.Proofs.Ytknbbekinpamjaa
open Go.RowKit

/-- the walk's step at a build whose cells are known -/
theorem wpList_build_to {P : Program} {ops : Array Oper} {rest : List Oper} {o : Oper} {a : Act} {w : World} {Q : Exit → Act → World → Prop} (hg : o.guard = none) (t : TypeId) (parts : Array (Nat × Operand)) (ho : o.op = .build t parts) (cells : Array Value)
    (hf : P.built t (parts.map fun (i, x) => (i, a.eval x)).toList = some cells)
    (h : wpList P ops Q rest (a.put o.dst (.agg cells)) w) : wpList P ops Q (o :: rest) a w :=
  wpList_build hg t parts ho (by rw [hf]; rfl) (by rw [hf]; exact h)

set_option maxRecDepth 100000 in
set_option maxHeartbeats 2000000 in
theorem rounds_any (w : World) : Calls Try.prog 27 #[] w fun e w' => e = .returned (.agg (wV shaK).toArray) ∧ Below w.heap.size w w' := by
  obtain ⟨KV, hKV⟩ : ∃ KV, KV = (wV shaK).toArray := ⟨_, rfl⟩
  have hsz : KV.size = 64 := by rw [hKV]; rfl
  have hone : KV.all (·.oneCell') = true := by rw [hKV]; kernel_rfl
  have hinfo : (Try.prog.info? 63).map (·.size) = some KV.size := by rw [hsz]; kernel_rfl
  have HS := Lib.hid hsz
  have HO := Lib.hid hone
  have HI := Lib.hid hinfo
  have HK := Lib.hid hKV
  clear hsz hone hinfo hKV
  go_enter Try.func27, Try.ntmps27
  go_upto_region 1 with fail
  go_wp2_with (first | (refine wpList_build_to rfl _ _ rfl KV (by rw [HK.out]; kernel_rfl) ?_) | (refine wpList_store_row rfl _ _ _ rfl w.heap.size KV rfl rfl 63 _ (heap_alloc_last w _) HI.out (by rw [HS.out]; rfl) HO.out ?_))
  rw [World.setRow_alloc_new]
  refine bodyPost_ret (v := .agg KV) (results_cell_row rfl _ _ w.heap.size 63 KV (0, 0) _ rfl (heap_alloc_last w _) Try.underlying63 rfl HI.out) rfl ⟨by rw [HK.out], (Below.refl _ _).alloc (Nat.le_refl _) _⟩
end Go.Proofs.Ytknbbekinpamjaa
