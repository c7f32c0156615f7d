/- Structs and arrays loaded whole, at any place of a block. -/
import Derived.Test.YtlddnghfjdjglaaDoorRd
import Derived.Test.YtlddnghfjdjglaaDoorRegionLate
import Derived.Laws.CopyRow
set_option linter.unusedVariables false
namespace Go.Proofs.YtlddnghfjdjglaaDoor
open Go.RowKit

section
variable {P : Program}
/-- the cells at an address -/
def At (w : World) (a : Addr) (cs : Array Value) : Prop := ∀ j u, cs[j]? = some u → w.cell? ⟨a.block, a.off + j, none⟩ = some u
theorem run_loadVar_at (w : World) (g off : Nat) (ty : TypeId) (cs : Array Value) (d : TypeDesc) (hg : At w ⟨g, off, none⟩ cs)
    (hu : P.underlying ty = some d) (hd : (match d with | .struct _ | .array _ _ => true | _ => false) = true) (hi : (P.info? ty).map (·.size) = some cs.size) :
    (loadVar ty ⟨g, off, none⟩).run P w = .ok (.agg cs) w := by
  have hl : (loadCells ⟨g, off, none⟩ cs.toList.length).run P w = .ok cs.toList.toArray w :=
    run_loadCells_list (P := P) w ⟨g, off, none⟩ cs.toList (fun j v hv => by
      rw [addr_add]
      exact hg j v (by simpa using hv))
  cases hq : P.info? ty with
  | none => simp [hq] at hi
  | some i =>
    have hs : i.size = cs.size := by simpa [hq] using hi
    have hagg : (isAgg ty).run P w = .ok true w := by
      unfold isAgg
      rw [Sem.run_bind, run_underlying hu w]
      cases d <;> simp_all
    simp only [Array.length_toList, Array.toArray_toList] at hl
    simp [loadVar, Sem.run_bind, hagg, sizeOf, typeInfo, hq, hs, hl]
theorem exec_load_at {o : Oper} {a : Act} {w : World} (ty : TypeId) (x : Operand) (ho : o.op = .load ty x)
    (g off : Nat) (hx : a.eval x = .pointer (some ⟨g, off, none⟩)) (cs : Array Value) (d : TypeDesc) (hg : At w ⟨g, off, none⟩ cs)
    (hu : P.underlying ty = some d) (hd : (match d with | .struct _ | .array _ _ => true | _ => false) = true) (hi : (P.info? ty).map (·.size) = some cs.size) :
    (execOp a.eval o).run P w = .ok (.value (.agg cs)) w := by
  unfold execOp
  simp only [ho, hx, Instr.loadAt, Instr.sureAddr, Sem.run_bind, Sem.run_pure, Result.andThen_ok, run_loadVar_at w g off ty cs d hg hu hd hi]
theorem wpList_load_at {ops : Array Oper} {rest : List Oper} {o : Oper} {a : Act} {w : World} {Q : Exit → Act → World → Prop} (hgd : o.guard = none) (ty : TypeId) (x : Operand) (ho : o.op = .load ty x)
    (g off : Nat) (hx : a.eval x = .pointer (some ⟨g, off, none⟩)) (cs : Array Value) (d : TypeDesc) (hg : At w ⟨g, off, none⟩ cs)
    (hu : P.underlying ty = some d) (hd : (match d with | .struct _ | .array _ _ => true | _ => false) = true) (hi : (P.info? ty).map (·.size) = some cs.size)
    (h : wpList P ops Q rest (a.put o.dst (.agg cs)) w) : wpList P ops Q (o :: rest) a w :=
  wpList_plain hgd fun _ hK => by
    unfold Oper.wp
    rw [exec_load_at ty x ho g off hx cs d hg hu hd hi]
    exact hK _ _ h
theorem wpList_load_at_g {ops : Array Oper} {rest : List Oper} {o : Oper} {a : Act} {w : World} {Q : Exit → Act → World → Prop} {gd : Nat × Bool} (hgd : o.guard = some gd) (hw : (yielded ops a.tmps gd.1 == some gd.2) = true) (ty : TypeId) (x : Operand) (ho : o.op = .load ty x)
    (g off : Nat) (hx : a.eval x = .pointer (some ⟨g, off, none⟩)) (cs : Array Value) (d : TypeDesc) (hg : At w ⟨g, off, none⟩ cs)
    (hu : P.underlying ty = some d) (hd : (match d with | .struct _ | .array _ _ => true | _ => false) = true) (hi : (P.info? ty).map (·.size) = some cs.size)
    (h : wpList P ops Q rest (a.put o.dst (.agg cs)) w) : wpList P ops Q (o :: rest) a w :=
  wpList_step fun _ hK => by
    rw [if_pos (by simp [Region.wanted, hgd]; simpa using hw)]
    unfold Oper.wp
    rw [exec_load_at ty x ho g off hx cs d hg hu hd hi]
    exact hK _ _ h
/-- an append whose run is known, in a region that draws its order, behind a guard that says yes -/
theorem step_run_append_g {ops : Array Oper} {Q : Exit → Act → World → Prop} {o : Oper} {a : Act} {w w' : World} {K : Act → World → Prop} {E : Prop} {gd : Nat × Bool} (hgd : o.guard = some gd) (hw : (yielded ops a.tmps gd.1 == some gd.2) = true) (x y : Operand) {t t' : TypeId}
    (ho : o.op = .call { callee := .builtin .append, args := #[x, y], argTypes := #[t, t'] }) {v y' v' : Value} (hx : a.eval x = v) (hy : a.eval y = y')
    (hrun : (Builtin.append_ #[t, t'] o.type #[v, y']).run P w = .ok v' w') (h : K (a.put o.dst v') w') :
    if Region.wanted o (yielded ops a.tmps) = true then Oper.wp P o a w K Q else E := by
  have hw : Region.wanted o (yielded ops a.tmps) = true := by simp [Region.wanted, hgd]; simpa using hw
  rw [if_pos hw]
  unfold Oper.wp execOp
  simp only [ho, resolve, invoke, builtin, Sem.run_bind, Sem.run_pure, Result.andThen_ok, List.map_toArray, List.map_cons, List.map_nil, hx, hy, hrun]
  exact h
/-- An operation whose guard says no, taken first; a' is the frame behind it, written out. -/
theorem held_no {ops : Array Oper} {Q : Exit → Act → World → Prop} {md : Region.Mode} {S : World → Prop} {i : Nat} {oi : Oper} {a' : Act} {fuel : Nat} {listed : Array Bool} {a : Act} {w : World} (hi : ops[i]? = some oi)
    (hs : Region.noSelect ops = true) (hf : Region.free md ops listed i = true) (hr : (Region.ready md ops listed).contains i = true)
    (hQ : ∀ c a w, Q (.panic c) (a.put oi.dst undef) w → Q (.panic c) a w) (hw : Region.wanted oi (yielded ops a.tmps) = false) (hS : S w) (ha : a.put oi.dst undef = a')
    (h : wpAnyH P md ops Q S fuel (listed.setIfInBounds i true) a' w) : wpAnyH P md ops Q S (fuel + 1) listed a w := by
  subst ha
  exact held_skip hi hs hf hr hQ hw hS h
theorem At.of_row {w : World} {g : Nat} {t : TypeId} {cs : Array Value} (h : w.heap[g]? = some (.cells cs t (0, 0))) : At w ⟨g, 0, none⟩ cs := fun j u hu => by
  show w.cell? ⟨g, 0 + j, none⟩ = _
  rw [Nat.zero_add, cell_of_row w g j cs t (0, 0) h]; exact hu
theorem At.below {w w' : World} {B : Nat} {a : Addr} {cs : Array Value} (h : At w a cs) (hb : Below B w w') (hlt : a.block < B) : At w' a cs := fun j u hu => (hb.cell (p := ⟨a.block, a.off + j, none⟩) hlt).trans (h j u hu)
end
/-- an element of a slice, as the cells at its address -/
theorem SlOf.at {α : Type} {r : Rd α} {w : World} {av : Av} {A : Option Addr} {l : List α} {n i : Nat} (h : SlOf r w av A l) (hl : l.length = n) (hi : i < n) :
    ∃ b off cs x, A = some ⟨b, off, none⟩ ∧ b < w.heap.size ∧ l[i]? = some x ∧ r.R w av cs x ∧ At w ⟨b, off + i * r.k, none⟩ cs.toArray := by
  obtain ⟨b, off, cs, x, e, hb, hx, hr, hc, _⟩ := h.look hl hi
  exact ⟨b, off, cs, x, e, hb, hx, hr, fun j u hu => by
    show w.cell? ⟨b, off + i * r.k + j, none⟩ = _
    rw [Nat.add_assoc]
    exact hc j u (by simpa using hu)⟩
end Go.Proofs.YtlddnghfjdjglaaDoor
