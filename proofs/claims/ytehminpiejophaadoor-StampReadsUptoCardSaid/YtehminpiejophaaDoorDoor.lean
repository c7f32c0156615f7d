/- Panics out of a region, in a function that recovers. -/
import Derived.Test.YtehminpiejophaaDoorRegionLate
set_option linter.unusedVariables false
namespace Go.Proofs.YtehminpiejophaaDoor
open Go.RowKit

/-- the step of a slice of one, in a region that draws its order -/
theorem step_build {P : Program} {Q : Exit → Act → World → Prop} {o : Oper} {a : Act} {w w' : World} {K : Act → World → Prop} {E : Prop} (hgd : o.guard = none) (x : Operand) {t : TypeId}
    (ho : o.op = .buildSlice t 1 #[(0, x)]) {y v' : Value} (hx : a.eval x = y) (hrun : (Instr.buildSlice t 1 #[(0, y)]).run P w = .ok v' w') (h : K (a.put o.dst v') w') :
    ∀ {ops : Array Oper}, if Region.wanted o (yielded ops a.tmps) = true then Oper.wp P o a w K Q else E := by
  intro ops
  have hw : Region.wanted o (yielded ops a.tmps) = true := by simp [Region.wanted, hgd]
  rw [if_pos hw]
  unfold Oper.wp execOp
  simp only [ho, List.map_toArray, List.map_cons, List.map_nil, hx, Sem.run_bind, hrun, Result.andThen_ok, Sem.run_pure]
  exact h

/-! ### panics out of a region, in a function that recovers -/
/-- what a panic's way out must show: the results' slots, the deferred calls, and Pn -/
def Door (Pn : List PanicEntry → World → Prop) (p q : Tmp) (x y : Value) (ds : List Deferred) (Q : Exit → Act → World → Prop) : Exit → Act → World → Prop
  | .panic ch, a, w => a.tmps.getD p undef = x ∧ a.tmps.getD q undef = y ∧ a.defers = ds ∧ Pn ch w
  | e, a, w => Q e a w
theorem wp_door {P : Program} {c : Code} {Q : Exit → Act → World → Prop} {a : Act} {w : World} (Pn : List PanicEntry → World → Prop) (p q : Tmp) (x y : Value) (ds : List Deferred)
    (hq : ∀ ch a w, a.tmps.getD p undef = x → a.tmps.getD q undef = y → a.defers = ds → Pn ch w → Q (.panic ch) a w) (h : Code.wp P c (Door Pn p q x y ds Q) a w) : Code.wp P c Q a w := by
  refine Code.wp_mono (fun e a w he => ?_) h
  cases e with
  | panic ch => exact hq ch a w he.1 he.2.1 he.2.2.1 he.2.2.2
  | _ => exact he
theorem door_normal {Pn : List PanicEntry → World → Prop} {p q : Tmp} {x y : Value} {ds : List Deferred} {Q : Exit → Act → World → Prop} {a : Act} {w : World} (h : Q .normal a w) : Door Pn p q x y ds Q .normal a w := h
theorem door_put {Pn : List PanicEntry → World → Prop} {p q : Tmp} {x y : Value} {ds : List Deferred} {Q : Exit → Act → World → Prop} {dst : Option Tmp} {v : Value} {c : List PanicEntry} {a : Act} {w : World} (h1 : dst ≠ some p) (h2 : dst ≠ some q)
    (h : Door Pn p q x y ds Q (.panic c) (a.put dst v) w) : Door Pn p q x y ds Q (.panic c) a w := by
  cases dst with
  | none => exact h
  | some t =>
    obtain ⟨a1, a2, a3, a4⟩ := h
    have hne : ∀ r : Tmp, some t ≠ some r → (a.put (some t) v).tmps.getD r undef = a.tmps.getD r undef := fun r hr => by
      have hr : t ≠ r := fun e => hr (by rw [e])
      simp [Act.put, Array.getElem?_setIfInBounds_ne hr]
    exact ⟨(hne p h1).symm.trans a1, (hne q h2).symm.trans a2, a3, a4⟩
end Go.Proofs.YtehminpiejophaaDoor
