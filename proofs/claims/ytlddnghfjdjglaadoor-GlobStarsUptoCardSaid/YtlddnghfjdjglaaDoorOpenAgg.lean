/- How a struct or an array by value is opened: as the reading that its type has. -/
import Derived.Test.YtlddnghfjdjglaaDoorOpenRd
set_option linter.unusedVariables false
namespace Go.Proofs.YtlddnghfjdjglaaDoor
open Go.ChangeShapes Go.WideShapes Go.ChangeAt Go.RowKit Go.Deep

/-- A struct or an array by value. -/
def isAgg : Option TypeDesc → Bool
  | some (.struct _) | some (.array _ _) => true
  | _ => false
theorem okWide_agg {P : Program} {w : World} {rc : Reach} {base : Nat} {t : TypeId} {v : Value} {d : TypeDesc} (ht : P.underlying t = some d) (hd : isAgg (some d) = true) (h : Value.okWide P w rc base t v) : ∃ cs, v = .agg cs := by
  simp only [Value.okWide, ht] at h
  cases d <;> first | (obtain ⟨cs, h1, _⟩ := h; exact ⟨cs, h1⟩) | cases hd
theorem open_agg_rd {H : Type} {enc : TypeId × Value → H} {P : Program} {W : World} {spare : Nat → Bool} {held : Bool} {rc : Reach} {base : Nat} {t : TypeId} {v : Value} {dt : DataW H} {p : List MemPlace} {α : Type} {r : Rd α} {b : α → Nat} {d : TypeDesc}
    (ht : P.underlying t = some d) (hd : isAgg (some d) = true) (hv : Value.okWide P W rc base t v) (ho : Opens P t r b) (h : DataW.Trod enc P W 0 spare held t v dt p) :
    ∃ (cs : List Value) (x : α), v = .agg cs.toArray ∧ r.R W no cs x ∧ b x ≤ Rows.uptoBulk dt := by
  obtain ⟨cs, rfl⟩ := okWide_agg ht hd hv
  obtain ⟨x, h1, h2⟩ := open_rd ho h
  exact ⟨cs.toList, x, by simp, h1, h2⟩
end Go.Proofs.YtlddnghfjdjglaaDoor
