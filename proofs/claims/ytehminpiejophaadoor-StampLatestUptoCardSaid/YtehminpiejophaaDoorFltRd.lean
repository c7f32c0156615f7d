/- numbers with a point as elements of a list that comes in. -/
import Derived.Test.YtehminpiejophaaDoorOpenRd
set_option linter.unusedVariables false
namespace Go.Proofs.YtehminpiejophaaDoor
open Go.ChangeShapes Go.WideShapes Go.ChangeAt Go.RowKit Go.Deep

def fltR : Rd Nat where
  k := 1
  R := fun _ _ cs n => cs = [.float .f64 n] ∧ n < 2 ^ 64
  len := fun h => by obtain ⟨rfl, _⟩ := h; rfl
  one := fun h u hu => by obtain ⟨rfl, _⟩ := h; simp at hu; subst hu; rfl
  stable := fun h _ => h
section
variable {P : Program} {t : TypeId}
theorem opens_flt (ht : P.underlying t = some (.float .f64)) (hk : P.cellsOf t = 1) : Opens P t fltR (fun _ => 1) := by
  refine ⟨hk.symm, fun enc W spare held fuel cs y h => ?_⟩
  cases fuel with
  | zero => simp [DataW.trod] at h
  | succ n =>
    unfold DataW.trod at h
    rw [ht] at h
    split at h
    all_goals first
      | (cases h; done)
      | (simp_all; done)
      | skip
    rename_i k1 k2 b e
    injection e with e
    injection e with e
    subst e
    split at h
    · rename_i hc
      obtain ⟨rfl, hw⟩ := hc
      injection h with h
      subst h
      exact ⟨b, ⟨rfl, by simpa [Lit.wf] using hw⟩, bulk_one _⟩
    · cases h
end
theorem bulk_ones : ∀ l : List Nat, l.length ≤ bulkL (fun _ : Nat => 1) l
  | [] => Nat.zero_le _
  | _ :: r => by have := bulk_ones r; simp [bulkL] at this ⊢; omega
theorem flts_of {w : World} {av : Av} {vs : List Value} {l : List Nat} (h : Each (fltR.R w av) vs l) : vs = l.map (Value.float .f64) ∧ ∀ f ∈ l, f < 2 ^ 64 := by
  induction h with
  | nil => exact ⟨rfl, fun _ h => (nomatch h)⟩
  | cons h1 _ ih =>
    obtain ⟨rfl, h2⟩ := h1
    refine ⟨by rw [ih.1]; rfl, fun f hf => ?_⟩
    rcases List.mem_cons.1 hf with rfl | h
    · exact h2
    · exact ih.2 f h
end Go.Proofs.YtehminpiejophaaDoor
