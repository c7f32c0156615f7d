/- glob's patterns in memory. -/
import Derived.Test.YtlddnghfjdjglaaDoorGlobAtoms
import Derived.Test.YtlddnghfjdjglaaDoorGlobSplit
import Derived.Test.YtlddnghfjdjglaaDoorGlobCaught
set_option linter.unusedVariables false
set_option linter.unusedSimpArgs false
namespace Go.Proofs.YtlddnghfjdjglaaDoor
open Go.RowKit

/-- a piece: nil is any number of names -/
def pcR : Rd Pc where
  k := 1
  R := fun w av cs p => match p with
    | none => cs = [.slice none 0 0]
    | some az => az ≠ [] ∧ ∃ A c, cs = [.slice A az.length c] ∧ az.length ≤ c ∧ c ≤ maxLen ∧ SlOf atmR w av A az
  len := fun {w av cs p} h => by
    cases p with
    | none => have h : cs = _ := h; subst h; rfl
    | some az => obtain ⟨_, A, c, rfl, _⟩ := h; rfl
  one := fun {w av cs p} h u hu => by
    cases p with
    | none => have h : cs = _ := h; subst h; simp at hu; subst hu; rfl
    | some az => obtain ⟨_, A, c, rfl, _⟩ := h; simp at hu; subst hu; rfl
  stable := fun {w w' av av' cs p} h m => by
    cases p with
    | none => exact h
    | some az => obtain ⟨h0, A, c, e, h1, h2, h3⟩ := h; exact ⟨h0, A, c, e, h1, h2, h3.stable m⟩
theorem elemPc : ElemOf Tryd.prog 46 50 (.slice none 0 0) 1 24 := ⟨Tryd.underlying46, by kernel_rfl, rfl, by decide⟩
/-- a pointer to a pattern -/
def patR : Rd (List Pc) where
  k := 1
  R := fun w av cs ps => ∃ g P c, cs = [.pointer (some ⟨g, 0, none⟩)] ∧ Blk w g 48 #[.slice P ps.length c] ∧ ¬ av g ∧ ps.length ≤ c ∧ c ≤ maxLen ∧ SlOf pcR w av P ps
  len := fun h => by obtain ⟨g, P, c, rfl, _⟩ := h; rfl
  one := fun h u hu => by obtain ⟨g, P, c, rfl, _⟩ := h; simp at hu; subst hu; rfl
  stable := fun h m => by
    obtain ⟨g, P, c, e, h1, h2, h3, h4, h5⟩ := h
    exact ⟨g, P, c, e, (m.block g h1.lt h2).trans h1, m.ne g h1.lt h2, h3, h4, h5.stable m⟩
def ParsePost (w : World) (r : Rz (List Pc)) (e : Ending) (w' : World) : Prop :=
  Below w.heap.size w w' ∧ match r with
    | .ok ps => ∃ v, e = .returned (.tuple #[v, .int .i64 0]) ∧ patR.R w' (fun b => b < w.heap.size) [v] ps
    | .error z => e = .returned (.tuple #[.pointer none, .int .i64 z])

/-- the pieces behind some -/
theorem pieces_step {l : List UInt8} {r : List (List UInt8)} : piecesG (l :: r) = match pieceG l with | none => none | some p => (piecesG r).map (p :: ·) := rfl
/-- pieces put behind others -/
def conP (ps : List Pc) (o : Option (List Pc)) : Option (List Pc) := o.map (ps ++ ·)
theorem conP_nil (o : Option (List Pc)) : conP [] o = o := by cases o <;> rfl
theorem conP_end (ps : List Pc) : conP ps (piecesG []) = some ps := by simp [conP, piecesG]
theorem conP_step {ps : List Pc} {l : List UInt8} {r : List (List UInt8)} {p : Pc} (h : pieceG l = some p) : conP ps (piecesG (l :: r)) = conP (ps ++ [p]) (piecesG r) := by
  rw [pieces_step, h]
  cases piecesG r <;> simp [conP]
theorem conP_bad {ps : List Pc} {l : List UInt8} {r : List (List UInt8)} (h : pieceG l = none) : conP ps (piecesG (l :: r)) = none := by
  rw [pieces_step, h]; rfl
theorem piece_any : pieceG [42, 42] = some none := rfl
theorem piece_nil : pieceG [] = none := rfl
theorem piece_atoms {l : List UInt8} (h1 : l ≠ [42, 42]) (h2 : l ≠ []) : pieceG l = (atomsL [] l).map some := by unfold pieceG; rw [if_neg h1, if_neg h2]
end Go.Proofs.YtlddnghfjdjglaaDoor
