/- towlineref06.Atom in memory: a star, and a table of 256 bytes. -/
import Derived.Test.YtlddnghfjdjglaaDoorGlobRefLetter
import Derived.Test.YtlddnghfjdjglaaDoorBlk
import Derived.Test.YtlddnghfjdjglaaDoorRd
set_option linter.unusedVariables false
set_option linter.unusedSimpArgs false
namespace Go.Proofs.YtlddnghfjdjglaaDoor
open Go.RowKit

def tabN (s : Bool) (g : Nat → Bool) : List Bool := s :: (List.range 256).map g
theorem tabN_len (s : Bool) (g : Nat → Bool) : (tabN s g).length = 257 := by simp [tabN]
theorem tabN_congr {s : Bool} {g h : Nat → Bool} (e : ∀ c, c < 256 → g c = h c) : tabN s g = tabN s h := by
  unfold tabN
  congr 1
  exact List.map_congr_left fun c hc => e c (List.mem_range.1 hc)
theorem tabN_set (s : Bool) (g : Nat → Bool) (b : Nat) (v : Bool) : (tabN s g).set (1 + b) v = tabN s (fun c => if c = b then v else g c) := by
  unfold tabN
  rw [Nat.add_comm 1 b, List.set_cons_succ]
  congr 1
  apply List.ext_getElem?
  intro i
  rw [List.getElem?_set]
  simp only [List.length_map, List.length_range, List.getElem?_map, List.getElem?_range']
  by_cases h : i < 256
  · rw [List.getElem?_range h]
    by_cases hb : b = i
    · subst hb; simp [h]
    · rw [if_neg hb]; simp [Ne.symm hb]
  · rw [List.getElem?_eq_none (by simpa using h)]
    by_cases hb : b = i
    · subst hb; simp [h]
    · rw [if_neg hb]; rfl
theorem tabN_get (s : Bool) (g : Nat → Bool) {b : Nat} (h : b < 256) : (tabN s g)[1 + b]? = some (g b) := by
  unfold tabN
  rw [Nat.add_comm 1 b, List.getElem?_cons_succ, List.getElem?_map, List.getElem?_range h]; rfl
theorem tabN_star (s s' : Bool) (g : Nat → Bool) : (tabN s g).set 0 s' = tabN s' g := rfl
/-- the cells -/
def celN (s : Bool) (g : Nat → Bool) : Array Value := ((tabN s g).map Value.bool).toArray
theorem celN_size (s : Bool) (g : Nat → Bool) : (celN s g).size = 257 := by simp [celN, tabN_len]
theorem celN_congr {s : Bool} {g h : Nat → Bool} (e : ∀ c, c < 256 → g c = h c) : celN s g = celN s h := by unfold celN; rw [tabN_congr e]
theorem celN_set (s : Bool) (g : Nat → Bool) (b : Nat) (v : Bool) : (celN s g).setIfInBounds (1 + b) (.bool v) = celN s (fun c => if c = b then v else g c) := by
  unfold celN
  rw [← tabN_set]
  simp [List.map_set]
theorem celN_star (s s' : Bool) (g : Nat → Bool) : (celN s g).setIfInBounds 0 (.bool s') = celN s' g := by
  unfold celN
  rw [← tabN_star s s' g]
  simp [List.map_set]
theorem celN_get (s : Bool) (g : Nat → Bool) {b : Nat} (h : b < 256) : (celN s g)[1 + b]? = some (.bool (g b)) := by
  unfold celN
  simp [tabN_get s g h]
theorem celN_get0 (s : Bool) (g : Nat → Bool) : (celN s g)[0]? = some (.bool s) := by
  unfold celN tabN; simp
theorem celN_one (s : Bool) (g : Nat → Bool) : (celN s g).all (·.oneCell') = true := by
  unfold celN
  simp
  exact ⟨fun _ => rfl, fun _ => rfl⟩
def zTab : Array Value := celN false (fun _ => false)
theorem tab_info (s : Bool) (g : Nat → Bool) : (Tryd.prog.info? 80).map (·.size) = some (celN s g).size := by
  rw [celN_size]; kernel_rfl
theorem tab0_built : Tryd.prog.built 80 [] = some zTab := by kernel_rfl
theorem tab0_zero : (Tryd.prog.info? 80).bind (·.zero) = some (.agg zTab) := by kernel_rfl
end Go.Proofs.YtlddnghfjdjglaaDoor
