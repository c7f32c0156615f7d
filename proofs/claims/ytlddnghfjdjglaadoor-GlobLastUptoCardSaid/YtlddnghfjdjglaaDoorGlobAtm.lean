/- glob's signs in memory; the row of signs that atoms makes. -/
import Derived.Test.YtlddnghfjdjglaaDoorGlobSet
import Derived.Test.YtlddnghfjdjglaaDoorRowX
set_option linter.unusedVariables false
set_option linter.unusedSimpArgs false
namespace Go.Proofs.YtlddnghfjdjglaaDoor
open Go.RowKit

def atmR : Rd Atm where
  k := 5
  R := fun w av cs a => ∃ F n c T d, cs = [.bool a.star, .bool a.one, .bool a.no, .slice F n c, .slice T n d] ∧ n = a.rs.length ∧ n ≤ c ∧ c ≤ maxLen ∧ n ≤ d ∧ d ≤ maxLen ∧ SlOf byteR w av F (a.rs.map (·.1)) ∧ SlOf byteR w av T (a.rs.map (·.2))
  len := fun h => by obtain ⟨F, n, c, T, d, rfl, _⟩ := h; rfl
  one := fun h u hu => by
    obtain ⟨F, n, c, T, d, rfl, _⟩ := h
    simp only [List.mem_cons, List.not_mem_nil, or_false] at hu
    rcases hu with rfl | rfl | rfl | rfl | rfl <;> rfl
  stable := fun h m => by obtain ⟨F, n, c, T, d, e, h1, h2, h3, h4, h5, h6, h7⟩ := h; exact ⟨F, n, c, T, d, e, h1, h2, h3, h4, h5, h6.stable m, h7.stable m⟩
theorem atm_flat (w : World) (av : Av) (s o z : Bool) : atmR.R w av [.bool s, .bool o, .bool z, .slice none 0 0, .slice none 0 0] ⟨s, o, z, []⟩ :=
  ⟨none, 0, 0, none, 0, rfl, rfl, Nat.le_refl _, Nat.zero_le _, Nat.le_refl _, Nat.zero_le _, SlOf.nil, SlOf.nil⟩
theorem elemAtm : ElemOf Tryd.prog 50 76 (.agg #[.bool false, .bool false, .bool false, .slice none 0 0, .slice none 0 0]) 5 56 := ⟨Tryd.underlying50, by kernel_rfl, rfl, by decide⟩

/-- what atoms knows -/
structure AtIn (W0 w : World) (g : Nat) (A : Option Addr) (n c : Nat) (az : List Atm) (l : List UInt8) : Prop where
  grown : W0.grownBy w (some g)
  old : g < W0.heap.size
  scan : Scn w g l
  row : RowX atmR 76 w W0.heap.size (fun b => b < W0.heap.size) A n c az
section
variable {W0 w w' : World} {g n c : Nat} {A : Option Addr} {az : List Atm} {l : List UInt8}
theorem AtIn.below (h : AtIn W0 w g A n c az l) (hb : Below w.heap.size w w') : AtIn W0 w' g A n c az l :=
  ⟨grown_trans h.grown (grown_below hb _), h.old, h.scan.below hb h.scan.lt, h.row.below hb⟩
theorem AtIn.scanned (h : AtIn W0 w g A n c az l) {l' : List UInt8} (hg : w.grownBy w' (some g)) (hs : Scn w' g l') : AtIn W0 w' g A n c az l' := by
  refine ⟨grown_trans h.grown hg, h.old, hs, ?_⟩
  obtain ⟨xs, h1, h2⟩ := h.row.row
  refine ⟨⟨xs, h1.kept hg ?_, h2.mono fun _ _ k => atmR.stable k ⟨hg.size, fun b hb hne => hg.block b hb (fun e => hne (.inl (by injection e with e; rw [e]; exact h.old))), fun _ _ h => h⟩⟩, h.row.len⟩
  cases hv : (Value.slice A n c).ownBlock with
  | none => exact .inl rfl
  | some k => right; intro e; injection e with e; have := (h.row.lt hv).1; have := h.old; omega
theorem AtIn.push (h : AtIn W0 w g A n c az l) {av : Av} {cs : List Value} {a : Atm} (hx : atmR.R w av cs a) (hav : ∀ b, b < w.heap.size → (b < W0.heap.size ∨ own (.slice A n c) b) → av b) (hn : n ≤ 1000000) (c0 : Nat) :
    ∃ A' c' w', (Builtin.append_ #[50, 50] 50 #[.slice A n c, .slice (some ⟨w.heap.size, 0, none⟩) 1 c0]).run Tryd.prog (w.alloc (.cells cs.toArray 76)) = .ok (.slice A' (n + 1) c') w' ∧ AtIn W0 w' g A' (n + 1) c' (az ++ [a]) l := by
  obtain ⟨A', c', w', run, hr, hb, hgr, hc, hcm, ho⟩ := h.row.push elemAtm h.grown.size hx hav (by omega) (by simp only [maxLen]; omega) 50 c0
  have hgo : ∀ k, (Value.slice A n c).ownBlock = some k → W0.heap.size ≤ k := fun k hk => (h.row.lt hk).1
  exact ⟨A', c', w', run, grown_own h.grown hgr hgo (Nat.le_refl _), h.old, h.scan.grown hgr (fun e => by have := hgo g e.symm; have := h.old; omega), hr⟩
end
theorem atomsL_nil (az : List Atm) : atomsL az [] = some az := by rw [atomsL, if_pos rfl]
theorem atomsL_bad {az : List Atm} {l : List UInt8} (h : l ≠ []) (ha : atomG l = none) : atomsL az l = none := by
  rw [atomsL, if_neg h]
  split
  · rfl
  · rename_i p r h1; rw [ha] at h1; cases h1
theorem atomsL_step {az : List Atm} {l r : List UInt8} {a : Atm} (h : l ≠ []) (ha : atomG l = some (a, r)) : atomsL az l = atomsL (az ++ [a]) r := by
  rw [atomsL, if_neg h]
  split
  · rename_i h1; rw [ha] at h1; cases h1
  · rename_i p r' h1; rw [ha] at h1; injection h1 with h1; injection h1 with h2 h3; subst h2 h3; rfl
end Go.Proofs.YtlddnghfjdjglaaDoor
