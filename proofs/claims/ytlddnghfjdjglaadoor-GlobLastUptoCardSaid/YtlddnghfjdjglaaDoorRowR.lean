/- Own rows of anything that a reading reads: begun, kept, one element put behind. -/
import Derived.Test.YtlddnghfjdjglaaDoorRd
set_option linter.unusedVariables false
namespace Go.Proofs.YtlddnghfjdjglaaDoor
open Go.RowKit

/-- a row of the call's own, whose elements read as l -/
structure RowR {α : Type} (r : Rd α) (e : TypeId) (w : World) (base : Nat) (A : Option Addr) (m c : Nat) (l : List α) : Prop where
  row : ∃ xs, w.ownsRow base e r.k (.slice A m c) m xs ∧ Each (r.R w (own (.slice A m c))) xs l
  len : m = l.length

section
variable {α : Type} {r : Rd α} {e : TypeId} {w w' : World} {base m c : Nat} {A : Option Addr} {l : List α}

theorem RowR.nil (r : Rd α) (e : TypeId) (w : World) (base : Nat) : RowR r e w base none 0 0 [] := ⟨⟨[], World.ownsRow_nil _ _ _ _, .nil⟩, rfl⟩
theorem RowR.below (h : RowR r e w base A m c l) (hb : Below w.heap.size w w') : RowR r e w' base A m c l := by
  obtain ⟨xs, h1, h2⟩ := h.row
  exact ⟨⟨xs, own_below h1 hb, h2.mono fun _ _ k => r.stable k (Moves.of_below hb)⟩, h.len⟩
theorem RowR.cap (h : RowR r e w base A m c l) : m ≤ c ∧ c ≤ maxLen := by
  obtain ⟨xs, h1, h2⟩ := h.row
  exact own_cap h1
theorem RowR.lt (h : RowR r e w base A m c l) {b : Nat} (hb : own (.slice A m c) b) : base ≤ b ∧ b < w.heap.size := by
  obtain ⟨xs, h1, h2⟩ := h.row
  exact h1.lt b hb
theorem RowR.at (h : RowR r e w base A m c l) (hm : 0 < m) : ∃ g, A = some ⟨g, 0, none⟩ ∧ base ≤ g ∧ g < w.heap.size := by
  obtain ⟨xs, h1, h2⟩ := h.row
  exact own_at h1 hm
/-- what is written in blocks that the row's parts keep away from -/
theorem RowR.grown {row : Option Nat} (h : RowR r e w base A m c l) (hg : w.grownBy w' row) (hr : ∀ k, row = some k → own (.slice A m c) k → False) (he : ∀ x ∈ l, ∀ cs, r.R w (own (.slice A m c)) cs x → r.R w' (own (.slice A m c)) cs x) : RowR r e w' base A m c l := by
  obtain ⟨xs, h1, h2⟩ := h.row
  refine ⟨⟨xs, h1.kept hg ?_, ?_⟩, h.len⟩
  · cases hv : (Value.slice A m c).ownBlock with
    | none => exact .inl rfl
    | some k => right; intro e; exact hr k e.symm hv
  · clear h h1
    induction h2 with
    | nil => exact .nil
    | cons k1 k2 ih => exact .cons (he _ (by simp) _ k1) (ih fun x hx => he x (by simp [hx]))
/-- the row as a slice that reads as l, in new memory -/
theorem RowR.sl (h : RowR r e w base A m c l) : SlOf r w no A l := by
  obtain ⟨xs, h1, h2⟩ := h.row
  refine ⟨xs, by rw [← h.len]; exact Sl.ofOwn h1, h2.mono fun _ _ k => r.stable k (Moves.forget w _), fun _ _ _ _ q => q⟩
/-- the same, away from what was there ahead of base, where the parts are so too -/
theorem SlOf.away {av : Av} (h : SlOf r w av A l) (B : Nat) (hn : 0 < l.length → ∀ b off, A = some ⟨b, off, none⟩ → B ≤ b) (he : ∀ x cs, r.R w av cs x → r.R w (fun b => b < B) cs x) : SlOf r w (fun b => b < B) A l := by
  obtain ⟨vs, h1, h2, h3⟩ := h
  exact ⟨vs, h1, h2.mono fun _ _ k => he _ _ k, fun h0 b off e => by have := hn h0 b off e; omega⟩

/-- one more element, out of the one-element slice that '.., x)' makes -/
theorem RowR.push {P : Program} {t : TypeId} {z : Value} {byt : Nat} (E : ElemOf P t e z r.k byt) (h : RowR r e w base A m c l) (hb : base ≤ w.heap.size) {av : Av} {cs : List Value} {x : α} (hx : r.R w av cs x)
    (hav : ∀ b, b < w.heap.size → own (.slice A m c) b → av b) (hbytes : (m + 1) * byt ≤ 140737488355328) (hm : m + 1 ≤ maxLen) (ty : TypeId) (c0 : Nat) :
    ∃ A' c' w', (Builtin.append_ #[t, t] ty #[.slice A m c, .slice (some ⟨w.heap.size, 0, none⟩) 1 c0]).run P (w.alloc (.cells cs.toArray e)) = .ok (.slice A' (m + 1) c') w' ∧ RowR r e w' base A' (m + 1) c' (l ++ [x]) ∧
      Below base w w' ∧ w.grownBy w' (Value.slice A m c).ownBlock ∧ Moves w w' (own (.slice A m c)) (own (.slice A' (m + 1) c')) ∧ m + 1 ≤ c' ∧ c' ≤ maxLen := by
  obtain ⟨xs, h1, h2⟩ := h.row
  have hba : Below w.heap.size w (w.alloc (.cells cs.toArray e)) := (Below.refl _ _).alloc (Nat.le_refl _) _
  obtain ⟨A', c', w', run, ap, hc, hcm⟩ := append_sl E (own_below h1 hba) (Sl.fresh w cs.toArray e (0, 0) 1 r.k (by simpa using r.len hx)) (fun u hu => r.one hx u (by simpa using hu)) hbytes hm (by simp; omega) ty c0
  have m1 : Moves w (w.alloc (.cells cs.toArray e)) (own (.slice A m c)) (own (.slice A m c)) := Moves.of_below hba
  have m2 : Moves (w.alloc (.cells cs.toArray e)) w' (own (.slice A m c)) (own (.slice A' (m + 1) c')) := Moves.of_app ap
  have hxx : r.R w' (own (.slice A' (m + 1) c')) cs x := r.stable hx (((Moves.less w (av' := own (.slice A m c)) hav).trans m1).trans m2)
  refine ⟨A', c', w', run, ⟨⟨xs ++ cs, ?_, (h2.mono fun _ _ k => r.stable k (m1.trans m2)).snoc hxx⟩, by simp [h.len]⟩, (hba.mono hb).trans (ap.below), ?_, m1.trans m2, hc, hcm⟩
  · have := ap.own
    simpa using this
  · have g1 : w.grownBy (w.alloc (.cells cs.toArray e)) (Value.slice A m c).ownBlock := ⟨hba.os, hba.tape, hba.output, hba.size, fun k hk _ => hba.block k hk⟩
    exact g1.trans ap.grown
end
end Go.Proofs.YtlddnghfjdjglaaDoor
