/- Own rows whose elements stay away from what was there ahead of base. -/
import Derived.Test.YtlddnghfjdjglaaDoorRowR
set_option linter.unusedVariables false
namespace Go.Proofs.YtlddnghfjdjglaaDoor
open Go.RowKit

def avB (base : Nat) (v : Value) : Av := fun b => b < base ∨ own v b
structure RowB {α : Type} (r : Rd α) (e : TypeId) (w : World) (base : Nat) (A : Option Addr) (m c : Nat) (l : List α) : Prop where
  row : ∃ xs, w.ownsRow base e r.k (.slice A m c) m xs ∧ Each (r.R w (avB base (.slice A m c))) xs l
  len : m = l.length

section
variable {α : Type} {r : Rd α} {e : TypeId} {w w' : World} {base m c : Nat} {A : Option Addr} {l : List α}
theorem RowB.nil (r : Rd α) (e : TypeId) (w : World) (base : Nat) : RowB r e w base none 0 0 [] := ⟨⟨[], World.ownsRow_nil _ _ _ _, .nil⟩, rfl⟩
theorem RowB.below (h : RowB r e w base A m c l) (hb : Below w.heap.size w w') : RowB r e w' base A m c l := by
  obtain ⟨xs, h1, h2⟩ := h.row
  exact ⟨⟨xs, own_below h1 hb, h2.mono fun _ _ k => r.stable k (Moves.of_below hb)⟩, h.len⟩
theorem RowB.lt (h : RowB r e w base A m c l) {b : Nat} (hb : own (.slice A m c) b) : base ≤ b ∧ b < w.heap.size := by
  obtain ⟨xs, h1, h2⟩ := h.row
  exact h1.lt b hb
theorem RowB.cap (h : RowB r e w base A m c l) : m ≤ c ∧ c ≤ maxLen := by
  obtain ⟨xs, h1, h2⟩ := h.row
  exact own_cap h1
theorem RowB.sl (h : RowB r e w base A m c l) : SlOf r w (fun b => b < base) A l := by
  obtain ⟨xs, h1, h2⟩ := h.row
  refine ⟨xs, by rw [← h.len]; exact Sl.ofOwn h1, h2.mono fun _ _ k => r.stable k (Moves.less w (fun b _ h => .inl h)), fun h0 b off e => ?_⟩
  subst e
  have := (h1.lt b rfl).1
  show ¬ b < base
  omega
theorem RowB.push {P : Program} {t : TypeId} {z : Value} {byt : Nat} (E : ElemOf P t e z r.k byt) (h : RowB r e w base A m c l) (hb : base ≤ w.heap.size) {av : Av} {cs : List Value} {x : α} (hx : r.R w av cs x)
    (hav : ∀ b, b < w.heap.size → avB base (.slice A m c) b → av b) (hbytes : (m + 1) * byt ≤ 140737488355328) (hm : m + 1 ≤ maxLen) (ty : TypeId) (c0 : Nat) :
    ∃ A' c' w', (Builtin.append_ #[t, t] ty #[.slice A m c, .slice (some ⟨w.heap.size, 0, none⟩) 1 c0]).run P (w.alloc (.cells cs.toArray e)) = .ok (.slice A' (m + 1) c') w' ∧ RowB r e w' base A' (m + 1) c' (l ++ [x]) ∧
      Below base w w' ∧ w.grownBy w' (Value.slice A m c).ownBlock ∧ m + 1 ≤ c' ∧ c' ≤ maxLen := by
  obtain ⟨xs, h1, h2⟩ := h.row
  have hba : Below w.heap.size w (w.alloc (.cells cs.toArray e)) := (Below.refl _ _).alloc (Nat.le_refl _) _
  obtain ⟨A', c', w', run, ap, hc, hcm⟩ := append_sl E (own_below h1 hba) (Sl.fresh w cs.toArray e (0, 0) 1 r.k (by simpa using r.len hx)) (fun u hu => r.one hx u (by simpa using hu)) hbytes hm (by simp; omega) ty c0
  have m1 : Moves w (w.alloc (.cells cs.toArray e)) (avB base (.slice A m c)) (avB base (.slice A m c)) := Moves.of_below hba
  have k2 : Moves (w.alloc (.cells cs.toArray e)) w' (own (.slice A m c)) (own (.slice A' (m + 1) c')) := Moves.of_app ap
  have m2 : Moves (w.alloc (.cells cs.toArray e)) w' (avB base (.slice A m c)) (avB base (.slice A' (m + 1) c')) :=
    ⟨k2.size, fun b hb hn => k2.block b hb (fun h => hn (.inr h)), fun b hb hn h' => h'.elim (fun h => hn (.inl h)) (fun h => k2.ne b hb (fun q => hn (.inr q)) h)⟩
  have hxx : r.R w' (avB base (.slice A' (m + 1) c')) cs x := r.stable hx (((Moves.less w (av' := avB base (.slice A m c)) hav).trans m1).trans m2)
  refine ⟨A', c', w', run, ⟨⟨xs ++ cs, ?_, (h2.mono fun _ _ k => r.stable k (m1.trans m2)).snoc hxx⟩, by simp [h.len]⟩, (hba.mono hb).trans (ap.below), ?_, hc, hcm⟩
  · have := ap.own
    simpa using this
  · have g1 : w.grownBy (w.alloc (.cells cs.toArray e)) (Value.slice A m c).ownBlock := ⟨hba.os, hba.tape, hba.output, hba.size, fun k hk _ => hba.block k hk⟩
    exact g1.trans ap.grown
end
end Go.Proofs.YtlddnghfjdjglaaDoor
