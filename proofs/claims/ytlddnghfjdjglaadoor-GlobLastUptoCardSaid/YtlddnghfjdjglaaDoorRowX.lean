/- Own rows whose elements stay away from some blocks x beside the row's own. -/
import Derived.Test.YtlddnghfjdjglaaDoorRowB
import Derived.Test.YtlddnghfjdjglaaDoorBlk
set_option linter.unusedVariables false
namespace Go.Proofs.YtlddnghfjdjglaaDoor
open Go.RowKit

def avX (x : Av) (v : Value) : Av := fun b => x b ∨ own v b
structure RowX {α : Type} (r : Rd α) (e : TypeId) (w : World) (base : Nat) (x : Av) (A : Option Addr) (m c : Nat) (l : List α) : Prop where
  row : ∃ xs, w.ownsRow base e r.k (.slice A m c) m xs ∧ Each (r.R w (avX x (.slice A m c))) xs l
  len : m = l.length

/-- what was read ahead of a block's making stays away from it -/
theorem rd_new {α : Type} {r : Rd α} {w : World} {av : Av} {cs : List Value} {y : α} (h : r.R w av cs y) (o : Obj) : r.R (w.alloc o) (fun b => av b ∨ b = w.heap.size) cs y := by
  have hb : Below w.heap.size w (w.alloc o) := (Below.refl _ _).alloc (Nat.le_refl _) _
  refine r.stable h ⟨hb.size, fun b hb' _ => hb.block b hb', fun b hb' hn h' => ?_⟩
  rcases h' with h' | h'
  · exact hn h'
  · omega
section
variable {α : Type} {r : Rd α} {e : TypeId} {w w' : World} {base m c : Nat} {x : Av} {A : Option Addr} {l : List α}
theorem RowX.nil (r : Rd α) (e : TypeId) (w : World) (base : Nat) (x : Av) : RowX r e w base x none 0 0 [] := ⟨⟨[], World.ownsRow_nil _ _ _ _, .nil⟩, rfl⟩
theorem RowX.below (h : RowX r e w base x A m c l) (hb : Below w.heap.size w w') : RowX r e w' base x A m c l := by
  obtain ⟨xs, h1, h2⟩ := h.row
  exact ⟨⟨xs, own_below h1 hb, h2.mono fun _ _ k => r.stable k (Moves.of_below hb)⟩, h.len⟩
theorem RowX.lt (h : RowX r e w base x A m c l) {b : Nat} (hb : own (.slice A m c) b) : base ≤ b ∧ b < w.heap.size := by
  obtain ⟨xs, h1, h2⟩ := h.row
  exact h1.lt b hb
theorem RowX.cap (h : RowX r e w base x A m c l) : m ≤ c ∧ c ≤ maxLen := by
  obtain ⟨xs, h1, h2⟩ := h.row
  exact own_cap h1
theorem RowX.sl (h : RowX r e w base x A m c l) (hn : ∀ b, own (.slice A m c) b → ¬ x b) : SlOf r w x A l := by
  obtain ⟨xs, h1, h2⟩ := h.row
  refine ⟨xs, by rw [← h.len]; exact Sl.ofOwn h1, h2.mono fun _ _ k => r.stable k (Moves.less w (fun b _ h => .inl h)), fun h0 b off e => ?_⟩
  subst e
  obtain ⟨g, hg, _⟩ := own_at h1 (by rw [h.len]; exact h0)
  have hg := Option.some.inj hg
  injection hg with e1 e2
  subst e1 e2
  exact hn b rfl
theorem RowX.set (h : RowX r e w base x A m c l) {b0 : Nat} (hb : x b0) (hn : ¬ own (.slice A m c) b0) (i : Nat) (u : Value) : RowX r e (w.setCell ⟨b0, i, none⟩ u) base x A m c l := by
  obtain ⟨xs, h1, h2⟩ := h.row
  refine ⟨⟨xs, h1.kept (grown_set w b0 i u) ?_, h2.mono fun _ _ k => r.stable k ⟨(grown_set w b0 i u).size, fun b hb' hne => (grown_set w b0 i u).block b hb' (fun e => hne (.inl (by rw [Option.some.inj e]; exact hb))), fun _ _ h => h⟩⟩, h.len⟩
  cases hv : (Value.slice A m c).ownBlock with
  | none => exact .inl rfl
  | some k => right; intro e; exact hn (by have := Option.some.inj e; subst this; exact hv)
theorem RowX.push {P : Program} {t : TypeId} {z : Value} {byt : Nat} (E : ElemOf P t e z r.k byt) (h : RowX r e w base x A m c l) (hb : base ≤ w.heap.size) {av : Av} {cs : List Value} {y : α} (hx : r.R w av cs y)
    (hav : ∀ b, b < w.heap.size → avX x (.slice A m c) b → av b) (hbytes : (m + 1) * byt ≤ 140737488355328) (hm : m + 1 ≤ maxLen) (ty : TypeId) (c0 : Nat) :
    ∃ A' c' w', (Builtin.append_ #[t, t] ty #[.slice A m c, .slice (some ⟨w.heap.size, 0, none⟩) 1 c0]).run P (w.alloc (.cells cs.toArray e)) = .ok (.slice A' (m + 1) c') w' ∧ RowX r e w' base x A' (m + 1) c' (l ++ [y]) ∧
      Below base w w' ∧ w.grownBy w' (Value.slice A m c).ownBlock ∧ m + 1 ≤ c' ∧ c' ≤ maxLen ∧ (∀ b, b < w.heap.size → own (.slice A' (m + 1) c') b → own (.slice A m c) b) := by
  obtain ⟨xs, h1, h2⟩ := h.row
  have hba : Below w.heap.size w (w.alloc (.cells cs.toArray e)) := (Below.refl _ _).alloc (Nat.le_refl _) _
  obtain ⟨A', c', w', run, ap, hc, hcm⟩ := append_sl E (own_below h1 hba) (Sl.fresh w cs.toArray e (0, 0) 1 r.k (by simpa using r.len hx)) (fun u hu => r.one hx u (by simpa using hu)) hbytes hm (by simp; omega) ty c0
  have m1 : Moves w (w.alloc (.cells cs.toArray e)) (avX x (.slice A m c)) (avX x (.slice A m c)) := Moves.of_below hba
  have k2 : Moves (w.alloc (.cells cs.toArray e)) w' (own (.slice A m c)) (own (.slice A' (m + 1) c')) := Moves.of_app ap
  have m2 : Moves (w.alloc (.cells cs.toArray e)) w' (avX x (.slice A m c)) (avX x (.slice A' (m + 1) c')) :=
    ⟨k2.size, fun b hb hn => k2.block b hb (fun h => hn (.inr h)), fun b hb hn h' => h'.elim (fun h => hn (.inl h)) (fun h => k2.ne b hb (fun q => hn (.inr q)) h)⟩
  have hxx : r.R w' (avX x (.slice A' (m + 1) c')) cs y := r.stable hx (((Moves.less w (av' := avX x (.slice A m c)) hav).trans m1).trans m2)
  refine ⟨A', c', w', run, ⟨⟨xs ++ cs, ?_, (h2.mono fun _ _ k => r.stable k (m1.trans m2)).snoc hxx⟩, by simp [h.len]⟩, (hba.mono hb).trans (ap.below), ?_, hc, hcm, fun b hb ho => ?_⟩
  · have := ap.own
    simpa using this
  · have g1 : w.grownBy (w.alloc (.cells cs.toArray e)) (Value.slice A m c).ownBlock := ⟨hba.os, hba.tape, hba.output, hba.size, fun k hk _ => hba.block k hk⟩
    exact g1.trans ap.grown
  · rcases Classical.em (own (.slice A m c) b) with h | h
    · exact h
    · exact absurd ho (k2.ne b (Nat.lt_of_lt_of_le hb hba.size) h)
end
/-- a row out of a block -/
theorem RowX.of_blk {α : Type} {r : Rd α} {e : TypeId} {w : World} {base g n : Nat} {x : Av} {K : Array Value} {l : List α} (h : Blk w g e K) (hb : base ≤ g) (hn : l.length = n) (hm : n ≤ maxLen) (hk : 0 < n) (he : Each (r.R w (fun b => x b ∨ b = g)) K.toList l) : RowX r e w base x (some ⟨g, 0, none⟩) n n l := by
  have hl : K.toList.length = n * r.k := by rw [← hn]; exact he.length fun _ _ => r.len
  refine ⟨⟨K.toList, ⟨hl, .inr ⟨g, n, K, rfl, hb, h, Nat.le_refl _, hm, by simpa using hl, by rw [List.take_of_length_le (by omega)]⟩⟩, he.mono fun _ _ k => r.stable k (Moves.less w (fun b _ h => ?_))⟩, hn.symm⟩
  rcases h with h | h
  · exact .inl h
  · right
    have h : some g = some b := h
    exact (Option.some.inj h).symm
end Go.Proofs.YtlddnghfjdjglaaDoor
