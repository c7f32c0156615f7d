/- The loom while other blocks are made beside it. -/
import Derived.Test.YtbdlpigokahnoaaWeaveAdd
set_option linter.unusedVariables false
namespace Go.Proofs.Ytbdlpigokahnoaa
open Go.RowKit

theorem Lot.fence {w w' : World} {B0 G : Nat} {Z Z' : Av} {vP v1 v2 v3 : Value} {np m1 m2 m3 : Nat} {init : List Pt} {k : Int} {lb lo lt : List ByteArray} (h : Lot w B0 G Z vP v1 v2 v3 np m1 m2 m3 init k lb lo lt) (hb : Below w.heap.size w w') (hz : ∀ x, Z' x → w.heap.size ≤ x) : Lot w' B0 G Z' vP v1 v2 v3 np m1 m2 m3 init k lb lo lt := by
  obtain ⟨vs, hr, he⟩ := h.row
  have key : ∀ {e : TypeId} {sz : Nat} {v : Value} {m : Nat} {xs : List Value}, w.ownsRow B0 e sz v m xs → ∀ x, own v x → ¬ Z' x := fun {e sz v m xs} ho x hx hzx => by have := (own_in ho hx).2; have := hz x hzx; omega
  exact ⟨h.len, ⟨vs, own_below hr hb, he.mono fun _ _ hr => ptR.stable hr (.of_below hb)⟩, h.wf, own_below h.r1 hb, own_below h.r2 hb, own_below h.r3 hb, h.gP, h.g1, h.g2, h.g3, h.dP1, h.dP2, h.dP3, h.d12, h.d13, h.d23, key hr, key h.r1, key h.r2, key h.r3⟩
theorem LoomAt.fence {w w' : World} {B0 G : Nat} {Z Z' : Av} {b o t : List ByteArray} {ps : List Pt} (h : LoomAt w B0 G Z b o t ps) (hb : Below w.heap.size w w') (hz : ∀ x, Z' x → w.heap.size ≤ x) (hz2 : ∀ x, Z' x → x < w'.heap.size) : LoomAt w' B0 G Z' b o t ps := by
  obtain ⟨h1, h2, h3, h4, A1, n1, c1, A2, n2, c2, A3, n3, c3, P, np, cp, hblk, s1, s2, s3, hp⟩ := h
  have m : Moves w w' (fun x => B0 ≤ x) (fun x => B0 ≤ x) := Moves.of_below hb
  refine ⟨h1, Nat.le_trans h2 hb.size, fun hG => by have := hz G hG; have := hblk.lt; omega, hz2, A1, n1, c1, A2, n2, c2, A3, n3, c3, P, np, cp, hblk.below hb hblk.lt, s1.moves m, s2.moves m, s3.moves m, ?_⟩
  rcases hp with ⟨e1, e2, e3⟩ | ⟨v1, v2, v3, m1, m2, m3, init, k, lb, lo, lt, e, hL⟩
  · exact .inl ⟨e1, e2, e3⟩
  · exact .inr ⟨v1, v2, v3, m1, m2, m3, init, k, lb, lo, lt, e, hL.fence hb hz⟩

/-- the beginning: the loom's block just made, no part yet -/
theorem LoomAt.start {w : World} {A1 A2 A3 : Option Addr} {n1 c1 n2 c2 n3 c3 : Nat} {b o t : List ByteArray} (h1 : StrAt w (fun x => w.heap.size ≤ x) A1 n1 c1 b) (h2 : StrAt w (fun x => w.heap.size ≤ x) A2 n2 c2 o) (h3 : StrAt w (fun x => w.heap.size ≤ x) A3 n3 c3 t) :
    LoomAt (w.alloc (.cells #[.slice A1 n1 c1, .slice A2 n2 c2, .slice A3 n3 c3, .slice none 0 0] 64)) w.heap.size w.heap.size (fun _ => False) b o t [] := by
  have hb : Below w.heap.size w (w.alloc (.cells #[.slice A1 n1 c1, .slice A2 n2 c2, .slice A3 n3 c3, .slice none 0 0] 64)) := (Below.refl _ _).alloc (Nat.le_refl _) _
  have m : Moves w _ (fun x => w.heap.size ≤ x) (fun x => w.heap.size ≤ x) := Moves.of_below hb
  exact ⟨Nat.le_refl _, by simp, fun h => h, fun _ h => h.elim, A1, n1, c1, A2, n2, c2, A3, n3, c3, none, 0, 0, Blk.new w _ _, h1.moves m, h2.moves m, h3.moves m, .inl ⟨rfl, rfl, rfl⟩⟩

/-- a list that was there before reads the same whatever is made behind it -/
theorem StrAt.old {w w' : World} {A : Option Addr} {n c : Nat} {l : List ByteArray} (h : Sl w 1 A n (strV l)) (hc : n ≤ c) (hm : c ≤ maxLen) (hb : Below w.heap.size w w') {B : Nat} (hB : w.heap.size ≤ B) : StrAt w' (fun x => B ≤ x) A n c l := by
  have hl := h.strLen
  have h2 := h.below hb
  refine ⟨hl, hc, hm, strV l, by rw [hl]; exact h2, each_str_mk l, fun h0 b off e => ?_⟩
  obtain ⟨b', off', e', hb', _⟩ := h.2 (by omega)
  rw [e] at e'
  injection e' with e'
  injection e' with e1 _
  subst e1
  simp only; omega

/-- what the loom holds at the end -/
theorem LoomAt.parts {w : World} {B0 G : Nat} {Z : Av} {b o t : List ByteArray} {ps : List Pt} (h : LoomAt w B0 G Z b o t ps) : ∃ P n c, w.cell? ⟨G, 3, none⟩ = some (.slice P n c) ∧ OwnPts w B0 38 P n c ps := by
  obtain ⟨h1, h2, h3, h4, A1, n1, c1, A2, n2, c2, A3, n3, c3, P, np, cp, hblk, s1, s2, s3, hp⟩ := h
  exact ⟨P, np, cp, (hblk.cell 3).trans rfl, hp.pts⟩
/-- how much the loom's lists still hold -/
theorem LoomAt.lens {w : World} {B0 G : Nat} {Z : Av} {b o t : List ByteArray} {ps : List Pt} (h : LoomAt w B0 G Z b o t ps) : ∃ A1 c1 A2 c2 A3 c3, w.cell? ⟨G, 0, none⟩ = some (.slice A1 b.length c1) ∧ w.cell? ⟨G, 1, none⟩ = some (.slice A2 o.length c2) ∧ w.cell? ⟨G, 2, none⟩ = some (.slice A3 t.length c3) := by
  obtain ⟨h1, h2, h3, h4, A1, n1, c1, A2, n2, c2, A3, n3, c3, P, np, cp, hblk, s1, s2, s3, hp⟩ := h
  have l1 := s1.len
  have l2 := s2.len
  have l3 := s3.len
  subst l1 l2 l3
  exact ⟨A1, c1, A2, c2, A3, c3, (hblk.cell 0).trans rfl, (hblk.cell 1).trans rfl, (hblk.cell 2).trans rfl⟩
end Go.Proofs.Ytbdlpigokahnoaa
