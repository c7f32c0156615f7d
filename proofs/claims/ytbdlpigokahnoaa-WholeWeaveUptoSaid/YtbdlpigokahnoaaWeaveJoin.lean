/- A part without a change joined to the last one. -/
import Derived.Test.YtbdlpigokahnoaaWeaveLot
set_option linter.unusedVariables false
namespace Go.Proofs.Ytbdlpigokahnoaa
open Go.RowKit

/-- the cells that add reads while it joins -/
def JoinS (gP off g8 : Nat) (v1 v2 v3 u1 u2 u3 : Value) (w : World) : Prop :=
  (w.cell? ⟨gP, off + 1, none⟩ = some v1 ∧ w.cell? ⟨gP, off + 2, none⟩ = some v2 ∧ w.cell? ⟨gP, off + 3, none⟩ = some v3) ∧ w.cell? ⟨g8, 1, none⟩ = some u1 ∧ w.cell? ⟨g8, 2, none⟩ = some u2 ∧ w.cell? ⟨g8, 3, none⟩ = some u3

theorem joinS_of {gP off g8 : Nat} {v1 v2 v3 u1 u2 u3 : Value} {w w' : World} (h : JoinS gP off g8 v1 v2 v3 u1 u2 u3 w) {row : Option Nat} (hg : w.grownBy w' row) (hP : gP < w.heap.size) (h8 : g8 < w.heap.size) (n1 : some gP ≠ row) (n2 : some g8 ≠ row) : JoinS gP off g8 v1 v2 v3 u1 u2 u3 w' := by
  obtain ⟨⟨a, b, c⟩, d, e, f⟩ := h
  have k := fun (o : Nat) => World.cell?_of_block (w := w) (w' := w') (a := ⟨gP, o, none⟩) (hg.block gP hP n1)
  have k8 := fun (o : Nat) => World.cell?_of_block (w := w) (w' := w') (a := ⟨g8, o, none⟩) (hg.block g8 h8 n2)
  exact ⟨⟨(k _).trans a, (k _).trans b, (k _).trans c⟩, (k8 _).trans d, (k8 _).trans e, (k8 _).trans f⟩

theorem set3 (vs : List Value) (a b c d b' c' d' : Value) {j : Nat} (hj : vs.length = j) : (((vs ++ [a, b, c, d]).set (j + 1) b').set (j + 2) c').set (j + 3) d' = vs ++ [a, b', c', d'] := by
  subst hj
  simp

set_option maxRecDepth 10000 in
set_option maxHeartbeats 1000000 in
theorem Lot.join {w0 w : World} {B0 G : Nat} {Z : Av} {vP v1 v2 v3 : Value} {np m1 m2 m3 : Nat} {init : List Pt} {lb lo lt : List ByteArray} (h : Lot w0 B0 G Z vP v1 v2 v3 np m1 m2 m3 init 0 lb lo lt) (hZG : ¬ Z G) (hZ : ∀ x, Z x → x < w0.heap.size) (hB : B0 ≤ w0.heap.size) (hBG : B0 ≤ G)
    {cs : Array Value} {g8 : Nat} {k : Int} {u1 u2 u3 : Value} {n1 n2 n3 : Nat} {x y z : List ByteArray} (hm : Mid w0 G cs g8 k u1 u2 u3 n1 n2 n3 x y z w) (c1 : m1 + n1 ≤ 1000000000) (c2 : m2 + n2 ≤ 1000000000) (c3 : m3 + n3 ≤ 1000000000) :
    ∃ (gP cP : Nat) (A1 A2 A3 B1 B2 B3 D1 D2 D3 : Option Addr) (a1 a2 a3 b1 b2 b3 d1 d2 d3 : Nat) (wA wB wC : World),
      vP = .slice (some ⟨gP, 0, none⟩) np cP ∧ v1 = .slice A1 m1 a1 ∧ v2 = .slice A2 m2 a2 ∧ v3 = .slice A3 m3 a3 ∧ u1 = .slice B1 n1 b1 ∧ u2 = .slice B2 n2 b2 ∧ u3 = .slice B3 n3 b3 ∧
      (w.cell? ⟨gP, init.length * 4, none⟩ = some (.int .i64 0)) ∧
      JoinS gP (init.length * 4) g8 v1 v2 v3 u1 u2 u3 w ∧ JoinS gP (init.length * 4) g8 v1 v2 v3 u1 u2 u3 wA ∧ JoinS gP (init.length * 4) g8 v1 v2 v3 u1 u2 u3 wB ∧ JoinS gP (init.length * 4) g8 v1 v2 v3 u1 u2 u3 wC ∧
      (∀ o, wC.frozen? ⟨gP, o, none⟩ = false) ∧
      (Builtin.append_ #[23, 23] 23 #[v1, u1]).run Try.prog w = .ok (.slice D1 (m1 + n1) d1) wA ∧
      (Builtin.append_ #[23, 23] 23 #[v2, u2]).run Try.prog wA = .ok (.slice D2 (m2 + n2) d2) wB ∧
      (Builtin.append_ #[23, 23] 23 #[v3, u3]).run Try.prog wB = .ok (.slice D3 (m3 + n3) d3) wC ∧
      PartsAt (((wC.setCell ⟨gP, init.length * 4 + 1, none⟩ (.slice D1 (m1 + n1) d1)).setCell ⟨gP, init.length * 4 + 2, none⟩ (.slice D2 (m2 + n2) d2)).setCell ⟨gP, init.length * 4 + 3, none⟩ (.slice D3 (m3 + n3) d3)) B0 G Z vP np (init ++ [(0, lb ++ x, lo ++ y, lt ++ z)]) ∧
      Blk (((wC.setCell ⟨gP, init.length * 4 + 1, none⟩ (.slice D1 (m1 + n1) d1)).setCell ⟨gP, init.length * 4 + 2, none⟩ (.slice D2 (m2 + n2) d2)).setCell ⟨gP, init.length * 4 + 3, none⟩ (.slice D3 (m3 + n3) d3)) G 64 cs ∧
      Below B0 w0 (((wC.setCell ⟨gP, init.length * 4 + 1, none⟩ (.slice D1 (m1 + n1) d1)).setCell ⟨gP, init.length * 4 + 2, none⟩ (.slice D2 (m2 + n2) d2)).setCell ⟨gP, init.length * 4 + 3, none⟩ (.slice D3 (m3 + n3) d3)) ∧
      (∀ g, Z g → (((wC.setCell ⟨gP, init.length * 4 + 1, none⟩ (.slice D1 (m1 + n1) d1)).setCell ⟨gP, init.length * 4 + 2, none⟩ (.slice D2 (m2 + n2) d2)).setCell ⟨gP, init.length * 4 + 3, none⟩ (.slice D3 (m3 + n3) d3)).heap[g]? = w0.heap[g]?) := by
  obtain ⟨vs, hrow, heach⟩ := h.row
  obtain ⟨AP, cP, rfl, hcP, hcP2⟩ := own_form hrow
  have hnp : 0 < np := by have := h.len; omega
  obtain ⟨gP, rfl, hgP1, hgP2⟩ := own_at hrow hnp
  obtain ⟨A1, a1, rfl, _⟩ := own_form h.r1
  obtain ⟨A2, a2, rfl, _⟩ := own_form h.r2
  obtain ⟨A3, a3, rfl, _⟩ := own_form h.r3
  obtain ⟨B1, b1, rfl, _⟩ := own_form hm.r1
  obtain ⟨B2, b2, rfl, _⟩ := own_form hm.r2
  obtain ⟨B3, b3, rfl, _⟩ := own_form hm.r3
  have hvs : vs.length = init.length * 4 := heach.length fun _ _ => ptR.len
  have hw0 : w0.heap.size ≤ w.heap.size := hm.gr.size
  have own_gP : own (.slice (some ⟨gP, 0, none⟩) np cP) gP := rfl
  -- all at w
  have rowP := own_keep hm.gr hrow h.gP
  have q1 := own_keep hm.gr h.r1 h.g1
  have q2 := own_keep hm.gr h.r2 h.g2
  have q3 := own_keep hm.gr h.r3 h.g3
  have e1 := Dis.new h.r1 hm.r1 (Nat.le_refl _)
  have e12 := Dis.new h.r1 hm.r2 (Nat.le_refl _)
  have e13 := Dis.new h.r1 hm.r3 (Nat.le_refl _)
  have e23 := Dis.new h.r2 hm.r3 (Nat.le_refl _)
  have not8 : ∀ {v : Value} {m : Nat} {l : List ByteArray}, w0.ownsRow B0 9 1 v m (strV l) → ¬ own v g8 := fun {v m l} ho e => by have := (own_in ho e).2; have := hm.hp; omega
  -- the three appends
  obtain ⟨D1, d1, wA, run1, ap1, -, -⟩ := append_sl (P := Try.prog) elemStr q1 (Sl.ofOwn hm.r1) (strV_one _) (by omega) (by simp only [maxLen]; omega) (by omega) 23 b1
  have q2A := own_far ap1.grown q2 h.d12
  have u2A := own_far ap1.grown hm.r2 e12
  obtain ⟨D2, d2, wB, run2, ap2, -, -⟩ := append_sl (P := Try.prog) elemStr q2A (Sl.ofOwn u2A) (strV_one _) (by omega) (by simp only [maxLen]; omega) (by have := ap1.grown.size; omega) 23 b2
  have q3A := own_far ap1.grown q3 h.d13
  have u3A := own_far ap1.grown hm.r3 e13
  have q3B := own_far ap2.grown q3A h.d23
  have u3B := own_far ap2.grown u3A e23
  obtain ⟨D3, d3, wC, run3, ap3, -, -⟩ := append_sl (P := Try.prog) elemStr q3B (Sl.ofOwn u3B) (strV_one _) (by omega) (by simp only [maxLen]; omega) (by have := ap1.grown.size; have := ap2.grown.size; omega) 23 b3
  have sA := ap1.grown.size
  have sB := ap2.grown.size
  have sC := ap3.grown.size
  -- the new rows
  have n1A := ap1.own
  have D1d2 : Dis (.slice A2 m2 a2) (.slice D1 (m1 + n1) d1) := Dis.app h.d12.symm ap1 q2
  have D1d3 : Dis (.slice A3 m3 a3) (.slice D1 (m1 + n1) d1) := Dis.app h.d13.symm ap1 q3
  have D1P : Dis (.slice (some ⟨gP, 0, none⟩) np cP) (.slice D1 (m1 + n1) d1) := Dis.app h.dP1 ap1 rowP
  have D1G := ban_app h.g1 ap1 hm.blk.lt
  have n1B := own_far ap2.grown n1A D1d2
  have rowPA := own_far ap1.grown rowP h.dP1.symm
  have D12 : Dis (.slice D1 (m1 + n1) d1) (.slice D2 (m2 + n2) d2) := Dis.app D1d2.symm ap2 n1A
  have D2d3 : Dis (.slice A3 m3 a3) (.slice D2 (m2 + n2) d2) := Dis.app h.d23.symm ap2 q3A
  have D2P : Dis (.slice (some ⟨gP, 0, none⟩) np cP) (.slice D2 (m2 + n2) d2) := Dis.app h.dP2 ap2 rowPA
  have D2G := ban_app h.g2 ap2 (Nat.lt_of_lt_of_le hm.blk.lt sA)
  have rowPB := own_far ap2.grown rowPA h.dP2.symm
  have n1C := own_far ap3.grown n1B D1d3
  have n2B := ap2.own
  have n2C := own_far ap3.grown n2B D2d3
  have D13 : Dis (.slice D1 (m1 + n1) d1) (.slice D3 (m3 + n3) d3) := Dis.app D1d3.symm ap3 n1B
  have D23 : Dis (.slice D2 (m2 + n2) d2) (.slice D3 (m3 + n3) d3) := Dis.app D2d3.symm ap3 n2B
  have D3P : Dis (.slice (some ⟨gP, 0, none⟩) np cP) (.slice D3 (m3 + n3) d3) := Dis.app h.dP3 ap3 rowPB
  have D3G := ban_app h.g3 ap3 (by have := hm.blk.lt; omega)
  have rowPC := own_far ap3.grown rowPB h.dP3.symm
  have n3C := ap3.own
  -- cells
  have hcell : ∀ (o : Nat) (u : Value), (vs ++ [Value.int .i64 0, .slice A1 m1 a1, .slice A2 m2 a2, .slice A3 m3 a3])[o]? = some u → w.cell? ⟨gP, o, none⟩ = some u := fun o u hu => by
    obtain ⟨b, off, e, _, hc⟩ := (Sl.ofOwn rowP).2 hnp
    simp only [Option.some.injEq, Addr.mk.injEq] at e
    obtain ⟨e1, e2, _⟩ := e
    subst e1 e2
    have := hc o u hu
    rwa [Nat.zero_add] at this
  have hget : ∀ j, (vs ++ [Value.int .i64 0, .slice A1 m1 a1, .slice A2 m2 a2, .slice A3 m3 a3])[init.length * 4 + j]? = [Value.int .i64 0, .slice A1 m1 a1, .slice A2 m2 a2, .slice A3 m3 a3][j]? := fun j => by
    rw [List.getElem?_append_right (by omega), hvs]
    congr 1; omega
  have hS : JoinS gP (init.length * 4) g8 (.slice A1 m1 a1) (.slice A2 m2 a2) (.slice A3 m3 a3) (.slice B1 n1 b1) (.slice B2 n2 b2) (.slice B3 n3 b3) w := by
    refine ⟨⟨hcell _ _ ((hget 1).trans rfl), hcell _ _ ((hget 2).trans rfl), hcell _ _ ((hget 3).trans rfl)⟩, ?_, ?_, ?_⟩
    · exact (hm.p.cell 1).trans rfl
    · exact (hm.p.cell 2).trans rfl
    · exact (hm.p.cell 3).trans rfl
  have hgPw : gP < w.heap.size := by omega
  have h8w := hm.p.lt
  have hSA := joinS_of hS ap1.grown hgPw h8w (fun e => h.dP1 gP own_gP e.symm) (fun e => not8 h.r1 e.symm)
  have hSB := joinS_of hSA ap2.grown (by omega) (by omega) (fun e => h.dP2 gP own_gP e.symm) (fun e => not8 h.r2 e.symm)
  have hSC := joinS_of hSB ap3.grown (by omega) (by omega) (fun e => h.dP3 gP own_gP e.symm) (fun e => not8 h.r3 e.symm)
  -- the stores
  have gs : wC.grownBy (((wC.setCell ⟨gP, init.length * 4 + 1, none⟩ (.slice D1 (m1 + n1) d1)).setCell ⟨gP, init.length * 4 + 2, none⟩ (.slice D2 (m2 + n2) d2)).setCell ⟨gP, init.length * 4 + 3, none⟩ (.slice D3 (m3 + n3) d3)) (some gP) := grown_set (grown_set (grown_set (World.grownBy.refl _ _) _ _) _ _) _ _
  have hlen := h.len
  have rowE := own_set (own_set (own_set rowPC (k := init.length * 4 + 1) (by omega) (.slice D1 (m1 + n1) d1)) (k := init.length * 4 + 2) (by omega) (.slice D2 (m2 + n2) d2)) (k := init.length * 4 + 3) (by omega) (.slice D3 (m3 + n3) d3)
  rw [set3 vs _ _ _ _ _ _ _ hvs] at rowE
  have f1 := own_keep gs n1C (fun e => D1P gP own_gP e)
  have f2 := own_keep gs n2C (fun e => D2P gP own_gP e)
  have f3 := own_keep gs n3C (fun e => D3P gP own_gP e)
  have blkC : Blk wC G 64 cs := ((hm.blk.grown ap1.grown (fun e => h.g1 e.symm)).grown ap2.grown (fun e => h.g2 e.symm)).grown ap3.grown (fun e => h.g3 e.symm)
  have gPG : gP ≠ G := fun e => h.gP (by subst e; rfl)
  have zz : ∀ {wx wy : World} {v v' : Value} {m : Nat} {xs : List Value}, Appended wx wy B0 9 1 v v' m xs → w0.heap.size ≤ wx.heap.size → (∀ x, own v x → ¬ Z x) → ∀ x, own v' x → ¬ Z x := fun {wx wy v v' m xs} ha hsz hv x hx hz => by
    rcases ha.place with hp | hp
    · exact hv x (by unfold own at hx ⊢; rw [hp] at hx; exact hx) hz
    · unfold own at hx; rw [hp] at hx; injection hx with hx; have := hZ x hz; omega
  refine ⟨gP, cP, A1, A2, A3, B1, B2, B3, D1, D2, D3, a1, a2, a3, b1, b2, b3, d1, d2, d3, wA, wB, wC, rfl, rfl, rfl, rfl, rfl, rfl, rfl, hcell _ _ ((hget 0).trans rfl), hS, hSA, hSB, hSC, fun o => own_frozen rowPC o, run1, run2, run3, .inr ⟨_, _, _, m1 + n1, m2 + n2, m3 + n3, init, 0, _, _, _, rfl, ⟨h.len, ⟨vs, rowE, ?_⟩, by decide, ?_, ?_, ?_, h.gP, D1G, D2G, D3G, D1P, D2P, D3P, D12, D13, D23, h.zP, zz ap1 hw0 h.z1, zz ap2 (by omega) h.z2, zz ap3 (by omega) h.z3⟩⟩, blkC.grown gs (fun e => gPG (by injection e with e; exact e.symm)), ?_, ?_⟩
  · have place : ∀ {wx wy : World} {v v' : Value} {m : Nat} {xs : List Value}, Appended wx wy B0 9 1 v v' m xs → w0.heap.size ≤ wx.heap.size → ∀ b, b < w0.heap.size → ¬ own v b → ¬ own v' b := fun {wx wy v v' m xs} ha hsz b hb hne e => by
      rcases ha.place with hp | hp
      · unfold own at e hne; rw [hp] at e; exact hne e
      · unfold own at e; rw [hp] at e; injection e with e; omega
    refine heach.mono fun _ _ hr => ptR.stable hr ⟨by have := gs.size; omega, fun b hb hne => ?_, fun b hb hne hx => ?_⟩
    · have bG : some b ≠ some G := fun e => hne (.inl (by injection e))
      have bP : some b ≠ some gP := fun e => hne (.inr (.inl (by injection e with e; subst e; rfl)))
      rw [gs.block b (by omega) bP, ap3.grown.block b (by omega) (fun e => hne (.inr (.inr (.inr (.inr e.symm))))), ap2.grown.block b (by omega) (fun e => hne (.inr (.inr (.inr (.inl e.symm))))), ap1.grown.block b (by omega) (fun e => hne (.inr (.inr (.inl e.symm))))]
      exact hm.gr.block b hb bG
    · rcases hx with e | e | e | e | e
      · exact hne (.inl e)
      · exact hne (.inr (.inl e))
      · exact place ap1 hw0 b hb (fun e => hne (.inr (.inr (.inl e)))) e
      · exact place ap2 (by omega) b hb (fun e => hne (.inr (.inr (.inr (.inl e))))) e
      · exact place ap3 (by omega) b hb (fun e => hne (.inr (.inr (.inr (.inr e))))) e
  · rw [← strV_append] ; exact f1
  · rw [← strV_append] ; exact f2
  · rw [← strV_append] ; exact f3
  · have z1 := World.grownBy.below hm.gr hB (fun g e => by injection e with e; omega)
    have z2 := World.grownBy.below gs (B := B0) (by omega) (fun g e => by injection e with e; omega)
    exact (((z1.trans ap1.below).trans ap2.below).trans ap3.below).trans z2
  · intro b hz
    have hb := hZ b hz
    have bG : some b ≠ some G := fun e => hZG (by injection e with e; rw [← e]; exact hz)
    have bP : some b ≠ some gP := fun e => h.zP gP own_gP (by injection e with e; rw [← e]; exact hz)
    rw [gs.block b (by omega) bP, ap3.grown.block b (by omega) (fun e => h.z3 b e.symm hz), ap2.grown.block b (by omega) (fun e => h.z2 b e.symm hz), ap1.grown.block b (by omega) (fun e => h.z1 b e.symm hz)]
    exact hm.gr.block b hb bG
end Go.Proofs.Ytbdlpigokahnoaa
