/- weave.Swap: parts with the sides turned about. -/
import Derived.Test.YtbdlpigokahnoaaWeaveUse
import Derived.Test.YtbdlpigokahnoaaWeaveFns
import Derived.Test.YtbdlpigokahnoaaRegionLate
import Derived.Deep.DeepCutAuto
import Derived.Deep.CutBlock
set_option linter.unusedVariables false
namespace Go.Proofs.Ytbdlpigokahnoaa
open Go.RowKit

theorem OwnPts.app2 {w : World} {base : Nat} {T TS : TypeId} {A : Option Addr} {n c : Nat} {ps : List Pt} (E : ElemOf Try.prog TS T zeroPt 4 80) (h : OwnPts w base T A n c ps) {z : Int} {b o t : List ByteArray} {A1 A2 A3 : Option Addr} {n1 n2 n3 c1 c2 c3 : Nat}
    (hw : (Lit.int .i64 z).wf = true) (h1 : StrAt w (own (.slice A n c)) A1 n1 c1 b) (h2 : StrAt w (own (.slice A n c)) A2 n2 c2 o) (h3 : StrAt w (own (.slice A n c)) A3 n3 c3 t) (hn : n + 1 ≤ 1000000000) (hbase : base ≤ w.heap.size) {g : Nat} (hg : w.heap.size = g) :
    ∃ A' c' w', (Builtin.append_ #[TS, TS] TS #[.slice A n c, .slice (some ⟨g, 0, none⟩) 1 1]).run Try.prog (w.alloc (.cells #[.int .i64 z, .slice A1 n1 c1, .slice A2 n2 c2, .slice A3 n3 c3] T)) = .ok (.slice A' (n + 1) c') w' ∧ OwnPts w' base T A' (n + 1) c' (ps ++ [(z, b, o, t)]) ∧ Below base w w' ∧ w.grownBy w' (Value.slice A n c).ownBlock := by
  subst hg
  obtain ⟨hl, vs, ho, he⟩ := h
  have hb0 : Below w.heap.size w (w.alloc (.cells #[.int .i64 z, .slice A1 n1 c1, .slice A2 n2 c2, .slice A3 n3 c3] T)) := (Below.refl _ _).alloc (Nat.le_refl _) _
  have hs := Sl.fresh w #[.int .i64 z, .slice A1 n1 c1, .slice A2 n2 c2, .slice A3 n3 c3] T (0, 0) 1 4 rfl
  obtain ⟨A', c', w', hrun, hap, r1, r2⟩ := append_sl (P := Try.prog) E (own_below ho hb0) hs (by intro u hu; simp at hu; rcases hu with rfl | rfl | rfl | rfl <;> rfl) (by omega) (by simp only [maxLen]; omega) (by simp; omega) TS 1
  refine ⟨A', c', w', hrun, ⟨by simp [hl], vs ++ ptCells z A1 A2 A3 n1 n2 n3 c1 c2 c3, hap.own, ?_⟩, (hb0.mono hbase).trans hap.below, (grown_of_below hb0 _).trans hap.grown⟩
  have m1 : Moves w _ (own (.slice A n c)) (own (.slice A n c)) := Moves.of_below hb0
  have m2 := m1.trans (Moves.of_app hap)
  exact (he.mono fun _ _ hr => ptR.stable hr m2).snoc (pt_mk hw (h1.moves m2) (h2.moves m2) (h3.moves m2))
theorem OwnPts.lt {w : World} {base : Nat} {T : TypeId} {A : Option Addr} {n c : Nat} {ps : List Pt} (h : OwnPts w base T A n c ps) : ∀ g, own (.slice A n c) g → g < w.heap.size := fun g hg => by
  obtain ⟨_, vs, ho, _⟩ := h
  exact (ho.lt g hg).2
/-- a row of strings of a later make -/
theorem StrAt.ofOwn {w : World} {base : Nat} {e : TypeId} {A : Option Addr} {c : Nat} {l : List ByteArray} {av : Av} (h : w.ownsRow base e 1 (.slice A l.length c) l.length (strV l)) (hc : l.length ≤ c) (hm : c ≤ maxLen) (ha : ∀ g, av g → g < base) : StrAt w av A l.length c l :=
  ⟨rfl, hc, hm, SlOf.strOwn h ha⟩
theorem swapK_wf {z : Int} (h : (Lit.int .i64 z).wf = true) : (Lit.int .i64 (swapK z)).wf = true := by
  unfold swapK
  split
  · rfl
  · split
    · rfl
    · exact h

set_option maxHeartbeats 4000000 in
theorem swap_any (A : Option Addr) (m cA : Nat) (ps : List Pt) (w : World) (hs : SlOf ptR w no A ps) (hl : ps.length = m) (hm : m ≤ 100000000) (hpl : ∀ p ∈ ps, p.2.1.length ≤ 100000000 ∧ p.2.2.1.length ≤ 100000000 ∧ p.2.2.2.length ≤ 100000000) :
    Calls Try.prog 28 #[.slice A m cA] w (PtsPost 38 w (ps.map swapP)) := by
  have HL := Lib.hid hl
  have HPL := Lib.hid hpl
  have HSS := Lib.hid hs
  clear hl hpl hs
  go_enter Try.func28, Try.ntmps28
  go_wp2_with fail
  go_loopw [3, 9] (fun o k wr => ∃ (K : Nat) (Ao : Option Addr) (co : Nat), o = .slice Ao K co ∧ k = .int .i64 K ∧ K ≤ m ∧ Hid (OwnPts wr w.heap.size 38 Ao K co ((ps.take K).map swapP)) ∧ Below w.heap.size w wr) (fun _ k _ => m - (intOf k).toNat)
  case atStart => exact ⟨0, none, 0, rfl, rfl, by omega, Lib.hid (by simpa using OwnPts.nil w w.heap.size _), Below.refl _ _⟩
  case round =>
    obtain ⟨K, Ao, co, rfl, rfl, hK, HO, hbr⟩ := hrel
    by_cases hKm : K < m
    · obtain ⟨bb, off, z, x, y, t, A1, A2, A3, n1, n2, n3, c1, c2, c3, rfl, hb1, hx, hwf, k0, k1, k2, k3, hs1, hs2, hs3, _⟩ := pt_look HSS.out HL.out hKm
      have k0 := (hbr.cell hb1).trans k0
      have k1 := (hbr.cell hb1).trans k1
      have k2 := (hbr.cell hb1).trans k2
      have k3 := (hbr.cell hb1).trans k3
      have hln := HPL.out _ (List.mem_of_getElem? hx)
      simp only at hln
      have l1 : n1 ≤ 100000000 := by have := hs1.len; omega
      have l2 : n2 ≤ 100000000 := by have := hs2.len; omega
      have l3 : n3 ≤ 100000000 := by have := hs3.len; omega
      have HX := Lib.hid hx
      have HWF := Lib.hid hwf
      have HS1 := Lib.hid (hs1.str)
      have HS2 := Lib.hid (hs2.str)
      have HS3 := Lib.hid (hs3.str)
      have HY1 := Lib.hid hs1.len
      have HY2 := Lib.hid hs2.len
      have HY3 := Lib.hid hs3.len
      have HBR := Lib.hid hbr
      have hlt' : (K : Int) < (m : Int) := by omega
      clear hx hwf hs1 hs2 hs3 hln hbr
      go_upto_block 2 with fail
      go_cut [6] (fun k wx => k = .int .i64 (swapK z) ∧ wx = wr.alloc (.cells #[.int .i64 z, .slice A1 n1 c1, .slice A2 n2 c2, .slice A3 n3 c3] 38))
      case first =>
        by_cases hz1 : z = 1
        · subst hz1
          go_wp2_with fail
          go_meet
          case rel => exact ⟨rfl, rfl⟩
        · by_cases hz2 : z = 2
          · subst hz2
            go_wp2_with fail
            go_meet
            case rel => exact ⟨rfl, rfl⟩
          · have e1 : (z == 1) = false := by simpa using hz1
            have e2 : (z == 2) = false := by simpa using hz2
            have e3 : swapK z = z := by unfold swapK; rw [if_neg hz1, if_neg hz2]
            have E3 := Lib.hid e3
            clear hz1 hz2 e3
            go_wp2_with fail
            go_meet
            case rel => rw [E3.out]; exact ⟨rfl, rfl⟩
      case rest =>
        obtain ⟨rfl, hwc⟩ := hcut
        have hblk := Blk.new wr 38 #[.int .i64 z, .slice A1 n1 c1, .slice A2 n2 c2, .slice A3 n3 c3]
        have hbx : Below wr.heap.size wr (wr.alloc (.cells #[.int .i64 z, .slice A1 n1 c1, .slice A2 n2 c2, .slice A3 n3 c3] 38)) := (Below.refl _ _).alloc (Nat.le_refl _) _
        rw [← hwc] at hblk hbx
        obtain ⟨g, hg⟩ : ∃ g, g = wr.heap.size := ⟨_, rfl⟩
        rw [← hg] at hblk ⊢
        have hgw : wr.heap.size ≤ g := by omega
        clear hwc hg
        go_wp2_with fail
        have C0 := Lib.hid hblk
        have BX := Lib.hid hbx
        have HBW := Lib.hid (HBR.out.trans (hbx.mono HBR.out.size))
        have HO2 := Lib.hid (HO.out.below hbx)
        have hlt0 := HO.out.lt
        have HLT := Lib.hid hlt0
        clear hblk hbx HO k0 k1 k2 k3 hlt0
        have B0 := Lib.hid (Same.below (w := wc) (w' := wc.drew) ⟨1, rfl⟩ wc.heap.size)
        have CD := Lib.hid (C0.out.same (w' := wc.drew) ⟨1, rfl⟩)
        refine wp_region_held (S := fun w' => Blk w' g 38 #[.int .i64 z, .slice A1 n1 c1, .slice A2 n2 c2, .slice A3 n3 c3]) (by kernel_rfl) ?_
        change wpAnyH _ _ _ _ _ _ _ _ (World.drew _)
        refine held_take (i := 0) (v := ?_) (a' := ?_) rfl (by kernel_rfl) (by kernel_rfl) (by kernel_rfl) (fun _ _ _ h => h) (by rfl) CD.out ?_ ?_ ?_
        rotate_left 2
        · (intro w hS; go_simp; try with_reducible rfl)
        · (go_simp; try with_reducible rfl)
        refine held_take (i := 1) (v := ?_) (a' := ?_) rfl (by kernel_rfl) (by kernel_rfl) (by kernel_rfl) (fun _ _ _ h => h) (by rfl) CD.out ?_ ?_ ?_
        rotate_left 2
        · (intro w hS; go_simp; try with_reducible rfl)
        · (go_simp; try with_reducible rfl)
        refine held_take (i := 2) (v := ?_) (a' := ?_) rfl (by kernel_rfl) (by kernel_rfl) (by kernel_rfl) (fun _ _ _ h => h) (by rfl) CD.out ?_ ?_ ?_
        rotate_left 2
        · (intro w hS; go_simp; try with_reducible rfl)
        · (go_simp; try with_reducible rfl)
        refine held_take (i := 3) (v := ?_) (a' := ?_) rfl (by kernel_rfl) (by kernel_rfl) (by kernel_rfl) (fun _ _ _ h => h) (by rfl) CD.out ?_ ?_ ?_
        rotate_left 2
        · (intro w hS; have q := hS.cell 1; go_simp; try with_reducible rfl)
        · (go_simp; try with_reducible rfl)
        refine held_take (i := 5) (v := ?_) (a' := ?_) rfl (by kernel_rfl) (by kernel_rfl) (by kernel_rfl) (fun _ _ _ h => h) (by rfl) CD.out ?_ ?_ ?_
        rotate_left 2
        · (intro w hS; go_simp; try with_reducible rfl)
        · (go_simp; try with_reducible rfl)
        refine held_take (i := 6) (v := ?_) (a' := ?_) rfl (by kernel_rfl) (by kernel_rfl) (by kernel_rfl) (fun _ _ _ h => h) (by rfl) CD.out ?_ ?_ ?_
        rotate_left 2
        · (intro w hS; have q := hS.cell 3; go_simp; try with_reducible rfl)
        · (go_simp; try with_reducible rfl)
        refine held_take (i := 8) (v := ?_) (a' := ?_) rfl (by kernel_rfl) (by kernel_rfl) (by kernel_rfl) (fun _ _ _ h => h) (by rfl) CD.out ?_ ?_ ?_
        rotate_left 2
        · (intro w hS; go_simp; try with_reducible rfl)
        · (go_simp; try with_reducible rfl)
        refine held_take (i := 9) (v := ?_) (a' := ?_) rfl (by kernel_rfl) (by kernel_rfl) (by kernel_rfl) (fun _ _ _ h => h) (by rfl) CD.out ?_ ?_ ?_
        rotate_left 2
        · (intro w hS; have q := hS.cell 2; go_simp; try with_reducible rfl)
        · (go_simp; try with_reducible rfl)
        refine held_ready (rs := [4]) (by kernel_rfl) (by simp) ?_
        refine AllHeld.cons rfl (fun KR hKR => ?_) ?_
        · go_simp
          refine (clone_any _ n1 c1 x _ (HS1.out.below (HBW.out.trans (B0.out.mono HBW.out.size))) (by omega)).mono ?_
          rintro e w4 ⟨A4, c4, rfl, ho4, hc4, hm4, hb4⟩
          have C4 := Lib.hid (CD.out.below hb4 CD.out.lt)
          have B4 := Lib.hid (B0.out.trans (hb4.mono B0.out.size))
          have HO4 := Lib.hid ho4
          have H4 := Lib.hid hb4
          clear ho4 hb4
          refine hKR _ _ C4.out ?_
          clear hKR KR
          refine held_ready (rs := [7]) (by kernel_rfl) (by simp) ?_
          refine AllHeld.cons rfl (fun KR hKR => ?_) ?_
          · go_simp
            refine (clone_any _ n3 c3 t _ (HS3.out.below (HBW.out.trans (B4.out.mono HBW.out.size))) (by omega)).mono ?_
            rintro e w5 ⟨A5, c5, rfl, ho5, hc5, hm5, hb5⟩
            have C5 := Lib.hid (C4.out.below hb5 C4.out.lt)
            have B5 := Lib.hid (B4.out.trans (hb5.mono B4.out.size))
            have HO5 := Lib.hid ho5
            have H5 := Lib.hid hb5
            clear ho5 hb5
            refine hKR _ _ C5.out ?_
            clear hKR KR
            refine held_ready (rs := [10]) (by kernel_rfl) (by simp) ?_
            refine AllHeld.cons rfl (fun KR hKR => ?_) ?_
            · go_simp
              refine (clone_any _ n2 c2 y _ (HS2.out.below (HBW.out.trans (B5.out.mono HBW.out.size))) (by omega)).mono ?_
              rintro e w6 ⟨A6, c6, rfl, ho6, hc6, hm6, hb6⟩
              have C6 := Lib.hid (C5.out.below hb6 C5.out.lt)
              have B6 := Lib.hid (B5.out.trans (hb6.mono B5.out.size))
              have HO6 := Lib.hid ho6
              have H6 := Lib.hid hb6
              clear ho6 hb6
              have hs5 := own_below HO4.out H5.out
              have hs6 := own_below (own_below HO4.out H5.out) H6.out
              have hs7 := own_below HO5.out H6.out
              have hw4 : wr.heap.size ≤ wc.heap.size := BX.out.size
              have hw5 : wc.heap.size ≤ w4.heap.size := B4.out.size
              have hw6 : wc.heap.size ≤ w5.heap.size := B5.out.size
              have y1 := StrAt.ofOwn (av := own (Value.slice Ao K co)) hs6 hc4 hm4 (fun g' h => by have := HLT.out g' h; have h2 : wc.drew.heap.size = wc.heap.size := rfl; omega)
              have y2 := StrAt.ofOwn (av := own (Value.slice Ao K co)) hs7 hc5 hm5 (fun g' h => by have := HLT.out g' h; omega)
              have y3 := StrAt.ofOwn (av := own (Value.slice Ao K co)) HO6.out hc6 hm6 (fun g' h => by have := HLT.out g' h; omega)
              have HB6 := Lib.hid (HBW.out.trans (B6.out.mono HBW.out.size))
              obtain ⟨A8, c8, w8, hrun, ho8, hb8, hg8⟩ := (HO2.out.below B6.out).app2 elemPart (swapK_wf HWF.out) y1 y2 y3 (by omega) HB6.out.size (g := w6.heap.size) rfl
              have HRUN := Lib.hid hrun
              have HO8 := Lib.hid ho8
              have HB8 := Lib.hid (HB6.out.trans hb8)
              have C8 := Lib.hid (C6.out.grown hg8 (fun e => by have := HLT.out g e.symm; omega))
              clear hrun ho8 hb8 hg8 hs5 hs6 hs7 y1 y2 y3
              refine hKR _ _ C6.out ?_
              clear hKR KR
              refine held_take (i := 11) (v := ?_) (a' := ?_) rfl (by kernel_rfl) (by kernel_rfl) (by kernel_rfl) (fun _ _ _ h => h) (by rfl) C6.out ?_ ?_ ?_
              rotate_left 2
              · (intro w hS; go_simp; try with_reducible rfl)
              · (go_simp; try with_reducible rfl)
              refine held_ready (rs := [12]) (by kernel_rfl) (by simp) ?_
              refine AllHeld.cons rfl (fun KR hKR => ?_) ?_
              · go_simp
                skip
                refine hKR _ _ (C6.out.alloc _) ?_
                clear hKR KR
                refine held_ready (rs := [13]) (by kernel_rfl) (by simp) ?_
                refine AllHeld.cons rfl (fun KR hKR => ?_) ?_
                · refine step_run_append (by rfl) (.tmp 20) (.tmp 32) (by rfl) (by rfl) (by rfl) HRUN.out ?_
                  refine hKR _ _ C8.out ?_
                  clear hKR KR
                  refine held_take (i := 14) (v := ?_) (a' := ?_) rfl (by kernel_rfl) (by kernel_rfl) (by kernel_rfl) (fun _ _ _ h => h) (by rfl) C8.out ?_ ?_ ?_
                  rotate_left 2
                  · (intro w hS; go_simp; try with_reducible rfl)
                  · (go_simp; try with_reducible rfl)
                  refine wpAnyH_done (by kernel_rfl) ?_ _
                  go_wp2_with fail
                  go_roundw
                  case rel => exact ⟨K + 1, A8, c8, rfl, by go_num, by omega, Lib.hid (by rw [List.take_add_one, HX.out, List.map_append]; exact HO8.out), HB8.out⟩
                  case measure => simp [intOf]; omega
                exact AllHeld.nil
              exact AllHeld.nil
            exact AllHeld.nil
          exact AllHeld.nil
        exact AllHeld.nil
    · obtain rfl : K = m := by omega
      have hlt' : ¬ (K : Int) < (K : Int) := by omega
      go_wp2_with fail
      go_ret
      exact ⟨Ao, K, co, rfl, by have h := HO.out; rwa [List.take_of_length_le (by rw [HL.out]; exact Nat.le_refl _)] at h, hbr⟩
end Go.Proofs.Ytbdlpigokahnoaa
