/- (*loom).add. -/
import Derived.Test.YtbdlpigokahnoaaWeaveJoin
import Derived.Test.YtbdlpigokahnoaaRegionLate
import Derived.Deep.DeepCutAuto
import Derived.Deep.CutBlock
set_option linter.unusedVariables false
namespace Go.Proofs.Ytbdlpigokahnoaa
open Go.RowKit

def LoomAt (w : World) (B0 G : Nat) (Z : Av) (b o t : List ByteArray) (ps : List Pt) : Prop :=
  B0 ≤ G ∧ B0 ≤ w.heap.size ∧ ¬ Z G ∧ (∀ x, Z x → x < w.heap.size) ∧ ∃ A1 n1 c1 A2 n2 c2 A3 n3 c3 P np cp, Blk w G 64 #[.slice A1 n1 c1, .slice A2 n2 c2, .slice A3 n3 c3, .slice P np cp] ∧
    StrAt w (fun x => B0 ≤ x) A1 n1 c1 b ∧ StrAt w (fun x => B0 ≤ x) A2 n2 c2 o ∧ StrAt w (fun x => B0 ≤ x) A3 n3 c3 t ∧ PartsAt w B0 G Z (.slice P np cp) np ps

theorem StrAt.cut {w : World} {av : Av} {A : Option Addr} {n c k : Nat} {l : List ByteArray} (h : StrAt w av A n c l) (hk : k ≤ n) : StrAt w av (cutA A c k) (n - k) (c - k) (l.drop k) := by
  have h1 := h.sl.from h.len hk h.cap
  have h2 : strR.k = 1 := rfl
  rw [h2, Nat.mul_one] at h1
  refine ⟨by rw [List.length_drop, h.len], by have := h.cap; omega, by have := h.max; omega, h1⟩
theorem LoomAt.next {w0 w : World} {B0 G : Nat} {Z : Av} (hZG : ¬ Z G) (hZ : ∀ x, Z x → x < w0.heap.size) (hBG : B0 ≤ G) (hB : B0 ≤ w0.heap.size) {b o t : List ByteArray} {A1 A2 A3 P : Option Addr} {n1 n2 n3 c1 c2 c3 np cp i j k : Nat} {ps : List Pt} (hb : Below B0 w0 w)
    (h1 : StrAt w0 (fun x => B0 ≤ x) A1 n1 c1 b) (h2 : StrAt w0 (fun x => B0 ≤ x) A2 n2 c2 o) (h3 : StrAt w0 (fun x => B0 ≤ x) A3 n3 c3 t) (hi : i ≤ n1) (hj : j ≤ n2) (hk : k ≤ n3)
    (hblk : Blk w G 64 #[.slice (cutA A1 c1 i) (n1 - i) (c1 - i), .slice (cutA A2 c2 j) (n2 - j) (c2 - j), .slice (cutA A3 c3 k) (n3 - k) (c3 - k), .slice P np cp]) (hp : PartsAt w B0 G Z (.slice P np cp) np ps) :
    LoomAt w B0 G Z (b.drop i) (o.drop j) (t.drop k) ps := by
  have m : Moves w0 w (fun x => B0 ≤ x) (fun x => B0 ≤ x) := ⟨hb.size, fun x _ hne => hb.block x (by have : ¬ B0 ≤ x := hne; omega), fun x _ hne => hne⟩
  exact ⟨hBG, Nat.le_trans hB hb.size, hZG, fun x hx => Nat.lt_of_lt_of_le (hZ x hx) hb.size, _, _, _, _, _, _, _, _, _, _, _, _, hblk, (h1.cut hi).moves m, (h2.cut hj).moves m, (h3.cut hk).moves m, hp⟩

set_option maxHeartbeats 4000000 in
set_option maxRecDepth 100000 in
theorem add_any (G B0 i j k : Nat) (Z : Av) (b o t : List ByteArray) (ps : List Pt) (w : World) (h : LoomAt w B0 G Z b o t ps) (hi : i ≤ b.length) (hj : j ≤ o.length) (hk : k ≤ t.length) (hbl : b.length ≤ 100000000) (hol : o.length ≤ 100000000) (htl : t.length ≤ 100000000)
    (hpl : ps.length ≤ 100000000) (hps : ∀ p ∈ ps, p.2.1.length ≤ 100000000 ∧ p.2.2.1.length ≤ 100000000 ∧ p.2.2.2.length ≤ 100000000) :
    Calls Try.prog 30 #[.pointer (some ⟨G, 0, none⟩), .int .i64 (i : Int), .int .i64 (j : Int), .int .i64 (k : Int)] w fun e w' => e = .returned (.tuple #[]) ∧ LoomAt w' B0 G Z (b.drop i) (o.drop j) (t.drop k) (pushG ps (b.take i, o.take j, t.take k)) ∧ Below B0 w w' ∧ (∀ g, Z g → w'.heap[g]? = w.heap[g]?) := by
  by_cases hz : i + j + k = 0
  · have i0 : i = 0 := by omega
    have j0 : j = 0 := by omega
    have k0 : k = 0 := by omega
    subst i0 j0 k0
    have HH := Lib.hid h
    clear h hps
    go_enter Try.func30, Try.ntmps30
    go_wp2_with fail
    refine bodyPost_ret (results_none rfl _ _ _) rfl ?_
    refine ⟨rfl, ?_, Below.refl _ _, fun _ _ => rfl⟩
    rw [pushG_empty (by simp)]
    exact HH.out
  · obtain ⟨hBG, hB, hZG, hZ, A1, n1, c1, A2, n2, c2, A3, n3, c3, P, np, cp, hblk, h1, h2, h3, hp⟩ := h
    have l1 := h1.len
    have l2 := h2.len
    have l3 := h3.len
    have s1 : IntKind.i64.wrap ((i : Int) + (j : Int)) = (i : Int) + (j : Int) := IntWalk.i64_in _ (by omega)
    have s2 : IntKind.i64.wrap ((i : Int) + (j : Int) + (k : Int)) = (i : Int) + (j : Int) + (k : Int) := IntWalk.i64_in _ (by omega)
    have s3 : decide ((i : Int) + (j : Int) + (k : Int) = 0) = false := by rw [decide_eq_false_iff_not]; omega
    have s4 : ((i : Int) + (j : Int) + (k : Int) == 0) = false := by rw [beq_eq_false_iff_ne]; omega
    have HBlk := Lib.hid hblk
    have HI := Lib.hid (CutInv.start hBG hblk)
    have H1 := Lib.hid h1
    have H2 := Lib.hid h2
    have H3 := Lib.hid h3
    have HP := Lib.hid hp
    have HPS := Lib.hid hps
    clear h1 h2 h3 hp hblk hps
    go_enter Try.func30, Try.ntmps30
    go_upto_region 1 with fail
    go_cut [8] (fun p wx => ∃ (g8 : Nat) (B1 B2 B3 : Option Addr) (e1 e2 e3 : Nat), p = .pointer (some ⟨g8, 0, none⟩) ∧ Hid (Mid w G #[.slice (cutA A1 c1 i) (n1 - i) (c1 - i), .slice (cutA A2 c2 j) (n2 - j) (c2 - j), .slice (cutA A3 c3 k) (n3 - k) (c3 - k), .slice P np cp] g8 0 (.slice B1 i e1) (.slice B2 j e2) (.slice B3 k e3) i j k (b.take i) (o.take j) (t.take k) wx))
    case first =>
      --BEGIN1
      have HI := Lib.hid HI.out.drew
      clear HP HPS
      refine wp_region_held (S := fun _ => True) (by kernel_rfl) ?_
      change wpAnyH _ _ _ _ _ _ _ _ (World.drew _)
      refine held_take (i := 0) (v := ?_) (a' := ?_) rfl (by kernel_rfl) (by kernel_rfl) (by kernel_rfl) (fun _ _ _ h => h) (by rfl) trivial ?_ ?_ ?_
      rotate_left 2
      · (intro w hS; go_simp; try with_reducible rfl)
      · (go_simp; try with_reducible rfl)
      refine held_take (i := 1) (v := ?_) (a' := ?_) rfl (by kernel_rfl) (by kernel_rfl) (by kernel_rfl) (fun _ _ _ h => h) (by rfl) trivial ?_ ?_ ?_
      rotate_left 2
      · (intro w hS; go_simp; try with_reducible rfl)
      · (go_simp; try with_reducible rfl)
      refine held_take (i := 2) (v := ?_) (a' := ?_) rfl (by kernel_rfl) (by kernel_rfl) (by kernel_rfl) (fun _ _ _ h => h) (by rfl) trivial ?_ ?_ ?_
      rotate_left 2
      · (intro w hS; go_simp; try with_reducible rfl)
      · (go_simp; try with_reducible rfl)
      refine held_take (i := 3) (v := ?_) (a' := ?_) rfl (by kernel_rfl) (by kernel_rfl) (by kernel_rfl) (fun _ _ _ h => h) (by rfl) trivial ?_ ?_ ?_
      rotate_left 2
      · (intro w hS; go_simp; try with_reducible rfl)
      · (go_simp; try with_reducible rfl)
      refine held_take (i := 5) (v := ?_) (a' := ?_) rfl (by kernel_rfl) (by kernel_rfl) (by kernel_rfl) (fun _ _ _ h => h) (by rfl) trivial ?_ ?_ ?_
      rotate_left 2
      · (intro w hS; go_simp; try with_reducible rfl)
      · (go_simp; try with_reducible rfl)
      refine held_take (i := 6) (v := ?_) (a' := ?_) rfl (by kernel_rfl) (by kernel_rfl) (by kernel_rfl) (fun _ _ _ h => h) (by rfl) trivial ?_ ?_ ?_
      rotate_left 2
      · (intro w hS; go_simp; try with_reducible rfl)
      · (go_simp; try with_reducible rfl)
      refine held_take (i := 7) (v := ?_) (a' := ?_) rfl (by kernel_rfl) (by kernel_rfl) (by kernel_rfl) (fun _ _ _ h => h) (by rfl) trivial ?_ ?_ ?_
      rotate_left 2
      · (intro w hS; go_simp; try with_reducible rfl)
      · (go_simp; try with_reducible rfl)
      refine held_take (i := 8) (v := ?_) (a' := ?_) rfl (by kernel_rfl) (by kernel_rfl) (by kernel_rfl) (fun _ _ _ h => h) (by rfl) trivial ?_ ?_ ?_
      rotate_left 2
      · (intro w hS; go_simp; try with_reducible rfl)
      · (go_simp; try with_reducible rfl)
      refine held_take (i := 10) (v := ?_) (a' := ?_) rfl (by kernel_rfl) (by kernel_rfl) (by kernel_rfl) (fun _ _ _ h => h) (by rfl) trivial ?_ ?_ ?_
      rotate_left 2
      · (intro w hS; go_simp; try with_reducible rfl)
      · (go_simp; try with_reducible rfl)
      refine held_take (i := 11) (v := ?_) (a' := ?_) rfl (by kernel_rfl) (by kernel_rfl) (by kernel_rfl) (fun _ _ _ h => h) (by rfl) trivial ?_ ?_ ?_
      rotate_left 2
      · (intro w hS; go_simp; try with_reducible rfl)
      · (go_simp; try with_reducible rfl)
      refine held_take (i := 12) (v := ?_) (a' := ?_) rfl (by kernel_rfl) (by kernel_rfl) (by kernel_rfl) (fun _ _ _ h => h) (by rfl) trivial ?_ ?_ ?_
      rotate_left 2
      · (intro w hS; go_simp; try with_reducible rfl)
      · (go_simp; try with_reducible rfl)
      refine held_take (i := 13) (v := ?_) (a' := ?_) rfl (by kernel_rfl) (by kernel_rfl) (by kernel_rfl) (fun _ _ _ h => h) (by rfl) trivial ?_ ?_ ?_
      rotate_left 2
      · (intro w hS; go_simp; try with_reducible rfl)
      · (go_simp; try with_reducible rfl)
      refine held_ready (rs := [4, 16]) (by kernel_rfl) (by simp) ?_
      refine AllHeld.cons rfl (fun KR hKR => ?_) ?_
      · go_simp
        refine (HI.out.call (f := 0) rfl H1.out (by omega) (by omega)).mono ?_
        rintro e wx ⟨B1, e1, rfl, hi1⟩
        have HI := Lib.hid hi1
        clear hi1
        refine hKR _ _ trivial ?_
        clear hKR KR
        refine held_ready (rs := [9, 16]) (by kernel_rfl) (by simp) ?_
        refine AllHeld.cons rfl (fun KR hKR => ?_) ?_
        · go_simp
          refine (HI.out.call (f := 1) (by simp) H2.out (by omega) (by omega)).mono ?_
          rintro e wx ⟨B2, e2, rfl, hi1⟩
          have HI := Lib.hid hi1
          clear hi1
          refine hKR _ _ trivial ?_
          clear hKR KR
          refine held_ready (rs := [14, 16]) (by kernel_rfl) (by simp) ?_
          refine AllHeld.cons rfl (fun KR hKR => ?_) ?_
          · go_simp
            refine (HI.out.call (f := 2) (by simp) H3.out (by omega) (by omega)).mono ?_
            rintro e wx ⟨B3, e3, rfl, hi1⟩
            have HI := Lib.hid hi1
            clear hi1
            refine hKR _ _ trivial ?_
            clear hKR KR
            refine held_take (i := 15) (v := ?_) (a' := ?_) rfl (by kernel_rfl) (by kernel_rfl) (by kernel_rfl) (fun _ _ _ h => h) (by rfl) trivial ?_ ?_ ?_
            rotate_left 2
            · (intro w hS; go_simp; try with_reducible rfl)
            · (go_simp; try with_reducible rfl)
            refine held_ready (rs := [16]) (by kernel_rfl) (by simp) ?_
            refine AllHeld.cons rfl (fun KR hKR => ?_) ?_
            · go_simp
              have HJ := HI
              have HI := Lib.hid (HI.out.alloc #[.int .i64 0, .slice none 0 0, .slice none 0 0, .slice none 0 0])
              refine hKR _ _ trivial ?_
              clear hKR KR
              refine held_ready (rs := [17]) (by kernel_rfl) (by simp) ?_
              refine AllHeld.cons rfl (fun KR hKR => ?_) ?_
              · have hz := (HI.out.hblks _ List.mem_cons_self).1
                have z0 := hz.cell 0
                have z1 := hz.cell 1
                have z2 := hz.cell 2
                have z3 := hz.cell 3
                have y0 := hz.frozen 0
                have y1 := hz.frozen 1
                have y2 := hz.frozen 2
                have y3 := hz.frozen 3
                dsimp only at z0 z1 z2 z3 y0 y1 y2 y3
                try simp only [show ∀ v : World, v.drew.heap = v.heap from fun _ => rfl] at z0 z1 z2 z3 y0 y1 y2 y3
                go_simp
                have HI := Lib.hid ((((HI.out.set 0 (.int .i64 0)).set 1 (.slice B1 i e1)).set 2 (.slice B2 j e2)).set 3 (.slice B3 k e3))
                refine hKR _ _ trivial ?_
                clear hKR KR
                refine wpAnyH_done (by kernel_rfl) ?_ _
                go_wp2_with fail
                go_meet
                case rel => first | exact ⟨_, B1, B2, B3, e1, e2, e3, rfl, Lib.hid HI.out.mid⟩ | exact ⟨_, B1, B2, B3, e1, e2, e3, rfl, Lib.hid (HJ.out.alloc #[.int .i64 0, .slice B1 i e1, .slice B2 j e2, .slice B3 k e3]).mid⟩
              exact AllHeld.nil
            exact AllHeld.nil
          refine AllHeld.cons rfl (fun KR hKR => ?_) ?_
          · go_simp
            have HJ := HI
            have HI := Lib.hid (HI.out.alloc #[.int .i64 0, .slice none 0 0, .slice none 0 0, .slice none 0 0])
            refine hKR _ _ trivial ?_
            clear hKR KR
            refine held_ready (rs := [14]) (by kernel_rfl) (by simp) ?_
            refine AllHeld.cons rfl (fun KR hKR => ?_) ?_
            · go_simp
              refine (HI.out.call (f := 2) (by simp) H3.out (by omega) (by omega)).mono ?_
              rintro e wx ⟨B3, e3, rfl, hi1⟩
              have HI := Lib.hid hi1
              clear hi1
              refine hKR _ _ trivial ?_
              clear hKR KR
              refine held_take (i := 15) (v := ?_) (a' := ?_) rfl (by kernel_rfl) (by kernel_rfl) (by kernel_rfl) (fun _ _ _ h => h) (by rfl) trivial ?_ ?_ ?_
              rotate_left 2
              · (intro w hS; go_simp; try with_reducible rfl)
              · (go_simp; try with_reducible rfl)
              refine held_ready (rs := [17]) (by kernel_rfl) (by simp) ?_
              refine AllHeld.cons rfl (fun KR hKR => ?_) ?_
              · have hz := (HI.out.hblks _ List.mem_cons_self).1
                have z0 := hz.cell 0
                have z1 := hz.cell 1
                have z2 := hz.cell 2
                have z3 := hz.cell 3
                have y0 := hz.frozen 0
                have y1 := hz.frozen 1
                have y2 := hz.frozen 2
                have y3 := hz.frozen 3
                dsimp only at z0 z1 z2 z3 y0 y1 y2 y3
                try simp only [show ∀ v : World, v.drew.heap = v.heap from fun _ => rfl] at z0 z1 z2 z3 y0 y1 y2 y3
                go_simp
                have HI := Lib.hid ((((HI.out.set 0 (.int .i64 0)).set 1 (.slice B1 i e1)).set 2 (.slice B2 j e2)).set 3 (.slice B3 k e3))
                refine hKR _ _ trivial ?_
                clear hKR KR
                refine wpAnyH_done (by kernel_rfl) ?_ _
                go_wp2_with fail
                go_meet
                case rel => first | exact ⟨_, B1, B2, B3, e1, e2, e3, rfl, Lib.hid HI.out.mid⟩ | exact ⟨_, B1, B2, B3, e1, e2, e3, rfl, Lib.hid (HJ.out.alloc #[.int .i64 0, .slice B1 i e1, .slice B2 j e2, .slice B3 k e3]).mid⟩
              exact AllHeld.nil
            exact AllHeld.nil
          exact AllHeld.nil
        refine AllHeld.cons rfl (fun KR hKR => ?_) ?_
        · go_simp
          have HJ := HI
          have HI := Lib.hid (HI.out.alloc #[.int .i64 0, .slice none 0 0, .slice none 0 0, .slice none 0 0])
          refine hKR _ _ trivial ?_
          clear hKR KR
          refine held_ready (rs := [9]) (by kernel_rfl) (by simp) ?_
          refine AllHeld.cons rfl (fun KR hKR => ?_) ?_
          · go_simp
            refine (HI.out.call (f := 1) (by simp) H2.out (by omega) (by omega)).mono ?_
            rintro e wx ⟨B2, e2, rfl, hi1⟩
            have HI := Lib.hid hi1
            clear hi1
            refine hKR _ _ trivial ?_
            clear hKR KR
            refine held_ready (rs := [14]) (by kernel_rfl) (by simp) ?_
            refine AllHeld.cons rfl (fun KR hKR => ?_) ?_
            · go_simp
              refine (HI.out.call (f := 2) (by simp) H3.out (by omega) (by omega)).mono ?_
              rintro e wx ⟨B3, e3, rfl, hi1⟩
              have HI := Lib.hid hi1
              clear hi1
              refine hKR _ _ trivial ?_
              clear hKR KR
              refine held_take (i := 15) (v := ?_) (a' := ?_) rfl (by kernel_rfl) (by kernel_rfl) (by kernel_rfl) (fun _ _ _ h => h) (by rfl) trivial ?_ ?_ ?_
              rotate_left 2
              · (intro w hS; go_simp; try with_reducible rfl)
              · (go_simp; try with_reducible rfl)
              refine held_ready (rs := [17]) (by kernel_rfl) (by simp) ?_
              refine AllHeld.cons rfl (fun KR hKR => ?_) ?_
              · have hz := (HI.out.hblks _ List.mem_cons_self).1
                have z0 := hz.cell 0
                have z1 := hz.cell 1
                have z2 := hz.cell 2
                have z3 := hz.cell 3
                have y0 := hz.frozen 0
                have y1 := hz.frozen 1
                have y2 := hz.frozen 2
                have y3 := hz.frozen 3
                dsimp only at z0 z1 z2 z3 y0 y1 y2 y3
                try simp only [show ∀ v : World, v.drew.heap = v.heap from fun _ => rfl] at z0 z1 z2 z3 y0 y1 y2 y3
                go_simp
                have HI := Lib.hid ((((HI.out.set 0 (.int .i64 0)).set 1 (.slice B1 i e1)).set 2 (.slice B2 j e2)).set 3 (.slice B3 k e3))
                refine hKR _ _ trivial ?_
                clear hKR KR
                refine wpAnyH_done (by kernel_rfl) ?_ _
                go_wp2_with fail
                go_meet
                case rel => first | exact ⟨_, B1, B2, B3, e1, e2, e3, rfl, Lib.hid HI.out.mid⟩ | exact ⟨_, B1, B2, B3, e1, e2, e3, rfl, Lib.hid (HJ.out.alloc #[.int .i64 0, .slice B1 i e1, .slice B2 j e2, .slice B3 k e3]).mid⟩
              exact AllHeld.nil
            exact AllHeld.nil
          exact AllHeld.nil
        exact AllHeld.nil
      refine AllHeld.cons rfl (fun KR hKR => ?_) ?_
      · go_simp
        have HJ := HI
        have HI := Lib.hid (HI.out.alloc #[.int .i64 0, .slice none 0 0, .slice none 0 0, .slice none 0 0])
        refine hKR _ _ trivial ?_
        clear hKR KR
        refine held_ready (rs := [4]) (by kernel_rfl) (by simp) ?_
        refine AllHeld.cons rfl (fun KR hKR => ?_) ?_
        · go_simp
          refine (HI.out.call (f := 0) rfl H1.out (by omega) (by omega)).mono ?_
          rintro e wx ⟨B1, e1, rfl, hi1⟩
          have HI := Lib.hid hi1
          clear hi1
          refine hKR _ _ trivial ?_
          clear hKR KR
          refine held_ready (rs := [9]) (by kernel_rfl) (by simp) ?_
          refine AllHeld.cons rfl (fun KR hKR => ?_) ?_
          · go_simp
            refine (HI.out.call (f := 1) (by simp) H2.out (by omega) (by omega)).mono ?_
            rintro e wx ⟨B2, e2, rfl, hi1⟩
            have HI := Lib.hid hi1
            clear hi1
            refine hKR _ _ trivial ?_
            clear hKR KR
            refine held_ready (rs := [14]) (by kernel_rfl) (by simp) ?_
            refine AllHeld.cons rfl (fun KR hKR => ?_) ?_
            · go_simp
              refine (HI.out.call (f := 2) (by simp) H3.out (by omega) (by omega)).mono ?_
              rintro e wx ⟨B3, e3, rfl, hi1⟩
              have HI := Lib.hid hi1
              clear hi1
              refine hKR _ _ trivial ?_
              clear hKR KR
              refine held_take (i := 15) (v := ?_) (a' := ?_) rfl (by kernel_rfl) (by kernel_rfl) (by kernel_rfl) (fun _ _ _ h => h) (by rfl) trivial ?_ ?_ ?_
              rotate_left 2
              · (intro w hS; go_simp; try with_reducible rfl)
              · (go_simp; try with_reducible rfl)
              refine held_ready (rs := [17]) (by kernel_rfl) (by simp) ?_
              refine AllHeld.cons rfl (fun KR hKR => ?_) ?_
              · have hz := (HI.out.hblks _ List.mem_cons_self).1
                have z0 := hz.cell 0
                have z1 := hz.cell 1
                have z2 := hz.cell 2
                have z3 := hz.cell 3
                have y0 := hz.frozen 0
                have y1 := hz.frozen 1
                have y2 := hz.frozen 2
                have y3 := hz.frozen 3
                dsimp only at z0 z1 z2 z3 y0 y1 y2 y3
                try simp only [show ∀ v : World, v.drew.heap = v.heap from fun _ => rfl] at z0 z1 z2 z3 y0 y1 y2 y3
                go_simp
                have HI := Lib.hid ((((HI.out.set 0 (.int .i64 0)).set 1 (.slice B1 i e1)).set 2 (.slice B2 j e2)).set 3 (.slice B3 k e3))
                refine hKR _ _ trivial ?_
                clear hKR KR
                refine wpAnyH_done (by kernel_rfl) ?_ _
                go_wp2_with fail
                go_meet
                case rel => first | exact ⟨_, B1, B2, B3, e1, e2, e3, rfl, Lib.hid HI.out.mid⟩ | exact ⟨_, B1, B2, B3, e1, e2, e3, rfl, Lib.hid (HJ.out.alloc #[.int .i64 0, .slice B1 i e1, .slice B2 j e2, .slice B3 k e3]).mid⟩
              exact AllHeld.nil
            exact AllHeld.nil
          exact AllHeld.nil
        exact AllHeld.nil
      exact AllHeld.nil
      --END1
    case rest =>
      obtain ⟨g8, B1, B2, B3, e1, e2, e3, rfl, HM⟩ := hcut
      have y1 := HM.out.p.cell 1
      have y2 := HM.out.p.cell 2
      have y3 := HM.out.p.cell 3
      have hx : (b.take i).length = i := by rw [List.length_take]; omega
      have hy : (o.take j).length = j := by rw [List.length_take]; omega
      have hz' : (t.take k).length = k := by rw [List.length_take]; omega
      have HN : ¬ (b.take i).length + (o.take j).length + (t.take k).length = 0 := by omega
      have hkr := kindG_range (b.take i) (o.take j) (t.take k)
      go_wp2_with fail
      refine (kind_any B1 B2 B3 i j k e1 e2 e3 (b.take i) (o.take j) (t.take k) wc (Sl.ofOwn HM.out.r1) (Sl.ofOwn HM.out.r2) (Sl.ofOwn HM.out.r3) (by omega) (by omega) (by omega)).mono ?_
      rintro e w2 ⟨rfl, sm⟩
      obtain ⟨kd, hkd⟩ : ∃ kd, kd = kindG (b.take i) (o.take j) (t.take k) := ⟨_, rfl⟩
      rw [← hkd]
      rw [← hkd] at hkr
      have HKD := Lib.hid hkd
      have hm2 := HM.out.same sm
      have HM3 := Lib.hid (hm2.kind kd)
      have f0 := hm2.p.frozen 0
      have z0 := hm2.p.cell 0
      have z3 := hm2.blk.cell 3
      have hGg : G ≠ g8 := by have := hm2.hp; have := hm2.hG; omega
      have hgr2 := Lib.hid hm2.gr
      have hwf : (Lit.int .i64 kd).wf = true := wf_kind hkr
      have key := HP.out.split hm2.gr hm2.hp HKD.out HN
      clear hm2 hkd hx hy hz' y1 y2 y3 sm HI
      have hw3 : (w2.setCell ⟨g8, 0, none⟩ (.int .i64 kd)).heap.size = w2.heap.size := by simp
      have hlp := HP.out.row
      have hlen : ps.length = np := by obtain ⟨_, _, _, h, _⟩ := hlp; exact h
      clear hlp
      have hst : PushS G g8 (.slice P np cp) kd (.slice B1 i e1) (.slice B2 j e2) (.slice B3 k e3) (w2.setCell ⟨g8, 0, none⟩ (.int .i64 kd)) := pushS_of HM3.out.blk HM3.out.p
      have HST := Lib.hid hst
      rcases key with ⟨HPG, hcase⟩ | hjoin
      · have hpush := HP.out.push hZG hZ hB hBG HM3.out.drew hwf (by omega) (g := w2.heap.size) (by simp)
        have HPU := Lib.hid hpush
        clear hpush
        rcases hcase with hc | ⟨hc, hnp⟩ | ⟨hc, hnp, gP, kk, hPe, hcp, hg1, hg2, hkc, hk0⟩
        · skip
          obtain ⟨A', c', w', hrun, hb1, hb2, hb3, hb4, hb5, hb6⟩ := HPU.out
          have hs7 := pushS_of hb1 hb2
          have H1' := Lib.hid hb1
          have H3' := Lib.hid hb3
          have H4' := Lib.hid hb4
          have H5' := Lib.hid hb5
          have H6' := Lib.hid hb6
          have hsa : PushS G g8 (.slice P np cp) kd (.slice B1 i e1) (.slice B2 j e2) (.slice B3 k e3) ((w2.setCell ⟨g8, 0, none⟩ (.int .i64 kd)).alloc (.cells #[.int .i64 kd, .slice B1 i e1, .slice B2 j e2, .slice B3 k e3] 38)) := pushS_of (HM3.out.blk.alloc _) (HM3.out.p.alloc _)
          clear hb1 hb2 hb3 hb4 hb5 hb6
          obtain ⟨t0, t1, t2, t3, t4⟩ := HST.out
          go_wp2_with fail
          clear t0 t1 t2 t3 t4
          refine wp_region_late (S := PushS G g8 (.slice P np cp) kd (.slice B1 i e1) (.slice B2 j e2) (.slice B3 k e3)) (s := 10) (by kernel_rfl) ?_
          refine late_pure (i := 0) (v := ?_) (a' := ?_) rfl (by kernel_rfl) (by kernel_rfl) (by kernel_rfl) (by rfl) (fun _ _ _ h => h) (by rfl) (fun _ => HST.out) ?_ ?_ ?_
          rotate_left 2
          · (intro w; go_simp; try with_reducible rfl)
          · (go_simp; try with_reducible rfl)
          refine late_pure (i := 1) (v := ?_) (a' := ?_) rfl (by kernel_rfl) (by kernel_rfl) (by kernel_rfl) (by rfl) (fun _ _ _ h => h) (by rfl) (fun _ => HST.out) ?_ ?_ ?_
          rotate_left 2
          · (intro w; go_simp; try with_reducible rfl)
          · (go_simp; try with_reducible rfl)
          refine late_pure (i := 2) (v := ?_) (a' := ?_) rfl (by kernel_rfl) (by kernel_rfl) (by kernel_rfl) (by rfl) (fun _ _ _ h => h) (by rfl) (fun _ => HST.out) ?_ ?_ ?_
          rotate_left 2
          · (intro w; go_simp; try with_reducible rfl)
          · (go_simp; try with_reducible rfl)
          refine late_pure (i := 3) (v := ?_) (a' := ?_) rfl (by kernel_rfl) (by kernel_rfl) (by kernel_rfl) (by rfl) (fun _ _ _ h => h) (by rfl) (fun _ => HST.out) ?_ ?_ ?_
          rotate_left 2
          · (intro w; go_simp; try with_reducible rfl)
          · (go_simp; try with_reducible rfl)
          refine late_load (i := 4) (m := 4) (v := ?_) (a' := ?_) rfl (by kernel_rfl) (by kernel_rfl) (by kernel_rfl) (by kernel_rfl) (by rfl) (fun _ _ _ h => h) (by rfl) HST.out ?_ ?_ ?_
          rotate_left 2
          · (intro w hS; obtain ⟨t0, t1, t2, t3, t4⟩ := hS; go_simp; try with_reducible rfl)
          · (go_simp; try with_reducible rfl)
          refine late_load (i := 5) (m := 5) (v := ?_) (a' := ?_) rfl (by kernel_rfl) (by kernel_rfl) (by kernel_rfl) (by kernel_rfl) (by rfl) (fun _ _ _ h => h) (by rfl) HST.out ?_ ?_ ?_
          rotate_left 2
          · (intro w hS; obtain ⟨t0, t1, t2, t3, t4⟩ := hS; go_simp; try with_reducible rfl)
          · (go_simp; try with_reducible rfl)
          refine late_one (i := 6) (by kernel_rfl) rfl (fun KR hKR => ?_)
          go_simp
          skip
          refine hKR _ _ (fun _ => hsa) ?_
          clear hKR KR
          refine late_one (i := 7) (by kernel_rfl) rfl (fun KR hKR => ?_)
          refine step_run_append (by rfl) (.tmp 106) (.tmp 108) (by rfl) (by rfl) (by rfl) hrun ?_
          refine hKR _ _ (fun _ => hs7) ?_
          clear hKR KR
          refine late_pure (i := 8) (v := ?_) (a' := ?_) rfl (by kernel_rfl) (by kernel_rfl) (by kernel_rfl) (by rfl) (fun _ _ _ h => h) (by rfl) (fun _ => hs7) ?_ ?_ ?_
          rotate_left 2
          · (intro w; go_simp; try with_reducible rfl)
          · (go_simp; try with_reducible rfl)
          refine late_pure (i := 9) (v := ?_) (a' := ?_) rfl (by kernel_rfl) (by kernel_rfl) (by kernel_rfl) (by rfl) (fun _ _ _ h => h) (by rfl) (fun _ => hs7) ?_ ?_ ?_
          rotate_left 2
          · (intro w; go_simp; try with_reducible rfl)
          · (go_simp; try with_reducible rfl)
          refine late_one (i := 10) (by kernel_rfl) rfl (fun KR hKR => ?_)
          have u0 := H1'.out.cell 3
          have u1 := H1'.out.frozen 3
          go_simp
          refine hKR _ _ (fun h0 => Bool.noConfusion (show (true : Bool) = false from h0)) ?_
          clear hKR KR
          refine late_done' (by kernel_rfl) ?_ _
          go_wp2_with fail
          go_end0
          refine ⟨rfl, ?_, H5'.out, H6'.out⟩
          rw [HPG.out]
          exact LoomAt.next hZG hZ hBG hB H5'.out H1.out H2.out H3.out (by omega) (by omega) (by omega) H4'.out H3'.out
        · have d0 : (kd == 0) = true := by simpa using hc
          have d1 : decide (0 < np) = false := by simpa using hnp
          have d2 : decide ((0 : Int) < (np : Int)) = false := by rw [decide_eq_false_iff_not]; omega
          clear hc hnp
          obtain ⟨A', c', w', hrun, hb1, hb2, hb3, hb4, hb5, hb6⟩ := HPU.out
          have hs7 := pushS_of hb1 hb2
          have H1' := Lib.hid hb1
          have H3' := Lib.hid hb3
          have H4' := Lib.hid hb4
          have H5' := Lib.hid hb5
          have H6' := Lib.hid hb6
          have hsa : PushS G g8 (.slice P np cp) kd (.slice B1 i e1) (.slice B2 j e2) (.slice B3 k e3) ((w2.setCell ⟨g8, 0, none⟩ (.int .i64 kd)).alloc (.cells #[.int .i64 kd, .slice B1 i e1, .slice B2 j e2, .slice B3 k e3] 38)) := pushS_of (HM3.out.blk.alloc _) (HM3.out.p.alloc _)
          clear hb1 hb2 hb3 hb4 hb5 hb6
          obtain ⟨t0, t1, t2, t3, t4⟩ := HST.out
          go_wp2_with fail
          clear t0 t1 t2 t3 t4
          refine wp_region_late (S := PushS G g8 (.slice P np cp) kd (.slice B1 i e1) (.slice B2 j e2) (.slice B3 k e3)) (s := 10) (by kernel_rfl) ?_
          refine late_pure (i := 0) (v := ?_) (a' := ?_) rfl (by kernel_rfl) (by kernel_rfl) (by kernel_rfl) (by rfl) (fun _ _ _ h => h) (by rfl) (fun _ => HST.out) ?_ ?_ ?_
          rotate_left 2
          · (intro w; go_simp; try with_reducible rfl)
          · (go_simp; try with_reducible rfl)
          refine late_pure (i := 1) (v := ?_) (a' := ?_) rfl (by kernel_rfl) (by kernel_rfl) (by kernel_rfl) (by rfl) (fun _ _ _ h => h) (by rfl) (fun _ => HST.out) ?_ ?_ ?_
          rotate_left 2
          · (intro w; go_simp; try with_reducible rfl)
          · (go_simp; try with_reducible rfl)
          refine late_pure (i := 2) (v := ?_) (a' := ?_) rfl (by kernel_rfl) (by kernel_rfl) (by kernel_rfl) (by rfl) (fun _ _ _ h => h) (by rfl) (fun _ => HST.out) ?_ ?_ ?_
          rotate_left 2
          · (intro w; go_simp; try with_reducible rfl)
          · (go_simp; try with_reducible rfl)
          refine late_pure (i := 3) (v := ?_) (a' := ?_) rfl (by kernel_rfl) (by kernel_rfl) (by kernel_rfl) (by rfl) (fun _ _ _ h => h) (by rfl) (fun _ => HST.out) ?_ ?_ ?_
          rotate_left 2
          · (intro w; go_simp; try with_reducible rfl)
          · (go_simp; try with_reducible rfl)
          refine late_load (i := 4) (m := 4) (v := ?_) (a' := ?_) rfl (by kernel_rfl) (by kernel_rfl) (by kernel_rfl) (by kernel_rfl) (by rfl) (fun _ _ _ h => h) (by rfl) HST.out ?_ ?_ ?_
          rotate_left 2
          · (intro w hS; obtain ⟨t0, t1, t2, t3, t4⟩ := hS; go_simp; try with_reducible rfl)
          · (go_simp; try with_reducible rfl)
          refine late_load (i := 5) (m := 5) (v := ?_) (a' := ?_) rfl (by kernel_rfl) (by kernel_rfl) (by kernel_rfl) (by kernel_rfl) (by rfl) (fun _ _ _ h => h) (by rfl) HST.out ?_ ?_ ?_
          rotate_left 2
          · (intro w hS; obtain ⟨t0, t1, t2, t3, t4⟩ := hS; go_simp; try with_reducible rfl)
          · (go_simp; try with_reducible rfl)
          refine late_one (i := 6) (by kernel_rfl) rfl (fun KR hKR => ?_)
          go_simp
          skip
          refine hKR _ _ (fun _ => hsa) ?_
          clear hKR KR
          refine late_one (i := 7) (by kernel_rfl) rfl (fun KR hKR => ?_)
          refine step_run_append (by rfl) (.tmp 106) (.tmp 108) (by rfl) (by rfl) (by rfl) hrun ?_
          refine hKR _ _ (fun _ => hs7) ?_
          clear hKR KR
          refine late_pure (i := 8) (v := ?_) (a' := ?_) rfl (by kernel_rfl) (by kernel_rfl) (by kernel_rfl) (by rfl) (fun _ _ _ h => h) (by rfl) (fun _ => hs7) ?_ ?_ ?_
          rotate_left 2
          · (intro w; go_simp; try with_reducible rfl)
          · (go_simp; try with_reducible rfl)
          refine late_pure (i := 9) (v := ?_) (a' := ?_) rfl (by kernel_rfl) (by kernel_rfl) (by kernel_rfl) (by rfl) (fun _ _ _ h => h) (by rfl) (fun _ => hs7) ?_ ?_ ?_
          rotate_left 2
          · (intro w; go_simp; try with_reducible rfl)
          · (go_simp; try with_reducible rfl)
          refine late_one (i := 10) (by kernel_rfl) rfl (fun KR hKR => ?_)
          have u0 := H1'.out.cell 3
          have u1 := H1'.out.frozen 3
          go_simp
          refine hKR _ _ (fun h0 => Bool.noConfusion (show (true : Bool) = false from h0)) ?_
          clear hKR KR
          refine late_done' (by kernel_rfl) ?_ _
          go_wp2_with fail
          go_end0
          refine ⟨rfl, ?_, H5'.out, H6'.out⟩
          rw [HPG.out]
          exact LoomAt.next hZG hZ hBG hB H5'.out H1.out H2.out H3.out (by omega) (by omega) (by omega) H4'.out H3'.out
        · have d0 : (kd == 0) = true := by simpa using hc
          obtain ⟨q, rfl⟩ : ∃ q, np = q + 1 := ⟨np - 1, by omega⟩
          have d1 : decide (0 < q + 1) = true := by simp
          have d2 : decide ((0 : Int) < (q : Int) + 1) = true := by rw [decide_eq_true_iff]; omega
          have d3 : IntKind.i64.wrap ((q : Int) + 1 - 1) = (q : Int) := by rw [IntWalk.i64_in _ (by omega)]; omega
          have d4 : IntKind.i64.wrap (q : Int) = (q : Int) := IntWalk.i64_in _ (by omega)
          have d5 : q + 1 - 1 = q := by omega
          rw [d5] at hkc
          have hkc2 : (w2.setCell ⟨g8, 0, none⟩ (.int .i64 kd)).cell? ⟨gP, q * 4, none⟩ = some (.int .i64 kk) := (World.cell?_setCell_other _ _ _ _ (fun e => hg2 (congrArg Addr.block e).symm)).trans hkc
          subst hPe
          clear hc hnp
          obtain ⟨A', c', w', hrun, hb1, hb2, hb3, hb4, hb5, hb6⟩ := HPU.out
          have hs7 := pushS_of hb1 hb2
          have H1' := Lib.hid hb1
          have H3' := Lib.hid hb3
          have H4' := Lib.hid hb4
          have H5' := Lib.hid hb5
          have H6' := Lib.hid hb6
          have hsa : PushS G g8 (.slice (some ⟨gP, 0, none⟩) (q + 1) cp) kd (.slice B1 i e1) (.slice B2 j e2) (.slice B3 k e3) ((w2.setCell ⟨g8, 0, none⟩ (.int .i64 kd)).alloc (.cells #[.int .i64 kd, .slice B1 i e1, .slice B2 j e2, .slice B3 k e3] 38)) := pushS_of (HM3.out.blk.alloc _) (HM3.out.p.alloc _)
          clear hb1 hb2 hb3 hb4 hb5 hb6
          obtain ⟨t0, t1, t2, t3, t4⟩ := HST.out
          go_wp2_with fail
          clear t0 t1 t2 t3 t4
          refine wp_region_late (S := PushS G g8 (.slice (some ⟨gP, 0, none⟩) (q + 1) cp) kd (.slice B1 i e1) (.slice B2 j e2) (.slice B3 k e3)) (s := 10) (by kernel_rfl) ?_
          refine late_pure (i := 0) (v := ?_) (a' := ?_) rfl (by kernel_rfl) (by kernel_rfl) (by kernel_rfl) (by rfl) (fun _ _ _ h => h) (by rfl) (fun _ => HST.out) ?_ ?_ ?_
          rotate_left 2
          · (intro w; go_simp; try with_reducible rfl)
          · (go_simp; try with_reducible rfl)
          refine late_pure (i := 1) (v := ?_) (a' := ?_) rfl (by kernel_rfl) (by kernel_rfl) (by kernel_rfl) (by rfl) (fun _ _ _ h => h) (by rfl) (fun _ => HST.out) ?_ ?_ ?_
          rotate_left 2
          · (intro w; go_simp; try with_reducible rfl)
          · (go_simp; try with_reducible rfl)
          refine late_pure (i := 2) (v := ?_) (a' := ?_) rfl (by kernel_rfl) (by kernel_rfl) (by kernel_rfl) (by rfl) (fun _ _ _ h => h) (by rfl) (fun _ => HST.out) ?_ ?_ ?_
          rotate_left 2
          · (intro w; go_simp; try with_reducible rfl)
          · (go_simp; try with_reducible rfl)
          refine late_pure (i := 3) (v := ?_) (a' := ?_) rfl (by kernel_rfl) (by kernel_rfl) (by kernel_rfl) (by rfl) (fun _ _ _ h => h) (by rfl) (fun _ => HST.out) ?_ ?_ ?_
          rotate_left 2
          · (intro w; go_simp; try with_reducible rfl)
          · (go_simp; try with_reducible rfl)
          refine late_load (i := 4) (m := 4) (v := ?_) (a' := ?_) rfl (by kernel_rfl) (by kernel_rfl) (by kernel_rfl) (by kernel_rfl) (by rfl) (fun _ _ _ h => h) (by rfl) HST.out ?_ ?_ ?_
          rotate_left 2
          · (intro w hS; obtain ⟨t0, t1, t2, t3, t4⟩ := hS; go_simp; try with_reducible rfl)
          · (go_simp; try with_reducible rfl)
          refine late_load (i := 5) (m := 5) (v := ?_) (a' := ?_) rfl (by kernel_rfl) (by kernel_rfl) (by kernel_rfl) (by kernel_rfl) (by rfl) (fun _ _ _ h => h) (by rfl) HST.out ?_ ?_ ?_
          rotate_left 2
          · (intro w hS; obtain ⟨t0, t1, t2, t3, t4⟩ := hS; go_simp; try with_reducible rfl)
          · (go_simp; try with_reducible rfl)
          refine late_one (i := 6) (by kernel_rfl) rfl (fun KR hKR => ?_)
          go_simp
          skip
          refine hKR _ _ (fun _ => hsa) ?_
          clear hKR KR
          refine late_one (i := 7) (by kernel_rfl) rfl (fun KR hKR => ?_)
          refine step_run_append (by rfl) (.tmp 106) (.tmp 108) (by rfl) (by rfl) (by rfl) hrun ?_
          refine hKR _ _ (fun _ => hs7) ?_
          clear hKR KR
          refine late_pure (i := 8) (v := ?_) (a' := ?_) rfl (by kernel_rfl) (by kernel_rfl) (by kernel_rfl) (by rfl) (fun _ _ _ h => h) (by rfl) (fun _ => hs7) ?_ ?_ ?_
          rotate_left 2
          · (intro w; go_simp; try with_reducible rfl)
          · (go_simp; try with_reducible rfl)
          refine late_pure (i := 9) (v := ?_) (a' := ?_) rfl (by kernel_rfl) (by kernel_rfl) (by kernel_rfl) (by rfl) (fun _ _ _ h => h) (by rfl) (fun _ => hs7) ?_ ?_ ?_
          rotate_left 2
          · (intro w; go_simp; try with_reducible rfl)
          · (go_simp; try with_reducible rfl)
          refine late_one (i := 10) (by kernel_rfl) rfl (fun KR hKR => ?_)
          have u0 := H1'.out.cell 3
          have u1 := H1'.out.frozen 3
          go_simp
          refine hKR _ _ (fun h0 => Bool.noConfusion (show (true : Bool) = false from h0)) ?_
          clear hKR KR
          refine late_done' (by kernel_rfl) ?_ _
          go_wp2_with fail
          go_end0
          refine ⟨rfl, ?_, H5'.out, H6'.out⟩
          rw [HPG.out]
          exact LoomAt.next hZG hZ hBG hB H5'.out H1.out H2.out H3.out (by omega) (by omega) (by omega) H4'.out H3'.out
      · obtain ⟨hc, hnp, v1, v2, v3, m1, m2, m3, init, lb, lo, lt, hpe, HL⟩ := hjoin
        have hb3 : lb.length ≤ 100000000 ∧ lo.length ≤ 100000000 ∧ lt.length ≤ 100000000 := HPS.out (0, lb, lo, lt) (by rw [hpe]; simp)
        have HPG : Hid (pushG ps (b.take i, o.take j, t.take k) = init ++ [(0, lb ++ b.take i, lo ++ o.take j, lt ++ t.take k)]) := Lib.hid (by rw [hpe]; exact pushG_join HN (by rw [← HKD.out]; exact hc))
        have r1 : m1 ≤ 100000000 := by have := HL.out.r1.1; rw [strV_length] at this; omega
        have r2 : m2 ≤ 100000000 := by have := HL.out.r2.1; rw [strV_length] at this; omega
        have r3 : m3 ≤ 100000000 := by have := HL.out.r3.1; rw [strV_length] at this; omega
        obtain ⟨gP, cP, D1, D2, D3, E1, E2, E3, F1, F2, F3, a1, a2, a3, b1, b2, b3, d1, d2, d3, wA, wB, wC, hv, rfl, rfl, rfl, hu1, hu2, hu3, hkc, hS0, hSA, hSB, hSC, hfz, run1, run2, run3, hpa, hbk, hbl2, hkz⟩ := HL.out.join hZG hZ hB hBG HM3.out.drew (by omega) (by omega) (by omega)
        obtain ⟨gQ, cQ, hw, hcapn, hltn, -, -⟩ := HL.out.kcell hgr2.out
        rw [hv] at hw
        injection hw with hw1 hw2 hw3
        injection hw1 with hw1
        injection hw1 with hw1
        subst hw1 hw3
        have h88 := HM3.out.hp
        injection hv with hv1 hv2 hv3
        injection hu1 with x1 _ x2
        injection hu2 with x3 _ x4
        injection hu3 with x5 _ x6
        subst x1 x2 x3 x4 x5 x6
        subst hv3 hv1
        have hq : init.length + 1 = np := HL.out.len
        generalize init.length = q at *
        subst hq
        have HPA := Lib.hid hpa
        have HBK := Lib.hid hbk
        have HB2 := Lib.hid hbl2
        have HKZ := Lib.hid hkz
        have HFZ := Lib.hid hfz
        have e0 : (kd == 0) = true := by simpa using hc
        have e1' : decide (0 < q + 1) = true := by simp
        have e2' : decide ((0 : Int) < (q : Int) + 1) = true := by rw [decide_eq_true_iff]; omega
        have e3' : IntKind.i64.wrap ((q : Int) + 1 - 1) = (q : Int) := by rw [IntWalk.i64_in _ (by omega)]; omega
        have e4' : IntKind.i64.wrap (q : Int) = (q : Int) := IntWalk.i64_in _ (by omega)
        have hkc2 : (w2.setCell ⟨g8, 0, none⟩ (.int .i64 kd)).cell? ⟨gP, q * 4, none⟩ = some (.int .i64 0) := hkc
        have hkc3 : w2.cell? ⟨gP, q * 4, none⟩ = some (.int .i64 0) := by
          have hne : gP ≠ g8 := by omega
          exact (World.cell?_setCell_other _ _ _ _ (fun e => hne (congrArg Addr.block e).symm)).symm.trans hkc
        clear hc hpa hbk hbl2 hkz hfz hkc HL hnp
        obtain ⟨t0, t1, t2, t3, t4⟩ := HST.out
        have hcap : (q : Int) + 1 ≤ (cp : Int) := by omega
        go_wp2_with fail
        clear t0 t1 t2 t3 t4
        refine wp_region_late (S := JoinS gP (q * 4) g8 (.slice D1 m1 a1) (.slice D2 m2 a2) (.slice D3 m3 a3) (.slice B1 i e1) (.slice B2 j e2) (.slice B3 k e3)) (s := 26) (by kernel_rfl) ?_
        refine late_pure (i := 0) (v := ?_) (a' := ?_) rfl (by kernel_rfl) (by kernel_rfl) (by kernel_rfl) (by rfl) (fun _ _ _ h => h) (by rfl) (fun _ => hS0) ?_ ?_ ?_
        rotate_left 2
        · (intro w; go_simp; try with_reducible rfl)
        · (go_simp; try with_reducible rfl)
        refine late_pure (i := 1) (v := ?_) (a' := ?_) rfl (by kernel_rfl) (by kernel_rfl) (by kernel_rfl) (by rfl) (fun _ _ _ h => h) (by rfl) (fun _ => hS0) ?_ ?_ ?_
        rotate_left 2
        · (intro w; go_simp; try with_reducible rfl)
        · (go_simp; try with_reducible rfl)
        refine late_pure (i := 2) (v := ?_) (a' := ?_) rfl (by kernel_rfl) (by kernel_rfl) (by kernel_rfl) (by rfl) (fun _ _ _ h => h) (by rfl) (fun _ => hS0) ?_ ?_ ?_
        rotate_left 2
        · (intro w; go_simp; try with_reducible rfl)
        · (go_simp; try with_reducible rfl)
        refine late_pure (i := 3) (v := ?_) (a' := ?_) rfl (by kernel_rfl) (by kernel_rfl) (by kernel_rfl) (by rfl) (fun _ _ _ h => h) (by rfl) (fun _ => hS0) ?_ ?_ ?_
        rotate_left 2
        · (intro w; go_simp; try with_reducible rfl)
        · (go_simp; try with_reducible rfl)
        refine late_pure (i := 4) (v := ?_) (a' := ?_) rfl (by kernel_rfl) (by kernel_rfl) (by kernel_rfl) (by rfl) (fun _ _ _ h => h) (by rfl) (fun _ => hS0) ?_ ?_ ?_
        rotate_left 2
        · (intro w; go_simp; try with_reducible rfl)
        · (go_simp; try with_reducible rfl)
        refine late_pure (i := 5) (v := ?_) (a' := ?_) rfl (by kernel_rfl) (by kernel_rfl) (by kernel_rfl) (by rfl) (fun _ _ _ h => h) (by rfl) (fun _ => hS0) ?_ ?_ ?_
        rotate_left 2
        · (intro w; go_simp; try with_reducible rfl)
        · (go_simp; try with_reducible rfl)
        refine late_load (i := 6) (m := 6) (v := ?_) (a' := ?_) rfl (by kernel_rfl) (by kernel_rfl) (by kernel_rfl) (by kernel_rfl) (by rfl) (fun _ _ _ h => h) (by rfl) hS0 ?_ ?_ ?_
        rotate_left 2
        · (intro w hS; obtain ⟨⟨t1, t2, t3⟩, t4, t5, t6⟩ := hS; go_simp; try with_reducible rfl)
        · (go_simp; try with_reducible rfl)
        refine late_pure (i := 7) (v := ?_) (a' := ?_) rfl (by kernel_rfl) (by kernel_rfl) (by kernel_rfl) (by rfl) (fun _ _ _ h => h) (by rfl) (fun _ => hS0) ?_ ?_ ?_
        rotate_left 2
        · (intro w; go_simp; try with_reducible rfl)
        · (go_simp; try with_reducible rfl)
        refine late_load (i := 8) (m := 8) (v := ?_) (a' := ?_) rfl (by kernel_rfl) (by kernel_rfl) (by kernel_rfl) (by kernel_rfl) (by rfl) (fun _ _ _ h => h) (by rfl) hS0 ?_ ?_ ?_
        rotate_left 2
        · (intro w hS; obtain ⟨⟨t1, t2, t3⟩, t4, t5, t6⟩ := hS; go_simp; try with_reducible rfl)
        · (go_simp; try with_reducible rfl)
        refine late_pure (i := 10) (v := ?_) (a' := ?_) rfl (by kernel_rfl) (by kernel_rfl) (by kernel_rfl) (by rfl) (fun _ _ _ h => h) (by rfl) (fun _ => hS0) ?_ ?_ ?_
        rotate_left 2
        · (intro w; go_simp; try with_reducible rfl)
        · (go_simp; try with_reducible rfl)
        refine late_pure (i := 11) (v := ?_) (a' := ?_) rfl (by kernel_rfl) (by kernel_rfl) (by kernel_rfl) (by rfl) (fun _ _ _ h => h) (by rfl) (fun _ => hS0) ?_ ?_ ?_
        rotate_left 2
        · (intro w; go_simp; try with_reducible rfl)
        · (go_simp; try with_reducible rfl)
        refine late_pure (i := 12) (v := ?_) (a' := ?_) rfl (by kernel_rfl) (by kernel_rfl) (by kernel_rfl) (by rfl) (fun _ _ _ h => h) (by rfl) (fun _ => hS0) ?_ ?_ ?_
        rotate_left 2
        · (intro w; go_simp; try with_reducible rfl)
        · (go_simp; try with_reducible rfl)
        refine late_load (i := 13) (m := 13) (v := ?_) (a' := ?_) rfl (by kernel_rfl) (by kernel_rfl) (by kernel_rfl) (by kernel_rfl) (by rfl) (fun _ _ _ h => h) (by rfl) hS0 ?_ ?_ ?_
        rotate_left 2
        · (intro w hS; obtain ⟨⟨t1, t2, t3⟩, t4, t5, t6⟩ := hS; go_simp; try with_reducible rfl)
        · (go_simp; try with_reducible rfl)
        refine late_pure (i := 14) (v := ?_) (a' := ?_) rfl (by kernel_rfl) (by kernel_rfl) (by kernel_rfl) (by rfl) (fun _ _ _ h => h) (by rfl) (fun _ => hS0) ?_ ?_ ?_
        rotate_left 2
        · (intro w; go_simp; try with_reducible rfl)
        · (go_simp; try with_reducible rfl)
        refine late_load (i := 15) (m := 16) (v := ?_) (a' := ?_) rfl (by kernel_rfl) (by kernel_rfl) (by kernel_rfl) (by kernel_rfl) (by rfl) (fun _ _ _ h => h) (by rfl) hS0 ?_ ?_ ?_
        rotate_left 2
        · (intro w hS; obtain ⟨⟨t1, t2, t3⟩, t4, t5, t6⟩ := hS; go_simp; try with_reducible rfl)
        · (go_simp; try with_reducible rfl)
        refine late_pure (i := 17) (v := ?_) (a' := ?_) rfl (by kernel_rfl) (by kernel_rfl) (by kernel_rfl) (by rfl) (fun _ _ _ h => h) (by rfl) (fun _ => hS0) ?_ ?_ ?_
        rotate_left 2
        · (intro w; go_simp; try with_reducible rfl)
        · (go_simp; try with_reducible rfl)
        refine late_pure (i := 18) (v := ?_) (a' := ?_) rfl (by kernel_rfl) (by kernel_rfl) (by kernel_rfl) (by rfl) (fun _ _ _ h => h) (by rfl) (fun _ => hS0) ?_ ?_ ?_
        rotate_left 2
        · (intro w; go_simp; try with_reducible rfl)
        · (go_simp; try with_reducible rfl)
        refine late_pure (i := 19) (v := ?_) (a' := ?_) rfl (by kernel_rfl) (by kernel_rfl) (by kernel_rfl) (by rfl) (fun _ _ _ h => h) (by rfl) (fun _ => hS0) ?_ ?_ ?_
        rotate_left 2
        · (intro w; go_simp; try with_reducible rfl)
        · (go_simp; try with_reducible rfl)
        refine late_load (i := 20) (m := 20) (v := ?_) (a' := ?_) rfl (by kernel_rfl) (by kernel_rfl) (by kernel_rfl) (by kernel_rfl) (by rfl) (fun _ _ _ h => h) (by rfl) hS0 ?_ ?_ ?_
        rotate_left 2
        · (intro w hS; obtain ⟨⟨t1, t2, t3⟩, t4, t5, t6⟩ := hS; go_simp; try with_reducible rfl)
        · (go_simp; try with_reducible rfl)
        refine late_pure (i := 21) (v := ?_) (a' := ?_) rfl (by kernel_rfl) (by kernel_rfl) (by kernel_rfl) (by rfl) (fun _ _ _ h => h) (by rfl) (fun _ => hS0) ?_ ?_ ?_
        rotate_left 2
        · (intro w; go_simp; try with_reducible rfl)
        · (go_simp; try with_reducible rfl)
        refine late_load (i := 22) (m := 23) (v := ?_) (a' := ?_) rfl (by kernel_rfl) (by kernel_rfl) (by kernel_rfl) (by kernel_rfl) (by rfl) (fun _ _ _ h => h) (by rfl) hS0 ?_ ?_ ?_
        rotate_left 2
        · (intro w hS; obtain ⟨⟨t1, t2, t3⟩, t4, t5, t6⟩ := hS; go_simp; try with_reducible rfl)
        · (go_simp; try with_reducible rfl)
        refine late_one (i := 9) (by kernel_rfl) rfl (fun KR hKR => ?_)
        refine step_run_append (by rfl) (.tmp 78) (.tmp 80) (by rfl) (by rfl) (by rfl) run1 ?_
        refine hKR _ _ (fun _ => hSA) ?_
        clear hKR KR
        refine late_one (i := 16) (by kernel_rfl) rfl (fun KR hKR => ?_)
        refine step_run_append (by rfl) (.tmp 85) (.tmp 87) (by rfl) (by rfl) (by rfl) run2 ?_
        refine hKR _ _ (fun _ => hSB) ?_
        clear hKR KR
        refine late_one (i := 23) (by kernel_rfl) rfl (fun KR hKR => ?_)
        refine step_run_append (by rfl) (.tmp 92) (.tmp 94) (by rfl) (by rfl) (by rfl) run3 ?_
        refine hKR _ _ (fun _ => hSC) ?_
        clear hKR KR
        refine late_pure (i := 24) (v := ?_) (a' := ?_) rfl (by kernel_rfl) (by kernel_rfl) (by kernel_rfl) (by rfl) (fun _ _ _ h => h) (by rfl) (fun _ => hSC) ?_ ?_ ?_
        rotate_left 2
        · (intro w; go_simp; try with_reducible rfl)
        · (go_simp; try with_reducible rfl)
        refine late_pure (i := 25) (v := ?_) (a' := ?_) rfl (by kernel_rfl) (by kernel_rfl) (by kernel_rfl) (by rfl) (fun _ _ _ h => h) (by rfl) (fun _ => hSC) ?_ ?_ ?_
        rotate_left 2
        · (intro w; go_simp; try with_reducible rfl)
        · (go_simp; try with_reducible rfl)
        refine late_one (i := 26) (by kernel_rfl) rfl (fun KR hKR => ?_)
        obtain ⟨⟨t1, t2, t3⟩, t4, t5, t6⟩ := hSC
        have fz1 := HFZ.out (q * 4 + 1)
        have fz2 := HFZ.out (q * 4 + 2)
        have fz3 := HFZ.out (q * 4 + 3)
        go_simp
        refine hKR _ _ (fun h0 => Bool.noConfusion (show (true : Bool) = false from h0)) ?_
        clear hKR KR
        refine late_pure (i := 27) (v := ?_) (a' := ?_) rfl (by kernel_rfl) (by kernel_rfl) (by kernel_rfl) (by rfl) (fun _ _ _ h => h) (by rfl) (fun h0 => Bool.noConfusion (show (true : Bool) = false from h0)) ?_ ?_ ?_
        rotate_left 2
        · (intro w; go_simp; try with_reducible rfl)
        · (go_simp; try with_reducible rfl)
        refine late_pure (i := 28) (v := ?_) (a' := ?_) rfl (by kernel_rfl) (by kernel_rfl) (by kernel_rfl) (by rfl) (fun _ _ _ h => h) (by rfl) (fun h0 => Bool.noConfusion (show (true : Bool) = false from h0)) ?_ ?_ ?_
        rotate_left 2
        · (intro w; go_simp; try with_reducible rfl)
        · (go_simp; try with_reducible rfl)
        refine late_one (i := 29) (by kernel_rfl) rfl (fun KR hKR => ?_)
        go_simp
        refine hKR _ _ (fun h0 => Bool.noConfusion (show (true : Bool) = false from h0)) ?_
        clear hKR KR
        refine late_pure (i := 30) (v := ?_) (a' := ?_) rfl (by kernel_rfl) (by kernel_rfl) (by kernel_rfl) (by rfl) (fun _ _ _ h => h) (by rfl) (fun h0 => Bool.noConfusion (show (true : Bool) = false from h0)) ?_ ?_ ?_
        rotate_left 2
        · (intro w; go_simp; try with_reducible rfl)
        · (go_simp; try with_reducible rfl)
        refine late_pure (i := 31) (v := ?_) (a' := ?_) rfl (by kernel_rfl) (by kernel_rfl) (by kernel_rfl) (by rfl) (fun _ _ _ h => h) (by rfl) (fun h0 => Bool.noConfusion (show (true : Bool) = false from h0)) ?_ ?_ ?_
        rotate_left 2
        · (intro w; go_simp; try with_reducible rfl)
        · (go_simp; try with_reducible rfl)
        refine late_one (i := 32) (by kernel_rfl) rfl (fun KR hKR => ?_)
        go_simp
        refine hKR _ _ (fun h0 => Bool.noConfusion (show (true : Bool) = false from h0)) ?_
        clear hKR KR
        refine late_done' (by kernel_rfl) ?_ _
        go_wp2_with fail
        refine bodyPost_ret (results_none rfl _ _ _) rfl ?_
        refine ⟨rfl, ?_, HB2.out, HKZ.out⟩
        rw [HPG.out]
        exact LoomAt.next hZG hZ hBG hB HB2.out H1.out H2.out H3.out (by omega) (by omega) (by omega) HBK.out HPA.out
end Go.Proofs.Ytbdlpigokahnoaa
