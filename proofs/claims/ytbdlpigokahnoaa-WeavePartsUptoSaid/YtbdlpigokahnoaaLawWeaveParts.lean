/- The walk of the law WeaveParts: all parts together are the base, ours and theirs. -/
import Derived.Test.YtbdlpigokahnoaaLawWeaveSides
import Derived.Test.YtbdlpigokahnoaaWeaveRows3
import Derived.Test.YtbdlpigokahnoaaRegionLate
import Derived.Deep.DeepCutAuto
import Derived.Deep.CutBlock
import Derived.Deep.QuietTactic
import Derived.BigQuiet
set_option linter.unusedVariables false
namespace Go.Proofs.Ytbdlpigokahnoaa
open Go.RowKit

theorem flat_take {ps : List Pt} {K : Nat} {p : Pt} (h : ps[K]? = some p) : baseOf (ps.take (K + 1)) = baseOf (ps.take K) ++ p.2.1 ∧ oursOf (ps.take (K + 1)) = oursOf (ps.take K) ++ p.2.2.1 ∧ theirsOf (ps.take (K + 1)) = theirsOf (ps.take K) ++ p.2.2.2 := by
  rw [List.take_add_one, h]
  simp [baseOf, oursOf, theirsOf]
theorem flat_take_len (ps : List Pt) (K : Nat) : (baseOf (ps.take K)).length ≤ (baseOf ps).length ∧ (oursOf (ps.take K)).length ≤ (oursOf ps).length ∧ (theirsOf (ps.take K)).length ≤ (theirsOf ps).length := by
  have h := List.take_append_drop K ps
  have e1 : baseOf ps = baseOf (ps.take K) ++ baseOf (ps.drop K) := by
    unfold baseOf
    rw [← List.flatMap_append, h]
  have e2 : oursOf ps = oursOf (ps.take K) ++ oursOf (ps.drop K) := by
    unfold oursOf
    rw [← List.flatMap_append, h]
  have e3 : theirsOf ps = theirsOf (ps.take K) ++ theirsOf (ps.drop K) := by
    unfold theirsOf
    rw [← List.flatMap_append, h]
  rw [e1, e2, e3]
  simp only [List.length_append]
  omega

set_option maxRecDepth 100000 in
set_option maxHeartbeats 4000000 in
theorem weaveParts_any (A : Option Addr) (ca : Nat) (a : List ByteArray) (B : Option Addr) (cb : Nat) (b : List ByteArray) (C : Option Addr) (cc : Nat) (c : List ByteArray) (w : World) (hca : a.length ≤ ca) (hcm : ca ≤ maxLen) (ha : SlOf strR w no A a) (ba : strB a ≤ 1048576)
    (hcb : b.length ≤ cb) (hcbm : cb ≤ maxLen) (hb : SlOf strR w no B b) (bb : strB b ≤ 1048576) (hcc : c.length ≤ cc) (hccm : cc ≤ maxLen) (hc : SlOf strR w no C c) (bc : strB c ≤ 1048576) :
    Calls Try.prog 6 #[.slice A a.length ca, .slice B b.length cb, .slice C c.length cc] w fun e w' => e = .returned (.bool true) ∧ Below w.heap.size w w' := by
  have hn : a.length ≤ 1048576 := Nat.le_trans (strB_length a) ba
  have hm : b.length ≤ 1048576 := Nat.le_trans (strB_length b) bb
  have hr : c.length ≤ 1048576 := Nat.le_trans (strB_length c) bc
  have CA := Lib.hid (Came.mk ha.str hca hcm (strB_short ba (by omega)))
  have CB := Lib.hid (Came.mk hb.str hcb hcbm (strB_short bb (by omega)))
  have CC := Lib.hid (Came.mk hc.str hcc hccm (strB_short bc (by omega)))
  clear ba bb bc ha hb hc hca hcb hcc hcm hcbm hccm
  have hPL := merge_length a b c
  have HPE := Lib.hid (merge_part_le a b c)
  have HOK := Lib.hid (merge_ok a b c)
  obtain ⟨ef1, ef2, ef3⟩ := merge_flat a b c
  have HF1 := Lib.hid ef1
  have HF2 := Lib.hid ef2
  have HF3 := Lib.hid ef3
  clear ef1 ef2 ef3
  generalize hN : a.length = n at *
  generalize hM : b.length = m at *
  generalize hR : c.length = r at *
  have HN := Lib.hid hN
  have HM := Lib.hid hM
  have HR := Lib.hid hR
  clear hN hM hR
  go_enter Try.func6, Try.ntmps6
  go_wp2_with fail
  refine (awake8_any _).mono ?_
  rintro e w1 ⟨rfl, hb1⟩
  have HB1 := Lib.hid hb1
  clear hb1
  go_wp2_with fail
  refine (small_any A B C n m r ca cb cc w1 (by omega) (by omega) (by omega)).mono ?_
  by_cases hs : n ≤ 200 ∧ m ≤ 200 ∧ r ≤ 200
  · rw [small_three hs]
    rintro e w' ⟨rfl, rfl⟩
    obtain ⟨hn2, hm2, hr2⟩ := hs
    go_wp2_with fail
    refine (mergeC_any (CA.out.below HB1.out) (CB.out.below HB1.out) (CC.out.below HB1.out) (by omega) (by omega) (by omega)).mono ?_
    rintro e w2 ⟨P, L, cP, rfl, ho, hb2⟩
    have HB2 := Lib.hid (HB1.out.trans (hb2.mono HB1.out.size))
    have HSL := Lib.hid ho.sl
    have HL := Lib.hid ho.1
    have hL : L ≤ 600 := by have := ho.1; omega
    clear ho hb2
    generalize mergeG a b c = ps at *
    have HTL := Lib.hid (fun K => flat_take_len ps K)
    go_wp2_with fail
    go_loopw [9, 10, 11, 30] (fun s1 s2 s3 i wr => ∃ (K k1 k2 k3 f1 f2 f3 : Nat) (D1 D2 D3 : Option Addr), i = .int .i64 K ∧ K ≤ L ∧ s1 = .slice D1 k1 f1 ∧ s2 = .slice D2 k2 f2 ∧ s3 = .slice D3 k3 f3 ∧ k1 ≤ 1000 ∧ k2 ≤ 1000 ∧ k3 ≤ 1000 ∧
      Hid (Rows3 w2.heap.size wr (.slice D1 k1 f1) (.slice D2 k2 f2) (.slice D3 k3 f3) k1 k2 k3 (baseOf (ps.take K)) (oursOf (ps.take K)) (theirsOf (ps.take K))) ∧ Below w2.heap.size w2 wr) (fun _ _ _ i _ => L - (intOf i).toNat)
    case atStart => exact ⟨0, 0, 0, 0, 0, 0, 0, none, none, none, rfl, Nat.zero_le _, rfl, rfl, rfl, by omega, by omega, by omega, Lib.hid (Rows3.nil _ _), Below.refl _ _⟩
    case round =>
      obtain ⟨K, k1, k2, k3, f1, f2, f3, D1, D2, D3, rfl, hK, rfl, rfl, rfl, b1, b2, b3, HR3, hbr⟩ := hrel
      by_cases hlt : K < L
      · obtain ⟨bb, off, z, x, y, t, A1, A2, A3, n1, n2, n3, c1, c2, c3, rfl, hbb, hx, hwf, q0, q1, q2, q3, hs1, hs2, hs3, -⟩ := pt_look HSL.out HL.out hlt
        have HPV := Lib.hid (fun j (hj : j < L) => pt_look (i := j) HSL.out HL.out hj)
        have q0 := (hbr.cell hbb).trans q0
        have q1 := (hbr.cell hbb).trans q1
        have q2 := (hbr.cell hbb).trans q2
        have q3 := (hbr.cell hbb).trans q3
        have HX := Lib.hid hx
        have hbd := HPE.out _ (List.mem_of_getElem? hx)
        have hkd := HOK.out.kind _ (List.mem_of_getElem? hx)
        have hne := HOK.out.some_ _ (List.mem_of_getElem? hx)
        simp only at hbd hkd hne
        have g1 : n1 ≤ 200 := by have := hs1.len; omega
        have g2 : n2 ≤ 200 := by have := hs2.len; omega
        have g3 : n3 ≤ 200 := by have := hs3.len; omega
        have hsum : ¬ n1 + n2 + n3 = 0 := by have := hs1.len; have := hs2.len; have := hs3.len; omega
        have HKD := Lib.hid hkd
        have HBR := Lib.hid hbr
        have hlt' : (K : Int) < (L : Int) := by omega
        have hk1 : IntKind.i64.wrap ((K : Int) + 1) = (K : Int) + 1 := IntWalk.i64_in _ (by omega)
        have hft := flat_take hx
        have hl1 := HTL.out (K + 1)
        rw [HF1.out, HF2.out, HF3.out, HN.out, HM.out, HR.out] at hl1
        have HFT := Lib.hid hft
        have hbx : Below wr.heap.size wr (wr.alloc (.cells #[.int .i64 z, .slice A1 n1 c1, .slice A2 n2 c2, .slice A3 n3 c3] 38)).drew := below_d1 _ _
        have hbk := (Blk.new wr 38 #[.int .i64 z, .slice A1 n1 c1, .slice A2 n2 c2, .slice A3 n3 c3]).same (w' := (wr.alloc (.cells #[.int .i64 z, .slice A1 n1 c1, .slice A2 n2 c2, .slice A3 n3 c3] 38)).drew) ⟨1, rfl⟩
        have hbw := hbr.trans (hbx.mono hbr.size)
        obtain ⟨E1, E2, E3, e1, e2, e3, wA, wB, wC, run1, run2, run3, hr3, hbC, hkeep⟩ := (HR3.out.below hbx).push hbw.size c1 c2 c3 (fun W h => hs1.str.below (hbw.trans h)) (fun W h => hs2.str.below (hbw.trans h)) (fun W h => hs3.str.below (hbw.trans h)) (by omega) (by omega) (by omega)
        have hkg := hkeep wr.heap.size (by simp) (fun h => by have := HR3.out.lt _ (.inl h); omega) (fun h => by have := HR3.out.lt _ (.inr (.inl h)); omega) (fun h => by have := HR3.out.lt _ (.inr (.inr h)); omega)
        have KA := Lib.hid (show Blk wA wr.heap.size 38 #[.int .i64 z, .slice A1 n1 c1, .slice A2 n2 c2, .slice A3 n3 c3] from hkg.1.trans hbk)
        have KB := Lib.hid (show Blk wB wr.heap.size 38 #[.int .i64 z, .slice A1 n1 c1, .slice A2 n2 c2, .slice A3 n3 c3] from hkg.2.1.trans hbk)
        have KC := Lib.hid (show Blk wC wr.heap.size 38 #[.int .i64 z, .slice A1 n1 c1, .slice A2 n2 c2, .slice A3 n3 c3] from hkg.2.2.trans hbk)
        have K0 := Lib.hid hbk
        have RUN1 := Lib.hid run1
        have RUN2 := Lib.hid run2
        have RUN3 := Lib.hid run3
        rw [← hft.1, ← hft.2.1, ← hft.2.2] at hr3
        have HRC := Lib.hid hr3
        have HBC := Lib.hid (hbw.trans hbC)
        have S1 := Lib.hid (hs1.str.below HBC.out)
        have S2 := Lib.hid (hs2.str.below HBC.out)
        have S3 := Lib.hid (hs3.str.below HBC.out)
        have hj1 : k1 + n1 ≤ 1000 := by
          have h1 := HRC.out.r1.1; rw [strV_length] at h1; omega
        have hj2 : k2 + n2 ≤ 1000 := by
          have h1 := HRC.out.r2.1; rw [strV_length] at h1; omega
        have hj3 : k3 + n3 ≤ 1000 := by
          have h1 := HRC.out.r3.1; rw [strV_length] at h1; omega
        clear hx hbd hkd hne hft hl1 hbx hbk hbw run1 run2 run3 hr3 hbC hkeep hkg hbr hs1 hs2 hs3
        go_upto_region 10 with fail
        go_cut [9, 10, 11] (fun u1 u2 u3 wx => u1 = .slice E1 (k1 + n1) e1 ∧ u2 = .slice E2 (k2 + n2) e2 ∧ u3 = .slice E3 (k3 + n3) e3 ∧ wx = wC)
        case first =>
          clear HPV
          refine wp_region_held (S := fun W => Blk W wr.heap.size 38 #[.int .i64 z, .slice A1 n1 c1, .slice A2 n2 c2, .slice A3 n3 c3]) (by kernel_rfl) ?_
          change wpAnyH _ _ _ _ _ _ _ _ (World.drew _)
          refine held_take (i := 0) (v := ?_) (a' := ?_) rfl (by kernel_rfl) (by kernel_rfl) (by kernel_rfl) (fun _ _ _ h => h) (by rfl) K0.out ?_ ?_ ?_
          rotate_left 2
          · (intro w hS; go_simp; try with_reducible rfl)
          · (go_simp; try with_reducible rfl)
          refine held_take (i := 1) (v := ?_) (a' := ?_) rfl (by kernel_rfl) (by kernel_rfl) (by kernel_rfl) (fun _ _ _ h => h) (by rfl) K0.out ?_ ?_ ?_
          rotate_left 2
          · (intro w hS; go_simp; try with_reducible rfl)
          · (go_simp; try with_reducible rfl)
          refine held_take (i := 2) (v := ?_) (a' := ?_) rfl (by kernel_rfl) (by kernel_rfl) (by kernel_rfl) (fun _ _ _ h => h) (by rfl) K0.out ?_ ?_ ?_
          rotate_left 2
          · (intro w hS; have t := hS.cell 1; go_simp; try with_reducible rfl)
          · (go_simp; try with_reducible rfl)
          refine held_take (i := 4) (v := ?_) (a' := ?_) rfl (by kernel_rfl) (by kernel_rfl) (by kernel_rfl) (fun _ _ _ h => h) (by rfl) K0.out ?_ ?_ ?_
          rotate_left 2
          · (intro w hS; go_simp; try with_reducible rfl)
          · (go_simp; try with_reducible rfl)
          refine held_take (i := 5) (v := ?_) (a' := ?_) rfl (by kernel_rfl) (by kernel_rfl) (by kernel_rfl) (fun _ _ _ h => h) (by rfl) K0.out ?_ ?_ ?_
          rotate_left 2
          · (intro w hS; go_simp; try with_reducible rfl)
          · (go_simp; try with_reducible rfl)
          refine held_take (i := 6) (v := ?_) (a' := ?_) rfl (by kernel_rfl) (by kernel_rfl) (by kernel_rfl) (fun _ _ _ h => h) (by rfl) K0.out ?_ ?_ ?_
          rotate_left 2
          · (intro w hS; have t := hS.cell 2; go_simp; try with_reducible rfl)
          · (go_simp; try with_reducible rfl)
          refine held_take (i := 8) (v := ?_) (a' := ?_) rfl (by kernel_rfl) (by kernel_rfl) (by kernel_rfl) (fun _ _ _ h => h) (by rfl) K0.out ?_ ?_ ?_
          rotate_left 2
          · (intro w hS; go_simp; try with_reducible rfl)
          · (go_simp; try with_reducible rfl)
          refine held_take (i := 9) (v := ?_) (a' := ?_) rfl (by kernel_rfl) (by kernel_rfl) (by kernel_rfl) (fun _ _ _ h => h) (by rfl) K0.out ?_ ?_ ?_
          rotate_left 2
          · (intro w hS; go_simp; try with_reducible rfl)
          · (go_simp; try with_reducible rfl)
          refine held_take (i := 10) (v := ?_) (a' := ?_) rfl (by kernel_rfl) (by kernel_rfl) (by kernel_rfl) (fun _ _ _ h => h) (by rfl) K0.out ?_ ?_ ?_
          rotate_left 2
          · (intro w hS; have t := hS.cell 3; go_simp; try with_reducible rfl)
          · (go_simp; try with_reducible rfl)
          refine held_ready (rs := [3]) (by kernel_rfl) (by simp) ?_
          refine AllHeld.cons rfl (fun KR hKR => ?_) ?_
          · refine step_run_append (by rfl) (.tmp 35) (.tmp 37) (by rfl) (by rfl) (by rfl) RUN1.out ?_
            refine hKR _ _ KA.out ?_
            clear hKR KR
            refine held_ready (rs := [7]) (by kernel_rfl) (by simp) ?_
            refine AllHeld.cons rfl (fun KR hKR => ?_) ?_
            · refine step_run_append (by rfl) (.tmp 39) (.tmp 41) (by rfl) (by rfl) (by rfl) RUN2.out ?_
              refine hKR _ _ KB.out ?_
              clear hKR KR
              refine held_ready (rs := [11]) (by kernel_rfl) (by simp) ?_
              refine AllHeld.cons rfl (fun KR hKR => ?_) ?_
              · refine step_run_append (by rfl) (.tmp 43) (.tmp 45) (by rfl) (by rfl) (by rfl) RUN3.out ?_
                refine hKR _ _ KC.out ?_
                clear hKR KR
                refine held_take (i := 12) (v := ?_) (a' := ?_) rfl (by kernel_rfl) (by kernel_rfl) (by kernel_rfl) (fun _ _ _ h => h) (by rfl) KC.out ?_ ?_ ?_
                rotate_left 2
                · (intro w hS; go_simp; try with_reducible rfl)
                · (go_simp; try with_reducible rfl)
                refine held_take (i := 13) (v := ?_) (a' := ?_) rfl (by kernel_rfl) (by kernel_rfl) (by kernel_rfl) (fun _ _ _ h => h) (by rfl) KC.out ?_ ?_ ?_
                rotate_left 2
                · (intro w hS; go_simp; try with_reducible rfl)
                · (go_simp; try with_reducible rfl)
                refine held_take (i := 14) (v := ?_) (a' := ?_) rfl (by kernel_rfl) (by kernel_rfl) (by kernel_rfl) (fun _ _ _ h => h) (by rfl) KC.out ?_ ?_ ?_
                rotate_left 2
                · (intro w hS; go_simp; try with_reducible rfl)
                · (go_simp; try with_reducible rfl)
                refine wpAnyH_done (by kernel_rfl) ?_ _
                go_wp2_with fail
                go_meet
                case rel => exact ⟨rfl, rfl, rfl, rfl⟩
              exact AllHeld.nil
            exact AllHeld.nil
          exact AllHeld.nil
        case rest =>
          obtain ⟨rfl, rfl, rfl, rfl⟩ := hcut
          clear HBR RUN1 RUN2 RUN3 KA KB K0 HR3 HTL HFT
          have HQ := Lib.hid (fun q => refKind_any A1 A2 A3 n1 n2 n3 c1 c2 c3 x y t (wc.drewN q) (S1.out.below ((Same.drewN (Same.refl wc) q).below _)) (S2.out.below ((Same.drewN (Same.refl wc) q).below _)) (S3.out.below ((Same.drewN (Same.refl wc) q).below _)) (by omega) (by omega) (by omega))
          rw [← HKD.out] at HQ
          have p0 := KC.out.cell 0
          have p1 := KC.out.cell 1
          have p2 := KC.out.cell 2
          have p3 := KC.out.cell 3
          have w1' : IntKind.i64.wrap ((n1 : Int) + (n2 : Int)) = (n1 : Int) + (n2 : Int) := IntWalk.i64_in _ (by omega)
          have w2' : IntKind.i64.wrap ((n1 : Int) + (n2 : Int) + (n3 : Int)) = (n1 : Int) + (n2 : Int) + (n3 : Int) := IntWalk.i64_in _ (by omega)
          have w3' : ((n1 : Int) + (n2 : Int) + (n3 : Int) == 0) = false := by rw [beq_eq_false_iff_ne]; omega
          have w4' : decide ((n1 : Int) + (n2 : Int) + (n3 : Int) = 0) = false := by rw [decide_eq_false_iff_not]; omega
          have z1 : (z != z) = false := by simp
          have fin : ∀ q : Nat, ∃ (K_1 a1 a2 a3 b1 b2 b3 : Nat) (D1 D2 D3 : Option Addr), Value.int .i64 ((K : Int) + 1) = .int .i64 K_1 ∧ K_1 ≤ L ∧ Value.slice E1 (k1 + n1) e1 = .slice D1 a1 b1 ∧ Value.slice E2 (k2 + n2) e2 = .slice D2 a2 b2 ∧ Value.slice E3 (k3 + n3) e3 = .slice D3 a3 b3 ∧ a1 ≤ 1000 ∧ a2 ≤ 1000 ∧ a3 ≤ 1000 ∧
              Hid (Rows3 w2.heap.size (wc.drewN q) (.slice D1 a1 b1) (.slice D2 a2 b2) (.slice D3 a3 b3) a1 a2 a3 (baseOf (ps.take K_1)) (oursOf (ps.take K_1)) (theirsOf (ps.take K_1))) ∧ Below w2.heap.size w2 (wc.drewN q) := fun q =>
            ⟨K + 1, k1 + n1, k2 + n2, k3 + n3, e1, e2, e3, E1, E2, E3, by go_num, by omega, rfl, rfl, rfl, hj1, hj2, hj3, Lib.hid (HRC.out.below ((Same.drewN (Same.refl wc) q).below _)), HBC.out.trans ((Same.drewN (Same.refl wc) q).below _)⟩
          have FIN := Lib.hid fin
          clear fin S1 S2 S3 KC
          rcases Nat.eq_zero_or_pos K with hK0 | hK0
          · subst hK0
            clear HPV HX
            go_wp2_with fail
            go_quiet ((go_at_call 26; exact quiet_s (HQ.out _)))
            go_wp2_with fail
            go_roundw
            case rel => simpa using FIN.out nq
            case measure => simp [intOf]; omega
          · obtain ⟨q, rfl⟩ : ∃ q, K = q + 1 := ⟨K - 1, by omega⟩
            have i1 : decide ((0 : Int) < (q : Int) + 1) = true := by rw [decide_eq_true_iff]; omega
            have i2 : decide (0 < q + 1) = true := by simp
            have i3 : IntKind.i64.wrap ((q : Int) + 1 - 1) = (q : Int) := by rw [IntWalk.i64_in _ (by omega)]; omega
            by_cases hz0 : z = 0
            · subst hz0
              obtain ⟨b', o', z', x', y', t', A1', A2', A3', n1', n2', n3', c1', c2', c3', ee, hbb', hx', hwf', r0, -⟩ := HPV.out q (by omega)
              injection ee with ee
              injection ee with ee1 ee2
              subst ee1 ee2
              have hz' : ¬ z' = 0 := fun h => HOK.out.apart q _ _ hx' HX.out ⟨h, rfl⟩
              have i4 : (z' == 0) = false := by simpa using hz'
              have r0 := (HBC.out.cell hbb').trans r0
              have i5 : (q : Int) < (L : Int) := by omega
              clear hx' hz' HPV HX hwf'
              go_wp2_with fail
              go_quiet ((go_at_call 26; exact quiet_s (HQ.out _)))
              go_wp2_with fail
              go_roundw
              case rel => exact FIN.out nq
              case measure => simp [intOf]; omega
            · have i4 : (z == 0) = false := by simpa using hz0
              clear hz0 HPV HX
              go_wp2_with fail
              go_quiet ((go_at_call 26; exact quiet_s (HQ.out _)))
              go_wp2_with fail
              go_roundw
              case rel => exact FIN.out nq
              case measure => simp [intOf]; omega
      · obtain rfl : K = L := by omega
        have hr3 := HR3.out
        have hps : ps.take K = ps := List.take_of_length_le (by rw [HL.out]; exact Nat.le_refl _)
        rw [hps, HF1.out, HF2.out, HF3.out] at hr3
        have W1 := Lib.hid (Sl.ofOwn hr3.r1)
        have W2 := Lib.hid (Sl.ofOwn hr3.r2)
        have W3 := Lib.hid (Sl.ofOwn hr3.r3)
        have HBR := Lib.hid (HB2.out.trans (hbr.mono HB2.out.size))
        clear hr3 hps hbr HR3 HTL
        go_wp2_with fail
        refine (refSame_any D1 A k1 f1 n ca a a wr W1.out (CA.out.below HBR.out).sl (by omega) (by omega)).mono ?_
        rintro e w4 ⟨rfl, s4⟩
        rw [sameS_self]
        go_wp2_with fail
        refine (refSame_any D2 B k2 f2 m cb b b w4 (s4.sl W2.out) (s4.sl (CB.out.below HBR.out).sl) (by omega) (by omega)).mono ?_
        rintro e w5 ⟨rfl, s5⟩
        rw [sameS_self]
        go_wp2_with fail
        refine (refSame_any D3 C k3 f3 r cc c c w5 (s5.sl (s4.sl W3.out)) (s5.sl (s4.sl (CC.out.below HBR.out).sl)) (by omega) (by omega)).mono ?_
        rintro e w6 ⟨rfl, s6⟩
        rw [sameS_self]
        go_wp2_with fail
        go_ret
        exact ⟨rfl, HBR.out.trans (((s4.trans s5).trans s6).below _)⟩
  · rw [small_not hs]
    rintro e w' ⟨rfl, rfl⟩
    clear hs
    go_wp2_with fail
    go_ret
    exact ⟨rfl, HB1.out⟩
end Go.Proofs.Ytbdlpigokahnoaa
