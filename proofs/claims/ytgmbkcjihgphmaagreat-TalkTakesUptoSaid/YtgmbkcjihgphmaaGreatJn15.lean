/- Contracts and laws for what the statement reaches, joined: ShaBlock1, ShaBuf, ShaSumLaw. -/
import Derived.Test.YtgmbkcjihgphmaaGreatJn14
import Derived.Test.YtgmbkcjihgphmaaGreatJn2
import Derived.BigQuiet
import Derived.Deep.CutBlock
import Derived.Deep.DeepCutAuto
import Derived.Deep.MidRow
import Derived.Deep.QuietTactic
import Derived.Deep.Upon
/- (*state).block. -/
set_option linter.unusedVariables false
namespace Go.Proofs.YtgmbkcjihgphmaaGreat
open Go.RowKit
attribute [local go_sem ↓] cutA_eq
attribute [local go_sem] u_add u_wadd u_xor u_and u_or u_not u_shr3 u_shr10
set_option maxRecDepth 100000 in
set_option maxHeartbeats 4000000 in
theorem block_any (G : Nat) (B n c : Nat) (bo : Nat) (s : List UInt32) (b : List UInt8) (W0 : World) (hG : WBlk W0 G 98 s) (hs8 : s.length = 8) (hb : Sl W0 1 (some ⟨B, bo, none⟩) n (bytesV b)) (h64 : 64 ≤ n) (hc : n ≤ c) (hm : c ≤ maxLen) (hne : B ≠ G) :
  Calls Tryz.prog 37 #[.pointer (some ⟨G, 0, none⟩), .slice (some ⟨B, bo, none⟩) n c] W0 fun e w' => e = .returned (.tuple #[]) ∧ WBlk w' G 98 (blockS s (b.take 64)) ∧ W0.grownBy w' (some G) := by
 have hl : b.length = n := by have := hb.1; simpa [bytesV] using this
 have HL := Lib.hid hl
 have HG := Lib.hid hG
 have HB := Lib.hid hb
 have H8 := Lib.hid hs8
 unfold maxLen at hm
 clear hl hG hb hs8
 have hz : Blk (W0.alloc (.cells (wV (List.replicate 64 0)).toArray 145)) W0.heap.size 145 (wV (List.replicate 64 0)).toArray := Blk.new W0 _ _
 have HZ := Lib.hid (show Blk (W0.alloc (.cells (wV (List.replicate 64 0)).toArray 145)) W0.heap.size 145 (wV (loadL b 0 (partB b 0 0))).toArray from hz)
 clear hz
 go_enter Tryz.func37, Tryz.ntmps37
 go_wp2_with fail
 go_loopw [19] (fun i wr => ∃ K : Nat, i = .int .i64 K ∧ K ≤ 16 ∧ Hid (WBlk wr W0.heap.size 145 (loadL b K (partB b K 0))) ∧ Below W0.heap.size W0 wr) (fun i _ => 16 - (intOf i).toNat)
 case atStart => exact ⟨0, rfl, by omega, HZ, (Below.refl _ _).alloc (Nat.le_refl _) _⟩
 case round =>
  obtain ⟨K, rfl, hK, HW, hbr⟩ := hrel
  by_cases hlt : K < 16
  ·have hlt' : (K : Int) < 16 := by omega
   have m1 : IntKind.i64.wrap (4 * (K : Int)) = 4 * (K : Int) := IntWalk.i64_in _ (by omega)
   have m2 : IntKind.i64.wrap (4 * (K : Int) + 4) = 4 * (K : Int) + 4 := IntWalk.i64_in _ (by omega)
   have m3 : (0 : Int) ≤ 4 * (K : Int) := by omega
   have m4 : (4 * (K : Int)) ≤ 4 * (K : Int) + 4 := by omega
   have m5 : 4 * (K : Int) + 4 ≤ (c : Int) := by omega
   have m6 : (4 * (K : Int)).toNat = 4 * K := by omega
   have m7 : (4 * (K : Int) + 4).toNat = 4 * K + 4 := by omega
   go_wp2_with fail
   have HBR := Lib.hid hbr
   clear hbr m1 m2 m3 m4 m5 m6 m7
   obtain ⟨wo, rfl⟩ : ∃ wo : World, wo = wr := ⟨_, rfl⟩
   go_loopw [30] (fun i wr => ∃ j : Nat, i = .int .i64 j ∧ j ≤ 4 ∧ Hid (WBlk wr W0.heap.size 145 (loadL b K (partB b K j))) ∧ Below W0.heap.size W0 wr) (fun i _ => 4 - (intOf i).toNat)
   case atStart => exact ⟨0, rfl, by omega, HW, HBR.out⟩
   case round =>
    obtain ⟨j, rfl, hj, HWj, hbr⟩ := hrel
    by_cases hj4 : j < 4
    ·have hj4' : (j : Int) < 4 := by omega
     obtain ⟨b', o', y, eb, hbl, hcy, hdy⟩ := bytesV_look (k := 4 * K + j) HB.out (by omega)
     injection eb with eb
     injection eb with eb1 eb2
     subst eb1 eb2
     have hy : b[4 * K + j]? = some y := by
      have h1 : (b.drop (4 * K + j))[0]? = some y := by rw [hdy]; rfl
      rw [List.getElem?_drop, Nat.add_zero] at h1; exact h1
     have HP := Lib.hid (partB_succ hy)
     have cy := (hbr.cell hbl).trans hcy
     rw [← Nat.add_assoc] at cy
     have cw := HWj.out.at (loadL_get b K _)
     have fw := HWj.out.frozen K
     have HS := Lib.hid (HWj.out.put K (mixB (partB b K j) y))
     have HBS := Lib.hid (hbr.setCell (p := ⟨W0.heap.size, K, none⟩) (Nat.le_refl _) (.int .u32 (uI (mixB (partB b K j) y))))
     rw [loadL_set, ← HP.out] at HS
     rw [← HP.out] at HBS
     have n1 := u_shl (partB b K j) 8 (by omega) 256 rfl
     have n2 : bits .or .u32 (uI (partB b K j) * 256 % 4294967296) ((y.toNat : Int) % 4294967296) = uI (partB b K (j + 1)) := by rw [n1, show (y.toNat : Int) % 4294967296 = (y.toNat : Int) from by have := y.toNat_lt; omega, u_byte, u_or, HP.out]; rfl
     have hj1 : IntKind.i64.wrap ((j : Int) + 1) = (j : Int) + 1 := IntWalk.i64_in _ (by omega)
     clear n1 hcy hdy hy hbr
     go_wp2_with fail
     go_roundw
     case rel => exact ⟨j + 1, by go_num, by omega, HS, HBS.out⟩
     case measure => simp [intOf]; omega
    ·obtain rfl : j = 4 := by omega
     have HN := Lib.hid (show WBlk wr W0.heap.size 145 (loadL b (K + 1) (partB b (K + 1) 0)) by rw [← loadL_next b hlt]; exact HWj.out)
     have hk1 : IntKind.i64.wrap ((K : Int) + 1) = (K : Int) + 1 := IntWalk.i64_in _ (by omega)
     have HB2 := Lib.hid hbr
     clear HWj hbr HW
     go_wp2_with fail
     go_roundw
     case rel => exact ⟨K + 1, by go_num, by omega, HN, HB2.out⟩
     case measure => simp [intOf]; omega
  ·have hKe : K = 16 := by omega
   have hge : ¬ (K : Int) < 16 := by omega
   have HW0 := Lib.hid (show WBlk wr W0.heap.size 145 (schedW b (16 - 16) ++ List.replicate (64 - 16) 0) by subst hKe; exact HW.out)
   have HBR := Lib.hid hbr
   clear hbr HW HZ hlt hK hKe
   go_wp2_with fail
   obtain ⟨wo, rfl⟩ : ∃ wo : World, wo = wr := ⟨_, rfl⟩
   go_loopw [8] (fun i wr => ∃ M : Nat, i = .int .i64 M ∧ 16 ≤ M ∧ M ≤ 64 ∧ Hid (WBlk wr W0.heap.size 145 (schedW b (M - 16) ++ List.replicate (64 - M) 0)) ∧ Below W0.heap.size W0 wr) (fun i _ => 64 - (intOf i).toNat)
   case atStart => exact ⟨16, rfl, by omega, by omega, HW0, HBR.out⟩
   case round =>
    obtain ⟨M, rfl, hM, hM2, HW, hbr⟩ := hrel
    by_cases hlt : M < 64
    ·have hlt' : (M : Int) < 64 := by omega
     have a1 := HW.out.at (sched_get b (i := M - 15) hM (by omega))
     have a2 := HW.out.at (sched_get b (i := M - 2) hM (by omega))
     have a3 := HW.out.at (sched_get b (i := M - 16) hM (by omega))
     have a4 := HW.out.at (sched_get b (i := M - 7) hM (by omega))
     have a5 := HW.out.at (sched_hole b hM hlt)
     have f5 := HW.out.frozen M
     have HN := Lib.hid (HW.out.put M (nextW (schedW b (M - 16))))
     rw [sched_put b hM hlt] at HN
     have HNX := Lib.hid (show nextW (schedW b (M - 16)) = (schedW b (M - 16)).getD (M - 16) 0 + (schedW b (M - 16)).getD (M - 7) 0 + sg0 ((schedW b (M - 16)).getD (M - 15) 0) + sg1 ((schedW b (M - 16)).getD (M - 2) 0) by
      unfold nextW; rw [schedW_length, show 16 + (M - 16) = M from by omega])
     have HBS := Lib.hid (hbr.setCell (p := ⟨W0.heap.size, M, none⟩) (Nat.le_refl _) (.int .u32 (uI (nextW (schedW b (M - 16))))))
     generalize nextW (schedW b (M - 16)) = nx at *
     generalize (schedW b (M - 16)).getD (M - 15) 0 = x1 at *
     generalize (schedW b (M - 16)).getD (M - 2) 0 = x2 at *
     generalize (schedW b (M - 16)).getD (M - 16) 0 = x3 at *
     generalize (schedW b (M - 16)).getD (M - 7) 0 = x4 at *
     have i1 : IntKind.i64.wrap ((M : Int) - 15) = (M : Int) - 15 := IntWalk.i64_in _ (by omega)
     have i2 : IntKind.i64.wrap ((M : Int) - 2) = (M : Int) - 2 := IntWalk.i64_in _ (by omega)
     have i3 : IntKind.i64.wrap ((M : Int) - 16) = (M : Int) - 16 := IntWalk.i64_in _ (by omega)
     have i4 : IntKind.i64.wrap ((M : Int) - 7) = (M : Int) - 7 := IntWalk.i64_in _ (by omega)
     have j1 : (0 : Int) ≤ (M : Int) - 15 := by omega
     have j2 : (0 : Int) ≤ (M : Int) - 2 := by omega
     have j3 : (0 : Int) ≤ (M : Int) - 16 := by omega
     have j4 : (0 : Int) ≤ (M : Int) - 7 := by omega
     have o1 : (15 : Int) ≤ (M : Int) := by omega
     have o2 : (2 : Int) ≤ (M : Int) := by omega
     have o3 : (16 : Int) ≤ (M : Int) := by omega
     have o4 : (7 : Int) ≤ (M : Int) := by omega
     have k1 : (M : Int) - 15 < 64 := by omega
     have k2 : (M : Int) - 2 < 64 := by omega
     have k3 : (M : Int) - 16 < 64 := by omega
     have k4 : (M : Int) - 7 < 64 := by omega
     have l1 : ((M : Int) - 15).toNat = M - 15 := by omega
     have l2 : ((M : Int) - 2).toNat = M - 2 := by omega
     have l3 : ((M : Int) - 16).toNat = M - 16 := by omega
     have l4 : ((M : Int) - 7).toNat = M - 7 := by omega
     have HBR2 := Lib.hid hbr
     clear hbr HW
     go_wp2_with fail
     go_quiet (fail)
     go_wp2_with fail
     refine wp_region_late (S := fun W => Same wr W) (s := 29) (by kernel_rfl) ?_
     refine rgL 0 rfl (fun _ _ _ h => h) (fun _ => ((Same.drewN (Same.refl wr) nq).drew)) ?_
     refine rgL 1 rfl (fun _ _ _ h => h) (fun _ => ((Same.drewN (Same.refl wr) nq).drew)) ?_
     refine rgL 2 rfl (fun _ _ _ h => h) (fun _ => ((Same.drewN (Same.refl wr) nq).drew)) ?_
     refine rgL 3 rfl (fun _ _ _ h => h) (fun _ => ((Same.drewN (Same.refl wr) nq).drew)) ?_
     refine late_load (i := 4) (m := 4) (v := ?_) (a' := ?_) rfl (by kernel_rfl) (by kernel_rfl) (by kernel_rfl) (by kernel_rfl) (by rfl) (fun _ _ _ h => h) (by rfl) ((Same.drewN (Same.refl wr) nq).drew) ?_ ?_ ?_
     rotate_left 2
     ·(intro w hS; have t := (hS.cell ⟨W0.heap.size, M - 16, none⟩).trans a3; go_simp; try with_reducible rfl)
     ·(go_simp; try with_reducible rfl)
     refine rgL 5 rfl (fun _ _ _ h => h) (fun _ => ((Same.drewN (Same.refl wr) nq).drew)) ?_
     refine rgL 6 rfl (fun _ _ _ h => h) (fun _ => ((Same.drewN (Same.refl wr) nq).drew)) ?_
     refine rgL 7 rfl (fun _ _ _ h => h) (fun _ => ((Same.drewN (Same.refl wr) nq).drew)) ?_
     refine late_load (i := 8) (m := 8) (v := ?_) (a' := ?_) rfl (by kernel_rfl) (by kernel_rfl) (by kernel_rfl) (by kernel_rfl) (by rfl) (fun _ _ _ h => h) (by rfl) ((Same.drewN (Same.refl wr) nq).drew) ?_ ?_ ?_
     rotate_left 2
     ·(intro w hS; have t := (hS.cell ⟨W0.heap.size, M - 7, none⟩).trans a4; go_simp; try with_reducible rfl)
     ·(go_simp; try with_reducible rfl)
     refine rgL 9 rfl (fun _ _ _ h => h) (fun _ => ((Same.drewN (Same.refl wr) nq).drew)) ?_
     refine rgL 10 rfl (fun _ _ _ h => h) (fun _ => ((Same.drewN (Same.refl wr) nq).drew)) ?_
     refine rgL 12 rfl (fun _ _ _ h => h) (fun _ => ((Same.drewN (Same.refl wr) nq).drew)) ?_
     refine rgL 15 rfl (fun _ _ _ h => h) (fun _ => ((Same.drewN (Same.refl wr) nq).drew)) ?_
     refine rgL 16 rfl (fun _ _ _ h => h) (fun _ => ((Same.drewN (Same.refl wr) nq).drew)) ?_
     refine rgL 19 rfl (fun _ _ _ h => h) (fun _ => ((Same.drewN (Same.refl wr) nq).drew)) ?_
     refine rgL 21 rfl (fun _ _ _ h => h) (fun _ => ((Same.drewN (Same.refl wr) nq).drew)) ?_
     refine rgL 24 rfl (fun _ _ _ h => h) (fun _ => ((Same.drewN (Same.refl wr) nq).drew)) ?_
     refine rgL 25 rfl (fun _ _ _ h => h) (fun _ => ((Same.drewN (Same.refl wr) nq).drew)) ?_
     refine late_one (i := 11) (by kernel_rfl) rfl (fun KR hKR => ?_)
     go_simp
     refine (rot_7 _ _).mono ?_
     rintro e wx ⟨rfl, rfl⟩
     refine hKR _ _ (fun _ => ((Same.drewN (Same.refl wr) nq).drew)) ?_
     clear hKR KR
     refine late_one (i := 13) (by kernel_rfl) rfl (fun KR hKR => ?_)
     go_simp
     refine (rot_18 _ _).mono ?_
     rintro e wx ⟨rfl, rfl⟩
     refine hKR _ _ (fun _ => ((Same.drewN (Same.refl wr) nq).drew)) ?_
     clear hKR KR
     refine rgL 14 rfl (fun _ _ _ h => h) (fun _ => ((Same.drewN (Same.refl wr) nq).drew)) ?_
     refine rgL 17 rfl (fun _ _ _ h => h) (fun _ => ((Same.drewN (Same.refl wr) nq).drew)) ?_
     refine rgL 18 rfl (fun _ _ _ h => h) (fun _ => ((Same.drewN (Same.refl wr) nq).drew)) ?_
     refine late_one (i := 20) (by kernel_rfl) rfl (fun KR hKR => ?_)
     go_simp
     refine (rot_17 _ _).mono ?_
     rintro e wx ⟨rfl, rfl⟩
     refine hKR _ _ (fun _ => ((Same.drewN (Same.refl wr) nq).drew)) ?_
     clear hKR KR
     refine late_one (i := 22) (by kernel_rfl) rfl (fun KR hKR => ?_)
     go_simp
     refine (rot_19 _ _).mono ?_
     rintro e wx ⟨rfl, rfl⟩
     refine hKR _ _ (fun _ => ((Same.drewN (Same.refl wr) nq).drew)) ?_
     clear hKR KR
     refine rgL 23 rfl (fun _ _ _ h => h) (fun _ => ((Same.drewN (Same.refl wr) nq).drew)) ?_
     refine rgL 26 rfl (fun _ _ _ h => h) (fun _ => ((Same.drewN (Same.refl wr) nq).drew)) ?_
     refine rgL 27 rfl (fun _ _ _ h => h) (fun _ => ((Same.drewN (Same.refl wr) nq).drew)) ?_
     refine rgL 28 rfl (fun _ _ _ h => h) (fun _ => ((Same.drewN (Same.refl wr) nq).drew)) ?_
     refine late_one (i := 29) (by kernel_rfl) rfl (fun KR hKR => ?_)
     go_simp
     refine hKR _ _ (fun h0 => Bool.noConfusion (show (true : Bool) = false from h0)) ?_
     clear hKR KR
     refine late_done' (by kernel_rfl) ?_ _
     go_wp2_with fail
     rw [HNX.out] at HN HBS
     go_roundw
     case rel => exact ⟨M + 1, by go_num, by omega, by omega, Lib.hid (HN.out.same ⟨nq + 1, rfl⟩), HBS.out.trans (Same.below ⟨nq + 1, rfl⟩ _)⟩
     case measure => simp [intOf]; omega
    ·have hMe : M = 64 := by omega
     have hge2 : ¬ (M : Int) < 64 := by omega
     have HW := Lib.hid (show WBlk wr W0.heap.size 145 (schedW b 48) by subst hMe; simpa using HW.out)
     have HBR2 := Lib.hid hbr
     clear hbr hMe hlt hM hM2
     obtain ⟨s0, s1, s2, s3, s4, s5, s6, s7, rfl⟩ := list8 H8.out
     have hGw : WBlk wr G 98 [s0, s1, s2, s3, s4, s5, s6, s7] := HG.out.below HBR2.out HG.out.lt
     have c0 := hGw.at (i := 0) rfl
     have c1 := hGw.at (i := 1) rfl
     have c2 := hGw.at (i := 2) rfl
     have c3 := hGw.at (i := 3) rfl
     have c4 := hGw.at (i := 4) rfl
     have c5 := hGw.at (i := 5) rfl
     have c6 := hGw.at (i := 6) rfl
     have c7 := hGw.at (i := 7) rfl
     have HGL := Lib.hid HG.out.lt
     clear hGw
     obtain ⟨wo, rfl⟩ : ∃ wo : World, wo = wr := ⟨_, rfl⟩
     have HV := Lib.hid (show WBlk (wo.alloc (.cells (wV [s0, s1, s2, s3, s4, s5, s6, s7]).toArray 98)) wo.heap.size 98 (rndsW (schedW b 48) [s0, s1, s2, s3, s4, s5, s6, s7] 0) from Blk.new wo _ _)
     have HW2 := Lib.hid (HW.out.alloc (.cells (wV [s0, s1, s2, s3, s4, s5, s6, s7]).toArray 98))
     have HB3 := Lib.hid (HBR2.out.alloc HBR2.out.size (.cells (wV [s0, s1, s2, s3, s4, s5, s6, s7]).toArray 98))
     have HWL := Lib.hid HW.out.lt
     go_wp2_with fail
     refine (rounds_any _).mono ?_
     rintro e wk ⟨rfl, hbk⟩
     have HV3 := Lib.hid (HV.out.below hbk HV.out.lt)
     have HW3 := Lib.hid (HW2.out.below hbk HW2.out.lt)
     have HB4 := Lib.hid (HB3.out.trans (hbk.mono HB3.out.size))
     have HV0 := Lib.hid (show W0.heap.size ≤ wo.heap.size from HBR2.out.size)
     obtain ⟨KV, hKV⟩ : ∃ KV, KV = (wV shaK).toArray := ⟨_, rfl⟩
     rw [← hKV]
     have HKV := Lib.hid hKV
     clear hKV hbk HV HW2 HB3 c0 c1 c2 c3 c4 c5 c6 c7 HW HW0
     have HWW := Lib.hid (show ∀ R, R < 64 → ∃ x, (schedW b 48)[R]? = some x from fun R hR => ⟨_, getD_get (by rw [schedW_length]; omega)⟩)
     have HRES := Lib.hid (show blockS [s0, s1, s2, s3, s4, s5, s6, s7] (b.take 64) = addL [s0, s1, s2, s3, s4, s5, s6, s7] (rndsW (schedW b 48) [s0, s1, s2, s3, s4, s5, s6, s7] 64) by rw [blockS_take]; rfl)
     generalize schedW b 48 = SW at *
     go_wp2_with fail
     go_loopw [90] (fun i wr => ∃ R : Nat, i = .int .i64 R ∧ R ≤ 64 ∧ Hid (WBlk wr wo.heap.size 98 (rndsW SW [s0, s1, s2, s3, s4, s5, s6, s7] R)) ∧ Hid (WBlk wr W0.heap.size 145 SW) ∧ Below W0.heap.size W0 wr) (fun i _ => 64 - (intOf i).toNat)
     case atStart => exact ⟨0, rfl, by omega, HV3, HW3, HB4.out⟩
     case round =>
      obtain ⟨R, rfl, hR, HVr, HWr, hbr⟩ := hrel
      by_cases hlt : R < 64
      ·have hlt' : (R : Int) < 64 := by omega
       obtain ⟨x, hx⟩ := HWW.out R hlt
       have hkx : shaK[R]? = some (shaK.getD R 0) := getD_get (by rw [shaK_length]; exact hlt)
       have hidx := run_index_agg (P := Tryz.prog) Tryz.underlying145 (by kernel_rfl) Tryz.underlying96 hlt (show KV[R]? = some (.int .u32 (uI (shaK.getD R 0))) by rw [HKV.out]; exact wV_arr hkx)
       have hwx := HWr.out.at hx
       have hstep : rndsW SW [s0, s1, s2, s3, s4, s5, s6, s7] (R + 1) = rnd (shaK.getD R 0) x (rndsW SW [s0, s1, s2, s3, s4, s5, s6, s7] R) := by
        rw [rndsW, show SW.getD R 0 = x by rw [List.getD_eq_getElem?_getD, hx]; rfl]
       have HST := Lib.hid hstep
       obtain ⟨a, b', c', d, e, f, g, h, hl8⟩ := list8 (rndsW_length SW [s0, s1, s2, s3, s4, s5, s6, s7] rfl R)
       rw [hl8] at HVr HST
       have HL8 := Lib.hid hl8
       have v0 := HVr.out.at (i := 0) rfl
       have v1 := HVr.out.at (i := 1) rfl
       have v2 := HVr.out.at (i := 2) rfl
       have v3 := HVr.out.at (i := 3) rfl
       have v4 := HVr.out.at (i := 4) rfl
       have v5 := HVr.out.at (i := 5) rfl
       have v6 := HVr.out.at (i := 6) rfl
       have v7 := HVr.out.at (i := 7) rfl
       have HBr := Lib.hid hbr
       have hk1 : IntKind.i64.wrap ((R : Int) + 1) = (R : Int) + 1 := IntWalk.i64_in _ (by omega)
       clear hx hkx hstep hl8 hbr
       generalize shaK.getD R 0 = kk at *
       have HT := Lib.hid (show rndT kk x [a, b', c', d, e, f, g, h] = h + (rotr e 6 ^^^ rotr e 11 ^^^ rotr e 25) + ((e &&& f) ^^^ (~~~e &&& g)) + kk + x from rfl)
       have HU := Lib.hid (show rndU [a, b', c', d, e, f, g, h] = (rotr a 2 ^^^ rotr a 13 ^^^ rotr a 22) + ((a &&& b') ^^^ (a &&& c') ^^^ (b' &&& c')) from rfl)
       have hrn : rnd kk x [a, b', c', d, e, f, g, h] = [rndT kk x [a, b', c', d, e, f, g, h] + rndU [a, b', c', d, e, f, g, h], a, b', c', d + rndT kk x [a, b', c', d, e, f, g, h], e, f, g] := rfl
       rw [hrn, HT.out, HU.out] at HST
       clear hrn HT HU
       go_wp2_with fail
       go_quiet (fail)
       go_wp2_with fail
       go_quiet ((go_at_call 63; exact quiet_e2 (rot_all _ _ (by decide) _)))
       go_wp2_with fail
       go_quiet ((go_at_call 63; exact quiet_e2 (rot_all _ _ (by decide) _)))
       go_upto_region 22 with fail
       go_cut [] (fun wx => WBlk wx wo.heap.size 98 [a, a, b', c', d, e, f, g] ∧ WBlk wx W0.heap.size 145 SW ∧ Below W0.heap.size W0 wx)
       case first =>
        have hne0 : W0.heap.size ≠ wo.heap.size := Nat.ne_of_lt HWL.out
        clear v0 v1 v2 v3 v4 v5 v6 v7 hwx hidx
        refine wp_region_held (S := fun _ => True) (by kernel_rfl) ?_
        change wpAnyH _ _ _ _ _ _ _ _ (World.drew _)
        refine rgT 0 trivial ?_
        refine rgT 1 trivial ?_
        refine held_ready (rs := [2]) (by kernel_rfl) (by simp) ?_
        refine AllHeld.cons rfl (fun KR hKR => ?_) ?_
        ·refine step_run_copy (by rfl) (.tmp 150) (.tmp 151) (by rfl) (by rfl) (by rfl) (copy_run (Blk.same HVr.out ((((Same.refl wr).drewN _).drewN _).drewN _).drew) _) ?_
         refine hKR _ _ trivial ?_
         clear hKR KR
         refine wpAnyH_done (by kernel_rfl) ?_ _
         go_wp2_with fail
         go_meet
         case rel => exact ⟨WBlk.row (Blk.same HVr.out ((((Same.refl wr).drewN _).drewN _).drewN _).drew) _, Blk.setRow (Blk.same HWr.out ((((Same.refl wr).drewN _).drewN _).drewN _).drew) hne0 _, below_setRow (HBr.out.trans (((((Same.refl wr).drewN _).drewN _).drewN _).drew.below _)) HV0.out _⟩
        exact AllHeld.nil
       case rest =>
        obtain ⟨hv, hw, hbw⟩ := hcut
        have y4 := hv.at (i := 4) rfl
        have y0 := hv.at (i := 0) rfl
        have z4 := Blk.frozen hv 4
        have z0 := Blk.frozen hv 0
        have hp := (hv.put 4 (d + (h + (rotr e 6 ^^^ rotr e 11 ^^^ rotr e 25) + ((e &&& f) ^^^ (~~~e &&& g)) + kk + x))).put 0 (h + (rotr e 6 ^^^ rotr e 11 ^^^ rotr e 25) + ((e &&& f) ^^^ (~~~e &&& g)) + kk + x + ((rotr a 2 ^^^ rotr a 13 ^^^ rotr a 22) + ((a &&& b') ^^^ (a &&& c') ^^^ (b' &&& c'))))
        have HP := Lib.hid hp
        have HWN := Lib.hid (Blk.other (Blk.other hw (g' := wo.heap.size) (Nat.ne_of_lt HWL.out) 4 (.int .u32 (uI (d + (h + (rotr e 6 ^^^ rotr e 11 ^^^ rotr e 25) + ((e &&& f) ^^^ (~~~e &&& g)) + kk + x))))) (g' := wo.heap.size) (Nat.ne_of_lt HWL.out) 0 (.int .u32 (uI (h + (rotr e 6 ^^^ rotr e 11 ^^^ rotr e 25) + ((e &&& f) ^^^ (~~~e &&& g)) + kk + x + ((rotr a 2 ^^^ rotr a 13 ^^^ rotr a 22) + ((a &&& b') ^^^ (a &&& c') ^^^ (b' &&& c')))))))
        have HBN := Lib.hid ((hbw.setCell (p := ⟨wo.heap.size, 4, none⟩) HV0.out (.int .u32 (uI (d + (h + (rotr e 6 ^^^ rotr e 11 ^^^ rotr e 25) + ((e &&& f) ^^^ (~~~e &&& g)) + kk + x))))).setCell (p := ⟨wo.heap.size, 0, none⟩) HV0.out (.int .u32 (uI (h + (rotr e 6 ^^^ rotr e 11 ^^^ rotr e 25) + ((e &&& f) ^^^ (~~~e &&& g)) + kk + x + ((rotr a 2 ^^^ rotr a 13 ^^^ rotr a 22) + ((a &&& b') ^^^ (a &&& c') ^^^ (b' &&& c')))))))
        clear hv hw hbw hp v0 v1 v2 v3 v4 v5 v6 v7 hwx hidx HVr HWr
        go_wp2_with fail
        go_roundw
        case rel => exact ⟨R + 1, by go_num, by omega, Lib.hid (by rw [HST.out]; exact HP.out), HWN, HBN.out⟩
        case measure => simp [intOf]; omega
      ·have hRe : R = 64 := by omega
       have hge3 : ¬ (R : Int) < 64 := by omega
       have HF := Lib.hid (show WBlk wr wo.heap.size 98 (rndsW SW [s0, s1, s2, s3, s4, s5, s6, s7] 64) by subst hRe; exact HVr.out)
       have HGR := Lib.hid (show WBlk wr G 98 (addTo [s0, s1, s2, s3, s4, s5, s6, s7] (rndsW SW [s0, s1, s2, s3, s4, s5, s6, s7] 64) 0) from HG.out.below hbr HG.out.lt)
       have HGW := Lib.hid (grown_of_below hbr (some G))
       clear hRe hlt HVr HWr hbr
       have hneG : wo.heap.size ≠ G := by have h1 := HG.out.lt; have h2 := HV0.out; omega
       obtain ⟨v0, v1, v2, v3, v4, v5, v6, v7, hV8⟩ := list8 (rndsW_length SW [s0, s1, s2, s3, s4, s5, s6, s7] rfl 64)
       rw [hV8] at HF HGR HRES
       rw [← addTo_8] at HRES
       have HV8 := Lib.hid hV8
       clear hV8 HG HB HKV HV3 HW3 HB4 H8
       generalize hs : [s0, s1, s2, s3, s4, s5, s6, s7] = ss at *
       generalize hv : [v0, v1, v2, v3, v4, v5, v6, v7] = vv at *
       have HS8 := Lib.hid (show ss.length = 8 by rw [← hs]; rfl)
       have HV8' := Lib.hid (show vv.length = 8 by rw [← hv]; rfl)
       have HSS := Lib.hid hs
       clear hs hv
       go_wp2_with fail
       obtain ⟨wz, rfl⟩ : ∃ wz : World, wz = wr := ⟨_, rfl⟩
       go_loopw [163] (fun i wr => ∃ R : Nat, i = .int .i64 R ∧ R ≤ 8 ∧ Hid (WBlk wr wo.heap.size 98 vv) ∧ Hid (WBlk wr G 98 (addTo ss vv R)) ∧ W0.grownBy wr (some G)) (fun i _ => 8 - (intOf i).toNat)
       case atStart => exact ⟨0, rfl, by omega, HF, HGR, HGW.out⟩
       case round =>
        obtain ⟨R, rfl, hR, HVr, HGr, hgr⟩ := hrel
        by_cases hlt : R < 8
        ·have hlt' : (R : Int) < 8 := by omega
         have g1 := HGr.out.at (getD_get (l := addTo ss vv R) (i := R) (by rw [addTo_length, HS8.out]; exact hlt))
         have g2 := HVr.out.at (getD_get (l := vv) (i := R) (by rw [HV8'.out]; exact hlt))
         have g3 := HGr.out.frozen R
         have HNX := Lib.hid (show WBlk (wr.setCell ⟨G, R, none⟩ (.int .u32 (uI ((addTo ss vv R).getD R 0 + vv.getD R 0)))) G 98 (addTo ss vv (R + 1)) from HGr.out.put R _)
         have HNV := Lib.hid (HVr.out.other hneG R (.int .u32 (uI ((addTo ss vv R).getD R 0 + vv.getD R 0))))
         have HNG := Lib.hid (grown_setC hgr R (.int .u32 (uI ((addTo ss vv R).getD R 0 + vv.getD R 0))))
         have hk1 : IntKind.i64.wrap ((R : Int) + 1) = (R : Int) + 1 := IntWalk.i64_in _ (by omega)
         clear hgr
         generalize (addTo ss vv R).getD R 0 = x1 at *
         generalize vv.getD R 0 = x2 at *
         go_wp2_with fail
         refine wp_region_late (S := fun W => Same wr W) (s := 11) (by kernel_rfl) ?_
         refine rgL 0 rfl (fun _ _ _ h => h) (fun _ => (Same.refl wr).drew) ?_
         refine rgL 1 rfl (fun _ _ _ h => h) (fun _ => (Same.refl wr).drew) ?_
         refine rgL 2 rfl (fun _ _ _ h => h) (fun _ => (Same.refl wr).drew) ?_
         refine rgL 3 rfl (fun _ _ _ h => h) (fun _ => (Same.refl wr).drew) ?_
         refine late_load (i := 4) (m := 4) (v := ?_) (a' := ?_) rfl (by kernel_rfl) (by kernel_rfl) (by kernel_rfl) (by kernel_rfl) (by rfl) (fun _ _ _ h => h) (by rfl) (Same.refl wr).drew ?_ ?_ ?_
         rotate_left 2
         ·(intro w hS; have t := (hS.cell ⟨G, R, none⟩).trans g1; go_simp; try with_reducible rfl)
         ·(go_simp; try with_reducible rfl)
         refine rgL 5 rfl (fun _ _ _ h => h) (fun _ => (Same.refl wr).drew) ?_
         refine rgL 6 rfl (fun _ _ _ h => h) (fun _ => (Same.refl wr).drew) ?_
         refine late_load (i := 7) (m := 7) (v := ?_) (a' := ?_) rfl (by kernel_rfl) (by kernel_rfl) (by kernel_rfl) (by kernel_rfl) (by rfl) (fun _ _ _ h => h) (by rfl) (Same.refl wr).drew ?_ ?_ ?_
         rotate_left 2
         ·(intro w hS; have t := (hS.cell ⟨wo.heap.size, R, none⟩).trans g2; go_simp; try with_reducible rfl)
         ·(go_simp; try with_reducible rfl)
         refine rgL 8 rfl (fun _ _ _ h => h) (fun _ => (Same.refl wr).drew) ?_
         refine rgL 9 rfl (fun _ _ _ h => h) (fun _ => (Same.refl wr).drew) ?_
         refine rgL 10 rfl (fun _ _ _ h => h) (fun _ => (Same.refl wr).drew) ?_
         refine late_one (i := 11) (by kernel_rfl) rfl (fun KR hKR => ?_)
         go_simp
         refine hKR _ _ (fun h0 => Bool.noConfusion (show (true : Bool) = false from h0)) ?_
         clear hKR KR
         refine late_done' (by kernel_rfl) ?_ _
         go_wp2_with fail
         go_roundw
         case rel => exact ⟨R + 1, by go_num, by omega, Lib.hid (HNV.out.same ⟨1, rfl⟩), Lib.hid (HNX.out.same ⟨1, rfl⟩), HNG.out.trans (grown_of_below (Same.below ⟨1, rfl⟩ _) _)⟩
         case measure => simp [intOf]; omega
        ·have hRe : R = 8 := by omega
         have hge4 : ¬ (R : Int) < 8 := by omega
         have HFIN := Lib.hid (show WBlk wr G 98 (addTo ss vv 8) by subst hRe; exact HGr.out)
         go_wp2_with fail
         go_end0
         exact ⟨rfl, by rw [HSS.out, HRES.out]; exact HFIN.out, hgr⟩
end Go.Proofs.YtgmbkcjihgphmaaGreat
/- A buffer that is cut ahead and appended to behind: a slice of the call's own at any place of its row. -/
namespace Go.Proofs.YtgmbkcjihgphmaaGreat
open Go.RowKit
/-- the slice at A with n elements of one cell and capacity c is the call's own and reads as cs -/
structure Buf (w : World) (base : Nat) (A : Option Addr) (n c : Nat) (cs : List Value) : Prop where
 len : cs.length = n
 le : n ≤ c
 max : c ≤ maxLen
 mem : 0 < c → ∃ g off, A = some ⟨g, off, none⟩ ∧ base ≤ g ∧ g < w.heap.size ∧ (∀ j u, cs[j]? = some u → w.cell? ⟨g, off + j, none⟩ = some u) ∧
  ∀ j, j < c → (w.cell? ⟨g, off + j, none⟩).isSome = true ∧ w.frozen? ⟨g, off + j, none⟩ = false
section
variable {w w' : World} {base : Nat} {A : Option Addr} {n c : Nat} {cs : List Value}
theorem Buf.nil : Buf w base none 0 0 [] := ⟨rfl, Nat.le_refl _, by simp [maxLen], fun h => absurd h (by omega)⟩
theorem Buf.sl (h : Buf w base A n c cs) : Sl w 1 A n cs := ⟨by rw [h.len, Nat.mul_one], fun hn => by
 obtain ⟨g, off, e, _, hl, hc, _⟩ := h.mem (by have := h.le; omega)
 exact ⟨g, off, e, hl, hc⟩⟩
theorem Buf.at (h : Buf w base A n c cs) (hn : 0 < c) : ∃ g off, A = some ⟨g, off, none⟩ ∧ base ≤ g ∧ g < w.heap.size := by
 obtain ⟨g, off, e, hb, hl, _⟩ := h.mem hn
 exact ⟨g, off, e, hb, hl⟩
/-- it stays while no block from base on turns -/
theorem Buf.keep (h : Buf w base A n c cs) (hk : ∀ b, base ≤ b → b < w.heap.size → w'.heap[b]? = w.heap[b]?) (hs : w.heap.size ≤ w'.heap.size) : Buf w' base A n c cs :=
 ⟨h.len, h.le, h.max, fun hc => by
  obtain ⟨g, off, e, hb, hl, h1, h2⟩ := h.mem hc
  refine ⟨g, off, e, hb, by omega, fun j u hu => ?_, fun j hj => ⟨?_, ?_⟩⟩
  ·rw [World.cell?_of_block (a := ⟨g, off + j, none⟩) (hk g hb hl)]; exact h1 j u hu
  ·rw [World.cell?_of_block (a := ⟨g, off + j, none⟩) (hk g hb hl)]; exact (h2 j hj).1
  ·rw [World.frozen?_of_block (a := ⟨g, off + j, none⟩) (hk g hb hl)]; exact (h2 j hj).2⟩
theorem Buf.grown (h : Buf w base A n c cs) {G : Nat} (hg : w.grownBy w' (some G)) (hG : G < base) : Buf w' base A n c cs :=
 h.keep (fun b hb hl => hg.block b hl (by intro e; injection e with e; omega)) hg.size
theorem Buf.alloc (h : Buf w base A n c cs) (o : Obj) : Buf (w.alloc o) base A n c cs :=
 h.keep (fun b _ hl => Below.heap_alloc w o b hl) (by simp)
theorem Buf.cut (h : Buf w base A n c cs) {k : Nat} (hk : k ≤ n) : Buf w base (cutA A c k) (n - k) (c - k) (cs.drop k) :=
 ⟨by rw [List.length_drop, h.len], by have := h.le; omega, by have := h.max; omega, fun hc => by
  obtain ⟨g, off, e, hb, hl, h1, h2⟩ := h.mem (by omega)
  subst e
  refine ⟨g, off + k, by rw [cutA, if_neg (by omega)]; simp [addr_add], hb, hl, fun j u hu => ?_, fun j hj => ?_⟩
  ·rw [Nat.add_assoc]; exact h1 _ u (by rw [← hu, List.getElem?_drop])
  ·rw [Nat.add_assoc]; exact h2 _ (by omega)⟩
end
theorem below_setCells {B g : Nat} {a : World} (hg : B ≤ g) : ∀ (vs : List Value) (o : Nat) (w : World), Below B a w → Below B a (w.setCells g o vs)
 | [], _, _, h => h
 | v :: vs, o, w, h => below_setCells hg vs (o + 1) _ (h.setCell (p := ⟨g, o, none⟩) hg v)
/-- append onto such a buffer, from anywhere -/
theorem buf_append {P : Program} {w : World} {t e : TypeId} {z : Value} {byt : Nat} (E : ElemOf P t e z 1 byt) {base : Nat} {A : Option Addr} {n c : Nat} {cs : List Value} (hb : Buf w base A n c cs)
  {A2 : Option Addr} {m : Nat} {news : List Value} (hr : Sl w 1 A2 m news) (h1 : ∀ u ∈ news, u.oneCell' = true) (hbytes : (n + m) * byt ≤ 140737488355328) (h63 : n + m ≤ maxLen) (hbase : base ≤ w.heap.size) (ty : TypeId) (c2 : Nat) :
  ∃ A' c' w', (Builtin.append_ #[t, t] ty #[.slice A n c, .slice A2 m c2]).run P w = .ok (.slice A' (n + m) c') w' ∧ Buf w' base A' (n + m) c' (cs ++ news) ∧ Below base w w' := by
 have hrl : news.length = m := by have := hr.1; omega
 rcases Nat.eq_zero_or_pos c with h0 | hc
 ·subst h0
  have hn : n = 0 := by have := hb.le; omega
  subst hn
  have hcs : cs = [] := List.eq_nil_of_length_eq_zero hb.len
  subst hcs
  obtain ⟨ht, hi, hzs, hsz⟩ := E
  obtain ⟨i, hi, hz, hsize, hby⟩ := info_parts hi
  have hsrc : Src P i.size t (.slice A2 m c2) m news w := by
   rcases Nat.eq_zero_or_pos m with hm | hm
   ·subst hm
    have hnn : news = [] := List.eq_nil_of_length_eq_zero hrl
    subst hnn
    cases A2 with
    | none => exact Src.ofNil w ht c2
    | some a => exact Src.ofSlice w ht a 0 c2 [] (by simp) (by intro j u hu; simp at hu) h1
   ·obtain ⟨b, off, ea, _, hcell⟩ := hr.2 hm
    subst ea
    exact Src.ofSlice w ht _ m c2 news (by rw [hsize, Nat.mul_one]; exact hrl) (fun j u hu => by rw [addr_add]; exact hcell j u hu) h1
  rcases Nat.eq_zero_or_pos m with hm | hm
  ·subst hm
   have hnn : news = [] := List.eq_nil_of_length_eq_zero hrl
   subst hnn
   exact ⟨A, 0, w, run_append_nothing w t t ty e i ht hi A 0 0 (Nat.le_refl _) _ hsrc, by simpa using hb, Below.refl _ _⟩
  ·have hold : (Builtin.firstCells i.size 0 (.slice A 0 0)).run P w.drew = .ok ([] : List Value).toArray w.drew := by
    cases A with
    | none => exact run_firstCells_none w.drew i.size 0 0 0
    | some a => exact run_firstCells_some w.drew i.size 0 a 0 0 [] (by simp) (by intro _ _ h'; simp at h')
   have hrun := run_append_grow_src (P := P) w t t ty e i z ht hi hz A 0 0 [] hold _ m news hsrc (by omega) (by simp only [maxLen] at h63; omega) (growslice_fits (by omega) (by rw [hby]; exact hbytes))
   have hge := grownCap_ge w (0 + m) 0 e
   have hcm := grownCap_le_maxLen w (0 + m) 0 e h63
   refine ⟨_, _, _, hrun, ⟨by simpa using hrl, hge, hcm, fun _ => ⟨w.heap.size, 0, rfl, hbase, by simp, fun j u hu => ?_, fun j hj => ?_⟩⟩, ((Below.refl _ _).drew).alloc hbase _⟩
   ·rw [Nat.zero_add j]
    have e1 : (w.drew.alloc (.cells (([] ++ news : List Value).toArray ++ Builtin.zeroCells z.cells (grownCap w (0 + m) 0 e - (0 + m))) e)).cell? ⟨w.heap.size, j, none⟩ = _ := World.cell?_alloc_new w.drew (([] ++ news : List Value).toArray ++ Builtin.zeroCells z.cells (grownCap w (0 + m) 0 e - (0 + m))) e j
    refine Eq.trans e1 ?_
    simp only [List.nil_append] at hu ⊢
    rw [Array.getElem?_append_left (by simpa using (List.getElem?_eq_some_iff.1 hu).1), List.getElem?_toArray]; exact hu
   ·rw [Nat.zero_add j]
    refine ⟨?_, World.frozen?_alloc_new w.drew _ _ j⟩
    have e1 : (w.drew.alloc (.cells (([] ++ news : List Value).toArray ++ Builtin.zeroCells z.cells (grownCap w (0 + m) 0 e - (0 + m))) e)).cell? ⟨w.heap.size, j, none⟩ = _ := World.cell?_alloc_new w.drew (([] ++ news : List Value).toArray ++ Builtin.zeroCells z.cells (grownCap w (0 + m) 0 e - (0 + m))) e j
    have hsz2 : (([] ++ news : List Value).toArray ++ Builtin.zeroCells z.cells (grownCap w (0 + m) 0 e - (0 + m))).size = grownCap w (0 + m) 0 e := by
     rw [Array.size_append, List.size_toArray, size_zeroCells, hzs, List.nil_append, hrl]
     omega
    rw [e1, Array.getElem?_eq_getElem (by rw [hsz2]; exact hj)]
    rfl
 ·obtain ⟨g, off, ea, hg, hl, hcell, hthere⟩ := hb.mem hc
  subst ea
  obtain ⟨ht, hi, hzs, hsz⟩ := E
  obtain ⟨i, hi, hz, hsize, hby⟩ := info_parts hi
  have hsrc : Src P i.size t (.slice A2 m c2) m news w := by
   rcases Nat.eq_zero_or_pos m with hm | hm
   ·subst hm
    have hnn : news = [] := List.eq_nil_of_length_eq_zero hrl
    subst hnn
    cases A2 with
    | none => exact Src.ofNil w ht c2
    | some a => exact Src.ofSlice w ht a 0 c2 [] (by simp) (by intro j u hu; simp at hu) h1
   ·obtain ⟨b, off, ea, _, hcell⟩ := hr.2 hm
    subst ea
    exact Src.ofSlice w ht _ m c2 news (by rw [hsize, Nat.mul_one]; exact hrl) (fun j u hu => by rw [addr_add]; exact hcell j u hu) h1
  have hnl := hb.len
  by_cases hroom : n + m ≤ c
  ·have hrun := run_append_room_src (P := P) w t t ty e i ht hi g off n c _ m news hsrc hroom
    (fun j hj => by rw [hsize, Nat.mul_one, Nat.add_assoc]; exact (hthere (n + j) (by omega)).1) (fun j hj => by rw [hsize, Nat.mul_one, Nat.add_assoc]; exact (hthere (n + j) (by omega)).2)
   rw [hsize, Nat.mul_one] at hrun
   refine ⟨_, _, _, hrun, ⟨by rw [List.length_append, hnl, hrl], hroom, hb.max, fun _ => ⟨g, off, rfl, hg, ?_, fun j u hu => ?_, fun j hj => ⟨?_, ?_⟩⟩⟩, below_setCells hg news (off + n) w (Below.refl _ _)⟩
   ·exact Nat.lt_of_lt_of_le hl (below_setCells (Nat.zero_le g) news (off + n) w (Below.refl 0 w)).size
   ·by_cases hj : j < n
    ·rw [World.cell?_setCells_out g _ _ _ _ (fun _ _ => Or.inl (by show off + j < off + n; omega))]
     exact hcell j u (by rw [List.getElem?_append_left (by omega)] at hu; exact hu)
    ·rw [List.getElem?_append_right (by omega), hnl] at hu
     have hlt := (List.getElem?_eq_some_iff.1 hu).1
     have := World.cell?_setCells_in g news (off + n) w (fun j hj => by rw [Nat.add_assoc]; exact (hthere (n + j) (by omega)).1) (j - n) hlt
     rw [show off + n + (j - n) = off + j from by omega] at this
     rw [this, ← hu, List.getElem?_eq_getElem hlt]
   ·exact World.isSome_setCells g _ _ _ _ (hthere j hj).1
   ·rw [World.frozen?_setCells]; exact (hthere j hj).2
  ·have hold : (Builtin.firstCells i.size n (.slice (some ⟨g, off, none⟩) n c)).run P w.drew = .ok cs.toArray w.drew :=
    run_firstCells_some w.drew i.size n _ n c cs (by rw [hsize, Nat.mul_one]; exact hnl) (fun j u hu => by rw [addr_add]; exact hcell j u hu)
   have hrun := run_append_grow_src (P := P) w t t ty e i z ht hi hz (some ⟨g, off, none⟩) n c cs hold _ m news hsrc (by omega) (by simp only [maxLen] at h63; omega) (growslice_fits (by omega) (by rw [hby]; exact hbytes))
   have hge := grownCap_ge w (n + m) c e
   have hcm := grownCap_le_maxLen w (n + m) c e h63
   refine ⟨_, _, _, hrun, ⟨by rw [List.length_append, hnl, hrl], hge, hcm, fun _ => ⟨w.heap.size, 0, rfl, hbase, by simp, fun j u hu => ?_, fun j hj => ?_⟩⟩, ((Below.refl _ _).drew).alloc hbase _⟩
   ·rw [Nat.zero_add j]
    have e1 : (w.drew.alloc (.cells ((cs ++ news : List Value).toArray ++ Builtin.zeroCells z.cells (grownCap w (n + m) c e - (n + m))) e)).cell? ⟨w.heap.size, j, none⟩ = _ := World.cell?_alloc_new w.drew ((cs ++ news : List Value).toArray ++ Builtin.zeroCells z.cells (grownCap w (n + m) c e - (n + m))) e j
    refine Eq.trans e1 ?_
    rw [Array.getElem?_append_left (by simpa using (List.getElem?_eq_some_iff.1 hu).1), List.getElem?_toArray]; exact hu
   ·rw [Nat.zero_add j]
    refine ⟨?_, World.frozen?_alloc_new w.drew _ _ j⟩
    have e1 : (w.drew.alloc (.cells ((cs ++ news : List Value).toArray ++ Builtin.zeroCells z.cells (grownCap w (n + m) c e - (n + m))) e)).cell? ⟨w.heap.size, j, none⟩ = _ := World.cell?_alloc_new w.drew ((cs ++ news : List Value).toArray ++ Builtin.zeroCells z.cells (grownCap w (n + m) c e - (n + m))) e j
    have hsz2 : ((cs ++ news : List Value).toArray ++ Builtin.zeroCells z.cells (grownCap w (n + m) c e - (n + m))).size = grownCap w (n + m) c e := by
     rw [Array.size_append, List.size_toArray, size_zeroCells, hzs, List.length_append, hnl, hrl]
     omega
    rw [e1, Array.getElem?_eq_getElem (by rw [hsz2]; exact hj)]
    rfl
end Go.Proofs.YtgmbkcjihgphmaaGreat
/- Plain laws on sums: bytes taken in piece by piece. -/
namespace Go.Proofs.YtgmbkcjihgphmaaGreat
open Go.RowKit
theorem blocksS_step {s : List UInt32} {b : List UInt8} (h : 64 ≤ b.length) : blocksS s b = blocksS (blockS s (b.take 64)) (b.drop 64) := by
 rw [blocksS, dif_pos h]
theorem blocksS_short {s : List UInt32} {b : List UInt8} (h : b.length < 64) : blocksS s b = s := by
 rw [blocksS, dif_neg (by omega)]
/-- the bytes behind the last whole block -/
def tailS (b : List UInt8) : List UInt8 := if h : 64 ≤ b.length then tailS (b.drop 64) else b
termination_by b.length
decreasing_by rw [List.length_drop]; omega
theorem tailS_step {b : List UInt8} (h : 64 ≤ b.length) : tailS b = tailS (b.drop 64) := by rw [tailS, dif_pos h]
theorem tailS_short {b : List UInt8} (h : b.length < 64) : tailS b = b := by rw [tailS, dif_neg (by omega)]
theorem blocksS_length : ∀ (m : Nat) (s : List UInt32) (b : List UInt8), b.length ≤ m → s.length = 8 → (blocksS s b).length = 8
 | m, s, b, hm, hs => by
  by_cases h : 64 ≤ b.length
  ·match m with
   | 0 => omega
   | m + 1 =>
    rw [blocksS_step h]
    exact blocksS_length m _ _ (by rw [List.length_drop]; omega) (blockS_length hs _)
  ·rw [blocksS_short (by omega)]; exact hs
theorem blocksS_app : ∀ (m : Nat) (s : List UInt32) (D E : List UInt8), D.length ≤ m → blocksS s (D ++ E) = blocksS (blocksS s D) (tailS D ++ E)
 | m, s, D, E, hm => by
  by_cases h : 64 ≤ D.length
  ·match m with
   | 0 => omega
   | m + 1 =>
    rw [blocksS_step (s := s) (b := D ++ E) (by rw [List.length_append]; omega), List.take_append_of_le_length h, List.drop_append_of_le_length h,
     blocksS_app m _ _ _ (by rw [List.length_drop]; omega), ← blocksS_step h, ← tailS_step h]
  ·rw [blocksS_short (b := D) (by omega), tailS_short (by omega)]
theorem blocksS_append (s : List UInt32) (D E : List UInt8) : blocksS s (D ++ E) = blocksS (blocksS s D) (tailS D ++ E) := blocksS_app _ s D E (Nat.le_refl _)
theorem tailS_app : ∀ (m : Nat) (D E : List UInt8), D.length ≤ m → tailS (D ++ E) = tailS (tailS D ++ E)
 | m, D, E, hm => by
  by_cases h : 64 ≤ D.length
  ·match m with
   | 0 => omega
   | m + 1 =>
    rw [tailS_step (b := D ++ E) (by rw [List.length_append]; omega), List.drop_append_of_le_length h, tailS_app m _ _ (by rw [List.length_drop]; omega), ← tailS_step h]
  ·rw [tailS_short (b := D) (by omega)]
theorem tailS_append (D E : List UInt8) : tailS (D ++ E) = tailS (tailS D ++ E) := tailS_app _ D E (Nat.le_refl _)
theorem tailS_len : ∀ (m : Nat) (D : List UInt8), D.length ≤ m → (tailS D).length = D.length % 64
 | m, D, hm => by
  by_cases h : 64 ≤ D.length
  ·match m with
   | 0 => omega
   | m + 1 =>
    rw [tailS_step h, tailS_len m _ (by rw [List.length_drop]; omega), List.length_drop]; omega
  ·rw [tailS_short (by omega), Nat.mod_eq_of_lt (by omega)]
theorem tailS_length (D : List UInt8) : (tailS D).length = D.length % 64 := tailS_len _ D (Nat.le_refl _)
/-- the bytes behind a text of n bytes -/
def padL (n : Nat) : List UInt8 := 128 :: (List.replicate (spadZ n) 0 ++ lenB n)
theorem shaG_tail (D : List UInt8) : shaG D = bytesU (blocksS (blocksS shaH D) (tailS D ++ padL D.length)) := by
 unfold shaG padded
 rw [← blocksS_append]; rfl
theorem lenB_length (n : Nat) : (lenB n).length = 8 := rfl
theorem padZ_lt (n : Nat) : spadZ n < 64 := by unfold spadZ; omega
/-- where the noughts end -/
theorem padZ_end {n t j : Nat} (ht : t = n % 64) (hj : j ≤ spadZ n) : (t + 1 + j) % 64 = 56 ↔ j = spadZ n := by
 unfold spadZ at *; omega
theorem padL_whole (D : List UInt8) : (tailS D ++ padL D.length).length % 64 = 0 := by
 rw [List.length_append, tailS_length]
 unfold padL
 rw [List.length_cons, List.length_append, List.length_replicate, lenB_length]
 unfold spadZ
 omega
theorem lenB_succ {n k : Nat} (hk : k < 8) : (lenB n).take (k + 1) = (lenB n).take k ++ [UInt8.ofNat (8 * n / 2 ^ (56 - 8 * k))] := by
 have h8 : k = 0 ∨ k = 1 ∨ k = 2 ∨ k = 3 ∨ k = 4 ∨ k = 5 ∨ k = 6 ∨ k = 7 := by omega
 rcases h8 with rfl | rfl | rfl | rfl | rfl | rfl | rfl | rfl <;> rfl
/-- a row that is filled from the front -/
def fill (l : List UInt8) (m : Nat) : List UInt8 := l.take m ++ List.replicate (l.length - m) 0
theorem fill_put {l : List UInt8} {m : Nat} {x : UInt8} (h : l[m]? = some x) : (fill l m).set m x = fill l (m + 1) := by
 have hm := (List.getElem?_eq_some_iff.1 h).1
 have hl : (l.take m).length = m := by rw [List.length_take]; omega
 unfold fill
 rw [List.set_append, if_neg (by omega), hl, Nat.sub_self, show l.length - m = (l.length - (m + 1)) + 1 from by omega, List.replicate_succ, List.set_cons_zero, List.take_add_one, h, List.append_assoc]
 rfl
theorem sfill_all (l : List UInt8) : fill l l.length = l := by unfold fill; simp
theorem bytesU_length (s : List UInt32) : (bytesU s).length = 4 * s.length := by
 unfold bytesU
 induction s with
 | nil => rfl
 | cons x s ih => rw [List.flatMap_cons, List.length_append, ih, List.length_cons, List.length_map]; simp; omega
theorem bytesU_get : ∀ {s : List UInt32} {i k : Nat} {x : UInt32}, s[i]? = some x → k < 4 → (bytesU s)[4 * i + k]? = some (UInt8.ofNat (x.toNat / 2 ^ (24 - 8 * k)))
 | [], i, k, x, h, _ => by simp at h
 | y :: s, 0, k, x, h, hk => by
  simp at h; subst h
  unfold bytesU
  rw [List.flatMap_cons]
  have h4 : k = 0 ∨ k = 1 ∨ k = 2 ∨ k = 3 := by omega
  rcases h4 with rfl | rfl | rfl | rfl <;> rfl
 | y :: s, i + 1, k, x, h, hk => by
  have h2 := bytesU_get (s := s) (i := i) (k := k) (x := x) (by simpa using h) hk
  unfold bytesU at h2 ⊢
  rw [List.flatMap_cons, List.getElem?_append_right (by simp; omega), ← h2]
  congr 1
  simp; omega
theorem sbytesV_set (l : List UInt8) (i : Nat) (x : UInt8) : (bytesV l).toArray.setIfInBounds i (.int .u8 (x.toNat : Int)) = (bytesV (l.set i x)).toArray := by
 simp [bytesV, List.map_set]
theorem bytesV_arr {l : List UInt8} {i : Nat} {x : UInt8} (h : l[i]? = some x) : (bytesV l).toArray[i]? = some (.int .u8 (x.toNat : Int)) := by
 rw [List.getElem?_toArray]; simp [bytesV, h]
theorem fill_hole {l : List UInt8} {m : Nat} (hm : m < l.length) : (fill l m)[m]? = some 0 := by
 unfold fill
 rw [List.getElem?_append_right (by rw [List.length_take]; omega), List.length_take, show m - min m l.length = 0 from by omega, show l.length - m = (l.length - (m + 1)) + 1 from by omega, List.replicate_succ]
 rfl
theorem fill_zero (l : List UInt8) : fill l 0 = List.replicate l.length 0 := rfl
theorem shr_byte (x : UInt32) (e : Nat) : ((UInt8.ofNat (x.toNat / 2 ^ e)).toNat : Int) = uI x / 2 ^ e % 256 := by
 unfold uI
 generalize x.toNat = n
 rw [UInt8.toNat_ofNat', Int.natCast_emod, Int.natCast_ediv, Int.natCast_pow]; rfl
end Go.Proofs.YtgmbkcjihgphmaaGreat
