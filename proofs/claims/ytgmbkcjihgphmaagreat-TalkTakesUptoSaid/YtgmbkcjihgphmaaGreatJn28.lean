/- Contracts and laws for what the statement reaches, joined: ObjRefGetCom, ObjRefLinks. -/
import Derived.Test.YtgmbkcjihgphmaaGreatJn13
import Derived.Test.YtgmbkcjihgphmaaGreatJn27
/- towlineref09.GetCommit. -/
set_option linter.unusedVariables false
set_option linter.unusedSimpArgs false
namespace Go.Proofs.YtgmbkcjihgphmaaGreat
open Go.RowKit
attribute [local go_sem ↓] cvt_eq
theorem rcom_info : (Tryz.prog.info? 122).map (·.size) = some 36 := by kernel_rfl
set_option maxRecDepth 100000 in
theorem rcom_built0 : Tryz.prog.built 122 [] = some zCom := by kernel_rfl
theorem Moves.new (w : World) (o : Obj) (av : Av) : Moves w (w.alloc o) av (fun b => av b ∨ b = w.heap.size) := by
 have hb : Below w.heap.size w (w.alloc o) := (Below.refl _ _).alloc (Nat.le_refl _) _
 refine ⟨hb.size, fun b hb' _ => hb.block b hb', fun b hb' hn h' => ?_⟩
 rcases h' with h' | h'
 ·exact hn h'
 ·omega
set_option maxRecDepth 100000 in
set_option maxHeartbeats 8000000 in
theorem refGetCommit_any (s : ByteArray) (w : World) : Calls Tryz.prog 52 #[.string s] w (ComPost w (getCommit (sB s))) := by
 have hb1 : Below w.heap.size w (w.alloc (.cells zCom 122)) := (Below.refl _ _).alloc (Nat.le_refl _) _
 have HX1 := Lib.hid (Blk.new w 122 zCom)
 have HB1 := Lib.hid hb1
 have HOP := Lib.hid (refOpen_any s 4 5 (w.alloc (.cells zCom 122)) (by omega) (by omega) (by omega))
 obtain ⟨KZ, hKZ⟩ : ∃ KZ, KZ = zCom := ⟨_, rfl⟩
 have HBZ := Lib.hid (show Tryz.prog.built 122 [] = some KZ by rw [hKZ]; exact rcom_built0)
 have HIZ := Lib.hid (show (Tryz.prog.info? 122).map (·.size) = some KZ.size by rw [hKZ, comK_size (by simp)]; exact rcom_info)
 have HOZ := Lib.hid (show KZ.all (·.oneCell') = true by rw [hKZ]; exact comK_one _ _ _ _ _ _ _)
 have HSZ := Lib.hid (show zCom.size = KZ.size by rw [hKZ])
 have HKZ := Lib.hid hKZ
 obtain ⟨R, hR⟩ : ∃ R, R = getCommit (sB s) := ⟨_, rfl⟩
 obtain ⟨D, hD⟩ : ∃ D, D = openG (sB s) 4 5 := ⟨_, rfl⟩
 have HR := Lib.hid (show R = bindR D fun vs => bindR (idG (nthV vs 0)) fun t => bindR (idsG (nthV vs 1) 8) fun ps => comEnd vs t ps by rw [hR, hD]; rfl)
 have HDL := Lib.hid hD
 rw [← hR]
 rw [← hD] at HOP
 clear hR hD hb1 hKZ
 go_enter Tryz.func52, Tryz.ntmps52
 go_upto_region 1 with fail
 change Code.wp _ _ _ _ (w.alloc (.cells zCom 122))
 generalize w.alloc (.cells zCom 122) = w1 at *
 generalize hg : w.heap.size = g at *
 have HG := Lib.hid hg
 clear hg
 go_wp2_with fail
 refine HOP.out.mono ?_
 rintro e w2 ⟨hb2, hp⟩
 have hgl := HX1.out.lt
 have HB2 := Lib.hid (HB1.out.trans (hb2.mono (Nat.le_of_lt hgl)))
 have HX2 := Lib.hid (HX1.out.below hb2 hgl)
 have HW12 := Lib.hid (show w1.heap.size ≤ w2.heap.size from hb2.size)
 have HG1 := Lib.hid hgl
 clear HX1 HB1 HOP hb2 hgl
 cases D with
 | error z =>
  obtain rfl : e = _ := hp
  have HRR := Lib.hid (show R = .error z from HR.out)
  have hz := openG_err HDL.out.symm
  have e2 : (z != 0) = true := by simp [hz]
  clear hz
  go_wp2_with (first
   | (refine wpList_build0 rfl 122 rfl KZ HBZ.out ?_)
   | (refine wpList_store_row rfl _ _ _ rfl g KZ rfl rfl 122 _ HX2.out HIZ.out HSZ.out HOZ.out ?_) | fail)
  refine bodyPost_ret (results_row_tmp rfl _ _ g 122 KZ (0, 0) _ rfl (setRow_heap _ g _ _ _ _ HX2.out) Tryz.underlying122 rfl HIZ.out) rfl ?_
  unfold ComPost
  rw [HG.out, HRR.out]
  exact ⟨below_setRow HB2.out (Nat.le_refl _) KZ, by rw [HKZ.out]; rfl⟩
 | ok vs =>
  obtain ⟨L, cL, rfl, hl1, hl2, hsl⟩ := hp
  have hlen := openG_len HDL.out.symm
  rw [hlen] at hl1 ⊢
  have HSL := Lib.hid hsl
  have HLN := Lib.hid hlen
  have HRR := Lib.hid (show R = bindR (idG (nthV vs 0)) fun t => bindR (idsG (nthV vs 1) 8) fun ps => comEnd vs t ps from HR.out)
  have hal : Below w2.heap.size w2 (w2.alloc (.cells KZ 122)) := (Below.refl _ _).alloc (Nat.le_refl _) _
  have HB3 := Lib.hid (HB2.out.trans (hal.mono (Nat.le_of_lt HX2.out.lt)))
  have HX3 := Lib.hid (HX2.out.alloc (.cells KZ 122))
  have HSL3 := Lib.hid (show SlOf valR (w2.alloc (.cells KZ 122)) (fun b => b < w1.heap.size ∨ b = w2.heap.size) L vs from HSL.out.stable (Moves.new w2 _ _))
  have HBN := Lib.hid (Blk.new w2 122 zCom)
  have HY3 := Lib.hid (show Blk (w2.alloc (.cells KZ 122)) w2.heap.size 122 zCom by rw [← HKZ.out]; exact Blk.new w2 122 KZ)
  have hgx : g < w2.heap.size := HX2.out.lt
  have HGX := Lib.hid (show w2.heap.size < (w2.alloc (.cells KZ 122)).heap.size by simp)
  clear hlen hsl HR HDL HB2 HX2 HSL hal
  go_upto_region 5 with (first
   | (refine wpList_build0 rfl 122 rfl KZ HBZ.out ?_)
   | (refine wpList_store_row rfl _ _ _ rfl w2.heap.size KZ rfl rfl 122 _ HBN.out HIZ.out HSZ.out HOZ.out ?_) | fail)
  rw [World.setRow_alloc_new]
  clear HBN
  generalize w2.alloc (.cells KZ 122) = w3 at *
  generalize w2.heap.size = gx at *
  obtain ⟨bL, oL, c0, rfl, hb0, hv0, hat0⟩ := val_at HSL3.out HLN.out (i := 0) (by omega)
  have h05 : c0.length = 5 := valR.len hv0
  have HID := Lib.hid (refId_any c0 (nthV vs 0) w3 (valR.stable hv0 (Moves.forget _ _)))
  obtain ⟨K0, hK0⟩ : ∃ K0, K0 = c0.toArray := ⟨_, rfl⟩
  have HI0 := Lib.hid (show (Tryz.prog.info? 94).map (·.size) = some K0.size by rw [hK0, show c0.toArray.size = 5 from by simpa using h05]; exact val_info)
  rw [← hK0] at HID hat0
  have HAT0 := Lib.hid (show At w3 ⟨bL, oL, none⟩ K0 by simpa using hat0)
  obtain ⟨xb, hxb⟩ : ∃ xb, xb = okI (idG (nthV vs 0)) := ⟨_, rfl⟩
  obtain ⟨xz, hxz⟩ : ∃ xz, xz = okZ (idG (nthV vs 0)) := ⟨_, rfl⟩
  have h32 : xb.length = 32 := by rw [hxb]; exact okI_len _
  rw [← hxb, ← hxz] at HID
  have HXB := Lib.hid hxb
  have HXZ := Lib.hid hxz
  have HXL := Lib.hid h32
  obtain ⟨KB, hKB⟩ : ∃ KB, KB = (bytesV xb).toArray := ⟨_, rfl⟩
  rw [← hKB] at HID
  have HIB := Lib.hid (show (Tryz.prog.info? 33).map (·.size) = some KB.size by rw [hKB]; exact oid_size h32)
  have HOB := Lib.hid (show KB.all (·.oneCell') = true by rw [hKB]; exact oid_one _)
  have hKB32 : KB.size = 32 := by rw [hKB]; simp [bytesV, h32]
  have HSP := Lib.hid (show 0 + KB.size ≤ zCom.size by rw [hKB32, comK_size (by simp)]; omega)
  obtain ⟨KG, hKG⟩ : ∃ KG, KG = comK xb none 0 0 0 ⟨#[]⟩ ⟨#[]⟩ := ⟨_, rfl⟩
  have HKG := Lib.hid hKG
  have HPT := Lib.hid (show (KB.toList ++ zCom.toList.drop KB.size).toArray = KG by have := comK_tree (T := zId) (by simp) h32 none 0 0 0 ⟨#[]⟩ ⟨#[]⟩; rw [← hKB, ← hKG] at this; simpa using this)
  clear hv0 h05 hK0 hat0 hxb hxz h32 hKB hKB32 hKG
  go_wp2_with (first
   | (refine wpList_load_at rfl _ _ rfl bL oL rfl K0 _ HAT0.out Tryz.underlying94 rfl HI0.out ?_) | fail)
  refine HID.out.mono ?_
  rintro e w4 ⟨rfl, hb4⟩
  have HB4 := Lib.hid (HB3.out.trans (hb4.mono (by have := HGX.out; omega)))
  have HX4 := Lib.hid (HX3.out.below hb4 HX3.out.lt)
  have HY4 := Lib.hid (HY3.out.below hb4 HY3.out.lt)
  have HSL4 := Lib.hid (HSL3.out.below hb4)
  clear HB3 HX3 HY3 HSL3 hb4 HID HAT0 HI0
  go_upto_region 6 with (first
   | (refine wpList_store_part rfl 33 _ _ rfl gx 0 KB rfl rfl 122 zCom HY4.out HIB.out HSP.out HOB.out ?_) | fail)
  rw [HPT.out]
  have HY5 := Lib.hid (show Blk (w4.setRow gx KG) gx 122 KG from setRow_heap _ gx _ KG _ _ HY4.out)
  have HX5 := Lib.hid (HX4.out.grown (grown_row w4 gx KG) (fun e => by have := Option.some.inj e; omega))
  have HB5 := Lib.hid (below_setRow HB4.out (show g ≤ gx by omega) KG)
  have HSL5 := Lib.hid (HSL4.out.stable (Moves.grown (grown_row w4 gx KG) (.inr rfl)))
  generalize w4.setRow gx KG = w5 at *
  clear HB4 HX4 HY4 HSL4 HPT HSP HIB HOB
  by_cases hxz : xz = 0
  ·have e1 : (xz == 0) = true := by simp [hxz]
   have hid : idG (nthV vs 0) = .ok xb := by rw [HXB.out]; exact idG_ok (by rw [← HXZ.out]; exact hxz)
   have HR5 := Lib.hid (show R = bindR (idsG (nthV vs 1) 8) fun ps => comEnd vs xb ps by rw [HRR.out, hid]; rfl)
   clear hid hxz HRR
   obtain ⟨b1, o1, c1, e0, hb1, hv1, hat1⟩ := val_at HSL5.out HLN.out (i := 1) (by omega)
   have e0 := Option.some.inj e0
   injection e0 with e5 e6
   subst e5 e6
   have h15 : c1.length = 5 := valR.len hv1
   have HIS := Lib.hid (refIds_any c1 (nthV vs 1) 8 w5 (valR.stable hv1 (Moves.forget _ _)) (by omega))
   obtain ⟨K1, hK1⟩ : ∃ K1, K1 = c1.toArray := ⟨_, rfl⟩
   have HI1 := Lib.hid (show (Tryz.prog.info? 94).map (·.size) = some K1.size by rw [hK1, show c1.toArray.size = 5 from by simpa using h15]; exact val_info)
   rw [← hK1] at HIS hat1
   have HAT1 := Lib.hid hat1
   obtain ⟨T, hT⟩ : ∃ T, T = idsG (nthV vs 1) 8 := ⟨_, rfl⟩
   have HTT := Lib.hid hT
   rw [← hT] at HIS
   have HR6 := Lib.hid (show R = bindR T fun ps => comEnd vs xb ps by rw [HR5.out, hT])
   clear hv1 h15 hK1 hat1 hT e0 HR5
   go_upto_region 7 with fail
   go_wp2_with (first
    | (refine wpList_load_at rfl _ _ rfl bL (oL + 1 * 5) rfl K1 _ HAT1.out Tryz.underlying94 rfl HI1.out ?_) | fail)
   refine HIS.out.mono ?_
   intro e w6 hp
   have hb6 := hp.1
   have hp2 := hp.2
   have HB6 := Lib.hid (HB5.out.trans (hb6.mono (Nat.le_of_lt HX5.out.lt)))
   have HX6 := Lib.hid (HX5.out.below hb6 HX5.out.lt)
   have HY6 := Lib.hid (HY5.out.below hb6 HY5.out.lt)
   have HSL6 := Lib.hid (HSL5.out.below hb6)
   have hgx5 : gx < w5.heap.size := HY5.out.lt
   have HG5 := Lib.hid hgx5
   clear HB5 HX5 HY5 HSL5 HIS HAT1 HI1 hb6 hp
   cases T with
   | error z =>
    obtain rfl : e = _ := hp2
    have HRE := Lib.hid (show R = .error z from HR6.out)
    have hz := idsG_err HTT.out.symm
    have e2 : (z == 0) = false := by simp [hz]
    have e3 : (z != 0) = true := by simp [hz]
    have hc32 : w6.cell? ⟨gx, 32, none⟩ = some (.slice none 0 0) := by rw [HY6.out.cell 32, HKG.out]; exact (comK_get HXL.out _ _ _ _ _ _).1
    have hf32 := HY6.out.frozen 32
    have hlx := HY6.out.lt
    have HX7 := Lib.hid (HX6.out.other (g' := gx) (by omega) 32 (.slice none 0 0))
    have HB7 := Lib.hid (HB6.out.setCell (p := ⟨gx, 32, none⟩) (by show g ≤ gx; omega) (.slice none 0 0))
    clear hz
    go_upto_region 8 with fail
    generalize w6.setCell ⟨gx, 32, none⟩ (.slice none 0 0) = w7 at *
    go_wp2_with (first
     | (refine wpList_build0 rfl 122 rfl KZ HBZ.out ?_)
     | (refine wpList_store_row rfl _ _ _ rfl g KZ rfl rfl 122 _ HX7.out HIZ.out HSZ.out HOZ.out ?_) | fail)
    refine bodyPost_ret (results_row_tmp rfl _ _ g 122 KZ (0, 0) _ rfl (setRow_heap _ g _ _ _ _ HX7.out) Tryz.underlying122 rfl HIZ.out) rfl ?_
    unfold ComPost
    rw [HG.out, HRE.out]
    exact ⟨below_setRow HB7.out (Nat.le_refl _) KZ, by rw [HKZ.out]; rfl⟩
   | ok is =>
    obtain ⟨M, cM, rfl, hm1, hm2, hms⟩ := hp2
    have HR7 := Lib.hid (show R = comEnd vs xb is from HR6.out)
    have hc32 : w6.cell? ⟨gx, 32, none⟩ = some (.slice none 0 0) := by rw [HY6.out.cell 32, HKG.out]; exact (comK_get HXL.out _ _ _ _ _ _).1
    have hf32 := HY6.out.frozen 32
    have hlx := HY6.out.lt
    obtain ⟨m, hm⟩ : ∃ m, m = is.length := ⟨_, rfl⟩
    rw [← hm] at hm1
    have HM := Lib.hid hm
    have HMC := Lib.hid (And.intro hm1 hm2)
    have HMS := Lib.hid hms
    have hidl : is.length ≤ 8 := idsG_len HTT.out.symm
    have HX7 := Lib.hid (HX6.out.other (g' := gx) (by omega) 32 (.slice M m cM))
    have HB7 := Lib.hid (HB6.out.setCell (p := ⟨gx, 32, none⟩) (by show g ≤ gx; omega) (.slice M m cM))
    have HY7 := Lib.hid (show Blk (w6.setCell ⟨gx, 32, none⟩ (.slice M m cM)) gx 122 (comK xb M m cM 0 ⟨#[]⟩ ⟨#[]⟩) by
     have := HY6.out.set_ 32 (.slice M m cM)
     rw [HKG.out, (comK_set HXL.out none M 0 m 0 cM 0 0 ⟨#[]⟩ ⟨#[]⟩ ⟨#[]⟩ ⟨#[]⟩).1] at this; exact this)
    have HSL7 := Lib.hid (HSL6.out.stable (Moves.grown (grown_set w6 gx 32 (.slice M m cM)) (.inr rfl)))
    have HMS7 := Lib.hid (HMS.out.stable (Moves.grown (grown_set w6 gx 32 (.slice M m cM)) (show gx < w5.heap.size from hgx5)))
    rw [← hm]
    clear hm hms HMS HB6 HX6 HY6 HSL6
    go_upto_region 8 with fail
    generalize w6.setCell ⟨gx, 32, none⟩ (.slice M m cM) = w7 at *
    have HRI := Lib.hid (refRising_any M m cM is w7 (HMS7.out.stable (Moves.forget _ _)) HM.out (by have := HM.out; omega))
    have hc7 : w7.cell? ⟨gx, 32, none⟩ = some (.slice M m cM) := by rw [HY7.out.cell 32]; exact (comK_get HXL.out _ _ _ _ _ _).1
    clear hc32 hf32 hlx
    go_wp2_with fail
    refine HRI.out.mono ?_
    rintro e w8 ⟨rfl, hb8⟩
    have HB8 := Lib.hid (HB7.out.trans (hb8.mono (Nat.le_of_lt HX7.out.lt)))
    have HX8 := Lib.hid (HX7.out.below hb8 HX7.out.lt)
    have HY8 := Lib.hid (HY7.out.below hb8 HY7.out.lt)
    have HSL8 := Lib.hid (HSL7.out.below hb8)
    have HMS8 := Lib.hid (show SlOf oidR w8 (fun b => b < w5.heap.size) M is from HMS7.out.below hb8)
    clear HB7 HX7 HY7 HSL7 HMS7 hb8 hc7 HRI
    cases hri : risingG is with
    | false =>
     have HRE := Lib.hid (show R = .error 92 by rw [HR7.out]; unfold comEnd; rw [if_pos hri])
     clear hri
     go_wp2_with (first
      | (refine wpList_build0 rfl 122 rfl KZ HBZ.out ?_)
      | (refine wpList_store_row rfl _ _ _ rfl g KZ rfl rfl 122 _ HX8.out HIZ.out HSZ.out HOZ.out ?_) | fail)
     refine bodyPost_ret (results_row_tmp rfl _ _ g 122 KZ (0, 0) _ rfl (setRow_heap _ g _ _ _ _ HX8.out) Tryz.underlying122 rfl HIZ.out) rfl ?_
     unfold ComPost
     rw [HG.out, HRE.out]
     exact ⟨below_setRow HB8.out (Nat.le_refl _) KZ, by rw [HKZ.out]; rfl⟩
    | true =>
     have HR8 := Lib.hid (show R = if (nthV vs 2).kind ≠ 2 then .error 91 else bindR (textG (nthV vs 3) 64) fun a => bindR (textG (nthV vs 4) 1024) fun n => .ok (xb, is, (nthV vs 2).flt, ⟨a.toArray⟩, ⟨n.toArray⟩) by rw [HR7.out]; unfold comEnd; rw [if_neg (by simp [hri])])
     clear hri HR7
     obtain ⟨b2, o2, c2, e0, hb2, hv2, hat2⟩ := val_at HSL8.out HLN.out (i := 2) (by omega)
     have e0 := Option.some.inj e0
     injection e0 with e5 e6
     subst e5 e6
     obtain ⟨p0, p1, p3⟩ := val_two hv2 hat2
     obtain ⟨kq, hkq⟩ : ∃ kq, kq = (nthV vs 2).kind := ⟨_, rfl⟩
     rw [← hkq] at HR8
     have q0 : w8.cell? ⟨bL, oL + 10, none⟩ = some (.int .i64 kq) := by rw [hkq]; exact p0
     clear hv2 hat2 p0 p1 p3 hkq e0
     by_cases hk2 : kq = 2
     ·have e2 : (kq != 2) = false := by simp [hk2]
      have HR9 := Lib.hid (show R = bindR (textG (nthV vs 3) 64) fun a => bindR (textG (nthV vs 4) 1024) fun n => .ok (xb, is, (nthV vs 2).flt, ⟨a.toArray⟩, ⟨n.toArray⟩) by rw [HR8.out, if_neg (by simp [hk2])])
      clear hk2 HR8
      obtain ⟨b3, o3, c3, e0, hb3, hv3, hat3⟩ := val_at HSL8.out HLN.out (i := 3) (by omega)
      have e0 := Option.some.inj e0
      injection e0 with e5 e6
      subst e5 e6
      have h35 : c3.length = 5 := valR.len hv3
      have HT3 := Lib.hid (refText_any c3 (nthV vs 3) 64 w8 (valR.stable hv3 (Moves.forget _ _)) (by omega))
      obtain ⟨K3, hK3⟩ : ∃ K3, K3 = c3.toArray := ⟨_, rfl⟩
      have HI3 := Lib.hid (show (Tryz.prog.info? 94).map (·.size) = some K3.size by rw [hK3, show c3.toArray.size = 5 from by simpa using h35]; exact val_info)
      rw [← hK3] at HT3 hat3
      have HAT3 := Lib.hid hat3
      obtain ⟨z3, hz3⟩ : ∃ z3, z3 = okZ (textG (nthV vs 3) 64) := ⟨_, rfl⟩
      rw [← hz3] at HT3
      have HZ3 := Lib.hid hz3
      clear hv3 hat3 h35 hK3 hz3 e0
      go_wp2_with (first
       | (refine wpList_load_at rfl _ _ rfl bL (oL + 3 * 5) rfl K3 _ HAT3.out Tryz.underlying94 rfl HI3.out ?_) | fail)
      refine HT3.out.mono ?_
      rintro e w9 ⟨rfl, hb9⟩
      have HB9 := Lib.hid (HB8.out.trans (hb9.mono (Nat.le_of_lt HX8.out.lt)))
      have HX9 := Lib.hid (HX8.out.below hb9 HX8.out.lt)
      have HY9 := Lib.hid (HY8.out.below hb9 HY8.out.lt)
      have HSL9 := Lib.hid (HSL8.out.below hb9)
      have HMS9 := Lib.hid (show SlOf oidR w9 (fun b => b < w5.heap.size) M is from HMS8.out.below hb9)
      clear HB8 HX8 HY8 HSL8 HMS8 hb9 q0 HT3 HAT3 HI3
      by_cases hz3 : z3 = 0
      ·have e3 : (z3 == 0) = true := by simp [hz3]
       have ht3 : textG (nthV vs 3) 64 = .ok (nthV vs 3).bytes := textG_ok (by rw [← HZ3.out]; exact hz3)
       have HR10 := Lib.hid (show R = bindR (textG (nthV vs 4) 1024) fun n => .ok (xb, is, (nthV vs 2).flt, ⟨(nthV vs 3).bytes.toArray⟩, ⟨n.toArray⟩) by rw [HR9.out, ht3]; rfl)
       clear ht3 hz3 HR9
       obtain ⟨b4, o4, c4, e0, hb4, hv4, hat4⟩ := val_at HSL9.out HLN.out (i := 4) (by omega)
       have e0 := Option.some.inj e0
       injection e0 with e5 e6
       subst e5 e6
       have h45 : c4.length = 5 := valR.len hv4
       have HT4 := Lib.hid (refText_any c4 (nthV vs 4) 1024 w9 (valR.stable hv4 (Moves.forget _ _)) (by omega))
       obtain ⟨K4, hK4⟩ : ∃ K4, K4 = c4.toArray := ⟨_, rfl⟩
       have HI4 := Lib.hid (show (Tryz.prog.info? 94).map (·.size) = some K4.size by rw [hK4, show c4.toArray.size = 5 from by simpa using h45]; exact val_info)
       rw [← hK4] at HT4 hat4
       have HAT4 := Lib.hid hat4
       obtain ⟨z4, hz4⟩ : ∃ z4, z4 = okZ (textG (nthV vs 4) 1024) := ⟨_, rfl⟩
       rw [← hz4] at HT4
       have HZ4 := Lib.hid hz4
       clear hv4 hat4 h45 hK4 hz4 e0
       go_wp2_with (first
        | (refine wpList_load_at rfl _ _ rfl bL (oL + 4 * 5) rfl K4 _ HAT4.out Tryz.underlying94 rfl HI4.out ?_) | fail)
       refine HT4.out.mono ?_
       rintro e wA ⟨rfl, hbA⟩
       have HBA := Lib.hid (HB9.out.trans (hbA.mono (Nat.le_of_lt HX9.out.lt)))
       have HXA := Lib.hid (HX9.out.below hbA HX9.out.lt)
       have HYA := Lib.hid (HY9.out.below hbA HY9.out.lt)
       have HSLA := Lib.hid (HSL9.out.below hbA)
       have HMSA := Lib.hid (show SlOf oidR wA (fun b => b < w5.heap.size) M is from HMS9.out.below hbA)
       clear HB9 HX9 HY9 HSL9 HMS9 hbA HT4 HAT4 HI4
       by_cases hz4 : z4 = 0
       ·have e4 : (z4 != 0) = false := by simp [hz4]
        have ht4 : textG (nthV vs 4) 1024 = .ok (nthV vs 4).bytes := textG_ok (by rw [← HZ4.out]; exact hz4)
        obtain ⟨fq, hfq⟩ : ∃ fq, fq = (nthV vs 2).flt := ⟨_, rfl⟩
        obtain ⟨v3, hv3⟩ : ∃ v3, v3 = (nthV vs 3).bytes := ⟨_, rfl⟩
        obtain ⟨v4, hv4⟩ : ∃ v4, v4 = (nthV vs 4).bytes := ⟨_, rfl⟩
        have HRE := Lib.hid (show R = .ok (xb, is, fq, ⟨v3.toArray⟩, ⟨v4.toArray⟩) by rw [HR10.out, ht4, hfq, hv3, hv4]; rfl)
        have HFQ := Lib.hid hfq
        have HV3 := Lib.hid hv3
        have HV4 := Lib.hid hv4
        clear ht4 hz4 HR10 hfq hv3 hv4
        have flt2 : ∀ w' : World, SlOf valR w' (fun b => b < w1.heap.size ∨ b = gx) (some ⟨bL, oL, none⟩) vs → w'.cell? ⟨bL, oL + 13, none⟩ = some (.float .f64 fq) := fun w' h => by
         obtain ⟨b2, o2, c2, e0, hb2, hv2, hat2⟩ := val_at h HLN.out (i := 2) (by omega)
         have e0 := Option.some.inj e0
         injection e0 with e5 e6
         subst e5 e6
         have := (val_two hv2 hat2).2.2
         rw [HFQ.out]; simpa using this
        have FLT2 := Lib.hid flt2
        have q3 := flt2 wA HSLA.out
        have hS36 : 33 < (comK xb M m cM 0 ⟨#[]⟩ ⟨#[]⟩).size := by rw [comK_size HXL.out]; omega
        have HYB := Lib.hid (show Blk (wA.setCell ⟨gx, 33, none⟩ (.float .f64 fq)) gx 122 (comK xb M m cM fq ⟨#[]⟩ ⟨#[]⟩) by
         have := HYA.out.set_ 33 (.float .f64 fq)
         rw [(comK_set HXL.out M M m m cM cM 0 fq ⟨#[]⟩ ⟨#[]⟩ ⟨#[]⟩ ⟨#[]⟩).2.1] at this; exact this)
        have HXB2 := Lib.hid (HXA.out.other (g' := gx) (by omega) 33 (.float .f64 fq))
        have HBB := Lib.hid (HBA.out.setCell (p := ⟨gx, 33, none⟩) (by show g ≤ gx; omega) (.float .f64 fq))
        have HSLB := Lib.hid (HSLA.out.stable (Moves.grown (grown_set wA gx 33 (.float .f64 fq)) (.inr rfl)))
        have HMSB := Lib.hid (HMSA.out.stable (Moves.grown (grown_set wA gx 33 (.float .f64 fq)) (show gx < w5.heap.size from HG5.out)))
        clear flt2
        go_upto_region 19 with (first | (refine wpList_store_flt rfl 64 _ _ rfl gx 33 fq rfl rfl 122 _ HYA.out flt_info hS36 ?_) | fail)
        clear HYA HXA HBA HSLA HMSA q3 FLT2 hS36
        generalize wA.setCell ⟨gx, 33, none⟩ (.float .f64 fq) = wB at *
        obtain ⟨b3, o3, c3, e0, hb3, hv3, hat3⟩ := val_at HSLB.out HLN.out (i := 3) (by omega)
        have e0 := Option.some.inj e0
        injection e0 with e5 e6
        subst e5 e6
        obtain ⟨Ab, cb, hcb, hslb, hcb1, hcb2⟩ := val_bytes hv3 hat3
        rw [← HV3.out] at hcb hslb hcb1
        have hcv : cvt wB Ab v3.length cb = .ok (.string ⟨v3.toArray⟩) wB := cvt_of hslb cb
        obtain ⟨n3, hn3⟩ : ∃ n3, n3 = v3.length := ⟨_, rfl⟩
        rw [← hn3] at hcb hcv
        have hc34 : wB.cell? ⟨gx, 34, none⟩ = some (.string ⟨#[]⟩) := by rw [HYB.out.cell 34]; exact (comK_get HXL.out _ _ _ _ _ _).2.2.1
        have hf34 := HYB.out.frozen 34
        have hl34 := HYB.out.lt
        have hcb : wB.cell? ⟨bL, oL + 15 + 2, none⟩ = some (.slice Ab n3 cb) := hcb
        have hcb' : wB.cell? ⟨bL, oL + 17, none⟩ = some (.slice Ab n3 cb) := hcb
        have HYC := Lib.hid (show Blk (wB.setCell ⟨gx, 34, none⟩ (.string ⟨v3.toArray⟩)) gx 122 (comK xb M m cM fq ⟨v3.toArray⟩ ⟨#[]⟩) by
         have := HYB.out.set_ 34 (.string ⟨v3.toArray⟩)
         rw [(comK_set HXL.out M M m m cM cM fq fq ⟨#[]⟩ ⟨v3.toArray⟩ ⟨#[]⟩ ⟨#[]⟩).2.2.1] at this; exact this)
        have HXC := Lib.hid (HXB2.out.other (g' := gx) (by omega) 34 (.string ⟨v3.toArray⟩))
        have HBC := Lib.hid (HBB.out.setCell (p := ⟨gx, 34, none⟩) (by show g ≤ gx; omega) (.string ⟨v3.toArray⟩))
        have HSLC := Lib.hid (HSLB.out.stable (Moves.grown (grown_set wB gx 34 (.string ⟨v3.toArray⟩)) (.inr rfl)))
        have HMSC := Lib.hid (HMSB.out.stable (Moves.grown (grown_set wB gx 34 (.string ⟨v3.toArray⟩)) (show gx < w5.heap.size from HG5.out)))
        clear hv3 hat3 hslb hcb1 hn3 e0 HYB HXB2 HBB HSLB HMSB
        go_upto_region 20 with fail
        clear hcb hcb' hcv hc34 hf34 hl34
        generalize wB.setCell ⟨gx, 34, none⟩ (.string ⟨v3.toArray⟩) = wC at *
        obtain ⟨b4, o4, c4, e0, hb4, hv4, hat4⟩ := val_at HSLC.out HLN.out (i := 4) (by omega)
        have e0 := Option.some.inj e0
        injection e0 with e5 e6
        subst e5 e6
        obtain ⟨Ad, cd, hcd, hsld, hcd1, hcd2⟩ := val_bytes hv4 hat4
        rw [← HV4.out] at hcd hsld hcd1
        have hcv : cvt wC Ad v4.length cd = .ok (.string ⟨v4.toArray⟩) wC := cvt_of hsld cd
        obtain ⟨n4, hn4⟩ : ∃ n4, n4 = v4.length := ⟨_, rfl⟩
        rw [← hn4] at hcd hcv
        have hc35 : wC.cell? ⟨gx, 35, none⟩ = some (.string ⟨#[]⟩) := by rw [HYC.out.cell 35]; exact (comK_get HXL.out _ _ _ _ _ _).2.2.2
        have hf35 := HYC.out.frozen 35
        have hl35 := HYC.out.lt
        have hcd' : wC.cell? ⟨bL, oL + 22, none⟩ = some (.slice Ad n4 cd) := hcd
        obtain ⟨KF, hKF⟩ : ∃ KF, KF = comK xb M m cM fq ⟨v3.toArray⟩ ⟨v4.toArray⟩ := ⟨_, rfl⟩
        have HYD := Lib.hid (show Blk (wC.setCell ⟨gx, 35, none⟩ (.string ⟨v4.toArray⟩)) gx 122 KF by
         have := HYC.out.set_ 35 (.string ⟨v4.toArray⟩)
         rw [(comK_set HXL.out M M m m cM cM fq fq ⟨v3.toArray⟩ ⟨v3.toArray⟩ ⟨#[]⟩ ⟨v4.toArray⟩).2.2.2, ← hKF] at this; exact this)
        have HXD := Lib.hid (HXC.out.other (g' := gx) (by omega) 35 (.string ⟨v4.toArray⟩))
        have HBD := Lib.hid (HBC.out.setCell (p := ⟨gx, 35, none⟩) (by show g ≤ gx; omega) (.string ⟨v4.toArray⟩))
        have HMSD := Lib.hid (HMSC.out.stable (Moves.grown (grown_set wC gx 35 (.string ⟨v4.toArray⟩)) (show gx < w5.heap.size from HG5.out)))
        have HIF := Lib.hid (show (Tryz.prog.info? 122).map (·.size) = some KF.size by rw [hKF, comK_size HXL.out]; exact rcom_info)
        have HOF := Lib.hid (show KF.all (·.oneCell') = true by rw [hKF]; exact comK_one _ _ _ _ _ _ _)
        have HSF := Lib.hid (show zCom.size = KF.size by rw [hKF, comK_size (by simp), comK_size HXL.out])
        have HKF := Lib.hid hKF
        clear hv4 hat4 hsld hcd1 hn4 e0 HYC HXC HBC HSLC HMSC hKF
        go_upto_region 21 with fail
        clear hcd hcd' hcv hc35 hf35 hl35
        generalize wC.setCell ⟨gx, 35, none⟩ (.string ⟨v4.toArray⟩) = wD at *
        go_wp2_with (first
         | (refine wpList_load_row rfl 122 (.tmp 6) rfl gx rfl 122 KF (0, 0) _ HYD.out Tryz.underlying122 rfl HIF.out ?_)
         | (refine wpList_store_row rfl _ _ _ rfl g KF rfl rfl 122 _ HXD.out HIF.out HSF.out HOF.out ?_) | fail)
        refine bodyPost_ret (results_row_tmp rfl _ _ g 122 KF (0, 0) _ rfl (setRow_heap _ g _ _ _ _ HXD.out) Tryz.underlying122 rfl HIF.out) rfl ?_
        unfold ComPost
        rw [HG.out, HRE.out]
        refine ⟨below_setRow HBD.out (Nat.le_refl _) KF, M, cM, by rw [HKF.out, HM.out]; rfl, HXL.out, ?_, by have := HMC.out.1; rw [HM.out] at this; exact this, HMC.out.2⟩
        have hg5 : g < w5.heap.size := by have := HG5.out; omega
        exact HMSD.out.stable ((Moves.grown (grown_row wD g KF) (show g < w5.heap.size from hg5)).trans (Moves.less _ (fun b _ h => by have h : b < g := h; show b < w5.heap.size; omega)))
       ·have e4 : (z4 != 0) = true := by simp [hz4]
        have HRE := Lib.hid (show R = .error z4 by rw [HR10.out, textG_bad (by rw [← HZ4.out]; exact hz4), ← HZ4.out]; rfl)
        clear hz4 HR10
        go_wp2_with (first
         | (refine wpList_build0 rfl 122 rfl KZ HBZ.out ?_)
         | (refine wpList_store_row rfl _ _ _ rfl g KZ rfl rfl 122 _ HXA.out HIZ.out HSZ.out HOZ.out ?_) | fail)
        refine bodyPost_ret (results_row_tmp rfl _ _ g 122 KZ (0, 0) _ rfl (setRow_heap _ g _ _ _ _ HXA.out) Tryz.underlying122 rfl HIZ.out) rfl ?_
        unfold ComPost
        rw [HG.out, HRE.out]
        exact ⟨below_setRow HBA.out (Nat.le_refl _) KZ, by rw [HKZ.out]; rfl⟩
      ·have e3 : (z3 == 0) = false := by simp [hz3]
       have e3' : (z3 != 0) = true := by simp [hz3]
       have HRE := Lib.hid (show R = .error z3 by rw [HR9.out, textG_bad (by rw [← HZ3.out]; exact hz3), ← HZ3.out]; rfl)
       clear hz3 HR9
       go_wp2_with (first
        | (refine wpList_build0 rfl 122 rfl KZ HBZ.out ?_)
        | (refine wpList_store_row rfl _ _ _ rfl g KZ rfl rfl 122 _ HX9.out HIZ.out HSZ.out HOZ.out ?_) | fail)
       refine bodyPost_ret (results_row_tmp rfl _ _ g 122 KZ (0, 0) _ rfl (setRow_heap _ g _ _ _ _ HX9.out) Tryz.underlying122 rfl HIZ.out) rfl ?_
       unfold ComPost
       rw [HG.out, HRE.out]
       exact ⟨below_setRow HB9.out (Nat.le_refl _) KZ, by rw [HKZ.out]; rfl⟩
     ·have e2 : (kq != 2) = true := by simp [hk2]
      have HRE := Lib.hid (show R = .error 91 by rw [HR8.out, if_pos hk2])
      clear hk2 HR8
      go_wp2_with (first
       | (refine wpList_build0 rfl 122 rfl KZ HBZ.out ?_)
       | (refine wpList_store_row rfl _ _ _ rfl g KZ rfl rfl 122 _ HX8.out HIZ.out HSZ.out HOZ.out ?_) | fail)
      refine bodyPost_ret (results_row_tmp rfl _ _ g 122 KZ (0, 0) _ rfl (setRow_heap _ g _ _ _ _ HX8.out) Tryz.underlying122 rfl HIZ.out) rfl ?_
      unfold ComPost
      rw [HG.out, HRE.out]
      exact ⟨below_setRow HB8.out (Nat.le_refl _) KZ, by rw [HKZ.out]; rfl⟩
  ·have e1 : (xz == 0) = false := by simp [hxz]
   have e1' : (xz != 0) = true := by simp [hxz]
   have hid : idG (nthV vs 0) = .error xz := by have := idG_bad (v := nthV vs 0) (by rw [← HXZ.out]; exact hxz); rw [this, HXZ.out]
   have HRE := Lib.hid (show R = .error xz by rw [HRR.out, hid]; rfl)
   clear hid hxz
   go_wp2_with (first
    | (refine wpList_build0 rfl 122 rfl KZ HBZ.out ?_)
    | (refine wpList_store_row rfl _ _ _ rfl g KZ rfl rfl 122 _ HX5.out HIZ.out HSZ.out HOZ.out ?_) | fail)
   refine bodyPost_ret (results_row_tmp rfl _ _ g 122 KZ (0, 0) _ rfl (setRow_heap _ g _ _ _ _ HX5.out) Tryz.underlying122 rfl HIZ.out) rfl ?_
   unfold ComPost
   rw [HG.out, HRE.out]
   exact ⟨below_setRow HB5.out (Nat.le_refl _) KZ, by rw [HKZ.out]; rfl⟩
end Go.Proofs.YtgmbkcjihgphmaaGreat
/- towlineref09.Links. -/
namespace Go.Proofs.YtgmbkcjihgphmaaGreat
open Go.RowKit
theorem rblob_info : (Tryz.prog.info? 115).map (·.size) = some 2 := by kernel_rfl
set_option maxRecDepth 100000 in
set_option maxHeartbeats 8000000 in
theorem refLinks_any (s : ByteArray) (w : World) : Calls Tryz.prog 25 #[.string s] w (LinksPost w (linksG (sB s))) := by
 have HKD := Lib.hid (refKind_any s w)
 obtain ⟨R, hR⟩ : ∃ R, R = linksG (sB s) := ⟨_, rfl⟩
 obtain ⟨D, hD⟩ : ∃ D, D = kindG (sB s) := ⟨_, rfl⟩
 have HR := Lib.hid (show R = bindR D fun k => if k = 2 then bindR (getBlob (sB s)) fun x => .ok x.1 else if k = 3 then bindR (getTree (sB s)) fun x => .ok (x.map (·.2.2.1)) else if k = 4 then bindR (getCommit (sB s)) fun x => .ok (x.1 :: x.2.1) else bindR (getChunk (sB s)) fun _ => .ok [] by rw [hR, hD]; rfl)
 rw [← hD] at HKD
 rw [← hR]
 clear hR hD
 go_enter Tryz.func25, Tryz.ntmps25
 go_wp2_with fail
 refine HKD.out.mono ?_
 intro e w2 hp
 obtain ⟨hb2, hp⟩ := hp
 cases D with
 | error z =>
  obtain ⟨rfl, hz⟩ := hp
  have hzb : (z != 0) = true := by simp [hz]
  have HRR := Lib.hid (show R = .error z from HR.out)
  have HB := Lib.hid hb2
  clear hz hb2 HR
  go_wp2_with fail
  go_ret2
  exact ⟨HB.out, by rw [HRR.out]; rfl⟩
 | ok k =>
  obtain ⟨rfl, hk1, hk4⟩ := hp
  have HB := Lib.hid hb2
  have hcs : k = 1 ∨ k = 2 ∨ k = 3 ∨ k = 4 := by omega
  clear hb2 hk1 hk4 HKD
  rcases hcs with rfl | rfl | rfl | rfl
  ·have HC := Lib.hid (refGetChunk_any s w2)
   obtain ⟨T, hT⟩ : ∃ T, T = getChunk (sB s) := ⟨_, rfl⟩
   have HR2 := Lib.hid (show R = bindR T fun _ => .ok [] by rw [HR.out, hT]; rfl)
   rw [← hT] at HC
   clear hT HR
   go_wp2_with fail
   refine HC.out.mono ?_
   intro e w3 hp
   obtain ⟨rfl, hb3⟩ := hp.use
   have HB3 := Lib.hid (HB.out.trans (hb3.mono HB.out.size))
   clear hb3 HC hp
   cases T with
   | error z =>
    have HRR := Lib.hid (show R = .error z from HR2.out)
    go_wp2_with fail
    go_ret2
    exact ⟨HB3.out, by rw [HRR.out]; rfl⟩
   | ok b =>
    have HRR := Lib.hid (show R = .ok [] from HR2.out)
    go_wp2_with fail
    go_ret2
    exact ⟨HB3.out, by rw [HRR.out]; exact ⟨none, 0, rfl, SlOf.nil, by simp, by simp [maxLen]⟩⟩
  ·have HC := Lib.hid (refGetBlob_any s w2)
   obtain ⟨T, hT⟩ : ∃ T, T = getBlob (sB s) := ⟨_, rfl⟩
   have HR2 := Lib.hid (show R = bindR T fun x => .ok x.1 by rw [HR.out, hT]; rfl)
   rw [← hT] at HC
   clear hT HR
   go_wp2_with fail
   refine HC.out.mono ?_
   intro e w4 hp
   obtain ⟨hb4, hp⟩ := hp
   have HB4 := Lib.hid (HB.out.trans (hb4.mono HB.out.size))
   have hkey : ∃ (A9 : Option Addr) (m9 c9 : Nat) (sz z : Int), e = .returned (.tuple #[.agg #[.slice A9 m9 c9, .int .i64 sz], .int .i64 z]) ∧ LinksPost w R (.returned (.tuple #[.slice A9 m9 c9, .int .i64 z])) (w4.alloc (.cells #[.slice A9 m9 c9, .int .i64 sz] 115)) := by
    have hba : ∀ K, Below w4.heap.size w4 (w4.alloc (.cells K 115)) := fun K => (Below.refl _ _).alloc (Nat.le_refl _) _
    have hbz : ∀ K, Below w.heap.size w (w4.alloc (.cells K 115)) := fun K => HB4.out.trans ((hba K).mono HB4.out.size)
    cases T with
    | error z =>
     obtain rfl : e = _ := hp
     exact ⟨none, 0, 0, 0, z, rfl, hbz _, by rw [show R = .error z from HR2.out]⟩
    | ok x =>
     obtain ⟨A9, c9, rfl, hsl, h1, h2⟩ := hp
     refine ⟨A9, x.1.length, c9, x.2, 0, rfl, hbz _, ?_⟩
     rw [show R = .ok x.1 from HR2.out]
     exact ⟨A9, c9, rfl, (hsl.below (hba _)).stable (Moves.less _ (fun b _ h => by show b < w2.heap.size; have := HB.out.size; have h : b < w.heap.size := h; omega)), h1, h2⟩
   obtain ⟨A9, m9, c9, sz, z, rfl, hpost⟩ := hkey
   have HP := Lib.hid hpost
   obtain ⟨KX, hKX⟩ : ∃ KX : Array Value, KX = #[.slice A9 m9 c9, .int .i64 sz] := ⟨_, rfl⟩
   rw [← hKX] at HP ⊢
   have HI := Lib.hid (show (Tryz.prog.info? 115).map (·.size) = some KX.size by rw [hKX]; exact rblob_info)
   have HO := Lib.hid (show KX.all (·.oneCell') = true by rw [hKX]; simp [Value.oneCell'])
   have HZ := Lib.hid (show zBlob.size = KX.size by rw [hKX]; rfl)
   have HBN := Lib.hid (Blk.new w4 115 zBlob)
   have hcx : (w4.alloc (.cells KX 115)).cell? ⟨w4.heap.size, 0, none⟩ = some (.slice A9 m9 c9) := by
    rw [(Blk.new w4 115 KX).cell 0, hKX]; rfl
   clear hKX hpost hp hb4 HR2 HC
   go_upto_region 9 with (first | (refine wpList_store_row rfl _ _ _ rfl w4.heap.size KX rfl rfl 115 _ HBN.out HI.out HZ.out HO.out ?_) | fail)
   rw [World.setRow_alloc_new]
   clear HBN HI HO HZ HB4
   generalize w4.alloc (.cells KX 115) = w5 at *
   generalize w4.heap.size = gx at *
   go_wp2_with fail
   go_ret2
   exact HP.out
  ·have HC := Lib.hid (refGetTree_any s w2)
   obtain ⟨T, hT⟩ : ∃ T, T = getTree (sB s) := ⟨_, rfl⟩
   have HR2 := Lib.hid (show R = bindR T fun x => .ok (x.map (·.2.2.1)) by rw [HR.out, hT]; rfl)
   have HTE := Lib.hid (show ∀ z, T = .error z → z ≠ 0 from fun z hz => getTree_err (hT ▸ hz))
   have HTL := Lib.hid (show ∀ x, T = .ok x → x.length ≤ 1024 from fun x hx => getTree_len (hT ▸ hx))
   rw [← hT] at HC
   clear hT HR
   go_wp2_with fail
   refine HC.out.mono ?_
   intro e w3 hp
   obtain ⟨hb3, hp⟩ := hp
   have HB3 := Lib.hid (HB.out.trans (hb3.mono HB.out.size))
   have hkey : ∃ (AE : Option Addr) (es : List EntT) (cE : Nat) (z : Int), e = .returned (.tuple #[.slice AE es.length cE, .int .i64 z]) ∧ SlOf entR w3 no AE es ∧ es.length ≤ 1024 ∧ (R = if z = 0 then .ok (es.map (·.2.2.1)) else .error z) ∧ (z ≠ 0 → es = []) := by
    cases T with
    | error z =>
     obtain rfl : e = _ := hp
     exact ⟨none, [], 0, z, rfl, SlOf.nil, by simp, by rw [if_neg (HTE.out z rfl)]; exact HR2.out, fun _ => rfl⟩
    | ok x =>
     obtain ⟨A9, c9, rfl, hsl, h1, h2⟩ := hp
     exact ⟨A9, x, c9, 0, rfl, hsl.stable (Moves.forget _ _), HTL.out x rfl, by rw [if_pos rfl]; exact HR2.out, fun h => absurd rfl h⟩
   obtain ⟨AE, es, cE, z, rfl, hsl, hel, hr, hze⟩ := hkey
   have HZE := Lib.hid hze
   clear hze
   have HSE := Lib.hid hsl
   obtain ⟨ne, hne⟩ : ∃ ne, ne = es.length := ⟨_, rfl⟩
   rw [← hne] at hel ⊢
   have HNE := Lib.hid hne.symm
   have HRR := Lib.hid hr
   have HR0 := Lib.hid (show RowR oidR 33 w3 w3.heap.size none 0 0 ((es.take 0).map (·.2.2.1)) from RowR.nil _ _ _ _)
   clear hp hb3 hsl hne hr HR2 HTE HTL HC HB
   go_wp2_with fail
   go_loopw [8, 11] (fun s8 s11 wr => ∃ (k : Nat) (A' : Option Addr) (c' : Nat), k ≤ ne ∧ s8 = .slice A' k c' ∧ s11 = .int .i64 (k : Int) ∧ Hid (Below w3.heap.size w3 wr) ∧ Hid (RowR oidR 33 wr w3.heap.size A' k c' ((es.take k).map (·.2.2.1))) ∧ Hid (k = 0 → A' = none ∧ c' = 0)) (fun s8 s11 wr => ne - (intOf s11).toNat)
   case atStart => exact ⟨0, none, 0, by omega, rfl, rfl, Lib.hid (Below.refl _ _), HR0, Lib.hid fun _ => ⟨rfl, rfl⟩⟩
   case round =>
    obtain ⟨k, A', c', hk, rfl, rfl, HBL, HRW, HK0⟩ := hrel
    by_cases hlt : k < ne
    ·have hltI : (k : Int) < (ne : Int) := by omega
     obtain ⟨b1, o1, x, hA, hb1, hx, h32, hf, hat⟩ := ents_look (HSE.out.below HBL.out) HNE.out hlt
     obtain ⟨KB, hKB⟩ : ∃ KB, KB = (bytesV x.2.2.1).toArray := ⟨_, rfl⟩
     have HAI := Lib.hid (show At wr ⟨b1, o1 + k * 35 + 2, none⟩ KB by
      rw [hKB]
      intro j u hu
      have hu : (bytesV x.2.2.1)[j]? = some u := by simpa using hu
      have hj := (List.getElem?_eq_some_iff.1 hu).1
      have := hat (2 + j) u (by
       unfold entK
       rw [List.getElem?_toArray, show 2 + j = j + 1 + 1 by omega, List.getElem?_cons_succ, List.getElem?_cons_succ, List.getElem?_append_left hj]
       exact hu)
      rw [← Nat.add_assoc] at this; exact this)
     have HIB := Lib.hid (show (Tryz.prog.info? 33).map (·.size) = some KB.size by rw [hKB]; exact oid_size h32)
     have hKs : KB.size = 32 := by rw [hKB]; simp [bytesV, h32]
     have hbs := fun w => (show (Instr.buildSlice 46 1 #[(0, .agg KB)]).run Tryz.prog w = _ from bsId_of w KB hKs)
     have htk : (es.take (k + 1)).map (·.2.2.1) = (es.take k).map (·.2.2.1) ++ [x.2.2.1] := by rw [List.take_add_one, hx]; simp
     obtain ⟨A9, c9, w9, run9, hrow, hb9, _, _, _, _⟩ := HRW.out.push elemId (HBL.out.size) (av := fun _ => True) (oid_of wr _ h32) (fun _ _ _ => trivial) (by omega) (by simp only [maxLen]; omega) 46 1
     rw [← htk] at hrow
     rw [← hKB] at run9
     have HR9 := Lib.hid hrow
     have HB9 := Lib.hid (HBL.out.trans hb9)
     subst hA
     clear hx h32 hf hat hKB hKs htk hrow hb9
     go_wp2_with (first
      | (refine wpList_load_at rfl _ _ rfl b1 (o1 + k * 35 + 2) rfl KB _ HAI.out Tryz.underlying33 rfl HIB.out ?_)
      | (refine wpList_build1 rfl (.tmp 58) rfl (.agg KB) _ rfl (hbs _) ?_)
      | (at_builtin; refine wpList_run_append run9 ?_ ?_ ?_; exact rfl; exact rfl)
      | fail)
     go_roundw
     case rel => exact ⟨k + 1, A9, c9, by omega, rfl, by go_num, HB9, HR9, Lib.hid fun h => by omega⟩
     case measure => simp [intOf]; omega
    ·have hltI : ¬ (k : Int) < (ne : Int) := by omega
     obtain rfl : k = ne := by omega
     have hfin : LinksPost w R (.returned (.tuple #[.slice A' k c', .int .i64 z])) wr := by
      refine ⟨HB3.out.trans (HBL.out.mono HB3.out.size), ?_⟩
      rw [HRR.out]
      by_cases hz : z = 0
      ·rw [if_pos hz]
       have htk : es.take k = es := List.take_of_length_le (by rw [HNE.out]; exact Nat.le_refl _)
       have hrow := HRW.out
       rw [htk] at hrow
       obtain ⟨q1, q2⟩ := hrow.cap
       have hB3 := HB3.out.size
       have hlen := hrow.len
       refine ⟨A', c', by rw [← hlen, hz], hrow.sl.away w.heap.size (fun h0 b off e => ?_) (fun _ _ k => k), by rw [← hlen]; exact q1, q2⟩
       obtain ⟨g', hg, hbb, _⟩ := hrow.at (by omega)
       rw [hg] at e
       have e := Option.some.inj e
       injection e with e
       omega
      ·rw [if_neg hz]
       have hk0 : k = 0 := by have := HNE.out; rw [HZE.out hz] at this; simpa using this.symm
       obtain ⟨rfl, rfl⟩ := HK0.out hk0
       subst hk0
       rfl
     have HP := Lib.hid hfin
     clear hfin
     go_wp2_with fail
     go_ret2
     exact HP.out
  ·have HC := Lib.hid (refGetCommit_any s w2)
   obtain ⟨T, hT⟩ : ∃ T, T = getCommit (sB s) := ⟨_, rfl⟩
   have HR2 := Lib.hid (show R = bindR T fun x => .ok (x.1 :: x.2.1) by rw [HR.out, hT]; rfl)
   have HTE := Lib.hid (show ∀ z, T = .error z → z ≠ 0 from fun z hz => getCommit_err (hT ▸ hz))
   have HTL := Lib.hid (show ∀ x, T = .ok x → x.2.1.length ≤ 8 from fun x hx => getCommit_len (hT ▸ hx))
   rw [← hT] at HC
   clear hT HR
   go_wp2_with fail
   refine HC.out.mono ?_
   intro e w4 hp
   obtain ⟨hb4, hp⟩ := hp
   have HB4 := Lib.hid (HB.out.trans (hb4.mono HB.out.size))
   have HW2 := Lib.hid HB.out.size
   have hzs : zCom.size = 36 := comK_size (by simp) _ _ _ _ _ _
   have hba : ∀ K, Below w4.heap.size w4 (w4.alloc (.cells K 122)) := fun K => (Below.refl _ _).alloc (Nat.le_refl _) _
   cases T with
   | error z =>
    obtain rfl : e = _ := hp
    have hz := HTE.out z rfl
    have hzb : (z != 0) = true := by simp [hz]
    have HRR := Lib.hid (show R = .error z from HR2.out)
    obtain ⟨KX, hKX⟩ : ∃ KX : Array Value, KX = zCom := ⟨_, rfl⟩
    have HI := Lib.hid (show (Tryz.prog.info? 122).map (·.size) = some KX.size by rw [hKX, hzs]; exact rcom_info)
    have HO := Lib.hid (show KX.all (·.oneCell') = true by rw [hKX]; exact comK_one _ _ _ _ _ _ _)
    have HZ := Lib.hid (show zCom.size = KX.size by rw [hKX])
    have HB5 := Lib.hid (HB4.out.trans ((hba KX).mono HB4.out.size))
    have HBN := Lib.hid (Blk.new w4 122 zCom)
    rw [← hKX]
    clear hKX hb4 HR2 HC HTE HTL hz hzs hba
    go_upto_region 19 with (first | (refine wpList_store_row rfl _ _ _ rfl w4.heap.size KX rfl rfl 122 _ HBN.out HI.out HZ.out HO.out ?_) | fail)
    rw [World.setRow_alloc_new]
    clear HBN HI HO HZ HB4
    generalize w4.alloc (.cells KX 122) = w5 at *
    generalize w4.heap.size = gx at *
    go_wp2_with fail
    go_ret2
    exact ⟨HB5.out, by rw [HRR.out]; rfl⟩
   | ok x =>
    obtain ⟨A9, c9, rfl, h32, hsl, h1, h2⟩ := hp
    have h8 := HTL.out x rfl
    obtain ⟨m9, hm9⟩ : ∃ m9, m9 = x.2.1.length := ⟨_, rfl⟩
    rw [← hm9] at h1 h8 ⊢
    have HRR := Lib.hid (show R = .ok (x.1 :: x.2.1) from HR2.out)
    obtain ⟨KX, hKX⟩ : ∃ KX : Array Value, KX = comK x.1 A9 m9 c9 x.2.2.1 x.2.2.2.1 x.2.2.2.2 := ⟨_, rfl⟩
    have HI := Lib.hid (show (Tryz.prog.info? 122).map (·.size) = some KX.size by rw [hKX, comK_size h32]; exact rcom_info)
    have HO := Lib.hid (show KX.all (·.oneCell') = true by rw [hKX]; exact comK_one _ _ _ _ _ _ _)
    have HZ := Lib.hid (show zCom.size = KX.size by rw [hzs, hKX, comK_size h32])
    have HB5 := Lib.hid (HB4.out.trans ((hba KX).mono HB4.out.size))
    have HBN := Lib.hid (Blk.new w4 122 zCom)
    have hK5 : Blk (w4.alloc (.cells KX 122)) w4.heap.size 122 KX := Blk.new _ _ _
    have hsl5 : SlOf oidR (w4.alloc (.cells KX 122)) (fun b => b < w2.heap.size) A9 x.2.1 := hsl.below (hba KX)
    obtain ⟨KB, hKB⟩ : ∃ KB, KB = (bytesV x.1).toArray := ⟨_, rfl⟩
    have HAI := Lib.hid (show At (w4.alloc (.cells KX 122)) ⟨w4.heap.size, 0, none⟩ KB by rw [hKB]; exact com_id_at (by rw [← hKX]; exact hK5))
    have hcx : (w4.alloc (.cells KX 122)).cell? ⟨w4.heap.size, 32, none⟩ = some (.slice A9 m9 c9) := by rw [hK5.cell 32, hKX]; exact (comK_get h32 _ _ _ _ _ _).1
    have HIB := Lib.hid (show (Tryz.prog.info? 33).map (·.size) = some KB.size by rw [hKB]; exact oid_size h32)
    have hKs : KB.size = 32 := by rw [hKB]; simp [bytesV, h32]
    have hbs := fun w => (show (Instr.buildSlice 46 1 #[(0, .agg KB)]).run Tryz.prog w = _ from bsId_of w KB hKs)
    rw [← hKX]
    have hgl : w4.heap.size < (w4.alloc (.cells KX 122)).heap.size := hK5.lt
    have HG4 := Lib.hid (show w.heap.size ≤ (w4.alloc (.cells KX 122)).heap.size from HB5.out.size)
    have HM9 := Lib.hid hm9
    clear hKX hb4 HR2 HC HTE HTL hzs h1 h2 hsl hK5 hba HB4 hm9
    go_upto_region 21 with (first | (refine wpList_store_row rfl _ _ _ rfl w4.heap.size KX rfl rfl 122 _ HBN.out HI.out HZ.out HO.out ?_) | fail)
    rw [World.setRow_alloc_new]
    clear HBN HI HO HZ
    generalize w4.alloc (.cells KX 122) = w5 at *
    generalize w4.heap.size = gx at *
    obtain ⟨A6, c6, w6, run6, hrow6, hb6, _, _, _, _⟩ := (RowR.nil oidR 33 w5 w5.heap.size).push elemId (Nat.le_refl _) (av := fun _ => True) (oid_of w5 _ h32) (fun _ _ _ => trivial) (by omega) (by simp only [maxLen]; omega) 46 1
    simp only [Nat.zero_add, List.nil_append] at run6 hrow6
    rw [← hKB] at run6
    obtain ⟨xs6, hown6, hes6⟩ := hrow6.row
    have hsl6 : SlOf oidR w6 no A9 x.2.1 := (hsl5.stable (Moves.forget _ _)).below hb6
    obtain ⟨ys, hsy, hey, _⟩ := hsl6
    rw [← HM9.out] at hsy
    obtain ⟨A7, c7, w7, run7, ap7, hc7, hcm7⟩ := append_sl elemId hown6 hsy (hey.all (p := fun u => u.oneCell' = true) (fun _ _ h => oidR.one h)) (by omega) (by simp only [maxLen]; omega) hb6.size 46 c9
    have hcx6 : w6.cell? ⟨gx, 32, none⟩ = some (.slice A9 m9 c9) := (hb6.cell (p := ⟨gx, 32, none⟩) hgl).trans hcx
    have hB7 : Below w.heap.size w w7 := (HB5.out.trans (hb6.mono HG4.out)).trans (ap7.below.mono HG4.out)
    have hl7 : 1 + m9 = (x.1 :: x.2.1).length := by rw [List.length_cons, HM9.out]; omega
    have hfin : LinksPost w R (.returned (.tuple #[.slice A7 (1 + m9) c7, .int .i64 0])) w7 := by
     refine ⟨hB7, ?_⟩
     rw [HRR.out]
     refine ⟨A7, c7, by rw [← hl7], ?_, by rw [← hl7]; exact hc7, hcm7⟩
     have hown := ap7.own
     rw [hl7] at hown
     have hE : Each (oidR.R w7 (own (Value.slice A7 (x.1 :: x.2.1).length c7))) (xs6 ++ ys) (x.1 :: x.2.1) := by
      have e1 : Each (oidR.R w7 (own (Value.slice A7 (x.1 :: x.2.1).length c7))) xs6 [x.1] := hes6.mono fun _ _ k => k
      exact e1.append (hey.mono fun _ _ k => k)
     refine (SlOf.ofOwn hown hE).away w.heap.size (fun h0 b off e => ?_) (fun _ _ k => k)
     subst e
     have := (hown.lt b rfl).1
     have := HG4.out
     omega
    have HP := Lib.hid hfin
    clear hfin hown6 hes6 hrow6 hsy hey ap7 hB7 hl7 hsl5 hc7 hcm7
    go_wp2_with (first
     | (refine wpList_load_at rfl _ _ rfl gx 0 rfl KB _ HAI.out Tryz.underlying33 rfl HIB.out ?_)
     | (refine wpList_build1 rfl (.tmp 73) rfl (.agg KB) _ rfl (hbs _) ?_)
     | (at_builtin; refine wpList_run_append run6 ?_ ?_ ?_; exact rfl; exact rfl)
     | (at_builtin; refine wpList_run_append run7 ?_ ?_ ?_; exact rfl; exact rfl)
     | fail)
    go_ret2
    exact HP.out
end Go.Proofs.YtgmbkcjihgphmaaGreat
