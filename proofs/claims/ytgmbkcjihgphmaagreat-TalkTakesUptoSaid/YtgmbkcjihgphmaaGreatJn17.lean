/- Contracts and laws for what the statement reaches, joined: TalkTake, TalkMarkKit. -/
import Derived.Test.YtgmbkcjihgphmaaGreatJn16
import Derived.Test.YtgmbkcjihgphmaaGreatJn5
/- Take: by what lacking gives. -/
set_option linter.unusedVariables false
set_option linter.unusedSimpArgs false
namespace Go.Proofs.YtgmbkcjihgphmaaGreat
open Go.RowKit
/-- what lacking gives of a fetch, wherever it stands -/
structure LackLaw (W0 : World) (g : Nat) (T : TypeId) (V : Value) (root : List UInt8) (mb : Nat) (L : AsT → List (List UInt8)) (J : Nat) : Prop where
 run : ∀ w m ad, Below W0.heap.size W0 w → FT w W0.heap.size g T V root mb m ad → ad.length ≤ J → Calls Tryz.prog 29 #[.pointer (some ⟨g, 0, none⟩)] w (IdsPost w (L ad))
 len : ∀ ad, ad.length ≤ J → (L ad).length ≤ 1000000000
def TakePost (W0 w : World) (g : Nat) (T : TypeId) (V : Value) (root : List UInt8) (mb : Nat) (R : AsT × Nat) (e : Ending) (w' : World) : Prop :=
 ∃ m', e = .returned (.int .i64 (R.2 : Int)) ∧ FT w' W0.heap.size g T V root mb m' R.1 ∧ w.grownBy w' (some mb)
set_option maxRecDepth 100000 in
set_option maxHeartbeats 8000000 in
theorem takes_any {T : TypeId} {V : Value} {g mb : Nat} {root : List UInt8} {m : IM} {ad : AsT} {L : AsT → List (List UInt8)} {J : Nat} (W0 w : World) (hL : LackLaw W0 g T V root mb L J) (hB : Below W0.heap.size W0 w) (h : FT w W0.heap.size g T V root mb m ad)
  (A : Option Addr) (n c : Nat) (bs : List (List UInt8)) (hs : SlOf byR w (fun b => b = mb) A bs) (hn : n = bs.length) (hl : n ≤ 1000000) (hbl : ∀ b ∈ bs, b.length ≤ 1000000000) (hP : ad.length + n ≤ J) :
  Calls Tryz.prog 8 #[.pointer (some ⟨g, 0, none⟩), .slice A n c] w (TakePost W0 w g T V root mb (takeF L bs ad 0)) := by
 have HL := Lib.hid hL
 have HB := Lib.hid hB
 have HS := Lib.hid hs
 have HN := Lib.hid hn.symm
 have HBL := Lib.hid hbl
 have HF := Lib.hid h
 have HP := Lib.hid (show ad.length + (n - 0) ≤ J by omega)
 obtain ⟨R, hR⟩ : ∃ R, R = takeF L bs ad 0 := ⟨_, rfl⟩
 have HR := Lib.hid hR
 rw [← hR]
 have hgl := h.blk.lt
 have HZZ := Lib.hid (show zID.size = 32 from rfl)
 clear hL hB hs hn hbl h hP hR
 go_enter Tryz.func8, Tryz.ntmps8
 go_wp2_with fail
 go_loopw [5, 13] (fun s5 s13 wr => ∃ (k z : Nat) (m' : IM) (ad' : AsT), k ≤ n ∧ s13 = .int .i64 (k : Int) ∧ s5 = .int .i64 (z : Int) ∧ z ≤ k ∧ Hid (takeF L (bs.drop k) ad' z = R) ∧ Hid (FT wr W0.heap.size g T V root mb m' ad') ∧ Hid (ad'.length + (n - k) ≤ J) ∧ Hid (w.grownBy wr (some mb))) (fun s5 s13 wr => n - (intOf s13).toNat)
 case atStart => exact ⟨0, 0, m, ad, by omega, rfl, rfl, Nat.le_refl _, Lib.hid HR.out.symm, HF, HP, Lib.hid (grown_refl _ _)⟩
 case round =>
  obtain ⟨k, z, m', ad', hk, rfl, rfl, hz, HRR, HFR, HPR, HGR⟩ := hrel
  by_cases hlt : k < n
  ·have hltI : (k : Int) < (n : Int) := by omega
   obtain ⟨b1, o1, x, A1, c1, rfl, hb1, hxr, hcell, hxc, hcm, hsx⟩ := bys_look (HS.out.stable (Moves.grown HGR.out rfl)) HN.out hlt
   have hxl : x.length ≤ 1000000000 := HBL.out x (List.mem_of_getElem? hxr)
   have HXS := Lib.hid hsx
   have HBW := Lib.hid (show Below W0.heap.size W0 wr from HB.out.grown HGR.out HB.out.size (fun k e => by have := Option.some.inj e; have := HF.out.basem; omega))
   have hmbr := HFR.out.map.lt
   have h32 : (shaG x).length = 32 := shaG_len32 x
   have HD := Lib.hid (show (if (lkB (linksG x) && (L ad').contains (shaG x)) = true then takeF L (bs.drop (k + 1)) ((shaG x, x) :: ad') (z + 1) else takeF L (bs.drop (k + 1)) ad' z) = R by
    have := HRR.out
    obtain ⟨h1, h2⟩ := List.getElem?_eq_some_iff.1 hxr
    rw [List.drop_eq_getElem_cons h1, h2] at this
    exact this)
   have HLK := Lib.hid (fun w' (hb : Below wr.heap.size wr w') => links_any A1 x.length c1 x w' (slOf_bytes (hsx.below hb)) hxc hcm)
   have HCL := Lib.hid (fun w' (hb : Below wr.heap.size wr w') => clone_any A1 x.length c1 x w' (slOf_bytes (hsx.below hb)) rfl hxl)
   have hba : Below wr.heap.size wr (wr.alloc (.cells #[.slice A1 x.length c1] 38)) := (Below.refl _ _).alloc (Nat.le_refl _) _
   have HSU := Lib.hid (show Calls Tryz.prog 19 #[.slice (some ⟨wr.heap.size, 0, none⟩) 1 1] (wr.alloc (.cells #[.slice A1 x.length c1] 38)) fun e w' => e = .returned (.agg (bytesV (shaG x)).toArray) ∧ Below (wr.alloc (.cells #[.slice A1 x.length c1] 38)).heap.size (wr.alloc (.cells #[.slice A1 x.length c1] 38)) w' by
    have hh := sum_any (some ⟨wr.heap.size, 0, none⟩) 1 1 [.slice A1 x.length c1] [x] (wr.alloc (.cells #[.slice A1 x.length c1] 38)) (by have := Sl.one wr (.slice A1 x.length c1) 38; simpa using this) ((AllB.nil _).snoc (SlB.of (slOf_bytes (hsx.below hba)) hxc hcm)) (by omega) (by simp; omega)
    have e : [x].flatten = x := by simp
    rw [e] at hh
    exact hh)
   have HBA := Lib.hid hba
   obtain ⟨sm, hsm⟩ : ∃ sm, sm = shaG x := ⟨_, rfl⟩
   obtain ⟨lx, hlx⟩ : ∃ lx, lx = linksG x := ⟨_, rfl⟩
   rw [← hsm] at h32
   have HLB := Lib.hid (fun (e : lkB lx = true) => show okZ lx = 0 by rw [hlx] at e ⊢; exact lkB_ok e)
   have HLE := Lib.hid (fun (e : lkB lx = false) => show okZ lx ≠ 0 by rw [hlx] at e ⊢; exact lkB_err e)
   have HPN := Lib.hid (show (((sm, x) :: ad' : AsT)).length + (n - (k + 1)) ≤ J by have := HPR.out; simp; omega)
   have HPM := Lib.hid (show ad'.length + (n - (k + 1)) ≤ J by have := HPR.out; omega)
   rw [← hsm] at HSU HD
   rw [← hlx] at HLK HD
   obtain ⟨KX, hKX⟩ : ∃ KX, KX = (bytesV sm).toArray := ⟨_, rfl⟩
   have HI := Lib.hid (show (Tryz.prog.info? 33).map (·.size) = some KX.size by rw [hKX]; exact oid_size h32)
   have HO := Lib.hid (show KX.all (·.oneCell') = true by rw [hKX]; exact oid_one _)
   have HZ := Lib.hid (show zID.size = KX.size by rw [HZZ.out, hKX]; simp [bytesV_length, h32])
   have HKX := Lib.hid hKX
   have H32 := Lib.hid h32
   rw [← hKX] at HSU
   have HXC := Lib.hid (show x.length ≤ 1000000000 ∧ x.length ≤ c1 ∧ c1 ≤ maxLen from ⟨hxl, hxc, hcm⟩)
   obtain ⟨nx, hnx⟩ : ∃ nx, nx = x.length := ⟨_, rfl⟩
   rw [← hnx] at HSU HBA HLK HCL hcell
   have HNX := Lib.hid hnx
   clear hsx hba hxr HRR hKX hlx hsm hxl hxc hcm h32 hnx
   go_upto_region 5 with fail
   go_wp2_with fail
   refine HSU.out.mono ?_
   rintro e w1 ⟨rfl, hb1'⟩
   have HB1 := Lib.hid (HBA.out.trans (hb1'.mono HBA.out.size))
   have HNB := Lib.hid (Blk.new w1 33 zID)
   clear HSU hb1' HBA hcell
   go_upto_region 6 with (first | (refine wpList_store_row rfl _ _ _ rfl w1.heap.size KX rfl rfl 33 _ HNB.out HI.out HZ.out HO.out ?_) | fail)
   rw [World.setRow_alloc_new]
   go_frame
   change Code.wp _ _ _ _ (w1.alloc (.cells KX 33))
   have HB2 := Lib.hid (HB1.out.alloc HB1.out.size (.cells KX 33))
   have HK2 := Lib.hid (Blk.new w1 33 KX)
   have HGO := Lib.hid HB1.out.size
   generalize hG : w1.heap.size = GO at *
   generalize w1.alloc (.cells KX 33) = w2 at *
   clear HNB hG HZ HB1
   have HLK2 := Lib.hid (HLK.out w2 HB2.out)
   go_wp2_with fail
   refine HLK2.out.mono ?_
   intro e w3 hp
   obtain ⟨⟨A3, c3, rfl, _⟩, hb3⟩ := hp.lk
   have HB3 := Lib.hid (HB2.out.trans (hb3.mono HB2.out.size))
   have HK3 := Lib.hid (HK2.out.below hb3 HK2.out.lt)
   obtain ⟨nl, hnl⟩ : ∃ nl, nl = (lkL lx).length := ⟨_, rfl⟩
   obtain ⟨zl, hzl⟩ : ∃ zl, zl = okZ lx := ⟨_, rfl⟩
   rw [← hnl, ← hzl]
   rw [← hzl] at HLB HLE
   clear hp hb3 hnl hzl HLK2 HK2 HLK
   go_upto_region 7 with fail
   obtain ⟨wd, hwd⟩ : ∃ wd, wd = w3.drew := ⟨_, rfl⟩
   have HWD := Lib.hid hwd
   have HBD := Lib.hid (show Below wr.heap.size wr wd by rw [hwd]; exact HB3.out.trans ((Same.below ⟨1, rfl⟩ _)))
   have HKD := Lib.hid (show Blk wd GO 33 KX by rw [hwd]; exact HK3.out)
   have hgod := HKD.out.lt
   clear hwd HK3 HB3
   cases hcc : lkB lx with
   | false =>
    have hzz : (zl == 0) = false := by rw [beq_eq_false_iff_ne]; exact HLE.out hcc
    have HRN := Lib.hid (show takeF L (bs.drop (k + 1)) ad' z = R by have := HD.out; rw [hcc] at this; exact this)
    have HFN := Lib.hid (HFR.out.go HBD.out)
    have HGN := Lib.hid (grown_trans HGR.out (grown_below HBD.out (some mb)))
    clear hcc HLB HLE HD HCL
    refine wp_region_held (S := fun w => w = wd) (by kernel_rfl) ?_
    change wpAnyH _ _ _ _ _ _ _ _ (World.drew _)
    rw [← HWD.out]
    refine rgT 0 rfl ?_
    refine rgT 1 rfl ?_
    refine rgT 2 rfl ?_
    refine held_no (i := 3) (a' := ?_) rfl (by kernel_rfl) (by kernel_rfl) (by kernel_rfl) (fun _ _ _ h => h) (by rfl) rfl ?_ ?_
    rotate_left 1
    ·(go_simp; try with_reducible rfl)
    refine held_no (i := 4) (a' := ?_) rfl (by kernel_rfl) (by kernel_rfl) (by kernel_rfl) (fun _ _ _ h => h) (by rfl) rfl ?_ ?_
    rotate_left 1
    ·(go_simp; try with_reducible rfl)
    refine held_no (i := 5) (a' := ?_) rfl (by kernel_rfl) (by kernel_rfl) (by kernel_rfl) (fun _ _ _ h => h) (by rfl) rfl ?_ ?_
    rotate_left 1
    ·(go_simp; try with_reducible rfl)
    refine held_no (i := 6) (a' := ?_) rfl (by kernel_rfl) (by kernel_rfl) (by kernel_rfl) (fun _ _ _ h => h) (by rfl) rfl ?_ ?_
    rotate_left 1
    ·(go_simp; try with_reducible rfl)
    refine rgT 7 rfl ?_
    refine wpAnyH_done (by kernel_rfl) ?_ _
    go_wp2_with fail
    go_roundw
    case rel => exact ⟨k + 1, z, m', ad', by omega, by go_num, rfl, by omega, HRN, HFN, HPM, HGN⟩
    case measure => simp [intOf]; omega
   | true =>
    have hzz : (zl == 0) = true := by rw [beq_iff_eq]; exact HLB.out hcc
    have hzl0 : zl = 0 := HLB.out hcc
    have HD2 := Lib.hid (show (if (L ad').contains sm = true then takeF L (bs.drop (k + 1)) ((sm, x) :: ad') (z + 1) else takeF L (bs.drop (k + 1)) ad' z) = R by have := HD.out; rw [hcc] at this; exact this)
    have HLA := Lib.hid (HL.out.run wd m' ad' (HBW.out.trans (HBD.out.mono HBW.out.size)) (HFR.out.go HBD.out) (by have := HPR.out; omega))
    have hLn := HL.out.len ad' (by have := HPR.out; omega)
    obtain ⟨la, hla⟩ : ∃ la, la = L ad' := ⟨_, rfl⟩
    rw [← hla] at HLA hLn HD2
    have HLN := Lib.hid hLn
    clear hcc HLB HLE HD hla hLn
    cases hin : la.contains sm with
    | false =>
     have HRN := Lib.hid (show takeF L (bs.drop (k + 1)) ad' z = R by have := HD2.out; rw [hin] at this; exact this)
     have HIN := Lib.hid hin
     clear hin HD2 HCL
     refine wp_region_held (S := fun w => Below wd.heap.size wd w) (by kernel_rfl) ?_
     change wpAnyH _ _ _ _ _ _ _ _ (World.drew _)
     rw [← HWD.out]
     refine rgT 0 (Below.refl _ _) ?_
     refine rgT 1 (Below.refl _ _) ?_
     refine rgT 2 (Below.refl _ _) ?_
     refine rgT 3 (Below.refl _ _) ?_
     refine rgU 5 (v := ?_) (a' := ?_) (Below.refl _ _) ?_ ?_ ?_
     rotate_left 2
     ·(intro w hS; refine exec_load_at 33 (.tmp 8) ?_ GO 0 ?_ KX _ (At.of_row (HKD.out.below hS hgod)) Tryz.underlying33 rfl HI.out; exact rfl; exact rfl)
     ·(go_simp; try with_reducible rfl)
     refine held_ready (rs := [4]) (by kernel_rfl) (by simp) ?_
     refine AllHeld.cons rfl (fun KR hKR => ?_) ?_
     ·go_simp
      refine HLA.out.mono ?_
      rintro e w4 ⟨hc4, A4, n4, c4, rfl, hr4⟩
      have HCO := Lib.hid (contains_any A4 n4 c4 la sm w4 hr4.sl hr4.len (by rw [hr4.len]; exact HLN.out) H32.out)
      rw [show idV sm = .agg KX by rw [HKX.out], HIN.out] at HCO
      clear hr4
      refine hKR _ _ hc4 ?_
      clear hKR KR
      refine held_ready (rs := [6]) (by kernel_rfl) (by simp) ?_
      refine AllHeld.cons rfl (fun KR hKR => ?_) ?_
      ·go_simp
       refine HCO.out.mono ?_
       rintro e w5 ⟨rfl, hb5⟩
       have hc6 := hc4.trans (hb5.mono hc4.size)
       have HFN := Lib.hid (HFR.out.go (HBD.out.trans (hc6.mono HBD.out.size)))
       have HGN := Lib.hid (grown_trans HGR.out (grown_below (HBD.out.trans (hc6.mono HBD.out.size)) (some mb)))
       refine hKR _ _ hc6 ?_
       clear hKR KR
       refine rgT 7 hc6 ?_
       refine wpAnyH_done (by kernel_rfl) ?_ _
       go_wp2_with fail
       go_roundw
       case rel => exact ⟨k + 1, z, m', ad', by omega, by go_num, rfl, by omega, HRN, HFN, HPM, HGN⟩
       case measure => simp [intOf]; omega
      exact AllHeld.nil
     exact AllHeld.nil
    | true =>
     have HRN := Lib.hid (show takeF L (bs.drop (k + 1)) ((sm, x) :: ad') (z + 1) = R by have := HD2.out; rw [hin] at this; exact this)
     have HIN := Lib.hid hin
     clear hin HD2
     refine wp_region_held (S := fun w => Below wd.heap.size wd w) (by kernel_rfl) ?_
     change wpAnyH _ _ _ _ _ _ _ _ (World.drew _)
     rw [← HWD.out]
     refine rgT 0 (Below.refl _ _) ?_
     refine rgT 1 (Below.refl _ _) ?_
     refine rgT 2 (Below.refl _ _) ?_
     refine rgT 3 (Below.refl _ _) ?_
     refine rgU 5 (v := ?_) (a' := ?_) (Below.refl _ _) ?_ ?_ ?_
     rotate_left 2
     ·(intro w hS; refine exec_load_at 33 (.tmp 8) ?_ GO 0 ?_ KX _ (At.of_row (HKD.out.below hS hgod)) Tryz.underlying33 rfl HI.out; exact rfl; exact rfl)
     ·(go_simp; try with_reducible rfl)
     refine held_ready (rs := [4]) (by kernel_rfl) (by simp) ?_
     refine AllHeld.cons rfl (fun KR hKR => ?_) ?_
     ·go_simp
      refine HLA.out.mono ?_
      rintro e w4 ⟨hc4, A4, n4, c4, rfl, hr4⟩
      have HCO := Lib.hid (contains_any A4 n4 c4 la sm w4 hr4.sl hr4.len (by rw [hr4.len]; exact HLN.out) H32.out)
      rw [show idV sm = .agg KX by rw [HKX.out], HIN.out] at HCO
      clear hr4
      refine hKR _ _ hc4 ?_
      clear hKR KR
      refine held_ready (rs := [6]) (by kernel_rfl) (by simp) ?_
      refine AllHeld.cons rfl (fun KR hKR => ?_) ?_
      ·go_simp
       refine HCO.out.mono ?_
       rintro e w5 ⟨rfl, hb5⟩
       have hc6 := hc4.trans (hb5.mono hc4.size)
       refine hKR _ _ hc6 ?_
       clear hKR KR
       refine rgT 7 hc6 ?_
       refine wpAnyH_done (by kernel_rfl) ?_ _
       go_upto_region 8 with fail
       have HC6 := Lib.hid hc6
       clear hc4 hc6 hb5 HCO HLA
       obtain ⟨wz, hwz⟩ : ∃ wz, wz = w5.drew := ⟨_, rfl⟩
       have HBZ := Lib.hid (show Below wr.heap.size wr wz by rw [hwz]; exact (HBD.out.trans (HC6.out.mono HBD.out.size)).trans (Same.below ⟨1, rfl⟩ _))
       have HKZ := Lib.hid (show Blk wz GO 33 KX by rw [hwz]; exact (HKD.out.below HC6.out hgod : Blk w5 GO 33 KX))
       have HFZ := Lib.hid (HFR.out.go HBZ.out)
       have HCZ := Lib.hid (HCL.out wz HBZ.out)
       have HWZ := Lib.hid hwz
       have HNG := Lib.hid (show some g ≠ some mb from fun e => blk_map HFZ.out.blk HFZ.out.map (Option.some.inj e))
       have HNO := Lib.hid (show some GO ≠ some mb from fun e => blk_map HKZ.out HFZ.out.map (Option.some.inj e))
       have HC33 := Lib.hid (fetchK_get HFZ.out.r32 T V mb).2
       clear hwz HC6 HCL
       refine wp_region_held (S := fun w => wz.grownBy w (some mb)) (by kernel_rfl) ?_
       change wpAnyH _ _ _ _ _ _ _ _ (World.drew _)
       rw [← HWZ.out]
       refine rgT 0 (grown_refl _ _) ?_
       refine rgT 1 (grown_refl _ _) ?_
       refine rgT 2 (grown_refl _ _) ?_
       refine rgU 3 (v := ?_) (a' := ?_) (grown_refl _ _) ?_ ?_ ?_
       rotate_left 2
       ·(intro w hS; have t := ((HFZ.out.blk.grown hS HNG.out).cell 33).trans HC33.out; go_simp; try with_reducible rfl)
       ·(go_simp; try with_reducible rfl)
       refine rgU 4 (v := ?_) (a' := ?_) (grown_refl _ _) ?_ ?_ ?_
       rotate_left 2
       ·(intro w hS; refine exec_load_at 33 (.tmp 8) ?_ GO 0 ?_ KX _ (At.of_row (HKZ.out.grown hS HNO.out)) Tryz.underlying33 rfl HI.out; exact rfl; exact rfl)
       ·(go_simp; try with_reducible rfl)
       refine rgT 5 (grown_refl _ _) ?_
       refine held_ready (rs := [6]) (by kernel_rfl) (by simp) ?_
       refine AllHeld.cons rfl (fun KR hKR => ?_) ?_
       ·go_simp
        refine HCZ.out.mono ?_
        rintro e w6 ⟨hb6, A6, c6, rfl, hs6, hl6, hm6⟩
        have hc6 := grown_below hb6 (some mb)
        have HF6 := Lib.hid (HFZ.out.go hb6)
        obtain ⟨w7, hrun, hmw, hg7, _⟩ := HF6.out.map.update H32.out Tryz.underlying74 (.slice A6 x.length c6)
        rw [show idV sm = .agg KX by rw [HKX.out]] at hrun
        have HF7 := Lib.hid (HF6.out.put hg7 hmw (hs6.stable (Moves.grown hg7 (show mb < wz.heap.size from HFZ.out.map.lt))).forget hl6 hm6 HXC.out.1)
        have HG7 := Lib.hid (grown_trans (grown_trans HGR.out (grown_below HBZ.out (some mb))) (grown_trans hc6 hg7))
        have hc7 := grown_trans hc6 hg7
        clear hs6 hl6 hm6 hmw hb6
        refine hKR _ _ hc6 ?_
        clear hKR KR
        refine held_ready (rs := [7]) (by kernel_rfl) (by simp) ?_
        refine AllHeld.cons rfl (fun KR hKR => ?_) ?_
        ·refine step_mapUpdate rfl (.tmp 36) (.tmp 37) (.tmp 39) rfl rfl rfl rfl hrun ?_
         refine hKR _ _ hc7 ?_
         clear hKR KR
         refine wpAnyH_done (by kernel_rfl) ?_ _
         go_wp2_with fail
         go_roundw
         case rel => exact ⟨k + 1, z + 1, _, _, by omega, by go_num, by go_num, by omega, HRN, HF7, HPN, HG7⟩
         case measure => simp [intOf]; omega
        exact AllHeld.nil
       exact AllHeld.nil
      exact AllHeld.nil
     exact AllHeld.nil
  ·have hltI : ¬ (k : Int) < (n : Int) := by omega
   have HRO := Lib.hid (show (ad', z) = R by
    have := HRR.out
    rw [List.drop_of_length_le (by have := HN.out; omega)] at this
    exact this)
   go_wp2_with fail
   go_ret
   rw [← HRO.out]
   exact ⟨m', rfl, HFR.out, HGR.out⟩
end Go.Proofs.YtgmbkcjihgphmaaGreat
/- collect's marks in memory: what was begun, the stack of places, what is done. -/
namespace Go.Proofs.YtgmbkcjihgphmaaGreat
open Go.RowKit
abbrev PlcT := List UInt8 × List (List UInt8)
abbrev plcR : Rd PlcT := prodR oidR (slR oidR)
abbrev plcK (i : List UInt8) (A : Option Addr) (n c : Nat) : Array Value := (bytesV i ++ [Value.slice A n c]).toArray
abbrev zPlc : Array Value := plcK (List.replicate 32 0) none 0 0
theorem elemPlc : ElemOf Tryz.prog 173 175 (.agg zPlc) 33 56 := ⟨Tryz.underlying173, by kernel_rfl, rfl, by decide⟩
theorem plcK_size {i : List UInt8} (h : i.length = 32) (A : Option Addr) (n c : Nat) : (plcK i A n c).size = 33 := by simp [plcK, bytesV_length, h]
theorem plc_info : (Tryz.prog.info? 175).map (·.size) = some 33 := by kernel_rfl
set_option maxRecDepth 100000 in
theorem built_plc (A : Option Addr) (n c : Nat) : ∀ (i : List UInt8), i.length = 32 → Tryz.prog.built 175 [(0, .agg (bytesV i).toArray), (1, .slice A n c)] = some (plcK i A n c)
 | [x0, x1, x2, x3, x4, x5, x6, x7, x8, x9, x10, x11, x12, x13, x14, x15, x16, x17, x18, x19, x20, x21, x22, x23, x24, x25, x26, x27, x28, x29, x30, x31], _ => by kernel_rfl
theorem plc_of {w : World} {av : Av} {i : List UInt8} {l : List (List UInt8)} {A : Option Addr} {c : Nat} (hi : i.length = 32) (h1 : l.length ≤ c) (h2 : c ≤ maxLen) (hs : SlOf oidR w av A l) : plcR.R w av (plcK i A l.length c).toList (i, l) :=
 ⟨bytesV i, [.slice A l.length c], by simp [plcK], oid_of w av hi, A, c, rfl, h1, h2, hs⟩
/-- '[]place{x}', as an append's last part makes it ('attribute [local go_sem ↓] bsPlc_eq') -/
noncomputable def bsPlc (w : World) (v : Value) : Result Value := (Instr.buildSlice 173 1 #[(0, v)]).run Tryz.prog w
theorem bsPlc_eq (w : World) (v : Value) : (Instr.buildSlice 173 1 #[(0, v)]).run Tryz.prog w = bsPlc w v := rfl
theorem plc_sizeOf (w : World) : (sizeOf 175).run Tryz.prog w = .ok 33 w := by
 have h := plc_info
 cases hq : Tryz.prog.info? 175 with
 | none => rw [hq] at h; simp at h
 | some i =>
  rw [hq] at h
  have h1 : i.size = 33 := by simpa using h
  simp [sizeOf, typeInfo, hq, h1]
theorem plc_zero (w : World) : (zeroValue 175).run Tryz.prog w = .ok (.agg zPlc) w := by kernel_rfl
theorem bsPlc_of (w : World) (K : Array Value) (hK : K.size = 33) : bsPlc w (.agg K) = .ok (.slice (some ⟨w.heap.size, 0, none⟩) 1 1) (w.alloc (.cells K 175)) := by
 unfold bsPlc Instr.buildSlice
 have hf : ∀ cells : Array Value, cells.size = 33 → Instr.fill (fun i => some (i * 33, 33)) cells [(0, .agg K)] = some K := by
  intro cells hc
  have hK2 : (Value.agg K).cells = K := rfl
  have h := fill_all K cells (by omega)
  unfold Instr.fill
  simp only [hK2]
  have hc1 : (decide (K.size ≠ 33) || decide (0 * 33 + K.size > cells.size)) = false := by simp [hK, hc]
  simp only [Nat.zero_mul] at hc1 ⊢
  rw [if_neg (by rw [hc1]; decide)]
  unfold Instr.fill
  rw [h]
 simp [run_underlying Tryz.underlying173, Sem.run_bind, plc_sizeOf, plc_zero, Value.cells]
 rw [hf _ (by simp)]
 simp [newRow, Sem.run_bind]
theorem wpList_built2 {P : Program} {ops : Array Oper} {rest : List Oper} {o : Oper} {a : Act} {w : World} {Q : Exit → Act → World → Prop} (hg : o.guard = none) (t : TypeId) (x0 x1 : Operand) {i0 i1 : Nat} (ho : o.op = .build t #[(i0, x0), (i1, x1)]) {v0 v1 : Value} (K : Array Value)
  (h0 : a.eval x0 = v0) (h1 : a.eval x1 = v1) (hb : P.built t [(i0, v0), (i1, v1)] = some K) (h : wpList P ops Q rest (a.put o.dst (.agg K)) w) : wpList P ops Q (o :: rest) a w := by
 subst h0 h1
 exact wpList_build hg t _ ho (by simp [hb]) (by simpa [hb] using h)
/-! ### rows -/
theorem own_typ {w : World} {base n sz : Nat} {e : TypeId} {v : Value} {xs : List Value} (h : w.ownsRow base e sz v n xs) {b : Nat} (hb : own v b) : ∃ cur, Blk w b e cur := by
 rcases h.2 with ⟨rfl, _⟩ | ⟨g, cap, cur, rfl, _, hg, _⟩
 ·simp [own, Value.ownBlock] at hb
 ·have : g = b := by simpa [own, Value.ownBlock] using hb
  subst this
  exact ⟨cur, hg⟩
theorem own_slc (A : Option Addr) (n m c c' : Nat) : own (.slice A n c) = own (.slice A m c') := by cases A <;> rfl
theorem blk_ne {w : World} {a b : Nat} {t t' : TypeId} {K K' : Array Value} (h1 : Blk w a t K) (h2 : Blk w b t' K') (ht : t ≠ t') : a ≠ b := by
 rintro rfl
 unfold Blk at *
 rw [h1] at h2
 injection h2 with h2
 injection h2 with _ h2
 exact ht h2
section
variable {α : Type} {r : Rd α} {e : TypeId} {w w' : World} {base m c : Nat} {x x' : Av} {A : Option Addr} {l : List α}
theorem RowX.typ (h : RowX r e w base x A m c l) {b : Nat} (hb : own (.slice A m c) b) : ∃ cur, Blk w b e cur := by
 obtain ⟨xs, h1, _⟩ := h.row
 exact own_typ h1 hb
theorem RowR.typ (h : RowR r e w base A m c l) {b : Nat} (hb : own (.slice A m c) b) : ∃ cur, Blk w b e cur := by
 obtain ⟨xs, h1, _⟩ := h.row
 exact own_typ h1 hb
theorem RowX.turn (h : RowX r e w base x A m c l) {row : Option Nat} (hg : w.grownBy w' row) (hb : ∀ b, row = some b → x b ∧ ¬ own (.slice A m c) b) (hx : ∀ b, b < w.heap.size → x' b → x b) : RowX r e w' base x' A m c l := by
 obtain ⟨xs, h1, h2⟩ := h.row
 refine ⟨⟨xs, h1.kept hg ?_, h2.mono fun _ _ k => r.stable k ⟨hg.size, fun b hb' hne => hg.block b hb' (fun e => hne (.inl (hb b e.symm).1)), fun b hb' hne h' => h'.elim (fun q => hne (.inl (hx b hb' q))) (fun q => hne (.inr q))⟩⟩, h.len⟩
 cases hv : (Value.slice A m c).ownBlock with
 | none => exact .inl rfl
 | some k => right; intro e; exact (hb k e.symm).2 hv
/-- one less at the end -/
theorem RowX.pop {y : α} (h : RowX r e w base x A (m + 1) c (l ++ [y])) : RowX r e w base x A m c l := by
 have hm : m = l.length := by have h0 : m + 1 = (l ++ [y]).length := h.len; rw [List.length_append, List.length_singleton] at h0; omega
 obtain ⟨xs, h1, h2⟩ := h.row
 have h3 := h2.take (fun _ _ => r.len) m
 have e1 : (l ++ [y]).take m = l := by rw [List.take_append_of_le_length (by omega), List.take_of_length_le (by omega)]
 rw [e1] at h3
 have hle : m * r.k ≤ (m + 1) * r.k := Nat.mul_le_mul_right _ (by omega)
 have hl := h1.1
 refine ⟨⟨xs.take (m * r.k), ⟨by rw [List.length_take]; omega, ?_⟩, h3.mono fun _ _ k => r.stable k (Moves.less w (fun b _ q => ?_))⟩, hm⟩
 ·rcases h1.2 with ⟨h4, _⟩ | ⟨g, cap, cur, h4, h5, h6, h7, h8, h9, h10⟩
  ·injection h4 with h4 h5; omega
  ·injection h4 with h4 h4' h4''
   subst h4 h4''
   exact .inr ⟨g, _, cur, rfl, h5, h6, by omega, h8, h9, by rw [← h10, List.take_take, Nat.min_eq_left hle]⟩
 ·exact q.elim .inl fun q => .inr (by rw [own_slc A (m + 1) m c c]; exact q)
end
theorem Each.split {α : Type} {R : List Value → α → Prop} {y : α} : ∀ {l : List α} {xs : List Value}, Each R xs (l ++ [y]) → ∃ xs1 cs, xs = xs1 ++ cs ∧ Each R xs1 l ∧ R cs y
 | [], xs, h => by
  cases h with
  | cons h1 h2 =>
   cases h2
   exact ⟨[], _, by simp, .nil, h1⟩
 | z :: l, xs, h => by
  cases h with
  | cons h1 h2 =>
   obtain ⟨xs1, cs, rfl, h3, h4⟩ := Each.split h2
   exact ⟨_ ++ xs1, cs, by simp, .cons h1 h3, h4⟩
/-! ### the marks -/
def avM (bm gm ms bs : Nat) (v : Value) : Av := fun b => b = bm ∨ b = gm ∨ b = ms ∨ b = bs ∨ own v b
structure MK (w : World) (base : Nat) (T : TypeId) (V : Value) (bm gm ms bs : Nat) (M : IM) (A : Option Addr) (n c : Nat) (st : List PlcT) (Ao : Option Addr) (mo co : Nat) (out : List (List UInt8)) : Prop where
 box : Blk w bm 136 #[.pointer (some ⟨gm, 0, none⟩)]
 mrk : Blk w gm 138 #[.iface T V, .map (some ms), .slice Ao mo co]
 map : MapW w ms M
 bst : Blk w bs 173 #[.slice A n c]
 stk : RowX plcR 175 w base (avM bm gm ms bs (.slice Ao mo co)) A n c st.reverse
 outr : RowR oidR 33 w base Ao mo co out
 bbm : base ≤ bm
 bgm : base ≤ gm
 bms : base ≤ ms
 bbs : base ≤ bs
section
variable {w w' : World} {base : Nat} {T : TypeId} {V : Value} {bm gm ms bs : Nat} {M M' : IM} {A : Option Addr} {n c : Nat} {st : List PlcT} {Ao : Option Addr} {mo co : Nat} {out : List (List UInt8)}
theorem MK.go (h : MK w base T V bm gm ms bs M A n c st Ao mo co out) (hb : Below w.heap.size w w') : MK w' base T V bm gm ms bs M A n c st Ao mo co out :=
 ⟨h.box.below hb h.box.lt, h.mrk.below hb h.mrk.lt, h.map.below hb, h.bst.below hb h.bst.lt, h.stk.below hb, h.outr.below hb, h.bbm, h.bgm, h.bms, h.bbs⟩
theorem MK.size (h : MK w base T V bm gm ms bs M A n c st Ao mo co out) : base ≤ w.heap.size := by have := h.box.lt; have := h.bbm; omega
theorem MK.len (h : MK w base T V bm gm ms bs M A n c st Ao mo co out) : n = st.length := by have := h.stk.len; simpa using this
theorem MK.stk_ne (h : MK w base T V bm gm ms bs M A n c st Ao mo co out) {b : Nat} {t : TypeId} {K : Array Value} (hk : Blk w b t K) (ht : 175 ≠ t) : ¬ own (.slice A n c) b := fun ho => by
 obtain ⟨cur, hc⟩ := h.stk.typ ho
 exact blk_ne hc hk ht rfl
theorem MK.out_ne (h : MK w base T V bm gm ms bs M A n c st Ao mo co out) {b : Nat} {t : TypeId} {K : Array Value} (hk : Blk w b t K) (ht : 33 ≠ t) : ¬ own (.slice Ao mo co) b := fun ho => by
 obtain ⟨cur, hc⟩ := h.outr.typ ho
 exact blk_ne hc hk ht rfl
theorem MK.stk_map (h : MK w base T V bm gm ms bs M A n c st Ao mo co out) : ¬ own (.slice A n c) ms := fun ho => by
 obtain ⟨cur, hc⟩ := h.stk.typ ho
 exact blk_map hc h.map rfl
theorem MK.out_map (h : MK w base T V bm gm ms bs M A n c st Ao mo co out) : ¬ own (.slice Ao mo co) ms := fun ho => by
 obtain ⟨cur, hc⟩ := h.outr.typ ho
 exact blk_map hc h.map rfl
/-- all that may turn lies in the world -/
theorem MK.av_lt (h : MK w base T V bm gm ms bs M A n c st Ao mo co out) {b : Nat} (hb : avX (avM bm gm ms bs (.slice Ao mo co)) (.slice A n c) b) : b < w.heap.size := by
 rcases hb with (rfl | rfl | rfl | rfl | ho) | ho
 ·exact h.box.lt
 ·exact h.mrk.lt
 ·exact h.map.lt
 ·exact h.bst.lt
 ·exact (h.outr.lt ho).2
 ·exact (h.stk.lt ho).2
/-- another map -/
theorem MK.turn_map (h : MK w base T V bm gm ms bs M A n c st Ao mo co out) (hg : w.grownBy w' (some ms)) (hm : MapW w' ms M') : MK w' base T V bm gm ms bs M' A n c st Ao mo co out :=
 ⟨h.box.grown hg (fun e => blk_map h.box h.map (Option.some.inj e)), h.mrk.grown hg (fun e => blk_map h.mrk h.map (Option.some.inj e)), hm, h.bst.grown hg (fun e => blk_map h.bst h.map (Option.some.inj e)),
  h.stk.turn hg (fun b e => by have e := Option.some.inj e; subst e; exact ⟨.inr (.inr (.inl rfl)), h.stk_map⟩) (fun _ _ q => q),
  h.outr.grown hg (fun k e hk => h.out_map (by have e := Option.some.inj e; subst e; exact hk)) (fun _ _ _ k => k), h.bbm, h.bgm, h.bms, h.bbs⟩
theorem MK.below_map (h : MK w base T V bm gm ms bs M A n c st Ao mo co out) (hg : w.grownBy w' (some ms)) : Below base w w' :=
 (Below.refl base w).grown hg h.size (fun k e => by have e := Option.some.inj e; have := h.bms; omega)
/-- one more place -/
theorem MK.push (h : MK w base T V bm gm ms bs M A n c st Ao mo co out) {av : Av} {i : List UInt8} {l : List (List UInt8)} {Al : Option Addr} {cl : Nat} (hi : i.length = 32) (h1 : l.length ≤ cl) (h2 : cl ≤ maxLen) (hs : SlOf oidR w av Al l)
  (hav : ∀ b, avX (avM bm gm ms bs (.slice Ao mo co)) (.slice A n c) b → av b) (hn : n ≤ 1000000000) :
  ∃ A' c' w', (Builtin.append_ #[173, 173] 173 #[.slice A n c, .slice (some ⟨w.heap.size, 0, none⟩) 1 1]).run Tryz.prog (w.alloc (.cells (plcK i Al l.length cl) 175)) = .ok (.slice A' (n + 1) c') w' ∧
   Blk w' bs 173 #[.slice A n c] ∧ Below base w w' ∧
   MK (w'.setCell ⟨bs, 0, none⟩ (.slice A' (n + 1) c')) base T V bm gm ms bs M A' (n + 1) c' ((i, l) :: st) Ao mo co out ∧ Below base w (w'.setCell ⟨bs, 0, none⟩ (.slice A' (n + 1) c')) := by
 obtain ⟨A', c', w', run, hrow, hbe, hg, hc1, hc2, hnew⟩ := h.stk.push elemPlc h.size (plc_of hi h1 h2 hs) (fun b _ q => hav b q) (by omega) (by simp only [maxLen]; omega) 173 1
 have o1 : ¬ own (.slice A n c) bm := h.stk_ne h.box (by decide)
 have o2 : ¬ own (.slice A n c) gm := h.stk_ne h.mrk (by decide)
 have o3 : ¬ own (.slice A n c) ms := h.stk_map
 have o4 : ¬ own (.slice A n c) bs := h.stk_ne h.bst (by decide)
 have b1 : Blk w' bm 136 #[.pointer (some ⟨gm, 0, none⟩)] := h.box.grown hg (fun e => o1 e.symm)
 have b2 : Blk w' gm 138 #[.iface T V, .map (some ms), .slice Ao mo co] := h.mrk.grown hg (fun e => o2 e.symm)
 have b3 : MapW w' ms M := h.map.same (hg.block ms h.map.lt (fun e => o3 e.symm))
 have b4 : Blk w' bs 173 #[.slice A n c] := h.bst.grown hg (fun e => o4 e.symm)
 have b5 : RowR oidR 33 w' base Ao mo co out := h.outr.grown hg (fun k e hk => by
  obtain ⟨cur, hc⟩ := h.stk.typ (show own (.slice A n c) k from e)
  exact h.out_ne hc (by decide) hk) (fun _ _ _ k => k)
 have hg2 := grown_set w' bs 0 (.slice A' (n + 1) c')
 refine ⟨A', c', w', run, b4, hbe, ⟨b1.other (blk_ne b1 b4 (by decide)) 0 _, b2.other (blk_ne b2 b4 (by decide)) 0 _, ?_, ?_, ?_, ?_, h.bbm, h.bgm, h.bms, h.bbs⟩, hbe.grown hg2 (Nat.le_trans h.size hbe.size) (fun k e => by have e := Option.some.inj e; have := h.bbs; omega)⟩
 ·exact b3.same (hg2.block ms b3.lt (fun e => blk_map b4 b3 (Option.some.inj e).symm))
 ·have := b4.set_ 0 (.slice A' (n + 1) c')
  simpa using this
 ·rw [List.reverse_cons]
  exact hrow.turn hg2 (fun b e => by
   have e := Option.some.inj e
   subst e
   exact ⟨.inr (.inr (.inr (.inl rfl))), fun ho => by obtain ⟨cur, hc⟩ := hrow.typ ho; exact blk_ne hc b4 (by decide) rfl⟩) (fun _ _ q => q)
 ·exact b5.grown hg2 (fun k e hk => by
   have e := Option.some.inj e
   subst e
   obtain ⟨cur, hc⟩ := b5.typ hk
   exact blk_ne hc b4 (by decide) rfl) (fun _ _ _ k => k)
/-- the place on top -/
theorem MK.top {i : List UInt8} {l : List (List UInt8)} (h : MK w base T V bm gm ms bs M A n c ((i, l) :: st) Ao mo co out) :
  ∃ (ga : Nat) (Al : Option Addr) (cl : Nat), n = st.length + 1 ∧ A = some ⟨ga, 0, none⟩ ∧ ga < w.heap.size ∧ n ≤ c ∧ i.length = 32 ∧ At w ⟨ga, st.length * 33, none⟩ (bytesV i).toArray ∧ w.cell? ⟨ga, st.length * 33 + 32, none⟩ = some (.slice Al l.length cl) ∧ w.frozen? ⟨ga, st.length * 33 + 32, none⟩ = false ∧
   l.length ≤ cl ∧ cl ≤ maxLen ∧ SlOf oidR w (avX (avM bm gm ms bs (.slice Ao mo co)) (.slice A n c)) Al l := by
 have hn : n = st.length + 1 := by have := h.len; simpa using this
 obtain ⟨xs, h1, h2⟩ := h.stk.row
 rw [List.reverse_cons] at h2
 obtain ⟨xs1, cs, rfl, h3, h4⟩ := Each.split h2
 obtain ⟨c1, c2, rfl, h5, Al, cl, rfl, h6, h7, h8⟩ := h4
 obtain ⟨rfl, h32⟩ := oid_cells h5
 have hx1 : xs1.length = st.length * 33 := by have h0 := h3.length (fun _ _ => plcR.len); rw [List.length_reverse] at h0; exact h0
 obtain ⟨ga, rfl, _, hga⟩ := own_at h1 (by omega)
 have hc : ∀ j u, (bytesV i ++ [Value.slice Al l.length cl])[j]? = some u → w.cell? ⟨ga, st.length * 33 + j, none⟩ = some u := fun j u hu => by
  have hj := (List.getElem?_eq_some_iff.1 hu).1
  have h33 : (bytesV i ++ [Value.slice Al l.length cl]).length = 33 := by simp [bytesV_length, h32]
  rw [h1.cellAt (st.length * 33 + j) (by rw [hn]; show _ < (st.length + 1) * 33; omega), List.getElem?_append_right (by omega), ← hu]
  congr 1; omega
 refine ⟨ga, Al, cl, hn, rfl, hga, (own_cap h1).1, h32, fun j u hu => hc j u ?_, hc 32 _ ?_, h1.frozenAt _, h6, h7, h8⟩
 ·have hu : (bytesV i)[j]? = some u := by simpa using hu
  rw [List.getElem?_append_left (List.getElem?_eq_some_iff.1 hu).1, hu]
 ·rw [List.getElem?_append_right (by rw [bytesV_length, h32]; exact Nat.le_refl _), bytesV_length, h32]; rfl
/-- another list at the place on top -/
theorem MK.set_top {i : List UInt8} {l l' : List (List UInt8)} {ga : Nat} (h : MK w base T V bm gm ms bs M (some ⟨ga, 0, none⟩) n c ((i, l) :: st) Ao mo co out) {Al : Option Addr} {cl : Nat} (h1 : l'.length ≤ cl) (h2 : cl ≤ maxLen)
  (hs : SlOf oidR w (avX (avM bm gm ms bs (.slice Ao mo co)) (.slice (some ⟨ga, 0, none⟩) n c)) Al l') :
  MK (w.setCell ⟨ga, st.length * 33 + 32, none⟩ (.slice Al l'.length cl)) base T V bm gm ms bs M (some ⟨ga, 0, none⟩) n c ((i, l') :: st) Ao mo co out ∧ Below base w (w.setCell ⟨ga, st.length * 33 + 32, none⟩ (.slice Al l'.length cl)) := by
 have hown : own (.slice (some ⟨ga, 0, none⟩) n c) ga := rfl
 have hg := grown_set w ga (st.length * 33 + 32) (.slice Al l'.length cl)
 obtain ⟨cur, hcur⟩ := h.stk.typ hown
 have hge := (h.stk.lt hown).1
 refine ⟨⟨h.box.other (blk_ne h.box hcur (by decide)) _ _, h.mrk.other (blk_ne h.mrk hcur (by decide)) _ _, h.map.same (hg.block ms h.map.lt (fun e => blk_map hcur h.map (Option.some.inj e).symm)), h.bst.other (blk_ne h.bst hcur (by decide)) _ _, ?_,
  h.outr.grown hg (fun k e hk => by
   have e := Option.some.inj e
   subst e
   obtain ⟨cur', hc'⟩ := h.outr.typ hk
   exact blk_ne hc' hcur (by decide) rfl) (fun _ _ _ k => k), h.bbm, h.bgm, h.bms, h.bbs⟩, (Below.refl base w).grown hg h.size (fun k e => by have e := Option.some.inj e; omega)⟩
 obtain ⟨xs, h3, h4⟩ := h.stk.row
 have hln := h.stk.len
 rw [List.reverse_cons] at h4 ⊢
 obtain ⟨xs1, cs, rfl, h5, h6⟩ := Each.split h4
 obtain ⟨c1, c2, rfl, h7, Ao', co', rfl, h8, h9, h10⟩ := h6
 obtain ⟨rfl, h32⟩ := oid_cells h7
 have hx1 : xs1.length = st.length * 33 := by have h0 := h5.length (fun _ _ => plcR.len); rw [List.length_reverse] at h0; exact h0
 have hst := (h3.stored (st.length * 33 + 32) (.slice Al l'.length cl)).1
 have hset : (xs1 ++ (bytesV i ++ [Value.slice Ao' l.length co'])).set (st.length * 33 + 32) (.slice Al l'.length cl) = xs1 ++ (bytesV i ++ [Value.slice Al l'.length cl]) := by
  rw [List.set_append_right _ _ (by omega), hx1, show st.length * 33 + 32 - st.length * 33 = 32 by omega, List.set_append_right _ _ (by rw [bytesV_length, h32]; exact Nat.le_refl _), bytesV_length, h32]; rfl
 rw [hset] at hst
 have hmv : Moves w (w.setCell ⟨ga, st.length * 33 + 32, none⟩ (.slice Al l'.length cl)) (avX (avM bm gm ms bs (.slice Ao mo co)) (.slice (some ⟨ga, 0, none⟩) n c)) (avX (avM bm gm ms bs (.slice Ao mo co)) (.slice (some ⟨ga, 0, none⟩) n c)) :=
  ⟨hg.size, fun b hb hne => hg.block b hb (fun e => hne (.inr (by have e := Option.some.inj e; subst e; exact hown))), fun _ _ q => q⟩
 refine ⟨⟨_, hst, (h5.mono fun _ _ k => plcR.stable k hmv).snoc ⟨bytesV i, [.slice Al l'.length cl], rfl, oid_of _ _ h32, Al, cl, rfl, h1, h2, hs.stable hmv⟩⟩, by simpa using hln⟩
/-- the place on top goes -/
theorem MK.pop {p : PlcT} (h : MK w base T V bm gm ms bs M A (n + 1) c (p :: st) Ao mo co out) :
  MK (w.setCell ⟨bs, 0, none⟩ (.slice A n c)) base T V bm gm ms bs M A n c st Ao mo co out ∧ Below base w (w.setCell ⟨bs, 0, none⟩ (.slice A n c)) := by
 have hg2 := grown_set w bs 0 (.slice A n c)
 have hrow := h.stk
 rw [List.reverse_cons] at hrow
 have hrow := hrow.pop
 refine ⟨⟨h.box.other (blk_ne h.box h.bst (by decide)) 0 _, h.mrk.other (blk_ne h.mrk h.bst (by decide)) 0 _, h.map.same (hg2.block ms h.map.lt (fun e => blk_map h.bst h.map (Option.some.inj e).symm)), ?_, ?_, ?_, h.bbm, h.bgm, h.bms, h.bbs⟩, (Below.refl base w).grown hg2 h.size (fun k e => by have e := Option.some.inj e; have := h.bbs; omega)⟩
 ·have := h.bst.set_ 0 (.slice A n c)
  simpa using this
 ·exact hrow.turn hg2 (fun b e => by
   have e := Option.some.inj e
   subst e
   exact ⟨.inr (.inr (.inr (.inl rfl))), fun ho => by obtain ⟨cur, hc⟩ := hrow.typ ho; exact blk_ne hc h.bst (by decide) rfl⟩) (fun _ _ q => q)
 ·exact h.outr.grown hg2 (fun k e hk => by
   have e := Option.some.inj e
   subst e
   obtain ⟨cur, hc⟩ := h.outr.typ hk
   exact blk_ne hc h.bst (by decide) rfl) (fun _ _ _ k => k)
theorem MK.pop' {p : PlcT} {n' : Nat} (hn : n = n' + 1) (h : MK w base T V bm gm ms bs M A n c (p :: st) Ao mo co out) :
  MK (w.setCell ⟨bs, 0, none⟩ (.slice A n' c)) base T V bm gm ms bs M A n' c st Ao mo co out ∧ Below base w (w.setCell ⟨bs, 0, none⟩ (.slice A n' c)) := by
 subst hn
 exact h.pop
/-- one more is done -/
theorem MK.done (h : MK w base T V bm gm ms bs M A n c st Ao mo co out) {i : List UInt8} (hi : i.length = 32) (hn : mo ≤ 1000000000) :
  ∃ A' c' w', (Builtin.append_ #[46, 46] 46 #[.slice Ao mo co, .slice (some ⟨w.heap.size, 0, none⟩) 1 1]).run Tryz.prog (w.alloc (.cells (bytesV i).toArray 33)) = .ok (.slice A' (mo + 1) c') w' ∧
   Blk w' gm 138 #[.iface T V, .map (some ms), .slice Ao mo co] ∧ (∀ b t K, Blk w b t K → 33 ≠ t → Blk w' b t K) ∧
   MK (w'.setCell ⟨gm, 2, none⟩ (.slice A' (mo + 1) c')) base T V bm gm ms bs M A n c st A' (mo + 1) c' (out ++ [i]) ∧ Below base w (w'.setCell ⟨gm, 2, none⟩ (.slice A' (mo + 1) c')) := by
 obtain ⟨A', c', w', run, hrow, hbe, hg, hnew⟩ := h.outr.push_at elemId h.size (av := fun _ => True) (oid_of w _ hi) (fun _ _ _ => trivial) (by omega) (by simp only [maxLen]; omega) 46 1
 have o1 : ¬ own (.slice Ao mo co) bm := h.out_ne h.box (by decide)
 have o2 : ¬ own (.slice Ao mo co) gm := h.out_ne h.mrk (by decide)
 have o3 : ¬ own (.slice Ao mo co) ms := h.out_map
 have o4 : ¬ own (.slice Ao mo co) bs := h.out_ne h.bst (by decide)
 have b1 : Blk w' bm 136 #[.pointer (some ⟨gm, 0, none⟩)] := h.box.grown hg (fun e => o1 e.symm)
 have b2 : Blk w' gm 138 #[.iface T V, .map (some ms), .slice Ao mo co] := h.mrk.grown hg (fun e => o2 e.symm)
 have b3 : MapW w' ms M := h.map.same (hg.block ms h.map.lt (fun e => o3 e.symm))
 have b4 : Blk w' bs 173 #[.slice A n c] := h.bst.grown hg (fun e => o4 e.symm)
 have b5 : RowX plcR 175 w' base (avM bm gm ms bs (.slice A' (mo + 1) c')) A n c st.reverse := h.stk.turn hg (fun b e => ⟨.inr (.inr (.inr (.inr e))), fun ho => by
   obtain ⟨cur, hc⟩ := h.outr.typ (show own (.slice Ao mo co) b from e)
   exact h.stk_ne hc (by decide) ho⟩) (fun b hb q => by
    rcases q with q | q | q | q | q
    ·exact .inl q
    ·exact .inr (.inl q)
    ·exact .inr (.inr (.inl q))
    ·exact .inr (.inr (.inr (.inl q)))
    ·rcases hnew b q with q | q
     ·exact .inr (.inr (.inr (.inr q)))
     ·omega)
 have hg2 := grown_set w' gm 2 (.slice A' (mo + 1) c')
 refine ⟨A', c', w', run, b2, fun b t K hk ht => hk.grown hg (fun e => h.out_ne hk ht e.symm), ⟨b1.other (blk_ne b1 b2 (by decide)) 2 _, ?_, b3.same (hg2.block ms b3.lt (fun e => blk_map b2 b3 (Option.some.inj e).symm)), b4.other (blk_ne b4 b2 (by decide)) 2 _, ?_, ?_, h.bbm, h.bgm, h.bms, h.bbs⟩, hbe.grown hg2 (Nat.le_trans h.size hbe.size) (fun k e => by have e := Option.some.inj e; have := h.bgm; omega)⟩
 ·have := b2.set_ 2 (.slice A' (mo + 1) c')
  simpa using this
 ·exact b5.turn hg2 (fun b e => by
   have e := Option.some.inj e
   subst e
   exact ⟨.inr (.inl rfl), fun ho => by obtain ⟨cur, hc⟩ := b5.typ ho; exact blk_ne hc b2 (by decide) rfl⟩) (fun _ _ q => q)
 ·exact hrow.grown hg2 (fun k e hk => by
   have e := Option.some.inj e
   subst e
   obtain ⟨cur, hc⟩ := hrow.typ hk
   exact blk_ne hc b2 (by decide) rfl) (fun _ _ _ k => k)
end
end Go.Proofs.YtgmbkcjihgphmaaGreat
