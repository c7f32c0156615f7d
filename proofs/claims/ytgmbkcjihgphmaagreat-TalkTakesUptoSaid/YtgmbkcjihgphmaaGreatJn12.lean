/- Contracts and laws for what the statement reaches, joined: ObjGetTree, ObjKind, ObjLinksLaw. -/
import Derived.Test.YtgmbkcjihgphmaaGreatJn11
import Derived.Test.YtgmbkcjihgphmaaGreatJn8
/- object.GetTree: the walk. -/
set_option linter.unusedVariables false
set_option linter.unusedSimpArgs false
namespace Go.Proofs.YtgmbkcjihgphmaaGreat
open Go.RowKit
attribute [local go_sem ↓] bsEnt_eq
set_option maxRecDepth 100000 in
set_option maxHeartbeats 8000000 in
theorem getTree_any (A : Option Addr) (n c : Nat) (l : List UInt8) (w : World) (hs : Sl w 1 A n (bytesV l)) (hnc : n ≤ c) (hcm : c ≤ maxLen) :
  Calls Tryz.prog 55 #[.slice A n c] w (TreePost w (getTree l)) := by
 have hmf : ∀ (fn : Fn) (first cap : Array Value) (w : World), (Instr.makeFunc fn first cap).run Tryz.prog w = .ok (.func fn first cap) w := fun _ _ _ _ => rfl
 obtain ⟨w1, hw1⟩ : ∃ w1, w1 = (w.alloc (.cells #[.slice none 0 0] 68)).alloc (.cells #[.int .i64 0] 55) := ⟨_, rfl⟩
 have hb1 : Below w.heap.size w w1 := by rw [hw1]; exact ((Below.refl _ _).alloc (Nat.le_refl _) _).alloc (by simp) _
 have HV1 := Lib.hid (show TV w w1 w.heap.size (.slice none 0 0) from ⟨hb1, by rw [hw1]; exact (Blk.new w _ _).alloc _, by rw [hw1]; have := Blk.new (w.alloc (.cells #[.slice none 0 0] 68)) 55 #[.int .i64 0]; simpa using this⟩)
 have HSZ := Lib.hid (show w1.heap.size = w.heap.size + 2 by rw [hw1]; simp)
 have HOP := Lib.hid (open_get A n c l 3 1 w1 (hs.below hb1) hnc hcm (by omega) (by omega) (by omega))
 obtain ⟨R, hR⟩ : ∃ R, R = getTree l := ⟨_, rfl⟩
 obtain ⟨D, hD⟩ : ∃ D, D = openG l 3 1 := ⟨_, rfl⟩
 have HR := Lib.hid (show R = bindR D fun vs => bindR (listG (nthV vs 0) 1024) fun us => bindR (eachG entG us) treeEnd by rw [hR, hD]; rfl)
 have HDL := Lib.hid hD
 rw [← hR]
 rw [← hD] at HOP
 clear hs hnc hcm hb1 hR hD
 go_enter_defers Tryz.func55, Tryz.ntmps55
 go_upto_region 3 with fail
 change Code.wp _ _ _ _ ((w.alloc (.cells #[.slice none 0 0] 68)).alloc (.cells #[.int .i64 0] 55))
 rw [← hw1]
 clear hw1
 generalize hg : w.heap.size = g at *
 have HG := Lib.hid hg
 clear hg
 go_wp2_with fail
 refine HOP.out.mono ?_
 intro e w2 hp
 obtain ⟨hb2, hp⟩ := hp
 have HV2 := Lib.hid (HV1.out.go hb2)
 cases D with
 | error z =>
  obtain rfl : e = _ := hp
  have hr := HR.out
  refine tree_out HG.out ⟨z, rfl, openG_err HDL.out.symm, hr, _, _, _, HV2.out⟩ ?_ ?_ ?_ <;> rfl
 | ok vs =>
  obtain ⟨L, cL, rfl, hl1, hl2, hsl⟩ := hp
  have hlen := openG_len HDL.out.symm
  rw [hlen] at hl1 ⊢
  obtain ⟨bL, oL, cs, rfl, hbL, hv, hat⟩ := val_at hsl hlen (i := 0) (by omega)
  have HRR := Lib.hid (show R = bindR (listG (nthV vs 0) 1024) fun us => bindR (eachG entG us) treeEnd from HR.out)
  have hk5 : cs.length = 5 := valR.len hv
  obtain ⟨KV, hKV⟩ : ∃ KV, KV = cs.toArray := ⟨_, rfl⟩
  have HI := Lib.hid (show (Tryz.prog.info? 94).map (·.size) = some KV.size by rw [hKV, show cs.toArray.size = 5 from by simpa using hk5]; exact val_info)
  have HAT := Lib.hid (show At w2 ⟨bL, oL, none⟩ KV by rw [hKV]; simpa using hat)
  have HT := Lib.hid (list_get cs (nthV vs 0) 1024 w2 _ hv (by omega))
  rw [← hKV] at HT
  obtain ⟨T, hT⟩ : ∃ T, T = listG (nthV vs 0) 1024 := ⟨_, rfl⟩
  have HTT := Lib.hid hT
  rw [← hT] at HT HRR
  have hsz2 : g + 2 ≤ w2.heap.size := by have := HSZ.out; have := hb2.size; omega
  clear hlen hsl hv hat hk5 hKV HR HDL HOP hT HV1 hb2
  go_wp2_with (first | (refine wpList_load_at rfl _ _ rfl bL oL rfl KV _ HAT.out Tryz.underlying94 rfl HI.out ?_) | fail)
  refine HT.out.mono ?_
  intro e w3 hp
  obtain ⟨hb3, hp⟩ := hp
  have HV3 := Lib.hid (HV2.out.go hb3)
  cases T with
  | error z =>
   obtain rfl : e = _ := hp
   have hr := HRR.out
   refine tree_out HG.out ⟨z, rfl, listG_err HTT.out.symm, hr, _, _, _, HV3.out⟩ ?_ ?_ ?_ <;> rfl
  | ok us =>
   obtain ⟨M, cM, rfl, hm1, hm2, hum⟩ := hp
   have HUM := Lib.hid (show SlOf valR w3 (fun b => b < w1.heap.size) M us from hum)
   have hul := listG_len HTT.out.symm
   obtain ⟨nu, hnu⟩ : ∃ nu, nu = us.length := ⟨_, rfl⟩
   rw [← hnu] at hm1 hul ⊢
   have HLU := Lib.hid hnu.symm
   obtain ⟨RR, hRR⟩ : ∃ RR, RR = eachG entG us := ⟨_, rfl⟩
   have HCR := Lib.hid (show conE [] (eachG entG (us.drop 0)) = RR by rw [conE_nil, List.drop_zero, hRR])
   have HR5 := Lib.hid (show R = bindR RR treeEnd by rw [HRR.out, hRR]; rfl)
   have HEL := Lib.hid (EL.start HV3.out.x.lt)
   have hsz3 : g + 2 ≤ w3.heap.size := by have := hb3.size; omega
   clear hum hnu hRR HRR HTT HT hb3 HV2 HAT HI
   go_wp2_with fail
   go_loopw [15] (fun s15 wr => ∃ (k : Nat) (A' : Option Addr) (c' : Nat) (es : List EntT), k ≤ nu ∧ s15 = .int .i64 (k : Int) ∧ Hid (conE es (eachG entG (us.drop k)) = RR) ∧ Hid (EL w3 wr g A' k c' es) ∧ Hid (TV w wr g (.slice A' k c')) ∧ Hid (∀ x ∈ es, x.1.size ≤ 64)) (fun s15 wr => nu - (intOf s15).toNat)
   case atStart => exact ⟨0, none, 0, [], by omega, rfl, HCR, HEL, HV3, Lib.hid (by simp)⟩
   case round =>
    obtain ⟨k, A', c', es, hk, rfl, HC, HL, HX, HSM⟩ := hrel
    by_cases hlt : k < nu
    ·have hltI : (k : Int) < (nu : Int) := by omega
     obtain ⟨bM, oM, cs, rfl, hbM, hv, hat⟩ := val_at (HUM.out.stable (Moves.grown HL.out.grown (show g < w1.heap.size by have := HSZ.out; omega))) HLU.out hlt
     have hvk := nthV_at (us := us) (k := k) (by rw [HLU.out]; exact hlt)
     obtain ⟨KV, hKV, HK, HKV, HI, HO, HS5, HN⟩ := keepNewA wr hv
     have HAT := Lib.hid (show At wr ⟨bM, oM + k * 5, none⟩ KV by rw [hKV]; exact hat)
     have hbal : Below wr.heap.size wr (wr.alloc (.cells KV 94)) := (Below.refl _ _).alloc (Nat.le_refl _) _
     have HX6 := Lib.hid (HX.out.go hbal)
     have HL6 := Lib.hid (HL.out.below hbal)
     have HVK := Lib.hid hvk
     have HTL := Lib.hid (by
      have := list_get KV.toList (nthV us k) 3 (wr.alloc (.cells KV 94)) _ HKV.out (by omega)
      rwa [Array.toArray_toList] at this : Calls Tryz.prog 80 #[.agg KV, .int .i64 ((3 : Nat) : Int)] (wr.alloc (.cells KV 94)) (LstPost (wr.alloc (.cells KV 94)) (fun b => b < w1.heap.size) (listG (nthV us k) 3)))
     clear hv hat hvk hKV HKV hbal
     go_upto_region 6 with (first
      | (refine wpList_load_at rfl _ _ rfl bM (oM + k * 5) rfl KV _ HAT.out Tryz.underlying94 rfl HI.out ?_)
      | (refine wpList_store_row rfl _ _ _ rfl wr.heap.size KV rfl rfl 94 _ HN.out HI.out HS5.out HO.out ?_) | fail)
     rw [World.setRow_alloc_new]
     clear HN HS5 HO HAT HX HL
     generalize wr.alloc (.cells KV 94) = w6 at *
     generalize wr.heap.size = gc at *
     obtain ⟨T, hT⟩ : ∃ T, T = listG (nthV us k) 3 := ⟨_, rfl⟩
     have HEG := Lib.hid (show entG (nthV us k) = bindR T entRow by rw [hT]; rfl)
     have HTT := Lib.hid hT
     rw [← hT] at HTL
     clear hT
     go_wp2_with (first | (refine wpList_load_at rfl _ _ rfl gc 0 rfl KV _ (At.of_row HK.out) Tryz.underlying94 rfl HI.out ?_) | fail)
     refine HTL.out.mono ?_
     intro e w7 hp
     obtain ⟨hb7, hp⟩ := hp
     have HX7 := Lib.hid (HX6.out.go hb7)
     have HL7 := Lib.hid (HL6.out.below hb7)
     cases T with
     | error z =>
      obtain rfl : e = _ := hp
      have hrr : R = .error z := by rw [HR5.out, ← HC.out, conE_err es HVK.out (show entG (nthV us k) = .error z from HEG.out)]; rfl
      refine tree_out HG.out ⟨z, rfl, listG_err HTT.out.symm, hrr, _, _, _, HX7.out⟩ ?_ ?_ ?_ <;> rfl
     | ok row =>
      obtain ⟨M2, cM2, rfl, hr1, hr2, hrw⟩ := hp
      have hrl := listG_len HTT.out.symm
      obtain ⟨nr, hnr⟩ : ∃ nr, nr = row.length := ⟨_, rfl⟩
      rw [← hnr] at hr1 hrl ⊢
      have HLR := Lib.hid hnr.symm
      have HRW := Lib.hid (show SlOf valR w7 (fun b => b < w1.heap.size) M2 row from hrw)
      have HEG2 := Lib.hid (show entG (nthV us k) = entRow row from HEG.out)
      clear hrw HTT HEG hnr HTL hb7 HK HI
      by_cases h2 : 2 ≤ nr
      ·have h2I : (2 : Int) ≤ (nr : Int) := by omega
       obtain ⟨bR, oR, _, rfl, _, _, _⟩ := val_at HRW.out HLR.out (i := 0) (by omega)
       obtain ⟨K0, HA0, HI0, HV0, hbR⟩ := val_load HRW.out HLR.out (i := 0) (by omega)
       obtain ⟨K1, HA1, HI1, HVV1, _⟩ := val_load HRW.out HLR.out (i := 1) (by omega)
       obtain ⟨d, hd⟩ : ∃ d, d = decide (nr = 2) := ⟨_, rfl⟩
       have e2 : ((nr : Int) == 2) = d := by
        rw [hd]
        by_cases h : nr = 2
        ·simp [h]
        ·rw [decide_eq_false h]; simp; omega
       have HD := Lib.hid hd
       have h0nr : (0 : Int) < (nr : Int) := by omega
       have h0n : 0 < nr := by omega
       have h1n : 1 < nr := by omega
       have h1nr : (1 : Int) < (nr : Int) := by omega
       clear hd
       go_wp2_with fail
       refine (need_yes 91 _).mono ?_
       rintro e w8 ⟨rfl, rfl⟩
       have hdr : Below w8.heap.size w8 w8.drew := Same.below ⟨1, rfl⟩ _
       have HT0 : Hid (∀ W, Below w8.heap.size w8 W → Calls Tryz.prog 83 #[.agg K0, .int .i64 ((64 : Nat) : Int)] W (TxtPost W (textG (nthV row 0) 64))) := Lib.hid (fun W h => by
        have := text_get K0.toList (nthV row 0) 64 W (valR.stable HV0.out ((Moves.forget _ _).trans (Moves.of_below h))) (by omega)
        rwa [Array.toArray_toList] at this)
       have HT1 : Hid (∀ W, Below w8.heap.size w8 W → Calls Tryz.prog 81 #[.agg K1] W (IdPost W (idG (nthV row 1)))) := Lib.hid (fun W h => by
        have := id_get K1.toList (nthV row 1) W (valR.stable HVV1.out ((Moves.forget _ _).trans (Moves.of_below h)))
        rwa [Array.toArray_toList] at this)
       have HER0 := Lib.hid (show ∀ z, textG (nthV row 0) 64 = .error z → R = .error z from fun z hz => by
        rw [HR5.out, ← HC.out, conE_err es HVK.out (show entG (nthV us k) = .error z by rw [HEG2.out]; unfold entRow; rw [if_neg (by rw [HLR.out]; omega), hz]; rfl)]; rfl)
       have HER1 := Lib.hid (show ∀ st z, textG (nthV row 0) 64 = .ok st → idG (nthV row 1) = .error z → R = .error z from fun st z hy hz => by
        rw [HR5.out, ← HC.out, conE_err es HVK.out (show entG (nthV us k) = .error z by rw [HEG2.out]; unfold entRow; rw [if_neg (by rw [HLR.out]; omega), hy]; show bindR (idG (nthV row 1)) _ = _; rw [hz]; rfl)]; rfl)
       have HH2 := Lib.hid h2
       have HRL := Lib.hid hrl
       clear HV0 HVV1 hrl hr1 h2 h2I
       go_upto_region 8 with fail
       go_cut [7, 15] from 15 to 55 (fun s7 s15 wx => ∃ (ge : Nat) (st i : List UInt8), s7 = .pointer (some ⟨ge, 0, none⟩) ∧ s15 = .int .i64 (k : Int) ∧ Hid (textG (nthV row 0) 64 = .ok st) ∧ Hid (idG (nthV row 1) = .ok i) ∧ Hid (i.length = 32) ∧ w8.heap.size ≤ ge ∧ Hid (Below w8.heap.size w8 wx) ∧ Hid (Blk wx ge 70 (entK ⟨st.toArray⟩ d i 0)))
       case first =>
        refine wp_door (treePn w g R) 2 3 (.pointer (some ⟨g, 0, none⟩)) (.pointer (some ⟨g + 1, 0, none⟩)) (treeDs g) (fun ch a w' h1 h2 h3 hp => ?_) ?_
        ·exact tree_out HG.out hp h1 h2 h3
        have hcls := hdr
        refine wp_region_held (S := fun w => Below w8.heap.size w8 w) (by kernel_rfl) ?_
        change wpAnyH _ _ _ _ _ _ _ _ (World.drew _)
        generalize World.drew w8 = wd at hcls ⊢
        refine held_take (i := 0) (v := ?_) (a' := ?_) rfl (by kernel_rfl) (by kernel_rfl) (by kernel_rfl) (fun _ _ _ h => door_put (by decide) (by decide) h) (by rfl) hcls ?_ ?_ ?_
        rotate_left 2
        ·(intro w hS; go_simp; try with_reducible rfl)
        ·(go_simp; try with_reducible rfl)
        refine held_take (i := 1) (v := ?_) (a' := ?_) rfl (by kernel_rfl) (by kernel_rfl) (by kernel_rfl) (fun _ _ _ h => door_put (by decide) (by decide) h) (by rfl) hcls ?_ ?_ ?_
        rotate_left 2
        ·(intro w hS; go_simp; try with_reducible rfl)
        ·(go_simp; try with_reducible rfl)
        refine held_take (i := 2) (v := ?_) (a' := ?_) rfl (by kernel_rfl) (by kernel_rfl) (by kernel_rfl) (fun _ _ _ h => door_put (by decide) (by decide) h) (by rfl) hcls ?_ ?_ ?_
        rotate_left 2
        ·(intro w hS; refine exec_load_at 94 (.tmp 26) ?_ bR (oR + 0 * 5) ?_ K0 _ (HA0.out.below hS hbR) Tryz.underlying94 rfl HI0.out; exact rfl; exact rfl)
        ·(go_simp; try with_reducible rfl)
        refine held_take (i := 4) (v := ?_) (a' := ?_) rfl (by kernel_rfl) (by kernel_rfl) (by kernel_rfl) (fun _ _ _ h => door_put (by decide) (by decide) h) (by rfl) hcls ?_ ?_ ?_
        rotate_left 2
        ·(intro w hS; go_simp; try with_reducible rfl)
        ·(go_simp; try with_reducible rfl)
        refine held_take (i := 5) (v := ?_) (a' := ?_) rfl (by kernel_rfl) (by kernel_rfl) (by kernel_rfl) (fun _ _ _ h => door_put (by decide) (by decide) h) (by rfl) hcls ?_ ?_ ?_
        rotate_left 2
        ·(intro w hS; go_simp; try with_reducible rfl)
        ·(go_simp; try with_reducible rfl)
        refine held_take (i := 6) (v := ?_) (a' := ?_) rfl (by kernel_rfl) (by kernel_rfl) (by kernel_rfl) (fun _ _ _ h => door_put (by decide) (by decide) h) (by rfl) hcls ?_ ?_ ?_
        rotate_left 2
        ·(intro w hS; refine exec_load_at 94 (.tmp 30) ?_ bR (oR + 1 * 5) ?_ K1 _ (HA1.out.below hS hbR) Tryz.underlying94 rfl HI1.out; exact rfl; exact rfl)
        ·(go_simp; try with_reducible rfl)
        refine held_take (i := 8) (v := ?_) (a' := ?_) rfl (by kernel_rfl) (by kernel_rfl) (by kernel_rfl) (fun _ _ _ h => door_put (by decide) (by decide) h) (by rfl) hcls ?_ ?_ ?_
        rotate_left 2
        ·(intro w hS; go_simp; try with_reducible rfl)
        ·(go_simp; try with_reducible rfl)
        refine held_take (i := 9) (v := ?_) (a' := ?_) rfl (by kernel_rfl) (by kernel_rfl) (by kernel_rfl) (fun _ _ _ h => door_put (by decide) (by decide) h) (by rfl) hcls ?_ ?_ ?_
        rotate_left 2
        ·(intro w hS; go_simp; try with_reducible rfl)
        ·(go_simp; try with_reducible rfl)
        refine held_take (i := 10) (v := ?_) (a' := ?_) rfl (by kernel_rfl) (by kernel_rfl) (by kernel_rfl) (fun _ _ _ h => door_put (by decide) (by decide) h) (by rfl) hcls ?_ ?_ ?_
        rotate_left 2
        ·(intro w hS; go_simp; try with_reducible rfl)
        ·(go_simp; try with_reducible rfl)
        refine held_ready (rs := [3, 12]) (by kernel_rfl) (by simp) ?_
        refine AllHeld.cons rfl (fun KR hKR => ?_) ?_
        ·go_simp
         refine (HT0.out _ hcls).mono ?_
         intro e wn hp
         obtain ⟨hbn, hp⟩ := hp
         have hcls := hcls.trans (hbn.mono hcls.size)
         try have hE := hE.below hbn hE.lt
         rcases ht : textG (nthV row 0) 64 with z | st
         ·rw [ht] at hp
          obtain rfl : e = _ := hp
          exact ⟨rfl, rfl, rfl, z, rfl, textG_err ht, HER0.out z ht, _, _, _, HX7.out.go hcls⟩
         rw [ht] at hp
         obtain rfl : e = _ := hp
         have HTX := Lib.hid ht
         clear ht hbn
         refine hKR _ _ hcls ?_
         clear hKR KR
         refine held_ready (rs := [7, 12]) (by kernel_rfl) (by simp) ?_
         refine AllHeld.cons rfl (fun KR hKR => ?_) ?_
         ·go_simp
          refine (HT1.out _ hcls).mono ?_
          intro e wn hp
          obtain ⟨hbn, hp⟩ := hp
          have hcls := hcls.trans (hbn.mono hcls.size)
          try have hE := hE.below hbn hE.lt
          rcases ht : idG (nthV row 1) with z | i
          ·rw [ht] at hp
           obtain rfl : e = _ := hp
           exact ⟨rfl, rfl, rfl, z, rfl, idG_err ht, HER1.out _ z HTX.out ht, _, _, _, HX7.out.go hcls⟩
          rw [ht] at hp
          obtain ⟨rfl, hb32⟩ := hp
          have HIX := Lib.hid ht
          have H32 := Lib.hid hb32
          obtain ⟨KE, hKE⟩ : ∃ KE, KE = entK ⟨st.toArray⟩ d i 0 := ⟨_, rfl⟩
          obtain ⟨KB, hKB⟩ : ∃ KB, KB = (bytesV i).toArray := ⟨_, rfl⟩
          have hbe := Lib.hid (show ∀ w, (Instr.build 70 #[(0, .string ⟨st.toArray⟩), (2, .agg KB), (1, .bool d)]).run Tryz.prog w = .ok (.agg KE) w from fun w => by rw [hKB, hKE]; exact bEnt_of w _ d hb32)
          have HIE := Lib.hid (show (Tryz.prog.info? 70).map (·.size) = some KE.size by rw [hKE]; exact entK_info hb32 _ _ _)
          have HSE := Lib.hid (show zEnt.size = KE.size by rw [hKE, entK_size (by simp), entK_size hb32])
          have HOE := Lib.hid (show KE.all (·.oneCell') = true by rw [hKE]; exact entK_one _ _ _ _)
          have HKE := Lib.hid hKE
          rw [← hKB]
          clear ht hbn hKE hKB hb32
          refine hKR _ _ hcls ?_
          clear hKR KR
          refine held_take (i := 11) (v := ?_) (a' := ?_) rfl (by kernel_rfl) (by kernel_rfl) (by kernel_rfl) (fun _ _ _ h => door_put (by decide) (by decide) h) (by rfl) hcls ?_ ?_ ?_
          rotate_left 2
          ·(intro w hS; refine exec_build3 70 0 2 1 (.tmp 28) (.tmp 32) (.tmp 35) ?_ (.string ⟨st.toArray⟩) (.agg KB) (.bool d) (.agg KE) ?_ ?_ ?_ (hbe.out w); exact rfl; exact rfl; exact rfl; exact rfl)
          ·(go_simp; try with_reducible rfl)
          refine held_ready (rs := [12]) (by kernel_rfl) (by simp) ?_
          refine AllHeld.cons rfl (fun KR hKR => ?_) ?_
          ·go_simp
           obtain ⟨wn, ge, hwn, hgn, hcls, hge, hE⟩ := ent_alloc hcls
           change KR _ (World.alloc _ (.cells zEnt 70))
           rw [hwn, hgn]
           clear hwn hgn
           refine hKR _ _ hcls ?_
           clear hKR KR
           refine held_ready (rs := [13]) (by kernel_rfl) (by simp) ?_
           refine AllHeld.cons rfl (fun KR hKR => ?_) ?_
           ·refine step_store_row (by rfl) (.tmp 7) (.tmp 36) (by rfl) ge KE (by rfl) (by rfl) 70 zEnt hE HIE.out HSE.out HOE.out ?_
            have hcls := below_setRow hcls hge KE
            have hE2 := setRow_heap _ ge _ KE _ _ hE
            refine hKR _ _ hcls ?_
            clear hKR KR
            refine wpAnyH_done (by kernel_rfl) ?_ _
            clear hbe
            refine door_normal ?_
            go_wp2_with fail
            go_meet
            case rel => exact ⟨ge, st, i, rfl, rfl, HTX, HIX, H32, hge, Lib.hid hcls, Lib.hid (by rw [← HKE.out]; exact hE2)⟩
           exact AllHeld.nil
          exact AllHeld.nil
         refine AllHeld.cons rfl (fun KR hKR => ?_) ?_
         ·go_simp
          obtain ⟨wn, ge, hwn, hgn, hcls, hge, hE⟩ := ent_alloc hcls
          change KR _ (World.alloc _ (.cells zEnt 70))
          rw [hwn, hgn]
          clear hwn hgn
          refine hKR _ _ hcls ?_
          clear hKR KR
          refine held_ready (rs := [7]) (by kernel_rfl) (by simp) ?_
          refine AllHeld.cons rfl (fun KR hKR => ?_) ?_
          ·go_simp
           refine (HT1.out _ hcls).mono ?_
           intro e wn hp
           obtain ⟨hbn, hp⟩ := hp
           have hcls := hcls.trans (hbn.mono hcls.size)
           try have hE := hE.below hbn hE.lt
           rcases ht : idG (nthV row 1) with z | i
           ·rw [ht] at hp
            obtain rfl : e = _ := hp
            exact ⟨rfl, rfl, rfl, z, rfl, idG_err ht, HER1.out _ z HTX.out ht, _, _, _, HX7.out.go hcls⟩
           rw [ht] at hp
           obtain ⟨rfl, hb32⟩ := hp
           have HIX := Lib.hid ht
           have H32 := Lib.hid hb32
           obtain ⟨KE, hKE⟩ : ∃ KE, KE = entK ⟨st.toArray⟩ d i 0 := ⟨_, rfl⟩
           obtain ⟨KB, hKB⟩ : ∃ KB, KB = (bytesV i).toArray := ⟨_, rfl⟩
           have hbe := Lib.hid (show ∀ w, (Instr.build 70 #[(0, .string ⟨st.toArray⟩), (2, .agg KB), (1, .bool d)]).run Tryz.prog w = .ok (.agg KE) w from fun w => by rw [hKB, hKE]; exact bEnt_of w _ d hb32)
           have HIE := Lib.hid (show (Tryz.prog.info? 70).map (·.size) = some KE.size by rw [hKE]; exact entK_info hb32 _ _ _)
           have HSE := Lib.hid (show zEnt.size = KE.size by rw [hKE, entK_size (by simp), entK_size hb32])
           have HOE := Lib.hid (show KE.all (·.oneCell') = true by rw [hKE]; exact entK_one _ _ _ _)
           have HKE := Lib.hid hKE
           rw [← hKB]
           clear ht hbn hKE hKB hb32
           refine hKR _ _ hcls ?_
           clear hKR KR
           refine held_take (i := 11) (v := ?_) (a' := ?_) rfl (by kernel_rfl) (by kernel_rfl) (by kernel_rfl) (fun _ _ _ h => door_put (by decide) (by decide) h) (by rfl) hcls ?_ ?_ ?_
           rotate_left 2
           ·(intro w hS; refine exec_build3 70 0 2 1 (.tmp 28) (.tmp 32) (.tmp 35) ?_ (.string ⟨st.toArray⟩) (.agg KB) (.bool d) (.agg KE) ?_ ?_ ?_ (hbe.out w); exact rfl; exact rfl; exact rfl; exact rfl)
           ·(go_simp; try with_reducible rfl)
           refine held_ready (rs := [13]) (by kernel_rfl) (by simp) ?_
           refine AllHeld.cons rfl (fun KR hKR => ?_) ?_
           ·refine step_store_row (by rfl) (.tmp 7) (.tmp 36) (by rfl) ge KE (by rfl) (by rfl) 70 zEnt hE HIE.out HSE.out HOE.out ?_
            have hcls := below_setRow hcls hge KE
            have hE2 := setRow_heap _ ge _ KE _ _ hE
            refine hKR _ _ hcls ?_
            clear hKR KR
            refine wpAnyH_done (by kernel_rfl) ?_ _
            clear hbe
            refine door_normal ?_
            go_wp2_with fail
            go_meet
            case rel => exact ⟨ge, st, i, rfl, rfl, HTX, HIX, H32, hge, Lib.hid hcls, Lib.hid (by rw [← HKE.out]; exact hE2)⟩
           exact AllHeld.nil
          exact AllHeld.nil
         exact AllHeld.nil
        refine AllHeld.cons rfl (fun KR hKR => ?_) ?_
        ·go_simp
         obtain ⟨wn, ge, hwn, hgn, hcls, hge, hE⟩ := ent_alloc hcls
         change KR _ (World.alloc _ (.cells zEnt 70))
         rw [hwn, hgn]
         clear hwn hgn
         refine hKR _ _ hcls ?_
         clear hKR KR
         refine held_ready (rs := [3]) (by kernel_rfl) (by simp) ?_
         refine AllHeld.cons rfl (fun KR hKR => ?_) ?_
         ·go_simp
          refine (HT0.out _ hcls).mono ?_
          intro e wn hp
          obtain ⟨hbn, hp⟩ := hp
          have hcls := hcls.trans (hbn.mono hcls.size)
          try have hE := hE.below hbn hE.lt
          rcases ht : textG (nthV row 0) 64 with z | st
          ·rw [ht] at hp
           obtain rfl : e = _ := hp
           exact ⟨rfl, rfl, rfl, z, rfl, textG_err ht, HER0.out z ht, _, _, _, HX7.out.go hcls⟩
          rw [ht] at hp
          obtain rfl : e = _ := hp
          have HTX := Lib.hid ht
          clear ht hbn
          refine hKR _ _ hcls ?_
          clear hKR KR
          refine held_ready (rs := [7]) (by kernel_rfl) (by simp) ?_
          refine AllHeld.cons rfl (fun KR hKR => ?_) ?_
          ·go_simp
           refine (HT1.out _ hcls).mono ?_
           intro e wn hp
           obtain ⟨hbn, hp⟩ := hp
           have hcls := hcls.trans (hbn.mono hcls.size)
           try have hE := hE.below hbn hE.lt
           rcases ht : idG (nthV row 1) with z | i
           ·rw [ht] at hp
            obtain rfl : e = _ := hp
            exact ⟨rfl, rfl, rfl, z, rfl, idG_err ht, HER1.out _ z HTX.out ht, _, _, _, HX7.out.go hcls⟩
           rw [ht] at hp
           obtain ⟨rfl, hb32⟩ := hp
           have HIX := Lib.hid ht
           have H32 := Lib.hid hb32
           obtain ⟨KE, hKE⟩ : ∃ KE, KE = entK ⟨st.toArray⟩ d i 0 := ⟨_, rfl⟩
           obtain ⟨KB, hKB⟩ : ∃ KB, KB = (bytesV i).toArray := ⟨_, rfl⟩
           have hbe := Lib.hid (show ∀ w, (Instr.build 70 #[(0, .string ⟨st.toArray⟩), (2, .agg KB), (1, .bool d)]).run Tryz.prog w = .ok (.agg KE) w from fun w => by rw [hKB, hKE]; exact bEnt_of w _ d hb32)
           have HIE := Lib.hid (show (Tryz.prog.info? 70).map (·.size) = some KE.size by rw [hKE]; exact entK_info hb32 _ _ _)
           have HSE := Lib.hid (show zEnt.size = KE.size by rw [hKE, entK_size (by simp), entK_size hb32])
           have HOE := Lib.hid (show KE.all (·.oneCell') = true by rw [hKE]; exact entK_one _ _ _ _)
           have HKE := Lib.hid hKE
           rw [← hKB]
           clear ht hbn hKE hKB hb32
           refine hKR _ _ hcls ?_
           clear hKR KR
           refine held_take (i := 11) (v := ?_) (a' := ?_) rfl (by kernel_rfl) (by kernel_rfl) (by kernel_rfl) (fun _ _ _ h => door_put (by decide) (by decide) h) (by rfl) hcls ?_ ?_ ?_
           rotate_left 2
           ·(intro w hS; refine exec_build3 70 0 2 1 (.tmp 28) (.tmp 32) (.tmp 35) ?_ (.string ⟨st.toArray⟩) (.agg KB) (.bool d) (.agg KE) ?_ ?_ ?_ (hbe.out w); exact rfl; exact rfl; exact rfl; exact rfl)
           ·(go_simp; try with_reducible rfl)
           refine held_ready (rs := [13]) (by kernel_rfl) (by simp) ?_
           refine AllHeld.cons rfl (fun KR hKR => ?_) ?_
           ·refine step_store_row (by rfl) (.tmp 7) (.tmp 36) (by rfl) ge KE (by rfl) (by rfl) 70 zEnt hE HIE.out HSE.out HOE.out ?_
            have hcls := below_setRow hcls hge KE
            have hE2 := setRow_heap _ ge _ KE _ _ hE
            refine hKR _ _ hcls ?_
            clear hKR KR
            refine wpAnyH_done (by kernel_rfl) ?_ _
            clear hbe
            refine door_normal ?_
            go_wp2_with fail
            go_meet
            case rel => exact ⟨ge, st, i, rfl, rfl, HTX, HIX, H32, hge, Lib.hid hcls, Lib.hid (by rw [← HKE.out]; exact hE2)⟩
           exact AllHeld.nil
          exact AllHeld.nil
         exact AllHeld.nil
        exact AllHeld.nil
       case rest =>
        obtain ⟨ge, st, i, rfl, rfl, HTX, HIX, H32, hge, HB9, HE9⟩ := hcut
        rename World => w9
        have HX9 := Lib.hid (HX7.out.go HB9.out)
        have HL9 := Lib.hid (HL7.out.below HB9.out)
        have hge9 : ge < w9.heap.size := HE9.out.lt
        have HRW9 := Lib.hid (HRW.out.below HB9.out)
        have hsz8 : w3.heap.size ≤ w8.heap.size := HL7.out.grown.size
        have hcf := (HE9.out.cell 1).trans (entK_get H32.out _ _ _).2.1
        have HOW := Lib.hid (show ∀ b, own (.slice A' k c') b → b ≠ ge from fun b hb e => by have := (HL7.out.row.lt hb).2; omega)
        have HENT := Lib.hid (show entG (nthV us k) = entEnd row st i by
         rw [HEG2.out]; unfold entRow; rw [if_neg (by rw [HLR.out]; have := HH2.out; omega), HTX.out]; show bindR (idG (nthV row 1)) _ = _; rw [HIX.out]; rfl)
        clear HX6 HL6 HX7 HL7 HRW HA0 HA1 HI0 HI1 HT0 HT1 HER0 HER1 hdr h0nr h1nr h0n h1n HB9 HEG2
        by_cases hd2 : nr = 2
        ·obtain rfl : d = true := by rw [HD.out]; exact decide_eq_true hd2
         have HC2 := Lib.hid (show conE (es ++ [(⟨st.toArray⟩, true, i, 0)]) (eachG entG (us.drop (k + 1))) = RR by
          rw [← conE_step es HVK.out (show entG (nthV us k) = .ok (⟨st.toArray⟩, true, i, 0) by rw [HENT.out]; unfold entEnd; rw [if_pos (by rw [HLR.out]; exact hd2)])]; exact HC.out)
         have HF64 : (0 : Nat) < 2 ^ 64 := by decide
         clear e2 HD HRW9 HOW
         obtain ⟨A9, c9, w10, run9, HLa, hg10, hob10⟩ := HL9.out.push (x := (⟨st.toArray⟩, true, i, 0)) H32.out HF64 (by omega) 1
         obtain ⟨KE, hKE⟩ : ∃ KE, KE = entK ⟨st.toArray⟩ true i 0 := ⟨_, rfl⟩
         have run10 : (Builtin.append_ #[68, 68] 68 #[.slice A' k c', .slice (some ⟨w9.heap.size, 0, none⟩) 1 1]).run Tryz.prog (w9.alloc (.cells KE 70)) = .ok (.slice A9 (k + 1) c9) w10 := by rw [hKE]; exact run9
         have HE10 := Lib.hid (show Blk w9 ge 70 KE by rw [hKE]; exact HE9.out)
         have hKs : KE.size = 35 := by rw [hKE]; exact entK_size H32.out _ _ _
         have HIE := Lib.hid (show (Tryz.prog.info? 70).map (·.size) = some KE.size by rw [hKs]; exact ent_info)
         have hbs := fun w => bsEnt_of w KE hKs
         have hcl : w9.cell? ⟨g, 0, none⟩ = some (.slice A' k c') := HX9.out.x.cell 0
         have HX10 := Lib.hid (HX9.out.grown hg10 (fun b hb => by have := hob10 b hb; omega))
         have hcz : w10.cell? ⟨g, 0, none⟩ = some (.slice A' k c') := HX10.out.x.cell 0
         have hfz := HX10.out.x.frozen 0
         have hlz := HX10.out.x.lt
         have HX11 := Lib.hid (HX10.out.set (.slice A9 (k + 1) c9))
         have HL11 := Lib.hid (HLa.set (off := 0) (.slice A9 (k + 1) c9))
         have HSZ2 := Lib.hid (show ∀ x ∈ es ++ [((⟨st.toArray⟩ : ByteArray), true, i, 0)], x.1.size ≤ 64 from fun x hx => by
          rcases List.mem_append.1 hx with h | h
          ·exact HSM.out x h
          ·obtain rfl : x = _ := by simpa using h
           have := textG_len HTX.out
           simpa [ByteArray.size] using this)
         clear run9 hKE hKs HE9 HLa hg10 hob10 HL9 HX9 HX10
         go_wp2_with (first
          | (refine wpList_load_at rfl _ _ rfl ge 0 rfl KE _ (At.of_row HE10.out) Tryz.underlying70 rfl HIE.out ?_)
          | (refine wpList_build1 rfl (.tmp 52) rfl (.agg KE) _ rfl (hbs _) ?_)
          | (at_builtin; refine wpList_run_append run10 ?_ ?_ ?_; exact rfl; exact rfl)
          | fail)
         go_roundw
         case rel => exact ⟨k + 1, A9, c9, es ++ [(⟨st.toArray⟩, true, i, 0)], by omega, by go_num, HC2, HL11, HX11, HSZ2⟩
         case measure => simp [intOf]; omega
        ·obtain rfl : d = false := by rw [HD.out]; exact decide_eq_false hd2
         have h3 : nr = 3 := by have := HH2.out; have := HRL.out; omega
         have h2nr : (2 : Int) < (nr : Int) := by omega
         have h2n : 2 < nr := by omega
         obtain ⟨b2, o2, cs2, e0, hb2, hv2, hat2⟩ := val_at HRW9.out HLR.out (i := 2) (by omega)
         have e0 := Option.some.inj e0
         injection e0 with e1 e2
         subst e1 e2
         have hf64 := val_flt hv2
         obtain ⟨p0, p1, p3⟩ := val_two hv2 hat2
         obtain ⟨kq, hkq⟩ : ∃ kq, kq = (nthV row 2).kind := ⟨_, rfl⟩
         obtain ⟨fq, hfq⟩ : ∃ fq, fq = (nthV row 2).flt := ⟨_, rfl⟩
         rw [← hfq] at hf64
         have HE3 := Lib.hid (show entG (nthV us k) = if kq ≠ 2 then .error 91 else .ok (⟨st.toArray⟩, false, i, fq) by
          rw [HENT.out, hkq, hfq]; unfold entEnd; rw [if_neg (by rw [HLR.out]; exact hd2)])
         have q0 : w9.cell? ⟨bR, oR + 10, none⟩ = some (.int .i64 kq) := by rw [hkq]; exact p0
         have q3 : w9.cell? ⟨bR, oR + 13, none⟩ = some (.float .f64 fq) := by rw [hfq]; exact p3
         clear hv2 hat2 hkq hfq p0 p1 p3 e0 HENT HRW9 hd2 h3 HD
         by_cases hk2 : kq = 2
         ·have e1 : (kq == 2) = true := by simp [hk2]
          have HC2 := Lib.hid (show conE (es ++ [(⟨st.toArray⟩, false, i, fq)]) (eachG entG (us.drop (k + 1))) = RR by
           rw [← conE_step es HVK.out (show entG (nthV us k) = .ok (⟨st.toArray⟩, false, i, fq) by rw [HE3.out, if_neg (by simp [hk2])])]; exact HC.out)
          have HEG9 : Hid (Blk (w9.setCell ⟨ge, 34, none⟩ (.float .f64 fq)) ge 70 (entK ⟨st.toArray⟩ false i fq)) := Lib.hid (by
           have := HE9.out.set_ 34 (.float .f64 fq)
           rwa [entK_set H32.out] at this)
          have HXG9 := Lib.hid (HX9.out.other (ge := ge) (i := 34) (by omega) (.float .f64 fq))
          have HLG9 := Lib.hid (HL9.out.other (ge := ge) (off := 34) HOW.out (by omega) (.float .f64 fq))
          have hK34 : 34 < (entK ⟨st.toArray⟩ false i 0).size := by rw [entK_size H32.out]; omega
          clear hk2 HE3
          go_wp2_with fail
          refine (need_yes 91 _).mono ?_
          rintro e wn ⟨rfl, rfl⟩
          go_upto_region 12 with (first | (refine wpList_store_flt rfl 64 _ _ rfl ge 34 fq rfl rfl 70 _ HE9.out flt_info hK34 ?_) | fail)
          clear q0 q3 HX9 HL9 HE9 hK34 HOW
          generalize wn.setCell ⟨ge, 34, none⟩ (.float .f64 fq) = w11 at *
          have HF64 : fq < 2 ^ 64 := hf64
          obtain ⟨A9, c9, w10, run9, HLa, hg10, hob10⟩ := HLG9.out.push (x := (⟨st.toArray⟩, false, i, fq)) H32.out HF64 (by omega) 1
          obtain ⟨KE, hKE⟩ : ∃ KE, KE = entK ⟨st.toArray⟩ false i fq := ⟨_, rfl⟩
          have run10 : (Builtin.append_ #[68, 68] 68 #[.slice A' k c', .slice (some ⟨w11.heap.size, 0, none⟩) 1 1]).run Tryz.prog (w11.alloc (.cells KE 70)) = .ok (.slice A9 (k + 1) c9) w10 := by rw [hKE]; exact run9
          have HE10 := Lib.hid (show Blk w11 ge 70 KE by rw [hKE]; exact HEG9.out)
          have hKs : KE.size = 35 := by rw [hKE]; exact entK_size H32.out _ _ _
          have HIE := Lib.hid (show (Tryz.prog.info? 70).map (·.size) = some KE.size by rw [hKs]; exact ent_info)
          have hbs := fun w => bsEnt_of w KE hKs
          have hcl : w11.cell? ⟨g, 0, none⟩ = some (.slice A' k c') := HXG9.out.x.cell 0
          have HX10 := Lib.hid (HXG9.out.grown hg10 (fun b hb => by have := hob10 b hb; omega))
          have hcz : w10.cell? ⟨g, 0, none⟩ = some (.slice A' k c') := HX10.out.x.cell 0
          have hfz := HX10.out.x.frozen 0
          have hlz := HX10.out.x.lt
          have HX11 := Lib.hid (HX10.out.set (.slice A9 (k + 1) c9))
          have HL11 := Lib.hid (HLa.set (off := 0) (.slice A9 (k + 1) c9))
          have HSZ2 := Lib.hid (show ∀ x ∈ es ++ [((⟨st.toArray⟩ : ByteArray), false, i, fq)], x.1.size ≤ 64 from fun x hx => by
           rcases List.mem_append.1 hx with h | h
           ·exact HSM.out x h
           ·obtain rfl : x = _ := by simpa using h
            have := textG_len HTX.out
            simpa [ByteArray.size] using this)
          clear run9 hKE hKs HEG9 HLa hg10 hob10 HLG9 HXG9 HX10
          go_wp2_with (first
           | (refine wpList_load_at rfl _ _ rfl ge 0 rfl KE _ (At.of_row HE10.out) Tryz.underlying70 rfl HIE.out ?_)
           | (refine wpList_build1 rfl (.tmp 52) rfl (.agg KE) _ rfl (hbs _) ?_)
           | (at_builtin; refine wpList_run_append run10 ?_ ?_ ?_; exact rfl; exact rfl)
           | fail)
          go_roundw
          case rel => exact ⟨k + 1, A9, c9, es ++ [(⟨st.toArray⟩, false, i, fq)], by omega, by go_num, HC2, HL11, HX11, HSZ2⟩
          case measure => simp [intOf]; omega
         ·have e1 : (kq == 2) = false := by simp [hk2]
          have hrr : R = .error 91 := by rw [HR5.out, ← HC.out, conE_err es HVK.out (show entG (nthV us k) = .error 91 by rw [HE3.out, if_pos hk2])]; rfl
          have HRR2 := Lib.hid hrr
          clear hrr hk2 HE3
          go_wp2_with fail
          refine (need_no 91 _).mono ?_
          rintro e wn ⟨rfl, rfl⟩
          refine tree_out HG.out ⟨91, rfl, by decide, HRR2.out, _, _, _, HX9.out⟩ ?_ ?_ ?_ <;> rfl
      ·have h2I : decide ((2 : Int) ≤ (nr : Int)) = false := by simp; omega
       have hrr : R = .error 91 := by rw [HR5.out, ← HC.out, conE_err es HVK.out (show entG (nthV us k) = .error 91 by rw [HEG2.out]; unfold entRow; rw [if_pos (by rw [HLR.out]; omega)])]; rfl
       have HRR2 := Lib.hid hrr
       clear hrr
       go_wp2_with fail
       refine (need_no 91 _).mono ?_
       rintro e w' ⟨rfl, rfl⟩
       refine tree_out HG.out ⟨91, rfl, by decide, HRR2.out, _, _, _, HX7.out⟩ ?_ ?_ ?_ <;> rfl
    ·have hltI : ¬ (k : Int) < (nu : Int) := by omega
     obtain rfl : k = nu := by omega
     have hrr : RR = .ok es := by rw [← HC.out]; exact conE_end es (by rw [HLU.out]; exact Nat.le_refl _)
     have HR6 := Lib.hid (show R = if orderedG es ≠ 0 then .error (orderedG es) else .ok es by rw [HR5.out, hrr]; rfl)
     obtain ⟨HSL, hki, hkc, hcm'⟩ := HL.out.sl (B := g + 2) hsz3
     have HOR := Lib.hid (ordered_any A' k c' es wr (HSL.stable (Moves.forget _ _)) hki (by omega) (fun x hx => Nat.le_trans (HSM.out x hx) (by omega)))
     obtain ⟨z, hz⟩ : ∃ z, z = orderedG es := ⟨_, rfl⟩
     rw [← hz] at HOR HR6
     have hcx : wr.cell? ⟨g, 0, none⟩ = some (.slice A' k c') := HX.out.x.cell 0
     clear HSL hki hkc hcm' hrr HUM HC hz
     go_wp2_with fail
     refine HOR.out.mono ?_
     rintro e w7 ⟨hb7, he⟩
     have HX7 := Lib.hid (HX.out.go hb7)
     have HL7 := Lib.hid (HL.out.below hb7)
     clear hb7 HOR hcx HX HL
     by_cases hz0 : z = 0
     ·rw [if_pos hz0] at he
      subst he
      have HR7 := Lib.hid (show R = .ok es by rw [HR6.out, if_neg (by simp [hz0])])
      have hcx : w7.cell? ⟨g, 0, none⟩ = some (.slice A' k c') := HX7.out.x.cell 0
      have hfx := HX7.out.x.frozen 0
      have hlx := HX7.out.x.lt
      have HX8 := Lib.hid (HX7.out.set (.slice A' k c'))
      have HL8 := Lib.hid (HL7.out.set (off := 0) (.slice A' k c'))
      have hce : (w7.setCell ⟨g, 0, none⟩ (.slice A' k c')).cell? ⟨g + 1, 0, none⟩ = some (.int .i64 0) := HX8.out.e.cell 0
      have hfe := HX8.out.e.frozen 0
      clear hz0 HR6
      go_wp2_with fail
      exact tree_end HG.out HX8.out HL8.out hsz3 HR7.out
     ·rw [if_neg hz0] at he
      subst he
      have HRR := Lib.hid (show R = .error z by rw [HR6.out, if_pos hz0])
      refine tree_out HG.out ⟨z, rfl, hz0, HRR.out, _, _, _, HX7.out⟩ ?_ ?_ ?_ <;> rfl
end Go.Proofs.YtgmbkcjihgphmaaGreat
/- object.Kind. -/
namespace Go.Proofs.YtgmbkcjihgphmaaGreat
open Go.RowKit
def KindPost (w : World) (r : Res Nat) (e : Ending) (w' : World) : Prop :=
 Below w.heap.size w w' ∧ match r with
  | .ok k => e = .returned (.tuple #[.int .i64 (k : Int), .int .i64 0]) ∧ 1 ≤ k ∧ k ≤ 4
  | .error z => e = .returned (.tuple #[.int .i64 0, .int .i64 z]) ∧ z ≠ 0
set_option maxRecDepth 100000 in
set_option maxHeartbeats 4000000 in
theorem kind_any (A : Option Addr) (n c : Nat) (l : List UInt8) (w : World) (hs : Sl w 1 A n (bytesV l)) (hnc : n ≤ c) (hcm : c ≤ maxLen) :
  Calls Tryz.prog 53 #[.slice A n c] w (KindPost w (kindG l)) := by
 have HD := Lib.hid (decode_any A n c l w hs hnc hcm)
 obtain ⟨R, hR⟩ : ∃ R, R = kindG l := ⟨_, rfl⟩
 obtain ⟨D, hD⟩ : ∃ D, D = dec l := ⟨_, rfl⟩
 have HR := Lib.hid (show R = bindR D kindV by rw [hR, hD]; rfl)
 have HDL := Lib.hid hD
 rw [← hD] at HD
 rw [← hR]
 clear hR hD hs hcm
 go_enter Tryz.func53, Tryz.ntmps53
 go_wp2_with fail
 refine HD.out.mono ?_
 intro e w2 hp
 obtain ⟨cs, rfl, hv, hb2⟩ := hp.use
 obtain ⟨KV, hKV, HK, HKV, HI, HO, HS5, HN⟩ := keepNewA w2 hv
 rw [← hKV]
 have HB := Lib.hid (hb2.trans (((Below.refl w2.heap.size w2).alloc (Nat.le_refl _) (.cells KV 94)).mono hb2.size))
 clear hKV hv hb2 hp HD
 go_upto_region 2 with (first | (refine wpList_store_row rfl _ _ _ rfl w2.heap.size KV rfl rfl 94 _ HN.out HI.out HS5.out HO.out ?_) | fail)
 rw [World.setRow_alloc_new]
 clear HN HS5 HO
 generalize w2.alloc (.cells KV 94) = w3 at *
 generalize w2.heap.size = gv at *
 cases D with
 | error z =>
  have hz := dec_err_ne HDL.out.symm
  have hzb : (z != 0) = true := by simp [hz]
  have HRR := Lib.hid (show R = .error z from HR.out)
  have HZ := Lib.hid hz
  have hz2 : okZ (.error z : Res Val) = z := rfl
  rw [hz2]
  clear hz hz2 HDL HR
  go_wp2_with fail
  go_ret2
  exact ⟨HB.out, by rw [HRR.out]; exact ⟨rfl, HZ.out⟩⟩
 | ok v =>
  have hz2 : okZ (.ok v : Res Val) = 0 := rfl
  rw [hz2]
  have HKV2 : Hid (valR.R w3 (fun b => b < w.heap.size) KV.toList v) := HKV
  clear HKV
  have HRR := Lib.hid (show R = kindV v from HR.out)
  clear hz2 HR HDL
  obtain ⟨k, u, b, f, l'⟩ := v
  obtain ⟨A', cA, L, cL, c0, c1, c2, c3, c4, _, _, _, hsl, hl1, hl2⟩ := blk_cells HK.out HKV2.out
  have HSL := Lib.hid hsl
  simp only [maxLen] at hl2
  obtain ⟨m, hm⟩ : ∃ m, m = l'.length := ⟨_, rfl⟩
  have HM := Lib.hid hm
  rw [← hm] at c4 hl1
  clear hsl hm
  by_cases hk3 : k = 3
  ·have e1 : (k != 3) = false := by simp [hk3]
   cases l' with
   | nil =>
    have hm0 : m = 0 := HM.out
    have e2 : ((m : Int) == 0) = true := by simp [hm0]
    have HR2 := Lib.hid (show R = .error 91 by rw [HRR.out]; unfold kindV; rw [if_neg (by simp [Val.kind, hk3])]; rfl)
    clear hk3 hm0
    go_wp2_with fail
    go_ret2
    exact ⟨HB.out, by rw [HR2.out]; exact ⟨rfl, by decide⟩⟩
   | cons h t =>
    obtain ⟨bL, oL, rfl, hbL, d0, d1⟩ := head_cells HSL.out
    have hmp : 0 < m := by have := HM.out; simp at this; omega
    have hmI : (0 : Int) < (m : Int) := by omega
    have e2 : ((m : Int) == 0) = false := by simp; omega
    have HR2 := Lib.hid (show R = if h.kind ≠ 0 then .error 91 else if 1 ≤ h.num ∧ h.num ≤ 4 then .ok h.num else .error 90 by rw [HRR.out]; unfold kindV; rw [if_neg (by simp [Val.kind, hk3])]; rfl)
    obtain ⟨kh, hkh⟩ : ∃ kh, kh = h.kind := ⟨_, rfl⟩
    obtain ⟨nh, hnh⟩ : ∃ nh, nh = h.num := ⟨_, rfl⟩
    rw [← hkh] at d0 HR2
    rw [← hnh] at d1 HR2
    clear hk3 hkh hnh HM HSL HRR
    by_cases h0 : kh = 0
    ·have e3 : (kh != 0) = false := by simp [h0]
     by_cases h1 : 1 ≤ nh
     ·have h1I : decide ((1 : Int) ≤ (nh : Int)) = true := by simp; omega
      by_cases h4 : nh ≤ 4
      ·have h4I : decide ((nh : Int) ≤ 4) = true := by simp; omega
       have hw : IntKind.i64.wrap (nh : Int) = (nh : Int) := IntWalk.i64_in _ (by omega)
       have HR3 := Lib.hid (show R = .ok nh by rw [HR2.out, if_neg (by simp [h0]), if_pos ⟨h1, h4⟩])
       have HC := Lib.hid (And.intro h1 h4)
       clear h0 h1 h4 HR2
       go_wp2_with fail
       go_ret2
       exact ⟨HB.out, by rw [HR3.out]; exact ⟨rfl, HC.out⟩⟩
      ·have h4I : decide ((nh : Int) ≤ 4) = false := by simp; omega
       have HR3 := Lib.hid (show R = .error 90 by rw [HR2.out, if_neg (by simp [h0]), if_neg (by omega)])
       clear h0 h1 h4 HR2
       go_wp2_with fail
       go_ret2
       exact ⟨HB.out, by rw [HR3.out]; exact ⟨rfl, by decide⟩⟩
     ·have h1I : decide ((1 : Int) ≤ (nh : Int)) = false := by simp; omega
      have HR3 := Lib.hid (show R = .error 90 by rw [HR2.out, if_neg (by simp [h0]), if_neg (by omega)])
      clear h0 h1 HR2
      go_wp2_with fail
      go_ret2
      exact ⟨HB.out, by rw [HR3.out]; exact ⟨rfl, by decide⟩⟩
    ·have e3 : (kh != 0) = true := by simp [h0]
     have HR3 := Lib.hid (show R = .error 91 by rw [HR2.out, if_pos h0])
     clear h0 HR2
     go_wp2_with fail
     go_ret2
     exact ⟨HB.out, by rw [HR3.out]; exact ⟨rfl, by decide⟩⟩
  ·have e1 : (k != 3) = true := by simp [hk3]
   have HR2 := Lib.hid (show R = .error 91 by rw [HRR.out]; unfold kindV; rw [if_pos (show (Val.mk k u b f l').kind ≠ 3 from hk3)])
   clear hk3 HRR
   go_wp2_with fail
   go_ret2
   exact ⟨HB.out, by rw [HR2.out]; exact ⟨rfl, by decide⟩⟩
end Go.Proofs.YtgmbkcjihgphmaaGreat
/- object.Links: what it needs beside the readers. -/
namespace Go.Proofs.YtgmbkcjihgphmaaGreat
open Go.RowKit
theorem bindR_ok {α β : Type} {r : Res α} {f : α → Res β} {y : β} (h : bindR r f = .ok y) : ∃ x, r = .ok x ∧ f x = .ok y := by
 cases r with
 | error z => cases h
 | ok x => exact ⟨x, rfl, h⟩
theorem bindR_err {α β : Type} {r : Res α} {f : α → Res β} (hr : ∀ z, r = .error z → z ≠ 0) (hf : ∀ x z, f x = .error z → z ≠ 0) {z : Int} (h : bindR r f = .error z) : z ≠ 0 := by
 cases r with
 | error y =>
  injection h with h
  subst h
  exact hr y rfl
 | ok x => exact hf x z h
theorem eachG_len {α : Type} {f : Val → Res α} : ∀ {l : List Val} {xs : List α}, eachG f l = .ok xs → xs.length = l.length
 | [], xs, h => by injection h with h; subst h; rfl
 | v :: r, xs, h => by
  unfold eachG at h
  obtain ⟨x, _, h⟩ := bindR_ok h
  obtain ⟨ys, hy, h⟩ := bindR_ok h
  injection h with h
  subst h
  simp [eachG_len hy]
theorem idsG_len {v : Val} {m : Nat} {is : List (List UInt8)} (h : idsG v m = .ok is) : is.length ≤ m := by
 obtain ⟨us, h1, h2⟩ := bindR_ok h
 rw [eachG_len h2]; exact listG_len h1
theorem idsG_err {v : Val} {m : Nat} {z : Int} (h : idsG v m = .error z) : z ≠ 0 := bindR_err (fun _ => listG_err) (fun _ _ => eachG_err fun _ _ => idG_err) h
theorem getCommit_len {l : List UInt8} {x : ComT} (h : getCommit l = .ok x) : x.2.1.length ≤ 8 := by
 obtain ⟨vs, _, h⟩ := bindR_ok h
 obtain ⟨t, _, h⟩ := bindR_ok h
 obtain ⟨ps, hp, h⟩ := bindR_ok h
 unfold comEnd at h
 split at h
 ·cases h
 ·split at h
  ·cases h
  ·obtain ⟨a, _, h⟩ := bindR_ok h
   obtain ⟨n, _, h⟩ := bindR_ok h
   injection h with h
   subst h
   exact idsG_len hp
theorem getCommit_err {l : List UInt8} {z : Int} (h : getCommit l = .error z) : z ≠ 0 := by
 refine bindR_err (fun _ => openG_err) (fun vs z h => bindR_err (fun _ => idG_err) (fun t z h => bindR_err (fun _ => idsG_err) (fun ps z h => ?_) h) h) h
 unfold comEnd at h
 split at h
 ·injection h with h; omega
 ·split at h
  ·injection h with h; omega
  ·exact bindR_err (fun _ => textG_err) (fun a z h => bindR_err (fun _ => textG_err) (fun n z h => by cases h) h) h
theorem getTree_len {l : List UInt8} {x : List EntT} (h : getTree l = .ok x) : x.length ≤ 1024 := by
 obtain ⟨vs, _, h⟩ := bindR_ok h
 obtain ⟨us, hu, h⟩ := bindR_ok h
 obtain ⟨es, he, h⟩ := bindR_ok h
 unfold treeEnd at h
 split at h
 ·cases h
 ·injection h with h
  subst h
  rw [eachG_len he]; exact listG_len hu
theorem entG_err (v : Val) (z : Int) (h : entG v = .error z) : z ≠ 0 := by
 refine bindR_err (fun _ => listG_err) (fun row z h => ?_) h
 unfold entRow at h
 split at h
 ·injection h with h; omega
 ·exact bindR_err (fun _ => textG_err) (fun s z h => bindR_err (fun _ => idG_err) (fun i z h => entEnd_err h) h) h
theorem getTree_err {l : List UInt8} {z : Int} (h : getTree l = .error z) : z ≠ 0 := by
 refine bindR_err (fun _ => openG_err) (fun vs z h => bindR_err (fun _ => listG_err) (fun us z h => bindR_err (fun _ => eachG_err entG_err) (fun es z h => ?_) h) h) h
 unfold treeEnd at h
 split at h
 ·rename_i hz
  injection h with h
  subst h
  exact hz
 ·cases h
theorem row_one {w : World} {t : List UInt8} {base : Nat} (ht : t.length = 32) (hb : base ≤ w.heap.size) : (w.alloc (.cells (bytesV t).toArray 33)).ownsRow base 33 32 (.slice (some ⟨w.heap.size, 0, none⟩) 1 1) 1 (bytesV t) := by
 have h32 : (bytesV t).length = 32 := by rw [bytesV_length, ht]
 refine ⟨by rw [h32], .inr ⟨_, 1, (bytesV t).toArray, rfl, hb, heap_alloc_new w _, Nat.le_refl _, by simp [maxLen], by simp [h32], ?_⟩⟩
 rw [List.take_of_length_le (by simp [h32])]
/-- the commit's own tree ahead of its parents -/
theorem com_links {w : World} {base : Nat} {t : List UInt8} {A : Option Addr} {m : Nat} {ps : List (List UInt8)} (ht : t.length = 32) (hb : base ≤ w.heap.size) (h : SlOf oidR w no A ps) (hm : m = ps.length) (h8 : m ≤ 8) (c0 : Nat) :
  ∃ A' c' w', (Builtin.append_ #[46, 46] 46 #[.slice (some ⟨w.heap.size, 0, none⟩) 1 1, .slice A m c0]).run Tryz.prog (w.alloc (.cells (bytesV t).toArray 33)) = .ok (.slice A' (1 + m) c') w' ∧
   SlOf oidR w' (fun b => b < base) A' (t :: ps) ∧ Below base w w' ∧ 1 + m ≤ c' ∧ c' ≤ maxLen := by
 have hba : Below w.heap.size w (w.alloc (.cells (bytesV t).toArray 33)) := (Below.refl _ _).alloc (Nat.le_refl _) _
 obtain ⟨vs, hs, he, _⟩ := h.below hba
 rw [← hm] at hs
 have h1 : ∀ u ∈ vs, u.oneCell' = true := fun u hu => he.all (p := fun u => u.oneCell' = true) (fun _ _ h => oidR.one h) u hu
 obtain ⟨A', c', w', run, ap, hc, hcm⟩ := append_sl (P := Tryz.prog) elemId (row_one ht hb) hs h1 (by omega) (by simp only [maxLen]; omega) (by simp; omega) 46 c0
 refine ⟨A', c', w', run, ?_, (hba.mono hb).trans ap.below, hc, hcm⟩
 have hr : RowR oidR 33 w' base A' (1 + m) c' (t :: ps) := ⟨⟨bytesV t ++ vs, ap.own, .cons (oid_of w' _ ht) (he.mono fun _ _ k => k)⟩, by simp [hm]; omega⟩
 refine hr.sl.away base (fun h0 b off e => ?_) (fun _ _ k => k)
 obtain ⟨g', hg, hbb, _⟩ := hr.at (by omega)
 rw [hg] at e
 have e := Option.some.inj e
 injection e with e
 omega
def LinksPost (w : World) (r : Res (List (List UInt8))) (e : Ending) (w' : World) : Prop :=
 Below w.heap.size w w' ∧ match r with
  | .ok x => ∃ A c, e = .returned (.tuple #[.slice A x.length c, .int .i64 0]) ∧ SlOf oidR w' (fun b => b < w.heap.size) A x ∧ x.length ≤ c ∧ c ≤ maxLen
  | .error z => e = .returned (.tuple #[.slice none 0 0, .int .i64 z])
end Go.Proofs.YtgmbkcjihgphmaaGreat
