/- Contracts and laws for what the statement reaches, joined: ObjPutCom, ObjRefBefore, ObjRefRise, ObjRefPutCom. -/
import Derived.Test.YtgmbkcjihgphmaaGreatJn22
import Derived.Test.YtgmbkcjihgphmaaGreatJn25
import Derived.Test.YtgmbkcjihgphmaaGreatJn4
/- object.PutCommit. -/
set_option linter.unusedVariables false
set_option linter.unusedSimpArgs false
namespace Go.Proofs.YtgmbkcjihgphmaaGreat
open Go.RowKit
attribute [local go_sem ↓] cvt_eq
theorem step_build5 {P : Program} {Q : Exit → Act → World → Prop} {o : Oper} {a : Act} {w w' : World} {K : Act → World → Prop} {E : Prop} (hgd : o.guard = none) (x0 x1 x2 x3 x4 : Operand) {t : TypeId}
  (ho : o.op = .buildSlice t 5 #[(0, x0), (1, x1), (2, x2), (3, x3), (4, x4)]) {v0 v1 v2 v3 v4 v' : Value} (h0 : a.eval x0 = v0) (h1 : a.eval x1 = v1) (h2 : a.eval x2 = v2) (h3 : a.eval x3 = v3) (h4 : a.eval x4 = v4)
  (hrun : (Instr.buildSlice t 5 #[(0, v0), (1, v1), (2, v2), (3, v3), (4, v4)]).run P w = .ok v' w') (h : K (a.put o.dst v') w') :
  ∀ {ops : Array Oper}, if Region.wanted o (yielded ops a.tmps) = true then Oper.wp P o a w K Q else E := by
 intro ops
 have hw : Region.wanted o (yielded ops a.tmps) = true := by simp [Region.wanted, hgd]
 rw [if_pos hw]
 unfold Oper.wp execOp
 simp only [ho, List.map_toArray, List.map_cons, List.map_nil, h0, h1, h2, h3, h4, Sem.run_bind, hrun, Result.andThen_ok, Sem.run_pure]
 exact h
set_option maxRecDepth 100000 in
set_option maxHeartbeats 8000000 in
theorem putCommit_any (A : Option Addr) (n c : Nat) (tr : List UInt8) (ps : List (List UInt8)) (f : Nat) (au nt : ByteArray) (w : World) (h32 : tr.length = 32) (hs : SlOf oidR w no A ps) (hn : n = ps.length) (hnc : n ≤ c) (hcm : c ≤ maxLen) (hf : f < 2 ^ 64)
  (hau : au.size ≤ maxLen) (hnt : nt.size ≤ maxLen) :
  Calls Tryz.prog 22 #[.agg (comK tr A n c f au nt)] w (EncPost w (putCommit (tr, ps, f, au, nt))) := by
 obtain ⟨R, hR⟩ : ∃ R, R = putCommit (tr, ps, f, au, nt) := ⟨_, rfl⟩
 have HR := Lib.hid (show R = if 8 < n ∨ 64 < au.size ∨ 1024 < nt.size then .error 2 else if risingG ps = false then .error 92 else sealG 4 [txtV tr, lstV (ps.map txtV), fltV (canonB f), txtV (sB au), txtV (sB nt)] by
  rw [hR, hn]; unfold putCommit; simp only [sB, Array.length_toList]; rfl)
 rw [← hR]
 obtain ⟨K, hK⟩ : ∃ K, K = comK tr A n c f au nt := ⟨_, rfl⟩
 have HK := Lib.hid (Blk.new w 66 K)
 have hba : Below w.heap.size w (w.alloc (.cells K 66)) := (Below.refl _ _).alloc (Nat.le_refl _) _
 have HS := Lib.hid (hs.below hba)
 have HN := Lib.hid hn
 have HBK := Lib.hid (bulk_ids ps (oids_32 hs))
 have HB1 := Lib.hid hba
 have H32 := Lib.hid h32
 have HF := Lib.hid (canonB_lt hf)
 have HAU := Lib.hid hau
 have HNT := Lib.hid hnt
 have HAT := Lib.hid (show At (w.alloc (.cells K 66)) ⟨w.heap.size, 0, none⟩ (bytesV tr).toArray from com_id_at (by rw [← hK]; exact HK.out))
 have hc32 : (w.alloc (.cells K 66)).cell? ⟨w.heap.size, 32, none⟩ = some (.slice A n c) := by rw [HK.out.cell 32, hK]; exact (comK_get h32 _ _ _ _ _ _).1
 have hc33 : (w.alloc (.cells K 66)).cell? ⟨w.heap.size, 33, none⟩ = some (.float .f64 f) := by rw [HK.out.cell 33, hK]; exact (comK_get h32 _ _ _ _ _ _).2.1
 have hc34 : (w.alloc (.cells K 66)).cell? ⟨w.heap.size, 34, none⟩ = some (.string au) := by rw [HK.out.cell 34, hK]; exact (comK_get h32 _ _ _ _ _ _).2.2.1
 have hc35 : (w.alloc (.cells K 66)).cell? ⟨w.heap.size, 35, none⟩ = some (.string nt) := by rw [HK.out.cell 35, hK]; exact (comK_get h32 _ _ _ _ _ _).2.2.2
 have hlt := HK.out.lt
 rw [← hK]
 clear hR hs hn hba hK h32 hf hau hnt HK
 go_enter Tryz.func22, Tryz.ntmps22
 go_upto_region 1 with fail
 generalize w.alloc (.cells K 66) = w1 at *
 generalize hg : w.heap.size = g at *
 have HG := Lib.hid hg
 clear hg
 by_cases h1 : 8 < n
 ·have hI : (8 : Int) < (n : Int) := by omega
  have HRR := Lib.hid (show R = .error 2 by rw [HR.out, if_pos (.inl h1)])
  go_wp2_with fail
  go_ret2
  exact ⟨by rw [HG.out]; exact HB1.out, by rw [HRR.out]; rfl⟩
 ·have hI : ¬ (8 : Int) < (n : Int) := by omega
  by_cases h2 : 64 < au.size
  ·have hJ : (64 : Int) < (au.size : Int) := by omega
   have HRR := Lib.hid (show R = .error 2 by rw [HR.out, if_pos (.inr (.inl h2))])
   go_wp2_with fail
   go_ret2
   exact ⟨by rw [HG.out]; exact HB1.out, by rw [HRR.out]; rfl⟩
  ·have hJ : ¬ (64 : Int) < (au.size : Int) := by omega
   by_cases h3 : 1024 < nt.size
   ·have hL : (1024 : Int) < (nt.size : Int) := by omega
    have HRR := Lib.hid (show R = .error 2 by rw [HR.out, if_pos (.inr (.inr h3))])
    go_wp2_with fail
    go_ret2
    exact ⟨by rw [HG.out]; exact HB1.out, by rw [HRR.out]; rfl⟩
   ·have hL : ¬ (1024 : Int) < (nt.size : Int) := by omega
    have HR2 := Lib.hid (show R = if risingG ps = false then .error 92 else sealG 4 [txtV tr, lstV (ps.map txtV), fltV (canonB f), txtV (sB au), txtV (sB nt)] by rw [HR.out, if_neg (by omega)])
    have HRI := Lib.hid (rising_any A n c ps w1 HS.out HN.out (by omega))
    go_wp2_with fail
    refine HRI.out.mono ?_
    rintro e w2 ⟨rfl, hb2⟩
    have hlt2 : g < w2.heap.size := Nat.lt_of_lt_of_le hlt hb2.size
    have HB2 := Lib.hid (show Below w.heap.size w w2 by rw [HG.out]; exact HB1.out.trans (hb2.mono (Nat.le_of_lt hlt)))
    cases hri : risingG ps with
    | false =>
     have HRR := Lib.hid (show R = .error 92 by rw [HR2.out, if_pos hri])
     go_wp2_with fail
     go_ret2
     exact ⟨HB2.out, by rw [HRR.out]; rfl⟩
    | true =>
    have HRR := Lib.hid (show R = sealG 4 [txtV tr, lstV (ps.map txtV), fltV (canonB f), txtV (sB au), txtV (sB nt)] by rw [HR2.out, if_neg (by simp [hri])])
    obtain ⟨cf, hcf⟩ : ∃ cf, cf = canonB f := ⟨_, rfl⟩
    rw [← hcf] at HRR HF
    have HREAL := Lib.hid (fun w => real_any f w)
    rw [← hcf] at HREAL
    have HS2 := Lib.hid (HS.out.below hb2)
    have HSL := Lib.hid (sl_at (HAT.out.below hb2 hlt) hlt2)
    have HCC := Lib.hid (show w2.cell? ⟨g, 32, none⟩ = some (.slice A n c) ∧ w2.cell? ⟨g, 33, none⟩ = some (.float .f64 f) ∧ w2.cell? ⟨g, 34, none⟩ = some (.string au) ∧ w2.cell? ⟨g, 35, none⟩ = some (.string nt) from ⟨(hb2.cell (p := ⟨g, 32, none⟩) hlt).trans hc32, (hb2.cell (p := ⟨g, 33, none⟩) hlt).trans hc33, (hb2.cell (p := ⟨g, 34, none⟩) hlt).trans hc34, (hb2.cell (p := ⟨g, 35, none⟩) hlt).trans hc35⟩)
    have HZ := Lib.hid (show n ≤ 8 ∧ au.size ≤ 64 ∧ nt.size ≤ 1024 by omega)
    have hn8 : n ≤ 1000000 := by omega
    clear hb2 hcf hri HR2 HR hc32 hc33 hc34 hc35 HAT HS HB1 hlt HRI
    go_upto_region 5 with fail
    have hdr : Below w2.heap.size w2 w2.drew := Same.below ⟨1, rfl⟩ _
    refine wp_region_held (S := fun w => Below w2.heap.size w2 w) (by kernel_rfl) ?_
    change wpAnyH _ _ _ _ _ _ _ _ (World.drew _)
    refine rgT 0 hdr ?_
    refine rgT 1 hdr ?_
    refine rgU 2 (v := ?_) (a' := ?_) hdr ?_ ?_ ?_
    rotate_left 2
    ·(intro w hS; have t := cvt_of (HSL.out.below hS) 32; rw [H32.out] at t; go_simp; try with_reducible rfl)
    ·(go_simp; try with_reducible rfl)
    refine rgT 4 hdr ?_
    refine rgU 5 (v := ?_) (a' := ?_) hdr ?_ ?_ ?_
    rotate_left 2
    ·(intro w hS; have t := (hS.cell (p := ⟨g, 32, none⟩) hlt2).trans HCC.out.1; go_simp; try with_reducible rfl)
    ·(go_simp; try with_reducible rfl)
    refine rgT 7 hdr ?_
    refine rgU 8 (v := ?_) (a' := ?_) hdr ?_ ?_ ?_
    rotate_left 2
    ·(intro w hS; have t := (hS.cell (p := ⟨g, 33, none⟩) hlt2).trans HCC.out.2.1; go_simp; try with_reducible rfl)
    ·(go_simp; try with_reducible rfl)
    refine rgT 10 hdr ?_
    refine rgU 11 (v := ?_) (a' := ?_) hdr ?_ ?_ ?_
    rotate_left 2
    ·(intro w hS; have t := (hS.cell (p := ⟨g, 34, none⟩) hlt2).trans HCC.out.2.2.1; go_simp; try with_reducible rfl)
    ·(go_simp; try with_reducible rfl)
    refine rgT 13 hdr ?_
    refine rgU 14 (v := ?_) (a' := ?_) hdr ?_ ?_ ?_
    rotate_left 2
    ·(intro w hS; have t := (hS.cell (p := ⟨g, 35, none⟩) hlt2).trans HCC.out.2.2.2; go_simp; try with_reducible rfl)
    ·(go_simp; try with_reducible rfl)
    refine held_ready (rs := [3]) (by kernel_rfl) (by simp) ?_
    refine AllHeld.cons rfl (fun KR hKR => ?_) ?_
    ·go_simp
     refine (text_any ⟨tr.toArray⟩ _ (by simp only [ByteArray.size, maxLen, List.size_toArray]; have := H32.out; omega)).mono ?_
     rintro e wn ⟨⟨cs, rfl, hv⟩, hbn⟩
     have hbA := hdr.trans (hbn.mono hdr.size)
     have hk5 : cs.length = 5 := valR.len hv
     obtain ⟨K0, hK⟩ : ∃ K, K = cs.toArray := ⟨_, rfl⟩
     have HV0 := Lib.hid (show valR.R wn no K0.toList (txtV tr) by rw [hK]; exact valR.stable (by simpa [txtV, sB] using hv) (Moves.forget _ _))
     have HK0 := Lib.hid (show K0.size = 5 by rw [hK]; simpa using hk5)
     rw [← hK]
     clear hv hk5 hK hbn
     refine hKR _ _ hbA ?_
     clear hKR KR
     refine held_ready (rs := [6]) (by kernel_rfl) (by simp) ?_
     refine AllHeld.cons rfl (fun KR hKR => ?_) ?_
     ·go_simp
      refine (idsV_any A n c ps _ (HS2.out.below hbA) HN.out hn8).mono ?_
      rintro e wn ⟨⟨cs, rfl, hv⟩, hbn⟩
      have hbB := hbA.trans (hbn.mono hbA.size)
      have HV0 := Lib.hid (valR.stable HV0.out (Moves.of_below hbn))
      have hk5 : cs.length = 5 := valR.len hv
      obtain ⟨K1, hK⟩ : ∃ K, K = cs.toArray := ⟨_, rfl⟩
      have HV1 := Lib.hid (show valR.R wn no K1.toList (lstV (ps.map txtV)) by rw [hK]; simpa using hv)
      have HK1 := Lib.hid (show K1.size = 5 by rw [hK]; simpa using hk5)
      rw [← hK]
      clear hv hk5 hK hbn
      refine hKR _ _ hbB ?_
      clear hKR KR
      refine held_ready (rs := [9]) (by kernel_rfl) (by simp) ?_
      refine AllHeld.cons rfl (fun KR hKR => ?_) ?_
      ·go_simp
       refine (HREAL.out _).mono ?_
       rintro e wn ⟨rfl, hbn⟩
       have hbC := hbB.trans (hbn.mono hbB.size)
       have HV0 := Lib.hid (valR.stable HV0.out (Moves.of_below hbn))
       have HV1 := Lib.hid (valR.stable HV1.out (Moves.of_below hbn))
       obtain ⟨K2, hK⟩ : ∃ K, K = cellsV 2 0 none 0 0 cf none 0 0 := ⟨_, rfl⟩
       have HV2 := Lib.hid (show valR.R wn no K2.toList (fltV cf) by
        rw [hK]
        exact valR_iff.2 ⟨none, 0, none, 0, rfl, by decide, by omega, HF.out, ⟨Nat.le_refl _, Nat.zero_le _, SlOf.nil⟩, Nat.le_refl _, Nat.zero_le _, SlOf.nil⟩)
       have HK2 := Lib.hid (show K2.size = 5 by rw [hK]; rfl)
       rw [← hK]
       clear hK hbn
       refine hKR _ _ hbC ?_
       clear hKR KR
       refine held_ready (rs := [12]) (by kernel_rfl) (by simp) ?_
       refine AllHeld.cons rfl (fun KR hKR => ?_) ?_
       ·go_simp
        refine (text_any au _ HAU.out).mono ?_
        rintro e wn ⟨⟨cs, rfl, hv⟩, hbn⟩
        have hbD := hbC.trans (hbn.mono hbC.size)
        have HV0 := Lib.hid (valR.stable HV0.out (Moves.of_below hbn))
        have HV1 := Lib.hid (valR.stable HV1.out (Moves.of_below hbn))
        have HV2 := Lib.hid (valR.stable HV2.out (Moves.of_below hbn))
        have hk5 : cs.length = 5 := valR.len hv
        obtain ⟨K3, hK⟩ : ∃ K, K = cs.toArray := ⟨_, rfl⟩
        have HV3 := Lib.hid (show valR.R wn no K3.toList (txtV (sB au)) by rw [hK]; exact valR.stable (by simpa [txtV, sB] using hv) (Moves.forget _ _))
        have HK3 := Lib.hid (show K3.size = 5 by rw [hK]; simpa using hk5)
        rw [← hK]
        clear hv hk5 hK hbn
        refine hKR _ _ hbD ?_
        clear hKR KR
        refine held_ready (rs := [15]) (by kernel_rfl) (by simp) ?_
        refine AllHeld.cons rfl (fun KR hKR => ?_) ?_
        ·go_simp
         refine (text_any nt _ HNT.out).mono ?_
         rintro e wn ⟨⟨cs, rfl, hv⟩, hbn⟩
         have hbE := hbD.trans (hbn.mono hbD.size)
         have HV0 := Lib.hid (valR.stable HV0.out (Moves.of_below hbn))
         have HV1 := Lib.hid (valR.stable HV1.out (Moves.of_below hbn))
         have HV2 := Lib.hid (valR.stable HV2.out (Moves.of_below hbn))
         have HV3 := Lib.hid (valR.stable HV3.out (Moves.of_below hbn))
         have hk5 : cs.length = 5 := valR.len hv
         obtain ⟨K4, hK⟩ : ∃ K, K = cs.toArray := ⟨_, rfl⟩
         have HV4 := Lib.hid (show valR.R wn no K4.toList (txtV (sB nt)) by rw [hK]; exact valR.stable (by simpa [txtV, sB] using hv) (Moves.forget _ _))
         have HK4 := Lib.hid (show K4.size = 5 by rw [hK]; simpa using hk5)
         rw [← hK]
         clear hv hk5 hK hbn
         have hrun : (Instr.buildSlice 92 5 #[(0, .agg K0), (1, .agg K1), (2, .agg K2), (3, .agg K3), (4, .agg K4)]).run Tryz.prog wn = .ok (.slice (some ⟨wn.heap.size, 0, none⟩) 5 5) (wn.alloc (.cells ([K0, K1, K2, K3, K4].flatMap (·.toList)).toArray 94)) := bsVals_of wn [K0, K1, K2, K3, K4] 5 rfl (by omega) (by omega) (fun K hK => by
          simp only [List.mem_cons, List.not_mem_nil, or_false] at hK
          rcases hK with rfl | rfl | rfl | rfl | rfl
          ·exact HK0.out
          ·exact HK1.out
          ·exact HK2.out
          ·exact HK3.out
          ·exact HK4.out)
         have hbF : Below w2.heap.size w2 (wn.alloc (.cells ([K0, K1, K2, K3, K4].flatMap (·.toList)).toArray 94)) := hbE.alloc hbE.size _
         have HSB := Lib.hid (show SlOf valR (wn.alloc (.cells ([K0, K1, K2, K3, K4].flatMap (·.toList)).toArray 94)) no (some ⟨wn.heap.size, 0, none⟩) [txtV tr, lstV (ps.map txtV), fltV cf, txtV (sB au), txtV (sB nt)] from sl_built (.cons HV0.out (.cons HV1.out (.cons HV2.out (.cons HV3.out (.cons HV4.out .nil))))))
         have HSEAL : Hid (Calls Tryz.prog 35 #[.int .i64 4, .slice (some ⟨wn.heap.size, 0, none⟩) 5 5] (wn.alloc (.cells ([K0, K1, K2, K3, K4].flatMap (·.toList)).toArray 94)) (EncPost (wn.alloc (.cells ([K0, K1, K2, K3, K4].flatMap (·.toList)).toArray 94)) (sealG 4 [txtV tr, lstV (ps.map txtV), fltV cf, txtV (sB au), txtV (sB nt)]))) := Lib.hid (seal_any 4 (some ⟨wn.heap.size, 0, none⟩) 5 5 _ _ (by omega) HSB.out rfl (by omega) (by
          simp only [bulkVs, bulkV, lstV, txtV, fltV, List.length_nil]
          have h1 := HBK.out
          have h2 := HN.out; have h3 := HZ.out; have h4 := H32.out
          have h5 : (sB au).length = au.size := Array.length_toList
          have h6 : (sB nt).length = nt.size := Array.length_toList
          omega))
         generalize ([K0, K1, K2, K3, K4].flatMap (·.toList)).toArray = KK at *
         clear HV0 HV1 HV2 HV3 HV4 HSB HK0 HK1 HK2 HK3 HK4
         refine hKR _ _ hbE ?_
         clear hKR KR
         refine held_ready (rs := [16]) (by kernel_rfl) (by simp) ?_
         refine AllHeld.cons rfl (fun KR hKR => ?_) ?_
         ·refine step_build5 (by rfl) (.tmp 29) (.tmp 32) (.tmp 35) (.tmp 38) (.tmp 41) (by rfl) (by rfl) (by rfl) (by rfl) (by rfl) (by rfl) hrun ?_
          refine hKR _ _ hbF ?_
          clear hKR KR
          refine held_ready (rs := [17]) (by kernel_rfl) (by simp) ?_
          refine AllHeld.cons rfl (fun KR hKR => ?_) ?_
          ·go_simp
           refine HSEAL.out.mono ?_
           intro e w5 hp
           have hbG := hbF.trans (hp.1.mono hbF.size)
           have hp2 := hp.lower (w := w) (HB2.out.trans (hbF.mono HB2.out.size))
           rw [← HRR.out] at hp2
           obtain ⟨A9, c9, rfl, _⟩ := hp2.use
           have HP := Lib.hid hp2
           clear hp hp2 HSEAL hrun
           refine hKR _ _ hbG ?_
           clear hKR KR
           refine rgT 18 hbG ?_
           refine rgT 19 hbG ?_
           refine rgT 20 hbG ?_
           refine rgT 21 hbG ?_
           refine wpAnyH_done (by kernel_rfl) ?_ _
           go_wp2_with fail
           go_ret2
           exact HP.out
          exact AllHeld.nil
         exact AllHeld.nil
        exact AllHeld.nil
       exact AllHeld.nil
      exact AllHeld.nil
     exact AllHeld.nil
    exact AllHeld.nil
end Go.Proofs.YtgmbkcjihgphmaaGreat
/- towlineref09.Before. -/
namespace Go.Proofs.YtgmbkcjihgphmaaGreat
open Go.RowKit
theorem before_step {x y : List UInt8} {i : Nat} {u v : UInt8} (hx : x[i]? = some u) (hy : y[i]? = some v) : Op.bytesLess (x.drop i) (y.drop i) = if u.toNat < v.toNat then true else if v.toNat < u.toNat then false else Op.bytesLess (x.drop (i + 1)) (y.drop (i + 1)) := by
 obtain ⟨h1, e1⟩ := List.getElem?_eq_some_iff.1 hx
 obtain ⟨h2, e2⟩ := List.getElem?_eq_some_iff.1 hy
 rw [List.drop_eq_getElem_cons h1, List.drop_eq_getElem_cons h2, e1, e2, less_cons]
set_option maxRecDepth 100000 in
set_option maxHeartbeats 4000000 in
theorem before_any (x y : List UInt8) (W0 : World) (hx : x.length = 32) (hy : y.length = 32) :
  Calls Tryz.prog 96 #[.agg (bytesV x).toArray, .agg (bytesV y).toArray] W0 fun e w' => e = .returned (.bool (Op.bytesLess x y)) ∧ Below W0.heap.size W0 w' := by
 obtain ⟨G, hG⟩ : ∃ G, G = Op.bytesLess x y := ⟨_, rfl⟩
 rw [← hG]
 obtain ⟨XV, hXV⟩ : ∃ XV, XV = (bytesV x).toArray := ⟨_, rfl⟩
 obtain ⟨YV, hYV⟩ : ∃ YV, YV = (bytesV y).toArray := ⟨_, rfl⟩
 have HXV := Lib.hid hXV
 have HYV := Lib.hid hYV
 have HX := Lib.hid hx
 have HY := Lib.hid hy
 have HG := Lib.hid hG
 have HBX := Lib.hid ((Blk.new W0 33 XV).alloc (.cells YV 33))
 have HBY := Lib.hid (show Blk ((W0.alloc (.cells XV 33)).alloc (.cells YV 33)) (W0.heap.size + 1) 33 YV by have := Blk.new (W0.alloc (.cells XV 33)) 33 YV; simpa using this)
 have HB0 := Lib.hid (show Below W0.heap.size W0 ((W0.alloc (.cells XV 33)).alloc (.cells YV 33)) from ((Below.refl _ _).alloc (Nat.le_refl _) _).alloc (by simp) _)
 rw [← hXV, ← hYV]
 clear hXV hYV hx hy hG
 go_enter Tryz.func96, Tryz.ntmps96
 go_upto_region 1 with fail
 generalize (W0.alloc (.cells XV 33)).alloc (.cells YV 33) = w2 at *
 go_wp2_with fail
 go_loopw [5] (fun s5 wr => ∃ i : Nat, i ≤ 32 ∧ s5 = .int .i64 (i : Int) ∧ Below w2.heap.size w2 wr ∧ Hid (G = Op.bytesLess (x.drop i) (y.drop i))) (fun s5 wr => 32 - (intOf s5).toNat)
 case atStart => exact ⟨0, by omega, rfl, Below.refl _ _, Lib.hid (by simpa using HG.out)⟩
 case round =>
  obtain ⟨i, hi32, rfl, hbl, HR⟩ := hrel
  by_cases hi : i < 32
  ·have hiI : (i : Int) < 32 := by omega
   obtain ⟨u, hu⟩ : ∃ u, x[i]? = some u := ⟨x[i]'(by rw [HX.out]; exact hi), List.getElem?_eq_getElem _⟩
   obtain ⟨v, hv⟩ : ∃ v, y[i]? = some v := ⟨y[i]'(by rw [HY.out]; exact hi), List.getElem?_eq_getElem _⟩
   have hcx : wr.cell? ⟨W0.heap.size, i, none⟩ = some (.int .u8 (u.toNat : Int)) := by
    rw [(HBX.out.below hbl HBX.out.lt).cell i, HXV.out]
    simp [bytesV, hu]
   have hcy : wr.cell? ⟨W0.heap.size + 1, i, none⟩ = some (.int .u8 (v.toNat : Int)) := by
    rw [(HBY.out.below hbl HBY.out.lt).cell i, HYV.out]
    simp [bytesV, hv]
   have hlx : W0.heap.size < wr.heap.size := Nat.lt_of_lt_of_le HBX.out.lt hbl.size
   have hly : W0.heap.size + 1 < wr.heap.size := Nat.lt_of_lt_of_le HBY.out.lt hbl.size
   have hu256 := u8_lt u
   have hv256 := u8_lt v
   have hr := HR.out
   rw [before_step hu hv] at hr
   have HRR := Lib.hid hr
   have hdr : Below wr.heap.size wr wr.drew := Same.below ⟨1, rfl⟩ _
   clear hr hu hv HR
   go_upto_region 4 with fail
   go_cut [16] (fun s wx => s = .bool ((u.toNat : Int) != (v.toNat : Int)) ∧ Below wr.heap.size wr wx)
   case first =>
    refine wp_region_held (S := fun w => Below wr.heap.size wr w) (by kernel_rfl) ?_
    change wpAnyH _ _ _ _ _ _ _ _ (World.drew _)
    refine rgT 0 (Same.below ⟨1, rfl⟩ _) ?_
    refine rgT 1 (Same.below ⟨1, rfl⟩ _) ?_
    refine rgU 2 (v := ?_) (a' := ?_) (Same.below ⟨1, rfl⟩ _) ?_ ?_ ?_
    rotate_left 2
    ·(intro w hS; have t := (hS.cell (p := ⟨W0.heap.size, i, none⟩) hlx).trans hcx; go_simp; try with_reducible rfl)
    ·(go_simp; try with_reducible rfl)
    refine rgT 3 (Same.below ⟨1, rfl⟩ _) ?_
    refine rgT 4 (Same.below ⟨1, rfl⟩ _) ?_
    refine rgU 5 (v := ?_) (a' := ?_) (Same.below ⟨1, rfl⟩ _) ?_ ?_ ?_
    rotate_left 2
    ·(intro w hS; have t := (hS.cell (p := ⟨W0.heap.size + 1, i, none⟩) hly).trans hcy; go_simp; try with_reducible rfl)
    ·(go_simp; try with_reducible rfl)
    refine rgT 6 (Same.below ⟨1, rfl⟩ _) ?_
    refine wpAnyH_done (by kernel_rfl) ?_ _
    go_wp2_with fail
    go_meet
    case rel => exact ⟨rfl, hdr⟩
   case rest =>
   obtain ⟨rfl, hbq⟩ := hcut
   rename World => wq
   have hcx2 : wq.cell? ⟨W0.heap.size, i, none⟩ = some (.int .u8 (u.toNat : Int)) := (hbq.cell (p := ⟨W0.heap.size, i, none⟩) hlx).trans hcx
   have hcy2 : wq.cell? ⟨W0.heap.size + 1, i, none⟩ = some (.int .u8 (v.toNat : Int)) := (hbq.cell (p := ⟨W0.heap.size + 1, i, none⟩) hly).trans hcy
   have hlx2 := Nat.lt_of_lt_of_le hlx hbq.size
   have hly2 := Nat.lt_of_lt_of_le hly hbq.size
   have hfin := hbl.trans (hbq.mono hbl.size)
   clear hcx hcy hlx hly hdr hbl hbq
   by_cases huv : u.toNat = v.toNat
   ·have e1 : ((u.toNat : Int) != (v.toNat : Int)) = false := by simp; omega
    have HG2 := Lib.hid (show G = Op.bytesLess (x.drop (i + 1)) (y.drop (i + 1)) by rw [HRR.out, if_neg (by omega), if_neg (by omega)])
    rw [e1]
    clear huv e1
    go_wp2_with fail
    go_roundw
    case rel => exact ⟨i + 1, by omega, by go_num, hfin, HG2⟩
    case measure => simp [intOf]; omega
   ·have e1 : ((u.toNat : Int) != (v.toNat : Int)) = true := by simp; omega
    have HD := Lib.hid (show G = decide (u.toNat < v.toNat) by
     rw [HRR.out]
     by_cases h : u.toNat < v.toNat
     ·rw [if_pos h]; simp [h]
     ·rw [if_neg h, if_pos (by omega)]; simp [h])
    rw [e1]
    have hdr : Below wq.heap.size wq wq.drew := Same.below ⟨1, rfl⟩ _
    clear huv e1 HRR
    go_upto_region 5 with fail
    refine wp_region_held (S := fun w => Below wq.heap.size wq w) (by kernel_rfl) ?_
    change wpAnyH _ _ _ _ _ _ _ _ (World.drew _)
    refine rgT 0 (Same.below ⟨1, rfl⟩ _) ?_
    refine rgT 1 (Same.below ⟨1, rfl⟩ _) ?_
    refine rgU 2 (v := ?_) (a' := ?_) (Same.below ⟨1, rfl⟩ _) ?_ ?_ ?_
    rotate_left 2
    ·(intro w hS; have t := (hS.cell (p := ⟨W0.heap.size, i, none⟩) hlx2).trans hcx2; go_simp; try with_reducible rfl)
    ·(go_simp; try with_reducible rfl)
    refine rgT 3 (Same.below ⟨1, rfl⟩ _) ?_
    refine rgT 4 (Same.below ⟨1, rfl⟩ _) ?_
    refine rgU 5 (v := ?_) (a' := ?_) (Same.below ⟨1, rfl⟩ _) ?_ ?_ ?_
    rotate_left 2
    ·(intro w hS; have t := (hS.cell (p := ⟨W0.heap.size + 1, i, none⟩) hly2).trans hcy2; go_simp; try with_reducible rfl)
    ·(go_simp; try with_reducible rfl)
    refine rgT 6 (Same.below ⟨1, rfl⟩ _) ?_
    refine rgT 7 (Same.below ⟨1, rfl⟩ _) ?_
    refine wpAnyH_done (by kernel_rfl) ?_ _
    go_wp2_with fail
    go_ret
    have h3 := hfin.trans (hdr.mono hfin.size)
    exact ⟨by rw [HD.out]; rfl, HB0.out.trans (h3.mono HB0.out.size)⟩
  ·have hiI : ¬ (i : Int) < 32 := by omega
   have hg := Lib.hid (show G = false by
    rw [HR.out, List.drop_of_length_le (l := x) (by rw [HX.out]; omega), List.drop_of_length_le (l := y) (by rw [HY.out]; omega)]; rfl)
   go_wp2_with fail
   go_ret
   exact ⟨by rw [hg.out]; rfl, HB0.out.trans (hbl.mono HB0.out.size)⟩
end Go.Proofs.YtgmbkcjihgphmaaGreat
/- towlineref09.rising. -/
namespace Go.Proofs.YtgmbkcjihgphmaaGreat
open Go.RowKit
set_option maxRecDepth 100000 in
set_option maxHeartbeats 4000000 in
theorem refRising_any (A : Option Addr) (m c : Nat) (ps : List (List UInt8)) (W0 : World) (hs : SlOf oidR W0 no A ps) (hm : m = ps.length) (hml : m ≤ 1000000000) :
  Calls Tryz.prog 76 #[.slice A m c] W0 fun e w' => e = .returned (.bool (risingG ps)) ∧ Below W0.heap.size W0 w' := by
 obtain ⟨G, hG⟩ : ∃ G, G = risingG ps := ⟨_, rfl⟩
 rw [← hG]
 have HS := Lib.hid hs
 have HM := Lib.hid hm
 by_cases h2 : m < 2
 ·have hI : ¬ (1 : Int) < (m : Int) := by omega
  have hg := Lib.hid (show G = true by
   rw [hG]
   match ps, hm with
   | [], _ => rfl
   | [x], _ => rfl
   | x :: y :: r, hm => simp at hm; omega)
  have hN : ¬ 1 < m := by omega
  clear hG hs hm h2
  go_enter Tryz.func76, Tryz.ntmps76
  go_wp2_with fail
  go_loopw [3] (fun s3 wr => s3 = .int .i64 1 ∧ Below W0.heap.size W0 wr) (fun s3 wr => 0)
  case atStart => exact ⟨rfl, Below.refl _ _⟩
  case round =>
   obtain ⟨rfl, hbl⟩ := hrel
   go_wp2_with fail
   go_ret
   exact ⟨by rw [hg.out]; rfl, hbl⟩
 ·obtain ⟨p0, hp0⟩ : ∃ p0, ps[0]? = some p0 := ⟨ps[0]'(by omega), List.getElem?_eq_getElem (by omega)⟩
  have hG0 : G = riseG (some p0) (ps.drop 1) := by
   rw [hG]
   cases ps with
   | nil => simp at hp0
   | cons x r => simp at hp0; subst hp0; rfl
  have HG0 := Lib.hid hG0
  have HP0 := Lib.hid hp0
  clear hG hs hm hG0 hp0
  go_enter Tryz.func76, Tryz.ntmps76
  go_wp2_with fail
  go_loopw [3] (fun s3 wr => ∃ (i : Nat) (p : List UInt8), 1 ≤ i ∧ i ≤ m ∧ s3 = .int .i64 (i : Int) ∧ Below W0.heap.size W0 wr ∧ Hid (ps[i - 1]? = some p) ∧ Hid (G = riseG (some p) (ps.drop i))) (fun s3 wr => m - (intOf s3).toNat)
  case atStart => exact ⟨1, p0, by omega, by omega, rfl, Below.refl _ _, HP0, HG0⟩
  case round =>
   obtain ⟨i, p, hi1, him, rfl, hbl, HP, HR⟩ := hrel
   by_cases hi : i < m
   ·have hiI : (i : Int) < (m : Int) := by omega
    obtain ⟨b1, o1, x1, hA, hb1, hx1, h321, hat1⟩ := oids_look (HS.out.below hbl) HM.out.symm (i := i - 1) (by omega)
    obtain ⟨b2, o2, x2, hA2, hb2, hx2, h322, hat2⟩ := oids_look (HS.out.below hbl) HM.out.symm hi
    rw [hA] at hA2
    have e := Option.some.inj hA2
    injection e with e1 e2
    subst e1 e2 hA
    rw [HP.out] at hx1
    obtain rfl := Option.some.inj hx1
    have hr := HR.out
    rw [rise_step hx2] at hr
    have HRR := Lib.hid hr
    have HX2 := Lib.hid hx2
    have i1 : (i : Int) - 1 = ((i - 1 : Nat) : Int) := by omega
    obtain ⟨i', hi'⟩ : ∃ i', i' = i - 1 := ⟨_, rfl⟩
    rw [← hi'] at i1 hat1
    have iw : IntKind.i64.wrap ((i : Int) - 1) = (i' : Int) := by rw [i1]; exact IntWalk.i64_in _ (by omega)
    have i2 : (0 : Int) ≤ (i' : Int) := by omega
    have i3 : (i' : Int) < (m : Int) := by omega
    have hdr : Below wr.heap.size wr wr.drew := Same.below ⟨1, rfl⟩ _
    have HAT1 := Lib.hid hat1
    have HAT2 := Lib.hid hat2
    have HC := Lib.hid (before_any p x2 wr.drew h321 h322)
    obtain ⟨KP, hKP⟩ : ∃ KP, KP = (bytesV p).toArray := ⟨_, rfl⟩
    obtain ⟨KX, hKX⟩ : ∃ KX, KX = (bytesV x2).toArray := ⟨_, rfl⟩
    have HI1 := Lib.hid (show (Tryz.prog.info? 33).map (·.size) = some KP.size by rw [hKP]; exact oid_size h321)
    have HI2 := Lib.hid (show (Tryz.prog.info? 33).map (·.size) = some KX.size by rw [hKX]; exact oid_size h322)
    rw [← hKP] at HAT1 HC
    rw [← hKX] at HAT2 HC
    clear hr hx2 hat1 hat2 h321 h322 HP HR hA2 hb2 i1 hi' hKP hKX
    go_upto_region 4 with fail
    refine wp_region_held (S := fun w => Below wr.heap.size wr w) (by kernel_rfl) ?_
    change wpAnyH _ _ _ _ _ _ _ _ (World.drew _)
    refine rgT 0 (Same.below ⟨1, rfl⟩ _) ?_
    refine rgT 1 (Same.below ⟨1, rfl⟩ _) ?_
    refine rgT 2 (Same.below ⟨1, rfl⟩ _) ?_
    refine rgT 3 (Same.below ⟨1, rfl⟩ _) ?_
    refine rgU 4 (v := ?_) (a' := ?_) (Same.below ⟨1, rfl⟩ _) ?_ ?_ ?_
    rotate_left 2
    ·(intro w hS; refine exec_load_at 33 (.tmp 13) ?_ b1 (o1 + i' * 32) ?_ KP _ (HAT1.out.below hS hb1) Tryz.underlying33 rfl HI1.out; exact rfl; exact rfl)
    ·(go_simp; try with_reducible rfl)
    refine rgT 5 (Same.below ⟨1, rfl⟩ _) ?_
    refine rgT 6 (Same.below ⟨1, rfl⟩ _) ?_
    refine rgT 7 (Same.below ⟨1, rfl⟩ _) ?_
    refine rgU 8 (v := ?_) (a' := ?_) (Same.below ⟨1, rfl⟩ _) ?_ ?_ ?_
    rotate_left 2
    ·(intro w hS; refine exec_load_at 33 (.tmp 17) ?_ b1 (o1 + i * 32) ?_ KX _ (HAT2.out.below hS hb1) Tryz.underlying33 rfl HI2.out; exact rfl; exact rfl)
    ·(go_simp; try with_reducible rfl)
    refine held_ready (rs := [9]) (by kernel_rfl) (by simp) ?_
    refine AllHeld.cons rfl (fun KR hKR => ?_) ?_
    ·go_simp
     refine HC.out.mono ?_
     rintro e w5 ⟨rfl, hb5⟩
     obtain ⟨L, hL⟩ : ∃ L, L = Op.bytesLess p x2 := ⟨_, rfl⟩
     have HL := Lib.hid hL
     rw [← hL]
     clear hL
     refine hKR _ _ (hdr.trans (hb5.mono hdr.size)) ?_
     clear hKR KR
     refine rgT 10 (hdr.trans (hb5.mono hdr.size)) ?_
     refine wpAnyH_done (by kernel_rfl) ?_ _
     have hfin := hbl.trans ((hdr.trans (hb5.mono hdr.size)).mono hbl.size)
     cases L with
     | true =>
      have HG2 := Lib.hid (show G = riseG (some x2) (ps.drop (i + 1)) by rw [HRR.out, ← HL.out]; simp)
      go_wp2_with fail
      go_roundw
      case rel => exact ⟨i + 1, x2, by omega, by omega, by go_num, hfin, by simpa using HX2, HG2⟩
      case measure => simp [intOf]; omega
     | false =>
      have HG2 := Lib.hid (show G = false by rw [HRR.out, ← HL.out]; simp)
      go_wp2_with fail
      go_ret
      exact ⟨by rw [HG2.out]; rfl, hfin⟩
    exact AllHeld.nil
   ·have hiI : ¬ (i : Int) < (m : Int) := by omega
    have hg := Lib.hid (show G = true by
     rw [HR.out, List.drop_of_length_le (by rw [← HM.out]; omega)]; rfl)
    go_wp2_with fail
    go_ret
    exact ⟨by rw [hg.out]; rfl, hbl⟩
end Go.Proofs.YtgmbkcjihgphmaaGreat
/- towlineref09.PutCommit. -/
namespace Go.Proofs.YtgmbkcjihgphmaaGreat
open Go.RowKit
end Go.Proofs.YtgmbkcjihgphmaaGreat
