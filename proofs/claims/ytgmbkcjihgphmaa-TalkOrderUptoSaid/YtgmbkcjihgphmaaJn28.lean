/- Contracts and laws for what the statement reaches, joined: ObjPutCom. -/
import Derived.Test.YtgmbkcjihgphmaaJn27
/- object.PutCommit. -/
set_option linter.unusedVariables false
set_option linter.unusedSimpArgs false
namespace Go.Proofs.Ytgmbkcjihgphmaa
open Go.RowKit
attribute [local go_sem ↓] cvt_eq

theorem step_build5 {P : Program} {Q : Exit → Act → World → Prop} {o : Oper} {a : Act} {w w' : World} {K : Act → World → Prop} {E : Prop} (hgd : o.guard = none) (x0 x1 x2 x3 x4 : Operand) {t : TypeId}
    (ho : o.op = .buildSlice t 5 #[(0, x0), (1, x1), (2, x2), (3, x3), (4, x4)]) {v0 v1 v2 v3 v4 v' : Value} (h0 : a.eval x0 = v0) (h1 : a.eval x1 = v1) (h2 : a.eval x2 = v2) (h3 : a.eval x3 = v3) (h4 : a.eval x4 = v4)
    (hrun : (Instr.buildSlice t 5 #[(0, v0), (1, v1), (2, v2), (3, v3), (4, v4)]).run P w = .ok v' w') (h : K (a.put o.dst v') w') :
    ∀ {ops : Array Oper}, if Region.wanted o (yielded ops a.tmps) = true then Oper.wp P o a w K Q else E := by
  intro ops
  have hw : Region.wanted o (yielded ops a.tmps) = true := by simp [Region.wanted, hgd]
  rw [if_pos hw]
  unfold Oper.wp execOp
  simp only [ho, List.map_toArray, List.map_cons, List.map_nil, h0, h1, h2, h3, h4, Sem.run_bind, hrun, Result.andThen_ok, Sem.run_pure]
  exact h

set_option maxRecDepth 100000 in
set_option maxHeartbeats 8000000 in
theorem putCommit_any (A : Option Addr) (n c : Nat) (tr : List UInt8) (ps : List (List UInt8)) (f : Nat) (au nt : ByteArray) (w : World) (h32 : tr.length = 32) (hs : SlOf oidR w no A ps) (hn : n = ps.length) (hnc : n ≤ c) (hcm : c ≤ maxLen) (hf : f < 2 ^ 64)
    (hau : au.size ≤ maxLen) (hnt : nt.size ≤ maxLen) :
    Calls Try.prog 22 #[.agg (comK tr A n c f au nt)] w (EncPost w (putCommit (tr, ps, f, au, nt))) := by
  obtain ⟨R, hR⟩ : ∃ R, R = putCommit (tr, ps, f, au, nt) := ⟨_, rfl⟩
  have HR := Lib.hid (show R = if 8 < n ∨ 64 < au.size ∨ 1024 < nt.size then .error 2 else if risingG ps = false then .error 92 else sealG 4 [txtV tr, lstV (ps.map txtV), fltV (canonB f), txtV (sB au), txtV (sB nt)] by
    rw [hR, hn]; unfold putCommit; simp only [sB, Array.length_toList]; rfl)
  rw [← hR]
  obtain ⟨K, hK⟩ : ∃ K, K = comK tr A n c f au nt := ⟨_, rfl⟩
  have HK := Lib.hid (Blk.new w 62 K)
  have hba : Below w.heap.size w (w.alloc (.cells K 62)) := (Below.refl _ _).alloc (Nat.le_refl _) _
  have HS := Lib.hid (hs.below hba)
  have HN := Lib.hid hn
  have HBK := Lib.hid (bulk_ids ps (oids_32 hs))
  have HB1 := Lib.hid hba
  have H32 := Lib.hid h32
  have HF := Lib.hid (canonB_lt hf)
  have HAU := Lib.hid hau
  have HNT := Lib.hid hnt
  have HAT := Lib.hid (show At (w.alloc (.cells K 62)) ⟨w.heap.size, 0, none⟩ (bytesV tr).toArray from com_id_at (by rw [← hK]; exact HK.out))
  have hc32 : (w.alloc (.cells K 62)).cell? ⟨w.heap.size, 32, none⟩ = some (.slice A n c) := by rw [HK.out.cell 32, hK]; exact (comK_get h32 _ _ _ _ _ _).1
  have hc33 : (w.alloc (.cells K 62)).cell? ⟨w.heap.size, 33, none⟩ = some (.float .f64 f) := by rw [HK.out.cell 33, hK]; exact (comK_get h32 _ _ _ _ _ _).2.1
  have hc34 : (w.alloc (.cells K 62)).cell? ⟨w.heap.size, 34, none⟩ = some (.string au) := by rw [HK.out.cell 34, hK]; exact (comK_get h32 _ _ _ _ _ _).2.2.1
  have hc35 : (w.alloc (.cells K 62)).cell? ⟨w.heap.size, 35, none⟩ = some (.string nt) := by rw [HK.out.cell 35, hK]; exact (comK_get h32 _ _ _ _ _ _).2.2.2
  have hlt := HK.out.lt
  rw [← hK]
  clear hR hs hn hba hK h32 hf hau hnt HK
  go_enter Try.func22, Try.ntmps22
  go_upto_region 1 with fail
  generalize w.alloc (.cells K 62) = w1 at *
  generalize hg : w.heap.size = g at *
  have HG := Lib.hid hg
  clear hg
  by_cases h1 : 8 < n
  · have hI : (8 : Int) < (n : Int) := by omega
    have HRR := Lib.hid (show R = .error 2 by rw [HR.out, if_pos (.inl h1)])
    go_wp2_with fail
    go_ret2
    exact ⟨by rw [HG.out]; exact HB1.out, by rw [HRR.out]; rfl⟩
  · have hI : ¬ (8 : Int) < (n : Int) := by omega
    by_cases h2 : 64 < au.size
    · have hJ : (64 : Int) < (au.size : Int) := by omega
      have HRR := Lib.hid (show R = .error 2 by rw [HR.out, if_pos (.inr (.inl h2))])
      go_wp2_with fail
      go_ret2
      exact ⟨by rw [HG.out]; exact HB1.out, by rw [HRR.out]; rfl⟩
    · have hJ : ¬ (64 : Int) < (au.size : Int) := by omega
      by_cases h3 : 1024 < nt.size
      · have hL : (1024 : Int) < (nt.size : Int) := by omega
        have HRR := Lib.hid (show R = .error 2 by rw [HR.out, if_pos (.inr (.inr h3))])
        go_wp2_with fail
        go_ret2
        exact ⟨by rw [HG.out]; exact HB1.out, by rw [HRR.out]; rfl⟩
      · have hL : ¬ (1024 : Int) < (nt.size : Int) := by omega
        have HR2 := Lib.hid (show R = if risingG ps = false then .error 92 else sealG 4 [txtV tr, lstV (ps.map txtV), fltV (canonB f), txtV (sB au), txtV (sB nt)] by rw [HR.out, if_neg (by omega)])
        have HRI := Lib.hid (rising_any A n c ps w1 HS.out HN.out (by omega))
        go_wp2_with fail
        refine HRI.out.mono ?_
        rintro e w2 ⟨rfl, hb2⟩
        have hlt2 : g < w2.heap.size := Nat.lt_of_lt_of_le hlt hb2.size
        have HB2 := Lib.hid (show Below w.heap.size w w2 by rw [HG.out]; exact HB1.out.trans (hb2.mono (Nat.le_of_lt hlt)))
        cases hri : risingG ps with
        | false =>
          have HRR := Lib.hid (show R = .error 92 by rw [HR2.out, if_pos hri])
          go_wp2_with fail
          go_ret2
          exact ⟨HB2.out, by rw [HRR.out]; rfl⟩
        | true =>
        have HRR := Lib.hid (show R = sealG 4 [txtV tr, lstV (ps.map txtV), fltV (canonB f), txtV (sB au), txtV (sB nt)] by rw [HR2.out, if_neg (by simp [hri])])
        obtain ⟨cf, hcf⟩ : ∃ cf, cf = canonB f := ⟨_, rfl⟩
        rw [← hcf] at HRR HF
        have HREAL := Lib.hid (fun w => real_any f w)
        rw [← hcf] at HREAL
        have HS2 := Lib.hid (HS.out.below hb2)
        have HSL := Lib.hid (sl_at (HAT.out.below hb2 hlt) hlt2)
        have HCC := Lib.hid (show w2.cell? ⟨g, 32, none⟩ = some (.slice A n c) ∧ w2.cell? ⟨g, 33, none⟩ = some (.float .f64 f) ∧ w2.cell? ⟨g, 34, none⟩ = some (.string au) ∧ w2.cell? ⟨g, 35, none⟩ = some (.string nt) from ⟨(hb2.cell (p := ⟨g, 32, none⟩) hlt).trans hc32, (hb2.cell (p := ⟨g, 33, none⟩) hlt).trans hc33, (hb2.cell (p := ⟨g, 34, none⟩) hlt).trans hc34, (hb2.cell (p := ⟨g, 35, none⟩) hlt).trans hc35⟩)
        have HZ := Lib.hid (show n ≤ 8 ∧ au.size ≤ 64 ∧ nt.size ≤ 1024 by omega)
        have hn8 : n ≤ 1000000 := by omega
        clear hb2 hcf hri HR2 HR hc32 hc33 hc34 hc35 HAT HS HB1 hlt HRI
        go_upto_region 5 with fail
        have hdr : Below w2.heap.size w2 w2.drew := Same.below ⟨1, rfl⟩ _
        refine wp_region_held (S := fun w => Below w2.heap.size w2 w) (by kernel_rfl) ?_
        change wpAnyH _ _ _ _ _ _ _ _ (World.drew _)
        refine held_take (i := 0) (v := ?_) (a' := ?_) rfl (by kernel_rfl) (by kernel_rfl) (by kernel_rfl) (fun _ _ _ h => h) (by rfl) hdr ?_ ?_ ?_
        rotate_left 2
        · (intro w hS; go_simp; try with_reducible rfl)
        · (go_simp; try with_reducible rfl)
        refine held_take (i := 1) (v := ?_) (a' := ?_) rfl (by kernel_rfl) (by kernel_rfl) (by kernel_rfl) (fun _ _ _ h => h) (by rfl) hdr ?_ ?_ ?_
        rotate_left 2
        · (intro w hS; go_simp; try with_reducible rfl)
        · (go_simp; try with_reducible rfl)
        refine held_take (i := 2) (v := ?_) (a' := ?_) rfl (by kernel_rfl) (by kernel_rfl) (by kernel_rfl) (fun _ _ _ h => h) (by rfl) hdr ?_ ?_ ?_
        rotate_left 2
        · (intro w hS; have t := cvt_of (HSL.out.below hS) 32; rw [H32.out] at t; go_simp; try with_reducible rfl)
        · (go_simp; try with_reducible rfl)
        refine held_take (i := 4) (v := ?_) (a' := ?_) rfl (by kernel_rfl) (by kernel_rfl) (by kernel_rfl) (fun _ _ _ h => h) (by rfl) hdr ?_ ?_ ?_
        rotate_left 2
        · (intro w hS; go_simp; try with_reducible rfl)
        · (go_simp; try with_reducible rfl)
        refine held_take (i := 5) (v := ?_) (a' := ?_) rfl (by kernel_rfl) (by kernel_rfl) (by kernel_rfl) (fun _ _ _ h => h) (by rfl) hdr ?_ ?_ ?_
        rotate_left 2
        · (intro w hS; have t := (hS.cell (p := ⟨g, 32, none⟩) hlt2).trans HCC.out.1; go_simp; try with_reducible rfl)
        · (go_simp; try with_reducible rfl)
        refine held_take (i := 7) (v := ?_) (a' := ?_) rfl (by kernel_rfl) (by kernel_rfl) (by kernel_rfl) (fun _ _ _ h => h) (by rfl) hdr ?_ ?_ ?_
        rotate_left 2
        · (intro w hS; go_simp; try with_reducible rfl)
        · (go_simp; try with_reducible rfl)
        refine held_take (i := 8) (v := ?_) (a' := ?_) rfl (by kernel_rfl) (by kernel_rfl) (by kernel_rfl) (fun _ _ _ h => h) (by rfl) hdr ?_ ?_ ?_
        rotate_left 2
        · (intro w hS; have t := (hS.cell (p := ⟨g, 33, none⟩) hlt2).trans HCC.out.2.1; go_simp; try with_reducible rfl)
        · (go_simp; try with_reducible rfl)
        refine held_take (i := 10) (v := ?_) (a' := ?_) rfl (by kernel_rfl) (by kernel_rfl) (by kernel_rfl) (fun _ _ _ h => h) (by rfl) hdr ?_ ?_ ?_
        rotate_left 2
        · (intro w hS; go_simp; try with_reducible rfl)
        · (go_simp; try with_reducible rfl)
        refine held_take (i := 11) (v := ?_) (a' := ?_) rfl (by kernel_rfl) (by kernel_rfl) (by kernel_rfl) (fun _ _ _ h => h) (by rfl) hdr ?_ ?_ ?_
        rotate_left 2
        · (intro w hS; have t := (hS.cell (p := ⟨g, 34, none⟩) hlt2).trans HCC.out.2.2.1; go_simp; try with_reducible rfl)
        · (go_simp; try with_reducible rfl)
        refine held_take (i := 13) (v := ?_) (a' := ?_) rfl (by kernel_rfl) (by kernel_rfl) (by kernel_rfl) (fun _ _ _ h => h) (by rfl) hdr ?_ ?_ ?_
        rotate_left 2
        · (intro w hS; go_simp; try with_reducible rfl)
        · (go_simp; try with_reducible rfl)
        refine held_take (i := 14) (v := ?_) (a' := ?_) rfl (by kernel_rfl) (by kernel_rfl) (by kernel_rfl) (fun _ _ _ h => h) (by rfl) hdr ?_ ?_ ?_
        rotate_left 2
        · (intro w hS; have t := (hS.cell (p := ⟨g, 35, none⟩) hlt2).trans HCC.out.2.2.2; go_simp; try with_reducible rfl)
        · (go_simp; try with_reducible rfl)
        refine held_ready (rs := [3]) (by kernel_rfl) (by simp) ?_
        refine AllHeld.cons rfl (fun KR hKR => ?_) ?_
        · go_simp
          refine (text_any ⟨tr.toArray⟩ _ (by simp only [ByteArray.size, maxLen, List.size_toArray]; have := H32.out; omega)).mono ?_
          rintro e wn ⟨⟨cs, rfl, hv⟩, hbn⟩
          have hbA := hdr.trans (hbn.mono hdr.size)
          have hk5 : cs.length = 5 := valR.len hv
          obtain ⟨K0, hK⟩ : ∃ K, K = cs.toArray := ⟨_, rfl⟩
          have HV0 := Lib.hid (show valR.R wn no K0.toList (txtV tr) by rw [hK]; exact valR.stable (by simpa [txtV, sB] using hv) (Moves.forget _ _))
          have HK0 := Lib.hid (show K0.size = 5 by rw [hK]; simpa using hk5)
          rw [← hK]
          clear hv hk5 hK hbn
          refine hKR _ _ hbA ?_
          clear hKR KR
          refine held_ready (rs := [6]) (by kernel_rfl) (by simp) ?_
          refine AllHeld.cons rfl (fun KR hKR => ?_) ?_
          · go_simp
            refine (idsV_any A n c ps _ (HS2.out.below hbA) HN.out hn8).mono ?_
            rintro e wn ⟨⟨cs, rfl, hv⟩, hbn⟩
            have hbB := hbA.trans (hbn.mono hbA.size)
            have HV0 := Lib.hid (valR.stable HV0.out (Moves.of_below hbn))
            have hk5 : cs.length = 5 := valR.len hv
            obtain ⟨K1, hK⟩ : ∃ K, K = cs.toArray := ⟨_, rfl⟩
            have HV1 := Lib.hid (show valR.R wn no K1.toList (lstV (ps.map txtV)) by rw [hK]; simpa using hv)
            have HK1 := Lib.hid (show K1.size = 5 by rw [hK]; simpa using hk5)
            rw [← hK]
            clear hv hk5 hK hbn
            refine hKR _ _ hbB ?_
            clear hKR KR
            refine held_ready (rs := [9]) (by kernel_rfl) (by simp) ?_
            refine AllHeld.cons rfl (fun KR hKR => ?_) ?_
            · go_simp
              refine (HREAL.out _).mono ?_
              rintro e wn ⟨rfl, hbn⟩
              have hbC := hbB.trans (hbn.mono hbB.size)
              have HV0 := Lib.hid (valR.stable HV0.out (Moves.of_below hbn))
              have HV1 := Lib.hid (valR.stable HV1.out (Moves.of_below hbn))
              obtain ⟨K2, hK⟩ : ∃ K, K = cellsV 2 0 none 0 0 cf none 0 0 := ⟨_, rfl⟩
              have HV2 := Lib.hid (show valR.R wn no K2.toList (fltV cf) by
                rw [hK]
                exact valR_iff.2 ⟨none, 0, none, 0, rfl, by decide, by omega, HF.out, ⟨Nat.le_refl _, Nat.zero_le _, SlOf.nil⟩, Nat.le_refl _, Nat.zero_le _, SlOf.nil⟩)
              have HK2 := Lib.hid (show K2.size = 5 by rw [hK]; rfl)
              rw [← hK]
              clear hK hbn
              refine hKR _ _ hbC ?_
              clear hKR KR
              refine held_ready (rs := [12]) (by kernel_rfl) (by simp) ?_
              refine AllHeld.cons rfl (fun KR hKR => ?_) ?_
              · go_simp
                refine (text_any au _ HAU.out).mono ?_
                rintro e wn ⟨⟨cs, rfl, hv⟩, hbn⟩
                have hbD := hbC.trans (hbn.mono hbC.size)
                have HV0 := Lib.hid (valR.stable HV0.out (Moves.of_below hbn))
                have HV1 := Lib.hid (valR.stable HV1.out (Moves.of_below hbn))
                have HV2 := Lib.hid (valR.stable HV2.out (Moves.of_below hbn))
                have hk5 : cs.length = 5 := valR.len hv
                obtain ⟨K3, hK⟩ : ∃ K, K = cs.toArray := ⟨_, rfl⟩
                have HV3 := Lib.hid (show valR.R wn no K3.toList (txtV (sB au)) by rw [hK]; exact valR.stable (by simpa [txtV, sB] using hv) (Moves.forget _ _))
                have HK3 := Lib.hid (show K3.size = 5 by rw [hK]; simpa using hk5)
                rw [← hK]
                clear hv hk5 hK hbn
                refine hKR _ _ hbD ?_
                clear hKR KR
                refine held_ready (rs := [15]) (by kernel_rfl) (by simp) ?_
                refine AllHeld.cons rfl (fun KR hKR => ?_) ?_
                · go_simp
                  refine (text_any nt _ HNT.out).mono ?_
                  rintro e wn ⟨⟨cs, rfl, hv⟩, hbn⟩
                  have hbE := hbD.trans (hbn.mono hbD.size)
                  have HV0 := Lib.hid (valR.stable HV0.out (Moves.of_below hbn))
                  have HV1 := Lib.hid (valR.stable HV1.out (Moves.of_below hbn))
                  have HV2 := Lib.hid (valR.stable HV2.out (Moves.of_below hbn))
                  have HV3 := Lib.hid (valR.stable HV3.out (Moves.of_below hbn))
                  have hk5 : cs.length = 5 := valR.len hv
                  obtain ⟨K4, hK⟩ : ∃ K, K = cs.toArray := ⟨_, rfl⟩
                  have HV4 := Lib.hid (show valR.R wn no K4.toList (txtV (sB nt)) by rw [hK]; exact valR.stable (by simpa [txtV, sB] using hv) (Moves.forget _ _))
                  have HK4 := Lib.hid (show K4.size = 5 by rw [hK]; simpa using hk5)
                  rw [← hK]
                  clear hv hk5 hK hbn
                  have hrun : (Instr.buildSlice 70 5 #[(0, .agg K0), (1, .agg K1), (2, .agg K2), (3, .agg K3), (4, .agg K4)]).run Try.prog wn = .ok (.slice (some ⟨wn.heap.size, 0, none⟩) 5 5) (wn.alloc (.cells ([K0, K1, K2, K3, K4].flatMap (·.toList)).toArray 72)) := bsVals_of wn [K0, K1, K2, K3, K4] 5 rfl (by omega) (by omega) (fun K hK => by
                    simp only [List.mem_cons, List.not_mem_nil, or_false] at hK
                    rcases hK with rfl | rfl | rfl | rfl | rfl
                    · exact HK0.out
                    · exact HK1.out
                    · exact HK2.out
                    · exact HK3.out
                    · exact HK4.out)
                  have hbF : Below w2.heap.size w2 (wn.alloc (.cells ([K0, K1, K2, K3, K4].flatMap (·.toList)).toArray 72)) := hbE.alloc hbE.size _
                  have HSB := Lib.hid (show SlOf valR (wn.alloc (.cells ([K0, K1, K2, K3, K4].flatMap (·.toList)).toArray 72)) no (some ⟨wn.heap.size, 0, none⟩) [txtV tr, lstV (ps.map txtV), fltV cf, txtV (sB au), txtV (sB nt)] from sl_built (.cons HV0.out (.cons HV1.out (.cons HV2.out (.cons HV3.out (.cons HV4.out .nil))))))
                  have HSEAL : Hid (Calls Try.prog 24 #[.int .i64 4, .slice (some ⟨wn.heap.size, 0, none⟩) 5 5] (wn.alloc (.cells ([K0, K1, K2, K3, K4].flatMap (·.toList)).toArray 72)) (EncPost (wn.alloc (.cells ([K0, K1, K2, K3, K4].flatMap (·.toList)).toArray 72)) (sealG 4 [txtV tr, lstV (ps.map txtV), fltV cf, txtV (sB au), txtV (sB nt)]))) := Lib.hid (seal_any 4 (some ⟨wn.heap.size, 0, none⟩) 5 5 _ _ (by omega) HSB.out rfl (by omega) (by
                    simp only [bulkVs, bulkV, lstV, txtV, fltV, List.length_nil]
                    have h1 := HBK.out
                    have h2 := HN.out; have h3 := HZ.out; have h4 := H32.out
                    have h5 : (sB au).length = au.size := Array.length_toList
                    have h6 : (sB nt).length = nt.size := Array.length_toList
                    omega))
                  generalize ([K0, K1, K2, K3, K4].flatMap (·.toList)).toArray = KK at *
                  clear HV0 HV1 HV2 HV3 HV4 HSB HK0 HK1 HK2 HK3 HK4
                  refine hKR _ _ hbE ?_
                  clear hKR KR
                  refine held_ready (rs := [16]) (by kernel_rfl) (by simp) ?_
                  refine AllHeld.cons rfl (fun KR hKR => ?_) ?_
                  · refine step_build5 (by rfl) (.tmp 29) (.tmp 32) (.tmp 35) (.tmp 38) (.tmp 41) (by rfl) (by rfl) (by rfl) (by rfl) (by rfl) (by rfl) hrun ?_
                    refine hKR _ _ hbF ?_
                    clear hKR KR
                    refine held_ready (rs := [17]) (by kernel_rfl) (by simp) ?_
                    refine AllHeld.cons rfl (fun KR hKR => ?_) ?_
                    · go_simp
                      refine HSEAL.out.mono ?_
                      intro e w5 hp
                      have hbG := hbF.trans (hp.1.mono hbF.size)
                      have hp2 := hp.lower (w := w) (HB2.out.trans (hbF.mono HB2.out.size))
                      rw [← HRR.out] at hp2
                      obtain ⟨A9, c9, rfl, _⟩ := hp2.use
                      have HP := Lib.hid hp2
                      clear hp hp2 HSEAL hrun
                      refine hKR _ _ hbG ?_
                      clear hKR KR
                      refine held_take (i := 18) (v := ?_) (a' := ?_) rfl (by kernel_rfl) (by kernel_rfl) (by kernel_rfl) (fun _ _ _ h => h) (by rfl) hbG ?_ ?_ ?_
                      rotate_left 2
                      · (intro w hS; go_simp; try with_reducible rfl)
                      · (go_simp; try with_reducible rfl)
                      refine held_take (i := 19) (v := ?_) (a' := ?_) rfl (by kernel_rfl) (by kernel_rfl) (by kernel_rfl) (fun _ _ _ h => h) (by rfl) hbG ?_ ?_ ?_
                      rotate_left 2
                      · (intro w hS; go_simp; try with_reducible rfl)
                      · (go_simp; try with_reducible rfl)
                      refine held_take (i := 20) (v := ?_) (a' := ?_) rfl (by kernel_rfl) (by kernel_rfl) (by kernel_rfl) (fun _ _ _ h => h) (by rfl) hbG ?_ ?_ ?_
                      rotate_left 2
                      · (intro w hS; go_simp; try with_reducible rfl)
                      · (go_simp; try with_reducible rfl)
                      refine held_take (i := 21) (v := ?_) (a' := ?_) rfl (by kernel_rfl) (by kernel_rfl) (by kernel_rfl) (fun _ _ _ h => h) (by rfl) hbG ?_ ?_ ?_
                      rotate_left 2
                      · (intro w hS; go_simp; try with_reducible rfl)
                      · (go_simp; try with_reducible rfl)
                      refine wpAnyH_done (by kernel_rfl) ?_ _
                      go_wp2_with fail
                      go_ret2
                      exact HP.out
                    exact AllHeld.nil
                  exact AllHeld.nil
                exact AllHeld.nil
              exact AllHeld.nil
            exact AllHeld.nil
          exact AllHeld.nil
        exact AllHeld.nil
end Go.Proofs.Ytgmbkcjihgphmaa
