/- Contracts and laws for what the statement reaches, joined: ObjPutCom, ObjAwake. -/
import Derived.Test.YtpafhajpnepecaaJn12
import Derived.Test.YtpafhajpnepecaaJn14
import Derived.Test.YtpafhajpnepecaaJn15
import Derived.Test.YtpafhajpnepecaaJn17
import Derived.Test.YtpafhajpnepecaaJn18
/- object.PutCommit. -/
set_option linter.unusedVariables false
set_option linter.unusedSimpArgs false
namespace Go.Proofs.Ytpafhajpnepecaa
open Go.RowKit
attribute [local go_sem ↓] cvt_eq

theorem step_build5 {P : Program} {Q : Exit → Act → World → Prop} {o : Oper} {a : Act} {w w' : World} {K : Act → World → Prop} {E : Prop} (hgd : o.guard = none) (x0 x1 x2 x3 x4 : Operand) {t : TypeId}
    (ho : o.op = .buildSlice t 5 #[(0, x0), (1, x1), (2, x2), (3, x3), (4, x4)]) {v0 v1 v2 v3 v4 v' : Value} (h0 : a.eval x0 = v0) (h1 : a.eval x1 = v1) (h2 : a.eval x2 = v2) (h3 : a.eval x3 = v3) (h4 : a.eval x4 = v4)
    (hrun : (Instr.buildSlice t 5 #[(0, v0), (1, v1), (2, v2), (3, v3), (4, v4)]).run P w = .ok v' w') (h : K (a.put o.dst v') w') :
    ∀ {ops : Array Oper}, if Region.wanted o (yielded ops a.tmps) = true then Oper.wp P o a w K Q else E := by
  intro ops
  have hw : Region.wanted o (yielded ops a.tmps) = true := by simp [Region.wanted, hgd]
  rw [if_pos hw]
  unfold Oper.wp execOp
  simp only [ho, List.map_toArray, List.map_cons, List.map_nil, h0, h1, h2, h3, h4, Sem.run_bind, hrun, Result.andThen_ok, Sem.run_pure]
  exact h

set_option maxRecDepth 100000 in
set_option maxHeartbeats 8000000 in
theorem putCommit_any (A : Option Addr) (n c : Nat) (tr : List UInt8) (ps : List (List UInt8)) (f : Nat) (au nt : ByteArray) (w : World) (h32 : tr.length = 32) (hs : SlOf oidR w no A ps) (hn : n = ps.length) (hnc : n ≤ c) (hcm : c ≤ maxLen) (hf : f < 2 ^ 64)
    (hau : au.size ≤ maxLen) (hnt : nt.size ≤ maxLen) :
    Calls Try.prog 15 #[.agg (comK tr A n c f au nt)] w (EncPost w (putCommit (tr, ps, f, au, nt))) := by
  obtain ⟨R, hR⟩ : ∃ R, R = putCommit (tr, ps, f, au, nt) := ⟨_, rfl⟩
  have HR := Lib.hid (show R = if 8 < n ∨ 64 < au.size ∨ 1024 < nt.size then .error 2 else if risingG ps = false then .error 92 else sealG 4 [txtV tr, lstV (ps.map txtV), fltV (canonB f), txtV (sB au), txtV (sB nt)] by
    rw [hR, hn]; unfold putCommit; simp only [sB, Array.length_toList]; rfl)
  rw [← hR]
  obtain ⟨K, hK⟩ : ∃ K, K = comK tr A n c f au nt := ⟨_, rfl⟩
  have HK := Lib.hid (Blk.new w 30 K)
  have hba : Below w.heap.size w (w.alloc (.cells K 30)) := (Below.refl _ _).alloc (Nat.le_refl _) _
  have HS := Lib.hid (hs.below hba)
  have HN := Lib.hid hn
  have HBK := Lib.hid (bulk_ids ps (oids_32 hs))
  have HB1 := Lib.hid hba
  have H32 := Lib.hid h32
  have HF := Lib.hid (canonB_lt hf)
  have HAU := Lib.hid hau
  have HNT := Lib.hid hnt
  have HAT := Lib.hid (show At (w.alloc (.cells K 30)) ⟨w.heap.size, 0, none⟩ (bytesV tr).toArray from com_id_at (by rw [← hK]; exact HK.out))
  have hc32 : (w.alloc (.cells K 30)).cell? ⟨w.heap.size, 32, none⟩ = some (.slice A n c) := by rw [HK.out.cell 32, hK]; exact (comK_get h32 _ _ _ _ _ _).1
  have hc33 : (w.alloc (.cells K 30)).cell? ⟨w.heap.size, 33, none⟩ = some (.float .f64 f) := by rw [HK.out.cell 33, hK]; exact (comK_get h32 _ _ _ _ _ _).2.1
  have hc34 : (w.alloc (.cells K 30)).cell? ⟨w.heap.size, 34, none⟩ = some (.string au) := by rw [HK.out.cell 34, hK]; exact (comK_get h32 _ _ _ _ _ _).2.2.1
  have hc35 : (w.alloc (.cells K 30)).cell? ⟨w.heap.size, 35, none⟩ = some (.string nt) := by rw [HK.out.cell 35, hK]; exact (comK_get h32 _ _ _ _ _ _).2.2.2
  have hlt := HK.out.lt
  rw [← hK]
  clear hR hs hn hba hK h32 hf hau hnt HK
  go_enter Try.func15, Try.ntmps15
  go_upto_region 1 with fail
  generalize w.alloc (.cells K 30) = w1 at *
  generalize hg : w.heap.size = g at *
  have HG := Lib.hid hg
  clear hg
  by_cases h1 : 8 < n
  · have hI : (8 : Int) < (n : Int) := by omega
    have HRR := Lib.hid (show R = .error 2 by rw [HR.out, if_pos (.inl h1)])
    go_wp2_with fail
    go_ret2
    exact ⟨by rw [HG.out]; exact HB1.out, by rw [HRR.out]; rfl⟩
  · have hI : ¬ (8 : Int) < (n : Int) := by omega
    by_cases h2 : 64 < au.size
    · have hJ : (64 : Int) < (au.size : Int) := by omega
      have HRR := Lib.hid (show R = .error 2 by rw [HR.out, if_pos (.inr (.inl h2))])
      go_wp2_with fail
      go_ret2
      exact ⟨by rw [HG.out]; exact HB1.out, by rw [HRR.out]; rfl⟩
    · have hJ : ¬ (64 : Int) < (au.size : Int) := by omega
      by_cases h3 : 1024 < nt.size
      · have hL : (1024 : Int) < (nt.size : Int) := by omega
        have HRR := Lib.hid (show R = .error 2 by rw [HR.out, if_pos (.inr (.inr h3))])
        go_wp2_with fail
        go_ret2
        exact ⟨by rw [HG.out]; exact HB1.out, by rw [HRR.out]; rfl⟩
      · have hL : ¬ (1024 : Int) < (nt.size : Int) := by omega
        have HR2 := Lib.hid (show R = if risingG ps = false then .error 92 else sealG 4 [txtV tr, lstV (ps.map txtV), fltV (canonB f), txtV (sB au), txtV (sB nt)] by rw [HR.out, if_neg (by omega)])
        have HRI := Lib.hid (rising_any A n c ps w1 HS.out HN.out (by omega))
        go_wp2_with fail
        refine HRI.out.mono ?_
        rintro e w2 ⟨rfl, hb2⟩
        have hlt2 : g < w2.heap.size := Nat.lt_of_lt_of_le hlt hb2.size
        have HB2 := Lib.hid (show Below w.heap.size w w2 by rw [HG.out]; exact HB1.out.trans (hb2.mono (Nat.le_of_lt hlt)))
        cases hri : risingG ps with
        | false =>
          have HRR := Lib.hid (show R = .error 92 by rw [HR2.out, if_pos hri])
          go_wp2_with fail
          go_ret2
          exact ⟨HB2.out, by rw [HRR.out]; rfl⟩
        | true =>
        have HRR := Lib.hid (show R = sealG 4 [txtV tr, lstV (ps.map txtV), fltV (canonB f), txtV (sB au), txtV (sB nt)] by rw [HR2.out, if_neg (by simp [hri])])
        obtain ⟨cf, hcf⟩ : ∃ cf, cf = canonB f := ⟨_, rfl⟩
        rw [← hcf] at HRR HF
        have HREAL := Lib.hid (fun w => real_any f w)
        rw [← hcf] at HREAL
        have HS2 := Lib.hid (HS.out.below hb2)
        have HSL := Lib.hid (sl_at (HAT.out.below hb2 hlt) hlt2)
        have HCC := Lib.hid (show w2.cell? ⟨g, 32, none⟩ = some (.slice A n c) ∧ w2.cell? ⟨g, 33, none⟩ = some (.float .f64 f) ∧ w2.cell? ⟨g, 34, none⟩ = some (.string au) ∧ w2.cell? ⟨g, 35, none⟩ = some (.string nt) from ⟨(hb2.cell (p := ⟨g, 32, none⟩) hlt).trans hc32, (hb2.cell (p := ⟨g, 33, none⟩) hlt).trans hc33, (hb2.cell (p := ⟨g, 34, none⟩) hlt).trans hc34, (hb2.cell (p := ⟨g, 35, none⟩) hlt).trans hc35⟩)
        have HZ := Lib.hid (show n ≤ 8 ∧ au.size ≤ 64 ∧ nt.size ≤ 1024 by omega)
        have hn8 : n ≤ 1000000 := by omega
        clear hb2 hcf hri HR2 HR hc32 hc33 hc34 hc35 HAT HS HB1 hlt HRI
        go_upto_region 5 with fail
        have hdr : Below w2.heap.size w2 w2.drew := Same.below ⟨1, rfl⟩ _
        refine wp_region_held (S := fun w => Below w2.heap.size w2 w) (by kernel_rfl) ?_
        change wpAnyH _ _ _ _ _ _ _ _ (World.drew _)
        refine held_take (i := 0) (v := ?_) (a' := ?_) rfl (by kernel_rfl) (by kernel_rfl) (by kernel_rfl) (fun _ _ _ h => h) (by rfl) hdr ?_ ?_ ?_
        rotate_left 2
        · (intro w hS; go_simp; try with_reducible rfl)
        · (go_simp; try with_reducible rfl)
        refine held_take (i := 1) (v := ?_) (a' := ?_) rfl (by kernel_rfl) (by kernel_rfl) (by kernel_rfl) (fun _ _ _ h => h) (by rfl) hdr ?_ ?_ ?_
        rotate_left 2
        · (intro w hS; go_simp; try with_reducible rfl)
        · (go_simp; try with_reducible rfl)
        refine held_take (i := 2) (v := ?_) (a' := ?_) rfl (by kernel_rfl) (by kernel_rfl) (by kernel_rfl) (fun _ _ _ h => h) (by rfl) hdr ?_ ?_ ?_
        rotate_left 2
        · (intro w hS; have t := cvt_of (HSL.out.below hS) 32; rw [H32.out] at t; go_simp; try with_reducible rfl)
        · (go_simp; try with_reducible rfl)
        refine held_take (i := 4) (v := ?_) (a' := ?_) rfl (by kernel_rfl) (by kernel_rfl) (by kernel_rfl) (fun _ _ _ h => h) (by rfl) hdr ?_ ?_ ?_
        rotate_left 2
        · (intro w hS; go_simp; try with_reducible rfl)
        · (go_simp; try with_reducible rfl)
        refine held_take (i := 5) (v := ?_) (a' := ?_) rfl (by kernel_rfl) (by kernel_rfl) (by kernel_rfl) (fun _ _ _ h => h) (by rfl) hdr ?_ ?_ ?_
        rotate_left 2
        · (intro w hS; have t := (hS.cell (p := ⟨g, 32, none⟩) hlt2).trans HCC.out.1; go_simp; try with_reducible rfl)
        · (go_simp; try with_reducible rfl)
        refine held_take (i := 7) (v := ?_) (a' := ?_) rfl (by kernel_rfl) (by kernel_rfl) (by kernel_rfl) (fun _ _ _ h => h) (by rfl) hdr ?_ ?_ ?_
        rotate_left 2
        · (intro w hS; go_simp; try with_reducible rfl)
        · (go_simp; try with_reducible rfl)
        refine held_take (i := 8) (v := ?_) (a' := ?_) rfl (by kernel_rfl) (by kernel_rfl) (by kernel_rfl) (fun _ _ _ h => h) (by rfl) hdr ?_ ?_ ?_
        rotate_left 2
        · (intro w hS; have t := (hS.cell (p := ⟨g, 33, none⟩) hlt2).trans HCC.out.2.1; go_simp; try with_reducible rfl)
        · (go_simp; try with_reducible rfl)
        refine held_take (i := 10) (v := ?_) (a' := ?_) rfl (by kernel_rfl) (by kernel_rfl) (by kernel_rfl) (fun _ _ _ h => h) (by rfl) hdr ?_ ?_ ?_
        rotate_left 2
        · (intro w hS; go_simp; try with_reducible rfl)
        · (go_simp; try with_reducible rfl)
        refine held_take (i := 11) (v := ?_) (a' := ?_) rfl (by kernel_rfl) (by kernel_rfl) (by kernel_rfl) (fun _ _ _ h => h) (by rfl) hdr ?_ ?_ ?_
        rotate_left 2
        · (intro w hS; have t := (hS.cell (p := ⟨g, 34, none⟩) hlt2).trans HCC.out.2.2.1; go_simp; try with_reducible rfl)
        · (go_simp; try with_reducible rfl)
        refine held_take (i := 13) (v := ?_) (a' := ?_) rfl (by kernel_rfl) (by kernel_rfl) (by kernel_rfl) (fun _ _ _ h => h) (by rfl) hdr ?_ ?_ ?_
        rotate_left 2
        · (intro w hS; go_simp; try with_reducible rfl)
        · (go_simp; try with_reducible rfl)
        refine held_take (i := 14) (v := ?_) (a' := ?_) rfl (by kernel_rfl) (by kernel_rfl) (by kernel_rfl) (fun _ _ _ h => h) (by rfl) hdr ?_ ?_ ?_
        rotate_left 2
        · (intro w hS; have t := (hS.cell (p := ⟨g, 35, none⟩) hlt2).trans HCC.out.2.2.2; go_simp; try with_reducible rfl)
        · (go_simp; try with_reducible rfl)
        refine held_ready (rs := [3]) (by kernel_rfl) (by simp) ?_
        refine AllHeld.cons rfl (fun KR hKR => ?_) ?_
        · go_simp
          refine (text_any ⟨tr.toArray⟩ _ (by simp only [ByteArray.size, maxLen, List.size_toArray]; have := H32.out; omega)).mono ?_
          rintro e wn ⟨⟨cs, rfl, hv⟩, hbn⟩
          have hbA := hdr.trans (hbn.mono hdr.size)
          have hk5 : cs.length = 5 := valR.len hv
          obtain ⟨K0, hK⟩ : ∃ K, K = cs.toArray := ⟨_, rfl⟩
          have HV0 := Lib.hid (show valR.R wn no K0.toList (txtV tr) by rw [hK]; exact valR.stable (by simpa [txtV, sB] using hv) (Moves.forget _ _))
          have HK0 := Lib.hid (show K0.size = 5 by rw [hK]; simpa using hk5)
          rw [← hK]
          clear hv hk5 hK hbn
          refine hKR _ _ hbA ?_
          clear hKR KR
          refine held_ready (rs := [6]) (by kernel_rfl) (by simp) ?_
          refine AllHeld.cons rfl (fun KR hKR => ?_) ?_
          · go_simp
            refine (idsV_any A n c ps _ (HS2.out.below hbA) HN.out hn8).mono ?_
            rintro e wn ⟨⟨cs, rfl, hv⟩, hbn⟩
            have hbB := hbA.trans (hbn.mono hbA.size)
            have HV0 := Lib.hid (valR.stable HV0.out (Moves.of_below hbn))
            have hk5 : cs.length = 5 := valR.len hv
            obtain ⟨K1, hK⟩ : ∃ K, K = cs.toArray := ⟨_, rfl⟩
            have HV1 := Lib.hid (show valR.R wn no K1.toList (lstV (ps.map txtV)) by rw [hK]; simpa using hv)
            have HK1 := Lib.hid (show K1.size = 5 by rw [hK]; simpa using hk5)
            rw [← hK]
            clear hv hk5 hK hbn
            refine hKR _ _ hbB ?_
            clear hKR KR
            refine held_ready (rs := [9]) (by kernel_rfl) (by simp) ?_
            refine AllHeld.cons rfl (fun KR hKR => ?_) ?_
            · go_simp
              refine (HREAL.out _).mono ?_
              rintro e wn ⟨rfl, hbn⟩
              have hbC := hbB.trans (hbn.mono hbB.size)
              have HV0 := Lib.hid (valR.stable HV0.out (Moves.of_below hbn))
              have HV1 := Lib.hid (valR.stable HV1.out (Moves.of_below hbn))
              obtain ⟨K2, hK⟩ : ∃ K, K = cellsV 2 0 none 0 0 cf none 0 0 := ⟨_, rfl⟩
              have HV2 := Lib.hid (show valR.R wn no K2.toList (fltV cf) by
                rw [hK]
                exact valR_iff.2 ⟨none, 0, none, 0, rfl, by decide, by omega, HF.out, ⟨Nat.le_refl _, Nat.zero_le _, SlOf.nil⟩, Nat.le_refl _, Nat.zero_le _, SlOf.nil⟩)
              have HK2 := Lib.hid (show K2.size = 5 by rw [hK]; rfl)
              rw [← hK]
              clear hK hbn
              refine hKR _ _ hbC ?_
              clear hKR KR
              refine held_ready (rs := [12]) (by kernel_rfl) (by simp) ?_
              refine AllHeld.cons rfl (fun KR hKR => ?_) ?_
              · go_simp
                refine (text_any au _ HAU.out).mono ?_
                rintro e wn ⟨⟨cs, rfl, hv⟩, hbn⟩
                have hbD := hbC.trans (hbn.mono hbC.size)
                have HV0 := Lib.hid (valR.stable HV0.out (Moves.of_below hbn))
                have HV1 := Lib.hid (valR.stable HV1.out (Moves.of_below hbn))
                have HV2 := Lib.hid (valR.stable HV2.out (Moves.of_below hbn))
                have hk5 : cs.length = 5 := valR.len hv
                obtain ⟨K3, hK⟩ : ∃ K, K = cs.toArray := ⟨_, rfl⟩
                have HV3 := Lib.hid (show valR.R wn no K3.toList (txtV (sB au)) by rw [hK]; exact valR.stable (by simpa [txtV, sB] using hv) (Moves.forget _ _))
                have HK3 := Lib.hid (show K3.size = 5 by rw [hK]; simpa using hk5)
                rw [← hK]
                clear hv hk5 hK hbn
                refine hKR _ _ hbD ?_
                clear hKR KR
                refine held_ready (rs := [15]) (by kernel_rfl) (by simp) ?_
                refine AllHeld.cons rfl (fun KR hKR => ?_) ?_
                · go_simp
                  refine (text_any nt _ HNT.out).mono ?_
                  rintro e wn ⟨⟨cs, rfl, hv⟩, hbn⟩
                  have hbE := hbD.trans (hbn.mono hbD.size)
                  have HV0 := Lib.hid (valR.stable HV0.out (Moves.of_below hbn))
                  have HV1 := Lib.hid (valR.stable HV1.out (Moves.of_below hbn))
                  have HV2 := Lib.hid (valR.stable HV2.out (Moves.of_below hbn))
                  have HV3 := Lib.hid (valR.stable HV3.out (Moves.of_below hbn))
                  have hk5 : cs.length = 5 := valR.len hv
                  obtain ⟨K4, hK⟩ : ∃ K, K = cs.toArray := ⟨_, rfl⟩
                  have HV4 := Lib.hid (show valR.R wn no K4.toList (txtV (sB nt)) by rw [hK]; exact valR.stable (by simpa [txtV, sB] using hv) (Moves.forget _ _))
                  have HK4 := Lib.hid (show K4.size = 5 by rw [hK]; simpa using hk5)
                  rw [← hK]
                  clear hv hk5 hK hbn
                  have hrun : (Instr.buildSlice 82 5 #[(0, .agg K0), (1, .agg K1), (2, .agg K2), (3, .agg K3), (4, .agg K4)]).run Try.prog wn = .ok (.slice (some ⟨wn.heap.size, 0, none⟩) 5 5) (wn.alloc (.cells ([K0, K1, K2, K3, K4].flatMap (·.toList)).toArray 84)) := bsVals_of wn [K0, K1, K2, K3, K4] 5 rfl (by omega) (by omega) (fun K hK => by
                    simp only [List.mem_cons, List.not_mem_nil, or_false] at hK
                    rcases hK with rfl | rfl | rfl | rfl | rfl
                    · exact HK0.out
                    · exact HK1.out
                    · exact HK2.out
                    · exact HK3.out
                    · exact HK4.out)
                  have hbF : Below w2.heap.size w2 (wn.alloc (.cells ([K0, K1, K2, K3, K4].flatMap (·.toList)).toArray 84)) := hbE.alloc hbE.size _
                  have HSB := Lib.hid (show SlOf valR (wn.alloc (.cells ([K0, K1, K2, K3, K4].flatMap (·.toList)).toArray 84)) no (some ⟨wn.heap.size, 0, none⟩) [txtV tr, lstV (ps.map txtV), fltV cf, txtV (sB au), txtV (sB nt)] from sl_built (.cons HV0.out (.cons HV1.out (.cons HV2.out (.cons HV3.out (.cons HV4.out .nil))))))
                  have HSEAL : Hid (Calls Try.prog 38 #[.int .i64 4, .slice (some ⟨wn.heap.size, 0, none⟩) 5 5] (wn.alloc (.cells ([K0, K1, K2, K3, K4].flatMap (·.toList)).toArray 84)) (EncPost (wn.alloc (.cells ([K0, K1, K2, K3, K4].flatMap (·.toList)).toArray 84)) (sealG 4 [txtV tr, lstV (ps.map txtV), fltV cf, txtV (sB au), txtV (sB nt)]))) := Lib.hid (seal_any 4 (some ⟨wn.heap.size, 0, none⟩) 5 5 _ _ (by omega) HSB.out rfl (by omega) (by
                    simp only [bulkVs, bulkV, lstV, txtV, fltV, List.length_nil]
                    have h1 := HBK.out
                    have h2 := HN.out; have h3 := HZ.out; have h4 := H32.out
                    have h5 : (sB au).length = au.size := Array.length_toList
                    have h6 : (sB nt).length = nt.size := Array.length_toList
                    omega))
                  generalize ([K0, K1, K2, K3, K4].flatMap (·.toList)).toArray = KK at *
                  clear HV0 HV1 HV2 HV3 HV4 HSB HK0 HK1 HK2 HK3 HK4
                  refine hKR _ _ hbE ?_
                  clear hKR KR
                  refine held_ready (rs := [16]) (by kernel_rfl) (by simp) ?_
                  refine AllHeld.cons rfl (fun KR hKR => ?_) ?_
                  · refine step_build5 (by rfl) (.tmp 29) (.tmp 32) (.tmp 35) (.tmp 38) (.tmp 41) (by rfl) (by rfl) (by rfl) (by rfl) (by rfl) (by rfl) hrun ?_
                    refine hKR _ _ hbF ?_
                    clear hKR KR
                    refine held_ready (rs := [17]) (by kernel_rfl) (by simp) ?_
                    refine AllHeld.cons rfl (fun KR hKR => ?_) ?_
                    · go_simp
                      refine HSEAL.out.mono ?_
                      intro e w5 hp
                      have hbG := hbF.trans (hp.1.mono hbF.size)
                      have hp2 := hp.lower (w := w) (HB2.out.trans (hbF.mono HB2.out.size))
                      rw [← HRR.out] at hp2
                      obtain ⟨A9, c9, rfl, _⟩ := hp2.use
                      have HP := Lib.hid hp2
                      clear hp hp2 HSEAL hrun
                      refine hKR _ _ hbG ?_
                      clear hKR KR
                      refine held_take (i := 18) (v := ?_) (a' := ?_) rfl (by kernel_rfl) (by kernel_rfl) (by kernel_rfl) (fun _ _ _ h => h) (by rfl) hbG ?_ ?_ ?_
                      rotate_left 2
                      · (intro w hS; go_simp; try with_reducible rfl)
                      · (go_simp; try with_reducible rfl)
                      refine held_take (i := 19) (v := ?_) (a' := ?_) rfl (by kernel_rfl) (by kernel_rfl) (by kernel_rfl) (fun _ _ _ h => h) (by rfl) hbG ?_ ?_ ?_
                      rotate_left 2
                      · (intro w hS; go_simp; try with_reducible rfl)
                      · (go_simp; try with_reducible rfl)
                      refine held_take (i := 20) (v := ?_) (a' := ?_) rfl (by kernel_rfl) (by kernel_rfl) (by kernel_rfl) (fun _ _ _ h => h) (by rfl) hbG ?_ ?_ ?_
                      rotate_left 2
                      · (intro w hS; go_simp; try with_reducible rfl)
                      · (go_simp; try with_reducible rfl)
                      refine held_take (i := 21) (v := ?_) (a' := ?_) rfl (by kernel_rfl) (by kernel_rfl) (by kernel_rfl) (fun _ _ _ h => h) (by rfl) hbG ?_ ?_ ?_
                      rotate_left 2
                      · (intro w hS; go_simp; try with_reducible rfl)
                      · (go_simp; try with_reducible rfl)
                      refine wpAnyH_done (by kernel_rfl) ?_ _
                      go_wp2_with fail
                      go_ret2
                      exact HP.out
                    exact AllHeld.nil
                  exact AllHeld.nil
                exact AllHeld.nil
              exact AllHeld.nil
            exact AllHeld.nil
          exact AllHeld.nil
        exact AllHeld.nil
end Go.Proofs.Ytpafhajpnepecaa

/- towlinelaw09.awake. -/
set_option linter.unusedVariables false
set_option linter.unusedSimpArgs false
namespace Go.Proofs.Ytpafhajpnepecaa
open Go.RowKit

abbrev idN (x : UInt8) : List UInt8 := x :: List.replicate 31 0
abbrev annS : ByteArray := ⟨#[97, 110, 110]⟩
abbrev fltH : Nat := 4602678819172646912
def comA : ComT := (zId, [idN 1, idN 2], fltH, annS, ⟨#[]⟩)
def treeA : List EntT := [(⟨#[98]⟩, false, zId, 0), (⟨#[97]⟩, false, zId, 0)]
theorem tree_awake : orderedG treeA = 92 := by decide +kernel
set_option maxRecDepth 100000 in
theorem com_awake0 : (match putCommit comA with | .ok _ => true | .error _ => false) = true := by decide +kernel
theorem com_awake : ∃ o, putCommit comA = .ok o := by
  have h := com_awake0
  cases hp : putCommit comA with
  | ok o => exact ⟨o, rfl⟩
  | error z => rw [hp] at h; cases h
theorem comA_norm : normC comA = comA := by decide +kernel

theorem wpList_built1 {P : Program} {ops : Array Oper} {rest : List Oper} {o : Oper} {a : Act} {w : World} {Q : Exit → Act → World → Prop} (hg : o.guard = none) (t : TypeId) (x0 : Operand) {i0 : Nat} (ho : o.op = .build t #[(i0, x0)]) {v0 : Value} (K : Array Value)
    (h0 : a.eval x0 = v0) (hb : P.built t [(i0, v0)] = some K) (h : wpList P ops Q rest (a.put o.dst (.agg K)) w) : wpList P ops Q (o :: rest) a w := by
  subst h0
  exact wpList_build hg t _ ho (by simp [hb]) (by simpa [hb] using h)
theorem wpList_built3 {P : Program} {ops : Array Oper} {rest : List Oper} {o : Oper} {a : Act} {w : World} {Q : Exit → Act → World → Prop} (hg : o.guard = none) (t : TypeId) (x0 x1 x2 : Operand) {i0 i1 i2 : Nat} (ho : o.op = .build t #[(i0, x0), (i1, x1), (i2, x2)]) {v0 v1 v2 : Value} (K : Array Value)
    (h0 : a.eval x0 = v0) (h1 : a.eval x1 = v1) (h2 : a.eval x2 = v2) (hb : P.built t [(i0, v0), (i1, v1), (i2, v2)] = some K) (h : wpList P ops Q rest (a.put o.dst (.agg K)) w) : wpList P ops Q (o :: rest) a w := by
  subst h0 h1 h2
  exact wpList_build hg t _ ho (by simp [hb]) (by simpa [hb] using h)
theorem wpList_build2 {P : Program} {ops : Array Oper} {rest : List Oper} {o : Oper} {a : Act} {w w' : World} {Q : Exit → Act → World → Prop} (hgd : o.guard = none) (x y : Operand) {t : TypeId} (ho : o.op = .buildSlice t 2 #[(0, x), (1, y)]) (vx vy v' : Value) (hx : a.eval x = vx) (hy : a.eval y = vy)
    (hrun : (Instr.buildSlice t 2 #[(0, vx), (1, vy)]).run P w = .ok v' w') (h : wpList P ops Q rest (a.put o.dst v') w') : wpList P ops Q (o :: rest) a w := by
  refine wpList_plain hgd fun _ hK => ?_
  unfold Oper.wp execOp
  simp only [ho, List.map_toArray, List.map_cons, List.map_nil, hx, hy, Sem.run_bind, hrun, Result.andThen_ok, Sem.run_pure]
  exact hK _ _ h
set_option maxRecDepth 100000 in
theorem idN_built (x : UInt8) : Try.prog.built 27 [(0, .int .u8 (x.toNat : Int))] = some (bytesV (idN x)).toArray := by kernel_rfl
set_option maxRecDepth 100000 in
theorem comA_built (A : Option Addr) : Try.prog.built 30 [(3, .string annS), (2, .float .f64 fltH), (1, .slice A 2 2)] = some (comK zId A 2 2 fltH annS ⟨#[]⟩) := by kernel_rfl
set_option maxRecDepth 100000 in
theorem entA_built (s : ByteArray) : Try.prog.built 76 [(0, .string s)] = some (entK s false zId 0) := by kernel_rfl

theorem fill_seqK {k : Nat} (hk : 0 < k) : ∀ (Ks : List (Array Value)) (n : Nat) (cells : Array Value), (∀ K ∈ Ks, K.size = k) → cells.size = (n + Ks.length) * k →
    Instr.fill (fun i => some (i * k, k)) cells ((Ks.zipIdx n).map fun p => (p.2, Value.agg p.1)) = some (cells.toList.take (n * k) ++ Ks.flatMap (·.toList)).toArray
  | [], n, cells, h, hc => by
    have : cells.toList.take (n * k) = cells.toList := List.take_of_length_le (by simp at hc ⊢; omega)
    simp [Instr.fill, this]
  | K :: r, n, cells, h, hc => by
    have hK : K.size = k := h K (by simp)
    simp only [List.length_cons] at hc
    have hK2 : (Value.agg K).cells = K := rfl
    have e1 : (n + (r.length + 1)) * k = n * k + k + r.length * k := by rw [Nat.add_mul, Nat.add_mul]; omega
    have e2 : (n + 1) * k = n * k + k := by rw [Nat.add_mul]; omega
    rw [List.zipIdx_cons, List.map_cons]
    unfold Instr.fill
    simp only [hK2]
    have hc1 : (decide (K.size ≠ k) || decide (n * k + K.size > cells.size)) = false := by
      have : ¬ (n * k + k > cells.size) := by omega
      simp [hK]; omega
    rw [if_neg (by rw [hc1]; decide), fill_step K cells (n * k) (by omega)]
    rw [fill_seqK hk r (n + 1) _ (fun K hk => h K (by simp [hk])) (by simp; rw [Nat.add_mul, Nat.add_mul] at *; omega)]
    congr 1
    have ht : (cells.toList.take (n * k)).length = n * k := by rw [List.length_take, Array.length_toList]; omega
    rw [List.flatMap_cons, List.take_append_of_le_length (by rw [List.length_append, ht, Array.length_toList]; omega), List.take_of_length_le (by rw [List.length_append, ht, Array.length_toList]; omega), List.append_assoc]

theorem bsIds_two (w : World) (K L : Array Value) (hK : K.size = 32) (hL : L.size = 32) : (Instr.buildSlice 22 2 #[(0, .agg K), (1, .agg L)]).run Try.prog w = .ok (.slice (some ⟨w.heap.size, 0, none⟩) 2 2) (w.alloc (.cells (K.toList ++ L.toList).toArray 27)) := by
  have hf := fun (cells : Array Value) (hc : cells.size = 2 * 32) => fill_seqK (k := 32) (by omega) [K, L] 0 cells (fun M hM => by
    simp only [List.mem_cons, List.not_mem_nil, or_false] at hM
    rcases hM with rfl | rfl <;> assumption) (by rw [hc]; rfl)
  unfold Instr.buildSlice
  simp only [run_underlying Try.underlying22, Sem.run_bind, id_sizeOf, id_zero, Value.cells, Result.andThen_ok, Sem.run_pure, if_neg (show ¬ (2 * 32 > 2 ^ 24) by decide), if_neg (show ¬ (2 * 32 = 0) by decide)]
  have h2 : ([K, L].zipIdx 0).map (fun p => (p.2, Value.agg p.1)) = [(0, .agg K), (1, .agg L)] := rfl
  rw [h2] at hf
  rw [hf _ (by simp [bytesV])]
  simp [newRow, Sem.run_bind]
theorem bsEnts_two (w : World) (K L : Array Value) (hK : K.size = 35) (hL : L.size = 35) : (Instr.buildSlice 25 2 #[(0, .agg K), (1, .agg L)]).run Try.prog w = .ok (.slice (some ⟨w.heap.size, 0, none⟩) 2 2) (w.alloc (.cells (K.toList ++ L.toList).toArray 76)) := by
  have hf := fun (cells : Array Value) (hc : cells.size = 2 * 35) => fill_seqK (k := 35) (by omega) [K, L] 0 cells (fun M hM => by
    simp only [List.mem_cons, List.not_mem_nil, or_false] at hM
    rcases hM with rfl | rfl <;> assumption) (by rw [hc]; rfl)
  unfold Instr.buildSlice
  simp only [run_underlying Try.underlying25, Sem.run_bind, ent_sizeOf, ent_zero, Value.cells, Result.andThen_ok, Sem.run_pure, if_neg (show ¬ (2 * 35 > 2 ^ 24) by decide), if_neg (show ¬ (2 * 35 = 0) by decide)]
  have h2 : ([K, L].zipIdx 0).map (fun p => (p.2, Value.agg p.1)) = [(0, .agg K), (1, .agg L)] := rfl
  rw [h2] at hf
  rw [hf _ (by simp [entK, bytesV])]
  simp [newRow, Sem.run_bind]

set_option maxRecDepth 100000 in
set_option maxHeartbeats 8000000 in
theorem awake_obj (w : World) : Calls Try.prog 8 #[] w fun e w' => e = .returned (.bool true) ∧ Below w.heap.size w w' := by
  obtain ⟨oC, hoC⟩ := com_awake
  have HOC := Lib.hid hoC
  clear hoC
  obtain ⟨K1, hK1⟩ : ∃ K1, K1 = (bytesV (idN 1)).toArray := ⟨_, rfl⟩
  obtain ⟨K2, hK2⟩ : ∃ K2, K2 = (bytesV (idN 2)).toArray := ⟨_, rfl⟩
  have HU1 := Lib.hid (show Try.prog.built 27 [(0, .int .u8 1)] = some K1 by rw [hK1]; exact idN_built 1)
  have HU2 := Lib.hid (show Try.prog.built 27 [(0, .int .u8 2)] = some K2 by rw [hK2]; exact idN_built 2)
  have hb12 := bsIds_two w K1 K2 (by rw [hK1]; rfl) (by rw [hK2]; rfl)
  obtain ⟨KC, hKC⟩ : ∃ KC, KC = comK zId (some ⟨w.heap.size, 0, none⟩) 2 2 fltH annS ⟨#[]⟩ := ⟨_, rfl⟩
  have HUC := Lib.hid (show Try.prog.built 30 [(3, .string annS), (2, .float .f64 fltH), (1, .slice (some ⟨w.heap.size, 0, none⟩) 2 2)] = some KC by rw [hKC]; exact comA_built _)
  have hsl : SlOf oidR (w.alloc (.cells (K1.toList ++ K2.toList).toArray 27)) no (some ⟨w.heap.size, 0, none⟩) [idN 1, idN 2] := by
    refine ⟨(K1.toList ++ K2.toList), ?_, ?_, fun _ _ _ _ h => h⟩
    · have := Sl.fresh w (K1.toList ++ K2.toList).toArray 27 (0, 0) 2 32 (by rw [hK1, hK2]; simp [bytesV])
      rw [List.toList_toArray] at this
      exact this
    · rw [hK1, hK2]
      exact Each.cons (oid_of _ _ rfl) (Each.one (oid_of _ _ rfl))
  have HB1 := Lib.hid (show Below w.heap.size w (w.alloc (.cells (K1.toList ++ K2.toList).toArray 27)) from (Below.refl _ _).alloc (Nat.le_refl _) _)
  have HPC := Lib.hid (putCommit_any (some ⟨w.heap.size, 0, none⟩) 2 2 zId [idN 1, idN 2] fltH annS ⟨#[]⟩ (w.alloc (.cells (K1.toList ++ K2.toList).toArray 27)) (by simp) hsl rfl (by omega) (by simp [maxLen]) (by decide) (by simp [maxLen, ByteArray.size]) (by simp [maxLen, ByteArray.size]))
  rw [← hKC] at HPC
  clear hsl hK1 hK2 hKC
  go_enter Try.func8, Try.ntmps8
  go_wp2_with (first
    | (refine wpList_built1 rfl 27 (.const (.int .u8 1)) rfl K1 rfl HU1.out ?_)
    | (refine wpList_built1 rfl 27 (.const (.int .u8 2)) rfl K2 rfl HU2.out ?_)
    | (refine wpList_build2 rfl (.tmp 10) (.tmp 11) rfl (.agg K1) (.agg K2) _ rfl rfl hb12 ?_)
    | (refine wpList_built3 rfl 30 (.const (.string annS)) (.const (.float .f64 fltH)) (.tmp 12) rfl KC rfl rfl rfl HUC.out ?_)
    | fail)
  refine HPC.out.mono ?_
  generalize w.alloc (.cells (K1.toList ++ K2.toList).toArray 27) = w1 at *
  clear hb12 HPC HU1 HU2 HUC
  intro e w2 hp
  rw [show putCommit (zId, [idN 1, idN 2], fltH, annS, ⟨#[]⟩) = .ok oC from HOC.out] at hp
  obtain ⟨hb2, A2, m2, c2, rfl, hm2, hown2⟩ := hp
  have HB2 := Lib.hid (HB1.out.trans (hb2.mono HB1.out.size))
  have HS2 := Lib.hid (Sl.ofOwn hown2)
  obtain ⟨hcap, hcm⟩ := own_cap hown2
  have HCAP := Lib.hid (And.intro hcap hcm)
  have HM2 := Lib.hid hm2
  obtain ⟨hgc, hkc⟩ := com_back (x := comA) (o := oC) rfl (fun i hi => by
    simp only [comA, List.mem_cons, List.not_mem_nil, or_false] at hi
    rcases hi with rfl | rfl <;> rfl) (by decide) HOC.out
  rw [comA_norm] at hgc
  have HGC := Lib.hid hgc
  have HKC := Lib.hid hkc
  clear hb2 hown2 hcap hcm hm2 hgc hkc HB1
  go_wp2_with fail
  refine (getCommit_any A2 m2 c2 oC w2 HS2.out HCAP.out.1 HCAP.out.2).mono ?_
  rw [HGC.out]
  rintro e w3 ⟨hb3, A3, c3, rfl, _, hsl3, hc3, hcm3⟩
  have hx : (comA.2.1.length) = 2 := rfl
  rw [hx]
  obtain ⟨KD, hKD⟩ : ∃ KD, KD = comK zId A3 2 c3 fltH annS ⟨#[]⟩ := ⟨_, rfl⟩
  have HI := Lib.hid (show (Try.prog.info? 30).map (·.size) = some KD.size by rw [hKD]; exact comK_info (by simp) _ _ _ _ _ _)
  have HO := Lib.hid (show KD.all (·.oneCell') = true by rw [hKD]; exact comK_one _ _ _ _ _ _ _)
  have HZ := Lib.hid (show zCom.size = KD.size by rw [hKD, comK_size (by simp), comK_size (by simp)])
  have HBN := Lib.hid (Blk.new w3 30 zCom)
  have hal : Below w3.heap.size w3 (w3.alloc (.cells KD 30)) := (Below.refl _ _).alloc (Nat.le_refl _) _
  have HX4 := Lib.hid (Blk.new w3 30 KD)
  have HB23 := Lib.hid (hb3.trans (hal.mono hb3.size))
  rw [show (comK comA.1 A3 2 c3 comA.2.2.1 comA.2.2.2.1 comA.2.2.2.2) = KD from hKD.symm]
  have HD1 := Lib.hid (show KD[34]? = some (.string annS) by rw [hKD]; exact (comK_get (by simp) _ _ _ _ _ _).2.2.1)
  have HD2 := Lib.hid (show KD[32]? = some (.slice A3 2 c3) by rw [hKD]; exact (comK_get (by simp) _ _ _ _ _ _).1)
  clear hsl3 hc3 hcm3 hal hb3 hx hKD
  go_upto_region 3 with (first | (refine wpList_store_row rfl _ _ _ rfl w3.heap.size KD rfl rfl 30 _ HBN.out HI.out HZ.out HO.out ?_) | fail)
  rw [World.setRow_alloc_new]
  clear HBN HI HO HZ
  generalize w3.alloc (.cells KD 30) = w4 at *
  generalize w3.heap.size = g3 at *
  obtain ⟨E1, hE1⟩ : ∃ E1, E1 = entK ⟨#[98]⟩ false zId 0 := ⟨_, rfl⟩
  obtain ⟨E2, hE2⟩ : ∃ E2, E2 = entK ⟨#[97]⟩ false zId 0 := ⟨_, rfl⟩
  have HV1 := Lib.hid (show Try.prog.built 76 [(0, .string ⟨#[98]⟩)] = some E1 by rw [hE1]; exact entA_built _)
  have HV2 := Lib.hid (show Try.prog.built 76 [(0, .string ⟨#[97]⟩)] = some E2 by rw [hE2]; exact entA_built _)
  have hb12 := bsEnts_two w4 E1 E2 (by rw [hE1]; exact entK_size (by simp) _ _ _) (by rw [hE2]; exact entK_size (by simp) _ _ _)
  have hsl : SlOf entR (w4.alloc (.cells (E1.toList ++ E2.toList).toArray 76)) no (some ⟨w4.heap.size, 0, none⟩) treeA := by
    refine ⟨(E1.toList ++ E2.toList), ?_, ?_, fun _ _ _ _ h => h⟩
    · have := Sl.fresh w4 (E1.toList ++ E2.toList).toArray 76 (0, 0) 2 35 (by rw [hE1, hE2]; simp [entK, bytesV])
      rw [List.toList_toArray] at this
      exact this
    · rw [hE1, hE2]
      exact Each.cons (ent_of _ _ (x := (⟨#[98]⟩, false, zId, 0)) (by simp) (by decide)) (Each.one (ent_of _ _ (x := (⟨#[97]⟩, false, zId, 0)) (by simp) (by decide)))
  have hal : Below w4.heap.size w4 (w4.alloc (.cells (E1.toList ++ E2.toList).toArray 76)) := (Below.refl _ _).alloc (Nat.le_refl _) _
  have HB25 := Lib.hid (HB23.out.trans (hal.mono HB23.out.size))
  have HX5 := Lib.hid (HX4.out.below hal HX4.out.lt)
  have HPT := Lib.hid (putTree_any (some ⟨w4.heap.size, 0, none⟩) 2 2 treeA _ hsl rfl (by omega) (fun x hx => by
    simp only [treeA, List.mem_cons, List.not_mem_nil, or_false] at hx
    rcases hx with rfl | rfl <;> simp [ByteArray.size]))
  have hpt : putTree treeA = .error 92 := by unfold putTree; rw [if_pos (by rw [tree_awake]; decide), tree_awake]
  rw [hpt] at HPT
  clear hsl hE1 hE2 hal hpt
  go_wp2_with (first
    | (refine wpList_built1 rfl 76 (.const (.string ⟨#[98]⟩)) rfl E1 rfl HV1.out ?_)
    | (refine wpList_built1 rfl 76 (.const (.string ⟨#[97]⟩)) rfl E2 rfl HV2.out ?_)
    | (refine wpList_build2 rfl (.tmp 23) (.tmp 24) rfl (.agg E1) (.agg E2) _ rfl rfl hb12 ?_)
    | fail)
  refine HPT.out.mono ?_
  generalize w4.alloc (.cells (E1.toList ++ E2.toList).toArray 76) = w5 at *
  rintro e w6 ⟨hb6, rfl⟩
  have HB26 := Lib.hid (HB25.out.trans (hb6.mono HB25.out.size))
  have HX6 := Lib.hid (HX5.out.below hb6 HX5.out.lt)
  clear hb6 hb12 HPT HV1 HV2 HX4 HX5 HB23 HB25
  have HKD := Lib.hid (kind_any A2 m2 c2 oC w6 (HS2.out.below HB26.out) HCAP.out.1 HCAP.out.2)
  rw [HKC.out] at HKD
  go_wp2_with fail
  refine HKD.out.mono ?_
  rintro e w7 ⟨hb7, rfl, _⟩
  have HB7 := Lib.hid (HB2.out.trans ((HB26.out.trans (hb7.mono HB26.out.size)).mono HB2.out.size))
  have HX7 := Lib.hid (HX6.out.below hb7 HX6.out.lt)
  have c34 := (HX7.out.cell 34).trans HD1.out
  have c32 := (HX7.out.cell 32).trans HD2.out
  clear hb7 HKD HX6 HB26
  go_wp2_with fail
  go_ret
  exact ⟨rfl, HB7.out⟩
end Go.Proofs.Ytpafhajpnepecaa
