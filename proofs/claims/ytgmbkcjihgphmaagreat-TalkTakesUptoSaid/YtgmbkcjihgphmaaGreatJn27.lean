/- Contracts and laws for what the statement reaches, joined: ObjRefEntry, ObjRefGetTree. -/
import Derived.Test.YtgmbkcjihgphmaaGreatJn12
import Derived.Test.YtgmbkcjihgphmaaGreatJn26
/- towlineref09.entry. -/
set_option linter.unusedVariables false
set_option linter.unusedSimpArgs false
namespace Go.Proofs.YtgmbkcjihgphmaaGreat
open Go.RowKit
attribute [local go_sem ↓] cvt_eq
def okE : Res EntT → EntT
 | .ok x => x
 | .error _ => (⟨#[]⟩, false, zId, 0)
theorem rent_info : (Tryz.prog.info? 121).map (·.size) = some 35 := by kernel_rfl
set_option maxRecDepth 100000 in
theorem rent_built0 : Tryz.prog.built 121 [] = some zEnt := by kernel_rfl
set_option maxRecDepth 100000 in
theorem rent_built (s : ByteArray) (d : Bool) : Tryz.prog.built 121 [(0, .string s), (1, .bool d)] = some (entK s d zId 0) := by kernel_rfl
theorem exec_build2 {P : Program} {o : Oper} {a : Act} {w : World} (t : TypeId) (i j : Nat) (x y : Operand) (ho : o.op = .build t #[(i, x), (j, y)]) (vx vy v : Value) (hx : a.eval x = vx) (hy : a.eval y = vy)
  (h : (Instr.build t #[(i, vx), (j, vy)]).run P w = .ok v w) : (execOp a.eval o).run P w = .ok (.value v) w := by
 subst hx hy
 unfold execOp
 simp only [ho, List.map_toArray, List.map_cons, List.map_nil, Sem.run_bind, h, Result.andThen_ok, Sem.run_pure]
theorem entK_id {i j : List UInt8} (hi : i.length = 32) (hj : j.length = 32) (s : ByteArray) (d : Bool) (f : Nat) :
  ((entK s d i f).toList.take 2 ++ (bytesV j).toArray.toList ++ (entK s d i f).toList.drop (2 + (bytesV j).toArray.size)).toArray = entK s d j f := by
 have h1 : (bytesV i).length = 32 := by rw [bytesV_length, hi]
 have h2 : (bytesV j).length = 32 := by rw [bytesV_length, hj]
 unfold entK
 simp only [List.size_toArray, h2]
 rw [show (2 + 32 : Nat) = 32 + 1 + 1 from rfl, List.drop_succ_cons, List.drop_succ_cons, List.drop_append, h1, List.drop_of_length_le (by omega)]
 simp
theorem rent_alloc {w8 W : World} (h : Below w8.heap.size w8 W) : ∃ W' ge, W.alloc (.cells zEnt 121) = W' ∧ W.heap.size = ge ∧ Below w8.heap.size w8 W' ∧ w8.heap.size ≤ ge ∧ Blk W' ge 121 zEnt := ⟨_, _, rfl, rfl, h.alloc h.size _, h.size, Blk.new _ _ _⟩
set_option maxRecDepth 100000 in
set_option maxHeartbeats 8000000 in
theorem refEntry_any (cs : List Value) (v : Val) (w : World) (hv : valR.R w no cs v) :
  Calls Tryz.prog 73 #[.agg cs.toArray] w fun e w' => e = .returned (.tuple #[.agg (entK (okE (entG v)).1 (okE (entG v)).2.1 (okE (entG v)).2.2.1 (okE (entG v)).2.2.2), .int .i64 (okZ (entG v))]) ∧ Below w.heap.size w w' := by
 obtain ⟨KV, hKV, HK, -, -, -, -⟩ := keepNew w hv
 obtain ⟨k, u, b, f, l⟩ := v
 obtain ⟨A, cA, L, cL, hcs, _, _, _, _, hc1, hc2, hsl⟩ := valR_iff.1 hv
 obtain ⟨n, hn⟩ : ∃ n, n = l.length := ⟨_, rfl⟩
 have HSW := Lib.hid hsl
 have HN := Lib.hid hn.symm
 have HC0 := Lib.hid (show KV[0]? = some (.int .i64 k) by rw [hKV, hcs]; rfl)
 have HC4 := Lib.hid (show KV[4]? = some (.slice L n cL) by rw [hKV, hcs, hn]; rfl)
 have HBK := Lib.hid (HK.out.blk.alloc (.cells zEnt 121))
 have HX := Lib.hid (show Blk ((w.alloc (.cells KV 94)).alloc (.cells zEnt 121)) (w.heap.size + 1) 121 zEnt by
  have := Blk.new (w.alloc (.cells KV 94)) 121 zEnt
  simpa using this)
 have HB := Lib.hid (((Below.refl w.heap.size w).alloc (Nat.le_refl _) (.cells KV 94)).alloc (by simp) (.cells zEnt 121))
 obtain ⟨R, hR⟩ : ∃ R, R = entG (.mk k u b f l) := ⟨_, rfl⟩
 have HR := Lib.hid (show R = if k ≠ 3 then .error 91 else if 3 < n then .error 2 else entRow l by
  rw [hR, hn]; unfold entG listG
  show bindR (if k ≠ 3 then Except.error 91 else if 3 < l.length then Except.error 2 else Except.ok l) entRow = _
  by_cases h1 : k ≠ 3
  ·rw [if_pos h1, if_pos h1]; rfl
  ·rw [if_neg h1, if_neg h1]
   by_cases h2 : 3 < l.length
   ·rw [if_pos h2, if_pos h2]; rfl
   ·rw [if_neg h2, if_neg h2]; rfl)
 rw [← hR]
 rw [← hKV]
 rw [← hn] at hc1
 simp only [maxLen] at hc2
 obtain ⟨KZ, hKZ⟩ : ∃ KZ, KZ = zEnt := ⟨_, rfl⟩
 have HBZ := Lib.hid (show Tryz.prog.built 121 [] = some KZ by rw [hKZ]; exact rent_built0)
 have HIZ := Lib.hid (show (Tryz.prog.info? 121).map (·.size) = some KZ.size by rw [hKZ, entK_size (by simp)]; exact rent_info)
 have HOZ := Lib.hid (show KZ.all (·.oneCell') = true by rw [hKZ]; exact entK_one _ _ _ _)
 have HSZ := Lib.hid (show zEnt.size = KZ.size by rw [hKZ])
 have bad : ∀ z, R = .error z → ∀ K : Array Value, K = KZ → (Ending.returned (.tuple #[.agg K, .int .i64 z]) = .returned (.tuple #[.agg (entK (okE R).1 (okE R).2.1 (okE R).2.2.1 (okE R).2.2.2), .int .i64 (okZ R)])) := by
  rintro z h K rfl
  rw [h, hKZ]; rfl
 have HBAD := Lib.hid bad
 clear hKV hcs hsl HK hR hn hKZ bad hv
 have c0 := (HBK.out.cell 0).trans HC0.out
 have c4 := (HBK.out.cell 4).trans HC4.out
 go_enter Tryz.func73, Tryz.ntmps73
 go_upto_region 1 with fail
 change Code.wp _ _ _ _ ((w.alloc (.cells KV 94)).alloc (.cells zEnt 121))
 generalize (w.alloc (.cells KV 94)).alloc (.cells zEnt 121) = w2 at *
 generalize hg : w.heap.size = g at *
 have HG := Lib.hid hg
 clear hg
 by_cases hk : k = 3
 ·have e1 : (k != 3) = false := by simp [hk]
  by_cases hl : n ≤ 3
  ·have hI : ¬ (3 : Int) < (n : Int) := by omega
   by_cases h2 : 2 ≤ n
   ·have hI2 : ¬ (n : Int) < 2 := by omega
    have h0n : (0 : Int) < (n : Int) := by omega
    have h1n : (1 : Int) < (n : Int) := by omega
    have h0n' : 0 < n := by omega
    have h1n' : 1 < n := by omega
    have HRR := Lib.hid (show R = bindR (textG (nthV l 0) 64) fun s => bindR (idG (nthV l 1)) fun i => entEnd l s i by
     rw [HR.out, if_neg (by simp [hk]), if_neg (by omega)]; unfold entRow; rw [if_neg (by rw [HN.out]; omega)])
    obtain ⟨bL, oL, cx, rfl, hbL, hvx, hat⟩ := val_at (HSW.out.below (by rw [HG.out]; exact HB.out)) HN.out (i := 0) (by omega)
    have HT := Lib.hid (refText_any cx (nthV l 0) 64 w2 hvx (by omega))
    have hx5 : cx.length = 5 := valR.len hvx
    obtain ⟨KX, hKX⟩ : ∃ KX, KX = cx.toArray := ⟨_, rfl⟩
    have HI := Lib.hid (show (Tryz.prog.info? 94).map (·.size) = some KX.size by rw [hKX, show cx.toArray.size = 5 from by simpa using hx5]; exact val_info)
    obtain ⟨Ab, cb, hcb, hslb, hcb1, hcb2⟩ := val_bytes hvx hat
    rw [← hKX] at HT hat
    have HAT := Lib.hid (show At w2 ⟨bL, oL, none⟩ KX by simpa using hat)
    obtain ⟨tz, htz⟩ : ∃ tz, tz = okZ (textG (nthV l 0) 64) := ⟨_, rfl⟩
    rw [← htz] at HT
    have HTZ := Lib.hid htz
    obtain ⟨vb, hvb⟩ : ∃ vb, vb = (nthV l 0).bytes := ⟨_, rfl⟩
    rw [← hvb] at hcb hslb hcb1
    have HVB := Lib.hid hvb
    have hcb : w2.cell? ⟨bL, oL + 2, none⟩ = some (.slice Ab vb.length cb) := by simpa using hcb
    obtain ⟨nb, hnb⟩ : ∃ nb, nb = vb.length := ⟨_, rfl⟩
    rw [← hnb] at hcb hcb1
    have HNB := Lib.hid hnb
    have HSB := Lib.hid hslb
    simp only [maxLen] at hcb2
    clear hvx hat hx5 hKX htz hvb hslb hnb HR
    go_wp2_with (first
     | (refine wpList_load_at rfl _ _ rfl bL oL rfl KX _ HAT.out Tryz.underlying94 rfl HI.out ?_) | fail)
    refine HT.out.mono ?_
    rintro e w3 ⟨rfl, hb3⟩
    have hgl := HX.out.lt
    have HB3 := Lib.hid (HB.out.trans (hb3.mono (by omega)))
    have HX3 := Lib.hid (HX.out.below hb3 hgl)
    have HK3 := Lib.hid (HBK.out.below hb3 HBK.out.lt)
    have hcb3 : w3.cell? ⟨bL, oL + 2, none⟩ = some (.slice Ab nb cb) := (hb3.cell (p := ⟨bL, oL + 2, none⟩) hbL).trans hcb
    have HSB3 := Lib.hid (HSB.out.below hb3)
    have hbL3 : bL < w3.heap.size := Nat.lt_of_lt_of_le hbL hb3.size
    have hbLg : bL < g := by
     obtain ⟨b', o', _, e1, h1, _⟩ := val_at HSW.out HN.out (i := 0) (by omega)
     have e1 := Option.some.inj e1
     injection e1 with e1
     have := HG.out
     omega
    clear hcb hb3 HT HB HX HBK HSB c0 c4 hbL HAT HI
    have c4 := (HK3.out.cell 4).trans HC4.out
    by_cases htz : tz = 0
    ·have e3 : (tz != 0) = false := by simp [htz]
     have HTX := Lib.hid (show textG (nthV l 0) 64 = .ok vb by rw [HVB.out]; exact textG_ok (by rw [← HTZ.out]; exact htz))
     have HR4 := Lib.hid (show R = bindR (idG (nthV l 1)) fun i => entEnd l vb i by rw [HRR.out, HTX.out]; rfl)
     obtain ⟨d, hd⟩ : ∃ d, d = decide (n = 2) := ⟨_, rfl⟩
     have e4 : ((n : Int) == 2) = d := by
      rw [hd]
      by_cases h : n = 2
      ·simp [h]
      ·rw [decide_eq_false h]; simp; omega
     have HD := Lib.hid hd
     have HCV := Lib.hid (fun (w : World) (h : Below w3.heap.size w3 w) => show cvt w Ab nb cb = .ok (.string ⟨vb.toArray⟩) w by rw [HNB.out]; exact cvt_of (HSB3.out.below h) cb)
     have HC3 := Lib.hid (And.intro hcb3 c4)
     have hgl3 := HX3.out.lt
     have hgl3' := HK3.out.lt
     have hdr : Below w3.heap.size w3 w3.drew := Same.below ⟨1, rfl⟩ _
     obtain ⟨KE, hKE⟩ : ∃ KE, KE = entK ⟨vb.toArray⟩ d zId 0 := ⟨_, rfl⟩
     have hbe := Lib.hid (fun w => show (Instr.build 121 #[(0, .string ⟨vb.toArray⟩), (1, .bool d)]).run Tryz.prog w = .ok (.agg KE) w by rw [hKE]; exact run_build w _ _ _ (rent_built _ _))
     have HIE := Lib.hid (show (Tryz.prog.info? 121).map (·.size) = some KE.size by rw [hKE, entK_size (by simp)]; exact rent_info)
     have HOE := Lib.hid (show KE.all (·.oneCell') = true by rw [hKE]; exact entK_one _ _ _ _)
     have HSE := Lib.hid (show zEnt.size = KE.size by rw [hKE, entK_size (by simp), entK_size (by simp)])
     have HKE := Lib.hid hKE
     clear htz hd HRR hcb3 hKE
     go_upto_region 10 with fail
     clear c4
     refine wp_door (fun _ _ => False) 2 3 undef undef [] (fun _ _ _ _ _ _ hp => hp.elim) ?_
     refine wp_region_held (S := fun w => Below w3.heap.size w3 w) (by kernel_rfl) ?_
     change wpAnyH _ _ _ _ _ _ _ _ (World.drew _)
     generalize World.drew w3 = wd at hdr ⊢
     refine held_take (i := 0) (v := ?_) (a' := ?_) rfl (by kernel_rfl) (by kernel_rfl) (by kernel_rfl) (fun _ _ _ h => (show False from h.2.2.2).elim) (by rfl) hdr ?_ ?_ ?_
     rotate_left 2
     ·(intro w hS; go_simp; try with_reducible rfl)
     ·(go_simp; try with_reducible rfl)
     refine held_take (i := 1) (v := ?_) (a' := ?_) rfl (by kernel_rfl) (by kernel_rfl) (by kernel_rfl) (fun _ _ _ h => (show False from h.2.2.2).elim) (by rfl) hdr ?_ ?_ ?_
     rotate_left 2
     ·(intro w hS; have t := (hS.cell (p := ⟨g, 4, none⟩) hgl3').trans HC3.out.2; go_simp; try with_reducible rfl)
     ·(go_simp; try with_reducible rfl)
     refine held_take (i := 2) (v := ?_) (a' := ?_) rfl (by kernel_rfl) (by kernel_rfl) (by kernel_rfl) (fun _ _ _ h => (show False from h.2.2.2).elim) (by rfl) hdr ?_ ?_ ?_
     rotate_left 2
     ·(intro w hS; go_simp; try with_reducible rfl)
     ·(go_simp; try with_reducible rfl)
     refine held_take (i := 3) (v := ?_) (a' := ?_) rfl (by kernel_rfl) (by kernel_rfl) (by kernel_rfl) (fun _ _ _ h => (show False from h.2.2.2).elim) (by rfl) hdr ?_ ?_ ?_
     rotate_left 2
     ·(intro w hS; go_simp; try with_reducible rfl)
     ·(go_simp; try with_reducible rfl)
     refine held_take (i := 4) (v := ?_) (a' := ?_) rfl (by kernel_rfl) (by kernel_rfl) (by kernel_rfl) (fun _ _ _ h => (show False from h.2.2.2).elim) (by rfl) hdr ?_ ?_ ?_
     rotate_left 2
     ·(intro w hS; have t := (hS.cell (p := ⟨bL, oL + 2, none⟩) hbL3).trans HC3.out.1; go_simp; try with_reducible rfl)
     ·(go_simp; try with_reducible rfl)
     refine held_take (i := 5) (v := ?_) (a' := ?_) rfl (by kernel_rfl) (by kernel_rfl) (by kernel_rfl) (fun _ _ _ h => (show False from h.2.2.2).elim) (by rfl) hdr ?_ ?_ ?_
     rotate_left 2
     ·(intro w hS; have t := HCV.out w hS; go_simp; try with_reducible rfl)
     ·(go_simp; try with_reducible rfl)
     refine held_take (i := 6) (v := ?_) (a' := ?_) rfl (by kernel_rfl) (by kernel_rfl) (by kernel_rfl) (fun _ _ _ h => (show False from h.2.2.2).elim) (by rfl) hdr ?_ ?_ ?_
     rotate_left 2
     ·(intro w hS; go_simp; try with_reducible rfl)
     ·(go_simp; try with_reducible rfl)
     refine held_take (i := 7) (v := ?_) (a' := ?_) rfl (by kernel_rfl) (by kernel_rfl) (by kernel_rfl) (fun _ _ _ h => (show False from h.2.2.2).elim) (by rfl) hdr ?_ ?_ ?_
     rotate_left 2
     ·(intro w hS; have t := (hS.cell (p := ⟨g, 4, none⟩) hgl3').trans HC3.out.2; go_simp; try with_reducible rfl)
     ·(go_simp; try with_reducible rfl)
     refine held_take (i := 8) (v := ?_) (a' := ?_) rfl (by kernel_rfl) (by kernel_rfl) (by kernel_rfl) (fun _ _ _ h => (show False from h.2.2.2).elim) (by rfl) hdr ?_ ?_ ?_
     rotate_left 2
     ·(intro w hS; go_simp; try with_reducible rfl)
     ·(go_simp; try with_reducible rfl)
     refine held_take (i := 9) (v := ?_) (a' := ?_) rfl (by kernel_rfl) (by kernel_rfl) (by kernel_rfl) (fun _ _ _ h => (show False from h.2.2.2).elim) (by rfl) hdr ?_ ?_ ?_
     rotate_left 2
     ·(intro w hS; go_simp; try with_reducible rfl)
     ·(go_simp; try with_reducible rfl)
     refine held_take (i := 10) (v := ?_) (a' := ?_) rfl (by kernel_rfl) (by kernel_rfl) (by kernel_rfl) (fun _ _ _ h => (show False from h.2.2.2).elim) (by rfl) hdr ?_ ?_ ?_
     rotate_left 2
     ·(intro w hS; refine exec_build2 121 0 1 (.tmp 34) (.tmp 38) ?_ (.string ⟨vb.toArray⟩) (.bool d) (.agg KE) ?_ ?_ (hbe.out w); exact rfl; exact rfl; exact rfl)
     ·(go_simp; try with_reducible rfl)
     refine held_ready (rs := [11]) (by kernel_rfl) (by simp) ?_
     refine AllHeld.cons rfl (fun KR hKR => ?_) ?_
     ·go_simp
      obtain ⟨wE, ge, hwE, hgE, hcls, hge, hE⟩ := rent_alloc hdr
      change KR _ (World.alloc _ (.cells zEnt 121))
      rw [hwE, hgE]
      clear hwE hgE
      refine hKR _ _ hcls ?_
      clear hKR KR
      refine held_ready (rs := [12]) (by kernel_rfl) (by simp) ?_
      refine AllHeld.cons rfl (fun KR hKR => ?_) ?_
      ·refine step_store_row (by rfl) (.tmp 5) (.tmp 39) (by rfl) ge KE (by rfl) (by rfl) 121 zEnt hE HIE.out HSE.out HOE.out ?_
       have hcls := below_setRow hcls hge KE
       have hE2 := Lib.hid (show Blk _ ge 121 KE from setRow_heap _ ge _ KE _ _ hE)
       refine hKR _ _ hcls ?_
       clear hKR KR
       refine wpAnyH_done (by kernel_rfl) ?_ _
       refine door_normal ?_
       generalize wE.setRow ge KE = w5 at *
       have hgl3 := HX3.out.lt
       have HX5 := Lib.hid (HX3.out.below hcls hgl3)
       have HK5 := Lib.hid (HK3.out.below hcls HK3.out.lt)
       have HB5 := Lib.hid (HB3.out.trans (hcls.mono (by omega)))
       have hgg : g + 1 < ge := Nat.lt_of_lt_of_le hgl3 hge
       obtain ⟨b1, o1, c1, e0, hb1, hv1, hat1⟩ := val_at (HSW.out.below (by rw [HG.out]; exact HB5.out)) HN.out (i := 1) (by omega)
       have e0 := Option.some.inj e0
       injection e0 with e5 e6
       subst e5 e6
       have h15 : c1.length = 5 := valR.len hv1
       have HID := Lib.hid (refId_any c1 (nthV l 1) w5 hv1)
       obtain ⟨K1, hK1⟩ : ∃ K1, K1 = c1.toArray := ⟨_, rfl⟩
       have HI1 := Lib.hid (show (Tryz.prog.info? 94).map (·.size) = some K1.size by rw [hK1, show c1.toArray.size = 5 from by simpa using h15]; exact val_info)
       rw [← hK1] at HID hat1
       have HAT1 := Lib.hid hat1
       obtain ⟨xb, hxb⟩ : ∃ xb, xb = okI (idG (nthV l 1)) := ⟨_, rfl⟩
       obtain ⟨xz, hxz⟩ : ∃ xz, xz = okZ (idG (nthV l 1)) := ⟨_, rfl⟩
       have h32 : xb.length = 32 := by rw [hxb]; exact okI_len _
       rw [← hxb, ← hxz] at HID
       have HXB := Lib.hid hxb
       have HXZ := Lib.hid hxz
       have HXL := Lib.hid h32
       obtain ⟨KB, hKB⟩ : ∃ KB, KB = (bytesV xb).toArray := ⟨_, rfl⟩
       rw [← hKB] at HID
       have HIB := Lib.hid (show (Tryz.prog.info? 33).map (·.size) = some KB.size by rw [hKB]; exact oid_size h32)
       have HOB := Lib.hid (show KB.all (·.oneCell') = true by rw [hKB]; exact oid_one _)
       have hKB32 : KB.size = 32 := by rw [hKB]; simp [bytesV, h32]
       have HSP := Lib.hid (show 2 + KB.size ≤ KE.size by rw [hKB32, HKE.out, entK_size (by simp)]; omega)
       obtain ⟨KG, hKG⟩ : ∃ KG, KG = (KE.toList.take 2 ++ (KB.toList ++ KE.toList.drop (2 + KB.size))).toArray := ⟨_, rfl⟩
       have HKG := Lib.hid (show KG = entK ⟨vb.toArray⟩ d xb 0 by rw [hKG, ← List.append_assoc, hKB, HKE.out]; exact entK_id (by simp) h32 _ _ _)
       have c4 := (HK5.out.cell 4).trans HC4.out
       clear hv1 h15 hK1 hat1 hxb hxz h32 hKB hKB32 e0 HB3 HX3 HK3 HC3 HCV HSB3
       go_wp2_with (first
        | (refine wpList_load_at rfl _ _ rfl bL (oL + 1 * 5) rfl K1 _ HAT1.out Tryz.underlying94 rfl HI1.out ?_) | fail)
       refine HID.out.mono ?_
       rintro e w6 ⟨rfl, hb6⟩
       have hgE := hE2.out.lt
       have hE6 := Lib.hid (hE2.out.below hb6 hgE)
       have HX6 := Lib.hid (HX5.out.below hb6 HX5.out.lt)
       have HK6 := Lib.hid (HK5.out.below hb6 HK5.out.lt)
       have HB6 := Lib.hid (HB5.out.trans (hb6.mono (by omega)))
       clear HX5 HK5 HB5 hb6 HID HAT1 HI1 hE2 c4
       go_upto_region 12 with (first
        | (refine wpList_store_part rfl 33 _ _ rfl ge 2 KB rfl rfl 121 KE hE6.out HIB.out HSP.out HOB.out ?_) | fail)
       rw [← hKG]
       have hge7 := Lib.hid (show Blk (w6.setRow ge KG) ge 121 KG from setRow_heap _ ge _ KG _ _ hE6.out)
       have HX7 := Lib.hid (HX6.out.grown (grown_row w6 ge KG) (fun e => by have := Option.some.inj e; omega))
       have HK7 := Lib.hid (HK6.out.grown (grown_row w6 ge KG) (fun e => by have := Option.some.inj e; omega))
       have HB7 := Lib.hid (below_setRow HB6.out (show g ≤ ge by omega) KG)
       generalize w6.setRow ge KG = w7 at *
       have c4 := (HK7.out.cell 4).trans HC4.out
       have hcd : w7.cell? ⟨ge, 1, none⟩ = some (.bool d) := by rw [hge7.out.cell 1, HKG.out]; exact (entK_get HXL.out _ _ _).2.1
       clear HX6 HK6 HB6 hE6 hKG HIB HOB HSP
       by_cases hxz : xz = 0
       ·have e5 : (xz == 0) = true := by simp [hxz]
        have e5' : (xz != 0) = false := by simp [hxz]
        have hid : idG (nthV l 1) = .ok xb := by rw [HXB.out]; exact idG_ok (by rw [← HXZ.out]; exact hxz)
        have HR5 := Lib.hid (show R = entEnd l vb xb by rw [HR4.out, hid]; rfl)
        clear hid hxz
        by_cases hn2 : n = 2
        ·obtain rfl : d = true := by rw [HD.out]; exact decide_eq_true hn2
         have HRE := Lib.hid (show R = .ok (⟨vb.toArray⟩, true, xb, 0) by rw [HR5.out]; unfold entEnd; rw [if_pos (by rw [HN.out]; exact hn2)])
         have hE7 := Lib.hid (show Blk w7 ge 121 (entK ⟨vb.toArray⟩ true xb 0) by rw [← HKG.out]; exact hge7.out)
         obtain ⟨KF, hKF⟩ : ∃ KF, KF = entK ⟨vb.toArray⟩ true xb 0 := ⟨_, rfl⟩
         have HEF := Lib.hid (show Blk w7 ge 121 KF by rw [hKF]; exact hE7.out)
         have HIF := Lib.hid (show (Tryz.prog.info? 121).map (·.size) = some KF.size by rw [hKF, entK_size HXL.out]; exact rent_info)
         have HOF := Lib.hid (show KF.all (·.oneCell') = true by rw [hKF]; exact entK_one _ _ _ _)
         have HSF := Lib.hid (show zEnt.size = KF.size by rw [hKF, entK_size (by simp), entK_size HXL.out])
         have HKF := Lib.hid hKF
         clear hKF
         go_wp2_with (first
          | (refine wpList_load_row rfl 121 (.tmp 5) rfl ge rfl 121 KF (0, 0) _ HEF.out Tryz.underlying121 rfl HIF.out ?_)
          | (refine wpList_store_row rfl _ _ _ rfl (g + 1) KF rfl rfl 121 _ HX7.out HIF.out HSF.out HOF.out ?_) | fail)
         refine bodyPost_ret (results_row_tmp rfl _ _ (g + 1) 121 KF (0, 0) _ rfl (setRow_heap _ (g + 1) _ _ _ _ HX7.out) Tryz.underlying121 rfl HIF.out) rfl ?_
         rw [HG.out, HRE.out, HKF.out]
         exact ⟨rfl, below_setRow HB7.out (Nat.le_succ _) _⟩
        ·obtain rfl : d = false := by rw [HD.out]; exact decide_eq_false hn2
         have hn3 : n = 3 := by omega
         have h2n : (2 : Int) < (n : Int) := by omega
         have h2n' : 2 < n := by omega
         obtain ⟨b2, o2, c2, e0, hb2, hv2, hat2⟩ := val_at (HSW.out.below (by rw [HG.out]; exact HB7.out)) HN.out (i := 2) (by omega)
         have e0 := Option.some.inj e0
         injection e0 with e7 e8
         subst e7 e8
         obtain ⟨p0, p1, p3⟩ := val_two hv2 hat2
         have hf64 := val_flt hv2
         obtain ⟨kq, hkq⟩ : ∃ kq, kq = (nthV l 2).kind := ⟨_, rfl⟩
         obtain ⟨fq, hfq⟩ : ∃ fq, fq = (nthV l 2).flt := ⟨_, rfl⟩
         have HR6 := Lib.hid (show R = if kq ≠ 2 then .error 91 else .ok (⟨vb.toArray⟩, false, xb, fq) by rw [HR5.out, hkq, hfq]; unfold entEnd; rw [if_neg (by rw [HN.out]; exact hn2)])
         have q0 : w7.cell? ⟨bL, oL + 10, none⟩ = some (.int .i64 kq) := by rw [hkq]; exact p0
         have q3 : w7.cell? ⟨bL, oL + 10 + 3, none⟩ = some (.float .f64 fq) := by rw [hfq]; exact p3
         have q3' : w7.cell? ⟨bL, oL + 13, none⟩ = some (.float .f64 fq) := by simpa using q3
         clear hv2 hat2 p0 p1 p3 hkq hfq e0 hn2 hn3 hf64
         by_cases hk2 : kq = 2
         ·have e6 : (kq != 2) = false := by simp [hk2]
          have HRE := Lib.hid (show R = .ok (⟨vb.toArray⟩, false, xb, fq) by rw [HR6.out, if_neg (by simp [hk2])])
          have hS34 : 34 < KG.size := by rw [HKG.out, entK_size HXL.out]; omega
          have hE8 := Lib.hid (show Blk (w7.setCell ⟨ge, 34, none⟩ (.float .f64 fq)) ge 121 (entK ⟨vb.toArray⟩ false xb fq) by
           have := hge7.out.set_ 34 (.float .f64 fq)
           rw [HKG.out, entK_set HXL.out] at this; exact this)
          have HX8 := Lib.hid (HX7.out.other (g' := ge) (by omega) 34 (.float .f64 fq))
          have HB8 := Lib.hid (HB7.out.setCell (p := ⟨ge, 34, none⟩) (by show g ≤ ge; omega) (.float .f64 fq))
          clear hk2 HR6
          go_upto_region 18 with (first | (refine wpList_store_flt rfl 64 _ _ rfl ge 34 fq rfl rfl 121 _ hge7.out flt_info hS34 ?_) | fail)
          generalize w7.setCell ⟨ge, 34, none⟩ (.float .f64 fq) = w8 at *
          obtain ⟨KF, hKF⟩ : ∃ KF, KF = entK ⟨vb.toArray⟩ false xb fq := ⟨_, rfl⟩
          have HEF := Lib.hid (show Blk w8 ge 121 KF by rw [hKF]; exact hE8.out)
          have HIF := Lib.hid (show (Tryz.prog.info? 121).map (·.size) = some KF.size by rw [hKF, entK_size HXL.out]; exact rent_info)
          have HOF := Lib.hid (show KF.all (·.oneCell') = true by rw [hKF]; exact entK_one _ _ _ _)
          have HSF := Lib.hid (show zEnt.size = KF.size by rw [hKF, entK_size (by simp), entK_size HXL.out])
          have HKF := Lib.hid hKF
          clear hKF
          go_wp2_with (first
           | (refine wpList_load_row rfl 121 (.tmp 5) rfl ge rfl 121 KF (0, 0) _ HEF.out Tryz.underlying121 rfl HIF.out ?_)
           | (refine wpList_store_row rfl _ _ _ rfl (g + 1) KF rfl rfl 121 _ HX8.out HIF.out HSF.out HOF.out ?_) | fail)
          refine bodyPost_ret (results_row_tmp rfl _ _ (g + 1) 121 KF (0, 0) _ rfl (setRow_heap _ (g + 1) _ _ _ _ HX8.out) Tryz.underlying121 rfl HIF.out) rfl ?_
          rw [HG.out, HRE.out, HKF.out]
          exact ⟨rfl, below_setRow HB8.out (Nat.le_succ _) _⟩
         ·have e6 : (kq != 2) = true := by simp [hk2]
          have HRE := Lib.hid (show R = .error 91 by rw [HR6.out, if_pos hk2])
          clear hk2 HR6
          go_wp2_with (first
           | (refine wpList_build0 rfl 121 rfl KZ HBZ.out ?_)
           | (refine wpList_store_row rfl _ _ _ rfl (g + 1) KZ rfl rfl 121 _ HX7.out HIZ.out HSZ.out HOZ.out ?_) | fail)
          refine bodyPost_ret (results_row_tmp rfl _ _ (g + 1) 121 KZ (0, 0) _ rfl (setRow_heap _ (g + 1) _ _ _ _ HX7.out) Tryz.underlying121 rfl HIZ.out) rfl ?_
          rw [HG.out]
          exact ⟨HBAD.out _ HRE.out _ rfl, below_setRow HB7.out (Nat.le_succ _) KZ⟩
       ·have e5 : (xz == 0) = false := by simp [hxz]
        have e5' : (xz != 0) = true := by simp [hxz]
        have hid : idG (nthV l 1) = .error xz := by have := idG_bad (v := nthV l 1) (by rw [← HXZ.out]; exact hxz); rw [this, HXZ.out]
        have HRE := Lib.hid (show R = .error xz by rw [HR4.out, hid]; rfl)
        clear hid hxz
        go_wp2_with (first
         | (refine wpList_build0 rfl 121 rfl KZ HBZ.out ?_)
         | (refine wpList_store_row rfl _ _ _ rfl (g + 1) KZ rfl rfl 121 _ HX7.out HIZ.out HSZ.out HOZ.out ?_) | fail)
        refine bodyPost_ret (results_row_tmp rfl _ _ (g + 1) 121 KZ (0, 0) _ rfl (setRow_heap _ (g + 1) _ _ _ _ HX7.out) Tryz.underlying121 rfl HIZ.out) rfl ?_
        rw [HG.out]
        exact ⟨HBAD.out _ HRE.out _ rfl, below_setRow HB7.out (Nat.le_succ _) KZ⟩
      exact AllHeld.nil
     exact AllHeld.nil
    ·have e3 : (tz != 0) = true := by simp [htz]
     have HRE := Lib.hid (show R = .error tz by rw [HRR.out, HTZ.out, textG_bad (by rw [← HTZ.out]; exact htz)]; rfl)
     clear htz HRR
     go_wp2_with (first
      | (refine wpList_build0 rfl 121 rfl KZ HBZ.out ?_)
      | (refine wpList_store_row rfl _ _ _ rfl (g + 1) KZ rfl rfl 121 _ HX3.out HIZ.out HSZ.out HOZ.out ?_) | fail)
     refine bodyPost_ret (results_row_tmp rfl _ _ (g + 1) 121 KZ (0, 0) _ rfl (setRow_heap _ (g + 1) _ _ _ _ HX3.out) Tryz.underlying121 rfl HIZ.out) rfl ?_
     rw [HG.out]
     exact ⟨HBAD.out _ HRE.out _ rfl, below_setRow HB3.out (Nat.le_succ _) KZ⟩
   ·have hI2 : (n : Int) < 2 := by omega
    have HRE := Lib.hid (show R = .error 91 by rw [HR.out, if_neg (by simp [hk]), if_neg (by omega)]; unfold entRow; rw [if_pos (by rw [HN.out]; omega)])
    clear hk HR
    go_wp2_with (first
     | (refine wpList_build0 rfl 121 rfl KZ HBZ.out ?_)
     | (refine wpList_store_row rfl _ _ _ rfl (g + 1) KZ rfl rfl 121 _ HX.out HIZ.out HSZ.out HOZ.out ?_) | fail)
    refine bodyPost_ret (results_row_tmp rfl _ _ (g + 1) 121 KZ (0, 0) _ rfl (setRow_heap _ (g + 1) _ _ _ _ HX.out) Tryz.underlying121 rfl HIZ.out) rfl ?_
    rw [HG.out]
    exact ⟨HBAD.out _ HRE.out _ rfl, below_setRow HB.out (Nat.le_succ _) KZ⟩
  ·have hI : (3 : Int) < (n : Int) := by omega
   have HRE := Lib.hid (show R = .error 2 by rw [HR.out, if_neg (by simp [hk]), if_pos (by omega)])
   clear hk HR
   go_wp2_with (first
    | (refine wpList_build0 rfl 121 rfl KZ HBZ.out ?_)
    | (refine wpList_store_row rfl _ _ _ rfl (g + 1) KZ rfl rfl 121 _ HX.out HIZ.out HSZ.out HOZ.out ?_) | fail)
   refine bodyPost_ret (results_row_tmp rfl _ _ (g + 1) 121 KZ (0, 0) _ rfl (setRow_heap _ (g + 1) _ _ _ _ HX.out) Tryz.underlying121 rfl HIZ.out) rfl ?_
   rw [HG.out]
   exact ⟨HBAD.out _ HRE.out _ rfl, below_setRow HB.out (Nat.le_succ _) KZ⟩
 ·have e1 : (k != 3) = true := by simp [hk]
  have HRE := Lib.hid (show R = .error 91 by rw [HR.out, if_pos hk])
  clear hk HR
  go_wp2_with (first
   | (refine wpList_build0 rfl 121 rfl KZ HBZ.out ?_)
   | (refine wpList_store_row rfl _ _ _ rfl (g + 1) KZ rfl rfl 121 _ HX.out HIZ.out HSZ.out HOZ.out ?_) | fail)
  refine bodyPost_ret (results_row_tmp rfl _ _ (g + 1) 121 KZ (0, 0) _ rfl (setRow_heap _ (g + 1) _ _ _ _ HX.out) Tryz.underlying121 rfl HIZ.out) rfl ?_
  rw [HG.out]
  exact ⟨HBAD.out _ HRE.out _ rfl, below_setRow HB.out (Nat.le_succ _) KZ⟩
end Go.Proofs.YtgmbkcjihgphmaaGreat
/- towlineref09.GetTree. -/
namespace Go.Proofs.YtgmbkcjihgphmaaGreat
open Go.RowKit
theorem elemREnt : ElemOf Tryz.prog 118 121 (.agg zEnt) 35 64 := ⟨Tryz.underlying118, by kernel_rfl, rfl, by decide⟩
theorem rent_sizeOf (w : World) : (sizeOf 121).run Tryz.prog w = .ok 35 w := by
 have h := rent_info
 cases hq : Tryz.prog.info? 121 with
 | none => rw [hq] at h; simp at h
 | some i =>
  rw [hq] at h
  have h1 : i.size = 35 := by simpa using h
  simp [sizeOf, typeInfo, hq, h1]
theorem rent_zero (w : World) : (zeroValue 121).run Tryz.prog w = .ok (.agg zEnt) w := by kernel_rfl
theorem bsREnt_of (w : World) (K : Array Value) (hK : K.size = 35) : (Instr.buildSlice 118 1 #[(0, .agg K)]).run Tryz.prog w = .ok (.slice (some ⟨w.heap.size, 0, none⟩) 1 1) (w.alloc (.cells K 121)) := by
 unfold Instr.buildSlice
 have hf : ∀ cells : Array Value, cells.size = 35 → Instr.fill (fun i => some (i * 35, 35)) cells [(0, .agg K)] = some K := by
  intro cells hc
  have hK2 : (Value.agg K).cells = K := rfl
  have h := fill_all K cells (by omega)
  unfold Instr.fill
  simp only [hK2]
  have hc1 : (decide (K.size ≠ 35) || decide (0 * 35 + K.size > cells.size)) = false := by simp [hK, hc]
  simp only [Nat.zero_mul] at hc1 ⊢
  rw [if_neg (by rw [hc1]; decide)]
  unfold Instr.fill
  rw [h]
 simp [run_underlying Tryz.underlying118, Sem.run_bind, rent_sizeOf, rent_zero, Value.cells]
 rw [hf _ (by simp)]
 simp [newRow, Sem.run_bind]
theorem entG_ok {v : Val} (h : okZ (entG v) = 0) (hz : ∀ z, entG v = .error z → z ≠ 0) : entG v = .ok (okE (entG v)) := by
 cases hd : entG v with
 | ok v => rfl
 | error z => rw [hd] at h; exact absurd h (hz z hd)
theorem entG_bad {v : Val} (h : okZ (entG v) ≠ 0) : entG v = .error (okZ (entG v)) := by
 cases hd : entG v with
 | ok v => rw [hd] at h; exact absurd rfl h
 | error z => rfl
theorem nthV_flt {w : World} {av : Av} {A : Option Addr} {l : List Val} (h : SlOf valR w av A l) (i : Nat) : (nthV l i).flt < 2 ^ 64 := by
 by_cases hi : i < l.length
 ·obtain ⟨b, o, cs, _, _, hv, _⟩ := val_at h rfl hi
  exact val_flt hv
 ·have : nthV l i = Val.zero := by unfold nthV; rw [List.getD_eq_getElem?_getD, List.getElem?_eq_none (by omega)]; rfl
  rw [this]; decide
theorem idG_len {v : Val} {b : List UInt8} (h : idG v = .ok b) : b.length = 32 := by
 unfold idG at h
 split at h
 ·cases h
 ·rename_i hc
  injection h with h
  subst h
  apply Classical.byContradiction
  intro h2; exact hc (.inr h2)
theorem ent_fine {w : World} {av : Av} {cs : List Value} {v : Val} {x : EntT} (hv : valR.R w av cs v) (h : entG v = .ok x) : x.2.2.1.length = 32 ∧ x.2.2.2 < 2 ^ 64 ∧ x.1.size ≤ 64 := by
 obtain ⟨k, u, b, f, l⟩ := v
 obtain ⟨A, cA, L, cL, _, _, _, _, _, _, _, hsl⟩ := valR_iff.1 hv
 unfold entG at h
 cases hl : listG (.mk k u b f l) 3 with
 | error z => rw [hl] at h; cases h
 | ok us =>
  rw [hl] at h
  have hus : us = l := by
   unfold listG at hl
   split at hl
   ·cases hl
   ·split at hl
    ·cases hl
    ·injection hl with hl; exact hl.symm
  subst hus
  have h : entRow us = .ok x := h
  unfold entRow at h
  split at h
  ·cases h
  ·cases ht : textG (nthV us 0) 64 with
   | error z => rw [ht] at h; cases h
   | ok s =>
    rw [ht] at h
    have h : bindR (idG (nthV us 1)) (fun i => entEnd us s i) = .ok x := h
    cases hi : idG (nthV us 1) with
    | error z => rw [hi] at h; cases h
    | ok i =>
     rw [hi] at h
     have h : entEnd us s i = .ok x := h
     have hs := textG_len ht
     unfold entEnd at h
     split at h
     ·injection h with h; subst h; exact ⟨idG_len hi, (show (0 : Nat) < 2 ^ 64 by decide), by simpa [ByteArray.size] using hs⟩
     ·split at h
      ·cases h
      ·injection h with h; subst h; exact ⟨idG_len hi, nthV_flt hsl 2, by simpa [ByteArray.size] using hs⟩
set_option maxRecDepth 100000 in
set_option maxHeartbeats 8000000 in
theorem refGetTree_any (s : ByteArray) (w : World) : Calls Tryz.prog 51 #[.string s] w (TreePost w (getTree (sB s))) := by
 have HOP := Lib.hid (refOpen_any s 3 1 w (by omega) (by omega) (by omega))
 obtain ⟨R, hR⟩ : ∃ R, R = getTree (sB s) := ⟨_, rfl⟩
 obtain ⟨D, hD⟩ : ∃ D, D = openG (sB s) 3 1 := ⟨_, rfl⟩
 have HR := Lib.hid (show R = bindR D fun vs => bindR (listG (nthV vs 0) 1024) fun us => bindR (eachG entG us) treeEnd by rw [hR, hD]; rfl)
 have HDL := Lib.hid hD
 rw [← hR]
 rw [← hD] at HOP
 clear hR hD
 go_enter Tryz.func51, Tryz.ntmps51
 go_wp2_with fail
 refine HOP.out.mono ?_
 rintro e w2 ⟨hb2, hp⟩
 have HB2 := Lib.hid hb2
 clear hb2
 cases D with
 | error z =>
  obtain rfl : e = _ := hp
  have HRR := Lib.hid (show R = .error z from HR.out)
  have hz := openG_err HDL.out.symm
  have e2 : (z != 0) = true := by simp [hz]
  clear hz
  go_wp2_with fail
  go_ret2
  exact ⟨HB2.out, by rw [HRR.out]; rfl⟩
 | ok vs =>
  obtain ⟨L, cL, rfl, hl1, hl2, hsl⟩ := hp
  have hlen := openG_len HDL.out.symm
  rw [hlen] at hl1 ⊢
  obtain ⟨bL, oL, cs, rfl, hbL, hv, hat⟩ := val_at hsl hlen (i := 0) (by omega)
  obtain ⟨v0, hv0⟩ : ∃ v0, v0 = nthV vs 0 := ⟨_, rfl⟩
  rw [← hv0] at hv
  have HR2 := Lib.hid (show R = bindR (listG v0 1024) fun us => bindR (eachG entG us) treeEnd by rw [HR.out, hv0]; rfl)
  clear HR hv0 HDL HOP
  obtain ⟨k, u, b, f, us⟩ := v0
  obtain ⟨A, cA, M, cM, hcs, _, _, _, _, hm1, hm2, hms⟩ := valR_iff.1 hv
  have hat' : At w2 ⟨bL, oL, none⟩ cs.toArray := by simpa using hat
  have c0 : w2.cell? ⟨bL, oL, none⟩ = some (.int .i64 k) := by have := hat' 0 _ (by rw [hcs]; rfl); simpa using this
  obtain ⟨m, hm⟩ : ∃ m, m = us.length := ⟨_, rfl⟩
  have c4 : w2.cell? ⟨bL, oL + 4, none⟩ = some (.slice M m cM) := by rw [hm]; exact hat' 4 _ (by rw [hcs]; rfl)
  have HMS := Lib.hid hms
  have HM := Lib.hid hm.symm
  rw [← hm] at hm1
  simp only [maxLen] at hm2
  have HR3 := Lib.hid (show R = if k ≠ 3 then .error 91 else if 1024 < m then .error 2 else bindR (eachG entG us) treeEnd by
   rw [HR2.out, hm]; unfold listG
   show bindR (if k ≠ 3 then Except.error 91 else if 1024 < us.length then Except.error 2 else Except.ok us) _ = _
   by_cases h1 : k ≠ 3
   ·rw [if_pos h1, if_pos h1]; rfl
   ·rw [if_neg h1, if_neg h1]
    by_cases h2 : 1024 < us.length
    ·rw [if_pos h2, if_pos h2]; rfl
    ·rw [if_neg h2, if_neg h2]; rfl)
  clear HR2 hv hat hat' hcs hms hm hsl hlen
  by_cases hk : k = 3
  ·have e1 : (k != 3) = false := by simp [hk]
   by_cases hl : m ≤ 1024
   ·have hI : ¬ (1024 : Int) < (m : Int) := by omega
    obtain ⟨RR, hRR⟩ : ∃ RR, RR = eachG entG us := ⟨_, rfl⟩
    have HRR := Lib.hid (show R = bindR RR treeEnd by rw [HR3.out, if_neg (by simp [hk]), if_neg (by omega), hRR])
    have HC := Lib.hid (show conE [] (eachG entG (us.drop 0)) = RR by rw [conE_nil, List.drop_zero, hRR])
    have HRW := Lib.hid (show RowB entR 121 w2 w2.heap.size none 0 0 [] from RowB.nil _ _ _ _)
    have HSM := Lib.hid (show ∀ x ∈ ([] : List EntT), x.1.size ≤ 64 from fun x hx => by cases hx)
    have HBW := Lib.hid (Below.refl w2.heap.size w2)
    have HC4 := Lib.hid c4
    clear hk HR3 hRR
    go_wp2_with fail
    go_loopw [6, 7] (fun s6 s7 wr => ∃ (q : Nat) (A' : Option Addr) (c' : Nat) (es : List EntT), q ≤ m ∧ s6 = .slice A' q c' ∧ s7 = .int .i64 (q : Int) ∧ Hid (Below w2.heap.size w2 wr) ∧ Hid (RowB entR 121 wr w2.heap.size A' q c' es) ∧ Hid (conE es (eachG entG (us.drop q)) = RR) ∧ Hid (∀ x ∈ es, x.1.size ≤ 64)) (fun s6 s7 wr => m - (intOf s7).toNat)
    case atStart => exact ⟨0, none, 0, [], by omega, rfl, rfl, HBW, HRW, HC, HSM⟩
    case round =>
     obtain ⟨q, A', c', es, hq, rfl, rfl, HBW4, HRW4, HC5, HSM4⟩ := hrel
     clear HBW HRW HC HSM c0 c4
     have c4 := (HBW4.out.cell (p := ⟨bL, oL + 4, none⟩) hbL).trans HC4.out
     by_cases hlt : q < m
     ·have hltI : (q : Int) < (m : Int) := by omega
      obtain ⟨bM, oM, cx, rfl, hbM, hvx, hat⟩ := val_at (HMS.out.below HBW4.out) HM.out hlt
      have hvk := nthV_at (us := us) (k := q) (by rw [HM.out]; exact hlt)
      have HVK := Lib.hid hvk
      have HEN := Lib.hid (refEntry_any cx (nthV us q) wr (valR.stable hvx (Moves.forget _ _)))
      have hx5 : cx.length = 5 := valR.len hvx
      have HFN := Lib.hid (fun x (h : entG (nthV us q) = .ok x) => ent_fine hvx h)
      obtain ⟨KX, hKX⟩ : ∃ KX, KX = cx.toArray := ⟨_, rfl⟩
      have HI := Lib.hid (show (Tryz.prog.info? 94).map (·.size) = some KX.size by rw [hKX, show cx.toArray.size = 5 from by simpa using hx5]; exact val_info)
      rw [← hKX] at HEN hat
      have HAT := Lib.hid hat
      obtain ⟨xe, hxe⟩ : ∃ xe, xe = okE (entG (nthV us q)) := ⟨_, rfl⟩
      obtain ⟨xz, hxz⟩ : ∃ xz, xz = okZ (entG (nthV us q)) := ⟨_, rfl⟩
      rw [← hxe, ← hxz] at HEN
      have HXE := Lib.hid hxe
      have HXZ := Lib.hid hxz
      have h32 : xe.2.2.1.length = 32 := by
       rw [hxe]
       cases hd : entG (nthV us q) with
       | ok x => exact (HFN.out x hd).1
       | error z => simp [okE]
      have H32 := Lib.hid h32
      obtain ⟨KE, hKE⟩ : ∃ KE, KE = entK xe.1 xe.2.1 xe.2.2.1 xe.2.2.2 := ⟨_, rfl⟩
      rw [← hKE] at HEN
      have hKs : KE.size = 35 := by rw [hKE]; exact entK_size h32 _ _ _
      have HIE := Lib.hid (show (Tryz.prog.info? 121).map (·.size) = some KE.size by rw [hKs]; exact rent_info)
      have HOE := Lib.hid (show KE.all (·.oneCell') = true by rw [hKE]; exact entK_one _ _ _ _)
      have HSE := Lib.hid (show zEnt.size = KE.size by rw [hKs, entK_size (by simp)])
      have hbs := fun w => bsREnt_of w KE hKs
      have HKE := Lib.hid hKE
      clear hvx hat hvk hx5 hKX hxe hxz h32 hKE hKs
      go_upto_region 12 with fail
      go_wp2_with (first
       | (refine wpList_load_at rfl _ _ rfl bM (oM + q * 5) rfl KX _ HAT.out Tryz.underlying94 rfl HI.out ?_)
       | fail)
      refine HEN.out.mono ?_
      rintro e w5 ⟨rfl, hb5⟩
      have hal : Below w5.heap.size w5 (w5.alloc (.cells KE 121)) := (Below.refl _ _).alloc (Nat.le_refl _) _
      have HB5 := Lib.hid (HBW4.out.trans (hb5.mono HBW4.out.size))
      have HB6 := Lib.hid (HB5.out.trans (hal.mono HB5.out.size))
      have HR6 := Lib.hid ((HRW4.out.below hb5).below hal)
      have HBN := Lib.hid (Blk.new w5 121 zEnt)
      have HX6 := Lib.hid (Blk.new w5 121 KE)
      clear HBW4 HRW4 hb5 hal HB5 HEN c4
      go_upto_region 13 with (first
       | (refine wpList_store_row rfl _ _ _ rfl w5.heap.size KE rfl rfl 121 _ HBN.out HIE.out HSE.out HOE.out ?_) | fail)
      rw [World.setRow_alloc_new]
      clear HBN HSE HOE HI HAT
      generalize w5.alloc (.cells KE 121) = w6 at *
      generalize w5.heap.size = gx at *
      by_cases hz : xz = 0
      ·have e2 : (xz != 0) = false := by simp [hz]
       have hid : entG (nthV us q) = .ok xe := by rw [HXE.out]; exact entG_ok (by rw [← HXZ.out]; exact hz) (fun z h => entG_err _ z h)
       have hfn := HFN.out xe hid
       have HC6 := Lib.hid (show conE (es ++ [xe]) (eachG entG (us.drop (q + 1))) = RR by rw [← conE_step es HVK.out hid]; exact HC5.out)
       obtain ⟨A9, c9, w9, run9, hrow9, hb9, hgr9, _, _⟩ := HR6.out.push elemREnt HB6.out.size (av := fun _ => True) (ent_of w6 _ hfn.1 hfn.2.1) (fun _ _ _ => trivial) (by omega) (by simp only [maxLen]; omega) 118 1
       rw [show (entK xe.1 xe.2.1 xe.2.2.1 xe.2.2.2).toList.toArray = KE by rw [Array.toArray_toList, HKE.out]] at run9
       have HB9 := Lib.hid (HB6.out.trans hb9)
       have HR9 := Lib.hid hrow9
       have HSM9 := Lib.hid (show ∀ x ∈ es ++ [xe], x.1.size ≤ 64 from fun x hx => by
        rcases List.mem_append.1 hx with h | h
        ·exact HSM4.out x h
        ·obtain rfl : x = xe := by simpa using h
         exact hfn.2.2)
       clear hz hid HR6 hrow9 hb9 hgr9 hfn HFN
       go_wp2_with (first
        | (refine wpList_load_row rfl 121 (.tmp 8) rfl gx rfl 121 KE (0, 0) _ HX6.out Tryz.underlying121 rfl HIE.out ?_)
        | (refine wpList_build1 rfl (.tmp 53) rfl (.agg KE) _ rfl (hbs _) ?_)
        | (at_builtin; refine wpList_run_append run9 ?_ ?_ ?_; exact rfl; exact rfl)
        | fail)
       go_roundw
       case rel => exact ⟨q + 1, A9, c9, es ++ [xe], by omega, rfl, by go_num, HB9, HR9, HC6, HSM9⟩
       case measure => simp [intOf]; omega
      ·have e2 : (xz != 0) = true := by simp [hz]
       have hid : entG (nthV us q) = .error xz := by have := entG_bad (v := nthV us q) (by rw [← HXZ.out]; exact hz); rw [this, HXZ.out]
       have HRE := Lib.hid (show R = .error xz by rw [HRR.out, ← HC5.out, conE_err es HVK.out hid]; rfl)
       clear hz hid
       go_wp2_with fail
       go_ret2
       exact ⟨HB2.out.trans (HB6.out.mono HB2.out.size), by rw [HRE.out]; rfl⟩
     ·have hltI : ¬ (q : Int) < (m : Int) := by omega
      obtain rfl : q = m := by omega
      have hrr : RR = .ok es := by rw [← HC5.out]; exact conE_end es (by rw [HM.out]; exact Nat.le_refl _)
      have HR6 := Lib.hid (show R = if orderedG es ≠ 0 then .error (orderedG es) else .ok es by rw [HRR.out, hrr]; rfl)
      obtain ⟨hc1, hc2⟩ := HRW4.out.cap
      have hsl := HRW4.out.sl
      have HSL := Lib.hid hsl
      have hlen := HRW4.out.len
      have HLE := Lib.hid hlen
      have HCC := Lib.hid (And.intro hc1 hc2)
      have HOR := Lib.hid (refOrdered_any A' q c' es wr (hsl.stable (Moves.forget _ _)) hlen (by omega) (fun x hx => Nat.le_trans (HSM4.out x hx) (by omega)))
      obtain ⟨z, hz⟩ : ∃ z, z = orderedG es := ⟨_, rfl⟩
      rw [← hz] at HOR HR6
      clear hrr hsl hlen hz hc1 hc2
      go_wp2_with fail
      refine HOR.out.mono ?_
      rintro e w7 ⟨rfl, hb7⟩
      have HB7 := Lib.hid (HB2.out.trans ((HBW4.out.trans (hb7.mono HBW4.out.size)).mono HB2.out.size))
      have HSL7 := Lib.hid (HSL.out.below hb7)
      clear hb7 HOR
      by_cases hz0 : z = 0
      ·have e2 : (z != 0) = false := by simp [hz0]
       have HRE := Lib.hid (show R = .ok es by rw [HR6.out, if_neg (by simp [hz0])])
       clear hz0 HR6
       go_wp2_with fail
       go_ret2
       refine ⟨HB7.out, ?_⟩
       rw [HRE.out]
       have h1 := HLE.out
       exact ⟨A', c', by rw [← h1]; rfl, HSL7.out.stable (Moves.less _ (fun b _ h => by have h : b < w.heap.size := h; have := HB2.out.size; show b < w2.heap.size; omega)), by rw [← h1]; exact HCC.out.1, HCC.out.2⟩
      ·have e2 : (z != 0) = true := by simp [hz0]
       have HRE := Lib.hid (show R = .error z by rw [HR6.out, if_pos hz0])
       clear hz0 HR6
       go_wp2_with fail
       go_ret2
       exact ⟨HB7.out, by rw [HRE.out]; rfl⟩
   ·have hI : (1024 : Int) < (m : Int) := by omega
    have HRE := Lib.hid (show R = .error 2 by rw [HR3.out, if_neg (by simp [hk]), if_pos (by omega)])
    clear hk HR3
    go_wp2_with fail
    go_ret2
    exact ⟨HB2.out, by rw [HRE.out]; rfl⟩
  ·have e1 : (k != 3) = true := by simp [hk]
   have HRE := Lib.hid (show R = .error 91 by rw [HR3.out, if_pos hk])
   clear hk HR3
   go_wp2_with fail
   go_ret2
   exact ⟨HB2.out, by rw [HRE.out]; rfl⟩
end Go.Proofs.YtgmbkcjihgphmaaGreat
