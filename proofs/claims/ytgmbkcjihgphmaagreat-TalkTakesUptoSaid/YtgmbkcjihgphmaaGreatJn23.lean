/- Contracts and laws for what the statement reaches, joined: GrainRefValue, GrainRefFlt, GrainRefList, GrainRefDecode, ObjRefFns, ObjRefSeal. -/
import Derived.Test.YtgmbkcjihgphmaaGreatJn10
import Derived.Test.YtgmbkcjihgphmaaGreatJn12
import Derived.Test.YtgmbkcjihgphmaaGreatJn22
import Derived.Test.YtgmbkcjihgphmaaGreatJn8
import Derived.Deep.OwnRows
/- towlineref02.value: a value read at a place of a string. -/
set_option linter.unusedVariables false
namespace Go.Proofs.YtgmbkcjihgphmaaGreat
open Go.RowKit
theorem results_row_tmp2 {fn : Func} {p u v : Tmp} (h : fn.results = #[.cell p 94, .tmp u, .tmp v]) (tmps : Array Value) (w : World) (g : Nat) (t : TypeId) (cs : Array Value) (x y : Value)
  (hp : tmps.getD p undef = .pointer (some ⟨g, 0, none⟩)) (hx : tmps.getD u undef = x) (hy : tmps.getD v undef = y) (hg : w.heap[g]? = some (.cells cs t (0, 0))) (hi : (Tryz.prog.info? 94).map (·.size) = some cs.size) :
  (results fn tmps).run Tryz.prog w = .ok (.tuple #[.agg cs, x, y]) w := by
 have hp' : tmps[p]?.getD undef = .pointer (some ⟨g, 0, none⟩) := by simpa using hp
 have hl := run_loadVar_row w g t 94 cs (0, 0) _ hg Tryz.underlying94 rfl hi
 subst hx hy
 simp [results, h, hp', asAddr, hl, Result.andThen]
def ValAt (w : World) (s : ByteArray) (r : Res (Val × List UInt8)) (e : Ending) (w' : World) : Prop :=
 Below w.heap.size w w' ∧ match r with
  | .ok (v, q) => ∃ cs : List Value, e = .returned (.tuple #[.agg cs.toArray, .int .i64 ((s.size - q.length : Nat) : Int), .int .i64 0]) ∧ valR.R w' (fun b => b < w.heap.size) cs v
  | .error z => ∃ j : Int, e = .returned (.tuple #[.agg zV, .int .i64 j, .int .i64 z])
/-- the variable for the result is there -/
structure VRef (w w2 : World) : Prop where
 below : Below w.heap.size w w2
 blk : Blk w2 w.heap.size 94 zV
theorem VRef.start (w : World) : VRef w (w.alloc (.cells zV 94)) := ⟨(Below.refl _ _).alloc (Nat.le_refl _) _, Blk.new _ _ _⟩
theorem VRef.go {w w2 w3 : World} (h : VRef w w2) (hb : Below w2.heap.size w2 w3) : VRef w w3 := ⟨h.below.trans (hb.mono h.below.size), h.blk.below hb h.blk.lt⟩
theorem VRef.set {w w2 : World} (h : VRef w w2) (KV : Array Value) : Below w.heap.size w (w2.setRow w.heap.size KV) := below_setRow h.below (Nat.le_refl _) KV
theorem rdH_place {s : ByteArray} {i k n : Nat} {r : List UInt8} (h : rdH (s.data.toList.drop i) = .ok (k, n, r)) (hi : i ≤ s.size) :
  ∃ j, s.size - r.length = j ∧ r = s.data.toList.drop j ∧ j ≤ s.size ∧ j + r.length = s.size ∧ k < 4 ∧ n < 2 ^ 64 := by
 obtain ⟨h1, h2, h3⟩ := rdH_back h
 have hl := congrArg List.length h1
 simp at hl
 refine ⟨i + (headL k n).length, by omega, ?_, by omega, by omega, h2, h3⟩
 have := congrArg (List.drop (headL k n).length) h1
 rw [List.drop_drop, List.drop_left] at this
 exact this.symm
set_option maxRecDepth 100000 in
set_option maxHeartbeats 1000000 in
theorem refVal_num {w : World} {s : ByteArray} {i : Nat} {z : Int} {nn : Nat} {r : List UInt8} (hz : ¬ (16 : Int) < z) (hi : i ≤ s.size) (hs : s.size ≤ 1048576) (hr : rdH (s.data.toList.drop i) = .ok (0, nn, r)) :
  Calls Tryz.prog 94 #[.string s, .int .i64 (i : Int), .int .i64 z] w (ValAt w s (.ok (.mk 0 nn [] 0 [], r))) := by
 have HH := Lib.hid (refHeadAt_any s i (w.alloc (.cells zV 94)) hi hs)
 rw [hr] at HH
 have HV := Lib.hid (VRef.start w)
 obtain ⟨j, hj, hrj, hjs, hjr, _, hnn⟩ := rdH_place hr hi
 have HJ := Lib.hid hj
 obtain ⟨KV, hKV⟩ : ∃ KV, KV = cellsV 0 nn none 0 0 0 none 0 0 := ⟨_, rfl⟩
 have HI := Lib.hid (hKV ▸ cellsV_info 0 nn none 0 0 0 none 0 0)
 have HO := Lib.hid (hKV ▸ cellsV_one 0 nn none 0 0 0 none 0 0)
 have HKV := Lib.hid hKV
 clear hr hrj hjr hKV hj
 go_enter Tryz.func94, Tryz.ntmps94
 go_wp2_with fail
 refine HH.out.mono ?_
 rintro e w2 ⟨hb2, rfl⟩
 rw [HJ.out]
 have HV2 := Lib.hid (HV.out.go hb2)
 clear hb2 HV HH
 go_wp2_with (first | (refine wpList_store_row rfl _ _ _ rfl w.heap.size KV rfl (by rw [HKV.out]; rfl) 94 _ HV2.out.blk HI.out (by rw [HKV.out]; rfl) HO.out ?_) | fail)
 refine bodyPost_ret (results_row_tmp2 rfl _ _ w.heap.size 94 KV (.int .i64 (j : Int)) (.int .i64 0) rfl rfl rfl (setRow_heap _ w.heap.size _ _ _ _ HV2.out.blk) HI.out) rfl ?_
 refine ⟨HV2.out.set KV, KV.toList, by rw [HJ.out], ?_⟩
 rw [HKV.out]
 exact valR_flat _ _ nn 0 (by decide) hnn (by omega)
/-- where the head is none -/
theorem refVal_head {w : World} {s : ByteArray} {i : Nat} {z zz : Int} (hz : ¬ (16 : Int) < z) (hi : i ≤ s.size) (hs : s.size ≤ 1048576) (hr : rdH (s.data.toList.drop i) = .error zz) (hzz : zz ≠ 0) :
  Calls Tryz.prog 94 #[.string s, .int .i64 (i : Int), .int .i64 z] w (ValAt w s (.error zz)) := by
 have HH := Lib.hid (refHeadAt_any s i (w.alloc (.cells zV 94)) hi hs)
 rw [hr] at HH
 have HV := Lib.hid (VRef.start w)
 obtain ⟨KV, hKV⟩ : ∃ KV, KV = zV := ⟨_, rfl⟩
 have HI := Lib.hid (show (Tryz.prog.info? 94).map (·.size) = some KV.size by rw [hKV]; exact cellsV_info 0 0 none 0 0 0 none 0 0)
 have HO := Lib.hid (show KV.all (·.oneCell') = true by rw [hKV]; exact cellsV_one 0 0 none 0 0 0 none 0 0)
 have HKV := Lib.hid hKV
 have hzb : (zz != 0) = true := by simp [hzz]
 clear hr hKV hzz
 go_enter Tryz.func94, Tryz.ntmps94
 go_wp2_with fail
 refine HH.out.mono ?_
 rintro e w2 ⟨hb2, rfl⟩
 have HV2 := Lib.hid (HV.out.go hb2)
 clear hb2 HV HH
 go_wp2_with (first | (refine wpList_store_row rfl _ _ _ rfl w.heap.size KV rfl (by rw [HKV.out]; rfl) 94 _ HV2.out.blk HI.out (by rw [HKV.out]) HO.out ?_) | fail)
 refine bodyPost_ret (results_row_tmp2 rfl _ _ w.heap.size 94 KV (.int .i64 (i : Int)) (.int .i64 zz) rfl rfl rfl (setRow_heap _ w.heap.size _ _ _ _ HV2.out.blk) HI.out) rfl ?_
 exact ⟨HV2.out.set KV, (i : Int), by rw [HKV.out]⟩
/-- too deep -/
theorem refVal_deep {w : World} {s : ByteArray} {i : Nat} : Calls Tryz.prog 94 #[.string s, .int .i64 (i : Int), .int .i64 17] w (ValAt w s (.error 24)) := by
 have HV := Lib.hid (VRef.start w)
 obtain ⟨KV, hKV⟩ : ∃ KV, KV = zV := ⟨_, rfl⟩
 have HI := Lib.hid (show (Tryz.prog.info? 94).map (·.size) = some KV.size by rw [hKV]; exact cellsV_info 0 0 none 0 0 0 none 0 0)
 have HO := Lib.hid (show KV.all (·.oneCell') = true by rw [hKV]; exact cellsV_one 0 0 none 0 0 0 none 0 0)
 have HKV := Lib.hid hKV
 clear hKV
 have HV : Hid (VRef w (w.alloc (.cells #[.int .i64 0, .int .u64 0, .slice none 0 0, .float .f64 0, .slice none 0 0] 94))) := HV
 go_enter Tryz.func94, Tryz.ntmps94
 go_upto_region 1 with fail
 generalize w.alloc (.cells #[.int .i64 0, .int .u64 0, .slice none 0 0, .float .f64 0, .slice none 0 0] 94) = w1 at *
 go_wp2_with (first | (refine wpList_store_row rfl _ _ _ rfl w.heap.size KV rfl (by rw [HKV.out]; rfl) 94 _ HV.out.blk HI.out (by rw [HKV.out]) HO.out ?_) | fail)
 refine bodyPost_ret (results_row_tmp2 rfl _ _ w.heap.size 94 KV (.int .i64 (i : Int)) (.int .i64 24) rfl rfl rfl (setRow_heap _ w.heap.size _ _ _ _ HV.out.blk) HI.out) rfl ?_
 exact ⟨HV.out.set KV, (i : Int), by rw [HKV.out]⟩
theorem extract_bytes (s : ByteArray) (j n : Nat) (h : j + n ≤ s.size) : (s.extract j (j + n)).data.toList = (s.data.toList.drop j).take n ∧ (s.extract j (j + n)).size = n := by
 constructor
 ·rw [ByteArray.data_extract, Array.toList_extract]
  simp [List.extract]
 ·rw [ByteArray.size_extract]; omega
set_option maxRecDepth 100000 in
set_option maxHeartbeats 1000000 in
theorem refVal_bytes {w : World} {s : ByteArray} {i : Nat} {z : Int} {nn : Nat} {r : List UInt8} (hz : ¬ (16 : Int) < z) (hi : i ≤ s.size) (hs : s.size ≤ 1048576) (hr : rdH (s.data.toList.drop i) = .ok (1, nn, r)) :
  Calls Tryz.prog 94 #[.string s, .int .i64 (i : Int), .int .i64 z] w (ValAt w s (if r.length < nn then .error 20 else .ok (.mk 1 0 (r.take nn) 0 [], r.drop nn))) := by
 have HH := Lib.hid (refHeadAt_any s i (w.alloc (.cells zV 94)) hi hs)
 rw [hr] at HH
 have HV := Lib.hid (VRef.start w)
 obtain ⟨j, hj, hrj, hjs, hjr, _, hnn⟩ := rdH_place hr hi
 have HJ := Lib.hid hj
 have HRJ := Lib.hid hrj
 obtain ⟨m, hm⟩ : ∃ m, m = r.length := ⟨_, rfl⟩
 rw [← hm] at hjr ⊢
 have hmI : (s.size : Int) - (j : Int) = (m : Int) := by omega
 have hm64 : IntKind.u64.wrap (m : Int) = (m : Int) := by rw [wrap_u64]; omega
 have HM := Lib.hid hm
 clear hr hrj hj hm
 by_cases hlt : m < nn
 ·rw [if_pos hlt]
  have hltI : (m : Int) < (nn : Int) := by omega
  obtain ⟨KV, hKV⟩ : ∃ KV, KV = zV := ⟨_, rfl⟩
  have HI := Lib.hid (show (Tryz.prog.info? 94).map (·.size) = some KV.size by rw [hKV]; exact cellsV_info 0 0 none 0 0 0 none 0 0)
  have HO := Lib.hid (show KV.all (·.oneCell') = true by rw [hKV]; exact cellsV_one 0 0 none 0 0 0 none 0 0)
  have HKV := Lib.hid hKV
  clear hKV
  go_enter Tryz.func94, Tryz.ntmps94
  go_wp2_with fail
  refine HH.out.mono ?_
  rintro e w2 ⟨hb2, rfl⟩
  rw [HJ.out]
  have HV2 := Lib.hid (HV.out.go hb2)
  clear hb2 HV HH
  go_wp2_with (first | (refine wpList_store_row rfl _ _ _ rfl w.heap.size KV rfl (by rw [HKV.out]; rfl) 94 _ HV2.out.blk HI.out (by rw [HKV.out]) HO.out ?_) | fail)
  refine bodyPost_ret (results_row_tmp2 rfl _ _ w.heap.size 94 KV (.int .i64 (j : Int)) (.int .i64 20) rfl rfl rfl (setRow_heap _ w.heap.size _ _ _ _ HV2.out.blk) HI.out) rfl ?_
  exact ⟨HV2.out.set KV, (j : Int), by rw [HKV.out]⟩
 ·rw [if_neg hlt]
  have hltI : ¬ (m : Int) < (nn : Int) := by omega
  obtain ⟨x1, x2⟩ := extract_bytes s j nn (by omega)
  obtain ⟨j2, hj2⟩ : ∃ j2, j2 = j + nn := ⟨_, rfl⟩
  rw [← hj2] at x1 x2
  have HX := Lib.hid x1
  have hnI : IntKind.i64.wrap (nn : Int) = (nn : Int) := IntWalk.i64_in _ (by omega)
  have hsumI : (j : Int) + (nn : Int) = (j2 : Int) := by omega
  have hj2s : j2 ≤ s.size := by omega
  have hjj2 : j ≤ j2 := by omega
  have HJ2 := Lib.hid (show s.size - (r.drop nn).length = j2 by rw [List.length_drop, ← HM.out]; omega)
  clear x1 hj2
  go_enter Tryz.func94, Tryz.ntmps94
  go_wp2_with fail
  refine HH.out.mono ?_
  rintro e w2 ⟨hb2, rfl⟩
  rw [HJ.out]
  have HV2 := Lib.hid (HV.out.go hb2)
  clear hb2 HV HH
  obtain ⟨A, c, w3, hrun, hsl, hc, hcm, hb3, b, rfl, hbw⟩ := toBytes w2 (s.extract j j2) (by simp only [maxLen]; omega)
  rw [x2] at hrun hsl hc
  have HV3 := Lib.hid (HV2.out.go hb3)
  have HSL := Lib.hid hsl
  have hwb := HV2.out.below.size
  have HC := Lib.hid (And.intro hc hcm)
  obtain ⟨KV, hKV⟩ : ∃ KV, KV = cellsV 1 0 (some ⟨b, 0, none⟩) nn c 0 none 0 0 := ⟨_, rfl⟩
  have HI := Lib.hid (show (Tryz.prog.info? 94).map (·.size) = some KV.size by rw [hKV]; exact cellsV_info _ _ _ _ _ _ _ _ _)
  have HO := Lib.hid (show KV.all (·.oneCell') = true by rw [hKV]; exact cellsV_one _ _ _ _ _ _ _ _ _)
  have HKV := Lib.hid hKV
  clear hKV hb3 hsl hc hcm
  go_wp2_with (first | (refine wpList_store_row rfl _ _ _ rfl w.heap.size KV rfl (by rw [HKV.out]; rfl) 94 _ HV3.out.blk HI.out (by rw [HKV.out]; rfl) HO.out ?_) | fail)
  refine bodyPost_ret (results_row_tmp2 rfl _ _ w.heap.size 94 KV (.int .i64 (j2 : Int)) (.int .i64 0) rfl rfl rfl (setRow_heap _ w.heap.size _ _ _ _ HV3.out.blk) HI.out) rfl ?_
  refine ⟨HV3.out.set KV, KV.toList, by rw [HJ2.out], ?_⟩
  have hsl' : Sl (w3.setRow w.heap.size KV) 1 (some ⟨b, 0, none⟩) nn (bytesV (r.take nn)) := by
   have h0 := HSL.out
   rw [HX.out, ← HRJ.out] at h0
   refine ⟨h0.1, fun hn => ?_⟩
   obtain ⟨b', off, he, hb', hc'⟩ := h0.2 hn
   have e := Option.some.inj he
   injection e with e1 e2
   subst e1 e2
   refine ⟨b, 0, rfl, by simpa using hb', fun k u hu => ?_⟩
   rw [cell_setRow_other w3 w.heap.size KV ⟨b, 0 + k, none⟩ (by have := HV2.out.blk.lt; show b ≠ w.heap.size; omega)]
   exact hc' k u hu
  have hln : (r.take nn).length = nn := by rw [List.length_take, ← HM.out]; omega
  rw [HKV.out] at hsl' ⊢
  refine valR_iff.2 ⟨some ⟨b, 0, none⟩, c, none, 0, by rw [hln]; rfl, by decide, by omega, by omega, ⟨by rw [hln]; exact HC.out.1, HC.out.2, bytesV (r.take nn), by rw [hln]; exact hsl', each_byte_mk _, fun _ b' off e => ?_⟩, Nat.le_refl _, Nat.zero_le _, SlOf.nil⟩
  have e := Option.some.inj e
  injection e with e1 e2
  have := HV2.out.blk.lt
  omega
end Go.Proofs.YtgmbkcjihgphmaaGreat
/- towlineref02.value: a number with a point. -/
namespace Go.Proofs.YtgmbkcjihgphmaaGreat
open Go.RowKit
set_option maxRecDepth 100000 in
set_option maxHeartbeats 2000000 in
theorem refVal_flt {w : World} {s : ByteArray} {i : Nat} {z : Int} {nn : Nat} {r : List UInt8} (hz : ¬ (16 : Int) < z) (hi : i ≤ s.size) (hs : s.size ≤ 1048576) (hr : rdH (s.data.toList.drop i) = .ok (2, nn, r)) :
  Calls Tryz.prog 94 #[.string s, .int .i64 (i : Int), .int .i64 z] w (ValAt w s (if r.length < 8 then .error 20 else
    if nn ≠ 0 ∨ canonB (ofBe (r.take 8)) ≠ ofBe (r.take 8) then .error 22 else .ok (.mk 2 0 [] (ofBe (r.take 8)) [], r.drop 8))) := by
 generalize hR : (if r.length < 8 then Except.error 20 else if nn ≠ 0 ∨ canonB (ofBe (r.take 8)) ≠ ofBe (r.take 8) then Except.error 22 else Except.ok (Val.mk 2 0 [] (ofBe (r.take 8)) [], r.drop 8) : Res (Val × List UInt8)) = R
 have HR := Lib.hid hR
 have HH := Lib.hid (refHeadAt_any s i (w.alloc (.cells zV 94)) hi hs)
 rw [hr] at HH
 have HV := Lib.hid (VRef.start w)
 obtain ⟨j, hj, hrj, hjs, hjr, _, hnn⟩ := rdH_place hr hi
 have HJ := Lib.hid hj
 have HRJ := Lib.hid hrj
 obtain ⟨m, hm⟩ : ∃ m, m = r.length := ⟨_, rfl⟩
 rw [← hm] at hjr
 have hmI : (s.size : Int) - (j : Int) = (m : Int) := by omega
 have hm64 : IntKind.u64.wrap (m : Int) = (m : Int) := by rw [wrap_u64]; omega
 have HM := Lib.hid hm
 obtain ⟨KV, hKV⟩ : ∃ KV, KV = zV := ⟨_, rfl⟩
 have HI := Lib.hid (show (Tryz.prog.info? 94).map (·.size) = some KV.size by rw [hKV]; exact cellsV_info 0 0 none 0 0 0 none 0 0)
 have HO := Lib.hid (show KV.all (·.oneCell') = true by rw [hKV]; exact cellsV_one 0 0 none 0 0 0 none 0 0)
 have HKV := Lib.hid hKV
 clear hr hrj hj hm hR hKV
 go_enter Tryz.func94, Tryz.ntmps94
 go_wp2_with fail
 refine HH.out.mono ?_
 rintro e w2 ⟨hb2, rfl⟩
 rw [HJ.out]
 have HV2 := Lib.hid (HV.out.go hb2)
 clear hb2 HV HH
 by_cases hlt : m < 8
 ·have hltI : (m : Int) < 8 := by omega
  have HR1 := Lib.hid (show R = .error 20 by rw [← HR.out, if_pos (by rw [← HM.out]; exact hlt)])
  clear HR
  go_wp2_with (first | (refine wpList_store_row rfl _ _ _ rfl w.heap.size KV rfl (by rw [HKV.out]; rfl) 94 _ HV2.out.blk HI.out (by rw [HKV.out]) HO.out ?_) | fail)
  refine bodyPost_ret (results_row_tmp2 rfl _ _ w.heap.size 94 KV (.int .i64 (j : Int)) (.int .i64 20) rfl rfl rfl (setRow_heap _ w.heap.size _ _ _ _ HV2.out.blk) HI.out) rfl ?_
  rw [HR1.out]
  exact ⟨HV2.out.set KV, (j : Int), by rw [HKV.out]⟩
 ·have hltI : ¬ (m : Int) < 8 := by omega
  have HR1 := Lib.hid (show R = if nn ≠ 0 ∨ canonB (ofBe (r.take 8)) ≠ ofBe (r.take 8) then .error 22 else .ok (.mk 2 0 [] (ofBe (r.take 8)) [], r.drop 8) by rw [← HR.out, if_neg (by rw [← HM.out]; exact hlt)])
  have hl8 : (r.take 8).length = 8 := by rw [List.length_take, ← HM.out]; omega
  obtain ⟨j8, hj8⟩ : ∃ j8, j8 = j + 8 := ⟨_, rfl⟩
  have h8I : (j : Int) + 8 = (j8 : Int) := by omega
  have hj8s : j8 ≤ 1048576 := by omega
  have HJ8 := Lib.hid (show s.size - (r.drop 8).length = j8 by rw [List.length_drop, ← HM.out]; omega)
  have hj8x : j + 8 ≤ s.size := by omega
  obtain ⟨T, hT⟩ : ∃ T, T = r.take 8 := ⟨_, rfl⟩
  rw [← hT] at HR1 hl8
  have HT := Lib.hid hT
  clear HR hT hj8
  go_wp2_with fail
  go_loopw [13, 14] (fun s13 s14 wr => ∃ p B : Nat, p ≤ 8 ∧ s14 = .int .i64 (p : Int) ∧ s13 = .int .u64 (B : Int) ∧ Hid (B = ofBe (T.take p)) ∧ wr = w2) (fun s13 s14 wr => 8 - (intOf s14).toNat)
  case atStart => exact ⟨0, 0, by omega, rfl, rfl, Lib.hid (by simp [ofBe]), rfl⟩
  case round =>
   obtain ⟨p, B, hp, rfl, rfl, HB, rfl⟩ := hrel
   by_cases hp8 : p < 8
   ·have hpI : (p : Int) < 8 := by omega
    have hix0 : (0 : Int) ≤ (j : Int) + (p : Int) := by omega
    have hix1 : (j : Int) + (p : Int) < (s.size : Int) := by omega
    have hixn : ((j : Int) + (p : Int)).toNat = j + p := by omega
    have hjp : j + p < s.size := by omega
    have hat := list_at s (j + p) hjp
    obtain ⟨x, hxx⟩ : ∃ x, x = s[j + p]'hjp := ⟨_, rfl⟩
    rw [← hxx] at hat
    have hxx' := hxx.symm
    have hx : T[p]? = some x := by
     rw [HT.out, List.getElem?_take_of_lt hp8, HRJ.out, List.getElem?_drop]
     have := congrArg List.head? hat
     rw [List.head?_drop] at this
     simpa using this
    have hB56 : B < 2 ^ 56 := by
     have h1 := ofBe_lt (T.take p)
     rw [← HB.out, List.length_take, Nat.min_eq_left (by omega)] at h1
     exact Nat.lt_of_lt_of_le h1 (show (256 : Nat) ^ p ≤ 2 ^ 56 from by
      have := Nat.pow_le_pow_right (show 0 < 256 by omega) (show p ≤ 7 by omega)
      exact Nat.le_trans this (by decide))
    have hx256 := u8_lt x
    have hxw : IntKind.u64.wrap (x.toNat : Int) = (x.toNat : Int) := by rw [wrap_u64]; omega
    have hBw : IntKind.u64.wrap ((B : Int) * 256) = (B : Int) * 256 := by rw [wrap_u64]; omega
    obtain ⟨B2, hB2⟩ : ∃ B2, B2 = B * 256 + x.toNat := ⟨_, rfl⟩
    have hB2I : (B : Int) * 256 + (x.toNat : Int) = (B2 : Int) := by omega
    have hB264 : B2 < 2 ^ 64 := by omega
    have HB2 : Hid (B2 = ofBe (T.take (p + 1))) := Lib.hid (by
     rw [List.take_add_one, hx, Option.toList_some, ofBe_snoc, ← HB.out, hB2])
    clear hB2 hx HB hat hxx
    go_wp2_with fail
    go_roundw
    case rel => exact ⟨p + 1, B2, by omega, by go_num, rfl, HB2, by first | trivial | rfl⟩
    case measure => simp [intOf]; omega
   ·obtain rfl : p = 8 := by omega
    have hB := HB.out
    rw [List.take_of_length_le (by omega)] at hB
    rw [← hB] at HR1
    have hB64 : B < 2 ^ 64 := by
     have h1 := ofBe_lt T
     rw [← hB, hl8] at h1
     exact Nat.lt_of_lt_of_le h1 (by decide)
    have hfr := ext_from
    have hbt := ext_bits
    clear hB HB
    by_cases hn0 : nn = 0
    ·subst hn0
     have e0 : (((0 : Nat) : Int) != 0) = false := rfl
     obtain ⟨C, hC⟩ : ∃ C, C = canonB B := ⟨_, rfl⟩
     have HCA := Lib.hid (bits_any B wr)
     rw [← hC] at HCA HR1
     have HC := Lib.hid hC
     clear hC
     go_wp2_with fail
     refine HCA.out.mono ?_
     rintro e w5 ⟨rfl, hs5⟩
     have HV5 := Lib.hid (HV2.out.go (hs5.below _))
     clear hs5 HCA
     by_cases hCB : C = B
     ·have hR := HR1.out
      rw [if_neg (by rw [hCB]; simp)] at hR
      have HR2 := Lib.hid hR
      have e1 : ((C : Int) != (B : Int)) = false := by rw [hCB]; simp
      obtain ⟨KW, hKW⟩ : ∃ KW, KW = cellsV 2 0 none 0 0 B none 0 0 := ⟨_, rfl⟩
      have HIW := Lib.hid (hKW ▸ cellsV_info 2 0 none 0 0 B none 0 0)
      have HOW := Lib.hid (hKW ▸ cellsV_one 2 0 none 0 0 B none 0 0)
      have HKW := Lib.hid hKW
      clear hR HR1 hCB HC hKW
      go_wp2_with (first | (refine wpList_store_row rfl _ _ _ rfl w.heap.size KW rfl (by rw [HKW.out]; rfl) 94 _ HV5.out.blk HIW.out (by rw [HKW.out]; rfl) HOW.out ?_) | fail)
      refine bodyPost_ret (results_row_tmp2 rfl _ _ w.heap.size 94 KW (.int .i64 (j8 : Int)) (.int .i64 0) rfl rfl rfl (setRow_heap _ w.heap.size _ _ _ _ HV5.out.blk) HIW.out) rfl ?_
      rw [HR2.out]
      refine ⟨HV5.out.set KW, KW.toList, by rw [HJ8.out], ?_⟩
      rw [HKW.out]
      exact valR_flat _ _ 0 B (by decide) (by omega) hB64
     ·have hR := HR1.out
      rw [if_pos (.inr hCB)] at hR
      have HR2 := Lib.hid hR
      have e1 : ((C : Int) != (B : Int)) = true := by simp; omega
      clear hR HR1 hCB HC
      go_wp2_with (first | (refine wpList_store_row rfl _ _ _ rfl w.heap.size KV rfl (by rw [HKV.out]; rfl) 94 _ HV5.out.blk HI.out (by rw [HKV.out]) HO.out ?_) | fail)
      refine bodyPost_ret (results_row_tmp2 rfl _ _ w.heap.size 94 KV (.int .i64 (j : Int)) (.int .i64 22) rfl rfl rfl (setRow_heap _ w.heap.size _ _ _ _ HV5.out.blk) HI.out) rfl ?_
      rw [HR2.out]
      exact ⟨HV5.out.set KV, (j : Int), by rw [HKV.out]⟩
    ·have hR := HR1.out
     rw [if_pos (.inl hn0)] at hR
     have HR2 := Lib.hid hR
     have e1 : ((nn : Int) != 0) = true := by simp; omega
     clear hR HR1 hn0
     go_wp2_with (first | (refine wpList_store_row rfl _ _ _ rfl w.heap.size KV rfl (by rw [HKV.out]; rfl) 94 _ HV2.out.blk HI.out (by rw [HKV.out]) HO.out ?_) | fail)
     refine bodyPost_ret (results_row_tmp2 rfl _ _ w.heap.size 94 KV (.int .i64 (j : Int)) (.int .i64 22) rfl rfl rfl (setRow_heap _ w.heap.size _ _ _ _ HV2.out.blk) HI.out) rfl ?_
     rw [HR2.out]
     exact ⟨HV2.out.set KV, (j : Int), by rw [HKV.out]⟩
end Go.Proofs.YtgmbkcjihgphmaaGreat
/- towlineref02.value: lists, and the whole; towlineref02.Decode. -/
namespace Go.Proofs.YtgmbkcjihgphmaaGreat
open Go.RowKit
/-- the list that is read: its values so far, in a row of the call's own -/
structure LR (w wr : World) (gv : Nat) (L : Option Addr) (m c : Nat) (vs : List Val) : Prop where
 row : ∃ xs, wr.ownsRow (gv + 1) 94 5 (.slice L m c) m xs ∧ Each (valR.R wr (fun b => own (.slice L m c) b ∨ b < gv + 1)) xs vs
 len : m = vs.length
 gvb : Blk wr gv 94 (cellsV 3 0 none 0 0 0 L m c)
 ref : VRef w wr
 lt : w.heap.size < gv
theorem LR.start {w w2 : World} (h : VRef w w2) : LR w (w2.alloc (.cells (cellsV 3 0 none 0 0 0 none 0 0) 94)) w2.heap.size none 0 0 [] :=
 ⟨⟨[], World.ownsRow_nil _ _ _ _, .nil⟩, rfl, Blk.new _ _ _, h.go ((Below.refl _ _).alloc (Nat.le_refl _) _), h.blk.lt⟩
/-- one more value -/
theorem LR.more {w wr w6 w7 : World} {gv : Nat} {L L' : Option Addr} {m c c' : Nat} {vs : List Val} {x : Val} {cs : List Value} (h : LR w wr gv L m c vs) (hg : Below wr.heap.size wr w6) (hx : valR.R w6 (fun b => b < wr.heap.size) cs x)
  (hap : Appended (w6.alloc (.cells cs.toArray 94)) w7 (gv + 1) 94 5 (.slice L m c) (.slice L' (m + 1) c') (m + 1) ((h.row.choose) ++ cs)) :
  LR w (w7.setCell ⟨gv, 4, none⟩ (.slice L' (m + 1) c')) gv L' (m + 1) c' (vs ++ [x]) := by
 have hgl := h.gvb.lt
 have hrow := h.row.choose_spec
 have hlt := h.lt
 have hba : Below w6.heap.size w6 (w6.alloc (.cells cs.toArray 94)) := (Below.refl _ _).alloc (Nat.le_refl _) _
 have hsz := hg.size
 have hownlt : ∀ b, own (.slice L m c) b → b < wr.heap.size := fun b e => (hrow.1.lt b e).2
 have hne : ¬ own (.slice L m c) gv := fun e => by have := (hrow.1.lt gv e).1; omega
 have m1 : Moves wr w6 (fun b => own (.slice L m c) b ∨ b < gv + 1) (fun b => own (.slice L m c) b ∨ b < gv + 1) := Moves.of_below hg
 have m2 : Moves w6 (w6.alloc (.cells cs.toArray 94)) (fun b => own (.slice L m c) b ∨ b < gv + 1) (fun b => own (.slice L m c) b ∨ b < gv + 1) := Moves.of_below hba
 have m3 : Moves (w6.alloc (.cells cs.toArray 94)) w7 (fun b => own (.slice L m c) b ∨ b < gv + 1) (fun b => own (.slice L' (m + 1) c') b ∨ b < gv + 1) := Moves.of_app_in hap (fun b e => .inl e) (fun b e => e.elim (fun e => .inr e) (fun e => .inl (.inr e)))
 have m4 : Moves w7 (w7.setCell ⟨gv, 4, none⟩ (.slice L' (m + 1) c')) (fun b => own (.slice L' (m + 1) c') b ∨ b < gv + 1) (fun b => own (.slice L' (m + 1) c') b ∨ b < gv + 1) := Moves.grown (grown_set _ _ _ _) (.inr (Nat.lt_succ_self _))
 have hne' : ¬ own (.slice L' (m + 1) c') gv := fun e => by have := (hap.own.lt gv e).1; omega
 have hgv6 : Blk w6 gv 94 (cellsV 3 0 none 0 0 0 L m c) := h.gvb.below hg hgl
 have hgva := hgv6.below hba hgv6.lt
 have hgv7 : Blk w7 gv 94 (cellsV 3 0 none 0 0 0 L m c) := hgva.grown hap.grown (fun e => hne e.symm)
 have hr6 := (h.ref.go hg).go hba
 have hres7 : Blk w7 w.heap.size 94 zV := hr6.blk.grown hap.grown (fun e => by have := (hrow.1.lt _ e.symm).1; omega)
 have hb7 : Below w.heap.size w w7 := by
  have h1 := hap.below
  have h2 := hr6.below.size
  exact hr6.below.trans (h1.mono (by omega))
 have hset : Below w.heap.size w (w7.setCell ⟨gv, 4, none⟩ (.slice L' (m + 1) c')) := hb7.setCell (p := ⟨gv, 4, none⟩) (Nat.le_of_lt hlt) _
 refine ⟨⟨_, ?_, ((hrow.2.mono fun _ _ k => valR.stable k (((m1.trans m2).trans m3).trans m4)).snoc (valR.stable hx ?_))⟩, by simp [h.len], ?_, ⟨hset, hres7.other (by omega) 4 _⟩, hlt⟩
 ·exact hap.own.kept (grown_set w7 gv 4 _) (by
   cases hv : (Value.slice L' (m + 1) c').ownBlock with
   | none => exact .inl rfl
   | some k => right; intro e; exact hne' (by unfold own; rw [hv]; exact e))
 ·have q : Moves w6 w6 (fun b => b < wr.heap.size) (fun b => own (.slice L m c) b ∨ b < gv + 1) := Moves.less w6 (fun b _ e => e.elim (hownlt b) (fun e => by omega))
  exact ((q.trans m2).trans m3).trans m4
 ·have := hgv7.set_ 4 (.slice L' (m + 1) c')
  exact this
/-- the list as a value -/
theorem LR.val {w wr : World} {gv : Nat} {L : Option Addr} {m c : Nat} {vs : List Val} (h : LR w wr gv L m c vs) (KV : Array Value) : valR.R (wr.setRow w.heap.size KV) (fun b => b < w.heap.size) (cellsV 3 0 none 0 0 0 L m c).toList (.mk 3 0 [] 0 vs) := by
 obtain ⟨xs, hrow, hes⟩ := h.row
 have hlt := h.lt
 obtain ⟨h1, h2⟩ := own_cap hrow
 have hrow' := own_row hrow (g := w.heap.size) (cs := KV) (by omega)
 have mv : Moves wr (wr.setRow w.heap.size KV) (fun b => own (.slice L m c) b ∨ b < gv + 1) (fun b => b < w.heap.size) :=
  (Moves.grown (grown_row wr w.heap.size KV) (.inr (by omega))).trans (Moves.less _ (fun b _ e => .inr (by omega)))
 refine valR_iff.2 ⟨none, 0, L, c, by rw [← h.len]; rfl, by decide, by omega, by omega, ⟨Nat.le_refl _, Nat.zero_le _, SlOf.nil⟩, by rw [← h.len]; exact h1, h2, xs, ?_, hes.mono fun _ _ k => valR.stable k mv, fun h0 b off e => ?_⟩
 ·rw [← h.len]; exact Sl.ofOwn hrow'
 ·obtain ⟨g, hg, hb, _⟩ := own_at hrow' (by rw [h.len]; exact h0)
  rw [hg] at e
  have e := Option.some.inj e
  injection e with e
  omega
set_option maxRecDepth 100000 in
set_option maxHeartbeats 4000000 in
theorem refVal_list {w : World} {s : ByteArray} {i : Nat} {z : Int} {nn d : Nat} {r : List UInt8} (hz : ¬ (16 : Int) < z) (hz0 : -1000 ≤ z) (hi : i ≤ s.size) (hs : s.size ≤ 1048576) (hr : rdH (s.data.toList.drop i) = .ok (3, nn, r))
  (ih : ∀ (w : World) (j : Nat), j ≤ s.size → Calls Tryz.prog 94 #[.string s, .int .i64 (j : Int), .int .i64 (z + 1)] w (ValAt w s (rd d (s.data.toList.drop j)))) :
  Calls Tryz.prog 94 #[.string s, .int .i64 (i : Int), .int .i64 z] w (ValAt w s (lstR (rdN (rd d) nn r))) := by
 obtain ⟨RR, hRR⟩ : ∃ RR, RR = rdN (rd d) nn r := ⟨_, rfl⟩
 have HRR := Lib.hid (show conL [] (rdN (rd d) nn r) = RR by rw [hRR]; cases rdN (rd d) nn r <;> simp [conL])
 generalize hR : lstR (rdN (rd d) nn r) = R
 have HR := Lib.hid (show lstR RR = R by rw [hRR, ← hR])
 have HIH := Lib.hid ih
 have HH := Lib.hid (refHeadAt_any s i (w.alloc (.cells zV 94)) hi hs)
 rw [hr] at HH
 have HV := Lib.hid (VRef.start w)
 obtain ⟨j, hj, hrj, hjs, hjr, _, hnn⟩ := rdH_place hr hi
 have HJ := Lib.hid hj
 have HRJ := Lib.hid hrj
 obtain ⟨m, hm⟩ : ∃ m, m = r.length := ⟨_, rfl⟩
 rw [← hm] at hjr
 have hmI : (s.size : Int) - (j : Int) = (m : Int) := by omega
 have hm64 : IntKind.u64.wrap (m : Int) = (m : Int) := by rw [wrap_u64]; omega
 have HM := Lib.hid hm
 have hzw : IntKind.i64.wrap (z + 1) = z + 1 := IntWalk.i64_in _ (by omega)
 obtain ⟨K0, hK0⟩ : ∃ K0, K0 = cellsV 3 0 none 0 0 0 none 0 0 := ⟨_, rfl⟩
 have HI0 := Lib.hid (hK0 ▸ cellsV_info 3 0 none 0 0 0 none 0 0)
 have HO0 := Lib.hid (hK0 ▸ cellsV_one 3 0 none 0 0 0 none 0 0)
 have HK0 := Lib.hid hK0
 clear hR hRR ih hr hrj hj hm hK0
 go_enter Tryz.func94, Tryz.ntmps94
 go_wp2_with fail
 refine HH.out.mono ?_
 rintro e w2 ⟨hb2, rfl⟩
 rw [HJ.out]
 have HV2 := Lib.hid (HV.out.go hb2)
 have HL0 := Lib.hid (LR.start HV2.out)
 have hnewA := Lib.hid (heap_alloc_new w2 (.cells #[.int .i64 0, .int .u64 0, .slice none 0 0, .float .f64 0, .slice none 0 0] 94))
 clear hb2 HV HH
 rw [← HK0.out] at HL0
 go_wp2_with (first | (refine wpList_store_row rfl _ _ _ rfl w2.heap.size K0 rfl (by rw [HK0.out]; rfl) 94 _ hnewA.out HI0.out (by rw [HK0.out]; rfl) HO0.out ?_) | fail)
 rw [World.setRow_alloc_new]
 clear hnewA HK0 HI0 HO0 HV2
 generalize w2.alloc (.cells K0 94) = w3 at *
 generalize w2.heap.size = gv at *
 clear K0 w2
 go_loopw [1, 17] (fun s1 s17 wr => ∃ (k k' j' : Nat) (L : Option Addr) (m c : Nat) (vs : List Val), s17 = .int .u64 (k : Int) ∧ s1 = .int .i64 (j' : Int) ∧ Hid (k + k' = nn) ∧ j' ≤ s.size ∧ Hid (conL vs (rdN (rd d) k' (s.data.toList.drop j')) = RR) ∧ Hid (m ≤ j') ∧ Hid (LR w wr gv L m c vs))
  (fun s1 s17 wr => nn - (intOf s17).toNat)
 case atStart => exact ⟨0, nn, j, none, 0, 0, [], rfl, rfl, Lib.hid (by omega), hjs, by rw [← HRJ.out]; exact HRR, Lib.hid (by omega), HL0⟩
 case round =>
  obtain ⟨k, k', j', L, m', c, vs, rfl, rfl, HKK, hj', HD, HMJ, HL⟩ := hrel
  have hk64 : k < 2 ^ 64 := by have := HKK.out; omega
  have hgv : wr.cell? ⟨gv, 4, none⟩ = some (.slice L m' c) := HL.out.gvb.cell 4
  have fgv := HL.out.gvb.frozen 4
  by_cases hk0 : k < nn
  ·obtain ⟨k1, hk1⟩ : ∃ k1, k' = k1 + 1 := ⟨k' - 1, by have := HKK.out; omega⟩
   subst hk1
   have hkI : (k : Int) < (nn : Int) := by omega
   have HCV := Lib.hid (HIH.out wr j' hj')
   clear hgv fgv
   go_wp2_with fail
   refine HCV.out.mono ?_
   rintro e w5 ⟨hb5, hp⟩
   have hnewB := Lib.hid (heap_alloc_new w5 (.cells #[.int .i64 0, .int .u64 0, .slice none 0 0, .float .f64 0, .slice none 0 0] 94))
   rcases hrd : rd d (s.data.toList.drop j') with zz | ⟨x, q⟩
   ·rw [hrd] at hp
    obtain ⟨jj, rfl⟩ := hp
    have hRE : R = .error zz := by rw [← HR.out, ← HD.out, conL_err vs hrd]; rfl
    have HRE := Lib.hid hRE
    have hzz := rd_err_ne d _ _ hrd
    have hzb : (zz != 0) = true := by simp [hzz]
    have HVE := Lib.hid ((HL.out.ref.go hb5).go ((Below.refl w5.heap.size w5).alloc (Nat.le_refl _) (.cells zV 94)))
    obtain ⟨KV, hKV⟩ : ∃ KV, KV = zV := ⟨_, rfl⟩
    have HI := Lib.hid (show (Tryz.prog.info? 94).map (·.size) = some KV.size by rw [hKV]; exact cellsV_info 0 0 none 0 0 0 none 0 0)
    have HO := Lib.hid (show KV.all (·.oneCell') = true by rw [hKV]; exact cellsV_one 0 0 none 0 0 0 none 0 0)
    have HKV := Lib.hid hKV
    rw [← hKV] at HVE ⊢
    clear hRE hzz hrd hKV hb5 HD HMJ HL HCV HIH HRR HR
    go_wp2_with (first
     | (refine wpList_store_row rfl _ _ _ rfl w5.heap.size KV rfl rfl 94 _ hnewB.out HI.out (by rw [HKV.out]; rfl) HO.out ?_; rw [World.setRow_alloc_new])
     | (refine wpList_store_row rfl _ _ _ rfl w.heap.size KV rfl (by rw [HKV.out]; rfl) 94 _ HVE.out.blk HI.out (by rw [HKV.out]) HO.out ?_) | fail)
    refine bodyPost_ret (results_row_tmp2 rfl _ _ w.heap.size 94 KV (.int .i64 (j' : Int)) (.int .i64 zz) rfl rfl rfl (setRow_heap _ w.heap.size _ _ _ _ HVE.out.blk) HI.out) rfl ?_
    rw [HRE.out]
    exact ⟨HVE.out.set KV, (j' : Int), by rw [HKV.out]⟩
   ·rw [hrd] at hp
    obtain ⟨cs, rfl, hxr⟩ := hp
    have hxr' : valR.R w5 (fun b => b < wr.heap.size) cs x := hxr
    obtain ⟨kx, ux, bx, fx, lx⟩ := x
    obtain ⟨Bx, cBx, Lx, cLx, hcs, _⟩ := valR_iff.1 hxr
    subst hcs
    have hql := rd_lt hrd
    obtain ⟨j2, hj2⟩ : ∃ j2, j2 = s.size - q.length := ⟨_, rfl⟩
    have hqj : q = s.data.toList.drop j2 := by
     obtain ⟨e, he, _, _, _⟩ := rd_back d _ _ _ hrd
     have hl := congrArg List.length he
     simp at hl
     have h2 := congrArg (List.drop e.length) he
     rw [List.drop_drop, List.drop_left] at h2
     rw [← h2, hj2]
     congr 1
     have : q.length ≤ s.size := by simp at hql; omega
     omega
    have hj2s : j2 ≤ s.size := by omega
    have hjj2 : j' < j2 := by simp at hql; omega
    rw [← hj2]
    have HDN := Lib.hid (show conL (vs ++ [.mk kx ux bx fx lx]) (rdN (rd d) k1 (s.data.toList.drop j2)) = RR by rw [← hqj, ← conL_step vs hrd]; exact HD.out)
    have HMN := Lib.hid (show m' + 1 ≤ j2 by have := HMJ.out; omega)
    have HKN := Lib.hid (show k + 1 + k1 = nn by have := HKK.out; omega)
    obtain ⟨KX, hKX⟩ : ∃ KX : Array Value, KX = #[.int .i64 kx, .int .u64 (ux : Int), .slice Bx bx.length cBx, .float .f64 fx, .slice Lx lx.length cLx] := ⟨_, rfl⟩
    have HIX := Lib.hid (show (Tryz.prog.info? 94).map (·.size) = some KX.size by rw [hKX]; exact val_info)
    have HOX := Lib.hid (show KX.all (·.oneCell') = true by rw [hKX]; simp [Value.oneCell'])
    have HSX := Lib.hid (show (#[.int .i64 0, .int .u64 0, .slice none 0 0, .float .f64 0, .slice none 0 0] : Array Value).size = KX.size by rw [hKX]; rfl)
    have HKX := Lib.hid hKX
    change valR.R w5 (fun b => b < wr.heap.size) [.int .i64 kx, .int .u64 (ux : Int), .slice Bx bx.length cBx, .float .f64 fx, .slice Lx lx.length cLx] (.mk kx ux bx fx lx) at hxr'
    have hcs2 : ([Value.int .i64 kx, .int .u64 (ux : Int), .slice Bx bx.length cBx, .float .f64 fx, .slice Lx lx.length cLx] : List Value).toArray = KX := by rw [hKX]
    rw [hcs2]
    have hbx : Below w5.heap.size w5 (w5.alloc (.cells KX 94)) := (Below.refl _ _).alloc (Nat.le_refl _) _
    have hg6 := hb5.trans (hbx.mono hb5.size)
    have HX6 := Lib.hid (Blk.new w5 94 KX)
    have hx6 := valR.stable hxr' (Moves.of_below hbx)
    have HZW : IntKind.u64.wrap ((k : Int) + 1) = ((k + 1 : Nat) : Int) := by have := HKK.out; rw [wrap_u64]; omega
    clear hKX hql hrd hj2 hqj hxr hxr' HD HMJ HCV hcs2
    go_upto_region 32 with (first
     | (refine wpList_store_row rfl _ _ _ rfl w5.heap.size KX rfl rfl 94 _ hnewB.out HIX.out HSX.out HOX.out ?_; rw [World.setRow_alloc_new])
     | fail)
    have hkx := HKX.out
    clear HIX HOX HSX HKX hnewB hbx hb5
    generalize w5.heap.size = gx at *
    generalize w5.alloc (.cells KX 94) = w6 at *
    subst hkx
    have hB6 := HL.out.gvb.below hg6 HL.out.gvb.lt
    have hc6 : w6.cell? ⟨gv, 4, none⟩ = some (.slice L m' c) := hB6.cell 4
    have hrow := HL.out.row.choose_spec
    have hm1 : m' + 1 ≤ 1048576 := by have := HMN.out; omega
    have hown6 := (hrow.1.kept (grown_below hg6 none) (by
     cases hv : (Value.slice L m' c).ownBlock with
     | none => exact .inl rfl
     | some kk => right; intro e; cases e)).alloc (.cells #[.int .i64 kx, .int .u64 (ux : Int), .slice Bx bx.length cBx, .float .f64 fx, .slice Lx lx.length cLx] 94)
    obtain ⟨A7, c7, w7, run7, ap7, hc7, hm7⟩ := append_sl elemVal hown6 (Sl.fresh w6 #[.int .i64 kx, .int .u64 (ux : Int), .slice Bx bx.length cBx, .float .f64 fx, .slice Lx lx.length cLx] 94 (0, 0) 1 5 rfl) (by intro u hu; exact valR.one hx6 u (by simpa using hu)) (by omega) (by simp only [maxLen]; omega) (by have := hB6.lt; simp; omega) 92 1
    have HLN := Lib.hid (HL.out.more hg6 hx6 ap7)
    have hB7 := (hB6.alloc (.cells #[.int .i64 kx, .int .u64 (ux : Int), .slice Bx bx.length cBx, .float .f64 fx, .slice Lx lx.length cLx] 94)).grown ap7.grown (fun e => by have := (hrow.1.lt gv e.symm).1; omega)
    have hcC : w7.cell? ⟨gv, 4, none⟩ = some (.slice L m' c) := hB7.cell 4
    have hfC := hB7.frozen 4
    have HVI := Lib.hid (show (Tryz.prog.info? 94).map (·.size) = some (#[.int .i64 kx, .int .u64 (ux : Int), .slice Bx bx.length cBx, .float .f64 fx, .slice Lx lx.length cLx] : Array Value).size from val_info)
    clear hB6 hrow hown6 ap7 hB7 hx6 hg6 HL
    go_wp2_with (first
     | (refine wpList_load_row rfl 94 (.tmp 18) rfl gx rfl 94 _ (0, 0) _ HX6.out Tryz.underlying94 rfl HVI.out ?_)
     | (at_builtin; refine wpList_run_append run7 ?_ ?_ ?_; exact rfl; exact rfl) | fail)
    go_roundw
    case rel => exact ⟨k + 1, k1, j2, A7, m' + 1, c7, _, by go_num, rfl, HKN, hj2s, HDN, HMN, HLN⟩
    case measure => simp [intOf]; omega
  ·have hkI : ¬ (k : Int) < (nn : Int) := by omega
   obtain rfl : k' = 0 := by have := HKK.out; omega
   have hRR : RR = .ok (vs, s.data.toList.drop j') := by rw [← HD.out]; simp [conL, rdN]
   have HRE := Lib.hid (show R = .ok (.mk 3 0 [] 0 vs, s.data.toList.drop j') by rw [← HR.out, hRR]; try rfl)
   obtain ⟨KV, hKV⟩ : ∃ KV, KV = cellsV 3 0 none 0 0 0 L m' c := ⟨_, rfl⟩
   have HI := Lib.hid (hKV ▸ cellsV_info 3 0 none 0 0 0 L m' c)
   have HO := Lib.hid (hKV ▸ cellsV_one 3 0 none 0 0 0 L m' c)
   have HG := Lib.hid (hKV ▸ HL.out.gvb)
   have HRB := Lib.hid HL.out.ref
   have HVR := Lib.hid (show valR.R (wr.setRow w.heap.size KV) (fun b => b < w.heap.size) KV.toList (.mk 3 0 [] 0 vs) by rw [hKV]; exact HL.out.val _)
   have HSZ := Lib.hid (show zV.size = KV.size by rw [hKV]; rfl)
   clear hRR hKV hgv fgv HD HMJ
   go_wp2_with (first
    | (refine wpList_load_row rfl 94 (.tmp 16) rfl gv rfl 94 KV (0, 0) _ HG.out Tryz.underlying94 rfl HI.out ?_)
    | (refine wpList_store_row rfl _ _ _ rfl w.heap.size KV rfl rfl 94 _ HRB.out.blk HI.out HSZ.out HO.out ?_))
   refine bodyPost_ret (results_row_tmp2 rfl _ _ w.heap.size 94 KV (.int .i64 (j' : Int)) (.int .i64 0) rfl rfl rfl (setRow_heap _ w.heap.size _ _ _ _ HRB.out.blk) HI.out) rfl ?_
   rw [HRE.out]
   have hjj : s.size - (s.data.toList.drop j').length = j' := by simp; omega
   exact ⟨HRB.out.set KV, KV.toList, by rw [hjj], HVR.out⟩
theorem refVal_any (s : ByteArray) (hs : s.size ≤ 1048576) : ∀ (d : Nat) (w : World) (i : Nat), d ≤ 16 → i ≤ s.size →
  Calls Tryz.prog 94 #[.string s, .int .i64 (i : Int), .int .i64 ((17 : Int) - (d : Int))] w (ValAt w s (rd d (s.data.toList.drop i))) := by
 intro d
 induction d with
 | zero => intro w i _ _; exact refVal_deep
 | succ d ih =>
  intro w i hd hi
  have hz : ¬ (16 : Int) < (17 : Int) - ((d + 1 : Nat) : Int) := by omega
  unfold rd
  cases hr : rdH (s.data.toList.drop i) with
  | error zz =>
   refine refVal_head hz hi hs hr ?_
   have : rd (d + 1) (s.data.toList.drop i) = .error zz := by unfold rd; rw [hr]
   exact rd_err_ne _ _ _ this
  | ok p =>
   obtain ⟨k, nn, r⟩ := p
   obtain ⟨j, _, _, _, _, hk4, _⟩ := rdH_place hr hi
   simp only []
   by_cases h0 : k = 0
   ·subst h0; exact refVal_num hz hi hs hr
   rw [if_neg h0]
   by_cases h1 : k = 1
   ·subst h1; exact refVal_bytes hz hi hs hr
   rw [if_neg h1]
   by_cases h2 : k = 2
   ·subst h2; exact refVal_flt hz hi hs hr
   rw [if_neg h2]
   obtain rfl : k = 3 := by omega
   have := refVal_list (w := w) (d := d) hz (by omega) hi hs hr (fun w j hj => by
    have h2 := ih w j (by omega) hj
    rwa [show (17 : Int) - ((d + 1 : Nat) : Int) + 1 = (17 : Int) - (d : Int) from by omega])
   cases hq : rdN (rd d) nn r with
   | error e => rw [hq] at this; exact this
   | ok p => rw [hq] at this; exact this
def RefDec (w : World) (r : Res Val) (e : Ending) (w' : World) : Prop :=
 Below w.heap.size w w' ∧ match r with
  | .ok v => ∃ cs : List Value, e = .returned (.tuple #[.agg cs.toArray, .int .i64 0]) ∧ valR.R w' (fun b => b < w.heap.size) cs v
  | .error z => e = .returned (.tuple #[.agg zV, .int .i64 z])
theorem results_row_tmpV {fn : Func} {p u : Tmp} (h : fn.results = #[.cell p 94, .tmp u]) (tmps : Array Value) (w : World) (g : Nat) (t : TypeId) (cs : Array Value) (x : Value)
  (hp : tmps.getD p undef = .pointer (some ⟨g, 0, none⟩)) (hx : tmps.getD u undef = x) (hg : w.heap[g]? = some (.cells cs t (0, 0))) (hi : (Tryz.prog.info? 94).map (·.size) = some cs.size) :
  (results fn tmps).run Tryz.prog w = .ok (.tuple #[.agg cs, x]) w := by
 have hp' : tmps[p]?.getD undef = .pointer (some ⟨g, 0, none⟩) := by simpa using hp
 have hl := run_loadVar_row w g t 94 cs (0, 0) _ hg Tryz.underlying94 rfl hi
 subst hx
 simp [results, h, hp', asAddr, hl, Result.andThen]
end Go.Proofs.YtgmbkcjihgphmaaGreat
/- towlineref02.Decode. -/
namespace Go.Proofs.YtgmbkcjihgphmaaGreat
open Go.RowKit
/-- how decoding ends -/
def endD : Res (Val × List UInt8) → Res Val
 | .error e => .error e
 | .ok (v, []) => .ok v
 | .ok (_, _ :: _) => .error 23
theorem dec_endD {l : List UInt8} (h : l.length ≤ 1048576) : dec l = endD (rd 16 l) := by
 unfold dec
 rw [if_neg (by omega)]
 rcases rd 16 l with e | ⟨v, _ | ⟨x, q⟩⟩ <;> rfl
set_option maxRecDepth 100000 in
set_option maxHeartbeats 2000000 in
theorem refDecode_any (s : ByteArray) (w : World) : Calls Tryz.prog 69 #[.string s] w (RefDec w (dec s.data.toList)) := by
 obtain ⟨KZ, hKZ⟩ : ∃ KV, KV = zV := ⟨_, rfl⟩
 have HIZ := Lib.hid (show (Tryz.prog.info? 94).map (·.size) = some KZ.size by rw [hKZ]; exact cellsV_info 0 0 none 0 0 0 none 0 0)
 have HOZ := Lib.hid (show KZ.all (·.oneCell') = true by rw [hKZ]; exact cellsV_one 0 0 none 0 0 0 none 0 0)
 have HKZ := Lib.hid hKZ
 have HV : Hid (VRef w (w.alloc (.cells #[.int .i64 0, .int .u64 0, .slice none 0 0, .float .f64 0, .slice none 0 0] 94))) := Lib.hid (VRef.start w)
 by_cases hlong : 1048576 < s.size
 ·have hI : (1048576 : Int) < (s.size : Int) := by omega
  have HD := Lib.hid (show dec s.data.toList = .error 2 by unfold dec; rw [if_pos (by simpa using hlong)])
  clear hKZ
  go_enter Tryz.func69, Tryz.ntmps69
  go_upto_region 1 with fail
  generalize w.alloc (.cells #[.int .i64 0, .int .u64 0, .slice none 0 0, .float .f64 0, .slice none 0 0] 94) = w1 at *
  go_wp2_with (first | (refine wpList_store_row rfl _ _ _ rfl w.heap.size KZ rfl (by rw [HKZ.out]; rfl) 94 _ HV.out.blk HIZ.out (by rw [HKZ.out]) HOZ.out ?_) | fail)
  refine bodyPost_ret (results_row_tmpV rfl _ _ w.heap.size 94 KZ (.int .i64 2) rfl rfl (setRow_heap _ w.heap.size _ _ _ _ HV.out.blk) HIZ.out) rfl ?_
  rw [HD.out]
  exact ⟨HV.out.set KZ, by rw [HKZ.out]⟩
 ·have hs : s.size ≤ 1048576 := by omega
  have hI : ¬ (1048576 : Int) < (s.size : Int) := by omega
  obtain ⟨R, hR⟩ : ∃ R, R = rd 16 s.data.toList := ⟨_, rfl⟩
  have HR := Lib.hid hR
  have HC : Hid (∀ w, Calls Tryz.prog 94 #[.string s, .int .i64 0, .int .i64 1] w (ValAt w s R)) := Lib.hid (fun w => by
   have := refVal_any s hs 16 w 0 (by omega) (by omega)
   rw [List.drop_zero, ← hR] at this
   exact this)
  obtain ⟨RD, hRD⟩ : ∃ RD, RD = dec s.data.toList := ⟨_, rfl⟩
  have HRD := Lib.hid (show RD = endD R by rw [hRD, hR]; exact dec_endD (by simpa using hs))
  rw [← hRD]
  clear hRD hKZ
  have hle : ∀ v q, R = .ok (v, q) → q.length ≤ s.size := by
   intro v q h
   rw [hR] at h
   obtain ⟨e, he, _⟩ := rd_back 16 _ _ _ h
   have := congrArg List.length he
   simp at this
   omega
  clear hR
  go_enter Tryz.func69, Tryz.ntmps69
  go_upto_region 3 with fail
  generalize w.alloc (.cells #[.int .i64 0, .int .u64 0, .slice none 0 0, .float .f64 0, .slice none 0 0] 94) = w1 at *
  go_wp2_with fail
  refine (HC.out w1).mono ?_
  rintro e w2 ⟨hb2, hp⟩
  have HV2 := Lib.hid (HV.out.go hb2)
  have HN2 := Lib.hid (heap_alloc_new w2 (.cells #[.int .i64 0, .int .u64 0, .slice none 0 0, .float .f64 0, .slice none 0 0] 94))
  have HW1 := Lib.hid HV.out.blk.lt
  clear hb2 HV HC
  cases hr : R with
  | error z =>
   rw [hr] at hp HRD HR
   obtain ⟨jj, rfl⟩ := hp
   have hz := rd_err_ne 16 _ _ HR.out.symm
   have hz1 : (z == 0) = false := by simp [hz]
   have hz2 : (z != 0) = true := by simp [hz]
   have HE := Lib.hid (show RD = .error z from HRD.out)
   rw [← HKZ.out]
   have HV3 := Lib.hid (HV2.out.go ((Below.refl w2.heap.size w2).alloc (Nat.le_refl _) (.cells KZ 94)))
   clear hz HRD hle hr HR
   go_upto_region 4 with (first | (refine wpList_store_row rfl _ _ _ rfl w2.heap.size KZ rfl rfl 94 _ HN2.out HIZ.out (by rw [HKZ.out]; rfl) HOZ.out ?_) | fail)
   rw [World.setRow_alloc_new]
   generalize w2.alloc (.cells KZ 94) = w3 at *
   go_wp2_with (first | (refine wpList_store_row rfl _ _ _ rfl w.heap.size KZ rfl (by rw [HKZ.out]; rfl) 94 _ HV3.out.blk HIZ.out (by rw [HKZ.out]) HOZ.out ?_) | fail)
   refine bodyPost_ret (results_row_tmpV rfl _ _ w.heap.size 94 KZ (.int .i64 z) rfl rfl (setRow_heap _ w.heap.size _ _ _ _ HV3.out.blk) HIZ.out) rfl ?_
   rw [HE.out]
   exact ⟨HV3.out.set KZ, by rw [HKZ.out]⟩
  | ok p =>
   obtain ⟨v, q⟩ := p
   rw [hr] at hp HRD
   have hq := hle v q hr
   obtain ⟨cs, rfl, hv⟩ := hp
   have hk5 : cs.length = 5 := valR.len hv
   have HO := Lib.hid (show cs.toArray.all (·.oneCell') = true by simpa using valR.one hv)
   have HI := Lib.hid (show (Tryz.prog.info? 94).map (·.size) = some cs.toArray.size by rw [show cs.toArray.size = 5 from by simpa using hk5]; exact val_info)
   have HS5 := Lib.hid (show 5 = cs.toArray.size by simpa using hk5.symm)
   obtain ⟨KV, hKV⟩ : ∃ KV, KV = cs.toArray := ⟨_, rfl⟩
   rw [← hKV] at HO HI HS5 ⊢
   have HKV := Lib.hid hKV
   have HV3 := Lib.hid (HV2.out.go ((Below.refl w2.heap.size w2).alloc (Nat.le_refl _) (.cells KV 94)))
   have HX3 := Lib.hid (Blk.new w2 94 KV)
   have hm3 : Below w2.heap.size w2 (w2.alloc (.cells KV 94)) := (Below.refl _ _).alloc (Nat.le_refl _) _
   have HRV := Lib.hid (valR.stable hv (Moves.of_below hm3))
   obtain ⟨j, hj⟩ : ∃ j, j = s.size - q.length := ⟨_, rfl⟩
   rw [← hj]
   clear hle hr HR hKV hv hk5 hm3
   go_upto_region 4 with (first | (refine wpList_store_row rfl _ _ _ rfl w2.heap.size KV rfl rfl 94 _ HN2.out HI.out HS5.out HO.out ?_) | fail)
   rw [World.setRow_alloc_new]
   generalize w2.alloc (.cells KV 94) = w3 at *
   generalize w2.heap.size = gx at *
   cases q with
   | nil =>
    have hjI : ¬ (j : Int) < (s.size : Int) := by simp at hj; omega
    have HE := Lib.hid (show RD = .ok v from HRD.out)
    clear HRD hj hq
    go_wp2_with (first
     | (refine wpList_load_row rfl 94 (.tmp 4) rfl gx rfl 94 KV (0, 0) _ HX3.out Tryz.underlying94 rfl HI.out ?_)
     | (refine wpList_store_row rfl _ _ _ rfl w.heap.size KV rfl rfl 94 _ HV3.out.blk HI.out HS5.out HO.out ?_) | fail)
    refine bodyPost_ret (results_row_tmpV rfl _ _ w.heap.size 94 KV (.int .i64 0) rfl rfl (setRow_heap _ w.heap.size _ _ _ _ HV3.out.blk) HI.out) rfl ?_
    rw [HE.out]
    refine ⟨HV3.out.set KV, cs, by rw [HKV.out], ?_⟩
    refine valR.stable HRV.out ((Moves.less w3 (av' := fun b => b = w.heap.size ∨ b < w.heap.size) (fun b _ e => ?_)).trans ((Moves.grown (grown_row w3 w.heap.size KV) (.inl rfl)).trans (Moves.less _ fun b _ e => .inr e)))
    have := HW1.out
    show b < w1.heap.size
    rcases e with e | e <;> omega
   | cons y q =>
    have hjI : (j : Int) < (s.size : Int) := by simp at hj hq; omega
    have HE := Lib.hid (show RD = .error 23 from HRD.out)
    clear HRD hj hq
    go_wp2_with (first
     | (refine wpList_store_row rfl _ _ _ rfl w.heap.size KZ rfl (by rw [HKZ.out]; rfl) 94 _ HV3.out.blk HIZ.out (by rw [HKZ.out]) HOZ.out ?_) | fail)
    refine bodyPost_ret (results_row_tmpV rfl _ _ w.heap.size 94 KZ (.int .i64 23) rfl rfl (setRow_heap _ w.heap.size _ _ _ _ HV3.out.blk) HIZ.out) rfl ?_
    rw [HE.out]
    exact ⟨HV3.out.set KZ, by rw [HKZ.out]⟩
end Go.Proofs.YtgmbkcjihgphmaaGreat
/- towlineref09's small functions: bytes, number, name, text, id. -/
set_option linter.unusedSimpArgs false
namespace Go.Proofs.YtgmbkcjihgphmaaGreat
open Go.RowKit
attribute [local go_sem ↓] cvt_eq
set_option maxRecDepth 100000 in
set_option maxHeartbeats 1000000 in
theorem refText_any (cs : List Value) (v : Val) (most : Nat) (w : World) (hv : valR.R w no cs v) (hm : most ≤ 1000000000) :
  Calls Tryz.prog 71 #[.agg cs.toArray, .int .i64 (most : Int)] w fun e w' => e = .returned (.int .i64 (okZ (textG v most))) ∧ Below w.heap.size w w' := by
 obtain ⟨KV, hKV, HK, -, -, -, -⟩ := keepNew w hv
 rw [← hKV]
 clear hKV hv
 obtain ⟨k, u, b, f, l⟩ := v
 obtain ⟨A, cA, L, cL, c0, c1, c2, c3, c4, hs, hb1, hb2, _⟩ := HK.out.cells
 have HB := Lib.hid ((Below.refl w.heap.size w).alloc (Nat.le_refl _) (.cells KV 94))
 obtain ⟨n, hn⟩ : ∃ n, n = b.length := ⟨_, rfl⟩
 rw [← hn] at c2 hs hb1
 simp only [maxLen] at hb2
 obtain ⟨R, hR⟩ : ∃ R, R = textG (.mk k u b f l) most := ⟨_, rfl⟩
 have HR := Lib.hid (show R = if k ≠ 1 then .error 91 else if most < n then .error 2 else .ok b by rw [hR, hn]; rfl)
 rw [← hR]
 clear hs hn hR HK
 go_enter Tryz.func71, Tryz.ntmps71
 go_upto_region 1 with fail
 generalize w.alloc (.cells KV 94) = w1 at *
 by_cases hk : k = 1
 ·have e1 : (k != 1) = false := by simp [hk]
  by_cases hl : n ≤ most
  ·have hI : ¬ (most : Int) < (n : Int) := by omega
   have HRR := Lib.hid (show okZ R = 0 by rw [HR.out, if_neg (by simp [hk]), if_neg (by omega)]; rfl)
   clear hk
   go_wp2_with fail
   go_ret
   exact ⟨by rw [HRR.out]; rfl, HB.out⟩
  ·have hI : (most : Int) < (n : Int) := by omega
   have HRR := Lib.hid (show okZ R = 2 by rw [HR.out, if_neg (by simp [hk]), if_pos (by omega)]; rfl)
   clear hk
   go_wp2_with fail
   go_ret
   exact ⟨by rw [HRR.out]; rfl, HB.out⟩
 ·have e1 : (k != 1) = true := by simp [hk]
  have HRR := Lib.hid (show okZ R = 91 by rw [HR.out, if_pos (by simpa using hk)]; rfl)
  clear hk
  go_wp2_with fail
  go_ret
  exact ⟨by rw [HRR.out]; rfl, HB.out⟩
/-- the first k of l, the rest noughts -/
def padZ (l : List UInt8) (k : Nat) : List UInt8 := l.take k ++ List.replicate (32 - k) 0
theorem padZ_length {l : List UInt8} (h : l.length = 32) {k : Nat} (hk : k ≤ 32) : (padZ l k).length = 32 := by simp [padZ, h]; omega
theorem padZ_zero (l : List UInt8) : padZ l 0 = List.replicate 32 0 := by simp [padZ]
theorem padZ_all {l : List UInt8} (h : l.length = 32) : padZ l 32 = l := by simp [padZ, List.take_of_length_le (Nat.le_of_eq h)]
theorem padZ_succ {l : List UInt8} (h : l.length = 32) {k : Nat} {x : UInt8} (hk : k < 32) (hx : l[k]? = some x) : (padZ l k).set k x = padZ l (k + 1) := by
 unfold padZ
 have hl : (l.take k).length = k := by simp; omega
 rw [List.take_add_one, hx, show 32 - k = (32 - (k + 1)) + 1 by omega, List.replicate_succ, List.set_append_right _ _ (by omega), hl]
 simp
theorem bytesV_set (l : List UInt8) (k : Nat) (x : UInt8) : (bytesV l).toArray.setIfInBounds k (.int .u8 (x.toNat : Int)) = (bytesV (l.set k x)).toArray := by
 simp [bytesV, List.map_set]
end Go.Proofs.YtgmbkcjihgphmaaGreat
/- towlineref09.seal, .open, .Kind. -/
namespace Go.Proofs.YtgmbkcjihgphmaaGreat
open Go.RowKit
theorem RefEnc.use {w w' : World} {E : Res (List UInt8)} {e : Ending} (h : RefEnc w E e w') : e = .returned (.tuple #[.string (strL (okB E)), .int .i64 (okZ E)]) ∧ Below w.heap.size w w' := by
 obtain ⟨hb, h⟩ := h
 cases E with
 | error z => exact ⟨h, hb⟩
 | ok o => exact ⟨h, hb⟩
def RLst (w : World) (r : Res (List Val)) (e : Ending) (w' : World) : Prop :=
 Below w.heap.size w w' ∧ match r with
  | .ok l => ∃ L c, e = .returned (.tuple #[.slice L l.length c, .int .i64 0]) ∧ l.length ≤ c ∧ c ≤ maxLen ∧ SlOf valR w' (fun b => b < w.heap.size) L l
  | .error z => e = .returned (.tuple #[.slice none 0 0, .int .i64 z])
set_option maxRecDepth 100000 in
set_option maxHeartbeats 4000000 in
theorem refOpen_any (s : ByteArray) (kind count : Nat) (w : World) (hk : kind ≤ 4) (hct : 1 ≤ count) (hct5 : count ≤ 5) :
  Calls Tryz.prog 70 #[.string s, .int .i64 (kind : Int), .int .i64 (count : Int)] w (RLst w (openG (sB s) kind count)) := by
 have HD := Lib.hid (refDecode_any s w)
 obtain ⟨R, hR⟩ : ∃ R, R = openG (sB s) kind count := ⟨_, rfl⟩
 obtain ⟨D, hD⟩ : ∃ D, D = dec s.data.toList := ⟨_, rfl⟩
 have HR := Lib.hid (show R = bindR D (fun v => openV v kind count) by rw [hR, hD]; rfl)
 have HDL := Lib.hid hD
 rw [← hD] at HD
 rw [← hR]
 have hkw : IntKind.u64.wrap (kind : Int) = (kind : Int) := by rw [wrap_u64]; omega
 have hc1w : IntKind.i64.wrap ((count : Int) + 1) = (count : Int) + 1 := IntWalk.i64_in _ (by omega)
 clear hR hD
 go_enter Tryz.func70, Tryz.ntmps70
 go_wp2_with fail
 refine HD.out.mono ?_
 rintro e w2 ⟨hb2, hp⟩
 obtain ⟨cs, rfl, hv⟩ : ∃ cs : List Value, e = .returned (.tuple #[.agg cs.toArray, .int .i64 (okZ D)]) ∧ valR.R w2 (fun b => b < w.heap.size) cs (okV D) := by
  cases D with
  | error z => exact ⟨zV.toList, hp, valR_flat w2 _ (k := 0) 0 0 (by decide) (by decide) (by decide)⟩
  | ok v => exact hp
 obtain ⟨KV, hKV, HK, HKV, HI, HO, HS5, HN⟩ := keepNewA w2 hv
 rw [← hKV]
 have HB := Lib.hid (hb2.trans (((Below.refl w2.heap.size w2).alloc (Nat.le_refl _) (.cells KV 94)).mono hb2.size))
 clear hKV hv hb2 hp HD
 go_upto_region 2 with (first | (refine wpList_store_row rfl _ _ _ rfl w2.heap.size KV rfl rfl 94 _ HN.out HI.out HS5.out HO.out ?_) | fail)
 rw [World.setRow_alloc_new]
 clear HN HS5 HO
 generalize w2.alloc (.cells KV 94) = w3 at *
 generalize w2.heap.size = gv at *
 cases D with
 | error z =>
  have hz := dec_err_ne HDL.out.symm
  have hzb : (z != 0) = true := by simp [hz]
  have HRR := Lib.hid (show R = .error z from HR.out)
  have hz2 : okZ (.error z : Res Val) = z := rfl
  rw [hz2]
  clear hz hz2 HDL HR
  go_wp2_with fail
  go_ret2
  exact ⟨HB.out, by rw [HRR.out]; rfl⟩
 | ok v =>
  have hz2 : okZ (.ok v : Res Val) = 0 := rfl
  rw [hz2]
  have HKV2 : Hid (valR.R w3 (fun b => b < w.heap.size) KV.toList v) := HKV
  clear HKV
  have HRR := Lib.hid (show R = openV v kind count from HR.out)
  clear hz2 HR HDL
  obtain ⟨k, u, b, f, l'⟩ := v
  obtain ⟨A', cA, L, cL, c0, c1, c2, c3, c4, _, _, _, hsl, hl1, hl2⟩ := blk_cells HK.out HKV2.out
  have HR := HRR
  have HSL := Lib.hid hsl
  have HL2 := Lib.hid hl2
  simp only [maxLen] at hl2
  obtain ⟨m, hm⟩ : ∃ m, m = l'.length := ⟨_, rfl⟩
  have HM := Lib.hid hm
  rw [← hm] at c4 hl1
  clear HRR hsl hm
  by_cases hk3 : k = 3
  ·have e1 : (k != 3) = false := by simp [hk3]
   by_cases hmc : m = count + 1
   ·have e2 : ((m : Int) != (count : Int) + 1) = false := by simp; omega
    cases l' with
    | nil => exfalso; have := HM.out; simp at this; omega
    | cons h t =>
     obtain ⟨bL, oL, rfl, hbL, d0, d1⟩ := head_cells HSL.out
     have hlt := HM.out
     have HR2 := Lib.hid (show R = if h.kind ≠ 0 then .error 91 else if h.num ≠ kind then .error 90 else .ok t by rw [HR.out]; unfold openV; rw [if_neg (by simp [Val.kind, Val.list, hk3]; simp at hlt; omega)]; rfl)
     have HT := Lib.hid (show t.length = count by simp at hlt; omega)
     have hm0 : (0 : Int) < (m : Int) := by omega
     have hm1 : (1 : Int) ≤ (m : Int) := by omega
     have hcc : (m : Int) ≤ (cL : Int) := by omega
     have hc1 : ¬ cL = 1 := by omega
     have hm0' : 0 < m := by omega
     have HMC := Lib.hid hmc
     clear hk3 hmc hlt HR
     by_cases h0 : h.kind = 0
     ·have e3 : (h.kind != 0) = false := by simp [h0]
      by_cases hn : h.num = kind
      ·have e4 : ((h.num : Int) != (kind : Int)) = false := by simp [hn]
       have HRR := Lib.hid (show R = .ok t by rw [HR2.out, if_neg (by simp [h0]), if_neg (by simp [hn])])
       clear h0 hn HR2
       go_wp2_with fail
       go_ret2
       refine ⟨HB.out, ?_⟩
       rw [HRR.out]
       have hfr := HSL.out.from (k := 1) (c := cL) HM.out.symm (by have := HMC.out; omega) (by omega)
       rw [if_neg hc1] at hfr
       refine ⟨some ⟨bL, oL + 5, none⟩, cL - 1, ?_, by rw [HT.out]; have := HMC.out; omega, by have := HL2.out; omega, hfr⟩
       have hmm : m - 1 = t.length := by rw [HT.out]; have := HMC.out; omega
       rw [← hmm]; rfl
      ·have e4 : ((h.num : Int) != (kind : Int)) = true := by simp; omega
       have HRR := Lib.hid (show R = .error 90 by rw [HR2.out, if_neg (by simp [h0]), if_pos hn])
       clear h0 hn HR2
       go_wp2_with fail
       go_ret2
       exact ⟨HB.out, by rw [HRR.out]; rfl⟩
     ·have e3 : (h.kind != 0) = true := by simp [h0]
      have HRR := Lib.hid (show R = .error 91 by rw [HR2.out, if_pos h0])
      clear h0 HR2
      go_wp2_with fail
      go_ret2
      exact ⟨HB.out, by rw [HRR.out]; rfl⟩
   ·have e2 : ((m : Int) != (count : Int) + 1) = true := by simp; omega
    have HRR := Lib.hid (show R = .error 91 by rw [HR.out]; unfold openV; rw [if_pos (.inr (by show l'.length ≠ _; rw [← HM.out]; exact hmc))])
    clear hk3 hmc
    go_wp2_with fail
    go_ret2
    exact ⟨HB.out, by rw [HRR.out]; rfl⟩
  ·have e1 : (k != 3) = true := by simp [hk3]
   have HRR := Lib.hid (show R = .error 91 by rw [HR.out]; unfold openV; rw [if_pos (.inl hk3)])
   clear hk3
   go_wp2_with fail
   go_ret2
   exact ⟨HB.out, by rw [HRR.out]; rfl⟩
end Go.Proofs.YtgmbkcjihgphmaaGreat
