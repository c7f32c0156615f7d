/- towlineref02.value: a value read at a place of a string. -/
import Derived.Test.YthpcanibahcghaaGrainRefHeadAt
import Derived.Test.YthpcanibahcghaaGrainDecode
set_option linter.unusedVariables false
namespace Go.Proofs.Ythpcanibahcghaa
open Go.RowKit

theorem results_row_tmp2 {fn : Func} {p u v : Tmp} (h : fn.results = #[.cell p 27, .tmp u, .tmp v]) (tmps : Array Value) (w : World) (g : Nat) (t : TypeId) (cs : Array Value) (x y : Value)
    (hp : tmps.getD p undef = .pointer (some ⟨g, 0, none⟩)) (hx : tmps.getD u undef = x) (hy : tmps.getD v undef = y) (hg : w.heap[g]? = some (.cells cs t (0, 0))) (hi : (Try.prog.info? 27).map (·.size) = some cs.size) :
    (results fn tmps).run Try.prog w = .ok (.tuple #[.agg cs, x, y]) w := by
  have hp' : tmps[p]?.getD undef = .pointer (some ⟨g, 0, none⟩) := by simpa using hp
  have hl := run_loadVar_row w g t 27 cs (0, 0) _ hg Try.underlying27 rfl hi
  subst hx hy
  simp [results, h, hp', asAddr, hl, Result.andThen]

def ValAt (w : World) (s : ByteArray) (r : Res (Val × List UInt8)) (e : Ending) (w' : World) : Prop :=
  Below w.heap.size w w' ∧ match r with
    | .ok (v, q) => ∃ cs : List Value, e = .returned (.tuple #[.agg cs.toArray, .int .i64 ((s.size - q.length : Nat) : Int), .int .i64 0]) ∧ valR.R w' (fun b => b < w.heap.size) cs v
    | .error z => ∃ j : Int, e = .returned (.tuple #[.agg zV, .int .i64 j, .int .i64 z])

/-- the variable for the result is there -/
structure VRef (w w2 : World) : Prop where
  below : Below w.heap.size w w2
  blk : Blk w2 w.heap.size 27 zV
theorem VRef.start (w : World) : VRef w (w.alloc (.cells zV 27)) := ⟨(Below.refl _ _).alloc (Nat.le_refl _) _, Blk.new _ _ _⟩
theorem VRef.go {w w2 w3 : World} (h : VRef w w2) (hb : Below w2.heap.size w2 w3) : VRef w w3 := ⟨h.below.trans (hb.mono h.below.size), h.blk.below hb h.blk.lt⟩
theorem VRef.set {w w2 : World} (h : VRef w w2) (KV : Array Value) : Below w.heap.size w (w2.setRow w.heap.size KV) := below_setRow h.below (Nat.le_refl _) KV

theorem rdH_place {s : ByteArray} {i k n : Nat} {r : List UInt8} (h : rdH (s.data.toList.drop i) = .ok (k, n, r)) (hi : i ≤ s.size) :
    ∃ j, s.size - r.length = j ∧ r = s.data.toList.drop j ∧ j ≤ s.size ∧ j + r.length = s.size ∧ k < 4 ∧ n < 2 ^ 64 := by
  obtain ⟨h1, h2, h3⟩ := rdH_back h
  have hl := congrArg List.length h1
  simp at hl
  refine ⟨i + (headL k n).length, by omega, ?_, by omega, by omega, h2, h3⟩
  have := congrArg (List.drop (headL k n).length) h1
  rw [List.drop_drop, List.drop_left] at this
  exact this.symm

set_option maxRecDepth 100000 in
set_option maxHeartbeats 1000000 in
theorem refVal_num {w : World} {s : ByteArray} {i : Nat} {z : Int} {nn : Nat} {r : List UInt8} (hz : ¬ (16 : Int) < z) (hi : i ≤ s.size) (hs : s.size ≤ 1048576) (hr : rdH (s.data.toList.drop i) = .ok (0, nn, r)) :
    Calls Try.prog 26 #[.string s, .int .i64 (i : Int), .int .i64 z] w (ValAt w s (.ok (.mk 0 nn [] 0 [], r))) := by
  have HH := Lib.hid (refHeadAt_any s i (w.alloc (.cells zV 27)) hi hs)
  rw [hr] at HH
  have HV := Lib.hid (VRef.start w)
  obtain ⟨j, hj, hrj, hjs, hjr, _, hnn⟩ := rdH_place hr hi
  have HJ := Lib.hid hj
  obtain ⟨KV, hKV⟩ : ∃ KV, KV = cellsV 0 nn none 0 0 0 none 0 0 := ⟨_, rfl⟩
  have HI := Lib.hid (hKV ▸ cellsV_info 0 nn none 0 0 0 none 0 0)
  have HO := Lib.hid (hKV ▸ cellsV_one 0 nn none 0 0 0 none 0 0)
  have HKV := Lib.hid hKV
  clear hr hrj hjr hKV hj
  go_enter Try.func26, Try.ntmps26
  go_wp2_with fail
  refine HH.out.mono ?_
  rintro e w2 ⟨hb2, rfl⟩
  rw [HJ.out]
  have HV2 := Lib.hid (HV.out.go hb2)
  clear hb2 HV HH
  go_wp2_with (first | (refine wpList_store_row rfl _ _ _ rfl w.heap.size KV rfl (by rw [HKV.out]; rfl) 27 _ HV2.out.blk HI.out (by rw [HKV.out]; rfl) HO.out ?_) | fail)
  refine bodyPost_ret (results_row_tmp2 rfl _ _ w.heap.size 27 KV (.int .i64 (j : Int)) (.int .i64 0) rfl rfl rfl (setRow_heap _ w.heap.size _ _ _ _ HV2.out.blk) HI.out) rfl ?_
  refine ⟨HV2.out.set KV, KV.toList, by rw [HJ.out], ?_⟩
  rw [HKV.out]
  exact valR_flat _ _ nn 0 (by decide) hnn (by omega)

/-- where the head is none -/
theorem refVal_head {w : World} {s : ByteArray} {i : Nat} {z zz : Int} (hz : ¬ (16 : Int) < z) (hi : i ≤ s.size) (hs : s.size ≤ 1048576) (hr : rdH (s.data.toList.drop i) = .error zz) (hzz : zz ≠ 0) :
    Calls Try.prog 26 #[.string s, .int .i64 (i : Int), .int .i64 z] w (ValAt w s (.error zz)) := by
  have HH := Lib.hid (refHeadAt_any s i (w.alloc (.cells zV 27)) hi hs)
  rw [hr] at HH
  have HV := Lib.hid (VRef.start w)
  obtain ⟨KV, hKV⟩ : ∃ KV, KV = zV := ⟨_, rfl⟩
  have HI := Lib.hid (show (Try.prog.info? 27).map (·.size) = some KV.size by rw [hKV]; exact cellsV_info 0 0 none 0 0 0 none 0 0)
  have HO := Lib.hid (show KV.all (·.oneCell') = true by rw [hKV]; exact cellsV_one 0 0 none 0 0 0 none 0 0)
  have HKV := Lib.hid hKV
  have hzb : (zz != 0) = true := by simp [hzz]
  clear hr hKV hzz
  go_enter Try.func26, Try.ntmps26
  go_wp2_with fail
  refine HH.out.mono ?_
  rintro e w2 ⟨hb2, rfl⟩
  have HV2 := Lib.hid (HV.out.go hb2)
  clear hb2 HV HH
  go_wp2_with (first | (refine wpList_store_row rfl _ _ _ rfl w.heap.size KV rfl (by rw [HKV.out]; rfl) 27 _ HV2.out.blk HI.out (by rw [HKV.out]) HO.out ?_) | fail)
  refine bodyPost_ret (results_row_tmp2 rfl _ _ w.heap.size 27 KV (.int .i64 (i : Int)) (.int .i64 zz) rfl rfl rfl (setRow_heap _ w.heap.size _ _ _ _ HV2.out.blk) HI.out) rfl ?_
  exact ⟨HV2.out.set KV, (i : Int), by rw [HKV.out]⟩
/-- too deep -/
theorem refVal_deep {w : World} {s : ByteArray} {i : Nat} : Calls Try.prog 26 #[.string s, .int .i64 (i : Int), .int .i64 17] w (ValAt w s (.error 24)) := by
  have HV := Lib.hid (VRef.start w)
  obtain ⟨KV, hKV⟩ : ∃ KV, KV = zV := ⟨_, rfl⟩
  have HI := Lib.hid (show (Try.prog.info? 27).map (·.size) = some KV.size by rw [hKV]; exact cellsV_info 0 0 none 0 0 0 none 0 0)
  have HO := Lib.hid (show KV.all (·.oneCell') = true by rw [hKV]; exact cellsV_one 0 0 none 0 0 0 none 0 0)
  have HKV := Lib.hid hKV
  clear hKV
  have HV : Hid (VRef w (w.alloc (.cells #[.int .i64 0, .int .u64 0, .slice none 0 0, .float .f64 0, .slice none 0 0] 27))) := HV
  go_enter Try.func26, Try.ntmps26
  go_upto_region 1 with fail
  generalize w.alloc (.cells #[.int .i64 0, .int .u64 0, .slice none 0 0, .float .f64 0, .slice none 0 0] 27) = w1 at *
  go_wp2_with (first | (refine wpList_store_row rfl _ _ _ rfl w.heap.size KV rfl (by rw [HKV.out]; rfl) 27 _ HV.out.blk HI.out (by rw [HKV.out]) HO.out ?_) | fail)
  refine bodyPost_ret (results_row_tmp2 rfl _ _ w.heap.size 27 KV (.int .i64 (i : Int)) (.int .i64 24) rfl rfl rfl (setRow_heap _ w.heap.size _ _ _ _ HV.out.blk) HI.out) rfl ?_
  exact ⟨HV.out.set KV, (i : Int), by rw [HKV.out]⟩

theorem extract_bytes (s : ByteArray) (j n : Nat) (h : j + n ≤ s.size) : (s.extract j (j + n)).data.toList = (s.data.toList.drop j).take n ∧ (s.extract j (j + n)).size = n := by
  constructor
  · rw [ByteArray.data_extract, Array.toList_extract]
    simp [List.extract]
  · rw [ByteArray.size_extract]; omega

set_option maxRecDepth 100000 in
set_option maxHeartbeats 1000000 in
theorem refVal_bytes {w : World} {s : ByteArray} {i : Nat} {z : Int} {nn : Nat} {r : List UInt8} (hz : ¬ (16 : Int) < z) (hi : i ≤ s.size) (hs : s.size ≤ 1048576) (hr : rdH (s.data.toList.drop i) = .ok (1, nn, r)) :
    Calls Try.prog 26 #[.string s, .int .i64 (i : Int), .int .i64 z] w (ValAt w s (if r.length < nn then .error 20 else .ok (.mk 1 0 (r.take nn) 0 [], r.drop nn))) := by
  have HH := Lib.hid (refHeadAt_any s i (w.alloc (.cells zV 27)) hi hs)
  rw [hr] at HH
  have HV := Lib.hid (VRef.start w)
  obtain ⟨j, hj, hrj, hjs, hjr, _, hnn⟩ := rdH_place hr hi
  have HJ := Lib.hid hj
  have HRJ := Lib.hid hrj
  obtain ⟨m, hm⟩ : ∃ m, m = r.length := ⟨_, rfl⟩
  rw [← hm] at hjr ⊢
  have hmI : (s.size : Int) - (j : Int) = (m : Int) := by omega
  have hm64 : IntKind.u64.wrap (m : Int) = (m : Int) := by rw [wrap_u64]; omega
  have HM := Lib.hid hm
  clear hr hrj hj hm
  by_cases hlt : m < nn
  · rw [if_pos hlt]
    have hltI : (m : Int) < (nn : Int) := by omega
    obtain ⟨KV, hKV⟩ : ∃ KV, KV = zV := ⟨_, rfl⟩
    have HI := Lib.hid (show (Try.prog.info? 27).map (·.size) = some KV.size by rw [hKV]; exact cellsV_info 0 0 none 0 0 0 none 0 0)
    have HO := Lib.hid (show KV.all (·.oneCell') = true by rw [hKV]; exact cellsV_one 0 0 none 0 0 0 none 0 0)
    have HKV := Lib.hid hKV
    clear hKV
    go_enter Try.func26, Try.ntmps26
    go_wp2_with fail
    refine HH.out.mono ?_
    rintro e w2 ⟨hb2, rfl⟩
    rw [HJ.out]
    have HV2 := Lib.hid (HV.out.go hb2)
    clear hb2 HV HH
    go_wp2_with (first | (refine wpList_store_row rfl _ _ _ rfl w.heap.size KV rfl (by rw [HKV.out]; rfl) 27 _ HV2.out.blk HI.out (by rw [HKV.out]) HO.out ?_) | fail)
    refine bodyPost_ret (results_row_tmp2 rfl _ _ w.heap.size 27 KV (.int .i64 (j : Int)) (.int .i64 20) rfl rfl rfl (setRow_heap _ w.heap.size _ _ _ _ HV2.out.blk) HI.out) rfl ?_
    exact ⟨HV2.out.set KV, (j : Int), by rw [HKV.out]⟩
  · rw [if_neg hlt]
    have hltI : ¬ (m : Int) < (nn : Int) := by omega
    obtain ⟨x1, x2⟩ := extract_bytes s j nn (by omega)
    obtain ⟨j2, hj2⟩ : ∃ j2, j2 = j + nn := ⟨_, rfl⟩
    rw [← hj2] at x1 x2
    have HX := Lib.hid x1
    have hnI : IntKind.i64.wrap (nn : Int) = (nn : Int) := IntWalk.i64_in _ (by omega)
    have hsumI : (j : Int) + (nn : Int) = (j2 : Int) := by omega
    have hj2s : j2 ≤ s.size := by omega
    have hjj2 : j ≤ j2 := by omega
    have HJ2 := Lib.hid (show s.size - (r.drop nn).length = j2 by rw [List.length_drop, ← HM.out]; omega)
    clear x1 hj2
    go_enter Try.func26, Try.ntmps26
    go_wp2_with fail
    refine HH.out.mono ?_
    rintro e w2 ⟨hb2, rfl⟩
    rw [HJ.out]
    have HV2 := Lib.hid (HV.out.go hb2)
    clear hb2 HV HH
    obtain ⟨A, c, w3, hrun, hsl, hc, hcm, hb3, b, rfl, hbw⟩ := toBytes w2 (s.extract j j2) (by simp only [maxLen]; omega)
    rw [x2] at hrun hsl hc
    have HV3 := Lib.hid (HV2.out.go hb3)
    have HSL := Lib.hid hsl
    have hwb := HV2.out.below.size
    have HC := Lib.hid (And.intro hc hcm)
    obtain ⟨KV, hKV⟩ : ∃ KV, KV = cellsV 1 0 (some ⟨b, 0, none⟩) nn c 0 none 0 0 := ⟨_, rfl⟩
    have HI := Lib.hid (show (Try.prog.info? 27).map (·.size) = some KV.size by rw [hKV]; exact cellsV_info _ _ _ _ _ _ _ _ _)
    have HO := Lib.hid (show KV.all (·.oneCell') = true by rw [hKV]; exact cellsV_one _ _ _ _ _ _ _ _ _)
    have HKV := Lib.hid hKV
    clear hKV hb3 hsl hc hcm
    go_wp2_with (first | (refine wpList_store_row rfl _ _ _ rfl w.heap.size KV rfl (by rw [HKV.out]; rfl) 27 _ HV3.out.blk HI.out (by rw [HKV.out]; rfl) HO.out ?_) | fail)
    refine bodyPost_ret (results_row_tmp2 rfl _ _ w.heap.size 27 KV (.int .i64 (j2 : Int)) (.int .i64 0) rfl rfl rfl (setRow_heap _ w.heap.size _ _ _ _ HV3.out.blk) HI.out) rfl ?_
    refine ⟨HV3.out.set KV, KV.toList, by rw [HJ2.out], ?_⟩
    have hsl' : Sl (w3.setRow w.heap.size KV) 1 (some ⟨b, 0, none⟩) nn (bytesV (r.take nn)) := by
      have h0 := HSL.out
      rw [HX.out, ← HRJ.out] at h0
      refine ⟨h0.1, fun hn => ?_⟩
      obtain ⟨b', off, he, hb', hc'⟩ := h0.2 hn
      have e := Option.some.inj he
      injection e with e1 e2
      subst e1 e2
      refine ⟨b, 0, rfl, by simpa using hb', fun k u hu => ?_⟩
      rw [cell_setRow_other w3 w.heap.size KV ⟨b, 0 + k, none⟩ (by have := HV2.out.blk.lt; show b ≠ w.heap.size; omega)]
      exact hc' k u hu
    have hln : (r.take nn).length = nn := by rw [List.length_take, ← HM.out]; omega
    rw [HKV.out] at hsl' ⊢
    refine valR_iff.2 ⟨some ⟨b, 0, none⟩, c, none, 0, by rw [hln]; rfl, by decide, by omega, by omega, ⟨by rw [hln]; exact HC.out.1, HC.out.2, bytesV (r.take nn), by rw [hln]; exact hsl', each_byte_mk _, fun _ b' off e => ?_⟩, Nat.le_refl _, Nat.zero_le _, SlOf.nil⟩
    have e := Option.some.inj e
    injection e with e1 e2
    have := HV2.out.blk.lt
    omega
end Go.Proofs.Ythpcanibahcghaa
