/- towlineref02.value: a number with a point. -/
import Derived.Test.YthpcanibahcghaaGrainRefValue
set_option linter.unusedVariables false
namespace Go.Proofs.Ythpcanibahcghaa
open Go.RowKit

set_option maxRecDepth 100000 in
set_option maxHeartbeats 2000000 in
theorem refVal_flt {w : World} {s : ByteArray} {i : Nat} {z : Int} {nn : Nat} {r : List UInt8} (hz : ¬ (16 : Int) < z) (hi : i ≤ s.size) (hs : s.size ≤ 1048576) (hr : rdH (s.data.toList.drop i) = .ok (2, nn, r)) :
    Calls Try.prog 26 #[.string s, .int .i64 (i : Int), .int .i64 z] w (ValAt w s (if r.length < 8 then .error 20 else
        if nn ≠ 0 ∨ canonB (ofBe (r.take 8)) ≠ ofBe (r.take 8) then .error 22 else .ok (.mk 2 0 [] (ofBe (r.take 8)) [], r.drop 8))) := by
  generalize hR : (if r.length < 8 then Except.error 20 else if nn ≠ 0 ∨ canonB (ofBe (r.take 8)) ≠ ofBe (r.take 8) then Except.error 22 else Except.ok (Val.mk 2 0 [] (ofBe (r.take 8)) [], r.drop 8) : Res (Val × List UInt8)) = R
  have HR := Lib.hid hR
  have HH := Lib.hid (refHeadAt_any s i (w.alloc (.cells zV 27)) hi hs)
  rw [hr] at HH
  have HV := Lib.hid (VRef.start w)
  obtain ⟨j, hj, hrj, hjs, hjr, _, hnn⟩ := rdH_place hr hi
  have HJ := Lib.hid hj
  have HRJ := Lib.hid hrj
  obtain ⟨m, hm⟩ : ∃ m, m = r.length := ⟨_, rfl⟩
  rw [← hm] at hjr
  have hmI : (s.size : Int) - (j : Int) = (m : Int) := by omega
  have hm64 : IntKind.u64.wrap (m : Int) = (m : Int) := by rw [wrap_u64]; omega
  have HM := Lib.hid hm
  obtain ⟨KV, hKV⟩ : ∃ KV, KV = zV := ⟨_, rfl⟩
  have HI := Lib.hid (show (Try.prog.info? 27).map (·.size) = some KV.size by rw [hKV]; exact cellsV_info 0 0 none 0 0 0 none 0 0)
  have HO := Lib.hid (show KV.all (·.oneCell') = true by rw [hKV]; exact cellsV_one 0 0 none 0 0 0 none 0 0)
  have HKV := Lib.hid hKV
  clear hr hrj hj hm hR hKV
  go_enter Try.func26, Try.ntmps26
  go_wp2_with fail
  refine HH.out.mono ?_
  rintro e w2 ⟨hb2, rfl⟩
  rw [HJ.out]
  have HV2 := Lib.hid (HV.out.go hb2)
  clear hb2 HV HH
  by_cases hlt : m < 8
  · have hltI : (m : Int) < 8 := by omega
    have HR1 := Lib.hid (show R = .error 20 by rw [← HR.out, if_pos (by rw [← HM.out]; exact hlt)])
    clear HR
    go_wp2_with (first | (refine wpList_store_row rfl _ _ _ rfl w.heap.size KV rfl (by rw [HKV.out]; rfl) 27 _ HV2.out.blk HI.out (by rw [HKV.out]) HO.out ?_) | fail)
    refine bodyPost_ret (results_row_tmp2 rfl _ _ w.heap.size 27 KV (.int .i64 (j : Int)) (.int .i64 20) rfl rfl rfl (setRow_heap _ w.heap.size _ _ _ _ HV2.out.blk) HI.out) rfl ?_
    rw [HR1.out]
    exact ⟨HV2.out.set KV, (j : Int), by rw [HKV.out]⟩
  · have hltI : ¬ (m : Int) < 8 := by omega
    have HR1 := Lib.hid (show R = if nn ≠ 0 ∨ canonB (ofBe (r.take 8)) ≠ ofBe (r.take 8) then .error 22 else .ok (.mk 2 0 [] (ofBe (r.take 8)) [], r.drop 8) by rw [← HR.out, if_neg (by rw [← HM.out]; exact hlt)])
    have hl8 : (r.take 8).length = 8 := by rw [List.length_take, ← HM.out]; omega
    obtain ⟨j8, hj8⟩ : ∃ j8, j8 = j + 8 := ⟨_, rfl⟩
    have h8I : (j : Int) + 8 = (j8 : Int) := by omega
    have hj8s : j8 ≤ 1048576 := by omega
    have HJ8 := Lib.hid (show s.size - (r.drop 8).length = j8 by rw [List.length_drop, ← HM.out]; omega)
    have hj8x : j + 8 ≤ s.size := by omega
    obtain ⟨T, hT⟩ : ∃ T, T = r.take 8 := ⟨_, rfl⟩
    rw [← hT] at HR1 hl8
    have HT := Lib.hid hT
    clear HR hT hj8
    go_wp2_with fail
    go_loopw [13, 14] (fun s13 s14 wr => ∃ p B : Nat, p ≤ 8 ∧ s14 = .int .i64 (p : Int) ∧ s13 = .int .u64 (B : Int) ∧ Hid (B = ofBe (T.take p)) ∧ wr = w2) (fun s13 s14 wr => 8 - (intOf s14).toNat)
    case atStart => exact ⟨0, 0, by omega, rfl, rfl, Lib.hid (by simp [ofBe]), rfl⟩
    case round =>
      obtain ⟨p, B, hp, rfl, rfl, HB, rfl⟩ := hrel
      by_cases hp8 : p < 8
      · have hpI : (p : Int) < 8 := by omega
        have hix0 : (0 : Int) ≤ (j : Int) + (p : Int) := by omega
        have hix1 : (j : Int) + (p : Int) < (s.size : Int) := by omega
        have hixn : ((j : Int) + (p : Int)).toNat = j + p := by omega
        have hjp : j + p < s.size := by omega
        have hat := list_at s (j + p) hjp
        obtain ⟨x, hxx⟩ : ∃ x, x = s[j + p]'hjp := ⟨_, rfl⟩
        rw [← hxx] at hat
        have hxx' := hxx.symm
        have hx : T[p]? = some x := by
          rw [HT.out, List.getElem?_take_of_lt hp8, HRJ.out, List.getElem?_drop]
          have := congrArg List.head? hat
          rw [List.head?_drop] at this
          simpa using this
        have hB56 : B < 2 ^ 56 := by
          have h1 := ofBe_lt (T.take p)
          rw [← HB.out, List.length_take, Nat.min_eq_left (by omega)] at h1
          exact Nat.lt_of_lt_of_le h1 (show (256 : Nat) ^ p ≤ 2 ^ 56 from by
            have := Nat.pow_le_pow_right (show 0 < 256 by omega) (show p ≤ 7 by omega)
            exact Nat.le_trans this (by decide))
        have hx256 := u8_lt x
        have hxw : IntKind.u64.wrap (x.toNat : Int) = (x.toNat : Int) := by rw [wrap_u64]; omega
        have hBw : IntKind.u64.wrap ((B : Int) * 256) = (B : Int) * 256 := by rw [wrap_u64]; omega
        obtain ⟨B2, hB2⟩ : ∃ B2, B2 = B * 256 + x.toNat := ⟨_, rfl⟩
        have hB2I : (B : Int) * 256 + (x.toNat : Int) = (B2 : Int) := by omega
        have hB264 : B2 < 2 ^ 64 := by omega
        have HB2 : Hid (B2 = ofBe (T.take (p + 1))) := Lib.hid (by
          rw [List.take_add_one, hx, Option.toList_some, ofBe_snoc, ← HB.out, hB2])
        clear hB2 hx HB hat hxx
        go_wp2_with fail
        go_roundw
        case rel => exact ⟨p + 1, B2, by omega, by go_num, rfl, HB2, by first | trivial | rfl⟩
        case measure => simp [intOf]; omega
      · obtain rfl : p = 8 := by omega
        have hB := HB.out
        rw [List.take_of_length_le (by omega)] at hB
        rw [← hB] at HR1
        have hB64 : B < 2 ^ 64 := by
          have h1 := ofBe_lt T
          rw [← hB, hl8] at h1
          exact Nat.lt_of_lt_of_le h1 (by decide)
        have hfr := ext_from
        have hbt := ext_bits
        clear hB HB
        by_cases hn0 : nn = 0
        · subst hn0
          have e0 : (((0 : Nat) : Int) != 0) = false := rfl
          obtain ⟨C, hC⟩ : ∃ C, C = canonB B := ⟨_, rfl⟩
          have HCA := Lib.hid (bits_any B wr)
          rw [← hC] at HCA HR1
          have HC := Lib.hid hC
          clear hC
          go_wp2_with fail
          refine HCA.out.mono ?_
          rintro e w5 ⟨rfl, hs5⟩
          have HV5 := Lib.hid (HV2.out.go (hs5.below _))
          clear hs5 HCA
          by_cases hCB : C = B
          · have hR := HR1.out
            rw [if_neg (by rw [hCB]; simp)] at hR
            have HR2 := Lib.hid hR
            have e1 : ((C : Int) != (B : Int)) = false := by rw [hCB]; simp
            obtain ⟨KW, hKW⟩ : ∃ KW, KW = cellsV 2 0 none 0 0 B none 0 0 := ⟨_, rfl⟩
            have HIW := Lib.hid (hKW ▸ cellsV_info 2 0 none 0 0 B none 0 0)
            have HOW := Lib.hid (hKW ▸ cellsV_one 2 0 none 0 0 B none 0 0)
            have HKW := Lib.hid hKW
            clear hR HR1 hCB HC hKW
            go_wp2_with (first | (refine wpList_store_row rfl _ _ _ rfl w.heap.size KW rfl (by rw [HKW.out]; rfl) 27 _ HV5.out.blk HIW.out (by rw [HKW.out]; rfl) HOW.out ?_) | fail)
            refine bodyPost_ret (results_row_tmp2 rfl _ _ w.heap.size 27 KW (.int .i64 (j8 : Int)) (.int .i64 0) rfl rfl rfl (setRow_heap _ w.heap.size _ _ _ _ HV5.out.blk) HIW.out) rfl ?_
            rw [HR2.out]
            refine ⟨HV5.out.set KW, KW.toList, by rw [HJ8.out], ?_⟩
            rw [HKW.out]
            exact valR_flat _ _ 0 B (by decide) (by omega) hB64
          · have hR := HR1.out
            rw [if_pos (.inr hCB)] at hR
            have HR2 := Lib.hid hR
            have e1 : ((C : Int) != (B : Int)) = true := by simp; omega
            clear hR HR1 hCB HC
            go_wp2_with (first | (refine wpList_store_row rfl _ _ _ rfl w.heap.size KV rfl (by rw [HKV.out]; rfl) 27 _ HV5.out.blk HI.out (by rw [HKV.out]) HO.out ?_) | fail)
            refine bodyPost_ret (results_row_tmp2 rfl _ _ w.heap.size 27 KV (.int .i64 (j : Int)) (.int .i64 22) rfl rfl rfl (setRow_heap _ w.heap.size _ _ _ _ HV5.out.blk) HI.out) rfl ?_
            rw [HR2.out]
            exact ⟨HV5.out.set KV, (j : Int), by rw [HKV.out]⟩
        · have hR := HR1.out
          rw [if_pos (.inl hn0)] at hR
          have HR2 := Lib.hid hR
          have e1 : ((nn : Int) != 0) = true := by simp; omega
          clear hR HR1 hn0
          go_wp2_with (first | (refine wpList_store_row rfl _ _ _ rfl w.heap.size KV rfl (by rw [HKV.out]; rfl) 27 _ HV2.out.blk HI.out (by rw [HKV.out]) HO.out ?_) | fail)
          refine bodyPost_ret (results_row_tmp2 rfl _ _ w.heap.size 27 KV (.int .i64 (j : Int)) (.int .i64 22) rfl rfl rfl (setRow_heap _ w.heap.size _ _ _ _ HV2.out.blk) HI.out) rfl ?_
          rw [HR2.out]
          exact ⟨HV2.out.set KV, (j : Int), by rw [HKV.out]⟩
end Go.Proofs.Ythpcanibahcghaa
