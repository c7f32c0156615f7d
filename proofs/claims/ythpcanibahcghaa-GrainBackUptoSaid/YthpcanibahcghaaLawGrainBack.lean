/- The walk of the law GrainBack: what is written is read again, and the other way round. -/
import Derived.Test.YthpcanibahcghaaGrainUse
import Derived.Deep.DeepCutAuto
import Derived.Deep.CutBlock
set_option linter.unusedVariables false
namespace Go.Proofs.Ythpcanibahcghaa
open Go.RowKit
attribute [local go_sem ↓] cvt_eq

theorem kind_cell {w : World} {g : Nat} {KV : Array Value} {v : Val} (h : Kept w g KV v) : w.cell? ⟨g, 0, none⟩ = some (.int .i64 v.kind) := by
  obtain ⟨k, u, b, f, l⟩ := v
  obtain ⟨A, cA, L, cL, he, _⟩ := valR_iff.1 h.val
  rw [h.blk.cell 0]
  have : KV[0]? = KV.toList[0]? := by simp
  rw [this, he]; rfl

set_option maxRecDepth 100000 in
set_option maxHeartbeats 4000000 in
theorem grainBack_any (cs : List Value) (v : Val) (A : Option Addr) (n c : Nat) (l : List UInt8) (W0 : World) (hv : valR.R W0 no cs v) (hbk : bulkV v ≤ 1048576) (hs : Sl W0 1 A n (bytesV l)) (hnc : n ≤ c) (hcm : c ≤ maxLen) (_ : n ≤ 1048576) :
    Calls Try.prog 5 #[.agg cs.toArray, .slice A n c] W0 fun e w' => e = .returned (.bool true) ∧ Below W0.heap.size W0 w' := by
  have HS := Lib.hid hs
  have HDEC := Lib.hid (fun w (h : Below W0.heap.size W0 w) => decode_any A n c l w (hs.below h) hnc hcm)
  obtain ⟨KV, hKV, HK0, HI, -, -, -⟩ := keepNew W0 hv
  rw [← hKV]
  have HBK := Lib.hid hbk
  have HB0 := Lib.hid ((Below.refl W0.heap.size W0).alloc (Nat.le_refl _) (.cells KV 27))
  have HNM := Lib.hid (fun h => dec_norm hv (o := okB (enc v)) (enc_zero h))
  have HBD := Lib.hid (okB_bad (v := v))
  clear hs hnc hcm hKV hbk hv
  go_enter Try.func5, Try.ntmps5
  go_wp2_with fail
  refine (awake_any _).mono ?_
  rintro e w1 ⟨rfl, hb1⟩
  have HK1 := Lib.hid (HK0.out.below hb1)
  have HB1 := Lib.hid (HB0.out.trans (hb1.mono HB0.out.size))
  clear hb1 HK0 HB0
  go_wp2_with (first | (refine wpList_load_row rfl 27 (.tmp 2) rfl W0.heap.size rfl 27 KV (0, 0) _ HK1.out.blk Try.underlying27 rfl HI.out ?_) | fail)
  refine (HK1.out.enc HBK.out).mono ?_
  intro e w2 hp
  obtain ⟨X, cx, rfl, hown, hb2⟩ := hp.use
  obtain ⟨E, hE⟩ : ∃ E, E = enc v := ⟨_, rfl⟩
  obtain ⟨o, ho⟩ : ∃ o, o = okB E := ⟨_, rfl⟩
  obtain ⟨z, hz⟩ : ∃ z, z = okZ E := ⟨_, rfl⟩
  rw [← hE] at HNM HBD hown ⊢
  rw [← ho] at HNM HBD hown ⊢
  rw [← hz] at HNM HBD ⊢
  obtain ⟨m, hm⟩ : ∃ m, m = o.length := ⟨_, rfl⟩
  rw [← hm] at hown ⊢
  have HM := Lib.hid hm
  have HK2 := Lib.hid (HK1.out.below hb2)
  have HB2 := Lib.hid (HB1.out.trans (hb2.mono HB1.out.size))
  have HX2 := Lib.hid (Sl.ofOwn hown)
  obtain ⟨hc1, hc2⟩ := own_cap hown
  have HCX := Lib.hid (And.intro hc1 hc2)
  clear hp hE ho hz hm hb2 hown hc1 hc2 HK1 HB1 E
  go_upto_if 23 with fail
  go_cut [] (fun wx => Below W0.heap.size W0 wx)
  case first =>
    by_cases hz : z = 0
    · subst hz
      obtain ⟨n1, n2, n3, n4⟩ := HNM.out rfl
      obtain ⟨N, hN⟩ : ∃ N, N = norm 16 v := ⟨_, rfl⟩
      rw [← hN] at n1 n2 n3 n4
      have HN1 := Lib.hid n1
      have HN2 := Lib.hid n2
      have HN3 := Lib.hid n3
      have HN4 := Lib.hid n4
      clear n1 n2 n3 n4 hN
      go_wp2_with fail
      refine (decode_any X m cx o w2 HX2.out HCX.out.1 HCX.out.2).mono ?_
      rw [HN1.out]
      rintro e w3 ⟨hb3, cs3, rfl, hv3⟩
      obtain ⟨KN, hKN, HKN, HIN, HON, HSN, HNN⟩ := keepNew w3 hv3
      rw [← hKN]
      have hb4 := hb3.trans (((Below.refl w3.heap.size w3).alloc (Nat.le_refl _) (.cells KN 27)).mono hb3.size)
      have HB4 := Lib.hid (HB2.out.trans (hb4.mono HB2.out.size))
      have HK4 := Lib.hid (HK2.out.below hb4)
      have HX4 := Lib.hid (HX2.out.below hb4)
      clear hKN hb3 hb4 hv3 HN1 HB2 HK2 HX2
      go_upto_region 6 with (first | (refine wpList_store_row rfl _ _ _ rfl w3.heap.size KN rfl rfl 27 _ HNN.out HIN.out HSN.out HON.out ?_) | fail)
      rw [World.setRow_alloc_new]
      clear HNN HSN HON
      generalize w3.alloc (.cells KN 27) = w4 at *
      generalize w3.heap.size = gn at *
      go_wp2_with (first | (refine wpList_load_row rfl 27 (.tmp 7) rfl gn rfl 27 KN (0, 0) _ HKN.out.blk Try.underlying27 rfl HIN.out ?_) | fail)
      refine (HKN.out.enc HN2.out).mono ?_
      rw [HN3.out]
      rintro e w5 ⟨hb5, Y, my, cy, rfl, hmy, hown5⟩
      have HY5 := Lib.hid (Sl.ofOwn hown5)
      have hk1 := kind_cell (HKN.out.below hb5)
      have hk2 := kind_cell (HK4.out.below hb5)
      rw [HN4.out] at hk1
      have HB5 := Lib.hid (HB4.out.trans (hb5.mono HB4.out.size))
      have hcv1 : cvt w5 Y my cy = .ok (.string ⟨o.toArray⟩) w5 := cvt_of HY5.out cy
      have hcv2 : cvt w5 X m cx = .ok (.string ⟨o.toArray⟩) w5 := cvt_of (HX4.out.below hb5) cx
      clear hmy hown5 hb5
      go_wp2_with fail
      go_meet
      case rel => exact HB5.out
    · have hzb : (z == 0) = false := by simp [hz]
      have hm0 := HBD.out hz
      obtain rfl : m = 0 := by rw [HM.out, hm0]; rfl
      clear hm0 hz
      go_wp2_with fail
      go_meet
      case rel => exact HB2.out
  case rest =>
    rename World => w3
    have HB3 := Lib.hid hcut
    clear hcut HNM HBD HM HK2 HB2 HX2 HCX HI HBK
    go_wp2_with fail
    refine (HDEC.out _ HB3.out).mono ?_
    intro e w4 hp
    obtain ⟨cs4, rfl, hv4, hb4⟩ := hp.use
    have HZ := Lib.hid (dec_zero (l := l))
    have HBV := Lib.hid (okV_bad (l := l))
    obtain ⟨D, hD⟩ : ∃ D, D = dec l := ⟨_, rfl⟩
    rw [← hD] at HZ HBV hv4 ⊢
    obtain ⟨y, hy⟩ : ∃ y, y = okV D := ⟨_, rfl⟩
    obtain ⟨z4, hz4⟩ : ∃ z, z = okZ D := ⟨_, rfl⟩
    rw [← hy] at HZ HBV hv4
    rw [← hz4] at HZ HBV ⊢
    have HD := Lib.hid hD.symm
    obtain ⟨KY, hKY, HKY, HIY, HOY, HSY, HNY⟩ := keepNew w4 hv4
    rw [← hKY]
    have hb5 := hb4.trans (((Below.refl w4.heap.size w4).alloc (Nat.le_refl _) (.cells KY 27)).mono hb4.size)
    have HB5 := Lib.hid (HB3.out.trans (hb5.mono HB3.out.size))
    clear hKY hb4 hb5 hv4 hp hy hz4 hD
    go_upto_region 12 with (first | (refine wpList_store_row rfl _ _ _ rfl w4.heap.size KY rfl rfl 27 _ HNY.out HIY.out HSY.out HOY.out ?_) | fail)
    rw [World.setRow_alloc_new]
    clear HNY HSY HOY
    generalize w4.alloc (.cells KY 27) = w5 at *
    generalize w4.heap.size = gy at *
    by_cases hz : z4 = 0
    · subst hz
      have hd := HZ.out rfl
      rw [hd] at HD
      obtain ⟨hd1, hd2⟩ := bulk_dec HD.out
      have HD1 := Lib.hid hd1
      have HD2 := Lib.hid hd2
      clear hd hd1 hd2
      go_wp2_with (first | (refine wpList_load_row rfl 27 (.tmp 11) rfl gy rfl 27 KY (0, 0) _ HKY.out.blk Try.underlying27 rfl HIY.out ?_) | fail)
      refine (HKY.out.enc HD1.out).mono ?_
      rw [HD2.out]
      rintro e w6 ⟨hb6, Y, my, cy, rfl, hmy, hown6⟩
      have HB6 := Lib.hid (HB5.out.trans (hb6.mono HB5.out.size))
      have hcv1 : cvt w6 Y my cy = .ok (.string ⟨l.toArray⟩) w6 := cvt_of (Sl.ofOwn hown6) cy
      have hcv2 : cvt w6 A n c = .ok (.string ⟨l.toArray⟩) w6 := cvt_of (HS.out.below HB6.out) c
      clear hmy hown6 hb6
      go_wp2_with fail
      go_ret
      exact ⟨rfl, HB6.out⟩
    · have hzb : (z4 != 0) = true := by simp [hz]
      have hy0 := HBV.out hz
      have HY0 : Hid (Calls Try.prog 14 #[.agg KY, .agg #[.int .i64 0, .int .u64 0, .slice none 0 0, .float .f64 0, .slice none 0 0]] w5 fun e w' => e = .returned (.bool true) ∧ Below w5.heap.size w5 w') := Lib.hid (by
        have := same_any (.mk 0 0 [] 0 []) KY.toList zV.toList w5 (by rw [← hy0]; exact HKY.out.val) (valR_flat w5 no (k := 0) 0 0 (by decide) (by decide) (by decide))
        rwa [Array.toArray_toList, Array.toArray_toList] at this)
      clear hz hy0
      go_wp2_with (first | (refine wpList_load_row rfl 27 (.tmp 11) rfl gy rfl 27 KY (0, 0) _ HKY.out.blk Try.underlying27 rfl HIY.out ?_) | fail)
      refine HY0.out.mono ?_
      rintro e w6 ⟨rfl, hb6⟩
      have HB6 := Lib.hid (HB5.out.trans (hb6.mono HB5.out.size))
      clear hb6
      go_wp2_with fail
      go_ret
      exact ⟨rfl, HB6.out⟩
end Go.Proofs.Ythpcanibahcghaa
