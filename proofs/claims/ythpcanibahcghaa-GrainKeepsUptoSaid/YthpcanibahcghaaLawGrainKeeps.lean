/- The walk of the law GrainKeeps: what is handed in is left and not kept; answers are new memory. -/
import Derived.Test.YthpcanibahcghaaGrainUse
set_option linter.unusedVariables false
namespace Go.Proofs.Ythpcanibahcghaa
open Go.RowKit
attribute [local go_sem ↓] cvt_eq cutA_eq

theorem grown_to {w w' : World} {g B : Nat} (h : w.grownBy w' (some g)) (hB : B ≤ g) (hsz : B ≤ w.heap.size) : Below B w w' :=
  ⟨h.os, h.tape, h.output, h.size, fun b hb => h.block b (by omega) (fun e => by have := Option.some.inj e; omega)⟩
theorem set_list {l : List UInt8} {k : Nat} {x : UInt8} : (bytesV l).set k (.int .u8 (x.toNat : Int)) = bytesV (l.set k x) := by
  simp [bytesV, List.map_set]
theorem u8_inc (x : UInt8) : IntKind.u8.wrap ((x.toNat : Int) + 1) = ((x + 1).toNat : Int) := by
  have hx := u8_lt x
  simp [IntKind.wrap, IntKind.bits, IntKind.signed, UInt8.toNat_add]

set_option maxRecDepth 100000 in
set_option maxHeartbeats 8000000 in
theorem grainKeeps_any (A : Option Addr) (n c : Nat) (l : List UInt8) (B : Option Addr) (m d : Nat) (r : List UInt8) (W0 : World) (hs : Sl W0 1 A n (bytesV l)) (hnc : n ≤ c) (hcm : c ≤ maxLen) (hn : n ≤ 1048576) (hs' : Sl W0 1 B m (bytesV r)) (hmd : m ≤ d) (hdm : d ≤ maxLen) (hm : m ≤ 1048576) :
    Calls Try.prog 8 #[.slice A n c, .slice B m d] W0 fun e w' => e = .returned (.bool true) ∧ Below W0.heap.size W0 w' := by
  have HSA := Lib.hid hs
  have HSB := Lib.hid hs'
  have HLN := Lib.hid (show l.length = n by have := hs.1; simpa [bytesV_length] using this)
  have HRM := Lib.hid (show r.length = m by have := hs'.1; simpa [bytesV_length] using this)
  have HCM := Lib.hid hcm
  clear hs hs' hcm hdm
  go_enter Try.func8, Try.ntmps8
  go_wp2_with fail
  refine (awake_any _).mono ?_
  rintro e w1 ⟨rfl, hb1⟩
  have hs1 := HSB.out.below hb1
  have m0 := own_made (base := w1.heap.size) w1 5 1 (Nat.le_refl _)
  obtain ⟨A1, c1, w2, run1, ap1, hc1, hm1⟩ := append_sl elemByte m0 (hs1.alloc _) (bytesV_one r) (by omega) (by simp only [maxLen]; omega) (by simp) 23 d
  simp only [Nat.zero_add, List.nil_append] at run1 ap1 hc1
  have z1 : Below w1.heap.size w1 w2 := ((Below.refl _ _).alloc (Nat.le_refl _) _).trans ap1.below
  obtain ⟨A2, c2, w3, run2, ap2, hc2, hm2⟩ := append_sl elemByte (ap1.own.alloc (.cells #[.int .u8 77] 5)) (Sl.one w2 (.int .u8 77) 5) (by simp; rfl) (by omega) (by simp only [maxLen]; omega) (by have := z1.size; simp; omega) 23 1
  have z2 : Below w1.heap.size w1 w3 := (z1.alloc z1.size _).trans ap2.below
  obtain ⟨gs, hg⟩ := own_at ap2.own (by omega)
  obtain ⟨rfl, hg1, hg2⟩ := hg
  have hown3 : w3.ownsRow w1.heap.size 5 1 (.slice (some ⟨gs, 0, none⟩) (m + 1) c2) (m + 1) (bytesV r ++ [.int .u8 77]) := ap2.own
  have HO3 := Lib.hid hown3
  have HT3 := Lib.hid (show Sl w3 1 (some ⟨gs, 0, none⟩) m (bytesV r) by
    have := (Sl.ofOwn hown3).upto (k := m) (by omega)
    rw [Nat.mul_one, List.take_left' (by rw [bytesV_length, HRM.out])] at this
    exact this)
  have HB3 := Lib.hid (hb1.trans (z2.mono hb1.size))
  have hgs0 : W0.heap.size ≤ gs := Nat.le_trans hb1.size hg1
  obtain ⟨KV, hKV⟩ : ∃ KV, KV = cellsV 1 0 (some ⟨gs, 0, none⟩) m c2 0 none 0 0 := ⟨_, rfl⟩
  have HI := Lib.hid (show (Try.prog.info? 27).map (·.size) = some KV.size by rw [hKV]; exact cellsV_info _ _ _ _ _ _ _ _ _)
  have HO := Lib.hid (show KV.all (·.oneCell') = true by rw [hKV]; exact cellsV_one _ _ _ _ _ _ _ _ _)
  have HKV := Lib.hid hKV
  have HC2 := Lib.hid hm2
  have hmc2 : (m : Int) ≤ (c2 : Int) := by omega
  have hmc3 : (m : Int) + 1 ≤ (c2 : Int) := by omega
  have hmc4 : m + 1 ≤ c2 := by omega
  clear ap1 ap2 m0 z1 z2 hs1 hb1 hm1 hm2 hKV hown3 hc1 hc2
  go_upto_region 4 with (first
    | (at_builtin; refine wpList_run_append run1 ?_ ?_ ?_; exact rfl; exact rfl)
    | (at_builtin; refine wpList_run_append run2 ?_ ?_ ?_; exact rfl; exact rfl)
    | (refine wpList_store_row rfl _ _ _ rfl w3.heap.size KV rfl (by rw [HKV.out]; rfl) 27 _ (heap_alloc_new w3 _) HI.out (by rw [HKV.out]; rfl) HO.out ?_) | fail)
  rw [World.setRow_alloc_new]
  have HK4 := Lib.hid (Blk.new w3 27 KV)
  have hb34 : Below w3.heap.size w3 (w3.alloc (.cells KV 27)) := (Below.refl _ _).alloc (Nat.le_refl _) _
  have HO4 := Lib.hid (own_below HO3.out hb34)
  have HT4 := Lib.hid (HT3.out.below hb34)
  have HB4 := Lib.hid (HB3.out.trans (hb34.mono HB3.out.size))
  have hg4 : gs < (w3.alloc (.cells KV 27)).heap.size := by simp; omega
  have hg34 : gs ≠ w3.heap.size := by omega
  clear hb34 HO3 HT3 HB3 hg2 run1 run2
  change Code.wp _ _ _ _ (w3.alloc (.cells KV 27))
  generalize w3.alloc (.cells KV 27) = w4 at *
  generalize w3.heap.size = gv at *
  have hV4 : valR.R w4 no KV.toList (.mk 1 0 r 0 []) := by
    rw [HKV.out]
    exact valR_iff.2 ⟨some ⟨gs, 0, none⟩, c2, none, 0, by rw [HRM.out]; rfl, by decide, by decide, by decide, ⟨by rw [HRM.out]; omega, HC2.out, bytesV r, by rw [HRM.out]; exact HT4.out, each_byte_mk _, fun _ _ _ _ h => h⟩, Nat.le_refl _, Nat.zero_le _, SlOf.nil⟩
  have HE := Lib.hid (encode_big (.mk 1 0 r 0 []) w4 hV4 (by simp [bulkV, bulkVs]; have := HRM.out; omega))
  rw [Array.toArray_toList] at HE
  clear hV4
  go_wp2_with (first | (refine wpList_load_row rfl 27 (.tmp 5) rfl gv rfl 27 KV (0, 0) _ HK4.out Try.underlying27 rfl HI.out ?_) | fail)
  refine HE.out.mono ?_
  intro e w5 hp
  obtain ⟨X, cx, rfl, hownX, hb5⟩ := hp.use
  obtain ⟨o, ho⟩ : ∃ o, o = okB (enc (.mk 1 0 r 0 [])) := ⟨_, rfl⟩
  obtain ⟨zx, hzx⟩ : ∃ zx, zx = okZ (enc (.mk 1 0 r 0 [])) := ⟨_, rfl⟩
  rw [← ho] at hownX ⊢
  rw [← hzx]
  obtain ⟨mx, hmx⟩ : ∃ mx, mx = o.length := ⟨_, rfl⟩
  rw [← hmx] at hownX ⊢
  have HX5 := Lib.hid (Sl.ofOwn hownX)
  have HXB := Lib.hid (fun k (h : (Value.slice X mx cx).ownBlock = some k) => (hownX.lt k h))
  have HXO := Lib.hid hownX
  have HK5 := Lib.hid (HK4.out.below hb5 HK4.out.lt)
  have HO5 := Lib.hid (own_below HO4.out hb5)
  have HT5 := Lib.hid (HT4.out.below hb5)
  have HB5 := Lib.hid (HB4.out.trans (hb5.mono HB4.out.size))
  have hg5 : gs < w5.heap.size := Nat.lt_of_lt_of_le hg4 hb5.size
  have hw45 := hb5.size
  clear hp ho hzx hmx hownX hb5 HK4 HO4 HT4 HB4 HE
  -- mine
  have hs5 := HSA.out.below HB5.out
  have hbn : Below w5.heap.size w5 (w5.alloc (.cells #[] 5)) := (Below.refl _ _).alloc (Nat.le_refl _) _
  have m5 := own_made (base := w5.heap.size) w5 5 1 (Nat.le_refl _)
  obtain ⟨A6, c6, w6, run6, ap6, hc6, hm6⟩ := append_sl elemByte m5 (hs5.below hbn) (bytesV_one l) (by omega) (by simp only [maxLen]; omega) (by simp) 23 c
  simp only [Nat.zero_add, List.nil_append] at run6 ap6 hc6
  have hb56 : Below w5.heap.size w5 w6 := hbn.trans ap6.below
  have hown6 := ap6.own
  have hgm : ∃ gm, w5.heap.size ≤ gm ∧ gm < w6.heap.size ∧ (0 < n → A6 = some ⟨gm, 0, none⟩) := by
    by_cases h0 : 0 < n
    · obtain ⟨gm, h1, h2, h3⟩ := own_at hown6 h0
      exact ⟨gm, h2, h3, fun _ => h1⟩
    · exact ⟨w5.heap.size, Nat.le_refl _, by have := ap6.below.size; simp at this; omega, fun h => absurd h h0⟩
  obtain ⟨gm, hgm1, hgm2, hgm3⟩ := hgm
  have HGM := Lib.hid hgm3
  have HO6 := Lib.hid hown6
  have HB56 := Lib.hid hb56
  have HD := Lib.hid (decode_any A6 n c6 l w6 (Sl.ofOwn hown6) hc6 hm6)
  clear hgm3 hown6 hb56 ap6 m5 hbn hs5 hm6
  go_wp2_with (first | (at_builtin; refine wpList_run_append run6 ?_ ?_ ?_; exact rfl; exact rfl) | fail)
  refine HD.out.mono ?_
  intro e w7 hp
  obtain ⟨cs7, rfl, hv7, hb7⟩ := hp.use
  have HD2 := Lib.hid (fun w (h : Below W0.heap.size W0 w) => decode_any A n c l w (HSA.out.below h) hnc HCM.out)
  obtain ⟨D, hD⟩ : ∃ D, D = dec l := ⟨_, rfl⟩
  rw [← hD] at hv7 HD2 ⊢
  obtain ⟨KY, hKY, HKY, HIY, HOY, HSY, HNY⟩ := keepNew w7 hv7
  have hm8 : Below w7.heap.size w7 (w7.alloc (.cells KY 27)) := (Below.refl _ _).alloc (Nat.le_refl _) _
  have hv8 : valR.R (w7.alloc (.cells KY 27)) (fun b => b < w6.heap.size) KY.toList (okV D) := by
    rw [hKY]
    exact valR.stable hv7 (Moves.of_below (by rw [← hKY]; exact hm8))
  rw [← hKY]
  have HV8 := Lib.hid hv8
  have hb68 := hb7.trans (hm8.mono hb7.size)
  have HO8 := Lib.hid (own_below HO6.out hb68)
  have HB58 := Lib.hid (HB56.out.trans (hb68.mono HB56.out.size))
  have hsz8 := hb68.size
  have hgy : w6.heap.size ≤ w7.heap.size := hb7.size
  clear hKY hv7 hv8 hm8 hb7 hb68 hp hD HD HO6 HB56 run6
  go_upto_region 7 with (first | (refine wpList_store_row rfl _ _ _ rfl w7.heap.size KY rfl rfl 27 _ HNY.out HIY.out HSY.out HOY.out ?_) | fail)
  rw [World.setRow_alloc_new]
  clear HNY HSY HOY
  generalize w7.alloc (.cells KY 27) = w8 at *
  generalize w7.heap.size = gy at *
  go_wp2_with fail
  go_loopw [42] (fun i wr => ∃ (k : Nat) (lk : List UInt8), k ≤ n ∧ i = .int .i64 (k : Int) ∧ Hid (lk.length = n) ∧ Hid (wr.ownsRow w5.heap.size 5 1 (.slice A6 n c6) n (bytesV lk)) ∧ w8.grownBy wr (some gm)) (fun i _ => n - (intOf i).toNat)
  case atStart => exact ⟨0, l, by omega, rfl, HLN, HO8, World.grownBy.refl _ _⟩
  case round =>
    obtain ⟨k, lk, hk, rfl, HLK, HRW, hgr⟩ := hrel
    by_cases hlt : k < n
    · have hlt' : (k : Int) < (n : Int) := by omega
      have hA6 := HGM.out (by omega)
      subst hA6
      have hkl : k < lk.length := by rw [HLK.out]; exact hlt
      obtain ⟨x, hx⟩ : ∃ x, x = lk[k]'hkl := ⟨_, rfl⟩
      have hcell : wr.cell? ⟨gm, k, none⟩ = some (.int .u8 (x.toNat : Int)) := by
        rw [HRW.out.cellAt k (by omega), bytesV_get lk k hkl, hx]
      have hfr := HRW.out.frozenAt k
      have hinc := u8_inc x
      have hx256 := u8_lt x
      have HST := Lib.hid (HRW.out.stored k (.int .u8 ((x + 1).toNat : Int)))
      rw [set_list] at HST
      clear hx
      go_wp2_with fail
      go_roundw
      case rel => exact ⟨k + 1, lk.set k (x + 1), by omega, by go_num, Lib.hid (by simpa using HLK.out), Lib.hid HST.out.1, hgr.trans HST.out.2⟩
      case measure => simp [intOf]; omega
    · have hge : ¬ (k : Int) < (n : Int) := by omega
      have hb59 : Below w5.heap.size w5 wr := HB58.out.trans (grown_to hgr hgm1 HB58.out.size)
      have HKY9 : Hid (Kept wr gy KY (okV D)) := Lib.hid ⟨HKY.out.blk.grown hgr (fun e => by have := Option.some.inj e; omega), valR.stable HV8.out ((Moves.grown hgr hgm2).trans (Moves.forget _ _))⟩
      have HK9 := Lib.hid (HK5.out.below hb59 HK5.out.lt)
      have HO9 := Lib.hid (own_below HO5.out hb59)
      have HT9 := Lib.hid (HT5.out.below hb59)
      have HX9 := Lib.hid (own_below HXO.out hb59)
      have HB9 := Lib.hid (HB5.out.trans (hb59.mono HB5.out.size))
      have hg9 : gs < wr.heap.size := Nat.lt_of_lt_of_le hg5 hb59.size
      clear hb59 hgr HRW HLK hk hlt HKY HV8 HO8 HB58 HK5 HO5 HT5 HXO HX5 HB5 hgm1 hgm2 HGM hgy hsz8
      go_wp2_with fail
      refine (HD2.out _ HB9.out).mono ?_
      intro e w10 hp
      obtain ⟨cs10, rfl, hv10, hb10⟩ := hp.use
      obtain ⟨KZ, hKZ, HKZ, HIZ, HOZ, HSZ, HNZ⟩ := keepNew w10 hv10
      rw [← hKZ]
      have hb11 := hb10.trans (((Below.refl w10.heap.size w10).alloc (Nat.le_refl _) (.cells KZ 27)).mono hb10.size)
      have HKY11 := Lib.hid (HKY9.out.below hb11)
      have HK11 := Lib.hid (HK9.out.below hb11 HK9.out.lt)
      have HO11 := Lib.hid (own_below HO9.out hb11)
      have HT11 := Lib.hid (HT9.out.below hb11)
      have HX11 := Lib.hid (own_below HX9.out hb11)
      have HB11 := Lib.hid (HB9.out.trans (hb11.mono HB9.out.size))
      have hg11 := Nat.lt_of_lt_of_le hg9 hb11.size
      clear hKZ hb10 hb11 hv10 hp HKY9 HK9 HO9 HT9 HX9 HB9 hg9 HD2
      go_upto_region 13 with (first | (refine wpList_store_row rfl _ _ _ rfl w10.heap.size KZ rfl rfl 27 _ HNZ.out HIZ.out HSZ.out HOZ.out ?_) | fail)
      rw [World.setRow_alloc_new]
      clear HNZ HSZ HOZ
      generalize w10.alloc (.cells KZ 27) = w11 at *
      generalize w10.heap.size = gz at *
      have HSM := Lib.hid (HKY11.out.same HKZ.out)
      generalize okZ D = zd at *
      go_wp2_with (first
        | (refine wpList_load_row_g rfl rfl 27 (.tmp 9) rfl gy rfl 27 KY (0, 0) _ HKY11.out.blk Try.underlying27 rfl HIY.out ?_)
        | (refine wpList_load_row_g rfl rfl 27 (.tmp 12) rfl gz rfl 27 KZ (0, 0) _ HKZ.out.blk Try.underlying27 rfl HIZ.out ?_) | fail)
      refine HSM.out.mono ?_
      rintro e w12 ⟨rfl, hb12⟩
      have HK12 := Lib.hid (HK11.out.below hb12 HK11.out.lt)
      have HO12 := Lib.hid (own_below HO11.out hb12)
      have HX12 := Lib.hid (own_below HX11.out hb12)
      have HB12 := Lib.hid (HB11.out.trans (hb12.mono HB11.out.size))
      have hv2 : w12.cell? ⟨gv, 2, none⟩ = some (.slice (some ⟨gs, 0, none⟩) m c2) := by rw [HK12.out.cell 2, HKV.out]; rfl
      have hcv1 : cvt w12 (some ⟨gs, 0, none⟩) m c2 = .ok (.string ⟨r.toArray⟩) w12 := cvt_of (HT11.out.below hb12) c2
      have hcv2 : cvt w12 B m d = .ok (.string ⟨r.toArray⟩) w12 := cvt_of (HSB.out.below HB12.out) d
      have hcv3 : cvt w12 X mx cx = .ok (.string ⟨o.toArray⟩) w12 := cvt_of (Sl.ofOwn HX12.out) cx
      have h77 : w12.cell? ⟨gs, m, none⟩ = some (.int .u8 77) := by
        rw [HO12.out.cellAt m (by omega), List.getElem?_append_right (by rw [bytesV_length, HRM.out]; omega), bytesV_length, HRM.out, Nat.sub_self]
        rfl
      have hwn : IntKind.i64.wrap ((m : Int) + 1) = (m : Int) + 1 := IntWalk.i64_in _ (by omega)
      have h0n : (0 : Int) ≤ (m : Int) + 1 := by omega
      have hnn : (m : Int) < (m : Int) + 1 := by omega
      have hg12 := Nat.lt_of_lt_of_le hg11 hb12.size
      clear hb12 HSM HKY11 HK11 HO11 HT11 HX11 HB11 HKZ HIZ HIY
      go_upto_region 17 with fail
      have HOW : Hid (w12.ownsRow w1.heap.size 5 1 (.slice (some ⟨gs, 0, none⟩) (m + 1) c2) (m + 1) (bytesV (r ++ [77]))) := Lib.hid (by rw [show bytesV (r ++ [77]) = bytesV r ++ [.int .u8 77] by simp [bytesV]]; exact HO12.out)
      have HRL := Lib.hid (show (r ++ [77]).length = m + 1 by simp; exact HRM.out)
      clear hcv1 hcv2 hcv3 h77 hv2 hwn h0n hnn HO12
      go_loopw [92] (fun i wr => ∃ (k : Nat) (lk : List UInt8), k ≤ m ∧ i = .int .i64 (k : Int) ∧ Hid (lk.length = m + 1) ∧ Hid (wr.ownsRow w1.heap.size 5 1 (.slice (some ⟨gs, 0, none⟩) (m + 1) c2) (m + 1) (bytesV lk)) ∧ w12.grownBy wr (some gs)) (fun i _ => m - (intOf i).toNat)
      case atStart => exact ⟨0, r ++ [77], by omega, rfl, HRL, HOW, World.grownBy.refl _ _⟩
      case round =>
        rename World => wq
        obtain ⟨k, lk, hk, rfl, HLK, HRW, hgr⟩ := hrel
        by_cases hlt : k < m
        · have hlt' : (k : Int) < (m : Int) := by omega
          have hkl : k < lk.length := by rw [HLK.out]; omega
          obtain ⟨x, hx⟩ : ∃ x, x = lk[k]'hkl := ⟨_, rfl⟩
          have hcell : wq.cell? ⟨gs, k, none⟩ = some (.int .u8 (x.toNat : Int)) := by
            rw [HRW.out.cellAt k (by omega), bytesV_get lk k hkl, hx]
          have hfr := HRW.out.frozenAt k
          have hv2 : wq.cell? ⟨gv, 2, none⟩ = some (.slice (some ⟨gs, 0, none⟩) m c2) := by
            have := HK12.out.grown hgr (fun e => by have := Option.some.inj e; omega)
            rw [this.cell 2, HKV.out]; rfl
          have hinc := u8_inc x
          have hx256 := u8_lt x
          have HST := Lib.hid (HRW.out.stored k (.int .u8 ((x + 1).toNat : Int)))
          rw [set_list] at HST
          clear hx
          go_wp2_with fail
          go_roundw
          case rel => exact ⟨k + 1, lk.set k (x + 1), by omega, by go_num, Lib.hid (by simpa using HLK.out), Lib.hid HST.out.1, hgr.trans HST.out.2⟩
          case measure => simp [intOf]; omega
        · have hge : ¬ (k : Int) < (m : Int) := by omega
          have hX := HX12.out.kept hgr (by
            cases hub : (Value.slice X mx cx).ownBlock with
            | none => exact .inl rfl
            | some kk =>
              right
              intro e
              have e := Option.some.inj e
              have := HXB.out kk hub
              omega)
          have hcv3 : cvt wq X mx cx = .ok (.string ⟨o.toArray⟩) wq := cvt_of (Sl.ofOwn hX) cx
          have hBE := Lib.hid (HB12.out.trans (grown_to hgr hgs0 HB12.out.size))
          clear hX
          go_wp2_with fail
          go_ret
          exact ⟨rfl, hBE.out⟩
end Go.Proofs.Ythpcanibahcghaa
