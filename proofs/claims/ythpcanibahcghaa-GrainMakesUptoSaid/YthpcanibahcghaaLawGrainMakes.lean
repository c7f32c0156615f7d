/- The walk of the law GrainMakes: the values that are made have their parts, written and read too. -/
import Derived.Test.YthpcanibahcghaaGrainUse
import Derived.Deep.DeepCutAuto
import Derived.Deep.CutBlock
set_option linter.unusedVariables false
namespace Go.Proofs.Ythpcanibahcghaa
open Go.RowKit
attribute [local go_sem ↓] cvt_eq

theorem enc_row3_ok {n : Nat} {s : List UInt8} {f : Nat} (hn : n < 2 ^ 64) (hs : s.length ≤ 1000000) : okZ (enc (row3 n s f)) = 0 := by
  have h0 : wrp 16 (row3 n s f) = .ok (headL 3 3 ++ (headL 0 n ++ (headL 1 s.length ++ s ++ (headL 2 0 ++ be64 (canonB f))))) := by
    simp [wrp, wrpL, row3, Val.kind, Val.num, Val.bytes, Val.flt, Val.list]
  have a := headL_length (k := 3) (n := 3) (by decide)
  have b := headL_length (k := 0) hn
  have c := headL_length (k := 1) (n := s.length) (by omega)
  have d := headL_length (k := 2) (n := 0) (by decide)
  have := (enc_iff (row3 n s f) _).2 ⟨h0, by simp only [List.length_append, be64_length]; omega⟩
  rw [this]; rfl
theorem dec_row3 {n : Nat} {s : List UInt8} {f : Nat} (hn : n < 2 ^ 64) (hs : s.length ≤ 1000000) (hf : f < 2 ^ 64) : dec (okB (enc (row3 n s (canonB f)))) = .ok (row3 n s (canonB f)) := by
  have := dec_enc (fits_row3 hn (show s.length < 2 ^ 64 by omega) (canonB_lt hf)) (enc_zero (enc_row3_ok hn hs))
  rwa [norm_row3, canonB_canonB] at this

/-- the parts of such a list in memory -/
structure Row3 (w : World) (g n : Nat) (b : List UInt8) (f bL oL cL : Nat) (B : Option Addr) (cB : Nat) : Prop where
  c4 : w.cell? ⟨g, 4, none⟩ = some (.slice (some ⟨bL, oL, none⟩) 3 cL)
  k0 : w.cell? ⟨bL, oL, none⟩ = some (.int .i64 0)
  u0 : w.cell? ⟨bL, oL + 1, none⟩ = some (.int .u64 (n : Int))
  k1 : w.cell? ⟨bL, oL + 5, none⟩ = some (.int .i64 1)
  b1 : w.cell? ⟨bL, oL + 7, none⟩ = some (.slice B b.length cB)
  k2 : w.cell? ⟨bL, oL + 10, none⟩ = some (.int .i64 2)
  f2 : w.cell? ⟨bL, oL + 13, none⟩ = some (.float .f64 f)
  sb : Sl w 1 B b.length (bytesV b)
theorem Row3.of {w : World} {g n : Nat} {KV : Array Value} {b : List UInt8} {f : Nat} (h : Kept w g KV (row3 n b f)) : ∃ bL oL cL B cB, Row3 w g n b f bL oL cL B cB := by
  obtain ⟨A6, c6, L6, d6, he, _, _, _, _, _, _, hl6⟩ := valR_iff.1 h.val
  have hc4 : w.cell? ⟨g, 4, none⟩ = some (.slice L6 3 d6) := by
    rw [h.blk.cell 4]
    have : KV[4]? = KV.toList[4]? := by simp
    rw [this, he]; rfl
  obtain ⟨b6, o6, cs0, x0, rfl, _, hx0, hr0, hat0, _⟩ := hl6.look rfl (i := 0) (by show 0 < 3; decide)
  obtain ⟨b1, o1, cs1, x1, e1, _, hx1, hr1, hat1, _⟩ := hl6.look rfl (i := 1) (by show 1 < 3; decide)
  obtain ⟨b2, o2, cs2, x2, e2, _, hx2, hr2, hat2, _⟩ := hl6.look rfl (i := 2) (by show 2 < 3; decide)
  have e1 := Option.some.inj e1
  injection e1 with e11 e12
  have e2 := Option.some.inj e2
  injection e2 with e21 e22
  subst e11 e12 e21 e22
  obtain rfl := Option.some.inj hx0
  obtain rfl := Option.some.inj hx1
  obtain rfl := Option.some.inj hx2
  obtain ⟨A7, c7, L7, d7, rfl, _⟩ := valR_iff.1 hr0
  obtain ⟨A8, c8, L8, d8, rfl, _, _, _, ⟨_, _, hsb⟩, _⟩ := valR_iff.1 hr1
  obtain ⟨A9, c9, L9, d9, rfl, _⟩ := valR_iff.1 hr2
  exact ⟨b6, o6, d6, A8, c8, hc4, hat0 0 _ rfl, hat0 1 _ rfl, hat1 0 _ rfl, hat1 2 _ rfl, hat2 0 _ rfl, hat2 3 _ rfl, hsb.bytes⟩

set_option maxRecDepth 100000 in
set_option maxHeartbeats 4000000 in
theorem grainMakes_any (x : Int) (s : ByteArray) (f : Nat) (W0 : World) (wfx : (Lit.int .u64 x).wf = true) (hs : s.size ≤ maxLen) (hs2 : s.size ≤ 1048576) (hf : f < 2 ^ 64) :
    Calls Try.prog 7 #[.int .u64 x, .string s, .float .f64 f] W0 fun e w' => e = .returned (.bool true) ∧ Below W0.heap.size W0 w' := by
  obtain ⟨n, rfl, hn⟩ : ∃ n : Nat, x = (n : Int) ∧ n < 2 ^ 64 := by
    simp [Lit.wf] at wfx
    have e1 : IntKind.u64.min = 0 := rfl
    have e2 : IntKind.u64.max = 18446744073709551615 := rfl
    exact ⟨x.toNat, by omega, by omega⟩
  obtain ⟨b, rfl⟩ : ∃ b : List UInt8, s = ⟨b.toArray⟩ := ⟨s.data.toList, by simp⟩
  have hbl : (⟨b.toArray⟩ : ByteArray).size = b.length := by simp [ByteArray.size]
  rw [hbl] at hs hs2
  obtain ⟨S, hS⟩ : ∃ S : ByteArray, S = ⟨b.toArray⟩ := ⟨_, rfl⟩
  have hSL : S.data.toList = b := by rw [hS]
  rw [← hS] at hbl ⊢
  have HSE := Lib.hid hS
  have HTX := Lib.hid (fun w => text_any S w (by rw [hbl]; exact hs))
  rw [hSL] at HTX
  obtain ⟨fc, hfc⟩ : ∃ fc, fc = canonB f := ⟨_, rfl⟩
  have HFC := Lib.hid hfc
  have hfc64 : fc < 2 ^ 64 := by rw [hfc]; exact canonB_lt hf
  clear wfx hS hSL hfc
  go_enter Try.func7, Try.ntmps7
  go_wp2_with fail
  refine (awake_any _).mono ?_
  rintro e w0 ⟨rfl, hb0⟩
  go_wp2_with fail
  refine (num_any n _).mono ?_
  rintro e w1 ⟨rfl, hb1⟩
  unfold cellsV
  go_wp2_with fail
  refine (HTX.out w1).mono ?_
  rintro e w2 ⟨⟨cs, rfl, hr⟩, hb2⟩
  obtain ⟨A, c, L, d, rfl, _, _, _, ⟨hs1, hs2, hs3⟩, hl1, hl2, hl3⟩ := valR_iff.1 hr
  go_wp2_with fail
  refine (real_any _ _).mono ?_
  rw [← HFC.out]
  rintro e w3 ⟨rfl, hb3⟩
  unfold cellsV
  go_wp2_with fail
  have hb23 : Below W0.heap.size W0 w3 := by
    have hb13 := hb2.trans (hb3.mono hb2.size)
    have := hb1.trans (hb13.mono hb1.size)
    exact hb0.trans (this.mono hb0.size)
  have hsl := row3_sl (w := w3) (n := n) (f := fc) hn hfc64 rfl (valR.stable hr (Moves.of_below hb3))
  clear hr hs1 hs2 hs3 hl1 hl2 hl3 hb2 hb3 hb1 hb0
  refine (row_any _ 3 3 _ _ hsl rfl (by decide)).mono ?_
  rintro e w4 ⟨⟨cs4, rfl, hr4⟩, hb4⟩
  have hr4 : valR.R w4 no cs4 (row3 n b fc) := hr4
  have hb04 : Below W0.heap.size W0 w4 := by
    have := ((Below.refl w3.heap.size w3).alloc (Nat.le_refl _) (.cells (rowV n A b.length c L d fc) 27)).trans (hb4.mono (by simp))
    exact hb23.trans (this.mono hb23.size)
  obtain ⟨KV, hKV, HKV, HIV, HOV, HSV, HNV⟩ := keepNew w4 hr4
  rw [← hKV]
  have HB5 := Lib.hid (hb04.trans (((Below.refl w4.heap.size w4).alloc (Nat.le_refl _) (.cells KV 27)).mono hb04.size))
  clear hb23 hb4 hsl hb04 hr4 hKV
  go_upto_region 4 with (first | (refine wpList_store_row rfl _ _ _ rfl w4.heap.size KV rfl rfl 27 _ HNV.out HIV.out HSV.out HOV.out ?_) | fail)
  rw [World.setRow_alloc_new]
  clear HNV HSV HOV
  generalize w4.alloc (.cells KV 27) = w5 at *
  generalize w4.heap.size = gv at *
  have hbk : bulkV (row3 n b fc) ≤ 1100000 := by simp [row3, bulkV, bulkVs]; omega
  have HOK := Lib.hid (fun h => enc_row3_ok (f := fc) hn (s := b) h)
  have HDO := Lib.hid (fun h => dec_row3 (f := f) hn (s := b) h hf)
  rw [← HFC.out] at HDO
  go_wp2_with (first | (refine wpList_load_row rfl 27 (.tmp 7) rfl gv rfl 27 KV (0, 0) _ HKV.out.blk Try.underlying27 rfl HIV.out ?_) | fail)
  refine (HKV.out.enc hbk).mono ?_
  intro e w6 hp
  obtain ⟨X, cx, rfl, hown, hb6⟩ := hp.use
  obtain ⟨E, hE⟩ : ∃ E, E = enc (row3 n b fc) := ⟨_, rfl⟩
  rw [← hE] at HOK HDO hown ⊢
  obtain ⟨o, ho⟩ : ∃ o, o = okB E := ⟨_, rfl⟩
  obtain ⟨z, hz⟩ : ∃ z, z = okZ E := ⟨_, rfl⟩
  rw [← ho] at hown HDO ⊢
  rw [← hz] at HOK ⊢
  obtain ⟨m, hm⟩ : ∃ m, m = o.length := ⟨_, rfl⟩
  rw [← hm] at hown ⊢
  have HKV6 := Lib.hid (HKV.out.below hb6)
  have HB6 := Lib.hid (HB5.out.trans (hb6.mono HB5.out.size))
  have hX6 := Sl.ofOwn hown
  obtain ⟨hmc, hcm⟩ := own_cap hown
  have HDC := Lib.hid (decode_any X m cx o w6 hX6 hmc hcm)
  clear hbk hp hE ho hz hm hown hmc hcm hX6 hb6 HKV HB5 E
  go_wp2_with fail
  refine HDC.out.mono ?_
  intro e w7 hp
  obtain ⟨cs7, rfl, hv7, hb7⟩ := hp.use
  obtain ⟨D, hD⟩ : ∃ D, D = dec o := ⟨_, rfl⟩
  rw [← hD] at HDO hv7 ⊢
  obtain ⟨KW, hKW, HKW, HIW, HOW, HSW, HNW⟩ := keepNew w7 hv7
  rw [← hKW]
  have hb8 := hb7.trans (((Below.refl w7.heap.size w7).alloc (Nat.le_refl _) (.cells KW 27)).mono hb7.size)
  have HKV8 := Lib.hid (HKV6.out.below hb8)
  have HB8 := Lib.hid (HB6.out.trans (hb8.mono HB6.out.size))
  clear hKW hb7 hb8 hp hv7 HDC hD HKV6 HB6
  go_upto_region 6 with (first | (refine wpList_store_row rfl _ _ _ rfl w7.heap.size KW rfl rfl 27 _ HNW.out HIW.out HSW.out HOW.out ?_) | fail)
  rw [World.setRow_alloc_new]
  clear HNW HSW HOW
  generalize w7.alloc (.cells KW 27) = w8 at *
  generalize w7.heap.size = gw at *
  by_cases hlong : 1000000 < b.length
  · have hlI : (1000000 : Int) < (b.length : Int) := by omega
    clear HOK HDO
    go_wp2_with fail
    go_ret
    exact ⟨rfl, HB8.out⟩
  · have hlI : ¬ (1000000 : Int) < (b.length : Int) := by omega
    have hz0 := HOK.out (by omega)
    subst hz0
    have hd := HDO.out (by omega)
    subst hd
    have HSM := Lib.hid (HKV8.out.same HKW.out)
    have hR : okV (.ok (row3 n b fc)) = row3 n b fc := rfl
    have hZ : okZ (.ok (row3 n b fc)) = 0 := rfl
    rw [hR] at HKW
    rw [hZ]
    clear hR hZ HOK HDO
    clear HTX hr4 hfc64 hf
    go_wp2_with (first
      | (refine wpList_load_row_g rfl rfl 27 (.tmp 7) rfl gv rfl 27 KV (0, 0) _ HKV8.out.blk Try.underlying27 rfl HIV.out ?_)
      | (refine wpList_load_row_g rfl rfl 27 (.tmp 10) rfl gw rfl 27 KW (0, 0) _ HKW.out.blk Try.underlying27 rfl HIW.out ?_) | fail)
    refine HSM.out.mono ?_
    rintro e w9 ⟨rfl, hb9⟩
    obtain ⟨bL, oL, cL, B, cB, R⟩ := Row3.of (HKW.out.below hb9)
    have HB9 := Lib.hid (HB8.out.trans (hb9.mono HB8.out.size))
    have c4 := R.c4
    have k0 := R.k0
    have u0 := R.u0
    have k1 := R.k1
    have b1 := R.b1
    have k2 := R.k2
    have f2 := R.f2
    have hcv : cvt w9 B b.length cB = .ok (.string S) w9 := by rw [HSE.out]; exact cvt_of R.sb cB
    have hbt := ext_bits
    clear R hb9 HSM HKW HKV8 HIV HIW HB8 hlong hlI
    by_cases hn : isNan f = true
    · have hn' : (FloatKind.f64.format.order f f != some .eq) = true := hn
      obtain rfl : fc = 9221120237041090560 := by rw [HFC.out]; unfold canonB; rw [if_pos hn]; rfl
      clear hn HFC
      by_cases hfn : f = 9221120237041090560
      · have e1 : ((9221120237041090560 : Int) == (f : Int)) = true := by rw [hfn]; rfl
        have HF := Lib.hid hfn
        clear hfn
        go_wp2_with fail
        go_ret
        exact ⟨rfl, HB9.out⟩
      · have e1 : ((9221120237041090560 : Int) == (f : Int)) = false := by simp; omega
        clear hfn
        go_wp2_with fail
        go_ret
        exact ⟨rfl, HB9.out⟩
    · obtain rfl : fc = f := by rw [HFC.out]; unfold canonB; rw [if_neg hn]
      clear hn HFC
      go_wp2_with fail
      go_ret
      exact ⟨rfl, HB9.out⟩
end Go.Proofs.Ythpcanibahcghaa
