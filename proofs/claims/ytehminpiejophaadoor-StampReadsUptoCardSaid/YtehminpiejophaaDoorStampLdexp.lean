/- math.Ldexp of a whole number. -/
import Derived.Test.YtehminpiejophaaDoorStampMath
import Derived.Test.YtehminpiejophaaDoorFltLd
set_option linter.unusedVariables false
set_option linter.unusedSimpArgs false
namespace Go.Proofs.YtehminpiejophaaDoor
open Go.RowKit

theorem S_pos {r : Nat} (h : r < infR) : S r = (V r : Int) := by
  have hi := inf_lt
  unfold S sgnB
  have e : r / 9223372036854775808 = 0 := Nat.div_eq_of_lt (by omega)
  have e2 : rungB r = r := Nat.mod_eq_of_lt (by omega)
  rw [e, e2]; rfl
theorem rung_small {r : Nat} (h : r < infR) : rungB r = r := Nat.mod_eq_of_lt (by have := inf_lt; omega)
theorem order_pos {a b : Nat} (ha : a < infR) (hb : b < infR) : FloatKind.f64.format.order a b = some (compare (V a : Int) (V b : Int)) := by
  rw [order_fin (by rw [rung_small ha]; exact ha) (by rw [rung_small hb]; exact hb), S_pos ha, S_pos hb]
theorem order_gt {a b : Nat} (hb : b < a) (ha : a < infR) : FloatKind.f64.format.order a b = some .gt := by
  rw [order_pos ha (by omega)]
  have := V_lt hb
  rw [Int.compare_eq_gt.2 (by omega)]

theorem normalize_any (r : Nat) (w : World) (h1 : 4503599627370496 ≤ r) (h2 : r < infR) : Calls Tryd.prog 58 #[.float .f64 r] w fun e w' => e = .returned (.tuple #[.float .f64 r, .int .i64 0]) ∧ w' = w := by
  have hb : r < 2 ^ 64 := by have := inf_lt; show r < 18446744073709551616; omega
  have HA := Lib.hid (fun w => abs_any r w hb)
  rw [rung_small h2] at HA
  have ho : (FloatKind.f64.format.order r 4503599627370496 == some .lt) = false := by
    rcases Nat.lt_or_ge 4503599627370496 r with h | h
    · rw [order_gt h h2]; rfl
    · have e : r = 4503599627370496 := by omega
      rw [order_pos h2 (by omega), e]; simp
  clear h1 h2 hb
  go_enter Tryd.func58, Tryd.ntmps58
  go_wp2_with fail
  refine (HA.out _).mono ?_
  rintro e w2 ⟨rfl, rfl⟩
  go_wp2_with fail
  go_ret2
  exact ⟨rfl, rfl⟩
theorem copysign_any (r : Nat) (w : World) (h2 : r < infR) : Calls Tryd.prog 59 #[.float .f64 0, .float .f64 r] w fun e w' => e = .returned (.float .f64 0) ∧ w' = w := by
  have hi := inf_lt
  have hf := ext_bits
  have hg := ext_from
  have ha : bits .and .u64 (r : Int) 9223372036854775808 = 0 := by
    rw [show (9223372036854775808 : Int) = ((9223372036854775808 : Nat) : Int) from rfl, u64_and_nat _ _ (by omega) (by decide), show (9223372036854775808 : Nat) = 2 ^ 63 by decide, nat_bit, Nat.div_eq_of_lt (by show r < 9223372036854775808; omega)]
    rfl
  clear h2 hi
  go_enter Tryd.func59, Tryd.ntmps59
  go_wp2_with fail
  go_ret
  exact ⟨rfl, rfl⟩
theorem setexp {r X : Nat} (hX : X < 2048) (hr : r < infR) : bits .or .u64 (bits .andNot .u64 (r : Int) 9218868437227405312) ((X * 4503599627370496 : Nat) : Int) = ((X * 4503599627370496 + r % 4503599627370496 : Nat) : Int) := by
  have hi := inf_lt
  rw [show (9218868437227405312 : Int) = ((9218868437227405312 : Nat) : Int) from rfl, u64_andNot_nat _ _ (by omega) (by decide)]
  have e : r &&& (18446744073709551615 - 9218868437227405312) = r % 4503599627370496 := by
    rw [show (18446744073709551615 - 9218868437227405312 : Nat) = 2 ^ 63 ||| (2 ^ 52 - 1) by decide, Nat.and_or_distrib_left, nat_bit, Nat.div_eq_of_lt (by show r < 9223372036854775808; omega), Nat.and_two_pow_sub_one_eq_mod]
    simp
  rw [e, u64_or_nat _ _ (by omega) (by omega), Nat.or_comm, nat_join 52 _ _ (by show X * 4503599627370496 % 4503599627370496 = 0; omega) (by show r % 4503599627370496 < 4503599627370496; omega)]

theorem read_norm {Y f : Nat} (hY0 : 1 ≤ Y) (hY : Y ≤ 2046) (hf : f < 4503599627370496) : Ieee.double.read (Y * 4503599627370496 + f) = .number false (4503599627370496 + f) (-1074 + ((Y - 1 : Nat) : Int)) := by
  have e1 : Ieee.double.signWeight = 9223372036854775808 := rfl
  have e2 : Ieee.double.binade = 4503599627370496 := rfl
  have e3 : Ieee.double.infRung = infR := rfl
  have e4 : Ieee.double.leastPlace = -1074 := rfl
  unfold Ieee.Format.read
  simp only [e1, e2, e3, e4]
  have e5 : (Y * 4503599627370496 + f) / 9223372036854775808 = 0 := Nat.div_eq_of_lt (by omega)
  have e6 : (Y * 4503599627370496 + f) % 9223372036854775808 = Y * 4503599627370496 + f := Nat.mod_eq_of_lt (by omega)
  have e7 : (Y * 4503599627370496 + f) % 4503599627370496 = f := by omega
  have e8 : (Y * 4503599627370496 + f) / 4503599627370496 = Y := by omega
  rw [e5, e6, if_neg (by omega), if_pos (by unfold infR; omega), e7, e8]
  rfl
theorem mul_run {k Y f : Nat} {X pl : Int} (hk : Ieee.double.read k = .number false 4503599627370496 pl) (hY0 : 1 ≤ Y) (hY : Y ≤ 2046) (hf : f < 4503599627370496) (hpl : pl + (-1074 + ((Y - 1 : Nat) : Int)) = X - 104) (w : World) :
    (binOp .mul 22 (.float .f64 k) (.float .f64 (Y * 4503599627370496 + f))).run Tryd.prog w = .ok (.float .f64 (ldB f X)) w := by
  refine run_float_arith w .mul 22 .f64 k _ (ldB f X) ?_
  show (((Ieee.double.read k).product (Ieee.double.read (Y * 4503599627370496 + f))).map Ieee.double.write) = _
  rw [hk, read_norm hY0 hY hf]
  show some (Ieee.double.nearest (false ^^ false) (4503599627370496 * (4503599627370496 + f)) (pl + (-1074 + ((Y - 1 : Nat) : Int)))) = _
  rw [hpl]
  rfl
theorem exp_mask {g : Nat} (h : g ≤ 53) : bits .and .i64 (1023 + (g : Int)) 2047 = 1023 + (g : Int) := by
  have := (show ∀ g : Fin 54, bits .and .i64 (1023 + (g.val : Int)) 2047 = 1023 + (g.val : Int) by decide +kernel) ⟨g, by omega⟩
  exact this

set_option maxRecDepth 100000 in
set_option maxHeartbeats 4000000 in
theorem ldexp_mid (n r g : Nat) (p : Int) (w : World) (h : OfNat' n r g) (hn1 : 1 ≤ n) (hp0 : -1100 ≤ p) (hp1 : p ≤ 1100) : Calls Tryd.prog 48 #[.float .f64 r, .int .i64 p] w fun e w' => ∃ B, e = .returned (.float .f64 B) ∧ w' = w ∧ B < 2 ^ 64 ∧ (-1074 ≤ p → ∀ R, R < infR → n * 2 ^ (p + 1074).toNat = V R → B = R) := by
  have hi := inf_lt
  have hr := h.inf
  have hb : r < 2 ^ 64 := by show r < 18446744073709551616; omega
  have hnorm := h.norm
  have h0 : (FloatKind.f64.format.order r 0 == some .eq) = false := by rw [order_gt (by omega) hr]; rfl
  have HI := Lib.hid (fun w => isInf0_any r w hb)
  rw [decide_eq_false (by rw [rung_small hr]; omega)] at HI
  have HN := Lib.hid (fun w => isNaN_any r w)
  rw [nan_iff, decide_eq_false (by rw [rung_small hr]; omega)] at HN
  have HZ := Lib.hid (fun w => normalize_any r w hnorm hr)
  have HC := Lib.hid (fun w => copysign_any r w hr)
  have hf := ext_bits
  have hE : (r : Int) / 4503599627370496 = 1023 + (g : Int) := by have := h.exp; omega
  have hle := h.le
  have HH := Lib.hid h
  obtain ⟨X, hX⟩ : ∃ X, X = p + (g : Int) := ⟨_, rfl⟩
  have hA := exp_mask hle
  have hs1 : 1023 + (g : Int) - 1023 = (g : Int) := by omega
  have hXX : p + (g : Int) = X := hX.symm
  have hX0 : -1100 ≤ X := by omega
  have hX1 : X ≤ 1153 := by omega
  have HX := Lib.hid hX
  have HP := Lib.hid hp0
  have HN1 := Lib.hid hn1
  clear hn1
  clear hi hnorm hr hb h hX
  go_enter Tryd.func48, Tryd.ntmps48
  go_wp2_with fail
  refine (HI.out _).mono ?_
  rintro e w2 ⟨rfl, rfl⟩
  go_wp2_with fail
  refine (HN.out _).mono ?_
  rintro e w2 ⟨rfl, rfl⟩
  go_wp2_with fail
  refine (HZ.out _).mono ?_
  rintro e w2 ⟨rfl, rfl⟩
  clear HI HN HZ h0
  by_cases c1 : X < -1075
  · go_wp2_with fail
    refine (HC.out _).mono ?_
    rintro e w2 ⟨rfl, rfl⟩
    go_wp2_with fail
    go_ret
    refine ⟨0, rfl, rfl, by decide, fun hp R hR hv => ?_⟩
    have := HX.out
    omega
  · by_cases c2 : 1023 < X
    · have hlt : (FloatKind.f64.format.order r 0 == some .lt) = false := by rw [order_gt (by have := HH.out.norm; omega) HH.out.inf]; rfl
      have HJ := Lib.hid (fun w => inf1_any w)
      go_wp2_with fail
      refine (HJ.out _).mono ?_
      rintro e w2 ⟨rfl, rfl⟩
      go_wp2_with fail
      go_ret
      refine ⟨infR, rfl, rfl, by decide, fun hp R hR hv => ?_⟩
      exact (ld_great HH.out HN1.out (by have := HX.out; omega) hR hv).elim
    · by_cases c3 : X < -1022
      · have hg := ext_from
        obtain ⟨Y, hY⟩ : ∃ Y : Nat, (Y : Int) = X + 53 + 1023 := ⟨(X + 53 + 1023).toNat, by omega⟩
        have hY0 : 1 ≤ Y := by omega
        have hY1 : Y ≤ 2046 := by omega
        have hYr : X + 53 + 1023 = (Y : Int) := by omega
        have hYm : (Y : Int) * 4503599627370496 = ((Y * 4503599627370496 : Nat) : Int) := by omega
        have hset := setexp (r := r) (X := Y) (by omega) HH.out.inf
        have hfl : r % 4503599627370496 < 4503599627370496 := Nat.mod_lt _ (by decide)
        have hmul := fun w => mul_run (k := 4368491638549381120) (Y := Y) (f := r % 4503599627370496) (X := X) (pl := -105) (by rfl) hY0 hY1 hfl (by omega) w
        obtain ⟨f, hf'⟩ : ∃ f, f = r % 4503599627370496 := ⟨_, rfl⟩
        rw [← hf'] at hset hmul
        obtain ⟨r', hr'⟩ : ∃ r', r' = Y * 4503599627370496 + f := ⟨_, rfl⟩
        rw [← hr'] at hset hmul
        rw [← hYm] at hset
        obtain ⟨B, hB⟩ : ∃ B, B = ldB f X := ⟨_, rfl⟩
        rw [← hB] at hmul
        have HBB := Lib.hid hB
        have HF := Lib.hid hf'
        clear hB hf' hfl hr' hYm hY
        go_wp2_with fail
        go_ret
        refine ⟨B, rfl, rfl, by rw [HBB.out]; exact ldB_lt _ _, fun hp R hR hv => ?_⟩
        rw [HBB.out, HF.out, HX.out]
        exact ldB_exact HH.out hp hR hv
      · have hg := ext_from
        obtain ⟨Y, hY⟩ : ∃ Y : Nat, (Y : Int) = X + 1023 := ⟨(X + 1023).toNat, by omega⟩
        have hY0 : 1 ≤ Y := by omega
        have hY1 : Y ≤ 2046 := by omega
        have hYr : X + 1023 = (Y : Int) := by omega
        have hYm : (Y : Int) * 4503599627370496 = ((Y * 4503599627370496 : Nat) : Int) := by omega
        have hset := setexp (r := r) (X := Y) (by omega) HH.out.inf
        have hfl : r % 4503599627370496 < 4503599627370496 := Nat.mod_lt _ (by decide)
        have hmul := fun w => mul_run (k := 4607182418800017408) (Y := Y) (f := r % 4503599627370496) (X := X) (pl := -52) (by rfl) hY0 hY1 hfl (by omega) w
        obtain ⟨f, hf'⟩ : ∃ f, f = r % 4503599627370496 := ⟨_, rfl⟩
        rw [← hf'] at hset hmul
        obtain ⟨r', hr'⟩ : ∃ r', r' = Y * 4503599627370496 + f := ⟨_, rfl⟩
        rw [← hr'] at hset hmul
        rw [← hYm] at hset
        obtain ⟨B, hB⟩ : ∃ B, B = ldB f X := ⟨_, rfl⟩
        rw [← hB] at hmul
        have HBB := Lib.hid hB
        have HF := Lib.hid hf'
        clear hB hf' hfl hr' hYm hY
        go_wp2_with fail
        go_ret
        refine ⟨B, rfl, rfl, by rw [HBB.out]; exact ldB_lt _ _, fun hp R hR hv => ?_⟩
        rw [HBB.out, HF.out, HX.out]
        exact ldB_exact HH.out hp hR hv

theorem ldexp_any (n : Nat) (p : Int) (w : World) (hn : n ≤ 9007199254740992) (hp0 : -1100 ≤ p) (hp1 : p ≤ 1100) : Calls Tryd.prog 40 #[.float .f64 (floatOfInt .f64 (n : Int)), .int .i64 p] w fun e w' => ∃ B, e = .returned (.float .f64 B) ∧ w' = w ∧ B < 2 ^ 64 ∧ (1 ≤ n → -1074 ≤ p → ∀ R, R < infR → n * 2 ^ (p + 1074).toNat = V R → B = R) := by
  have HL : Hid (Calls Tryd.prog 48 #[.float .f64 (floatOfInt .f64 (n : Int)), .int .i64 p] w fun e w' => ∃ B, e = .returned (.float .f64 B) ∧ w' = w ∧ B < 2 ^ 64 ∧ (1 ≤ n → -1074 ≤ p → ∀ R, R < infR → n * 2 ^ (p + 1074).toNat = V R → B = R)) := Lib.hid (by
    rcases Nat.eq_zero_or_pos n with h | h
    · subst h
      have e : floatOfInt .f64 ((0 : Nat) : Int) = 0 := by decide +kernel
      rw [e]
      have h0 : (FloatKind.f64.format.order 0 0 == some .eq) = true := by decide +kernel
      clear hp0 hp1 hn e
      go_enter Tryd.func48, Tryd.ntmps48
      go_wp2_with fail
      go_ret
      exact ⟨0, rfl, rfl, by decide, fun h => by omega⟩
    · obtain ⟨r, g, ho⟩ := ofNat_ex h hn
      rw [ho.flt]
      exact (ldexp_mid n r g p w ho h hp0 hp1).mono fun e w' ⟨B, h1, h2, h3, h4⟩ => ⟨B, h1, h2, h3, fun _ => h4⟩)
  generalize floatOfInt .f64 (n : Int) = f at *
  clear hn hp0 hp1
  go_enter Tryd.func40, Tryd.ntmps40
  go_wp2_with fail
  refine HL.out.mono ?_
  rintro e w2 ⟨B, rfl, rfl, h1, h2⟩
  have H1 := Lib.hid h1
  have H2 := Lib.hid h2
  clear h1 h2
  go_wp2_with fail
  go_ret
  exact ⟨B, rfl, rfl, H1.out, H2.out⟩
end Go.Proofs.YtehminpiejophaaDoor
