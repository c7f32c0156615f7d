/- stamp: Before; math's IsInf, Signbit, Abs, Inf, NaN, IsNaN. -/
import Derived.Test.YtehminpiejophaaDoorStampFns
import Derived.Test.YtehminpiejophaaDoorFltMax
set_option linter.unusedVariables false
set_option linter.unusedSimpArgs false
namespace Go.Proofs.YtehminpiejophaaDoor
open Go.RowKit

theorem before_any (a b : Nat) (w : World) (ha : a < 2 ^ 64) (hb : b < 2 ^ 64) : Calls Tryd.prog 10 #[.float .f64 a, .float .f64 b] w fun e w' => e = .returned (.bool (decide (keyB a < keyB b))) ∧ Below w.heap.size w w' := by
  have HA := Lib.hid (fun w => refBits_any a w)
  have HB := Lib.hid (fun w => refBits_any b w)
  have hx2 : canonB a < 18446744073709551616 := canonB_lt ha
  have hy2 : canonB b < 18446744073709551616 := canonB_lt hb
  have HK := Lib.hid (show decide (keyB a < keyB b) = if 9223372036854775808 ≤ canonB a then (if 9223372036854775808 ≤ canonB b then decide (canonB b < canonB a) else true) else (if 9223372036854775808 ≤ canonB b then false else decide (canonB a < canonB b)) by
    unfold keyB
    simp only []
    split <;> split <;> (first | rw [decide_eq_decide] | rw [decide_eq_true_eq] | rw [decide_eq_false_iff_not]) <;> omega)
  obtain ⟨r, hr⟩ : ∃ r, r = decide (keyB a < keyB b) := ⟨_, rfl⟩
  rw [← hr] at HK ⊢
  clear hr
  generalize canonB a = x at *
  generalize canonB b = y at *
  clear ha hb
  by_cases h1 : 9223372036854775808 ≤ x
  · by_cases h2 : 9223372036854775808 ≤ y
    · have HR := Lib.hid (show r = decide (y < x) by rw [HK.out, if_pos h1, if_pos h2])
      have b1 : decide ((9223372036854775808 : Int) ≤ (x : Int)) = true := by simp; omega
      have i1 : (9223372036854775808 : Int) ≤ (x : Int) := by omega
      have b2 : decide ((9223372036854775808 : Int) ≤ (y : Int)) = true := by simp; omega
      have i2 : (9223372036854775808 : Int) ≤ (y : Int) := by omega
      clear h1 h2 hx2 hy2 HK
      go_enter Tryd.func10, Tryd.ntmps10
      go_wp2_with fail
      refine (HA.out _).mono ?_
      rintro e w2 ⟨rfl, hb2⟩
      have HB2 := Lib.hid hb2
      clear hb2
      go_wp2_with fail
      refine (HB.out _).mono ?_
      rintro e w3 ⟨rfl, hb3⟩
      have HB3 := Lib.hid (HB2.out.trans (hb3.mono HB2.out.size))
      clear hb3
      go_wp2_with fail
      go_ret
      rw [HR.out]
      exact ⟨rfl, HB3.out⟩
    · have HR := Lib.hid (show r = true by rw [HK.out, if_pos h1, if_neg h2])
      have b1 : decide ((9223372036854775808 : Int) ≤ (x : Int)) = true := by simp; omega
      have i1 : (9223372036854775808 : Int) ≤ (x : Int) := by omega
      have b2 : decide ((9223372036854775808 : Int) ≤ (y : Int)) = false := by simp; omega
      have i2 : ¬ (9223372036854775808 : Int) ≤ (y : Int) := by omega
      clear h1 h2 hx2 hy2 HK
      go_enter Tryd.func10, Tryd.ntmps10
      go_wp2_with fail
      refine (HA.out _).mono ?_
      rintro e w2 ⟨rfl, hb2⟩
      have HB2 := Lib.hid hb2
      clear hb2
      go_wp2_with fail
      refine (HB.out _).mono ?_
      rintro e w3 ⟨rfl, hb3⟩
      have HB3 := Lib.hid (HB2.out.trans (hb3.mono HB2.out.size))
      clear hb3
      go_wp2_with fail
      go_ret
      rw [HR.out]
      exact ⟨rfl, HB3.out⟩
  · by_cases h2 : 9223372036854775808 ≤ y
    · have HR := Lib.hid (show r = false by rw [HK.out, if_neg h1, if_pos h2])
      have b1 : decide ((9223372036854775808 : Int) ≤ (x : Int)) = false := by simp; omega
      have i1 : ¬ (9223372036854775808 : Int) ≤ (x : Int) := by omega
      have b2 : decide ((9223372036854775808 : Int) ≤ (y : Int)) = true := by simp; omega
      have i2 : (9223372036854775808 : Int) ≤ (y : Int) := by omega
      clear h1 h2 hx2 hy2 HK
      go_enter Tryd.func10, Tryd.ntmps10
      go_wp2_with fail
      refine (HA.out _).mono ?_
      rintro e w2 ⟨rfl, hb2⟩
      have HB2 := Lib.hid hb2
      clear hb2
      go_wp2_with fail
      refine (HB.out _).mono ?_
      rintro e w3 ⟨rfl, hb3⟩
      have HB3 := Lib.hid (HB2.out.trans (hb3.mono HB2.out.size))
      clear hb3
      go_wp2_with fail
      go_ret
      rw [HR.out]
      exact ⟨rfl, HB3.out⟩
    · have HR := Lib.hid (show r = decide (x < y) by rw [HK.out, if_neg h1, if_neg h2])
      have b1 : decide ((9223372036854775808 : Int) ≤ (x : Int)) = false := by simp; omega
      have i1 : ¬ (9223372036854775808 : Int) ≤ (x : Int) := by omega
      have b2 : decide ((9223372036854775808 : Int) ≤ (y : Int)) = false := by simp; omega
      have i2 : ¬ (9223372036854775808 : Int) ≤ (y : Int) := by omega
      clear h1 h2 hx2 hy2 HK
      go_enter Tryd.func10, Tryd.ntmps10
      go_wp2_with fail
      refine (HA.out _).mono ?_
      rintro e w2 ⟨rfl, hb2⟩
      have HB2 := Lib.hid hb2
      clear hb2
      go_wp2_with fail
      refine (HB.out _).mono ?_
      rintro e w3 ⟨rfl, hb3⟩
      have HB3 := Lib.hid (HB2.out.trans (hb3.mono HB2.out.size))
      clear hb3
      go_wp2_with fail
      go_ret
      rw [HR.out]
      exact ⟨rfl, HB3.out⟩

theorem abs_bits {b : Nat} (hb : b < 2 ^ 64) : bits .andNot .u64 (b : Int) 9223372036854775808 = (rungB b : Int) := by
  have e : (9223372036854775808 : Int) = ((9223372036854775808 : Nat) : Int) := rfl
  rw [e, u64_andNot_nat b 9223372036854775808 hb (by decide)]
  congr 1
  rw [show 18446744073709551615 - 9223372036854775808 = 2 ^ 63 - 1 by decide, Nat.and_two_pow_sub_one_eq_mod]
  rfl
theorem abs_any (b : Nat) (w : World) (hb : b < 2 ^ 64) : Calls Tryd.prog 33 #[.float .f64 b] w fun e w' => e = .returned (.float .f64 (rungB b)) ∧ w' = w := by
  have hf := ext_bits
  have hg := ext_from
  have ha := abs_bits hb
  clear hb
  go_enter Tryd.func33, Tryd.ntmps33
  go_wp2_with fail
  go_ret
  exact ⟨rfl, rfl⟩
theorem isInf0_any (b : Nat) (w : World) (hb : b < 2 ^ 64) : Calls Tryd.prog 22 #[.float .f64 b, .int .i64 0] w fun e w' => e = .returned (.bool (decide (rungB b = infR))) ∧ w' = w := by
  have HA := Lib.hid (fun w => abs_any b w hb)
  have hr : rungB b < 2 ^ 64 := Nat.lt_of_lt_of_le (rung_lt b) (by decide)
  have hm := gt_max hr
  generalize decide (rungB b = infR) = q at *
  generalize rungB b = r at *
  clear hr hb
  go_enter Tryd.func22, Tryd.ntmps22
  go_wp2_with fail
  refine (HA.out _).mono ?_
  rintro e w2 ⟨rfl, rfl⟩
  go_wp2_with fail
  go_ret
  exact ⟨rfl, rfl⟩
theorem isInf1_any (b : Nat) (w : World) (hb : b < 2 ^ 64) : Calls Tryd.prog 22 #[.float .f64 b, .int .i64 1] w fun e w' => e = .returned (.bool (decide (b = infR))) ∧ w' = w := by
  have hm := gt_max hb
  generalize decide (b = infR) = q at *
  clear hb
  go_enter Tryd.func22, Tryd.ntmps22
  go_wp2_with fail
  go_ret
  exact ⟨rfl, rfl⟩
theorem unary_negF (k : FloatKind) (b : Nat) : Op.unary .neg (.float k b) = pure (.float k (Op.negFloat k b)) := rfl
attribute [local go_sem] unary_negF in
theorem isInfM_any (b : Nat) (w : World) (hb : b < 2 ^ 64) : Calls Tryd.prog 22 #[.float .f64 b, .int .i64 (-1)] w fun e w' => e = .returned (.bool (decide (b = infR + 9223372036854775808))) ∧ w' = w := by
  have hm := gt_max (neg_lt hb)
  have he : decide (Op.negFloat .f64 b = infR) = decide (b = infR + 9223372036854775808) := by
    rw [decide_eq_decide, neg_eq hb]
    have hb : b < 18446744073709551616 := hb
    have := inf_lt
    split <;> omega
  rw [he] at hm
  generalize decide (b = infR + 9223372036854775808) = q at *
  generalize hn : Op.negFloat .f64 b = n at *
  clear hb he
  go_enter Tryd.func22, Tryd.ntmps22
  go_wp2_with fail
  go_ret
  exact ⟨rfl, rfl⟩
theorem isNaN_any (b : Nat) (w : World) : Calls Tryd.prog 57 #[.float .f64 b] w fun e w' => e = .returned (.bool (isNan b)) ∧ w' = w := by
  have hm : (FloatKind.f64.format.order b b != some .eq) = isNan b := rfl
  generalize isNan b = q at *
  go_enter Tryd.func57, Tryd.ntmps57
  go_wp2_with fail
  go_ret
  exact ⟨rfl, rfl⟩
theorem signbit_any (b : Nat) (w : World) (hb : b < 2 ^ 64) : Calls Tryd.prog 23 #[.float .f64 b] w fun e w' => e = .returned (.bool (decide (9223372036854775808 ≤ b))) ∧ w' = w := by
  have hf := ext_bits
  have hb : b < 18446744073709551616 := hb
  have h2 : Tryd.prog.underlying 2 = some (.int (Tryd.prog.intKind 2)) := by kernel_rfl
  have h25 : (Tryd.prog.underlying 25).isSome = true := by kernel_rfl
  have hk2 : Tryd.prog.intKind 2 = .i64 := by kernel_rfl
  have hcv : ∀ w, (convert 25 2 (.int .u64 (b : Int))).run Tryd.prog w = .ok (.int .i64 (IntKind.i64.wrap (b : Int))) w := fun w => by
    rw [run_convert_int w 25 2 .u64 _ h25 h2, hk2]
  clear h2 h25 hk2
  by_cases h : 9223372036854775808 ≤ b
  · have hw : IntKind.i64.wrap (b : Int) = (b : Int) - 18446744073709551616 := by
      simp only [IntKind.wrap, IntKind.bits, IntKind.signed]
      simp
      omega
    have hlt : (b : Int) - 18446744073709551616 < 0 := by omega
    rw [hw] at hcv
    have hd : decide (9223372036854775808 ≤ b) = true := decide_eq_true h
    rw [hd]
    obtain ⟨x, hx⟩ : ∃ x, x = (b : Int) - 18446744073709551616 := ⟨_, rfl⟩
    rw [← hx] at hcv hlt
    clear hb h hw hd hx
    go_enter Tryd.func23, Tryd.ntmps23
    go_wp2_with fail
    go_ret
    exact ⟨rfl, rfl⟩
  · have hw : IntKind.i64.wrap (b : Int) = (b : Int) := by
      simp only [IntKind.wrap, IntKind.bits, IntKind.signed]
      simp
      omega
    have hlt : ¬ (b : Int) < 0 := by omega
    rw [hw] at hcv
    have hd : decide (9223372036854775808 ≤ b) = false := decide_eq_false h
    rw [hd]
    clear hb h hw hd
    go_enter Tryd.func23, Tryd.ntmps23
    go_wp2_with fail
    go_ret
    exact ⟨rfl, rfl⟩
theorem nan_any (w : World) : Calls Tryd.prog 35 #[] w fun e w' => e = .returned (.float .f64 9221120237041090561) ∧ w' = w := by
  have hg : ∀ w, (callFunc 25 #[.int .u64 9221120237041090561]).run Tryd.prog w = .ok (.value (.float .f64 9221120237041090561)) w := fun w => ext_from _ w
  go_enter Tryd.func35, Tryd.ntmps35
  go_wp2_with fail
  go_ret
  exact ⟨rfl, rfl⟩
theorem inf1_any (w : World) : Calls Tryd.prog 34 #[.int .i64 1] w fun e w' => e = .returned (.float .f64 infR) ∧ w' = w := by
  have hg : ∀ w, (callFunc 25 #[.int .u64 9218868437227405312]).run Tryd.prog w = .ok (.value (.float .f64 9218868437227405312)) w := fun w => ext_from _ w
  go_enter Tryd.func34, Tryd.ntmps34
  go_wp2_with fail
  go_ret
  exact ⟨rfl, rfl⟩
theorem infM_any (w : World) : Calls Tryd.prog 34 #[.int .i64 (-1)] w fun e w' => e = .returned (.float .f64 (infR + 9223372036854775808)) ∧ w' = w := by
  have hg : ∀ w, (callFunc 25 #[.int .u64 18442240474082181120]).run Tryd.prog w = .ok (.value (.float .f64 18442240474082181120)) w := fun w => ext_from _ w
  go_enter Tryd.func34, Tryd.ntmps34
  go_wp2_with fail
  go_ret
  exact ⟨rfl, rfl⟩
end Go.Proofs.YtehminpiejophaaDoor
