/- numbers with a point, plain: infinity, negation, the sign. -/
import Derived.Test.YtehminpiejophaaDoorFltOrder
set_option linter.unusedVariables false
namespace Go.Proofs.YtehminpiejophaaDoor

theorem mono_V {r r' : Nat} (h : V r < V r') : r < r' := by
  rcases Nat.lt_or_ge r r' with h1 | h1
  · exact h1
  · rcases Nat.lt_or_ge r' r with h2 | h2
    · have := V_lt h2; omega
    · obtain rfl : r = r' := by omega
      omega
theorem inf_lt : infR < 9223372036854775808 := by unfold infR; omega
theorem gt_max' {b M : Nat} (hM : M + 1 = infR) (hb : b < 2 ^ 64) : (FloatKind.f64.format.order b M == some .gt) = decide (b = infR) := by
  have hi := inf_lt
  have r0 : ∀ x, x < 9223372036854775808 → rungB x = x := fun x h => Nat.mod_eq_of_lt h
  have s0 : ∀ x, x < 9223372036854775808 → S x = (V x : Int) := fun x h => by
    unfold S sgnB
    rw [Nat.div_eq_of_lt h, r0 x h]; rfl
  generalize hI : infR = I at *
  cases hn : isNan b with
  | true =>
    rw [order_nan (.inl hn)]
    rw [nan_iff, decide_eq_true_eq, hI] at hn
    have : b ≠ I := by
      intro h; rw [h, r0 I hi] at hn; omega
    simp [this]
  | false =>
    rw [nan_iff, decide_eq_false_iff_not, hI] at hn
    rw [order_num (by rw [hI]; omega) (by rw [hI, r0 M (by omega)]; omega)]
    rw [s0 M (by omega)]
    rcases sgn_iff hb with ⟨s1, e1⟩ | ⟨s1, e1⟩
    · have h1 : S b = -(V (rungB b) : Int) := by unfold S; rw [if_pos s1]
      have hv : V 0 < V M := V_lt (by
        have : 1 < I := by rw [← hI]; unfold infR; omega
        omega)
      rw [h1, Int.compare_eq_lt.2 (by omega)]
      have : b ≠ I := by omega
      simp [this]
    · have h1 : S b = (V (rungB b) : Int) := by unfold S; rw [if_neg (by rw [s1]; decide)]
      rw [h1, e1.symm]
      by_cases hi2 : b = I
      · have : (V M : Int) < (V b : Int) := by rw [hi2]; have := V_lt (show M < I by omega); omega
        rw [Int.compare_eq_gt.2 this]
        simp [hi2]
      · have hle : (V b : Int) ≤ (V M : Int) := by
          rcases Nat.lt_or_ge b M with h2 | h2
          · have := V_lt h2; omega
          · have : b = M := by omega
            rw [this]; exact Int.le_refl _
        have : compare (V b : Int) (V M : Int) ≠ .gt := by
          intro h; have := Int.compare_eq_gt.1 h; omega
        simp [hi2, this]
theorem gt_max {b : Nat} (hb : b < 2 ^ 64) : (FloatKind.f64.format.order b 9218868437227405311 == some .gt) = decide (b = infR) := gt_max' rfl hb
theorem neg_eq {b : Nat} (hb : b < 2 ^ 64) : Op.negFloat .f64 b = if b < 9223372036854775808 then b + 9223372036854775808 else b - 9223372036854775808 := by
  have hb : b < 18446744073709551616 := hb
  show b ^^^ 2 ^ 63 = _
  by_cases h : b < 9223372036854775808
  · rw [if_pos h]
    have := Nat.two_pow_add_eq_or_of_lt (i := 63) h 1
    rw [Nat.mul_one] at this
    rw [Nat.add_comm, show (9223372036854775808 : Nat) = 2 ^ 63 from rfl, this, Nat.or_comm]
    apply Nat.eq_of_testBit_eq
    intro i
    rw [Nat.testBit_xor, Nat.testBit_or, Nat.testBit_two_pow]
    by_cases hi : 63 = i
    · subst hi
      rw [Nat.testBit_lt_two_pow h]; simp
    · simp [hi]
  · rw [if_neg h]
    obtain ⟨c, hc⟩ : ∃ c, c = b - 9223372036854775808 := ⟨_, rfl⟩
    have hc2 : c < 2 ^ 63 := by show c < 9223372036854775808; omega
    have e : b = 2 ^ 63 * 1 + c := by show b = 9223372036854775808 * 1 + c; omega
    rw [← hc, e, Nat.two_pow_add_eq_or_of_lt hc2 1, Nat.mul_one]
    apply Nat.eq_of_testBit_eq
    intro i
    rw [Nat.testBit_xor, Nat.testBit_or, Nat.testBit_two_pow]
    by_cases hi : 63 = i
    · subst hi
      rw [Nat.testBit_lt_two_pow hc2]; simp
    · simp [hi]
theorem neg_lt {b : Nat} (hb : b < 2 ^ 64) : Op.negFloat .f64 b < 2 ^ 64 := by
  rw [neg_eq hb]
  have : b < 18446744073709551616 := hb
  show _ < 18446744073709551616
  split <;> omega
end Go.Proofs.YtehminpiejophaaDoor
