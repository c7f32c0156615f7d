/- numbers with a point, plain: the order of all numbers. -/
import Derived.Test.YtehminpiejophaaDoorFltPlain
set_option linter.unusedVariables false
namespace Go.Proofs.YtehminpiejophaaDoor

theorem order_num {a b : Nat} (ha : rungB a ≤ infR) (hb : rungB b ≤ infR) : FloatKind.f64.format.order a b = some (compare (S a) (S b)) := by
  rcases Nat.lt_or_ge (rungB a) infR with h1 | h1
  · rcases Nat.lt_or_ge (rungB b) infR with h2 | h2
    · exact order_fin h1 h2
    · have h2 : rungB b = infR := by omega
      obtain ⟨m, i, e1, _, _⟩ := read_fin h1
      show (Ieee.double.read a).order (Ieee.double.read b) = _
      rw [e1, read_inf h2]
      show some _ = _
      congr 1
      have hv := V_lt h1
      unfold S
      rw [h2]
      cases sgnB b with
      | true =>
        have : -(V infR : Int) < (if sgnB a = true then -(V (rungB a) : Int) else (V (rungB a) : Int)) := by split <;> omega
        simp only [if_true]; rw [Int.compare_eq_gt.2 this]
      | false =>
        have : (if sgnB a = true then -(V (rungB a) : Int) else (V (rungB a) : Int)) < (V infR : Int) := by split <;> omega
        simp only [Bool.false_eq_true, if_false]; rw [Int.compare_eq_lt.2 this]
  · have h1 : rungB a = infR := by omega
    rcases Nat.lt_or_ge (rungB b) infR with h2 | h2
    · obtain ⟨m, i, e1, _, _⟩ := read_fin h2
      show (Ieee.double.read a).order (Ieee.double.read b) = _
      rw [e1, read_inf h1]
      show some _ = _
      congr 1
      have hv := V_lt h2
      unfold S
      rw [h1]
      cases sgnB a with
      | true =>
        have : -(V infR : Int) < (if sgnB b = true then -(V (rungB b) : Int) else (V (rungB b) : Int)) := by split <;> omega
        simp only [if_true]; rw [Int.compare_eq_lt.2 this]
      | false =>
        have : (if sgnB b = true then -(V (rungB b) : Int) else (V (rungB b) : Int)) < (V infR : Int) := by split <;> omega
        simp only [Bool.false_eq_true, if_false]; rw [Int.compare_eq_gt.2 this]
    · have h2 : rungB b = infR := by omega
      show (Ieee.double.read a).order (Ieee.double.read b) = _
      rw [read_inf h1, read_inf h2]
      show some (compare _ _) = _
      congr 1
      unfold S
      rw [h1, h2]
      have hv : (0 : Int) < (V infR : Int) := by decide +kernel
      cases sgnB a <;> cases sgnB b <;> simp only [if_true, Bool.false_eq_true, if_false, Bool.toNat_true, Bool.toNat_false]
      · simp
      · rw [Int.compare_eq_gt.2 (show -(V infR : Int) < (V infR : Int) by omega)]; rfl
      · rw [Int.compare_eq_lt.2 (show -(V infR : Int) < (V infR : Int) by omega)]; rfl
      · simp
theorem order_nan {a b : Nat} (h : isNan a = true ∨ isNan b = true) : FloatKind.f64.format.order a b = none := by
  show (Ieee.double.read a).order (Ieee.double.read b) = none
  rcases h with h | h
  · rw [nan_iff, decide_eq_true_eq] at h
    obtain ⟨s, f, e⟩ := read_nan h
    rw [e]; rfl
  · rw [nan_iff, decide_eq_true_eq] at h
    obtain ⟨s, f, e⟩ := read_nan h
    rw [e]
    cases Ieee.double.read a <;> rfl
theorem sgn_iff {b : Nat} (h : b < 2 ^ 64) : (sgnB b = true ∧ b = 9223372036854775808 + rungB b) ∨ (sgnB b = false ∧ b = rungB b) := by
  unfold sgnB rungB
  have h : b < 18446744073709551616 := h
  by_cases h1 : 9223372036854775808 ≤ b
  · left; refine ⟨?_, by omega⟩
    rw [beq_iff_eq]; omega
  · right; refine ⟨?_, by omega⟩
    rw [beq_eq_false_iff_ne]; omega
theorem rung_lt (b : Nat) : rungB b < 9223372036854775808 := Nat.mod_lt _ (by decide)
/-- what stands ahead in the language's order stands ahead -/
theorem lt_key {a b : Nat} (ha : a < 2 ^ 64) (hb : b < 2 ^ 64) (h : FloatKind.f64.format.order a b = some .lt) : keyB a < keyB b := by
  have na : isNan a = false := by cases h1 : isNan a with | false => rfl | true => rw [order_nan (.inl h1)] at h; cases h
  have nb : isNan b = false := by cases h1 : isNan b with | false => rfl | true => rw [order_nan (.inr h1)] at h; cases h
  have ra : rungB a ≤ infR := by rw [nan_iff, decide_eq_false_iff_not] at na; omega
  have rb : rungB b ≤ infR := by rw [nan_iff, decide_eq_false_iff_not] at nb; omega
  rw [order_num ra rb] at h
  injection h with h
  have h := Int.compare_eq_lt.1 h
  have mono : ∀ {r r' : Nat}, V r < V r' → r < r' := fun {r r'} h => by
    rcases Nat.lt_or_ge r r' with h1 | h1
    · exact h1
    · rcases Nat.lt_or_ge r' r with h2 | h2
      · have := V_lt h2; omega
      · obtain rfl : r = r' := by omega
        omega
  unfold keyB canonB
  simp only [na, nb, Bool.false_eq_true, if_false]
  have la := rung_lt a
  have lb := rung_lt b
  unfold S at h
  rcases sgn_iff ha with ⟨s1, e1⟩ | ⟨s1, e1⟩ <;> rcases sgn_iff hb with ⟨s2, e2⟩ | ⟨s2, e2⟩ <;> rw [s1, s2] at h
  · rw [if_pos rfl, if_pos rfl] at h
    have := mono (show V (rungB b) < V (rungB a) by omega)
    rw [if_pos (by omega), if_pos (by omega)]; omega
  · rw [if_pos (by omega), if_neg (by omega)]; omega
  · rw [if_neg (by decide), if_pos rfl] at h; omega
  · rw [if_neg (by decide), if_neg (by decide)] at h
    have := mono (show V (rungB a) < V (rungB b) by omega)
    rw [if_neg (by omega), if_neg (by omega)]; omega
theorem order_swap (a b : Nat) : FloatKind.f64.format.order a b = some .gt ↔ FloatKind.f64.format.order b a = some .lt := by
  cases h1 : isNan a with
  | true => rw [order_nan (.inl h1), order_nan (.inr h1)]; simp
  | false =>
    cases h2 : isNan b with
    | true => rw [order_nan (.inr h2), order_nan (.inl h2)]; simp
    | false =>
      rw [nan_iff, decide_eq_false_iff_not] at h1 h2
      rw [order_num (by omega) (by omega), order_num (by omega) (by omega)]
      simp only [Option.some.injEq]
      rw [Int.compare_eq_gt, Int.compare_eq_lt]
theorem key_inj {a b : Nat} (ha : a < 2 ^ 64) (hb : b < 2 ^ 64) (h : keyB a = keyB b) : canonB a = canonB b := by
  have h1 : canonB a < 18446744073709551616 := canonB_lt ha
  have h2 : canonB b < 18446744073709551616 := canonB_lt hb
  unfold keyB at h
  simp only [] at h
  split at h <;> split at h <;> omega
theorem key_lt {a : Nat} (ha : a < 2 ^ 64) : keyB a < 18446744073709551616 := by
  have h1 : canonB a < 18446744073709551616 := canonB_lt ha
  unfold keyB
  simp only []
  split <;> omega
theorem key_canon (a : Nat) : keyB (canonB a) = keyB a := by unfold keyB; rw [canonB_canonB]
end Go.Proofs.YtehminpiejophaaDoor
