/- stamp.Ratio. -/
import Derived.Test.YtehminpiejophaaDoorStampUse
import Derived.Test.YtehminpiejophaaDoorFltQuo
set_option linter.unusedVariables false
set_option linter.unusedSimpArgs false
namespace Go.Proofs.YtehminpiejophaaDoor
open Go.RowKit

set_option maxRecDepth 100000 in
set_option maxHeartbeats 4000000 in
theorem ratio_any (a b : Int) (q : Nat) (w : World) (hq : floatBits .quo .f64 (floatOfInt .f64 a) (floatOfInt .f64 b) = some q) (hn : isNan q = false) : Calls Tryd.prog 21 #[.int .i64 a, .int .i64 b] w fun e w' => e = .returned (.float .f64 q) ∧ Below w.heap.size w w' := by
  have HC := Lib.hid (fun w => canon_any q w)
  rw [canon_of hn] at HC
  have hrun : ∀ w, (binOp .quo 22 (.float .f64 (floatOfInt .f64 a)) (.float .f64 (floatOfInt .f64 b))).run Tryd.prog w = .ok (.float .f64 q) w := fun w => run_float_arith w .quo 22 .f64 _ _ q hq
  clear hq hn
  generalize hx : floatOfInt .f64 a = x at *
  generalize hy : floatOfInt .f64 b = y at *
  go_enter Tryd.func21, Tryd.ntmps21
  go_wp2_with fail
  refine (HC.out _).mono ?_
  rintro e w1 ⟨rfl, h1⟩
  go_wp2_with fail
  go_ret
  exact ⟨rfl, h1⟩

theorem zero_flt : floatOfInt .f64 0 = 0 := by
  show Ieee.double.nearest (decide ((0 : Int) < 0)) 0 0 = 0
  unfold Ieee.Format.nearest
  rw [if_pos rfl]; rfl
theorem read_zero : Ieee.double.read 0 = .number false 0 (-1074) := rfl
theorem nan_run : ∃ nd : World → Nat, ∀ w, (binOp .quo 22 (.float .f64 0) (.float .f64 0)).run Tryd.prog w = .ok (.float .f64 (nd w)) w.drew ∧ isNan (nd w) = true := by
  refine ⟨fun w => (Question.nanBits .f64 0 0).cut (w.tape w.drawn (.nanBits .f64 0 0)), fun w => ⟨?_, ?_⟩⟩
  · have h : FloatKind.f64.format.div 0 0 = none := rfl
    simp [binOp, Op.floatArith, h, Question.forced]
  · simp only [Question.cut]
    generalize w.tape w.drawn (.nanBits .f64 0 0) = t
    rw [nan_iff, decide_eq_true_eq]
    unfold rungB infR
    have e : (2 : Nat) ^ 63 = 9223372036854775808 := by decide
    have e2 : (2 : Nat) ^ 52 - 1 = 4503599627370495 := by decide
    rw [e, e2]
    have hc : t / 2 % 4503599627370495 < 4503599627370495 := Nat.mod_lt _ (by decide)
    generalize t / 2 % 4503599627370495 = c at *
    have h0 : (0x7ff0000000000000 : Nat) = 9218868437227405312 := by decide
    rw [h0]
    have h1 : t % 2 = 0 ∨ t % 2 = 1 := Nat.mod_two_eq_zero_or_one t
    have h2 : 9218868437227405312 + 1 + c < 9223372036854775808 := by omega
    rcases h1 with h1 | h1
    · rw [h1, Nat.zero_mul, Nat.zero_add, Nat.mod_eq_of_lt h2]; omega
    · rw [h1, Nat.one_mul, Nat.add_assoc 9223372036854775808, Nat.add_assoc 9223372036854775808, Nat.add_mod_left, Nat.mod_eq_of_lt h2]; omega

set_option maxRecDepth 100000 in
set_option maxHeartbeats 4000000 in
theorem ratio_nan (w : World) : Calls Tryd.prog 21 #[.int .i64 0, .int .i64 0] w fun e w' => e = .returned (.float .f64 9221120237041090560) ∧ Below w.heap.size w w' := by
  obtain ⟨nd, hnd⟩ := nan_run
  have HC := Lib.hid (fun w' => show Calls Tryd.prog 15 #[.float .f64 (nd w)] w' fun e w'' => e = .returned (.float .f64 9221120237041090560) ∧ Below w'.heap.size w' w'' by
    have h := canon_any (nd w) w'
    unfold canonB at h
    rw [if_pos (hnd w).2] at h
    exact h)
  have hrun := (hnd w).1
  have hz := zero_flt
  generalize nd w = q at *
  clear hnd
  go_enter Tryd.func21, Tryd.ntmps21
  go_wp2_with fail
  refine (HC.out _).mono ?_
  rintro e w1 ⟨rfl, h1⟩
  have HB := Lib.hid (show Below w.heap.size w w1 from (show Below w.heap.size w w.drew from ⟨rfl, rfl, rfl, Nat.le_refl _, fun _ _ => rfl⟩).trans h1)
  clear h1
  go_wp2_with fail
  go_ret
  exact ⟨rfl, HB.out⟩
end Go.Proofs.YtehminpiejophaaDoor
