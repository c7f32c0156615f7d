/- StampRatio: one number divided by another. -/
import Derived.Test.YtehminpiejophaaDoorStampRatio
set_option linter.unusedVariables false
set_option linter.unusedSimpArgs false
namespace Go.Proofs.YtehminpiejophaaDoor
open Go.RowKit

theorem word_gt (s : Bool) {r : Nat} (h0 : 0 < r) (hr : r < infR) : (FloatKind.f64.format.order (Ieee.double.word s r) 0 == some .gt) = !s := by
  have hi := inf_lt
  have h1 : rungB (Ieee.double.word s r) = r := by rw [word_eq]; unfold rungB; split <;> omega
  have h2 : sgnB (Ieee.double.word s r) = s := by
    rw [word_eq]; unfold sgnB
    cases s with
    | true =>
      rw [if_pos rfl]
      have : (9223372036854775808 + r) / 9223372036854775808 % 2 = 1 := by omega
      rw [this]; rfl
    | false =>
      rw [if_neg (by decide)]
      have : r / 9223372036854775808 % 2 = 0 := by omega
      rw [this]; rfl
  rw [order_num (by omega) (by rw [show rungB 0 = 0 from rfl]; omega)]
  have hV := V_pos h0
  have hS : S 0 = 0 := rfl
  have hS2 : S (Ieee.double.word s r) = if s then -(V r : Int) else (V r : Int) := by unfold S; rw [h1, h2]
  rw [hS, hS2]
  cases s with
  | true =>
    rw [if_pos rfl, Int.compare_eq_lt.2 (by omega)]; rfl
  | false =>
    rw [if_neg (by decide), Int.compare_eq_gt.2 (by omega)]; rfl
theorem word_nan (s : Bool) {r : Nat} (hr : r ≤ infR) : isNan (Ieee.double.word s r) = false := by
  have hi := inf_lt
  apply nan_no
  rw [word_eq]; unfold rungB; split <;> omega
theorem same_of {q : Nat} (h : isNan q = false) : (FloatKind.f64.format.order q q == some .eq) = true := by
  unfold isNan at h
  cases e : FloatKind.f64.format.order q q with
  | none => rw [e] at h; simp at h
  | some o => cases o <;> rw [e] at h <;> simp at h ⊢

set_option maxRecDepth 100000 in
set_option maxHeartbeats 4000000 in
theorem ratio_walk00 (W0 : World) (hg : Globs W0) : Calls Tryd.prog 7 #[.int .i64 0, .int .i64 0] W0 fun e w' => e = .returned (.bool true) ∧ Below W0.heap.size W0 w' := by
  have HA := Lib.hid (awake_any W0 hg)
  have H1 := Lib.hid ratio_nan
  have hf := ext_bits
  clear hg
  go_enter Tryd.func7, Tryd.ntmps7
  go_wp2_with fail
  refine (HA.out).mono ?_
  rintro e w1 ⟨rfl, h1⟩
  have HB1 := Lib.hid h1
  clear h1
  go_wp2_with fail
  refine (H1.out _).mono ?_
  rintro e w2 ⟨rfl, h1⟩
  have HB2 := Lib.hid (HB1.out.trans (h1.mono HB1.out.size))
  clear h1
  go_wp2_with fail
  go_ret
  exact ⟨rfl, HB2.out⟩

set_option maxRecDepth 100000 in
set_option maxHeartbeats 4000000 in
theorem ratio_walkB (a : Int) (q : Nat) (pa : Bool) (W0 : World) (hg : Globs W0) (ha : a ≠ 0) (H1 : ∀ w, Calls Tryd.prog 21 #[.int .i64 a, .int .i64 0] w fun e w' => e = .returned (.float .f64 q) ∧ Below w.heap.size w w')
    (h1 : ∀ w, Calls Tryd.prog 22 #[.float .f64 q, .int .i64 1] w fun e w' => e = .returned (.bool pa) ∧ w' = w) (h2 : ∀ w, Calls Tryd.prog 22 #[.float .f64 q, .int .i64 (-1)] w fun e w' => e = .returned (.bool (!pa)) ∧ w' = w) (hpa : decide (0 < a) = pa) (hna : decide (a < 0) = !pa) :
    Calls Tryd.prog 7 #[.int .i64 a, .int .i64 0] W0 fun e w' => e = .returned (.bool true) ∧ Below W0.heap.size W0 w' := by
  have HA := Lib.hid (awake_any W0 hg)
  have H1 := Lib.hid H1
  have HF1 := Lib.hid h1
  have HF2 := Lib.hid h2
  have ha' : (a == 0) = false := by rw [beq_eq_false_iff_ne]; exact ha
  clear hg h1 h2
  cases pa
  all_goals
    go_enter Tryd.func7, Tryd.ntmps7
    go_wp2_with fail
    refine (HA.out).mono ?_
    rintro e w1 ⟨rfl, h1⟩
    have HB1 := Lib.hid h1
    clear h1
    go_wp2_with fail
    refine (H1.out _).mono ?_
    rintro e w2 ⟨rfl, h1⟩
    have HB2 := Lib.hid (HB1.out.trans (h1.mono HB1.out.size))
    clear h1
    go_wp2_with fail
    refine (HF1.out _).mono ?_
    rintro e w3 ⟨rfl, rfl⟩
    go_wp2_with fail
    refine (HF2.out _).mono ?_
    rintro e w4 ⟨rfl, rfl⟩
    go_wp2_with fail
    go_ret
    exact ⟨rfl, HB2.out⟩

set_option maxRecDepth 100000 in
set_option maxHeartbeats 4000000 in
theorem ratio_walkA (b : Int) (q : Nat) (nb : Bool) (W0 : World) (hg : Globs W0) (hb : b ≠ 0) (H1 : ∀ w, Calls Tryd.prog 21 #[.int .i64 0, .int .i64 b] w fun e w' => e = .returned (.float .f64 q) ∧ Below w.heap.size w w')
    (h1 : ∀ w, Calls Tryd.prog 23 #[.float .f64 q] w fun e w' => e = .returned (.bool nb) ∧ w' = w) (he : (FloatKind.f64.format.order q 0 == some .eq) = true) (hnb : decide (b < 0) = nb) :
    Calls Tryd.prog 7 #[.int .i64 0, .int .i64 b] W0 fun e w' => e = .returned (.bool true) ∧ Below W0.heap.size W0 w' := by
  have HA := Lib.hid (awake_any W0 hg)
  have H1 := Lib.hid H1
  have HF1 := Lib.hid h1
  have hb' : (b == 0) = false := by rw [beq_eq_false_iff_ne]; exact hb
  clear hg h1
  cases nb
  all_goals
    go_enter Tryd.func7, Tryd.ntmps7
    go_wp2_with fail
    refine (HA.out).mono ?_
    rintro e w1 ⟨rfl, h1⟩
    have HB1 := Lib.hid h1
    clear h1
    go_wp2_with fail
    refine (H1.out _).mono ?_
    rintro e w2 ⟨rfl, h1⟩
    have HB2 := Lib.hid (HB1.out.trans (h1.mono HB1.out.size))
    clear h1
    go_wp2_with fail
    refine (HF1.out _).mono ?_
    rintro e w3 ⟨rfl, rfl⟩
    go_wp2_with fail
    go_ret
    exact ⟨rfl, HB2.out⟩

set_option maxRecDepth 100000 in
set_option maxHeartbeats 8000000 in
theorem ratio_walk (a b : Int) (q q' x y : Nat) (pa pb ab : Bool) (W0 : World) (hg : Globs W0) (ha : a ≠ 0) (hb : b ≠ 0)
    (H1 : ∀ w, Calls Tryd.prog 21 #[.int .i64 a, .int .i64 b] w fun e w' => e = .returned (.float .f64 q) ∧ Below w.heap.size w w')
    (H2 : ∀ w, Calls Tryd.prog 21 #[.int .i64 b, .int .i64 a] w fun e w' => e = .returned (.float .f64 q') ∧ Below w.heap.size w w')
    (hq : ∀ w, (binOp .quo 22 (.float .f64 x) (.float .f64 y)).run Tryd.prog w = .ok (.float .f64 q) w) (hx : floatOfInt .f64 a = x) (hy : floatOfInt .f64 b = y)
    (hpa : decide (0 < a) = pa) (hpb : decide (0 < b) = pb) (g : Bool) (hgp : g = (pa == pb)) (hg1 : (FloatKind.f64.format.order q 0 == some .gt) = g) (hg2 : (FloatKind.f64.format.order q' 0 == some .gt) = g) (he : (FloatKind.f64.format.order q q == some .eq) = true)
    (hab : (a != b) = ab) (h1 : ab = false → (FloatKind.f64.format.order q 4607182418800017408 == some .eq) = true) :
    Calls Tryd.prog 7 #[.int .i64 a, .int .i64 b] W0 fun e w' => e = .returned (.bool true) ∧ Below W0.heap.size W0 w' := by
  have HA := Lib.hid (awake_any W0 hg)
  have H1 := Lib.hid H1
  have H2 := Lib.hid H2
  have ha' : (a == 0) = false := by rw [beq_eq_false_iff_ne]; exact ha
  have hb' : (b == 0) = false := by rw [beq_eq_false_iff_ne]; exact hb
  clear hg
  cases ab
  · have h1 := h1 rfl
    cases pa <;> cases pb
    all_goals (first | (obtain rfl : g = true := hgp) | (obtain rfl : g = false := hgp))
    all_goals
      go_enter Tryd.func7, Tryd.ntmps7
      go_wp2_with fail
      refine (HA.out).mono ?_
      rintro e w1 ⟨rfl, h1⟩
      have HB1 := Lib.hid h1
      clear h1
      go_wp2_with fail
      refine (H1.out _).mono ?_
      rintro e w2 ⟨rfl, h1⟩
      have HB2 := Lib.hid (HB1.out.trans (h1.mono HB1.out.size))
      clear h1
      go_wp2_with fail
      refine (H2.out _).mono ?_
      rintro e w3 ⟨rfl, h1⟩
      have HB3 := Lib.hid (HB2.out.trans (h1.mono HB2.out.size))
      clear h1
      go_wp2_with fail
      go_ret
      exact ⟨rfl, HB3.out⟩
  · clear h1
    cases pa <;> cases pb
    all_goals (first | (obtain rfl : g = true := hgp) | (obtain rfl : g = false := hgp))
    all_goals
      go_enter Tryd.func7, Tryd.ntmps7
      go_wp2_with fail
      refine (HA.out).mono ?_
      rintro e w1 ⟨rfl, h1⟩
      have HB1 := Lib.hid h1
      clear h1
      go_wp2_with fail
      refine (H1.out _).mono ?_
      rintro e w2 ⟨rfl, h1⟩
      have HB2 := Lib.hid (HB1.out.trans (h1.mono HB1.out.size))
      clear h1
      go_wp2_with fail
      refine (H2.out _).mono ?_
      rintro e w3 ⟨rfl, h1⟩
      have HB3 := Lib.hid (HB2.out.trans (h1.mono HB2.out.size))
      clear h1
      go_wp2_with fail
      go_ret
      exact ⟨rfl, HB3.out⟩

theorem law_ratio (a b : Int) (W0 : World) (wa : (Lit.int .i64 a).wf = true) (wb : (Lit.int .i64 b).wf = true) (hg : Globs W0) : Calls Tryd.prog 7 #[.int .i64 a, .int .i64 b] W0 fun e w' => e = .returned (.bool true) ∧ Below W0.heap.size W0 w' := by
  have hi := inf_lt
  have hw : ∀ c : Int, (Lit.int .i64 c).wf = true → -9223372036854775808 ≤ c ∧ c < 9223372036854775808 := fun c hc => by
    have hc : (IntKind.i64.min ≤ c && c ≤ IntKind.i64.max) = true := by simpa [Lit.wf] using hc
    have h1 : IntKind.i64.min = -9223372036854775808 := rfl
    have h2 : IntKind.i64.max = 9223372036854775807 := rfl
    rw [h1, h2] at hc
    simp at hc
    omega
  have ha := hw a wa
  have hb := hw b wb
  by_cases ha0 : a = 0
  · subst ha0
    by_cases hb0 : b = 0
    · subst hb0; exact ratio_walk00 W0 hg
    · obtain ⟨n, j, hm, _, _⟩ := int_mid hb0 hb.1 hb.2
      have hq : floatBits .quo .f64 (floatOfInt .f64 0) (floatOfInt .f64 b) = some (Ieee.double.word (decide (b < 0)) 0) := by
        rw [zero_flt]
        show (((Ieee.double.read 0).quotient (Ieee.double.fractionBits + 2) (Ieee.double.read (floatOfInt .f64 b))).map Ieee.double.write) = _
        rw [read_zero, hm.read]
        unfold Ieee.Datum.quotient
        simp only []
        have := hm.lo
        rw [if_neg (by omega), Nat.zero_shiftLeft, Nat.zero_div, Nat.zero_mod, Bool.false_xor]
        show some (Ieee.double.nearest _ 0 _) = _
        unfold Ieee.Format.nearest
        rw [if_pos rfl]
      refine ratio_walkA b _ (decide (b < 0)) W0 hg hb0 (fun w => ratio_any 0 b _ w hq (word_nan _ (by unfold infR; omega))) (fun w => ?_) ?_ rfl
      · have h := signbit_any (Ieee.double.word (decide (b < 0)) 0) w (by rw [word_eq]; split <;> decide)
        have e : decide (9223372036854775808 ≤ Ieee.double.word (decide (b < 0)) 0) = decide (b < 0) := by
          rw [word_eq]
          cases decide (b < 0) <;> decide
        rw [e] at h
        exact h
      · cases decide (b < 0) <;> decide
  · obtain ⟨m, i, hma, i1, i2⟩ := int_mid ha0 ha.1 ha.2
    by_cases hb0 : b = 0
    · subst hb0
      have hq : floatBits .quo .f64 (floatOfInt .f64 a) (floatOfInt .f64 0) = some (Ieee.double.word (decide (a < 0)) infR) := by
        rw [zero_flt]
        show (((Ieee.double.read (floatOfInt .f64 a)).quotient (Ieee.double.fractionBits + 2) (Ieee.double.read 0)).map Ieee.double.write) = _
        rw [read_zero, hma.read]
        unfold Ieee.Datum.quotient
        simp only []
        have := hma.lo
        rw [if_pos trivial, if_neg (by omega), Bool.xor_false]
        rfl
      have hlt : Ieee.double.word (decide (a < 0)) infR < 2 ^ 64 := by
        rw [word_eq]
        cases decide (a < 0) <;> decide
      refine ratio_walkB a _ (decide (0 < a)) W0 hg ha0 (fun w => ratio_any a 0 _ w hq (word_nan _ (Nat.le_refl _))) (fun w => ?_) (fun w => ?_) rfl (by rw [← decide_not]; exact decide_eq_decide.2 (by omega))
      · have h := isInf1_any (Ieee.double.word (decide (a < 0)) infR) w hlt
        have e : decide (Ieee.double.word (decide (a < 0)) infR = infR) = decide (0 < a) := by
          rw [word_eq]
          by_cases h : a < 0
          · rw [decide_eq_true h, decide_eq_false (show ¬ 0 < a by omega)]; decide
          · rw [decide_eq_false h, decide_eq_true (show 0 < a by omega)]; decide
        rw [e] at h
        exact h
      · have h := isInfM_any (Ieee.double.word (decide (a < 0)) infR) w hlt
        have e : decide (Ieee.double.word (decide (a < 0)) infR = infR + 9223372036854775808) = !decide (0 < a) := by
          rw [word_eq]
          by_cases h : a < 0
          · rw [decide_eq_true h, decide_eq_false (show ¬ 0 < a by omega)]; decide
          · rw [decide_eq_false h, decide_eq_true (show 0 < a by omega)]; decide
        rw [e] at h
        exact h
    · obtain ⟨n, j, hmb, j1, j2⟩ := int_mid hb0 hb.1 hb.2
      obtain ⟨r, hq, r1, r2⟩ := quo_mid hma hmb (by omega) (by omega)
      obtain ⟨r', hq', r1', r2'⟩ := quo_mid hmb hma (by omega) (by omega)
      have hs : ∀ c : Int, c ≠ 0 → decide (c < 0) = !decide (0 < c) := fun c hc => by rw [← decide_not]; exact decide_eq_decide.2 (by omega)
      refine ratio_walk a b _ _ _ _ (decide (0 < a)) (decide (0 < b)) (a != b) W0 hg ha0 hb0 (fun w => ratio_any a b _ w hq (word_nan _ (by omega))) (fun w => ratio_any b a _ w hq' (word_nan _ (by omega)))
        (fun w => run_float_arith w .quo 22 .f64 _ _ _ hq) rfl rfl rfl rfl _ rfl ?_ ?_ (same_of (word_nan _ (by omega))) rfl ?_
      · rw [word_gt _ (by omega) r2, hs a ha0, hs b hb0]
        cases decide (0 < a) <;> cases decide (0 < b) <;> rfl
      · rw [word_gt _ (by omega) r2', hs a ha0, hs b hb0]
        cases decide (0 < a) <;> cases decide (0 < b) <;> rfl
      · intro h
        have hab : a = b := by simpa using h
        subst hab
        have := quo_same hma
        rw [hq] at this
        injection this with this
        rw [this]
        exact same_of (by rw [nan_iff]; decide)
end Go.Proofs.YtehminpiejophaaDoor
