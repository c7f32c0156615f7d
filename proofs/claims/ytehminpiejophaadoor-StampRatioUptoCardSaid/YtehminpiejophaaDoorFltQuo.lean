/- numbers with a point, plain: whole numbers' quotients. -/
import Derived.Test.YtehminpiejophaaDoorFltLd
set_option linter.unusedVariables false
set_option linter.unusedSimpArgs false
set_option exponentiation.threshold 4000
namespace Go.Proofs.YtehminpiejophaaDoor

theorem cut_bounds (s : Bool) {n drop : Nat} (h0 : n ≠ 0) (h : n.log2 = 52 + drop) : 4503599627370496 ≤ Ieee.Toward.even.cut s n drop ∧ Ieee.Toward.even.cut s n drop ≤ 9007199254740992 := by
  have h1 := Nat.log2_self_le h0
  have h2 := @Nat.lt_log2_self n
  unfold Ieee.Toward.cut
  have hm : min drop (n.log2 + 2) = drop := by omega
  simp only [hm, Nat.one_shiftLeft]
  rw [h] at h1 h2
  rw [Nat.pow_add] at h1
  rw [show 52 + drop + 1 = 53 + drop by omega, Nat.pow_add] at h2
  have hp := Nat.two_pow_pos drop
  have hq1 : 4503599627370496 ≤ n / 2 ^ drop := (Nat.le_div_iff_mul_le hp).2 h1
  have hq2 : n / 2 ^ drop < 9007199254740992 := (Nat.div_lt_iff_lt_mul hp).2 h2
  generalize n / 2 ^ drop = q at *
  have hb : ∀ b : Bool, b.toNat ≤ 1 := by intro b; cases b <;> decide
  have := hb (decide (2 ^ drop < 2 * (n % 2 ^ drop)) || (2 ^ drop == 2 * (n % 2 ^ drop) && q % 2 == 1))
  omega
/-- a number of middling size is written so -/
theorem nearest_rung (s : Bool) {m : Nat} {p e : Int} (hm : 0 < m) (he : p + (m.log2 : Int) = e) (h1 : -1000 ≤ e) (h2 : e ≤ 1000) : ∃ r, Ieee.double.nearest s m p = Ieee.double.word s r ∧ ((e + 1023).toNat) * 4503599627370496 ≤ r ∧ r ≤ ((e + 1023).toNat + 1) * 4503599627370496 := by
  have e2 : Ieee.double.binade = 4503599627370496 := rfl
  have e3 : Ieee.double.infRung = infR := rfl
  have e4 : Ieee.double.leastPlace = -1074 := rfl
  have e5 : Ieee.double.fractionBits = 52 := rfl
  unfold Ieee.Format.nearest
  simp only [e2, e3, e4, e5]
  rw [if_neg (by omega)]
  have hlast : max (p + (m.log2 : Int) - (52 : Nat)) (-1074) = e - 52 := by omega
  rw [hlast]
  have hcut := cut_bounds s (n := m <<< (p - (e - 52)).toNat) (drop := (e - 52 - p).toNat) (by
    rw [Nat.shiftLeft_eq]
    have := Nat.mul_pos hm (Nat.two_pow_pos (p - (e - 52)).toNat)
    omega) (by rw [Nat.shiftLeft_eq, log2_scale hm]; omega)
  obtain ⟨c1, c2⟩ := hcut
  generalize Ieee.Toward.even.cut s _ _ = c at *
  obtain ⟨k, hk⟩ : ∃ k, k = (e - 52 - -1074).toNat := ⟨_, rfl⟩
  obtain ⟨k2, hk2⟩ : ∃ k, k = (e + 1023).toNat := ⟨_, rfl⟩
  have hkk : k2 = k + 1 := by omega
  have hk3 : k ≤ 2022 := by omega
  rw [← hk, ← hk2]
  clear e2 e3 e4 e5 hlast hk hk2 he
  have hmin : min (k * 4503599627370496 + c) infR = k * 4503599627370496 + c := Nat.min_eq_left (by unfold infR; omega)
  rw [hmin]
  exact ⟨_, rfl, by omega, by omega⟩
theorem log2_mid {m : Nat} (h1 : 4503599627370496 ≤ m) (h2 : m < 9007199254740992) : m.log2 = 52 := by
  have := log2_norm (f := m - 4503599627370496) (by omega)
  rwa [show 4503599627370496 + (m - 4503599627370496) = m by omega] at this
/-- a number's bits, of middling size -/
structure Mid (s : Bool) (b m : Nat) (i : Int) : Prop where
  read : Ieee.double.read b = .number s m i
  lo : 4503599627370496 ≤ m
  hi : m < 9007199254740992
theorem word_eq (s : Bool) (r : Nat) : Ieee.double.word s r = if s then 9223372036854775808 + r else r := rfl
theorem read_word (s : Bool) {Y f : Nat} (hY0 : 1 ≤ Y) (hY : Y ≤ 2046) (hf : f < 4503599627370496) : Ieee.double.read (Ieee.double.word s (Y * 4503599627370496 + f)) = .number s (4503599627370496 + f) (-1074 + ((Y - 1 : Nat) : Int)) := by
  have e1 : Ieee.double.signWeight = 9223372036854775808 := rfl
  have e2 : Ieee.double.binade = 4503599627370496 := rfl
  have e3 : Ieee.double.infRung = infR := rfl
  have e4 : Ieee.double.leastPlace = -1074 := rfl
  unfold Ieee.Format.read
  simp only [e1, e2, e3, e4]
  rw [word_eq]
  have e6 : (if s then 9223372036854775808 + (Y * 4503599627370496 + f) else Y * 4503599627370496 + f) % 9223372036854775808 = Y * 4503599627370496 + f := by split <;> omega
  have e5 : ((if s then 9223372036854775808 + (Y * 4503599627370496 + f) else Y * 4503599627370496 + f) / 9223372036854775808 % 2 == 1) = s := by
    cases s with
    | true =>
      rw [if_pos rfl]
      have : (9223372036854775808 + (Y * 4503599627370496 + f)) / 9223372036854775808 % 2 = 1 := by omega
      rw [this]; rfl
    | false =>
      rw [if_neg (by decide)]
      have : (Y * 4503599627370496 + f) / 9223372036854775808 % 2 = 0 := by omega
      rw [this]; rfl
  have e7 : (Y * 4503599627370496 + f) % 4503599627370496 = f := by omega
  have e8 : (Y * 4503599627370496 + f) / 4503599627370496 = Y := by omega
  rw [e5, e6, if_neg (by omega), if_pos (by unfold infR; omega), e7, e8]
/-- whole numbers -/
theorem int_mid {a : Int} (h0 : a ≠ 0) (h1 : -9223372036854775808 ≤ a) (h2 : a < 9223372036854775808) : ∃ m i, Mid (decide (a < 0)) (floatOfInt .f64 a) m i ∧ -60 ≤ i ∧ i ≤ 20 := by
  have hn : 0 < a.natAbs := by omega
  have hl : a.natAbs.log2 ≤ 63 := by
    rcases Nat.lt_or_ge 63 a.natAbs.log2 with h | h
    · have h3 := Nat.log2_self_le (n := a.natAbs) (by omega)
      have h4 : 2 ^ 64 ≤ 2 ^ a.natAbs.log2 := Nat.pow_le_pow_right (by decide) h
      have : (2 : Nat) ^ 64 = 18446744073709551616 := by decide
      omega
    · exact h
  obtain ⟨r, hr, r1, r2⟩ := nearest_rung (decide (a < 0)) (m := a.natAbs) (p := 0) (e := (a.natAbs.log2 : Int)) hn (by omega) (by omega) (by omega)
  have e : floatOfInt .f64 a = Ieee.double.word (decide (a < 0)) r := hr
  have hY : r = r / 4503599627370496 * 4503599627370496 + r % 4503599627370496 := by omega
  have hrd := read_word (decide (a < 0)) (Y := r / 4503599627370496) (f := r % 4503599627370496) (by omega) (by omega) (Nat.mod_lt _ (by decide))
  rw [← hY] at hrd
  refine ⟨_, _, ⟨by rw [e]; exact hrd, by omega, by omega⟩, by omega, by omega⟩
theorem quo_mid {s t : Bool} {x y m n : Nat} {i j : Int} (hx : Mid s x m i) (hy : Mid t y n j) (h1 : -100 ≤ i - j) (h2 : i - j ≤ 100) : ∃ r, floatBits .quo .f64 x y = some (Ieee.double.word (s ^^ t) r) ∧ 4503599627370496 ≤ r ∧ r < infR := by
  have hm := hx.lo; have hm2 := hx.hi; have hn := hy.lo; have hn2 := hy.hi
  have e5 : Ieee.double.fractionBits = 52 := rfl
  show ∃ r, (((Ieee.double.read x).quotient (Ieee.double.fractionBits + 2) (Ieee.double.read y)).map Ieee.double.write) = _ ∧ _
  rw [hx.read, hy.read]
  unfold Ieee.Datum.quotient
  simp only [e5]
  rw [if_neg (by omega), log2_mid hm hm2, log2_mid hn hn2, Nat.shiftLeft_eq]
  have hd : m * 2 ^ (52 + 2 + 52 - 52) = m * 18014398509481984 := rfl
  rw [hd]
  have q1 : 9007199254740992 ≤ m * 18014398509481984 / n := (Nat.le_div_iff_mul_le (by omega)).2 (by omega)
  have q2 : m * 18014398509481984 / n < 72057594037927936 := (Nat.div_lt_iff_lt_mul (by omega)).2 (by omega)
  generalize m * 18014398509481984 / n = q at *
  have hb : ∀ b : Bool, b.toNat ≤ 1 := by intro b; cases b <;> decide
  have hb1 := hb (m * 18014398509481984 % n != 0)
  generalize (m * 18014398509481984 % n != 0).toNat = z at *
  have hM0 : 0 < 2 * q + z := by omega
  have l1 : 54 ≤ (2 * q + z).log2 := (Nat.le_log2 (by omega)).2 (by show 18014398509481984 ≤ _; omega)
  have l2 : (2 * q + z).log2 < 57 := (Nat.log2_lt (by omega)).2 (by show _ < 144115188075855872; omega)
  obtain ⟨r, hr, r1, r2⟩ := nearest_rung (s ^^ t) (m := 2 * q + z) (p := i - j - ((52 + 2 + 52 - 52 : Nat) : Int) - 1) (e := i - j - ((52 + 2 + 52 - 52 : Nat) : Int) - 1 + ((2 * q + z).log2 : Int)) hM0 rfl (by omega) (by omega)
  refine ⟨r, ?_, by omega, by unfold infR; omega⟩
  show some (Ieee.double.nearest _ _ _) = _
  rw [hr]
theorem quo_same {s : Bool} {x m : Nat} {i : Int} (hx : Mid s x m i) : floatBits .quo .f64 x x = some 4607182418800017408 := by
  have hm := hx.lo; have hm2 := hx.hi
  have e5 : Ieee.double.fractionBits = 52 := rfl
  show (((Ieee.double.read x).quotient (Ieee.double.fractionBits + 2) (Ieee.double.read x)).map Ieee.double.write) = _
  rw [hx.read]
  unfold Ieee.Datum.quotient
  simp only [e5]
  rw [if_neg (by omega), log2_mid hm hm2, Nat.shiftLeft_eq]
  have hd : m * 2 ^ (52 + 2 + 52 - 52) = m * 18014398509481984 := rfl
  rw [hd, Nat.mul_mod_right, Nat.mul_div_cancel_left _ (by omega)]
  show some (Ieee.double.nearest _ _ _) = _
  rw [show (s ^^ s) = false by cases s <;> rfl]
  rw [show (2 * 18014398509481984 + ((0 : Nat) != 0).toNat) = 36028797018963968 from rfl, show (i - i - ((52 + 2 + 52 - 52 : Nat) : Int) - 1) = -55 by omega]
  rw [nearest_exact false (r := 4607182418800017408) (K := 0) (by unfold infR; omega) (by omega) ?_]
  · rfl
  · rw [V_norm (by omega), Nat.pow_zero, Nat.mul_one]
    rw [show ((-55 : Int) + 1074 + (0 : Nat)).toNat = 1019 from rfl, show 4607182418800017408 % 4503599627370496 = 0 from rfl, show 4607182418800017408 / 4503599627370496 - 1 = 3 + 1019 from rfl, Nat.pow_add, ← Nat.mul_assoc]
end Go.Proofs.YtehminpiejophaaDoor
