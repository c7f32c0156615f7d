/- numbers with a point, plain: a whole number's, and what Ldexp makes of it. -/
import Derived.Test.YtehminpiejophaaDoorFltNear
set_option linter.unusedVariables false
set_option linter.unusedSimpArgs false
set_option exponentiation.threshold 4000
namespace Go.Proofs.YtehminpiejophaaDoor

structure OfNat' (n r g : Nat) : Prop where
  flt : floatOfInt .f64 (n : Int) = r
  exp : r / 4503599627370496 = 1023 + g
  le : g ≤ 53
  val : (4503599627370496 + r % 4503599627370496) * 2 ^ g = n * 4503599627370496
  inf : r < infR
  norm : 4503599627370496 ≤ r
theorem word_pos (r : Nat) : Ieee.double.word false r = r := rfl
theorem ofNat_mk {n r g : Nat} (h1 : r / 4503599627370496 = 1023 + g) (h2 : g ≤ 53) (h3 : (4503599627370496 + r % 4503599627370496) * 2 ^ g = n * 4503599627370496) : OfNat' n r g := by
  have hi : r < infR := by unfold infR; omega
  have hn : 4503599627370496 ≤ r := by omega
  refine ⟨?_, h1, h2, h3, hi, hn⟩
  have e : floatOfInt .f64 (n : Int) = Ieee.double.nearest false n 0 := by
    show Ieee.double.nearest (decide ((n : Int) < 0)) ((n : Int).natAbs) 0 = _
    rw [decide_eq_false (by omega), Int.natAbs_natCast]
  rw [e, nearest_exact false (r := r) (K := 0) hi (by omega) ?_, word_pos]
  rw [V_norm hn, h1, Nat.pow_zero, Nat.mul_one, show 1023 + g - 1 = g + 1022 by omega, Nat.pow_add, ← Nat.mul_assoc, h3, Nat.mul_assoc]
  rw [show (4503599627370496 : Nat) = 2 ^ 52 from rfl, ← Nat.pow_add]
  congr 1
theorem ofNat_ex {n : Nat} (h1 : 1 ≤ n) (h2 : n ≤ 9007199254740992) : ∃ r g, OfNat' n r g := by
  by_cases h : n = 9007199254740992
  · refine ⟨1076 * 4503599627370496, 53, ofNat_mk (by omega) (by omega) ?_⟩
    rw [h]
  · have hn0 : n ≠ 0 := by omega
    have hg : n.log2 < 53 := (Nat.log2_lt hn0).2 (by show n < 9007199254740992; omega)
    have a := Nat.log2_self_le hn0
    have b := @Nat.lt_log2_self n
    generalize n.log2 = g at *
    have hp : 2 ^ g * 2 ^ (52 - g) = 4503599627370496 := by rw [← Nat.pow_add, show g + (52 - g) = 52 by omega]
    have hp2 : 2 ^ (g + 1) * 2 ^ (52 - g) = 9007199254740992 := by rw [← Nat.pow_add, show g + 1 + (52 - g) = 53 by omega]
    have a2 := Nat.mul_le_mul_right (2 ^ (52 - g)) a
    have b2 := Nat.mul_lt_mul_of_pos_right b (Nat.two_pow_pos (52 - g))
    rw [hp] at a2
    rw [hp2] at b2
    have hback : n * 2 ^ (52 - g) * 2 ^ g = n * 4503599627370496 := by rw [Nat.mul_assoc, Nat.mul_comm (2 ^ (52 - g)), hp]
    generalize n * 2 ^ (52 - g) = c at *
    refine ⟨(1023 + g) * 4503599627370496 + (c - 4503599627370496), g, ofNat_mk (by omega) (by omega) ?_⟩
    have e : 4503599627370496 + ((1023 + g) * 4503599627370496 + (c - 4503599627370496)) % 4503599627370496 = c := by omega
    rw [e, hback]
/-- Ldexp's product, where the exponent fits -/
def ldB (f : Nat) (X : Int) : Nat := Ieee.double.nearest false (4503599627370496 * (4503599627370496 + f)) (X - 104)
theorem ldB_lt (f : Nat) (X : Int) : ldB f X < 2 ^ 64 := Ieee.Format.nearest_lt _ _ _ _
theorem ldB_exact {n r g R : Nat} {p : Int} (h : OfNat' n r g) (hp : -1074 ≤ p) (hR : R < infR) (hv : n * 2 ^ (p + 1074).toNat = V R) : ldB (r % 4503599627370496) (p + g) = R := by
  unfold ldB
  rw [nearest_exact false (r := R) (K := 200) hR (by omega) ?_, word_pos]
  have hval := h.val
  rw [← hv]
  have e : (p + (g : Int) - 104 + 1074 + (200 : Nat)).toNat = g + ((p + 1074).toNat + 96) := by omega
  rw [e, Nat.pow_add, Nat.mul_assoc, ← Nat.mul_assoc (4503599627370496 + r % 4503599627370496), hval, Nat.pow_add]
  generalize 2 ^ (p + 1074).toNat = u
  rw [show (200 : Nat) = 52 + (52 + 96) by rfl, Nat.pow_add 2 52, Nat.pow_add 2 52]
  rw [show (4503599627370496 : Nat) = 2 ^ 52 from rfl]
  generalize (2 : Nat) ^ 52 = q
  generalize (2 : Nat) ^ 96 = z
  rw [Nat.mul_comm q, Nat.mul_assoc, Nat.mul_assoc, Nat.mul_assoc, Nat.mul_assoc]
  congr 1
  rw [Nat.mul_comm u, Nat.mul_comm u]
  simp only [Nat.mul_assoc, Nat.mul_comm, Nat.mul_left_comm]
/-- too great -/
theorem ld_great {n r g R : Nat} {p : Int} (h : OfNat' n r g) (hn : 1 ≤ n) (hX : 1023 < p + g) (hR : R < infR) (hv : n * 2 ^ (p + 1074).toNat = V R) : False := by
  have hR1 : 4503599627370496 ≤ R := by
    rcases Nat.lt_or_ge R 4503599627370496 with h1 | h1
    · have e : V R = R := by unfold V; rw [if_pos h1]
      rw [e] at hv
      have h2 : 2 ^ 52 ≤ 2 ^ (p + 1074).toNat := Nat.pow_le_pow_right (by decide) (by have := h.le; omega)
      have h3 := Nat.mul_le_mul hn h2
      have : (2 : Nat) ^ 52 = 4503599627370496 := by decide
      omega
    · exact h1
  have hl := log2_V hR1
  rw [← hv, log2_scale (by omega)] at hl
  have hg : n.log2 = g := by
    have h1 : (n * 4503599627370496).log2 = n.log2 + 52 := log2_scale (n := n) (k := 52) (by omega)
    rw [← h.val, log2_scale (by omega), log2_norm (Nat.mod_lt _ (by decide))] at h1
    omega
  have hle := h.le
  unfold infR at hR
  omega
end Go.Proofs.YtehminpiejophaaDoor
