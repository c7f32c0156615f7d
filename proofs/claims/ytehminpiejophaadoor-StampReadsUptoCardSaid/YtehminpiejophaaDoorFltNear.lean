/- numbers with a point, plain: what can be written is written exactly. -/
import Derived.Test.YtehminpiejophaaDoorFltMax
set_option linter.unusedVariables false
namespace Go.Proofs.YtehminpiejophaaDoor

theorem log2_scale {n k : Nat} (h : 0 < n) : (n * 2 ^ k).log2 = n.log2 + k := by
  have h1 : n ≠ 0 := by omega
  have hp := Nat.two_pow_pos k
  have h2 : n * 2 ^ k ≠ 0 := by have := Nat.mul_pos h hp; omega
  rw [Nat.log2_eq_iff h2]
  have a := Nat.log2_self_le h1
  have b := @Nat.lt_log2_self n
  refine ⟨?_, ?_⟩
  · rw [Nat.pow_add]; exact Nat.mul_le_mul_right _ a
  · rw [show n.log2 + k + 1 = n.log2 + 1 + k by omega, Nat.pow_add]; exact Nat.mul_lt_mul_of_pos_right b hp
theorem cut_exact (s : Bool) {n drop c : Nat} (hc : 0 < c) (h : n = c * 2 ^ drop) : Ieee.Toward.even.cut s n drop = c := by
  have hl : n.log2 = c.log2 + drop := by rw [h, log2_scale hc]
  unfold Ieee.Toward.cut
  have hm : min drop (n.log2 + 2) = drop := by omega
  simp only [hm, Nat.one_shiftLeft]
  have hp := Nat.two_pow_pos drop
  have hr : n % 2 ^ drop = 0 := by rw [h]; exact Nat.mul_mod_left _ _
  have hq : n / 2 ^ drop = c := by rw [h]; exact Nat.mul_div_cancel _ hp
  rw [hr, hq]
  have h0 : 2 ^ drop ≠ 0 := by omega
  simp
theorem V_pos {r : Nat} (h : 0 < r) : 0 < V r := by have := V_lt h; omega
theorem V_norm {r : Nat} (h : 4503599627370496 ≤ r) : V r = (4503599627370496 + r % 4503599627370496) * 2 ^ (r / 4503599627370496 - 1) := by unfold V; rw [if_neg (by omega)]
theorem log2_norm {f : Nat} (h : f < 4503599627370496) : (4503599627370496 + f).log2 = 52 := by
  rw [Nat.log2_eq_iff (by omega)]
  exact ⟨by show 4503599627370496 ≤ _; omega, by show _ < 9007199254740992; omega⟩
theorem log2_V {r : Nat} (h : 4503599627370496 ≤ r) : (V r).log2 = 52 + (r / 4503599627370496 - 1) := by
  rw [V_norm h, log2_scale (by omega), log2_norm (Nat.mod_lt _ (by decide))]
theorem pow_cancel {a b c d e : Nat} (h : a * 2 ^ (b + e) = c * 2 ^ (d + e)) : a * 2 ^ b = c * 2 ^ d := by
  rw [Nat.pow_add, Nat.pow_add, ← Nat.mul_assoc, ← Nat.mul_assoc] at h
  exact Nat.eq_of_mul_eq_mul_right (Nat.two_pow_pos e) h
theorem nearest_exact (s : Bool) {m r K : Nat} {p : Int} (hr : r < infR) (hK : -1074 - (K : Int) ≤ p) (h : m * 2 ^ (p + 1074 + K).toNat = V r * 2 ^ K) : Ieee.double.nearest s m p = Ieee.double.word s r := by
  have e2 : Ieee.double.binade = 4503599627370496 := rfl
  have e3 : Ieee.double.infRung = infR := rfl
  have e4 : Ieee.double.leastPlace = -1074 := rfl
  have e5 : Ieee.double.fractionBits = 52 := rfl
  unfold Ieee.Format.nearest
  simp only [e2, e3, e4, e5]
  by_cases hm : m = 0
  · rw [if_pos hm]
    have : r = 0 := by
      rcases Nat.eq_zero_or_pos r with h1 | h1
      · exact h1
      · rw [hm, Nat.zero_mul] at h
        have := Nat.mul_pos (V_pos h1) (Nat.two_pow_pos K)
        omega
    rw [this]
  · rw [if_neg hm]
    have hr0 : 0 < r := by
      rcases Nat.eq_zero_or_pos r with h1 | h1
      · rw [h1, V_zero, Nat.zero_mul] at h
        have := Nat.mul_pos (show 0 < m by omega) (Nat.two_pow_pos (p + 1074 + K).toNat)
        omega
      · exact h1
    have hl : m.log2 + (p + 1074 + K).toNat = (V r).log2 + K := by
      rw [← log2_scale (by omega), ← log2_scale (V_pos hr0), h]
    -- the place of the last digit, and what is kept
    have key : ∀ last : Int, ∀ c : Nat, 0 < c → -1074 ≤ last → V r = c * 2 ^ (last + 1074).toNat → Ieee.Toward.even.cut s (m <<< (p - last).toNat) (last - p).toNat = c := by
      intro last c hc hlast hV
      apply cut_exact s hc
      rw [Nat.shiftLeft_eq]
      rw [hV, Nat.mul_assoc, ← Nat.pow_add] at h
      rcases Int.le_total last p with h1 | h1
      · rw [show (last - p).toNat = 0 by omega]
        have e : (p + 1074 + (K : Int)).toNat = (p - last).toNat + ((last + 1074).toNat + K) := by omega
        rw [e] at h
        exact pow_cancel (d := 0) (e := (last + 1074).toNat + K) (by rw [h, Nat.zero_add])
      · rw [show (p - last).toNat = 0 by omega]
        have e : (last + 1074).toNat + K = (last - p).toNat + (p + 1074 + (K : Int)).toNat := by omega
        rw [e] at h
        exact pow_cancel (b := 0) (d := (last - p).toNat) (e := (p + 1074 + (K : Int)).toNat) (by rw [Nat.zero_add]; exact h)
    by_cases hn : r < 4503599627370496
    · have hV : V r = r := by unfold V; rw [if_pos hn]
      have hlr : r.log2 < 52 := (Nat.log2_lt (by omega)).2 hn
      have hlast : max (p + (m.log2 : Int) - (52 : Nat)) (-1074) = -1074 := by rw [hV] at hl; omega
      rw [hlast, key (-1074) r hr0 (Int.le_refl _) (by rw [hV, Int.add_left_neg, Int.toNat_zero, Nat.pow_zero, Nat.mul_one])]
      rw [Int.sub_self, Int.toNat_zero, Nat.zero_mul, Nat.zero_add, Nat.min_eq_left (Nat.le_of_lt hr)]
    · have hlV := log2_V (show 4503599627370496 ≤ r by omega)
      have hq : 1 ≤ r / 4503599627370496 := by omega
      obtain ⟨q, hqq⟩ : ∃ q, r / 4503599627370496 = q + 1 := ⟨r / 4503599627370496 - 1, by omega⟩
      have hlast : max (p + (m.log2 : Int) - (52 : Nat)) (-1074) = (q : Int) - 1074 := by omega
      rw [hlast, key ((q : Int) - 1074) (4503599627370496 + r % 4503599627370496) (by omega) (by omega) (by
        rw [V_norm (by omega), hqq]
        congr 2
        omega)]
      rw [show ((q : Int) - 1074 - -1074).toNat = q by omega, show q * 4503599627370496 + (4503599627370496 + r % 4503599627370496) = r by omega, Nat.min_eq_left (Nat.le_of_lt hr)]
end Go.Proofs.YtehminpiejophaaDoor
