/- numbers with a point, plain: what bits stand for, and how they stand to each other. -/
import Derived.Test.YtehminpiejophaaDoorMem
import Derived.Laws.FloatArith
set_option linter.unusedVariables false
namespace Go.Proofs.YtehminpiejophaaDoor

def isNan (b : Nat) : Bool := FloatKind.f64.format.order b b != some .eq
def nanB : Nat := 9221120237041090560
def canonB (b : Nat) : Nat := if isNan b then nanB else b
def rungB (b : Nat) : Nat := b % 9223372036854775808
def sgnB (b : Nat) : Bool := b / 9223372036854775808 % 2 == 1
def infR : Nat := 9218868437227405312
/-- a rung's number, in units of the least -/
def V (r : Nat) : Nat := if r < 4503599627370496 then r else (4503599627370496 + r % 4503599627370496) * 2 ^ (r / 4503599627370496 - 1)
def S (b : Nat) : Int := if sgnB b then -(V (rungB b) : Int) else (V (rungB b) : Int)

theorem V_succ (r : Nat) : V r < V (r + 1) := by
  unfold V
  by_cases h1 : r + 1 < 4503599627370496
  · rw [if_pos (by omega), if_pos h1]; omega
  · rw [if_neg h1]
    by_cases h2 : r < 4503599627370496
    · obtain rfl : r = 4503599627370495 := by omega
      rw [if_pos h2]; decide
    · rw [if_neg h2]
      have hq : 1 ≤ r / 4503599627370496 := by omega
      obtain ⟨q, hq⟩ : ∃ q, r / 4503599627370496 = q + 1 := ⟨r / 4503599627370496 - 1, by omega⟩
      by_cases h3 : r % 4503599627370496 + 1 < 4503599627370496
      · have e1 : (r + 1) / 4503599627370496 = q + 1 := by omega
        have e2 : (r + 1) % 4503599627370496 = r % 4503599627370496 + 1 := by omega
        rw [e1, e2, hq]
        exact Nat.mul_lt_mul_of_pos_right (by omega) (Nat.two_pow_pos _)
      · have e1 : (r + 1) / 4503599627370496 = q + 2 := by omega
        have e2 : (r + 1) % 4503599627370496 = 0 := by omega
        have e3 : r % 4503599627370496 = 4503599627370495 := by omega
        rw [e1, e2, e3, hq]
        have hp := Nat.two_pow_pos q
        have e4 : 2 ^ (q + 2 - 1) = 2 * 2 ^ q := by rw [show q + 2 - 1 = q + 1 by omega, Nat.pow_succ]; omega
        have e5 : 2 ^ (q + 1 - 1) = 2 ^ q := by rw [Nat.add_sub_cancel]
        rw [e4, e5]
        omega
theorem V_lt {r r' : Nat} (h : r < r') : V r < V r' := by
  induction h with
  | refl => exact V_succ r
  | step _ ih => exact Nat.lt_trans ih (V_succ _)
theorem V_inj {r r' : Nat} (h : V r = V r') : r = r' := by
  rcases Nat.lt_trichotomy r r' with h1 | h1 | h1
  · have := V_lt h1; omega
  · exact h1
  · have := V_lt h1; omega
theorem V_zero : V 0 = 0 := rfl

theorem read_fin {b : Nat} (h : rungB b < infR) : ∃ (m : Nat) (p : Int), Ieee.double.read b = .number (sgnB b) m p ∧ -1074 ≤ p ∧ m * 2 ^ (p + 1074).toNat = V (rungB b) := by
  have e1 : Ieee.double.signWeight = 9223372036854775808 := rfl
  have e2 : Ieee.double.binade = 4503599627370496 := rfl
  have e3 : Ieee.double.infRung = infR := rfl
  have e4 : Ieee.double.leastPlace = -1074 := rfl
  unfold Ieee.Format.read
  simp only [e1, e2, e3, e4]
  have h' : b % 9223372036854775808 < infR := h
  by_cases h1 : b % 9223372036854775808 < 4503599627370496
  · rw [if_pos h1]
    refine ⟨_, _, rfl, Int.le_refl _, ?_⟩
    unfold V rungB
    rw [if_pos h1]; simp
  · rw [if_neg h1, if_pos h']
    refine ⟨_, _, rfl, by omega, ?_⟩
    unfold V rungB
    rw [if_neg h1]
    congr 2
    omega
theorem read_inf {b : Nat} (h : rungB b = infR) : Ieee.double.read b = .infinity (sgnB b) := by
  have e1 : Ieee.double.signWeight = 9223372036854775808 := rfl
  have e2 : Ieee.double.binade = 4503599627370496 := rfl
  have e3 : Ieee.double.infRung = infR := rfl
  unfold Ieee.Format.read
  simp only [e1, e2, e3]
  have h' : b % 9223372036854775808 = infR := h
  rw [if_neg (by rw [h']; decide), if_neg (by omega), if_pos h']; rfl
theorem read_nan {b : Nat} (h : infR < rungB b) : ∃ s f, Ieee.double.read b = .nan s f := by
  have e1 : Ieee.double.signWeight = 9223372036854775808 := rfl
  have e2 : Ieee.double.binade = 4503599627370496 := rfl
  have e3 : Ieee.double.infRung = infR := rfl
  unfold Ieee.Format.read
  simp only [e1, e2, e3]
  have h' : infR < b % 9223372036854775808 := h
  have h2 : (4503599627370496 : Nat) ≤ infR := by decide
  rw [if_neg (by omega), if_neg (by omega), if_neg (by omega)]
  exact ⟨_, _, rfl⟩
theorem signed_eq (s : Bool) (m up : Nat) : Ieee.signed s m up = if s then -((m * 2 ^ up : Nat) : Int) else ((m * 2 ^ up : Nat) : Int) := by
  unfold Ieee.signed
  rw [Nat.shiftLeft_eq]
theorem compare_scale {x y : Int} {k : Nat} (hk : 0 < k) : compare (x * (k : Int)) (y * (k : Int)) = compare x y := by
  have hk' : (0 : Int) < (k : Int) := by omega
  rcases Int.lt_trichotomy x y with h | h | h
  · have h2 : x * (k : Int) < y * (k : Int) := Int.mul_lt_mul_of_pos_right h hk'
    rw [Int.compare_eq_lt.2 h, Int.compare_eq_lt.2 h2]
  · rw [h]; simp
  · have h2 : y * (k : Int) < x * (k : Int) := Int.mul_lt_mul_of_pos_right h hk'
    rw [Int.compare_eq_gt.2 h, Int.compare_eq_gt.2 h2]
theorem scale_one {s : Bool} {m : Nat} {p base : Int} {r : Nat} (hp : base ≤ p) (hb : -1074 ≤ base) (h : m * 2 ^ (p + 1074).toNat = r) : Ieee.signed s m (p - base).toNat * ((2 ^ (base + 1074).toNat : Nat) : Int) = if s then -(r : Int) else (r : Int) := by
  rw [signed_eq]
  have e : m * 2 ^ (p - base).toNat * 2 ^ (base + 1074).toNat = r := by
    rw [Nat.mul_assoc, ← Nat.pow_add, ← h]
    congr 2
    omega
  cases s with
  | true => simp only [if_true]; rw [Int.neg_mul, ← Int.natCast_mul, e]
  | false => simp only [Bool.false_eq_true, if_false]; rw [← Int.natCast_mul, e]
theorem order_fin {a b : Nat} (ha : rungB a < infR) (hb : rungB b < infR) : FloatKind.f64.format.order a b = some (compare (S a) (S b)) := by
  obtain ⟨m, i, e1, h1, h2⟩ := read_fin ha
  obtain ⟨n, j, e3, h3, h4⟩ := read_fin hb
  show (Ieee.double.read a).order (Ieee.double.read b) = _
  rw [e1, e3]
  show some (compare _ _) = _
  congr 1
  rw [← compare_scale (k := 2 ^ (min i j + 1074).toNat) (Nat.two_pow_pos _), scale_one (by omega) (by omega) h2, scale_one (by omega) (by omega) h4]
  rfl
theorem nan_iff (b : Nat) : isNan b = decide (infR < rungB b) := by
  unfold isNan
  rcases Nat.lt_trichotomy (rungB b) infR with h | h | h
  · rw [order_fin h h]
    have : compare (S b) (S b) = .eq := by simp
    rw [this]
    simp; omega
  · have : FloatKind.f64.format.order b b = some .eq := by
      show (Ieee.double.read b).order (Ieee.double.read b) = _
      rw [read_inf h]
      show some (compare _ _) = _
      simp
    rw [this]
    simp; omega
  · obtain ⟨s, f, e⟩ := read_nan h
    have : FloatKind.f64.format.order b b = none := by
      show (Ieee.double.read b).order (Ieee.double.read b) = _
      rw [e]; rfl
    rw [this]
    simp [h]
/-- the place in the order -/
def keyB (b : Nat) : Nat := let c := canonB b; if 9223372036854775808 ≤ c then 18446744073709551615 - c else c + 9223372036854775808
theorem canonB_canonB (b : Nat) : canonB (canonB b) = canonB b := by
  unfold canonB
  by_cases h : isNan b = true
  · rw [if_pos h, if_pos (by rw [nan_iff]; decide)]
  · rw [if_neg h, if_neg h]
theorem canonB_lt {b : Nat} (h : b < 2 ^ 64) : canonB b < 2 ^ 64 := by
  unfold canonB nanB
  split
  · decide
  · exact h
def cmpB (a b : Nat) : Int := if keyB a < keyB b then -1 else if keyB b < keyB a then 1 else 0
end Go.Proofs.YtehminpiejophaaDoor
