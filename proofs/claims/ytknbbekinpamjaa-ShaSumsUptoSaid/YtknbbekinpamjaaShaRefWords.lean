/- The document's words: words of 32 bits in numbers of 64; turn and drop. -/
import Derived.Test.YtknbbekinpamjaaShaRefParse
set_option linter.unusedVariables false
namespace Go.Proofs.Ytknbbekinpamjaa
open Go.RowKit

/-- a number of 64 bits as an integer -/
def qI (x : UInt64) : Int := (x.toNat : Int)
/-- a word in a number -/
def up (x : UInt32) : UInt64 := x.toUInt64
theorem qI_nonneg (x : UInt64) : 0 ≤ qI x := by unfold qI; omega
theorem qI_lt (x : UInt64) : qI x ≤ 18446744073709551615 := by unfold qI; have := x.toNat_lt; omega
theorem qI_up (x : UInt32) : qI (up x) = (x.toNat : Int) := by unfold qI up; rw [UInt32.toNat_toUInt64]
theorem wrap_u64' (z : Int) : IntKind.u64.wrap z = z % 18446744073709551616 := by
  simp only [IntKind.wrap, IntKind.bits, IntKind.signed]
  simp
theorem q_add (x y : UInt64) : (qI x + qI y) % 18446744073709551616 = qI (x + y) := by unfold qI; rw [UInt64.toNat_add]; omega
theorem q_wadd (x y : UInt64) : IntKind.u64.wrap (qI x + qI y) = qI (x + y) := by rw [wrap_u64', q_add]
theorem q_sub (x : UInt64) : (4294967295 - qI x) % 18446744073709551616 = qI (4294967295 - x) := by
  unfold qI; rw [UInt64.toNat_sub]; have := x.toNat_lt; simp; omega
theorem q_wsub (x : UInt64) : IntKind.u64.wrap (4294967295 - qI x) = qI (4294967295 - x) := by rw [wrap_u64', q_sub]
theorem up_low (x : UInt64) : up x.toUInt32 = x % 4294967296 := by
  apply UInt64.toNat_inj.1
  rw [UInt64.toNat_mod]
  unfold up
  rw [UInt32.toNat_toUInt64, UInt64.toNat_toUInt32]
  rfl
theorem q_mod (x : UInt64) : qI x % 4294967296 = qI (up x.toUInt32) := by
  rw [up_low]; unfold qI; rw [UInt64.toNat_mod]; rfl
theorem q_tmod (x : UInt64) : (qI x).tmod 4294967296 = qI (up x.toUInt32) := by rw [Int.tmod_eq_emod_of_nonneg (qI_nonneg x), q_mod]
theorem q_wmod (x : UInt64) : IntKind.u64.wrap ((qI x).tmod 4294967296) = qI (up x.toUInt32) := by
  rw [q_tmod, IntWalk.u64_in _ ⟨qI_nonneg _, by have := qI_lt (up x.toUInt32); omega⟩]
theorem bq_of (x : UInt64) : BitVec.ofInt 64 (qI x) = x.toBitVec := by
  unfold qI
  apply BitVec.eq_of_toNat_eq
  rw [BitVec.toNat_ofInt]
  have := x.toNat_lt
  rw [UInt64.toNat_toBitVec]
  omega
theorem wrap_bq (r : BitVec 64) : IntKind.u64.wrap (r.toNat : Int) = (r.toNat : Int) := by
  have := r.isLt
  rw [wrap_u64']
  omega
theorem q_xor (x y : UInt64) : bits .xor .u64 (qI x) (qI y) = qI (x ^^^ y) := by
  unfold bits
  show IntKind.u64.wrap ((BitVec.ofInt 64 (qI x) ^^^ BitVec.ofInt 64 (qI y)).toNat : Int) = _
  rw [bq_of, bq_of, wrap_bq]; rfl
theorem q_and (x y : UInt64) : bits .and .u64 (qI x) (qI y) = qI (x &&& y) := by
  unfold bits
  show IntKind.u64.wrap ((BitVec.ofInt 64 (qI x) &&& BitVec.ofInt 64 (qI y)).toNat : Int) = _
  rw [bq_of, bq_of, wrap_bq]; rfl

/-! ### plain: what the numbers come to as words -/
theorem low_up (x : UInt32) : (up x).toUInt32 = x := by simp [up]
theorem low_not (x : UInt32) : (4294967295 - up x).toUInt32 = ~~~x := by
  apply UInt32.toNat_inj.1
  rw [UInt64.toNat_toUInt32, UInt64.toNat_sub]
  unfold up
  have := x.toNat_lt
  have h : (~~~x).toNat = 4294967295 - x.toNat := by
    rw [UInt32.toNat_not]
    rfl
  rw [h, UInt32.toNat_toUInt64]
  have e : (4294967295 : UInt64).toNat = 4294967295 := rfl
  rw [e]
  omega
theorem low_next (a b c d e f g h : UInt32) : (up a + up b + (up c ^^^ up d ^^^ up e) + (up f ^^^ up g ^^^ up h)).toUInt32 = a + b + (c ^^^ d ^^^ e) + (f ^^^ g ^^^ h) := by
  simp [low_up]
theorem low_t (h a b c e f g k x : UInt32) : (up h + (up a ^^^ up b ^^^ up c) + ((up e &&& up f) ^^^ ((4294967295 - up e) &&& up g)) + up k + up x).toUInt32 = h + (a ^^^ b ^^^ c) + ((e &&& f) ^^^ (~~~e &&& g)) + k + x := by
  rw [← low_not]
  simp [low_up]
theorem low_u (a b c x y z : UInt32) : ((up a ^^^ up b ^^^ up c) + ((up x &&& up y) ^^^ (up x &&& up z) ^^^ (up y &&& up z))).toUInt32 = (a ^^^ b ^^^ c) + ((x &&& y) ^^^ (x &&& z) ^^^ (y &&& z)) := by
  simp [low_up]
theorem low_add (x y : UInt64) : (x + y).toUInt32 = x.toUInt32 + y.toUInt32 := by simp

theorem rotr_toNat (x : UInt32) {k : Nat} (h1 : 1 ≤ k) (h2 : k ≤ 31) : (rotr x k).toNat = x.toNat / 2 ^ k + x.toNat % 2 ^ k * 2 ^ (32 - k) := by
  have hx := x.toNat_lt
  unfold rotr
  rw [UInt32.toNat_or, UInt32.toNat_shiftLeft, UInt32.toNat_shiftRight]
  have e1 : (UInt32.ofNat (32 - k)).toNat = 32 - k := by rw [UInt32.toNat_ofNat']; omega
  have e2 : (UInt32.ofNat k).toNat = k := by rw [UInt32.toNat_ofNat']; omega
  rw [e1, e2, Nat.mod_eq_of_lt (by omega : 32 - k < 32), Nat.mod_eq_of_lt (by omega : k < 32), Nat.shiftLeft_eq, Nat.shiftRight_eq_div_pow]
  have e3 : x.toNat * 2 ^ (32 - k) % 2 ^ 32 = x.toNat % 2 ^ k * 2 ^ (32 - k) := by
    rw [show (2 : Nat) ^ 32 = 2 ^ k * 2 ^ (32 - k) by rw [← Nat.pow_add]; congr 1; omega, Nat.mul_mod_mul_right]
  rw [e3, ← Nat.shiftLeft_eq, ← Nat.shiftLeft_add_eq_or_of_lt, Nat.shiftLeft_eq, Nat.add_comm]
  rw [Nat.div_lt_iff_lt_mul (Nat.two_pow_pos k), ← Nat.pow_add, show 32 - k + k = 32 by omega]
  exact hx
theorem shr_toNat (x : UInt32) {k : Nat} (h : k < 32) : (x >>> UInt32.ofNat k).toNat = x.toNat / 2 ^ k := by
  rw [UInt32.toNat_shiftRight]
  have e2 : (UInt32.ofNat k).toNat = k := by rw [UInt32.toNat_ofNat']; omega
  rw [e2, Nat.mod_eq_of_lt h, Nat.shiftRight_eq_div_pow]

set_option maxRecDepth 100000 in
theorem turn_any (x : UInt32) (k : Nat) (h1 : 1 ≤ k) (h2 : k ≤ 31) (w : World) :
    Calls Try.prog 22 #[.int .u64 (qI (up x)), .int .i64 (k : Int)] w fun e w' => e = .returned (.int .u64 (qI (up (rotr x k)))) ∧ Same w w' := by
  rw [qI_up, qI_up]
  have HR := Lib.hid (rotr_toNat x h1 h2)
  have hx := x.toNat_lt
  generalize x.toNat = X at *
  go_enter Try.func22, Try.ntmps22
  go_wp2_with fail
  go_loopw [5, 6] (fun p i wr => ∃ (j P : Nat), j ≤ k ∧ i = .int .i64 (j : Int) ∧ p = .int .u64 (P : Int) ∧ Hid (P = 2 ^ j) ∧ wr = w) (fun _ i _ => k - (intOf i).toNat)
  case atStart => exact ⟨0, 1, by omega, rfl, rfl, Lib.hid rfl, rfl⟩
  case round =>
    obtain ⟨j, P, hj, rfl, rfl, HP, rfl⟩ := hrel
    have hPle : P ≤ 2147483648 := by rw [HP.out]; exact Nat.pow_le_pow_right (n := 2) (by omega) (show j ≤ 31 by omega)
    by_cases hlt : j < k
    · have hlt' : (j : Int) < (k : Int) := by omega
      have hw : IntKind.u64.wrap ((P : Int) * 2) = ((P * 2 : Nat) : Int) := by rw [IntWalk.u64_in _ (by omega)]; omega
      have hw2 : ((P : Int) * 2) % 18446744073709551616 = ((P * 2 : Nat) : Int) := by omega
      go_wp2_with fail
      go_roundw
      case rel => exact ⟨j + 1, P * 2, by omega, by go_num, by first | rfl | (rw [hw]) | (rw [hw2]), Lib.hid (by rw [HP.out, Nat.pow_succ]), by first | rfl | trivial⟩
      case measure => simp [intOf]; omega
    · have hlt' : ¬ (j : Int) < (k : Int) := by omega
      have hje : j = k := by omega
      have HPK := Lib.hid (show P = 2 ^ k by rw [HP.out, hje])
      have hP0 : 0 < P := by rw [HPK.out]; exact Nat.two_pow_pos k
      have hD : 4294967296 / P = 2 ^ (32 - k) := by
        rw [HPK.out, show (4294967296 : Nat) = 2 ^ 32 from rfl, Nat.pow_div (by omega) (by omega)]
      have hA : X / P < 4294967296 := Nat.lt_of_le_of_lt (Nat.div_le_self _ _) hx
      have hB : X % P < P := Nat.mod_lt _ hP0
      have hBD : X % P * (4294967296 / P) < 4294967296 := by
        have h3 : P * (4294967296 / P) ≤ 4294967296 := Nat.mul_div_le _ _
        have h4 : 0 < 4294967296 / P := Nat.div_pos (by omega) hP0
        exact Nat.lt_of_lt_of_le ((Nat.mul_lt_mul_right h4).2 hB) h3
      have HF := Lib.hid (show (rotr x k).toNat = X / P + X % P * (4294967296 / P) by rw [HR.out, hD, HPK.out])
      have n0 : ¬ (P : Int) = 0 := by omega
      have n1 : ((P : Int) == 0) = false := by simp; omega
      have t1 : (X : Int).tdiv (P : Int) = ((X / P : Nat) : Int) := by rw [Int.tdiv_eq_ediv_of_nonneg (by omega)]; exact (Int.natCast_ediv _ _).symm
      have t2 : (X : Int).tmod (P : Int) = ((X % P : Nat) : Int) := by rw [Int.tmod_eq_emod_of_nonneg (by omega)]; exact (Int.natCast_emod _ _).symm
      have t3 : (4294967296 : Int).tdiv (P : Int) = ((4294967296 / P : Nat) : Int) := by rw [Int.tdiv_eq_ediv_of_nonneg (by omega)]; exact (Int.natCast_ediv _ _).symm
      have s1 : (X : Int) / (P : Int) = ((X / P : Nat) : Int) := (Int.natCast_ediv _ _).symm
      have s2 : (X : Int) % (P : Int) = ((X % P : Nat) : Int) := (Int.natCast_emod _ _).symm
      have s3 : (4294967296 : Int) / (P : Int) = ((4294967296 / P : Nat) : Int) := (Int.natCast_ediv _ _).symm
      have hDl : 4294967296 / P ≤ 4294967296 := Nat.div_le_self _ _
      generalize X / P = a at *
      generalize X % P = b at *
      generalize 4294967296 / P = d at *
      have w1 : IntKind.u64.wrap (a : Int) = (a : Int) := IntWalk.u64_in _ (by omega)
      have w2 : IntKind.u64.wrap (b : Int) = (b : Int) := IntWalk.u64_in _ (by omega)
      have w3 : IntKind.u64.wrap (d : Int) = (d : Int) := IntWalk.u64_in _ (by omega)
      have v4 : (b : Int) * (d : Int) = ((b * d : Nat) : Int) := by push_cast; rfl
      generalize b * d = bd at *
      have w4 : IntKind.u64.wrap (bd : Int) = (bd : Int) := IntWalk.u64_in _ (by omega)
      have w4' : (bd : Int) % 18446744073709551616 = (bd : Int) := by omega
      have w5 : IntKind.u64.wrap ((a : Int) + (bd : Int)) = ((a + bd : Nat) : Int) := by rw [IntWalk.u64_in _ (by omega)]; push_cast; rfl
      have w5' : ((a : Int) + (bd : Int)) % 18446744073709551616 = ((a + bd : Nat) : Int) := by push_cast; omega
      clear HR hD hBD hje
      go_wp2_with fail
      go_quiet (fail)
      go_wp2_with fail
      go_ret
      refine ⟨?_, Same.drewN (Same.refl _) _⟩
      rw [HF.out]
      rfl
theorem drop_nat (X k : Nat) (hk : k ≤ 64) (hX : X < 18446744073709551616) (w : World) :
    Calls Try.prog 23 #[.int .u64 (X : Int), .int .i64 (k : Int)] w fun e w' => e = .returned (.int .u64 ((X / 2 ^ k : Nat) : Int)) ∧ w = w' := by
  have HX := Lib.hid hX
  clear hX
  go_enter Try.func23, Try.ntmps23
  go_wp2_with fail
  go_loopw [0, 5] (fun x i wr => ∃ (j Y : Nat), j ≤ k ∧ i = .int .i64 (j : Int) ∧ x = .int .u64 (Y : Int) ∧ Hid (Y = X / 2 ^ j) ∧ wr = w) (fun _ i _ => k - (intOf i).toNat)
  case atStart => exact ⟨0, X, by omega, rfl, rfl, Lib.hid (by simp), rfl⟩
  case round =>
    obtain ⟨j, Y, hj, rfl, rfl, HP, rfl⟩ := hrel
    have hYle : Y < 18446744073709551616 := by rw [HP.out]; exact Nat.lt_of_le_of_lt (Nat.div_le_self _ _) HX.out
    by_cases hlt : j < k
    · have hlt' : (j : Int) < (k : Int) := by omega
      have t1 : (Y : Int).tdiv 2 = ((Y / 2 : Nat) : Int) := by rw [Int.tdiv_eq_ediv_of_nonneg (by omega)]; omega
      have t2 : (Y : Int) / 2 = ((Y / 2 : Nat) : Int) := by omega
      have hy2 : Y / 2 ≤ Y := Nat.div_le_self _ _
      have HN := Lib.hid (show Y / 2 = X / 2 ^ (j + 1) by rw [HP.out, Nat.div_div_eq_div_mul, Nat.pow_succ])
      generalize Y / 2 = Z at *
      have t3 : IntKind.u64.wrap (Z : Int) = (Z : Int) := IntWalk.u64_in _ (by omega)
      go_wp2_with fail
      go_roundw
      case rel => exact ⟨j + 1, Z, by omega, by go_num, by first | rfl | (rw [t1, t3]) | (rw [t2]), HN, by first | rfl | trivial⟩
      case measure => simp [intOf]; omega
    · have hlt' : ¬ (j : Int) < (k : Int) := by omega
      have hje : j = k := by omega
      have HF := Lib.hid (show X / 2 ^ k = Y by rw [HP.out, hje])
      clear hje
      go_wp2_with fail
      go_ret
      refine ⟨?_, rfl⟩
      rw [show ((X : Int) / 2 ^ k) = (Y : Int) by rw [← HF.out]; push_cast; rfl]
      rfl
theorem drop_any (x : UInt32) (k : Nat) (hk : k < 32) (w : World) :
    Calls Try.prog 23 #[.int .u64 (qI (up x)), .int .i64 (k : Int)] w fun e w' => e = .returned (.int .u64 (qI (up (x >>> UInt32.ofNat k)))) ∧ w = w' := by
  rw [qI_up, qI_up, shr_toNat x hk]
  exact drop_nat x.toNat k (by omega) (by have := x.toNat_lt; omega) w
end Go.Proofs.Ytknbbekinpamjaa
