/- The walks of the document's answer for layer 4. -/
import Derived.Test.YtdleobdbicdmoaaGearWalks
import Derived.Test.YtdleobdbicdmoaaBytesList
set_option linter.unusedVariables false
namespace Go.Proofs.Ytdleobdbicdmoaa
open Go.RowKit

theorem div_div2 (z : Int) (k : Nat) : z / 2 ^ k / 2 = z / 2 ^ (k + 1) := by
  rw [Int.pow_succ, Int.ediv_ediv_of_nonneg (by exact Int.pow_nonneg (by omega))]

def U64 (z : Int) : Prop := 0 ≤ z ∧ z ≤ 18446744073709551615
theorem u64_wrap (n : Int) : U64 (IntKind.u64.wrap n) := by unfold U64; rw [IntKind.wrap_u64]; omega
theorem u64_half {y : Int} (h : U64 y) : IntKind.u64.wrap (y.tdiv 2) = y / 2 ∧ U64 (y / 2) := by
  obtain ⟨h0, h1⟩ := h
  have e : y.tdiv 2 = y / 2 := Int.tdiv_eq_ediv_of_nonneg h0
  refine ⟨?_, by unfold U64; omega⟩
  rw [e]
  exact IntWalk.u64_in _ ⟨by omega, by omega⟩

theorem down_any (z : Int) (n : Nat) (w : World) (hz : U64 z) (hn : n ≤ 64) :
    Calls Try.prog 21 #[.int .u64 z, .int .i64 (n : Int)] w fun e w' => e = .returned (.int .u64 (z / 2 ^ n)) ∧ w = w' := by
  go_enter Try.func21, Try.ntmps21
  go_wp2_with fail
  go_loop [0, 5] (fun v i => ∃ (k : Nat) (y : Int), k ≤ n ∧ i = .int .i64 k ∧ v = .int .u64 y ∧ U64 y ∧ Hid (y = z / 2 ^ k)) (fun _ i => n - (intOf i).toNat)
  case atStart => exact ⟨0, z, by omega, rfl, rfl, hz, Lib.hid (by simp)⟩
  case round =>
    obtain ⟨k, y, hk, rfl, rfl, hy, H⟩ := hrel
    by_cases hlt : k < n
    · go_wp2_with fail
      go_round
      case rel => exact ⟨k + 1, y / 2, by omega, by go_num, by rw [(u64_half hy).1], (u64_half hy).2, Lib.hid (by rw [H.out, div_div2])⟩
      case measure => simp [intOf]; omega
    · have hkn : k = n := by omega
      have HK := Lib.hid hkn
      clear hkn
      go_wp2_with fail
      go_ret
      exact ⟨by rw [← HK.out, ← H.out]; rfl, rfl⟩

theorem refgear_any (x : Int) (w : World) (h0 : 0 ≤ x) (h1 : x ≤ 255) :
    Calls Try.prog 17 #[.int .u8 x] w fun e w' => e = .returned (.int .u64 (gearI x)) ∧ w = w' := by
  have n1 := u64_wrap ((x + 1) * 11400714819323198485)
  have n2 := u64_wrap (bits BinOp.xor IntKind.u64 (IntKind.u64.wrap ((x + 1) * 11400714819323198485)) (IntKind.u64.wrap ((x + 1) * 11400714819323198485) / 2 ^ 30) * 13787848793156543929)
  have n3 := u64_wrap (bits BinOp.xor IntKind.u64 (IntKind.u64.wrap (bits BinOp.xor IntKind.u64 (IntKind.u64.wrap ((x + 1) * 11400714819323198485)) (IntKind.u64.wrap ((x + 1) * 11400714819323198485) / 2 ^ 30) * 13787848793156543929)) (IntKind.u64.wrap (bits BinOp.xor IntKind.u64 (IntKind.u64.wrap ((x + 1) * 11400714819323198485)) (IntKind.u64.wrap ((x + 1) * 11400714819323198485) / 2 ^ 30) * 13787848793156543929) / 2 ^ 27) * 10723151780598845931)
  go_enter Try.func17, Try.ntmps17
  go_wp2_with fail
  refine (down_any _ 30 _ n1 (by omega)).mono ?_
  rintro e w' ⟨rfl, rfl⟩
  generalize hz1 : IntKind.u64.wrap ((x + 1) * 11400714819323198485) = z1 at *
  have Z1 := Lib.hid hz1
  clear hz1 n1
  have e30 : (2 : Int) ^ 30 = 1073741824 := by decide
  have e27 : (2 : Int) ^ 27 = 134217728 := by decide
  have e31 : (2 : Int) ^ 31 = 2147483648 := by decide
  rw [e30] at n2 n3 ⊢
  rw [e27] at n3
  go_wp2_with fail
  refine (down_any _ 27 _ n2 (by omega)).mono ?_
  rintro e w' ⟨rfl, rfl⟩
  rw [e27]
  generalize hz2 : IntKind.u64.wrap (bits BinOp.xor IntKind.u64 z1 (z1 / 1073741824) * 13787848793156543929) = z2 at *
  have Z2 := Lib.hid hz2
  clear hz2 n2
  go_wp2_with fail
  refine (down_any _ 31 _ n3 (by omega)).mono ?_
  rintro e w' ⟨rfl, rfl⟩
  rw [e31]
  generalize hz3 : IntKind.u64.wrap (bits BinOp.xor IntKind.u64 z2 (z2 / 134217728) * 10723151780598845931) = z3 at *
  have Z3 := Lib.hid hz3
  clear hz3 n3 e30 e27 e31
  go_wp2_with fail
  go_ret
  refine ⟨?_, rfl⟩
  have hg : gearI x = bits BinOp.xor IntKind.u64 z3 (z3 / 2147483648) := by
    simp only [gearI, mixI]
    rw [Z1.out, Z2.out, Z3.out]
  rw [hg]
  rfl

theorem wrong_any (mn mx b : Int) (w : World) :
    Calls Try.prog 14 #[.int .i64 mn, .int .i64 mx, .int .i64 b] w fun e w' => e = .returned (.int .i64 (if wrongB mn mx b then 1 else 0)) ∧ w = w' := by
  by_cases hw : wrongB mn mx b = true
  · have h1 := wrongB_true hw
    rw [hw]
    have H := Lib.hid h1
    clear h1 hw
    go_enter Try.func14, Try.ntmps14
    go_wp2
    all_goals
      go_ret
      have h1 := H.out
      first | exact ⟨rfl, rfl⟩ | (exfalso; simp_all; omega)
  · have hw' : wrongB mn mx b = false := by simpa using hw
    obtain ⟨h1, h2, h3, h4, h5⟩ := wrongB_false hw'
    rw [hw']
    clear hw hw'
    go_enter Try.func14, Try.ntmps14
    go_wp2
    go_ret
    exact ⟨rfl, rfl⟩
end Go.Proofs.Ytdleobdbicdmoaa
