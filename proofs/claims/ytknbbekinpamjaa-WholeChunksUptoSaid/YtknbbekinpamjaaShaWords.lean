/- Words of 32 bits as the walk spells them; bits.RotateLeft32. -/
import Derived.Test.YtknbbekinpamjaaMem
import Derived.Laws.Bits
import Derived.Laws.BitsAll
import Derived.Laws.BitsAllLaws
import Derived.Laws.Bits64
import Derived.Laws.Bits64b
import Derived.Laws.Small
import Derived.Laws.ShiftsVarLaws
set_option linter.unusedVariables false
namespace Go.Proofs.Ytknbbekinpamjaa
open Go.RowKit

/-- a word as an integer -/
def uI (x : UInt32) : Int := (x.toNat : Int)
theorem uI_def (x : UInt32) : uI x = (x.toNat : Int) := rfl
theorem uI_nonneg (x : UInt32) : 0 ≤ uI x := by unfold uI; omega
theorem uI_lt (x : UInt32) : uI x ≤ 4294967295 := by unfold uI; have := x.toNat_lt; omega
theorem u_add (x y : UInt32) : (uI x + uI y) % 4294967296 = uI (x + y) := by
  unfold uI; rw [UInt32.toNat_add]; omega
theorem bits_of (op : BinOp) (k : IntKind) (a b r : Nat) (h : bits op k (a : Int) (b : Int) = (r : Int)) : bits op k (a : Int) (b : Int) = (r : Int) := h
theorem bv_of (x : UInt32) : BitVec.ofInt 32 (uI x) = x.toBitVec := by
  unfold uI
  apply BitVec.eq_of_toNat_eq
  rw [BitVec.toNat_ofInt]
  have := x.toNat_lt
  rw [UInt32.toNat_toBitVec]
  omega
theorem wrap_bv (r : BitVec 32) : IntKind.u32.wrap (r.toNat : Int) = (r.toNat : Int) := by
  have := r.isLt
  simp only [IntKind.wrap, IntKind.bits, IntKind.signed]
  simp
  omega
theorem u_xor (x y : UInt32) : bits .xor .u32 (uI x) (uI y) = uI (x ^^^ y) := by
  unfold bits
  show IntKind.u32.wrap ((BitVec.ofInt 32 (uI x) ^^^ BitVec.ofInt 32 (uI y)).toNat : Int) = _
  rw [bv_of, bv_of, wrap_bv]; rfl
theorem u_and (x y : UInt32) : bits .and .u32 (uI x) (uI y) = uI (x &&& y) := by
  unfold bits
  show IntKind.u32.wrap ((BitVec.ofInt 32 (uI x) &&& BitVec.ofInt 32 (uI y)).toNat : Int) = _
  rw [bv_of, bv_of, wrap_bv]; rfl
theorem u_or (x y : UInt32) : bits .or .u32 (uI x) (uI y) = uI (x ||| y) := by
  unfold bits
  show IntKind.u32.wrap ((BitVec.ofInt 32 (uI x) ||| BitVec.ofInt 32 (uI y)).toNat : Int) = _
  rw [bv_of, bv_of, wrap_bv]; rfl
theorem u_not (x : UInt32) : bits .xor .u32 (if IntKind.u32.signed = true then -1 else IntKind.u32.max) (uI x) = uI (~~~x) := by
  have h : (if IntKind.u32.signed = true then -1 else IntKind.u32.max) = uI 4294967295 := by decide
  rw [h, u_xor]
  congr 1
theorem u_shl (x : UInt32) (k : Nat) (hk : k < 32) (p : Int) (hp : p = 2 ^ k) : (uI x * p) % 4294967296 = uI (x <<< (UInt32.ofNat k)) := by
  subst hp
  unfold uI
  rw [UInt32.toNat_shiftLeft]
  have h1 : (UInt32.ofNat k).toNat = k := by rw [UInt32.toNat_ofNat']; omega
  rw [h1, Nat.mod_eq_of_lt hk, Nat.shiftLeft_eq, Int.natCast_emod, Int.natCast_mul, Int.natCast_pow]
  rfl
theorem u_shr (x : UInt32) (k : Nat) (hk : k < 32) (p : Int) (hp : p = 2 ^ k) : uI x / p = uI (x >>> (UInt32.ofNat k)) := by
  subst hp
  unfold uI
  rw [UInt32.toNat_shiftRight]
  have h1 : (UInt32.ofNat k).toNat = k := by rw [UInt32.toNat_ofNat']; omega
  rw [h1, Nat.mod_eq_of_lt hk, Nat.shiftRight_eq_div_pow, Int.natCast_ediv, Int.natCast_pow]
  rfl
theorem u_byte (b : UInt8) : (b.toNat : Int) = uI b.toUInt32 := by unfold uI; rw [UInt8.toNat_toUInt32]
def rotr (x : UInt32) (k : Nat) : UInt32 := (x <<< UInt32.ofNat (32 - k)) ||| (x >>> UInt32.ofNat k)

set_option maxRecDepth 100000 in
theorem rot_2 (x : UInt32) (w : World) : Calls Try.prog 26 #[.int .u32 (uI x), .int .i64 (-2)] w fun e w' => e = .returned (.int .u32 (uI (rotr x 2))) ∧ w = w' := by
  have hx := uI_lt x
  have hx0 := uI_nonneg x
  have hk : bits BinOp.and IntKind.u64 (IntKind.u64.wrap (-2)) 31 = 30 := by decide
  have h1 := u_shl x 30 (by omega) 1073741824 rfl
  have h2 := u_shr x 2 (by omega) 4 rfl
  have h3 := u_or (x <<< (UInt32.ofNat 30)) (x >>> (UInt32.ofNat 2))
  have H := Lib.hid (show bits .or .u32 (uI x * 1073741824 % 4294967296) (uI x / 4) = uI (rotr x 2) from by rw [h1, h2, h3]; rfl)
  clear h1 h2 h3
  go_enter Try.func26, Try.ntmps26
  go_wp2_with fail
  go_ret
  exact ⟨by rw [← H.out]; rfl, rfl⟩
set_option maxRecDepth 100000 in
theorem rot_6 (x : UInt32) (w : World) : Calls Try.prog 26 #[.int .u32 (uI x), .int .i64 (-6)] w fun e w' => e = .returned (.int .u32 (uI (rotr x 6))) ∧ w = w' := by
  have hx := uI_lt x
  have hx0 := uI_nonneg x
  have hk : bits BinOp.and IntKind.u64 (IntKind.u64.wrap (-6)) 31 = 26 := by decide
  have h1 := u_shl x 26 (by omega) 67108864 rfl
  have h2 := u_shr x 6 (by omega) 64 rfl
  have h3 := u_or (x <<< (UInt32.ofNat 26)) (x >>> (UInt32.ofNat 6))
  have H := Lib.hid (show bits .or .u32 (uI x * 67108864 % 4294967296) (uI x / 64) = uI (rotr x 6) from by rw [h1, h2, h3]; rfl)
  clear h1 h2 h3
  go_enter Try.func26, Try.ntmps26
  go_wp2_with fail
  go_ret
  exact ⟨by rw [← H.out]; rfl, rfl⟩
set_option maxRecDepth 100000 in
theorem rot_7 (x : UInt32) (w : World) : Calls Try.prog 26 #[.int .u32 (uI x), .int .i64 (-7)] w fun e w' => e = .returned (.int .u32 (uI (rotr x 7))) ∧ w = w' := by
  have hx := uI_lt x
  have hx0 := uI_nonneg x
  have hk : bits BinOp.and IntKind.u64 (IntKind.u64.wrap (-7)) 31 = 25 := by decide
  have h1 := u_shl x 25 (by omega) 33554432 rfl
  have h2 := u_shr x 7 (by omega) 128 rfl
  have h3 := u_or (x <<< (UInt32.ofNat 25)) (x >>> (UInt32.ofNat 7))
  have H := Lib.hid (show bits .or .u32 (uI x * 33554432 % 4294967296) (uI x / 128) = uI (rotr x 7) from by rw [h1, h2, h3]; rfl)
  clear h1 h2 h3
  go_enter Try.func26, Try.ntmps26
  go_wp2_with fail
  go_ret
  exact ⟨by rw [← H.out]; rfl, rfl⟩
set_option maxRecDepth 100000 in
theorem rot_11 (x : UInt32) (w : World) : Calls Try.prog 26 #[.int .u32 (uI x), .int .i64 (-11)] w fun e w' => e = .returned (.int .u32 (uI (rotr x 11))) ∧ w = w' := by
  have hx := uI_lt x
  have hx0 := uI_nonneg x
  have hk : bits BinOp.and IntKind.u64 (IntKind.u64.wrap (-11)) 31 = 21 := by decide
  have h1 := u_shl x 21 (by omega) 2097152 rfl
  have h2 := u_shr x 11 (by omega) 2048 rfl
  have h3 := u_or (x <<< (UInt32.ofNat 21)) (x >>> (UInt32.ofNat 11))
  have H := Lib.hid (show bits .or .u32 (uI x * 2097152 % 4294967296) (uI x / 2048) = uI (rotr x 11) from by rw [h1, h2, h3]; rfl)
  clear h1 h2 h3
  go_enter Try.func26, Try.ntmps26
  go_wp2_with fail
  go_ret
  exact ⟨by rw [← H.out]; rfl, rfl⟩
set_option maxRecDepth 100000 in
theorem rot_13 (x : UInt32) (w : World) : Calls Try.prog 26 #[.int .u32 (uI x), .int .i64 (-13)] w fun e w' => e = .returned (.int .u32 (uI (rotr x 13))) ∧ w = w' := by
  have hx := uI_lt x
  have hx0 := uI_nonneg x
  have hk : bits BinOp.and IntKind.u64 (IntKind.u64.wrap (-13)) 31 = 19 := by decide
  have h1 := u_shl x 19 (by omega) 524288 rfl
  have h2 := u_shr x 13 (by omega) 8192 rfl
  have h3 := u_or (x <<< (UInt32.ofNat 19)) (x >>> (UInt32.ofNat 13))
  have H := Lib.hid (show bits .or .u32 (uI x * 524288 % 4294967296) (uI x / 8192) = uI (rotr x 13) from by rw [h1, h2, h3]; rfl)
  clear h1 h2 h3
  go_enter Try.func26, Try.ntmps26
  go_wp2_with fail
  go_ret
  exact ⟨by rw [← H.out]; rfl, rfl⟩
set_option maxRecDepth 100000 in
theorem rot_17 (x : UInt32) (w : World) : Calls Try.prog 26 #[.int .u32 (uI x), .int .i64 (-17)] w fun e w' => e = .returned (.int .u32 (uI (rotr x 17))) ∧ w = w' := by
  have hx := uI_lt x
  have hx0 := uI_nonneg x
  have hk : bits BinOp.and IntKind.u64 (IntKind.u64.wrap (-17)) 31 = 15 := by decide
  have h1 := u_shl x 15 (by omega) 32768 rfl
  have h2 := u_shr x 17 (by omega) 131072 rfl
  have h3 := u_or (x <<< (UInt32.ofNat 15)) (x >>> (UInt32.ofNat 17))
  have H := Lib.hid (show bits .or .u32 (uI x * 32768 % 4294967296) (uI x / 131072) = uI (rotr x 17) from by rw [h1, h2, h3]; rfl)
  clear h1 h2 h3
  go_enter Try.func26, Try.ntmps26
  go_wp2_with fail
  go_ret
  exact ⟨by rw [← H.out]; rfl, rfl⟩
set_option maxRecDepth 100000 in
theorem rot_18 (x : UInt32) (w : World) : Calls Try.prog 26 #[.int .u32 (uI x), .int .i64 (-18)] w fun e w' => e = .returned (.int .u32 (uI (rotr x 18))) ∧ w = w' := by
  have hx := uI_lt x
  have hx0 := uI_nonneg x
  have hk : bits BinOp.and IntKind.u64 (IntKind.u64.wrap (-18)) 31 = 14 := by decide
  have h1 := u_shl x 14 (by omega) 16384 rfl
  have h2 := u_shr x 18 (by omega) 262144 rfl
  have h3 := u_or (x <<< (UInt32.ofNat 14)) (x >>> (UInt32.ofNat 18))
  have H := Lib.hid (show bits .or .u32 (uI x * 16384 % 4294967296) (uI x / 262144) = uI (rotr x 18) from by rw [h1, h2, h3]; rfl)
  clear h1 h2 h3
  go_enter Try.func26, Try.ntmps26
  go_wp2_with fail
  go_ret
  exact ⟨by rw [← H.out]; rfl, rfl⟩
set_option maxRecDepth 100000 in
theorem rot_19 (x : UInt32) (w : World) : Calls Try.prog 26 #[.int .u32 (uI x), .int .i64 (-19)] w fun e w' => e = .returned (.int .u32 (uI (rotr x 19))) ∧ w = w' := by
  have hx := uI_lt x
  have hx0 := uI_nonneg x
  have hk : bits BinOp.and IntKind.u64 (IntKind.u64.wrap (-19)) 31 = 13 := by decide
  have h1 := u_shl x 13 (by omega) 8192 rfl
  have h2 := u_shr x 19 (by omega) 524288 rfl
  have h3 := u_or (x <<< (UInt32.ofNat 13)) (x >>> (UInt32.ofNat 19))
  have H := Lib.hid (show bits .or .u32 (uI x * 8192 % 4294967296) (uI x / 524288) = uI (rotr x 19) from by rw [h1, h2, h3]; rfl)
  clear h1 h2 h3
  go_enter Try.func26, Try.ntmps26
  go_wp2_with fail
  go_ret
  exact ⟨by rw [← H.out]; rfl, rfl⟩
set_option maxRecDepth 100000 in
theorem rot_22 (x : UInt32) (w : World) : Calls Try.prog 26 #[.int .u32 (uI x), .int .i64 (-22)] w fun e w' => e = .returned (.int .u32 (uI (rotr x 22))) ∧ w = w' := by
  have hx := uI_lt x
  have hx0 := uI_nonneg x
  have hk : bits BinOp.and IntKind.u64 (IntKind.u64.wrap (-22)) 31 = 10 := by decide
  have h1 := u_shl x 10 (by omega) 1024 rfl
  have h2 := u_shr x 22 (by omega) 4194304 rfl
  have h3 := u_or (x <<< (UInt32.ofNat 10)) (x >>> (UInt32.ofNat 22))
  have H := Lib.hid (show bits .or .u32 (uI x * 1024 % 4294967296) (uI x / 4194304) = uI (rotr x 22) from by rw [h1, h2, h3]; rfl)
  clear h1 h2 h3
  go_enter Try.func26, Try.ntmps26
  go_wp2_with fail
  go_ret
  exact ⟨by rw [← H.out]; rfl, rfl⟩
set_option maxRecDepth 100000 in
theorem rot_25 (x : UInt32) (w : World) : Calls Try.prog 26 #[.int .u32 (uI x), .int .i64 (-25)] w fun e w' => e = .returned (.int .u32 (uI (rotr x 25))) ∧ w = w' := by
  have hx := uI_lt x
  have hx0 := uI_nonneg x
  have hk : bits BinOp.and IntKind.u64 (IntKind.u64.wrap (-25)) 31 = 7 := by decide
  have h1 := u_shl x 7 (by omega) 128 rfl
  have h2 := u_shr x 25 (by omega) 33554432 rfl
  have h3 := u_or (x <<< (UInt32.ofNat 7)) (x >>> (UInt32.ofNat 25))
  have H := Lib.hid (show bits .or .u32 (uI x * 128 % 4294967296) (uI x / 33554432) = uI (rotr x 25) from by rw [h1, h2, h3]; rfl)
  clear h1 h2 h3
  go_enter Try.func26, Try.ntmps26
  go_wp2_with fail
  go_ret
  exact ⟨by rw [← H.out]; rfl, rfl⟩
/-- all turns that are made -/
theorem rot_all (x : UInt32) (k : Int) (hk : k ∈ ([-2, -6, -7, -11, -13, -17, -18, -19, -22, -25] : List Int)) (w : World) : Calls Try.prog 26 #[.int .u32 (uI x), .int .i64 k] w fun e w' => e = .returned (.int .u32 (uI (rotr x k.natAbs))) ∧ w = w' := by
  simp only [List.mem_cons, List.not_mem_nil, or_false] at hk
  rcases hk with rfl | rfl | rfl | rfl | rfl | rfl | rfl | rfl | rfl | rfl
  · exact rot_2 x w
  · exact rot_6 x w
  · exact rot_7 x w
  · exact rot_11 x w
  · exact rot_13 x w
  · exact rot_17 x w
  · exact rot_18 x w
  · exact rot_19 x w
  · exact rot_22 x w
  · exact rot_25 x w
end Go.Proofs.Ytknbbekinpamjaa
