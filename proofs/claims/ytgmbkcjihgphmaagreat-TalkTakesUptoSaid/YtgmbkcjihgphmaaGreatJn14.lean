/- Contracts and laws for what the statement reaches, joined: ShaWords, ShaPlain, ShaRounds, ShaLoad. -/
import Derived.Test.YtgmbkcjihgphmaaGreatJn1
import Derived.Test.YtgmbkcjihgphmaaGreatJn2
import Derived.Test.YtgmbkcjihgphmaaGreatJn3
import Derived.Deep.CutBlock
import Derived.Deep.DeepCutAuto
import Derived.Deep.WholeRow
import Derived.Laws.Bits
import Derived.Laws.Bits64
import Derived.Laws.Bits64b
import Derived.Laws.BitsAll
import Derived.Laws.BitsAllLaws
import Derived.Laws.CopyOwn
import Derived.Laws.CopyRow
import Derived.Laws.ShiftsVarLaws
import Derived.Laws.Small
import Derived.Laws.Tables
/- Words of 32 bits as the walk spells them; bits.RotateLeft32. -/
set_option linter.unusedVariables false
namespace Go.Proofs.YtgmbkcjihgphmaaGreat
open Go.RowKit
/-- a word as an integer -/
def uI (x : UInt32) : Int := (x.toNat : Int)
theorem uI_nonneg (x : UInt32) : 0 ≤ uI x := by unfold uI; omega
theorem uI_lt (x : UInt32) : uI x ≤ 4294967295 := by unfold uI; have := x.toNat_lt; omega
theorem u_add (x y : UInt32) : (uI x + uI y) % 4294967296 = uI (x + y) := by
 unfold uI; rw [UInt32.toNat_add]; omega
theorem bv_of (x : UInt32) : BitVec.ofInt 32 (uI x) = x.toBitVec := by
 unfold uI
 apply BitVec.eq_of_toNat_eq
 rw [BitVec.toNat_ofInt]
 have := x.toNat_lt
 rw [UInt32.toNat_toBitVec]
 omega
theorem wrap_bv (r : BitVec 32) : IntKind.u32.wrap (r.toNat : Int) = (r.toNat : Int) := by
 have := r.isLt
 simp only [IntKind.wrap, IntKind.bits, IntKind.signed]
 simp
 omega
theorem u_xor (x y : UInt32) : bits .xor .u32 (uI x) (uI y) = uI (x ^^^ y) := by
 unfold bits
 show IntKind.u32.wrap ((BitVec.ofInt 32 (uI x) ^^^ BitVec.ofInt 32 (uI y)).toNat : Int) = _
 rw [bv_of, bv_of, wrap_bv]; rfl
theorem u_and (x y : UInt32) : bits .and .u32 (uI x) (uI y) = uI (x &&& y) := by
 unfold bits
 show IntKind.u32.wrap ((BitVec.ofInt 32 (uI x) &&& BitVec.ofInt 32 (uI y)).toNat : Int) = _
 rw [bv_of, bv_of, wrap_bv]; rfl
theorem u_or (x y : UInt32) : bits .or .u32 (uI x) (uI y) = uI (x ||| y) := by
 unfold bits
 show IntKind.u32.wrap ((BitVec.ofInt 32 (uI x) ||| BitVec.ofInt 32 (uI y)).toNat : Int) = _
 rw [bv_of, bv_of, wrap_bv]; rfl
theorem u_not (x : UInt32) : bits .xor .u32 (if IntKind.u32.signed = true then -1 else IntKind.u32.max) (uI x) = uI (~~~x) := by
 have h : (if IntKind.u32.signed = true then -1 else IntKind.u32.max) = uI 4294967295 := by decide
 rw [h, u_xor]
 congr 1
theorem u_shl (x : UInt32) (k : Nat) (hk : k < 32) (p : Int) (hp : p = 2 ^ k) : (uI x * p) % 4294967296 = uI (x <<< (UInt32.ofNat k)) := by
 subst hp
 unfold uI
 rw [UInt32.toNat_shiftLeft]
 have h1 : (UInt32.ofNat k).toNat = k := by rw [UInt32.toNat_ofNat']; omega
 rw [h1, Nat.mod_eq_of_lt hk, Nat.shiftLeft_eq, Int.natCast_emod, Int.natCast_mul, Int.natCast_pow]
 rfl
theorem u_shr (x : UInt32) (k : Nat) (hk : k < 32) (p : Int) (hp : p = 2 ^ k) : uI x / p = uI (x >>> (UInt32.ofNat k)) := by
 subst hp
 unfold uI
 rw [UInt32.toNat_shiftRight]
 have h1 : (UInt32.ofNat k).toNat = k := by rw [UInt32.toNat_ofNat']; omega
 rw [h1, Nat.mod_eq_of_lt hk, Nat.shiftRight_eq_div_pow, Int.natCast_ediv, Int.natCast_pow]
 rfl
theorem u_byte (b : UInt8) : (b.toNat : Int) = uI b.toUInt32 := by unfold uI; rw [UInt8.toNat_toUInt32]
def rotr (x : UInt32) (k : Nat) : UInt32 := (x <<< UInt32.ofNat (32 - k)) ||| (x >>> UInt32.ofNat k)
set_option maxRecDepth 100000 in
theorem rot_2 (x : UInt32) (w : World) : Calls Tryz.prog 63 #[.int .u32 (uI x), .int .i64 (-2)] w fun e w' => e = .returned (.int .u32 (uI (rotr x 2))) ∧ w = w' := by
 have hx := uI_lt x
 have hx0 := uI_nonneg x
 have hk : bits BinOp.and IntKind.u64 (IntKind.u64.wrap (-2)) 31 = 30 := by decide
 have h1 := u_shl x 30 (by omega) 1073741824 rfl
 have h2 := u_shr x 2 (by omega) 4 rfl
 have h3 := u_or (x <<< (UInt32.ofNat 30)) (x >>> (UInt32.ofNat 2))
 have H := Lib.hid (show bits .or .u32 (uI x * 1073741824 % 4294967296) (uI x / 4) = uI (rotr x 2) from by rw [h1, h2, h3]; rfl)
 clear h1 h2 h3
 go_enter Tryz.func63, Tryz.ntmps63
 go_wp2_with fail
 go_ret
 exact ⟨by rw [← H.out]; rfl, rfl⟩
set_option maxRecDepth 100000 in
theorem rot_6 (x : UInt32) (w : World) : Calls Tryz.prog 63 #[.int .u32 (uI x), .int .i64 (-6)] w fun e w' => e = .returned (.int .u32 (uI (rotr x 6))) ∧ w = w' := by
 have hx := uI_lt x
 have hx0 := uI_nonneg x
 have hk : bits BinOp.and IntKind.u64 (IntKind.u64.wrap (-6)) 31 = 26 := by decide
 have h1 := u_shl x 26 (by omega) 67108864 rfl
 have h2 := u_shr x 6 (by omega) 64 rfl
 have h3 := u_or (x <<< (UInt32.ofNat 26)) (x >>> (UInt32.ofNat 6))
 have H := Lib.hid (show bits .or .u32 (uI x * 67108864 % 4294967296) (uI x / 64) = uI (rotr x 6) from by rw [h1, h2, h3]; rfl)
 clear h1 h2 h3
 go_enter Tryz.func63, Tryz.ntmps63
 go_wp2_with fail
 go_ret
 exact ⟨by rw [← H.out]; rfl, rfl⟩
set_option maxRecDepth 100000 in
theorem rot_7 (x : UInt32) (w : World) : Calls Tryz.prog 63 #[.int .u32 (uI x), .int .i64 (-7)] w fun e w' => e = .returned (.int .u32 (uI (rotr x 7))) ∧ w = w' := by
 have hx := uI_lt x
 have hx0 := uI_nonneg x
 have hk : bits BinOp.and IntKind.u64 (IntKind.u64.wrap (-7)) 31 = 25 := by decide
 have h1 := u_shl x 25 (by omega) 33554432 rfl
 have h2 := u_shr x 7 (by omega) 128 rfl
 have h3 := u_or (x <<< (UInt32.ofNat 25)) (x >>> (UInt32.ofNat 7))
 have H := Lib.hid (show bits .or .u32 (uI x * 33554432 % 4294967296) (uI x / 128) = uI (rotr x 7) from by rw [h1, h2, h3]; rfl)
 clear h1 h2 h3
 go_enter Tryz.func63, Tryz.ntmps63
 go_wp2_with fail
 go_ret
 exact ⟨by rw [← H.out]; rfl, rfl⟩
set_option maxRecDepth 100000 in
theorem rot_11 (x : UInt32) (w : World) : Calls Tryz.prog 63 #[.int .u32 (uI x), .int .i64 (-11)] w fun e w' => e = .returned (.int .u32 (uI (rotr x 11))) ∧ w = w' := by
 have hx := uI_lt x
 have hx0 := uI_nonneg x
 have hk : bits BinOp.and IntKind.u64 (IntKind.u64.wrap (-11)) 31 = 21 := by decide
 have h1 := u_shl x 21 (by omega) 2097152 rfl
 have h2 := u_shr x 11 (by omega) 2048 rfl
 have h3 := u_or (x <<< (UInt32.ofNat 21)) (x >>> (UInt32.ofNat 11))
 have H := Lib.hid (show bits .or .u32 (uI x * 2097152 % 4294967296) (uI x / 2048) = uI (rotr x 11) from by rw [h1, h2, h3]; rfl)
 clear h1 h2 h3
 go_enter Tryz.func63, Tryz.ntmps63
 go_wp2_with fail
 go_ret
 exact ⟨by rw [← H.out]; rfl, rfl⟩
set_option maxRecDepth 100000 in
theorem rot_13 (x : UInt32) (w : World) : Calls Tryz.prog 63 #[.int .u32 (uI x), .int .i64 (-13)] w fun e w' => e = .returned (.int .u32 (uI (rotr x 13))) ∧ w = w' := by
 have hx := uI_lt x
 have hx0 := uI_nonneg x
 have hk : bits BinOp.and IntKind.u64 (IntKind.u64.wrap (-13)) 31 = 19 := by decide
 have h1 := u_shl x 19 (by omega) 524288 rfl
 have h2 := u_shr x 13 (by omega) 8192 rfl
 have h3 := u_or (x <<< (UInt32.ofNat 19)) (x >>> (UInt32.ofNat 13))
 have H := Lib.hid (show bits .or .u32 (uI x * 524288 % 4294967296) (uI x / 8192) = uI (rotr x 13) from by rw [h1, h2, h3]; rfl)
 clear h1 h2 h3
 go_enter Tryz.func63, Tryz.ntmps63
 go_wp2_with fail
 go_ret
 exact ⟨by rw [← H.out]; rfl, rfl⟩
set_option maxRecDepth 100000 in
theorem rot_17 (x : UInt32) (w : World) : Calls Tryz.prog 63 #[.int .u32 (uI x), .int .i64 (-17)] w fun e w' => e = .returned (.int .u32 (uI (rotr x 17))) ∧ w = w' := by
 have hx := uI_lt x
 have hx0 := uI_nonneg x
 have hk : bits BinOp.and IntKind.u64 (IntKind.u64.wrap (-17)) 31 = 15 := by decide
 have h1 := u_shl x 15 (by omega) 32768 rfl
 have h2 := u_shr x 17 (by omega) 131072 rfl
 have h3 := u_or (x <<< (UInt32.ofNat 15)) (x >>> (UInt32.ofNat 17))
 have H := Lib.hid (show bits .or .u32 (uI x * 32768 % 4294967296) (uI x / 131072) = uI (rotr x 17) from by rw [h1, h2, h3]; rfl)
 clear h1 h2 h3
 go_enter Tryz.func63, Tryz.ntmps63
 go_wp2_with fail
 go_ret
 exact ⟨by rw [← H.out]; rfl, rfl⟩
set_option maxRecDepth 100000 in
theorem rot_18 (x : UInt32) (w : World) : Calls Tryz.prog 63 #[.int .u32 (uI x), .int .i64 (-18)] w fun e w' => e = .returned (.int .u32 (uI (rotr x 18))) ∧ w = w' := by
 have hx := uI_lt x
 have hx0 := uI_nonneg x
 have hk : bits BinOp.and IntKind.u64 (IntKind.u64.wrap (-18)) 31 = 14 := by decide
 have h1 := u_shl x 14 (by omega) 16384 rfl
 have h2 := u_shr x 18 (by omega) 262144 rfl
 have h3 := u_or (x <<< (UInt32.ofNat 14)) (x >>> (UInt32.ofNat 18))
 have H := Lib.hid (show bits .or .u32 (uI x * 16384 % 4294967296) (uI x / 262144) = uI (rotr x 18) from by rw [h1, h2, h3]; rfl)
 clear h1 h2 h3
 go_enter Tryz.func63, Tryz.ntmps63
 go_wp2_with fail
 go_ret
 exact ⟨by rw [← H.out]; rfl, rfl⟩
set_option maxRecDepth 100000 in
theorem rot_19 (x : UInt32) (w : World) : Calls Tryz.prog 63 #[.int .u32 (uI x), .int .i64 (-19)] w fun e w' => e = .returned (.int .u32 (uI (rotr x 19))) ∧ w = w' := by
 have hx := uI_lt x
 have hx0 := uI_nonneg x
 have hk : bits BinOp.and IntKind.u64 (IntKind.u64.wrap (-19)) 31 = 13 := by decide
 have h1 := u_shl x 13 (by omega) 8192 rfl
 have h2 := u_shr x 19 (by omega) 524288 rfl
 have h3 := u_or (x <<< (UInt32.ofNat 13)) (x >>> (UInt32.ofNat 19))
 have H := Lib.hid (show bits .or .u32 (uI x * 8192 % 4294967296) (uI x / 524288) = uI (rotr x 19) from by rw [h1, h2, h3]; rfl)
 clear h1 h2 h3
 go_enter Tryz.func63, Tryz.ntmps63
 go_wp2_with fail
 go_ret
 exact ⟨by rw [← H.out]; rfl, rfl⟩
set_option maxRecDepth 100000 in
theorem rot_22 (x : UInt32) (w : World) : Calls Tryz.prog 63 #[.int .u32 (uI x), .int .i64 (-22)] w fun e w' => e = .returned (.int .u32 (uI (rotr x 22))) ∧ w = w' := by
 have hx := uI_lt x
 have hx0 := uI_nonneg x
 have hk : bits BinOp.and IntKind.u64 (IntKind.u64.wrap (-22)) 31 = 10 := by decide
 have h1 := u_shl x 10 (by omega) 1024 rfl
 have h2 := u_shr x 22 (by omega) 4194304 rfl
 have h3 := u_or (x <<< (UInt32.ofNat 10)) (x >>> (UInt32.ofNat 22))
 have H := Lib.hid (show bits .or .u32 (uI x * 1024 % 4294967296) (uI x / 4194304) = uI (rotr x 22) from by rw [h1, h2, h3]; rfl)
 clear h1 h2 h3
 go_enter Tryz.func63, Tryz.ntmps63
 go_wp2_with fail
 go_ret
 exact ⟨by rw [← H.out]; rfl, rfl⟩
set_option maxRecDepth 100000 in
theorem rot_25 (x : UInt32) (w : World) : Calls Tryz.prog 63 #[.int .u32 (uI x), .int .i64 (-25)] w fun e w' => e = .returned (.int .u32 (uI (rotr x 25))) ∧ w = w' := by
 have hx := uI_lt x
 have hx0 := uI_nonneg x
 have hk : bits BinOp.and IntKind.u64 (IntKind.u64.wrap (-25)) 31 = 7 := by decide
 have h1 := u_shl x 7 (by omega) 128 rfl
 have h2 := u_shr x 25 (by omega) 33554432 rfl
 have h3 := u_or (x <<< (UInt32.ofNat 7)) (x >>> (UInt32.ofNat 25))
 have H := Lib.hid (show bits .or .u32 (uI x * 128 % 4294967296) (uI x / 33554432) = uI (rotr x 25) from by rw [h1, h2, h3]; rfl)
 clear h1 h2 h3
 go_enter Tryz.func63, Tryz.ntmps63
 go_wp2_with fail
 go_ret
 exact ⟨by rw [← H.out]; rfl, rfl⟩
/-- all turns that are made -/
theorem rot_all (x : UInt32) (k : Int) (hk : k ∈ ([-2, -6, -7, -11, -13, -17, -18, -19, -22, -25] : List Int)) (w : World) : Calls Tryz.prog 63 #[.int .u32 (uI x), .int .i64 k] w fun e w' => e = .returned (.int .u32 (uI (rotr x k.natAbs))) ∧ w = w' := by
 simp only [List.mem_cons, List.not_mem_nil, or_false] at hk
 rcases hk with rfl | rfl | rfl | rfl | rfl | rfl | rfl | rfl | rfl | rfl
 ·exact rot_2 x w
 ·exact rot_6 x w
 ·exact rot_7 x w
 ·exact rot_11 x w
 ·exact rot_13 x w
 ·exact rot_17 x w
 ·exact rot_18 x w
 ·exact rot_19 x w
 ·exact rot_22 x w
 ·exact rot_25 x w
end Go.Proofs.YtgmbkcjihgphmaaGreat
/- SHA-256 in plain Lean: words, blocks, sums. No program in sight but the words. -/
namespace Go.Proofs.YtgmbkcjihgphmaaGreat
open Go.RowKit
def shaK : List UInt32 := [
 1116352408, 1899447441, 3049323471, 3921009573, 961987163, 1508970993, 2453635748, 2870763221,
 3624381080, 310598401, 607225278, 1426881987, 1925078388, 2162078206, 2614888103, 3248222580,
 3835390401, 4022224774, 264347078, 604807628, 770255983, 1249150122, 1555081692, 1996064986,
 2554220882, 2821834349, 2952996808, 3210313671, 3336571891, 3584528711, 113926993, 338241895,
 666307205, 773529912, 1294757372, 1396182291, 1695183700, 1986661051, 2177026350, 2456956037,
 2730485921, 2820302411, 3259730800, 3345764771, 3516065817, 3600352804, 4094571909, 275423344,
 430227734, 506948616, 659060556, 883997877, 958139571, 1322822218, 1537002063, 1747873779,
 1955562222, 2024104815, 2227730452, 2361852424, 2428436474, 2756734187, 3204031479, 3329325298]
def shaH : List UInt32 := [1779033703, 3144134277, 1013904242, 2773480762, 1359893119, 2600822924, 528734635, 1541459225]
def sg0 (x : UInt32) : UInt32 := rotr x 7 ^^^ rotr x 18 ^^^ (x >>> UInt32.ofNat 3)
def sg1 (x : UInt32) : UInt32 := rotr x 17 ^^^ rotr x 19 ^^^ (x >>> UInt32.ofNat 10)
def bg0 (a : UInt32) : UInt32 := rotr a 2 ^^^ rotr a 13 ^^^ rotr a 22
def bg1 (e : UInt32) : UInt32 := rotr e 6 ^^^ rotr e 11 ^^^ rotr e 25
def chU (e f g : UInt32) : UInt32 := (e &&& f) ^^^ (~~~e &&& g)
def majU (a b c : UInt32) : UInt32 := (a &&& b) ^^^ (a &&& c) ^^^ (b &&& c)
def mixB (x : UInt32) (b : UInt8) : UInt32 := (x <<< UInt32.ofNat 8) ||| b.toUInt32
/-- word i of some bytes -/
def wordB (b : List UInt8) (i : Nat) : UInt32 := ((b.drop (4 * i)).take 4).foldl mixB 0
def firstW (b : List UInt8) : List UInt32 := (List.range 16).map (wordB b)
def nextW (l : List UInt32) : UInt32 := l.getD (l.length - 16) 0 + l.getD (l.length - 7) 0 + sg0 (l.getD (l.length - 15) 0) + sg1 (l.getD (l.length - 2) 0)
def schedW (b : List UInt8) : Nat → List UInt32
 | 0 => firstW b
 | n + 1 => schedW b n ++ [nextW (schedW b n)]
theorem schedW_length (b : List UInt8) : ∀ n, (schedW b n).length = 16 + n
 | 0 => by simp [schedW, firstW]
 | n + 1 => by rw [schedW, List.length_append, schedW_length b n]; rfl
def rndT (k w : UInt32) (l : List UInt32) : UInt32 := l.getD 7 0 + bg1 (l.getD 4 0) + chU (l.getD 4 0) (l.getD 5 0) (l.getD 6 0) + k + w
def rndU (l : List UInt32) : UInt32 := bg0 (l.getD 0 0) + majU (l.getD 0 0) (l.getD 1 0) (l.getD 2 0)
def rnd (k w : UInt32) (l : List UInt32) : List UInt32 := [rndT k w l + rndU l, l.getD 0 0, l.getD 1 0, l.getD 2 0, l.getD 3 0 + rndT k w l, l.getD 4 0, l.getD 5 0, l.getD 6 0]
/-- n rounds -/
def rndsW (W : List UInt32) (v : List UInt32) : Nat → List UInt32
 | 0 => v
 | n + 1 => rnd (shaK.getD n 0) (W.getD n 0) (rndsW W v n)
def addL (a b : List UInt32) : List UInt32 := List.zipWith (· + ·) a b
/-- a block taken in -/
def blockS (s : List UInt32) (b : List UInt8) : List UInt32 := addL s (rndsW (schedW b 48) s 64)
theorem rnd_length (k w : UInt32) (l : List UInt32) : (rnd k w l).length = 8 := rfl
theorem rndsW_length (W v : List UInt32) (h : v.length = 8) : ∀ n, (rndsW W v n).length = 8
 | 0 => h
 | n + 1 => rnd_length _ _ _
theorem blockS_length {s : List UInt32} (h : s.length = 8) (b : List UInt8) : (blockS s b).length = 8 := by
 unfold blockS addL
 rw [List.length_zipWith, h, rndsW_length _ _ h]; rfl
/-- all whole blocks of some bytes -/
def blocksS (s : List UInt32) (b : List UInt8) : List UInt32 :=
 if h : 64 ≤ b.length then blocksS (blockS s (b.take 64)) (b.drop 64) else s
termination_by b.length
decreasing_by rw [List.length_drop]; omega
/-- the bytes behind a text: 128, noughts, its length in bits -/
def spadZ (n : Nat) : Nat := (119 - n % 64) % 64
def lenB (n : Nat) : List UInt8 := [56, 48, 40, 32, 24, 16, 8, 0].map fun i => UInt8.ofNat (8 * n / 2 ^ i)
def padded (l : List UInt8) : List UInt8 := l ++ 128 :: (List.replicate (spadZ l.length) 0 ++ lenB l.length)
def bytesU (s : List UInt32) : List UInt8 := s.flatMap fun x => [24, 16, 8, 0].map fun i => UInt8.ofNat (x.toNat / 2 ^ i)
def shaG (l : List UInt8) : List UInt8 := bytesU (blocksS shaH (padded l))
/-! ### cells -/
def wV (l : List UInt32) : List Value := l.map fun x => .int .u32 (uI x)
theorem wV_get {l : List UInt32} {i : Nat} {x : UInt32} (h : l[i]? = some x) : (wV l)[i]? = some (.int .u32 (uI x)) := by simp [wV, h]
theorem wV_set (l : List UInt32) (i : Nat) (x : UInt32) : (wV l).toArray.setIfInBounds i (.int .u32 (uI x)) = (wV (l.set i x)).toArray := by
 simp [wV, List.map_set]
theorem wV_arr {l : List UInt32} {i : Nat} {x : UInt32} (h : l[i]? = some x) : (wV l).toArray[i]? = some (.int .u32 (uI x)) := by
 rw [List.getElem?_toArray]; exact wV_get h
theorem getD_get {l : List UInt32} {i : Nat} (h : i < l.length) : l[i]? = some (l.getD i 0) := by
 rw [List.getD_eq_getElem?_getD, List.getElem?_eq_getElem h]; rfl
end Go.Proofs.YtgmbkcjihgphmaaGreat
/- sha.rounds: the constants. -/
namespace Go.Proofs.YtgmbkcjihgphmaaGreat
open Go.RowKit
/-- the walk's step at a build whose cells are known -/
theorem wpList_build_to {P : Program} {ops : Array Oper} {rest : List Oper} {o : Oper} {a : Act} {w : World} {Q : Exit → Act → World → Prop} (hg : o.guard = none) (t : TypeId) (parts : Array (Nat × Operand)) (ho : o.op = .build t parts) (cells : Array Value)
  (hf : P.built t (parts.map fun (i, x) => (i, a.eval x)).toList = some cells)
  (h : wpList P ops Q rest (a.put o.dst (.agg cells)) w) : wpList P ops Q (o :: rest) a w :=
 wpList_build hg t parts ho (by rw [hf]; rfl) (by rw [hf]; exact h)
set_option maxRecDepth 100000 in
set_option maxHeartbeats 2000000 in
theorem rounds_any (w : World) : Calls Tryz.prog 64 #[] w fun e w' => e = .returned (.agg (wV shaK).toArray) ∧ Below w.heap.size w w' := by
 obtain ⟨KV, hKV⟩ : ∃ KV, KV = (wV shaK).toArray := ⟨_, rfl⟩
 have hsz : KV.size = 64 := by rw [hKV]; rfl
 have hone : KV.all (·.oneCell') = true := by rw [hKV]; kernel_rfl
 have hinfo : (Tryz.prog.info? 145).map (·.size) = some KV.size := by rw [hsz]; kernel_rfl
 have HS := Lib.hid hsz
 have HO := Lib.hid hone
 have HI := Lib.hid hinfo
 have HK := Lib.hid hKV
 clear hsz hone hinfo hKV
 go_enter Tryz.func64, Tryz.ntmps64
 go_upto_region 1 with fail
 go_wp2_with (first | (refine wpList_build_to rfl _ _ rfl KV (by rw [HK.out]; kernel_rfl) ?_) | (refine wpList_store_row rfl _ _ _ rfl w.heap.size KV rfl rfl 145 _ (heap_alloc_last w _) HI.out (by rw [HS.out]; rfl) HO.out ?_))
 rw [World.setRow_alloc_new]
 refine bodyPost_ret (v := .agg KV) (results_cell_row rfl _ _ w.heap.size 145 KV (0, 0) _ rfl (heap_alloc_last w _) Tryz.underlying145 rfl HI.out) rfl ⟨by rw [HK.out], (Below.refl _ _).alloc (Nat.le_refl _) _⟩
end Go.Proofs.YtgmbkcjihgphmaaGreat
/- Plain laws on the first words of a block. -/
namespace Go.Proofs.YtgmbkcjihgphmaaGreat
open Go.RowKit
/-- words in a block -/
abbrev WBlk (w : World) (g : Nat) (t : TypeId) (l : List UInt32) : Prop := Blk w g t (wV l).toArray
theorem WBlk.at {w : World} {g : Nat} {t : TypeId} {l : List UInt32} (h : WBlk w g t l) {i : Nat} {x : UInt32} (hx : l[i]? = some x) : w.cell? ⟨g, i, none⟩ = some (.int .u32 (uI x)) := (h.cell i).trans (wV_arr hx)
theorem WBlk.put {w : World} {g : Nat} {t : TypeId} {l : List UInt32} (h : WBlk w g t l) (i : Nat) (x : UInt32) : WBlk (w.setCell ⟨g, i, none⟩ (.int .u32 (uI x))) g t (l.set i x) := by
 have := h.set_ i (.int .u32 (uI x))
 rwa [wV_set] at this
theorem run_index_agg {P : Program} {t e : TypeId} {n : Nat} {cs : Array Value} {i : Nat} {v : Value} (ht : P.underlying t = some (.array n e)) (hs : (P.info? e).map (·.size) = some 1) (hu : P.underlying e = some (.int .u32)) (hi : i < n) (hv : cs[i]? = some v) (w : World) :
  (Instr.index t (.agg cs) (.int .i64 (i : Int))).run P w = .ok v w := by
 cases hq : P.info? e with
 | none => simp [hq] at hs
 | some ie =>
  have h1 : ie.size = 1 := by simpa [hq] using hs
  have hlt := (Array.getElem?_eq_some_iff.1 hv).1
  have hi' : (i : Int) < n := by omega
  have hee := (Array.getElem?_eq_some_iff.1 hv).2
  simp [Instr.index, asIntOf, run_underlying ht, run_underlying hu, sizeOf, typeInfo, hq, h1, part, Go.isAgg, hv]
  omega
theorem wrap_u32 (z : Int) : IntKind.u32.wrap z = z % 4294967296 := by
 simp only [IntKind.wrap, IntKind.bits, IntKind.signed]
 simp
theorem u_wadd (x y : UInt32) : IntKind.u32.wrap (uI x + uI y) = uI (x + y) := by rw [wrap_u32, u_add]
theorem u_shr3 (x : UInt32) : uI x / 8 = uI (x >>> UInt32.ofNat 3) := u_shr x 3 (by omega) 8 rfl
theorem u_shr10 (x : UInt32) : uI x / 1024 = uI (x >>> UInt32.ofNat 10) := u_shr x 10 (by omega) 1024 rfl
theorem sched_get (b : List UInt8) {M i : Nat} (hM : 16 ≤ M) (hi : i < M) : (schedW b (M - 16) ++ List.replicate (64 - M) 0)[i]? = some ((schedW b (M - 16)).getD i 0) := by
 have hl : (schedW b (M - 16)).length = M := by rw [schedW_length]; omega
 rw [List.getElem?_append_left (by omega)]
 exact getD_get (by omega)
theorem sched_put (b : List UInt8) {M : Nat} (hM : 16 ≤ M) (h64 : M < 64) : (schedW b (M - 16) ++ List.replicate (64 - M) 0).set M (nextW (schedW b (M - 16))) = schedW b (M + 1 - 16) ++ List.replicate (64 - (M + 1)) 0 := by
 have hl : (schedW b (M - 16)).length = M := by rw [schedW_length]; omega
 rw [List.set_append, if_neg (by omega), hl, Nat.sub_self, show 64 - M = (64 - (M + 1)) + 1 from by omega, List.replicate_succ, List.set_cons_zero, show M + 1 - 16 = (M - 16) + 1 from by omega, schedW, List.append_assoc]
 rfl
theorem sched_hole (b : List UInt8) {M : Nat} (hM : 16 ≤ M) (h64 : M < 64) : (schedW b (M - 16) ++ List.replicate (64 - M) 0)[M]? = some 0 := by
 have hl : (schedW b (M - 16)).length = M := by rw [schedW_length]; omega
 rw [List.getElem?_append_right (by omega), hl, Nat.sub_self, show 64 - M = (64 - (M + 1)) + 1 from by omega, List.replicate_succ]
 rfl
theorem list8 {s : List UInt32} (h : s.length = 8) : ∃ s0 s1 s2 s3 s4 s5 s6 s7, s = [s0, s1, s2, s3, s4, s5, s6, s7] := by
 match s, h with
 | [s0, s1, s2, s3, s4, s5, s6, s7], _ => exact ⟨s0, s1, s2, s3, s4, s5, s6, s7, rfl⟩
theorem shaK_length : shaK.length = 64 := rfl
theorem quiet_e2 {P : Program} {f : FuncId} {args : Array Value} {w : World} {a n : Nat} {v : Value}
  (h : Calls P f args (w.drewN (a + n)) fun e w' => e = .returned v ∧ w.drewN (a + n) = w') : Calls P f args (w.drewN (a + n)) fun e w'' => e = .returned v ∧ ∃ m, w'' = w.drewN (a + m) :=
 h.mono fun _ _ ⟨he, hw⟩ => ⟨he, n, hw.symm⟩
/-- a copy in a region that draws its order, its run known -/
theorem step_run_copy {P : Program} {ops : Array Oper} {Q : Exit → Act → World → Prop} {o : Oper} {a : Act} {w w' : World} {K : Act → World → Prop} {E : Prop} (hgd : o.guard = none) (x y : Operand) {t t' : TypeId}
  (ho : o.op = .call { callee := .builtin .copy, args := #[x, y], argTypes := #[t, t'] }) {vx vy v : Value} (hx : a.eval x = vx) (hy : a.eval y = vy)
  (hrun : (Builtin.copy_ #[t, t'] o.type #[vx, vy]).run P w = .ok v w') (h : K (a.put o.dst v) w') :
  if Region.wanted o (yielded ops a.tmps) = true then Oper.wp P o a w K Q else E := by
 have hw : Region.wanted o (yielded ops a.tmps) = true := by simp [Region.wanted, hgd]
 rw [if_pos hw]
 unfold Oper.wp execOp
 simp only [ho, resolve, invoke, builtin, Sem.run_bind, Sem.run_pure, Result.andThen_ok, List.map_toArray, List.map_cons, List.map_nil, hx, hy, hrun]
 exact h
theorem WBlk.row {w : World} {g : Nat} {t : TypeId} {l : List UInt32} (h : WBlk w g t l) (l' : List UInt32) : WBlk (w.setRow g (wV l').toArray) g t l' := setRow_heap w g _ _ t _ h
theorem Blk.setRow {w : World} {g g' : Nat} {t : TypeId} {cs : Array Value} (h : Blk w g t cs) (hne : g ≠ g') (c : Array Value) : Blk (w.setRow g' c) g t cs := (setRow_other w g' g c hne).trans h
theorem copy_run {W : World} {g : Nat} {a b c d e f k h : UInt32} (hb : WBlk W g 98 [a, b, c, d, e, f, k, h]) (ty : TypeId) :
  (Builtin.copy_ #[148, 148] ty #[.slice (some ⟨g, 1, none⟩) 7 7, .slice (some ⟨g, 0, none⟩) 7 8]).run Tryz.prog W = .ok (.int .i64 7) (W.setRow g (wV [a, a, b, c, d, e, f, k]).toArray) := by
 have := run_copy_row (P := Tryz.prog) W 148 148 ty 96 g 1 7 7 ⟨g, 0, none⟩ 7 8 (wV [a, b, c, d, e, f, k, h]).toArray 98 (wV [a, b, c, d, e, f, k]) Tryz.underlying148 (by kernel_rfl) hb rfl
  (fun j v hv => by
   have hj : j < 7 := by have := (List.getElem?_eq_some_iff.1 hv).1; simpa [wV] using this
   rw [addr_add, Nat.zero_add]
   rw [hb.cell j, ← hv]
   have h7 : j = 0 ∨ j = 1 ∨ j = 2 ∨ j = 3 ∨ j = 4 ∨ j = 5 ∨ j = 6 := by omega
   rcases h7 with rfl | rfl | rfl | rfl | rfl | rfl | rfl <;> rfl) (by simp [wV]) (by intro v hv; simp only [wV, List.mem_map] at hv; obtain ⟨x, _, rfl⟩ := hv; rfl)
 exact this
/-- the words while they are read: K whole ones, j bytes of the next -/
def partB (b : List UInt8) (K j : Nat) : UInt32 := ((b.drop (4 * K)).take j).foldl mixB 0
def loadL (b : List UInt8) (K : Nat) (x : UInt32) : List UInt32 := (List.range K).map (wordB b) ++ x :: List.replicate (63 - K) 0
theorem loadL_get (b : List UInt8) (K : Nat) (x : UInt32) : (loadL b K x)[K]? = some x := by
 unfold loadL
 rw [List.getElem?_append_right (by simp)]
 simp
theorem loadL_set (b : List UInt8) (K : Nat) (x y : UInt32) : (loadL b K x).set K y = loadL b K y := by
 unfold loadL
 rw [List.set_append, if_neg (by simp)]
 simp
theorem loadL_next (b : List UInt8) {K : Nat} (hK : K < 16) : loadL b K (partB b K 4) = loadL b (K + 1) (partB b (K + 1) 0) := by
 unfold loadL
 have e1 : partB b K 4 = wordB b K := rfl
 have e2 : partB b (K + 1) 0 = 0 := rfl
 rw [e1, e2, List.range_succ, List.map_append, List.append_assoc, show 63 - K = (63 - (K + 1)) + 1 from by omega, List.replicate_succ]
 rfl
theorem partB_succ {b : List UInt8} {K j : Nat} {y : UInt8} (h : b[4 * K + j]? = some y) : partB b K (j + 1) = mixB (partB b K j) y := by
 unfold partB
 rw [List.take_add_one, List.getElem?_drop, h, List.foldl_append]
 rfl
theorem grown_of_below {a w : World} (h : Below a.heap.size a w) (row : Option Nat) : a.grownBy w row := ⟨h.os, h.tape, h.output, h.size, fun i hi _ => h.block i hi⟩
theorem grown_setC {a w : World} {g : Nat} (h : a.grownBy w (some g)) (i : Nat) (u : Value) : a.grownBy (w.setCell ⟨g, i, none⟩ u) (some g) :=
 ⟨h.os, h.tape, h.output, by simpa [World.setCell] using h.size, fun k hk hne => (Below.heap_setCell w ⟨g, i, none⟩ u k (by rintro rfl; exact hne rfl)).trans (h.block k hk hne)⟩
/-- the words added, K of them so far -/
def addTo (s V : List UInt32) : Nat → List UInt32
 | 0 => s
 | K + 1 => (addTo s V K).set K ((addTo s V K).getD K 0 + V.getD K 0)
theorem addTo_length (s V : List UInt32) : ∀ K, (addTo s V K).length = s.length
 | 0 => rfl
 | K + 1 => by rw [addTo, List.length_set, addTo_length s V K]
theorem addTo_8 (s0 s1 s2 s3 s4 s5 s6 s7 v0 v1 v2 v3 v4 v5 v6 v7 : UInt32) : addTo [s0, s1, s2, s3, s4, s5, s6, s7] [v0, v1, v2, v3, v4, v5, v6, v7] 8 = addL [s0, s1, s2, s3, s4, s5, s6, s7] [v0, v1, v2, v3, v4, v5, v6, v7] := rfl
theorem wordB_take (b : List UInt8) {i : Nat} (hi : i < 16) : wordB (b.take 64) i = wordB b i := by
 unfold wordB
 rw [List.drop_take, List.take_take, show min 4 (64 - 4 * i) = 4 from by omega]
theorem firstW_take (b : List UInt8) : firstW (b.take 64) = firstW b := by
 unfold firstW
 exact List.map_congr_left fun i hi => wordB_take b (by simpa using hi)
theorem schedW_take (b : List UInt8) : ∀ n, schedW (b.take 64) n = schedW b n
 | 0 => firstW_take b
 | n + 1 => by rw [schedW, schedW, schedW_take b n]
theorem blockS_take (s : List UInt32) (b : List UInt8) : blockS s (b.take 64) = blockS s b := by unfold blockS; rw [schedW_take]
end Go.Proofs.YtgmbkcjihgphmaaGreat
