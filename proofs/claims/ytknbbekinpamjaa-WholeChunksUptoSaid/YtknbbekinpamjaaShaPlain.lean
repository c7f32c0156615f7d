/- SHA-256 in plain Lean: words, blocks, sums. No program in sight but the words. -/
import Derived.Test.YtknbbekinpamjaaShaWords
import Derived.Test.YtknbbekinpamjaaBytesV
set_option linter.unusedVariables false
namespace Go.Proofs.Ytknbbekinpamjaa
open Go.RowKit

def shaK : List UInt32 := [
  1116352408, 1899447441, 3049323471, 3921009573, 961987163, 1508970993, 2453635748, 2870763221,
  3624381080, 310598401, 607225278, 1426881987, 1925078388, 2162078206, 2614888103, 3248222580,
  3835390401, 4022224774, 264347078, 604807628, 770255983, 1249150122, 1555081692, 1996064986,
  2554220882, 2821834349, 2952996808, 3210313671, 3336571891, 3584528711, 113926993, 338241895,
  666307205, 773529912, 1294757372, 1396182291, 1695183700, 1986661051, 2177026350, 2456956037,
  2730485921, 2820302411, 3259730800, 3345764771, 3516065817, 3600352804, 4094571909, 275423344,
  430227734, 506948616, 659060556, 883997877, 958139571, 1322822218, 1537002063, 1747873779,
  1955562222, 2024104815, 2227730452, 2361852424, 2428436474, 2756734187, 3204031479, 3329325298]
def shaH : List UInt32 := [1779033703, 3144134277, 1013904242, 2773480762, 1359893119, 2600822924, 528734635, 1541459225]
def sg0 (x : UInt32) : UInt32 := rotr x 7 ^^^ rotr x 18 ^^^ (x >>> UInt32.ofNat 3)
def sg1 (x : UInt32) : UInt32 := rotr x 17 ^^^ rotr x 19 ^^^ (x >>> UInt32.ofNat 10)
def bg0 (a : UInt32) : UInt32 := rotr a 2 ^^^ rotr a 13 ^^^ rotr a 22
def bg1 (e : UInt32) : UInt32 := rotr e 6 ^^^ rotr e 11 ^^^ rotr e 25
def chU (e f g : UInt32) : UInt32 := (e &&& f) ^^^ (~~~e &&& g)
def majU (a b c : UInt32) : UInt32 := (a &&& b) ^^^ (a &&& c) ^^^ (b &&& c)
def mixB (x : UInt32) (b : UInt8) : UInt32 := (x <<< UInt32.ofNat 8) ||| b.toUInt32
/-- word i of some bytes -/
def wordB (b : List UInt8) (i : Nat) : UInt32 := ((b.drop (4 * i)).take 4).foldl mixB 0
def firstW (b : List UInt8) : List UInt32 := (List.range 16).map (wordB b)
def nextW (l : List UInt32) : UInt32 := l.getD (l.length - 16) 0 + l.getD (l.length - 7) 0 + sg0 (l.getD (l.length - 15) 0) + sg1 (l.getD (l.length - 2) 0)
def schedW (b : List UInt8) : Nat → List UInt32
  | 0 => firstW b
  | n + 1 => schedW b n ++ [nextW (schedW b n)]
theorem schedW_length (b : List UInt8) : ∀ n, (schedW b n).length = 16 + n
  | 0 => by simp [schedW, firstW]
  | n + 1 => by rw [schedW, List.length_append, schedW_length b n]; rfl
def rndT (k w : UInt32) (l : List UInt32) : UInt32 := l.getD 7 0 + bg1 (l.getD 4 0) + chU (l.getD 4 0) (l.getD 5 0) (l.getD 6 0) + k + w
def rndU (l : List UInt32) : UInt32 := bg0 (l.getD 0 0) + majU (l.getD 0 0) (l.getD 1 0) (l.getD 2 0)
def rnd (k w : UInt32) (l : List UInt32) : List UInt32 := [rndT k w l + rndU l, l.getD 0 0, l.getD 1 0, l.getD 2 0, l.getD 3 0 + rndT k w l, l.getD 4 0, l.getD 5 0, l.getD 6 0]
/-- n rounds -/
def rndsW (W : List UInt32) (v : List UInt32) : Nat → List UInt32
  | 0 => v
  | n + 1 => rnd (shaK.getD n 0) (W.getD n 0) (rndsW W v n)
def addL (a b : List UInt32) : List UInt32 := List.zipWith (· + ·) a b
/-- a block taken in -/
def blockS (s : List UInt32) (b : List UInt8) : List UInt32 := addL s (rndsW (schedW b 48) s 64)
theorem rnd_length (k w : UInt32) (l : List UInt32) : (rnd k w l).length = 8 := rfl
theorem rndsW_length (W v : List UInt32) (h : v.length = 8) : ∀ n, (rndsW W v n).length = 8
  | 0 => h
  | n + 1 => rnd_length _ _ _
theorem blockS_length {s : List UInt32} (h : s.length = 8) (b : List UInt8) : (blockS s b).length = 8 := by
  unfold blockS addL
  rw [List.length_zipWith, h, rndsW_length _ _ h]; rfl
/-- all whole blocks of some bytes -/
def blocksS (s : List UInt32) (b : List UInt8) : List UInt32 :=
  if h : 64 ≤ b.length then blocksS (blockS s (b.take 64)) (b.drop 64) else s
termination_by b.length
decreasing_by rw [List.length_drop]; omega
/-- the bytes behind a text: 128, noughts, its length in bits -/
def padZ (n : Nat) : Nat := (119 - n % 64) % 64
def lenB (n : Nat) : List UInt8 := [56, 48, 40, 32, 24, 16, 8, 0].map fun i => UInt8.ofNat (8 * n / 2 ^ i)
def padded (l : List UInt8) : List UInt8 := l ++ 128 :: (List.replicate (padZ l.length) 0 ++ lenB l.length)
def bytesU (s : List UInt32) : List UInt8 := s.flatMap fun x => [24, 16, 8, 0].map fun i => UInt8.ofNat (x.toNat / 2 ^ i)
def shaG (l : List UInt8) : List UInt8 := bytesU (blocksS shaH (padded l))

/-! ### cells -/
def wV (l : List UInt32) : List Value := l.map fun x => .int .u32 (uI x)
theorem wV_length (l : List UInt32) : (wV l).length = l.length := by simp [wV]
theorem wV_get {l : List UInt32} {i : Nat} {x : UInt32} (h : l[i]? = some x) : (wV l)[i]? = some (.int .u32 (uI x)) := by simp [wV, h]
theorem wV_set (l : List UInt32) (i : Nat) (x : UInt32) : (wV l).toArray.setIfInBounds i (.int .u32 (uI x)) = (wV (l.set i x)).toArray := by
  simp [wV, List.map_set]
theorem wV_arr {l : List UInt32} {i : Nat} {x : UInt32} (h : l[i]? = some x) : (wV l).toArray[i]? = some (.int .u32 (uI x)) := by
  rw [List.getElem?_toArray]; exact wV_get h
theorem getD_get {l : List UInt32} {i : Nat} (h : i < l.length) : l[i]? = some (l.getD i 0) := by
  rw [List.getD_eq_getElem?_getD, List.getElem?_eq_getElem h]; rfl
end Go.Proofs.Ytknbbekinpamjaa
