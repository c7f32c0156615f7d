/- grain, plain: values, how they are written as bytes and read. -/
import Derived.Test.YthpcanibahcghaaBytesV
set_option linter.unusedVariables false
namespace Go.Proofs.Ythpcanibahcghaa
open Go.RowKit

/-- a value: its kind, its number, its bytes, the bits of its number with a point, its list -/
inductive Val where
  | mk : Int → Nat → List UInt8 → Nat → List Val → Val
namespace Val
def kind : Val → Int | mk k _ _ _ _ => k
def num : Val → Nat | mk _ u _ _ _ => u
def bytes : Val → List UInt8 | mk _ _ b _ _ => b
def flt : Val → Nat | mk _ _ _ f _ => f
def list : Val → List Val | mk _ _ _ _ l => l
def zero : Val := mk 0 0 [] 0 []
end Val

def isNan (b : Nat) : Bool := FloatKind.f64.format.order b b != some .eq
/-- the bits of what is no number, in its one form -/
def nanB : Nat := 9221120237041090560
def canonB (b : Nat) : Nat := if isNan b then nanB else b

/-! ### writing -/
/-- a number's parts of seven bits behind the first byte x -/
def tailL (x n : Nat) : List UInt8 := if n = 0 then [UInt8.ofNat x] else UInt8.ofNat (x + 128) :: tailL (n % 128) (n / 128)
termination_by n
decreasing_by omega
def headL (k n : Nat) : List UInt8 := tailL (n % 32 * 4 + k) (n / 32)
def be64 (b : Nat) : List UInt8 := [56, 48, 40, 32, 24, 16, 8, 0].map fun i => UInt8.ofNat (b / 2 ^ i)
abbrev Res (α : Type) := Except Int α
def fin (out : List UInt8) : Res (List UInt8) := if 1048576 < out.length then .error 2 else .ok out
/-- all of a list, one behind the other -/
def wrL (f : List UInt8 → Val → Res (List UInt8)) : List UInt8 → List Val → Res (List UInt8)
  | out, [] => .ok out
  | out, v :: r => match f out v with | .ok o => wrL f o r | .error e => .error e
/-- the bytes so far with a value's behind them; d: how deep one may still go -/
def wrV : Nat → List UInt8 → Val → Res (List UInt8)
  | 0, _, _ => .error 24
  | d + 1, out, v =>
    if v.kind = 0 then fin (out ++ headL 0 v.num)
    else if v.kind = 1 then fin (out ++ headL 1 v.bytes.length ++ v.bytes)
    else if v.kind = 2 then fin (out ++ headL 2 0 ++ be64 (canonB v.flt))
    else if v.kind = 3 then match wrL (wrV d) (out ++ headL 3 v.list.length) v.list with | .ok o => fin o | .error e => .error e
    else .error 22
def enc (v : Val) : Res (List UInt8) := wrV 16 [] v

/-! ### reading -/
/-- behind a head's byte x: the number so far n, its next part's place 2 ^ s -/
def rdT : Nat → Nat → UInt8 → List UInt8 → Res (Nat × List UInt8)
  | s, n, x, [] => if x < 128 then .ok (n, []) else .error 20
  | s, n, x, y :: r => if x < 128 then .ok (n, y :: r) else if y = 0 ∨ (s = 61 ∧ 7 < y) then .error 21 else rdT (s + 7) (n + y.toNat % 128 * 2 ^ s) y r
def rdH : List UInt8 → Res (Nat × Nat × List UInt8)
  | [] => .error 20
  | x :: r => match rdT 5 (x.toNat / 4 % 32) x r with | .ok (n, q) => .ok (x.toNat % 4, n, q) | .error e => .error e
def ofBe (l : List UInt8) : Nat := l.foldl (fun b x => b * 256 + x.toNat) 0
/-- so many values, one behind the other -/
def rdN (f : List UInt8 → Res (Val × List UInt8)) : Nat → List UInt8 → Res (List Val × List UInt8)
  | 0, l => .ok ([], l)
  | n + 1, l => match f l with
    | .ok (v, r) => match rdN f n r with | .ok (vs, q) => .ok (v :: vs, q) | .error e => .error e
    | .error e => .error e
def rd : Nat → List UInt8 → Res (Val × List UInt8)
  | 0, _ => .error 24
  | d + 1, l => match rdH l with
    | .error e => .error e
    | .ok (k, n, r) =>
      if k = 0 then .ok (.mk 0 n [] 0 [], r)
      else if k = 1 then if r.length < n then .error 20 else .ok (.mk 1 0 (r.take n) 0 [], r.drop n)
      else if k = 2 then if r.length < 8 then .error 20 else
        if n ≠ 0 ∨ canonB (ofBe (r.take 8)) ≠ ofBe (r.take 8) then .error 22 else .ok (.mk 2 0 [] (ofBe (r.take 8)) [], r.drop 8)
      else match rdN (rd d) n r with | .ok (vs, q) => .ok (.mk 3 0 [] 0 vs, q) | .error e => .error e
def dec (l : List UInt8) : Res Val :=
  if 1048576 < l.length then .error 2 else
  match rd 16 l with
  | .error e => .error e
  | .ok (v, []) => .ok v
  | .ok (_, _ :: _) => .error 23
end Go.Proofs.Ythpcanibahcghaa
