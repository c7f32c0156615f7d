/- Contracts and laws for what the statement reaches, joined: Mem, BytesV, GrainPlain, GrainHeads, GrainLaws, ObjPlain. -/
import Derived.Test.YtgmbkcjihgphmaaGreatRows
import Derived.Deep.Draws
import Derived.Laws.BytesArg
import Derived.Laws.IdiomStrings
import Derived.Lib.Hide
import Derived.Lib.SlBytesConst
import Derived.Maps.AppendAt
import Derived.ProofKit
import Derived.WalkKit
import Derived.WalkLawsBesides
import Derived.WalkSpells
/- Words for memory that the walks of this seat share: a slice that reads as a list of cells, and how appends and cuts act on it. -/
namespace Go.Proofs.YtgmbkcjihgphmaaGreat
open Go.RowKit
/-! ### slices that read as lists of cells -/
/-- The slice at A with n elements of sz cells reads as the cells xs. -/
def Sl (w : World) (sz : Nat) (A : Option Addr) (n : Nat) (xs : List Value) : Prop :=
 xs.length = n * sz ∧ (0 < n → ∃ b off, A = some ⟨b, off, none⟩ ∧ b < w.heap.size ∧ ∀ j u, xs[j]? = some u → w.cell? ⟨b, off + j, none⟩ = some u)
theorem addr_add (b off : Nat) (k : Nat) : (⟨b, off, none⟩ : Addr).add k = ⟨b, off + k, none⟩ := by
 unfold Addr.add; split
 ·subst_vars; rfl
 ·rfl
section
variable {w w' : World} {sz n : Nat} {A : Option Addr} {xs : List Value}
theorem Sl.nil : Sl w sz A 0 [] := ⟨by simp, fun h => absurd h (by omega)⟩
theorem Sl.empty (h : Sl w sz A 0 xs) : xs = [] := List.eq_nil_of_length_eq_zero (by have := h.1; omega)
theorem Sl.look {k : Nat} (h : Sl w 1 A n xs) (hk : k < n) :
  ∃ b off u, A = some ⟨b, off, none⟩ ∧ b < w.heap.size ∧ xs[k]? = some u ∧ w.cell? ⟨b, off + k, none⟩ = some u := by
 obtain ⟨b, off, e, hb, hc⟩ := h.2 (by omega)
 have hl : k < xs.length := by have := h.1; omega
 exact ⟨b, off, xs[k], e, hb, List.getElem?_eq_getElem hl, hc k _ (List.getElem?_eq_getElem hl)⟩
theorem Sl.keep (h : Sl w sz A n xs) (hk : ∀ p : Addr, p.block < w.heap.size → w'.cell? p = w.cell? p) (hs : w.heap.size ≤ w'.heap.size) : Sl w' sz A n xs :=
 ⟨h.1, fun hn => by
  obtain ⟨b, off, e, hb, hc⟩ := h.2 hn
  exact ⟨b, off, e, by omega, fun j u hu => (hk _ hb).trans (hc j u hu)⟩⟩
theorem Sl.below (h : Sl w sz A n xs) (hb : Below w.heap.size w w') : Sl w' sz A n xs := h.keep (fun _ hp => hb.cell hp) hb.size
theorem Sl.alloc (h : Sl w sz A n xs) (o : Obj) : Sl (w.alloc o) sz A n xs := h.below ((Below.refl _ _).alloc (Nat.le_refl _) o)
/-- a cut 's[k:]', as the model spells it -/
theorem Sl.from {k c : Nat} (h : Sl w sz A n xs) (hk : k ≤ n) (hc : n ≤ c) :
  Sl w sz (if c = k then A else A.map (·.add (k * sz))) (n - k) (xs.drop (k * sz)) := by
 refine ⟨by rw [List.length_drop, h.1, Nat.sub_mul], fun hn => ?_⟩
 obtain ⟨b, off, rfl, hb, hcell⟩ := h.2 (by omega)
 rw [if_neg (by omega)]
 refine ⟨b, off + k * sz, ?_, hb, fun j u hu => ?_⟩
 ·simp [addr_add]
 ·rw [Nat.add_assoc]
  exact hcell _ u (by rw [← hu, List.getElem?_drop])
/-- the same at elements of one cell, as the walk shows it -/
theorem Sl.from1 {k c : Nat} (h : Sl w 1 A n xs) (hk : k ≤ n) (hc : n ≤ c) : Sl w 1 (if c = k then A else A.map (fun x => x.add k)) (n - k) (xs.drop k) := by
 simpa using h.from hk hc
/-- a cut 's[:k]' within the length -/
theorem Sl.upto {k : Nat} (h : Sl w sz A n xs) (hk : k ≤ n) : Sl w sz A k (xs.take (k * sz)) := by
 refine ⟨?_, fun hn => ?_⟩
 ·have := h.1
  have hm : k * sz ≤ n * sz := Nat.mul_le_mul_right _ hk
  simp; omega
 ·obtain ⟨b, off, e, hb, hcell⟩ := h.2 (by omega)
  refine ⟨b, off, e, hb, fun j u hu => hcell j u ?_⟩
  rw [List.getElem?_take] at hu
  split at hu
  ·exact hu
  ·cases hu
theorem Sl.ofOwn {base : Nat} {e : TypeId} {c : Nat} (h : w.ownsRow base e sz (.slice A n c) n xs) : Sl w sz A n xs := by
 refine ⟨h.1, fun hn => ?_⟩
 rcases h.2 with ⟨hv, hz⟩ | ⟨g, cap, cur, hv, hb, hg, hnc, hm, hcs, ht⟩
 ·omega
 ·injection hv with h1 h2 h3
  refine ⟨g, 0, h1, (Array.getElem?_eq_some_iff.1 hg).1, fun j u hu => ?_⟩
  rw [Nat.zero_add, cell_of_row w g j cur e (0, 0) hg]
  rw [← ht, List.getElem?_take] at hu
  split at hu
  ·simpa using hu
  ·cases hu
end
/-! ### the element's row of the table, and append -/
/-- The slice type t has elements of type e, of zero z, sz cells and by bytes. -/
def ElemOf (P : Program) (t e : TypeId) (z : Value) (sz byt : Nat) : Prop :=
 P.underlying t = some (.slice e) ∧ (P.info? e).map (fun i => (i.zero, i.size, i.bytes)) = some (some z, sz, byt) ∧ z.cells.size = sz ∧ 0 < sz
theorem own_form {w : World} {base : Nat} {e : TypeId} {sz : Nat} {v : Value} {n : Nat} {xs : List Value} (h : w.ownsRow base e sz v n xs) :
  ∃ A c, v = .slice A n c ∧ n ≤ c ∧ c ≤ maxLen := by
 rcases h.2 with ⟨rfl, rfl⟩ | ⟨g, cap, cur, rfl, _, _, h1, h2, _⟩
 ·exact ⟨none, 0, rfl, Nat.le_refl _, by simp [maxLen]⟩
 ·exact ⟨_, cap, rfl, h1, h2⟩
theorem own_mono {w : World} {base base' : Nat} {e : TypeId} {sz : Nat} {v : Value} {n : Nat} {xs : List Value} (h : w.ownsRow base e sz v n xs) (hb : base' ≤ base) : w.ownsRow base' e sz v n xs := by
 refine ⟨h.1, ?_⟩
 rcases h.2 with h2 | ⟨g, cap, cur, hv, hg, r⟩
 ·exact .inl h2
 ·exact .inr ⟨g, cap, cur, hv, by omega, r⟩
/-- An owned row stays while nothing that was there turns. -/
theorem own_below {w w' : World} {base : Nat} {e : TypeId} {sz : Nat} {v : Value} {n : Nat} {xs : List Value} (h : w.ownsRow base e sz v n xs) (hb : Below w.heap.size w w') : w'.ownsRow base e sz v n xs :=
 h.kept (row := none) ⟨hb.os, hb.tape, hb.output, hb.size, fun k hk _ => hb.block k hk⟩ (by cases v.ownBlock <;> simp)
/-- What an append onto a row of the call's own leaves. -/
structure Appended (w w' : World) (base : Nat) (e : TypeId) (sz : Nat) (v v' : Value) (n : Nat) (xs : List Value) : Prop where
 own : w'.ownsRow base e sz v' n xs
 grown : w.grownBy w' v.ownBlock
 below : Below base w w'
 place : v'.ownBlock = v.ownBlock ∨ v'.ownBlock = some w.heap.size
 room : ∃ A c, v' = .slice A n c ∧ n ≤ c ∧ c ≤ maxLen
section
variable {P : Program} (w : World)
theorem run_append_sl {t ty e : TypeId} {z : Value} {sz byt : Nat} (E : ElemOf P t e z sz byt)
  {base : Nat} {v : Value} {n : Nat} {xs : List Value} (hown : w.ownsRow base e sz v n xs)
  {A : Option Addr} {m c : Nat} {news : List Value} (hr : Sl w sz A m news) (h1 : ∀ u ∈ news, u.oneCell' = true)
  (hbytes : (n + m) * byt ≤ 140737488355328) (h63 : n + m ≤ maxLen) (hbase : base ≤ w.heap.size) :
  ∃ v' w', (Builtin.append_ #[t, t] ty #[v, .slice A m c]).run P w = .ok v' w' ∧ Appended w w' base e sz v v' (n + m) (xs ++ news) := by
 obtain ⟨ht, hi, hzs, hsz⟩ := E
 obtain ⟨i, hi, hz, hsize, hby⟩ := info_parts hi
 have hbel : ∀ w', w.grownBy w' v.ownBlock → Below base w w' := fun w' hg =>
  (Below.refl _ _).grown hg hbase (fun k hk => (hown.lt k hk).1)
 rcases A with _ | ad
 ·have hm : m = 0 := by
   rcases Nat.eq_zero_or_pos m with h0 | h0
   ·exact h0
   ·obtain ⟨_, _, h, _⟩ := hr.2 h0
    cases h
  subst hm
  have hn := hr.empty
  subst hn
  refine ⟨v, w, ?_, ⟨by simpa using hown, World.grownBy.refl w _, Below.refl _ _, .inl rfl, by simpa using own_form hown⟩⟩
  rcases hown.2 with ⟨rfl, rfl⟩ | ⟨g, cap, cur, rfl, _, _, hnc, _⟩
  ·simp [Builtin.append_, run_underlying ht, sizeOf, typeInfo, hi, Builtin.lenOf, Builtin.firstCells]
  ·simp [Builtin.append_, run_underlying ht, sizeOf, typeInfo, hi, Builtin.lenOf, Builtin.firstCells, hnc, storeCells]
 ·have hcells : ∀ j u, news[j]? = some u → w.cell? (ad.add j) = some u := by
   intro j u hu
   rcases Nat.eq_zero_or_pos m with h0 | h0
   ·subst h0
    have hn := hr.empty
    subst hn
    simp at hu
   ·obtain ⟨b, off, h, _, hc⟩ := hr.2 h0
    injection h with h
    subst h
    rw [addr_add]
    exact hc j u hu
  obtain ⟨v', w', hrun, h2, h3, _, h5⟩ := run_append_own_at (P := P) w base t ty e i z sz byt ht hi hz hsize hby hzs hsz v n xs hown ad m c news hr.1 hcells h1 h63 hbytes hbase
  exact ⟨v', w', hrun, h2, h3, hbel _ h3, h5, own_form h2⟩
/-- the same, the value written out: obtained where the walk stands at the append, it takes the walk on -/
theorem append_sl {w : World} {t e : TypeId} {z : Value} {sz byt : Nat} (E : ElemOf P t e z sz byt)
  {base : Nat} {v : Value} {n : Nat} {xs : List Value} (hown : w.ownsRow base e sz v n xs)
  {A : Option Addr} {m : Nat} {news : List Value} (hr : Sl w sz A m news) (h1 : ∀ u ∈ news, u.oneCell' = true)
  (hbytes : (n + m) * byt ≤ 140737488355328) (h63 : n + m ≤ maxLen) (hbase : base ≤ w.heap.size) (ty : TypeId) (c : Nat) :
  ∃ A' c' w', (Builtin.append_ #[t, t] ty #[v, .slice A m c]).run P w = .ok (.slice A' (n + m) c') w' ∧ Appended w w' base e sz v (.slice A' (n + m) c') (n + m) (xs ++ news) ∧ n + m ≤ c' ∧ c' ≤ maxLen := by
 obtain ⟨v', w', hrun, h⟩ := run_append_sl (P := P) w (ty := ty) (c := c) E hown hr h1 hbytes h63 hbase
 obtain ⟨A', c', rfl, h3, h4⟩ := h.room
 exact ⟨A', c', w', hrun, h, h3, h4⟩
/-- the walk's step at an append whose run is known -/
theorem wpList_run_append {w w' : World} {ops : Array Oper} {rest : List Oper} {a : Act} {Q : Exit → Act → World → Prop} {dst : Option Tmp} {s x : Operand} {ty : TypeId} {pos : String} {after : Array Edge} {t t' : TypeId} {v x' v' : Value}
  (hrun : (Builtin.append_ #[t, t'] ty #[v, x']).run P w = .ok v' w') (hs : a.eval s = v) (hx : a.eval x = x') (h : wpList P ops Q rest (a.put dst v') w') :
  wpList P ops Q (⟨dst, .call { callee := .builtin .append, args := #[s, x], argTypes := #[t, t'] }, ty, pos, after, none⟩ :: rest) a w :=
 wpList_plain rfl fun _ hK => by
  unfold Oper.wp execOp
  simp only [resolve, invoke, builtin, Sem.run_bind, Sem.run_pure, Result.andThen_ok, List.map_toArray, List.map_cons, List.map_nil, hs, hx, hrun]
  exact hK _ _ h
end
/-- a literal's row, fresh, marked or not -/
theorem Sl.fresh (w : World) (cs : Array Value) (e : TypeId) (fr : Nat × Nat) (n sz : Nat) (h : cs.toList.length = n * sz) : Sl (w.alloc (.cells cs e fr)) sz (some ⟨w.heap.size, 0, none⟩) n cs.toList := by
 refine ⟨h, fun _ => ⟨w.heap.size, 0, rfl, by simp, fun j u hu => ?_⟩⟩
 rw [Nat.zero_add, cell_of_row _ w.heap.size j _ e fr (heap_alloc_new w _)]
 simpa using hu
/-- the one-element slice that '..., x)' makes ahead of an append -/
theorem Sl.one (w : World) (u : Value) (e : TypeId) : Sl (w.alloc (.cells #[u] e)) 1 (some ⟨w.heap.size, 0, none⟩) 1 [u] := by
 refine ⟨rfl, fun _ => ⟨w.heap.size, 0, rfl, by simp, fun j x hx => ?_⟩⟩
 rw [Nat.zero_add, cell_of_row _ w.heap.size j #[u] e (0, 0) (heap_alloc_new w _)]
 simpa using hx
/-- the length in a slot: for a loop's measure -/
def lenOf : Value → Nat | .slice _ n _ => n | _ => 0
theorem own_cap {w : World} {base : Nat} {e : TypeId} {sz : Nat} {A : Option Addr} {c : Nat} {n : Nat} {xs : List Value} (h : w.ownsRow base e sz (.slice A n c) n xs) : n ≤ c ∧ c ≤ maxLen := by
 obtain ⟨A', c', e, h1, h2⟩ := own_form h
 injection e with _ _ e
 subst e
 exact ⟨h1, h2⟩
theorem own_at {w : World} {base : Nat} {e : TypeId} {sz : Nat} {A : Option Addr} {c : Nat} {n : Nat} {xs : List Value} (h : w.ownsRow base e sz (.slice A n c) n xs) (hn : 0 < n) : ∃ g, A = some ⟨g, 0, none⟩ ∧ base ≤ g ∧ g < w.heap.size := by
 rcases h.2 with ⟨_, hz⟩ | ⟨g, cap, cur, hv, hb, hg, _⟩
 ·omega
 ·injection hv with h1
  exact ⟨g, h1, hb, (Array.getElem?_eq_some_iff.1 hg).1⟩
/-- the empty literal's row -/
theorem own_made (w : World) (e : TypeId) (sz : Nat) {base : Nat} (hb : base ≤ w.heap.size) : (w.alloc (.cells #[] e)).ownsRow base e sz (.slice (some ⟨w.heap.size, 0, none⟩) 0 0) 0 [] :=
 World.ownsRow_made w #[] 0 hb (by simp [maxLen]) (by simp)
/-- 'string(b)' of a slice that reads as bytes -/
theorem Sl.toStr {P : Program} {w : World} {A : Option Addr} {n : Nat} {l : List UInt8} (h : Sl w 1 A n (l.map fun b => .int .u8 (b.toNat : Int))) {src dst e : TypeId} (c : Nat)
  (hs : P.underlying src = some (.slice e)) (he : P.underlying e = some (.int .u8)) (hd : P.underlying dst = some .string) : (convert src dst (.slice A n c)).run P w = .ok (.string ⟨l.toArray⟩) w := by
 have hl : l.length = n := by have := h.1; simpa using this
 rcases A with _ | ad
 ·have hn : n = 0 := by
   rcases Nat.eq_zero_or_pos n with h0 | h0
   ·exact h0
   ·obtain ⟨_, _, e, _⟩ := h.2 h0
    cases e
  subst hn
  have : l = [] := List.eq_nil_of_length_eq_zero hl
  subst this
  exact run_convert_bytes_nil w src e hs he 0 c dst hd
 ·subst hl
  refine run_convert_bytes_back w src dst e ad c l hs he hd fun j hj => ?_
  obtain ⟨b, off, e, hb, hc⟩ := h.2 (by omega)
  injection e with e
  subst e
  rw [addr_add]
  exact hc j _ (by simp [hj])
/-! ### cells of the call's own -/
end Go.Proofs.YtgmbkcjihgphmaaGreat
/- Bytes and numbers as cells. -/
set_option linter.unusedVariables false
namespace Go.Proofs.YtgmbkcjihgphmaaGreat
open Go.RowKit
def bytesV (l : List UInt8) : List Value := l.map fun b => .int .u8 (b.toNat : Int)
theorem bytesV_drop (l : List UInt8) (k : Nat) : (bytesV l).drop k = bytesV (l.drop k) := by simp [bytesV]
theorem bytesV_take (l : List UInt8) (k : Nat) : (bytesV l).take k = bytesV (l.take k) := by simp [bytesV]
theorem bytesV_length (l : List UInt8) : (bytesV l).length = l.length := by simp [bytesV]
theorem bytesV_one (l : List UInt8) : ∀ u ∈ bytesV l, u.oneCell' = true := by
 intro u hu
 obtain ⟨_, _, rfl⟩ := List.mem_map.1 hu
 rfl
theorem bytesV_get (l : List UInt8) (k : Nat) (hk : k < l.length) : (bytesV l)[k]? = some (.int .u8 (l[k].toNat : Int)) := by
 simp [bytesV, hk]
theorem bytesV_look {w : World} {A : Option Addr} {n k : Nat} {l : List UInt8} (h : Sl w 1 A n (bytesV l)) (hk : k < n) :
  ∃ (b off : Nat) (x : UInt8), A = some ⟨b, off, none⟩ ∧ b < w.heap.size ∧ w.cell? ⟨b, off + k, none⟩ = some (.int .u8 (x.toNat : Int)) ∧ l.drop k = x :: l.drop (k + 1) := by
 have hl : l.length = n := by have := h.1; simpa [bytesV] using this
 have hkl : k < l.length := by omega
 obtain ⟨b, off, u, e, hb, hu, hc⟩ := h.look hk
 rw [bytesV_get l k hkl] at hu
 injection hu with hu
 subst hu
 exact ⟨b, off, l[k], e, hb, hc, List.drop_eq_getElem_cons hkl⟩
end Go.Proofs.YtgmbkcjihgphmaaGreat
/- grain, plain: values, how they are written as bytes and read. -/
namespace Go.Proofs.YtgmbkcjihgphmaaGreat
open Go.RowKit
/-- a value: its kind, its number, its bytes, the bits of its number with a point, its list -/
inductive Val where
 | mk : Int → Nat → List UInt8 → Nat → List Val → Val
namespace Val
def kind : Val → Int | mk k _ _ _ _ => k
def num : Val → Nat | mk _ u _ _ _ => u
def bytes : Val → List UInt8 | mk _ _ b _ _ => b
def flt : Val → Nat | mk _ _ _ f _ => f
def list : Val → List Val | mk _ _ _ _ l => l
def zero : Val := mk 0 0 [] 0 []
end Val
def isNan (b : Nat) : Bool := FloatKind.f64.format.order b b != some .eq
/-- the bits of what is no number, in its one form -/
def nanB : Nat := 9221120237041090560
def canonB (b : Nat) : Nat := if isNan b then nanB else b
/-! ### writing -/
/-- a number's parts of seven bits behind the first byte x -/
def tailL (x n : Nat) : List UInt8 := if n = 0 then [UInt8.ofNat x] else UInt8.ofNat (x + 128) :: tailL (n % 128) (n / 128)
termination_by n
decreasing_by omega
def headL (k n : Nat) : List UInt8 := tailL (n % 32 * 4 + k) (n / 32)
def be64 (b : Nat) : List UInt8 := [56, 48, 40, 32, 24, 16, 8, 0].map fun i => UInt8.ofNat (b / 2 ^ i)
abbrev Res (α : Type) := Except Int α
def fin (out : List UInt8) : Res (List UInt8) := if 1048576 < out.length then .error 2 else .ok out
/-- all of a list, one behind the other -/
def wrL (f : List UInt8 → Val → Res (List UInt8)) : List UInt8 → List Val → Res (List UInt8)
 | out, [] => .ok out
 | out, v :: r => match f out v with | .ok o => wrL f o r | .error e => .error e
/-- the bytes so far with a value's behind them; d: how deep one may still go -/
def wrV : Nat → List UInt8 → Val → Res (List UInt8)
 | 0, _, _ => .error 24
 | d + 1, out, v =>
  if v.kind = 0 then fin (out ++ headL 0 v.num)
  else if v.kind = 1 then fin (out ++ headL 1 v.bytes.length ++ v.bytes)
  else if v.kind = 2 then fin (out ++ headL 2 0 ++ be64 (canonB v.flt))
  else if v.kind = 3 then match wrL (wrV d) (out ++ headL 3 v.list.length) v.list with | .ok o => fin o | .error e => .error e
  else .error 22
def enc (v : Val) : Res (List UInt8) := wrV 16 [] v
/-! ### reading -/
/-- behind a head's byte x: the number so far n, its next part's place 2 ^ s -/
def rdT : Nat → Nat → UInt8 → List UInt8 → Res (Nat × List UInt8)
 | s, n, x, [] => if x < 128 then .ok (n, []) else .error 20
 | s, n, x, y :: r => if x < 128 then .ok (n, y :: r) else if y = 0 ∨ (s = 61 ∧ 7 < y) then .error 21 else rdT (s + 7) (n + y.toNat % 128 * 2 ^ s) y r
def rdH : List UInt8 → Res (Nat × Nat × List UInt8)
 | [] => .error 20
 | x :: r => match rdT 5 (x.toNat / 4 % 32) x r with | .ok (n, q) => .ok (x.toNat % 4, n, q) | .error e => .error e
def ofBe (l : List UInt8) : Nat := l.foldl (fun b x => b * 256 + x.toNat) 0
/-- so many values, one behind the other -/
def rdN (f : List UInt8 → Res (Val × List UInt8)) : Nat → List UInt8 → Res (List Val × List UInt8)
 | 0, l => .ok ([], l)
 | n + 1, l => match f l with
  | .ok (v, r) => match rdN f n r with | .ok (vs, q) => .ok (v :: vs, q) | .error e => .error e
  | .error e => .error e
def rd : Nat → List UInt8 → Res (Val × List UInt8)
 | 0, _ => .error 24
 | d + 1, l => match rdH l with
  | .error e => .error e
  | .ok (k, n, r) =>
   if k = 0 then .ok (.mk 0 n [] 0 [], r)
   else if k = 1 then if r.length < n then .error 20 else .ok (.mk 1 0 (r.take n) 0 [], r.drop n)
   else if k = 2 then if r.length < 8 then .error 20 else
    if n ≠ 0 ∨ canonB (ofBe (r.take 8)) ≠ ofBe (r.take 8) then .error 22 else .ok (.mk 2 0 [] (ofBe (r.take 8)) [], r.drop 8)
   else match rdN (rd d) n r with | .ok (vs, q) => .ok (.mk 3 0 [] 0 vs, q) | .error e => .error e
def dec (l : List UInt8) : Res Val :=
 if 1048576 < l.length then .error 2 else
 match rd 16 l with
 | .error e => .error e
 | .ok (v, []) => .ok v
 | .ok (_, _ :: _) => .error 23
end Go.Proofs.YtgmbkcjihgphmaaGreat
/- grain, plain: heads written are read again, and the other way round. -/
namespace Go.Proofs.YtgmbkcjihgphmaaGreat
open Go.RowKit
theorem u8_ofNat {n : Nat} (h : n < 256) : (UInt8.ofNat n).toNat = n := by simp [UInt8.toNat_ofNat']; omega
theorem u8_lt (x : UInt8) : x.toNat < 256 := x.toNat_lt
theorem u8_ext {x y : UInt8} (h : x.toNat = y.toNat) : x = y := UInt8.toNat_inj.1 h
theorem rdT_end {s n : Nat} {x : UInt8} {l : List UInt8} (hx : x.toNat < 128) : rdT s n x l = .ok (n, l) := by
 have : x < 128 := by rw [UInt8.lt_iff_toNat_lt]; exact hx
 cases l <;> simp [rdT, this]
theorem rdT_short {s n : Nat} {x : UInt8} (hx : ¬ x.toNat < 128) : rdT s n x [] = .error 20 := by
 have : ¬ x < 128 := by rw [UInt8.lt_iff_toNat_lt]; exact hx
 simp [rdT, this]
theorem rdT_more {s n : Nat} {x y : UInt8} {l : List UInt8} (hx : ¬ x.toNat < 128) : rdT s n x (y :: l) = if y.toNat = 0 ∨ (s = 61 ∧ 7 < y.toNat) then .error 21 else rdT (s + 7) (n + y.toNat % 128 * 2 ^ s) y l := by
 have h1 : ¬ x < 128 := by rw [UInt8.lt_iff_toNat_lt]; exact hx
 have h2 : y = 0 ↔ y.toNat = 0 := ⟨fun h => by rw [h]; rfl, fun h => u8_ext h⟩
 have h3 : 7 < y ↔ 7 < y.toNat := by rw [UInt8.lt_iff_toNat_lt]; rfl
 rw [rdT, if_neg h1]
 simp only [h2, h3]
theorem tailL_zero (x : Nat) : tailL x 0 = [UInt8.ofNat x] := by rw [tailL]; simp
theorem tailL_pos (x : Nat) {n : Nat} (h : n ≠ 0) : tailL x n = UInt8.ofNat (x + 128) :: tailL (n % 128) (n / 128) := by rw [tailL, if_neg h]
theorem tailL_ne (x n : Nat) : tailL x n ≠ [] := by
 by_cases h : n = 0
 ·subst h; rw [tailL_zero]; simp
 ·rw [tailL_pos x h]; simp
theorem rdT_back : ∀ (l : List UInt8) (s n : Nat) (x : UInt8) (n' : Nat) (r : List UInt8), rdT s n x l = .ok (n', r) → s % 7 = 5 → s ≤ 61 ∨ x.toNat < 128 → (s ≤ 61 → n < 2 ^ s) → (¬ s ≤ 61 → n < 2 ^ 64) →
  ∃ m, n' = n + m * 2 ^ s ∧ x :: l = tailL (x.toNat % 128) m ++ r ∧ n' < 2 ^ 64 := by
 intro l
 induction l with
 | nil =>
  intro s n x n' r h hs h61 hn hn2
  by_cases hx : x.toNat < 128
  ·rw [rdT_end hx] at h
   injection h with h
   injection h with h1 h2
   subst h1 h2
   refine ⟨0, by omega, ?_, ?_⟩
   ·rw [tailL_zero]
    have : UInt8.ofNat (x.toNat % 128) = x := u8_ext (by rw [u8_ofNat (by omega)]; omega)
    simp [this]
   ·by_cases h6 : s ≤ 61
    ·exact Nat.lt_of_lt_of_le (hn h6) (Nat.pow_le_pow_right (by omega) (by omega))
    ·exact hn2 h6
  ·rw [rdT_short hx] at h; cases h
 | cons y l ih =>
  intro s n x n' r h hs h61 hn hn2
  by_cases hx : x.toNat < 128
  ·rw [rdT_end hx] at h
   injection h with h
   injection h with h1 h2
   subst h1 h2
   refine ⟨0, by omega, ?_, ?_⟩
   ·rw [tailL_zero]
    have : UInt8.ofNat (x.toNat % 128) = x := u8_ext (by rw [u8_ofNat (by omega)]; omega)
    simp [this]
   ·by_cases h6 : s ≤ 61
    ·exact Nat.lt_of_lt_of_le (hn h6) (Nat.pow_le_pow_right (by omega) (by omega))
    ·exact hn2 h6
  ·rw [rdT_more hx] at h
   split at h
   ·cases h
   ·rename_i hy
    have h6 : s ≤ 61 := by omega
    have hns := hn h6
    have hlt : n + y.toNat % 128 * 2 ^ s < 2 ^ (s + 7) := by
     have h1 : y.toNat % 128 * 2 ^ s ≤ 127 * 2 ^ s := Nat.mul_le_mul_right _ (by omega)
     rw [Nat.pow_add]
     omega
    have hlt64 : ¬ s + 7 ≤ 61 → n + y.toNat % 128 * 2 ^ s < 2 ^ 64 := by
     intro h
     have h61' : s = 61 := by omega
     subst h61'
     have h7 : y.toNat ≤ 7 := by omega
     have h1 : y.toNat % 128 * 2 ^ 61 ≤ 7 * 2 ^ 61 := Nat.mul_le_mul_right _ (by omega)
     omega
    obtain ⟨m, e1, e2, e3⟩ := ih (s + 7) _ y n' r h (by omega) (by by_cases h : s + 7 ≤ 61; exact .inl h; right; omega) (fun _ => hlt) hlt64
    have hm0 : y.toNat % 128 + 128 * m ≠ 0 := by
     intro h0
     have hm : m = 0 := by omega
     subst hm
     rw [tailL_zero, List.cons_append] at e2
     injection e2 with e2 _
     have := congrArg UInt8.toNat e2
     rw [u8_ofNat (by omega)] at this
     omega
    refine ⟨y.toNat % 128 + 128 * m, ?_, ?_, e3⟩
    ·rw [e1, Nat.add_mul, Nat.pow_add, Nat.mul_comm 128 m, Nat.mul_assoc m, Nat.mul_comm 128, Nat.add_assoc]
    ·rw [tailL_pos _ hm0, List.cons_append]
     have h1 : (y.toNat % 128 + 128 * m) % 128 = y.toNat % 128 := by omega
     have h2 : (y.toNat % 128 + 128 * m) / 128 = m := by omega
     have h3 : UInt8.ofNat (x.toNat % 128 + 128) = x := u8_ext (by have := u8_lt x; rw [u8_ofNat (by omega)]; omega)
     rw [h1, h2, h3, e2]
theorem rdH_back {l : List UInt8} {k n : Nat} {r : List UInt8} (h : rdH l = .ok (k, n, r)) : l = headL k n ++ r ∧ k < 4 ∧ n < 2 ^ 64 := by
 cases l with
 | nil => cases h
 | cons x l =>
  rw [rdH] at h
  split at h
  ·rename_i n0 q hq
   injection h with h
   injection h with h1 h
   injection h with h2 h3
   subst h1 h2 h3
   obtain ⟨m, e1, e2, e3⟩ := rdT_back l 5 (x.toNat / 4 % 32) x n0 q hq (by omega) (.inl (by omega)) (fun _ => by omega) (fun h => absurd (by omega) h)
   refine ⟨?_, by omega, e3⟩
   rw [e2]
   unfold headL
   have h1 : n0 % 32 * 4 + x.toNat % 4 = x.toNat % 128 := by omega
   have h2 : n0 / 32 = m := by omega
   rw [h1, h2]
  ·cases h
end Go.Proofs.YtgmbkcjihgphmaaGreat
/- grain, plain: what is written is read again, and the other way round; cut short it is too short. -/
namespace Go.Proofs.YtgmbkcjihgphmaaGreat
open Go.RowKit
/-! ### eight bytes -/
theorem be64_ofBe {l : List UInt8} (hl : l.length = 8) : be64 (ofBe l) = l ∧ ofBe l < 2 ^ 64 := by
 match l, hl with
 | [a, b, c, d, e, f, g, h], _ =>
  have ha := u8_lt a; have hb := u8_lt b; have hc := u8_lt c; have hd := u8_lt d; have he := u8_lt e; have hf := u8_lt f; have hg := u8_lt g; have hh := u8_lt h
  simp only [ofBe, be64, List.map_cons, List.map_nil, List.foldl_cons, List.foldl_nil]
  refine ⟨?_, by omega⟩
  congr 1
  ·exact u8_ext (by rw [u8_ofNat (by omega)]; omega)
  have key : ∀ (n : Nat) (x : UInt8), n % 256 = x.toNat → UInt8.ofNat n = x := fun n x h => u8_ext (by rw [show (UInt8.ofNat n).toNat = n % 256 from by simp [UInt8.toNat_ofNat']]; exact h)
  congr 1
  ·exact key _ _ (by omega)
  congr 1
  ·exact key _ _ (by omega)
  congr 1
  ·exact key _ _ (by omega)
  congr 1
  ·exact key _ _ (by omega)
  congr 1
  ·exact key _ _ (by omega)
  congr 1
  ·exact key _ _ (by omega)
  congr 1
  ·exact key _ _ (by omega)
theorem canonB_lt {b : Nat} (h : b < 2 ^ 64) : canonB b < 2 ^ 64 := by
 unfold canonB nanB
 split <;> omega
/-! ### writing without a limit -/
def wrpL (f : Val → Res (List UInt8)) : List Val → Res (List UInt8)
 | [] => .ok []
 | v :: r => match f v with | .ok e => (match wrpL f r with | .ok e' => .ok (e ++ e') | .error c => .error c) | .error c => .error c
def wrp : Nat → Val → Res (List UInt8)
 | 0, _ => .error 24
 | d + 1, v =>
  if v.kind = 0 then .ok (headL 0 v.num)
  else if v.kind = 1 then .ok (headL 1 v.bytes.length ++ v.bytes)
  else if v.kind = 2 then .ok (headL 2 0 ++ be64 (canonB v.flt))
  else if v.kind = 3 then match wrpL (wrp d) v.list with | .ok o => .ok (headL 3 v.list.length ++ o) | .error e => .error e
  else .error 22
theorem fin_ok {o x : List UInt8} : fin o = .ok x ↔ o = x ∧ o.length ≤ 1048576 := by
 unfold fin
 split
 ·constructor
  ·intro h; cases h
  ·rintro ⟨_, h⟩; omega
 ·constructor
  ·intro h; injection h with h; exact ⟨h, by omega⟩
  ·rintro ⟨rfl, _⟩; rfl
theorem wr_iff : ∀ (d : Nat) (out : List UInt8) (v : Val) (o : List UInt8), wrV d out v = .ok o ↔ ∃ e, wrp d v = .ok e ∧ o = out ++ e ∧ o.length ≤ 1048576 := by
 intro d
 induction d with
 | zero => intro out v o; simp [wrV, wrp]
 | succ d ih =>
  have hl : ∀ (l : List Val) (out o : List UInt8), o.length ≤ 1048576 → (wrL (wrV d) out l = .ok o ↔ ∃ e, wrpL (wrp d) l = .ok e ∧ o = out ++ e) := by
   intro l
   induction l with
   | nil =>
    intro out o ho
    simp [wrL, wrpL]
    exact eq_comm
   | cons v r ihl =>
    intro out o ho
    rw [wrL, wrpL]
    constructor
    ·intro h
     split at h
     ·rename_i o1 h1
      obtain ⟨e1, h2, rfl, h3⟩ := (ih out v o1).1 h1
      obtain ⟨e2, h4, h5⟩ := (ihl _ o ho).1 h
      exact ⟨e1 ++ e2, by rw [h2, h4], by rw [h5, List.append_assoc]⟩
     ·cases h
    ·rintro ⟨e, he, rfl⟩
     split at he
     ·rename_i e1 h1
      split at he
      ·rename_i e2 h2
       injection he with he
       subst he
       rw [(ih out v (out ++ e1)).2 ⟨e1, h1, rfl, by simp at ho ⊢; omega⟩]
       exact (ihl _ _ ho).2 ⟨e2, h2, by simp⟩
      ·cases he
     ·cases he
  intro out v o
  unfold wrV wrp
  split
  ·rw [fin_ok]
   constructor
   ·rintro ⟨rfl, h⟩; exact ⟨_, rfl, rfl, h⟩
   ·rintro ⟨e, he, rfl, h⟩; injection he with he; subst he; exact ⟨rfl, h⟩
  split
  ·rw [fin_ok]
   constructor
   ·rintro ⟨rfl, h⟩; exact ⟨_, rfl, by simp, h⟩
   ·rintro ⟨e, he, rfl, h⟩; injection he with he; subst he; exact ⟨by simp, by simpa using h⟩
  split
  ·rw [fin_ok]
   constructor
   ·rintro ⟨rfl, h⟩; exact ⟨_, rfl, by simp, h⟩
   ·rintro ⟨e, he, rfl, h⟩; injection he with he; subst he; exact ⟨by simp, by simpa using h⟩
  split
  ·constructor
   ·intro h
    split at h
    ·rename_i o1 h1
     obtain ⟨rfl, h2⟩ := fin_ok.1 h
     obtain ⟨e, h3, h4⟩ := (hl _ _ _ h2).1 h1
     exact ⟨headL 3 v.list.length ++ e, by rw [h3], by rw [h4, List.append_assoc], h2⟩
    ·cases h
   ·rintro ⟨e, he, rfl, h⟩
    split at he
    ·rename_i e1 h1
     injection he with he
     subst he
     rw [(hl v.list _ (out ++ (headL 3 v.list.length ++ e1)) h).2 ⟨e1, h1, by simp⟩]
     exact fin_ok.2 ⟨rfl, h⟩
    ·cases he
  ·simp
/-! ### what is written is read -/
/-- what of a value counts -/
def norm : Nat → Val → Val
 | 0, v => v
 | d + 1, v =>
  if v.kind = 0 then .mk 0 v.num [] 0 []
  else if v.kind = 1 then .mk 1 0 v.bytes 0 []
  else if v.kind = 2 then .mk 2 0 [] (canonB v.flt) []
  else .mk 3 0 [] 0 (v.list.map (norm d))
/-- numbers that fit their fields, all the way down -/
def Fits : Nat → Val → Prop
 | 0, _ => True
 | d + 1, v => v.num < 2 ^ 64 ∧ v.flt < 2 ^ 64 ∧ v.bytes.length < 2 ^ 64 ∧ v.list.length < 2 ^ 64 ∧ ∀ x ∈ v.list, Fits d x
/-- what is read is what its value is written as -/
theorem rdN_back {f : Val → Res (List UInt8)} {g : List UInt8 → Res (Val × List UInt8)} {h : Val → Val} {p : Val → Prop} (hg : ∀ l v r, g l = .ok (v, r) → ∃ e, l = e ++ r ∧ f v = .ok e ∧ h v = v ∧ p v) : ∀ (n : Nat) (l : List UInt8) (vs : List Val) (r : List UInt8), rdN g n l = .ok (vs, r) →
  ∃ e, l = e ++ r ∧ wrpL f vs = .ok e ∧ vs.map h = vs ∧ vs.length = n ∧ ∀ v ∈ vs, p v
 | 0, l, vs, r, h => by injection h with h; injection h with h1 h2; subst h1 h2; exact ⟨[], rfl, rfl, rfl, rfl, by simp⟩
 | n + 1, l, vs, r, hn => by
  rw [rdN] at hn
  split at hn
  ·rename_i v q h1
   split at hn
   ·rename_i vs' q' h2
    injection hn with hn
    injection hn with e1 e2
    subst e1 e2
    obtain ⟨a, rfl, a2, a3, a4⟩ := hg _ _ _ h1
    obtain ⟨b, rfl, b2, b3, b4, b5⟩ := rdN_back hg n _ _ _ h2
    refine ⟨a ++ b, by simp, ?_, by simp [a3, b3], by simp [b4], by simp [a4]; exact b5⟩
    rw [wrpL, a2]
    simp only []
    rw [b2]
   ·cases hn
  ·cases hn
theorem rd_back : ∀ (d : Nat) (l : List UInt8) (v : Val) (r : List UInt8), rd d l = .ok (v, r) → ∃ e, l = e ++ r ∧ wrp d v = .ok e ∧ norm d v = v ∧ Fits d v := by
 intro d
 induction d with
 | zero => intro l v r h; cases h
 | succ d ih =>
  intro l v r h
  unfold rd at h
  split at h
  ·cases h
  rename_i k n q hq
  obtain ⟨rfl, hk4, hn⟩ := rdH_back hq
  split at h
  ·rename_i hk
   subst hk
   injection h with h
   injection h with h1 h2
   subst h1 h2
   exact ⟨headL 0 n, rfl, by simp [wrp, Val.kind, Val.num], by simp [norm, Val.kind, Val.num], by simpa [Fits, Val.num, Val.flt, Val.bytes, Val.list] using hn⟩
  split at h
  ·rename_i hk
   subst hk
   split at h
   ·cases h
   ·rename_i hlen
    injection h with h
    injection h with h1 h2
    subst h1 h2
    have hl : (q.take n).length = n := by rw [List.length_take]; omega
    refine ⟨headL 1 n ++ q.take n, by simp, ?_, by simp [norm, Val.kind, Val.bytes], by simp [Fits, Val.num, Val.flt, Val.bytes, Val.list]; omega⟩
    simp [wrp, Val.kind, Val.bytes]
    rw [Nat.min_eq_left (by omega)]
  split at h
  ·rename_i hk
   subst hk
   split at h
   ·cases h
   ·rename_i hlen
    split at h
    ·cases h
    ·rename_i hc
     injection h with h
     injection h with h1 h2
     subst h1 h2
     have hn0 : n = 0 := by apply Classical.byContradiction; intro h; exact hc (.inl h)
     have hcb : canonB (ofBe (q.take 8)) = ofBe (q.take 8) := by apply Classical.byContradiction; intro h; exact hc (.inr h)
     subst hn0
     obtain ⟨e1, e2⟩ := be64_ofBe (l := q.take 8) (by rw [List.length_take]; omega)
     refine ⟨headL 2 0 ++ q.take 8, by simp, ?_, by simp [norm, Val.kind, Val.flt, hcb], by simp only [Fits, Val.num, Val.flt, Val.bytes, Val.list]; exact ⟨by omega, e2, by simp, by simp, by simp⟩⟩
     simp [wrp, Val.kind, Val.flt, hcb, e1]
  ·rename_i hk0 hk1 hk2
   have hk3 : k = 3 := by omega
   subst hk3
   split at h
   ·rename_i vs q' h1
    injection h with h
    injection h with e1 e2
    subst e1 e2
    obtain ⟨e, rfl, h2, h3, h4, h5⟩ := rdN_back (f := wrp d) (h := norm d) (p := Fits d) ih n q vs q' h1
    refine ⟨headL 3 n ++ e, by simp, ?_, by simp [norm, Val.kind, Val.list, h3], by simp only [Fits, Val.num, Val.flt, Val.bytes, Val.list]; exact ⟨by omega, by omega, by simp, by omega, h5⟩⟩
    simp [wrp, Val.kind, Val.list, h2, h4]
   ·cases h
/-! ### cut short -/
/-! ### Encode and Decode -/
theorem enc_iff (v : Val) (o : List UInt8) : enc v = .ok o ↔ wrp 16 v = .ok o ∧ o.length ≤ 1048576 := by
 unfold enc
 rw [wr_iff]
 constructor
 ·rintro ⟨e, h, rfl, h2⟩; exact ⟨by simpa using h, h2⟩
 ·rintro ⟨h, h2⟩; exact ⟨o, h, rfl, h2⟩
theorem dec_back {l : List UInt8} {v : Val} (h : dec l = .ok v) : enc v = .ok l ∧ norm 16 v = v ∧ Fits 16 v ∧ l.length ≤ 1048576 := by
 unfold dec at h
 split at h
 ·cases h
 rename_i hl
 split at h
 ·cases h
 ·rename_i v' hv
  injection h with h
  subst h
  obtain ⟨e, h1, h2, h3, h4⟩ := rd_back 16 l v' [] hv
  rw [List.append_nil] at h1
  subst h1
  exact ⟨(enc_iff _ _).2 ⟨h2, by omega⟩, h3, h4, by omega⟩
 ·cases h
end Go.Proofs.YtgmbkcjihgphmaaGreat
/- object, plain: blobs, trees, commits as values, and how they are read out of bytes. -/
namespace Go.Proofs.YtgmbkcjihgphmaaGreat
open Go.RowKit
abbrev BlobT := List (List UInt8) × Int
abbrev EntT := ByteArray × Bool × List UInt8 × Nat
abbrev ComT := List UInt8 × List (List UInt8) × Nat × ByteArray × ByteArray
def sB (s : ByteArray) : List UInt8 := s.data.toList
def txtV (b : List UInt8) : Val := .mk 1 0 b 0 []
def numV (n : Nat) : Val := .mk 0 n [] 0 []
def fltV (f : Nat) : Val := .mk 2 0 [] f []
def lstV (l : List Val) : Val := .mk 3 0 [] 0 l
def sealG (kind : Nat) (vs : List Val) : Res (List UInt8) := enc (lstV (numV kind :: vs))
/-! ### names, order -/
def badB (x : UInt8) : Bool := x < 32 || x == 127 || x == 47
def nameG (l : List UInt8) : Bool := l != [] && l != [46] && l != [46, 46] && decide (l.length ≤ 64) && l.all (fun x => !badB x)
/-- the error's number of a tree's names, behind a name p -/
def ordG : Option (List UInt8) → List EntT → Int
 | _, [] => 0
 | p, x :: r => if nameG (sB x.1) = false then 50 else if (match p with | none => false | some q => !(Op.bytesLess q (sB x.1))) = true then 92 else ordG (some (sB x.1)) r
def orderedG (l : List EntT) : Int := if 1024 < l.length then 2 else ordG none l
def riseG : Option (List UInt8) → List (List UInt8) → Bool
 | _, [] => true
 | none, x :: r => riseG (some x) r
 | some p, x :: r => Op.bytesLess p x && riseG (some x) r
def risingG (l : List (List UInt8)) : Bool := riseG none l
/-! ### writing -/
def putChunk (b : List UInt8) : Res (List UInt8) := if 262144 < b.length then .error 2 else sealG 1 [txtV b]
def entV (x : EntT) : Val := if x.2.1 then lstV [txtV (sB x.1), txtV x.2.2.1] else lstV [txtV (sB x.1), txtV x.2.2.1, fltV (canonB x.2.2.2)]
def putTree (l : List EntT) : Res (List UInt8) := if orderedG l ≠ 0 then .error (orderedG l) else sealG 3 [lstV (l.map entV)]
def putCommit (x : ComT) : Res (List UInt8) := if 8 < x.2.1.length ∨ 64 < (sB x.2.2.2.1).length ∨ 1024 < (sB x.2.2.2.2).length then .error 2 else if risingG x.2.1 = false then .error 92 else
 sealG 4 [txtV x.1, lstV (x.2.1.map txtV), fltV (canonB x.2.2.1), txtV (sB x.2.2.2.1), txtV (sB x.2.2.2.2)]
/-! ### reading -/
def bindR {α β : Type} : Res α → (α → Res β) → Res β
 | .error z, _ => .error z
 | .ok x, f => f x
def openV (v : Val) (kind count : Nat) : Res (List Val) := if v.kind ≠ 3 ∨ v.list.length ≠ count + 1 then .error 91 else match v.list with
  | [] => .error 91
  | h :: t => if h.kind ≠ 0 then .error 91 else if h.num ≠ kind then .error 90 else .ok t
def openG (l : List UInt8) (kind count : Nat) : Res (List Val) := bindR (dec l) fun v => openV v kind count
def textG (v : Val) (most : Nat) : Res (List UInt8) := if v.kind ≠ 1 then .error 91 else if most < v.bytes.length then .error 2 else .ok v.bytes
def idG (v : Val) : Res (List UInt8) := if v.kind ≠ 1 ∨ v.bytes.length ≠ 32 then .error 91 else .ok v.bytes
def listG (v : Val) (most : Nat) : Res (List Val) := if v.kind ≠ 3 then .error 91 else if most < v.list.length then .error 2 else .ok v.list
/-- each of a list -/
def eachG {α : Type} (f : Val → Res α) : List Val → Res (List α)
 | [] => .ok []
 | v :: r => bindR (f v) fun x => bindR (eachG f r) fun xs => .ok (x :: xs)
/-- the i-th of a record's values -/
def nthV (vs : List Val) (i : Nat) : Val := vs.getD i Val.zero
def getChunk (l : List UInt8) : Res (List UInt8) := bindR (openG l 1 1) fun vs => textG (nthV vs 0) 262144
def idsG (v : Val) (most : Nat) : Res (List (List UInt8)) := bindR (listG v most) (eachG idG)
def blobEnd (is : List (List UInt8)) (v : Val) : Res BlobT := if v.kind ≠ 0 then .error 91 else if 262144 < v.num then .error 2 else .ok (is, (v.num : Int))
def getBlob (l : List UInt8) : Res BlobT := bindR (openG l 2 2) fun vs => bindR (idsG (nthV vs 0) 4096) fun is => blobEnd is (nthV vs 1)
def entEnd (row : List Val) (s i : List UInt8) : Res EntT := if row.length = 2 then .ok (⟨s.toArray⟩, true, i, 0) else if (nthV row 2).kind ≠ 2 then .error 91 else .ok (⟨s.toArray⟩, false, i, (nthV row 2).flt)
def entRow (row : List Val) : Res EntT := if row.length < 2 then .error 91 else bindR (textG (nthV row 0) 64) fun s => bindR (idG (nthV row 1)) fun i => entEnd row s i
def entG (v : Val) : Res EntT := bindR (listG v 3) entRow
def treeEnd (es : List EntT) : Res (List EntT) := if orderedG es ≠ 0 then .error (orderedG es) else .ok es
def getTree (l : List UInt8) : Res (List EntT) := bindR (openG l 3 1) fun vs => bindR (listG (nthV vs 0) 1024) fun us => bindR (eachG entG us) treeEnd
def comEnd (vs : List Val) (t : List UInt8) (ps : List (List UInt8)) : Res ComT := if risingG ps = false then .error 92 else if (nthV vs 2).kind ≠ 2 then .error 91 else
 bindR (textG (nthV vs 3) 64) fun a => bindR (textG (nthV vs 4) 1024) fun n => .ok (t, ps, (nthV vs 2).flt, ⟨a.toArray⟩, ⟨n.toArray⟩)
def getCommit (l : List UInt8) : Res ComT := bindR (openG l 4 5) fun vs => bindR (idG (nthV vs 0)) fun t => bindR (idsG (nthV vs 1) 8) fun ps => comEnd vs t ps
def kindV (v : Val) : Res Nat := if v.kind ≠ 3 then .error 91 else match v.list with
  | [] => .error 91
  | h :: _ => if h.kind ≠ 0 then .error 91 else if 1 ≤ h.num ∧ h.num ≤ 4 then .ok h.num else .error 90
def kindG (l : List UInt8) : Res Nat := bindR (dec l) kindV
def linksG (l : List UInt8) : Res (List (List UInt8)) := bindR (kindG l) fun k =>
 if k = 2 then bindR (getBlob l) fun x => .ok x.1
 else if k = 3 then bindR (getTree l) fun x => .ok (x.map (·.2.2.1))
 else if k = 4 then bindR (getCommit l) fun x => .ok (x.1 :: x.2.1)
 else bindR (getChunk l) fun _ => .ok []
end Go.Proofs.YtgmbkcjihgphmaaGreat
