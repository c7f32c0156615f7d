/- Readings: how cells of memory read as plain data, whatever its shape; what keeps a reading. -/
import Derived.Test.YtehminpiejophaaDoorMem
set_option linter.unusedVariables false
namespace Go.Proofs.YtehminpiejophaaDoor
open Go.RowKit

/-- blocks that a reading keeps away from -/
abbrev Av := Nat → Prop
def no : Av := fun _ => False
/-- the block that an append onto v may turn -/
def own (v : Value) : Av := fun b => v.ownBlock = some b

/-- From w to w' nothing turned that lay outside the blocks av; av' is not met by what was not av. -/
structure Moves (w w' : World) (av av' : Av) : Prop where
  size : w.heap.size ≤ w'.heap.size
  block : ∀ b, b < w.heap.size → ¬ av b → w'.heap[b]? = w.heap[b]?
  ne : ∀ b, b < w.heap.size → ¬ av b → ¬ av' b

theorem Moves.of_below {w w' : World} {av : Av} (h : Below w.heap.size w w') : Moves w w' av av := ⟨h.size, fun b hb _ => h.block b hb, fun _ _ h => h⟩
theorem Moves.forget (w : World) (av : Av) : Moves w w av no := ⟨Nat.le_refl _, fun _ _ _ => rfl, fun _ _ _ h => h⟩
theorem Moves.less (w : World) {av av' : Av} (h : ∀ b, b < w.heap.size → av' b → av b) : Moves w w av av' := ⟨Nat.le_refl _, fun _ _ _ => rfl, fun b hb hn h' => hn (h b hb h')⟩
theorem Moves.trans {w w' w'' : World} {av av' av'' : Av} (h : Moves w w' av av') (k : Moves w' w'' av' av'') : Moves w w'' av av'' :=
  ⟨Nat.le_trans h.size k.size, fun b hb hn => (k.block b (Nat.lt_of_lt_of_le hb h.size) (h.ne b hb hn)).trans (h.block b hb hn), fun b hb hn => k.ne b (Nat.lt_of_lt_of_le hb h.size) (h.ne b hb hn)⟩
theorem Moves.of_app {w w' : World} {base : Nat} {e : TypeId} {sz : Nat} {v v' : Value} {n : Nat} {xs : List Value} (h : Appended w w' base e sz v v' n xs) : Moves w w' (own v) (own v') := by
  refine ⟨h.grown.size, fun b hb hne => h.grown.block b hb (fun e => hne e.symm), fun b hb hne => ?_⟩
  unfold own at *
  rcases h.place with hp | hp
  · rw [hp]; exact hne
  · rw [hp]; intro e; injection e with e; omega
/-- an append onto one of several rows -/
theorem Moves.of_app_in {w w' : World} {base : Nat} {e : TypeId} {sz : Nat} {v v' : Value} {n : Nat} {xs : List Value} (h : Appended w w' base e sz v v' n xs) {av av' : Av} (hv : ∀ b, own v b → av b) (hv' : ∀ b, av' b → av b ∨ own v' b) : Moves w w' av av' := by
  have m := Moves.of_app h
  refine ⟨m.size, fun b hb hne => m.block b hb (fun e => hne (hv b e)), fun b hb hne e => ?_⟩
  rcases hv' b e with h1 | h1
  · exact hne h1
  · exact m.ne b hb (fun e => hne (hv b e)) h1

/-- One after another, each piece of cells reads as one value. -/
inductive Each {α : Type} (R : List Value → α → Prop) : List Value → List α → Prop
  | nil : Each R [] []
  | cons {cs vs : List Value} {x : α} {xs : List α} : R cs x → Each R vs xs → Each R (cs ++ vs) (x :: xs)

section
variable {α : Type} {R R' : List Value → α → Prop}
theorem Each.mono {vs : List Value} {xs : List α} (h : Each R vs xs) (hr : ∀ cs x, R cs x → R' cs x) : Each R' vs xs := by
  induction h with
  | nil => exact .nil
  | cons h1 _ ih => exact .cons (hr _ _ h1) ih
theorem Each.append {vs us : List Value} {xs ys : List α} (h : Each R vs xs) (k : Each R us ys) : Each R (vs ++ us) (xs ++ ys) := by
  induction h with
  | nil => exact k
  | cons h1 _ ih => rw [List.append_assoc]; exact .cons h1 ih
theorem Each.one {cs : List Value} {x : α} (h : R cs x) : Each R cs [x] := by simpa using Each.cons h (.nil)
theorem Each.snoc {vs cs : List Value} {xs : List α} {x : α} (h : Each R vs xs) (k : R cs x) : Each R (vs ++ cs) (xs ++ [x]) := h.append (.one k)
theorem Each.empty {xs : List α} (h : Each R [] xs) (hl : xs.length = 0) : xs = [] := List.eq_nil_of_length_eq_zero hl
theorem Each.length {k : Nat} (hk : ∀ cs x, R cs x → cs.length = k) {vs : List Value} {xs : List α} (h : Each R vs xs) : vs.length = xs.length * k := by
  induction h with
  | nil => simp
  | cons h1 _ ih => rw [List.length_append, hk _ _ h1, ih, List.length_cons, Nat.add_mul]; omega
theorem Each.get {k : Nat} (hk : ∀ cs x, R cs x → cs.length = k) {vs : List Value} {xs : List α} (h : Each R vs xs) {i : Nat} {x : α} (hx : xs[i]? = some x) :
    ∃ cs, R cs x ∧ ∀ j u, cs[j]? = some u → vs[i * k + j]? = some u := by
  induction h generalizing i with
  | nil => simp at hx
  | @cons cs vs y ys h1 _ ih =>
    cases i with
    | zero =>
      simp at hx; subst hx
      refine ⟨cs, h1, fun j u hu => ?_⟩
      have hj := (List.getElem?_eq_some_iff.1 hu).1
      rw [Nat.zero_mul, Nat.zero_add, List.getElem?_append_left hj]; exact hu
    | succ i =>
      simp at hx
      obtain ⟨cs', h2, h3⟩ := ih hx
      refine ⟨cs', h2, fun j u hu => ?_⟩
      rw [Nat.add_mul, List.getElem?_append_right (by rw [hk _ _ h1]; omega), hk _ _ h1, show i * k + 1 * k + j - k = i * k + j from by omega]
      exact h3 j u hu
theorem Each.take {k : Nat} (hk : ∀ cs x, R cs x → cs.length = k) {vs : List Value} {xs : List α} (h : Each R vs xs) (n : Nat) : Each R (vs.take (n * k)) (xs.take n) := by
  induction h generalizing n with
  | nil => simp; exact .nil
  | @cons cs vs y ys h1 _ ih =>
    cases n with
    | zero => simp; exact .nil
    | succ n =>
      rw [List.take_succ_cons, List.take_append, List.take_of_length_le (by rw [hk _ _ h1, Nat.add_mul]; omega), hk _ _ h1, show (n + 1) * k - k = n * k from by rw [Nat.add_mul]; omega]
      exact .cons h1 (ih n)
theorem Each.drop {k : Nat} (hk : ∀ cs x, R cs x → cs.length = k) {vs : List Value} {xs : List α} (h : Each R vs xs) (n : Nat) : Each R (vs.drop (n * k)) (xs.drop n) := by
  induction h generalizing n with
  | nil => simp; exact .nil
  | @cons cs vs y ys h1 h2 ih =>
    cases n with
    | zero => simpa using Each.cons h1 h2
    | succ n =>
      rw [List.drop_succ_cons, List.drop_append, List.drop_of_length_le (by rw [hk _ _ h1, Nat.add_mul]; omega), hk _ _ h1, show (n + 1) * k - k = n * k from by rw [Nat.add_mul]; omega]
      simpa using ih n
theorem Each.all {vs : List Value} {xs : List α} (h : Each R vs xs) {p : Value → Prop} (hp : ∀ cs x, R cs x → ∀ u ∈ cs, p u) : ∀ u ∈ vs, p u := by
  induction h with
  | nil => intro u hu; cases hu
  | cons h1 _ ih =>
    intro u hu
    rcases List.mem_append.1 hu with h | h
    · exact hp _ _ h1 u h
    · exact ih u h
end

/-- A way to read k cells as an α. -/
structure Rd (α : Type) where
  k : Nat
  R : World → Av → List Value → α → Prop
  len : ∀ {w av cs x}, R w av cs x → cs.length = k
  one : ∀ {w av cs x}, R w av cs x → ∀ u ∈ cs, u.oneCell' = true
  stable : ∀ {w w' av av' cs x}, R w av cs x → Moves w w' av av' → R w' av' cs x

/-- a value of some bytes -/
def strR : Rd ByteArray where
  k := 1
  R := fun _ _ cs s => cs = [.string s]
  len := fun h => by subst h; rfl
  one := fun h u hu => by subst h; simp at hu; subst hu; rfl
  stable := fun h _ => h
def intR (kd : IntKind) : Rd Int where
  k := 1
  R := fun _ _ cs z => cs = [.int kd z] ∧ (Lit.int kd z).wf = true
  len := fun h => by obtain ⟨rfl, _⟩ := h; rfl
  one := fun h u hu => by obtain ⟨rfl, _⟩ := h; simp at hu; subst hu; rfl
  stable := fun h _ => h
def byteR : Rd UInt8 where
  k := 1
  R := fun _ _ cs z => cs = [.int .u8 (z.toNat : Int)]
  len := fun h => by subst h; rfl
  one := fun h u hu => by subst h; simp at hu; subst hu; rfl
  stable := fun h _ => h
def natR : Rd Nat where
  k := 1
  R := fun _ _ cs z => cs = [.int .i64 (z : Int)]
  len := fun h => by subst h; rfl
  one := fun h u hu => by subst h; simp at hu; subst hu; rfl
  stable := fun h _ => h
def boolR : Rd Bool where
  k := 1
  R := fun _ _ cs z => cs = [.bool z]
  len := fun h => by subst h; rfl
  one := fun h u hu => by subst h; simp at hu; subst hu; rfl
  stable := fun h _ => h
/-- fields one behind the other -/
def prodR {α β : Type} (r : Rd α) (s : Rd β) : Rd (α × β) where
  k := r.k + s.k
  R := fun w av cs x => ∃ c1 c2, cs = c1 ++ c2 ∧ r.R w av c1 x.1 ∧ s.R w av c2 x.2
  len := fun h => by obtain ⟨c1, c2, rfl, h1, h2⟩ := h; rw [List.length_append, r.len h1, s.len h2]
  one := fun h u hu => by
    obtain ⟨c1, c2, rfl, h1, h2⟩ := h
    rcases List.mem_append.1 hu with h | h
    · exact r.one h1 u h
    · exact s.one h2 u h
  stable := fun h m => by obtain ⟨c1, c2, rfl, h1, h2⟩ := h; exact ⟨c1, c2, rfl, r.stable h1 m, s.stable h2 m⟩
def unitR : Rd Unit where
  k := 0
  R := fun _ _ cs _ => cs = []
  len := fun h => by subst h; rfl
  one := fun h u hu => by subst h; cases hu
  stable := fun h _ => h
/-- an array of n -/
def arrR {α : Type} (n : Nat) (r : Rd α) : Rd (List α) where
  k := n * r.k
  R := fun w av cs l => l.length = n ∧ Each (r.R w av) cs l
  len := fun h => by obtain ⟨rfl, h⟩ := h; exact h.length fun _ _ => r.len
  one := fun h u hu => h.2.all (p := fun u => u.oneCell' = true) (fun _ _ h => r.one h) u hu
  stable := fun h m => ⟨h.1, h.2.mono fun _ _ h => r.stable h m⟩

/-- What a slice's parts must be, that it read as l. -/
def SlOf {α : Type} (r : Rd α) (w : World) (av : Av) (A : Option Addr) (l : List α) : Prop :=
  ∃ vs, Sl w r.k A l.length vs ∧ Each (r.R w av) vs l ∧ (0 < l.length → ∀ b off, A = some ⟨b, off, none⟩ → ¬ av b)

theorem SlOf.stable {α : Type} {r : Rd α} {w w' : World} {av av' : Av} {A : Option Addr} {l : List α} (h : SlOf r w av A l) (m : Moves w w' av av') : SlOf r w' av' A l := by
  obtain ⟨vs, hs, he, hn⟩ := h
  refine ⟨vs, ⟨hs.1, fun h0 => ?_⟩, he.mono fun _ _ h => r.stable h m, fun h0 b off e => ?_⟩
  · obtain ⟨b, off, e, hb, hc⟩ := hs.2 h0
    refine ⟨b, off, e, Nat.lt_of_lt_of_le hb m.size, fun j u hu => ?_⟩
    rw [World.cell?_of_block (m.block b hb (hn h0 b off e))]
    exact hc j u hu
  · obtain ⟨b', off', e', hb, _⟩ := hs.2 h0
    rw [e] at e'
    injection e' with e'
    injection e' with e1 e2
    subst e1
    exact m.ne b hb (hn h0 b off e)

def slR {α : Type} (r : Rd α) : Rd (List α) where
  k := 1
  R := fun w av cs l => ∃ A c, cs = [.slice A l.length c] ∧ l.length ≤ c ∧ c ≤ maxLen ∧ SlOf r w av A l
  len := fun h => by obtain ⟨A, c, rfl, _⟩ := h; rfl
  one := fun h u hu => by obtain ⟨A, c, rfl, _⟩ := h; simp at hu; subst hu; rfl
  stable := fun h m => by obtain ⟨A, c, e, h1, h2, h3⟩ := h; exact ⟨A, c, e, h1, h2, h3.stable m⟩

section
variable {α : Type} {r : Rd α} {w w' : World} {av av' : Av} {A : Option Addr} {l : List α}
theorem SlOf.below (h : SlOf r w av A l) (hb : Below w.heap.size w w') : SlOf r w' av A l := h.stable (.of_below hb)
theorem SlOf.forget (h : SlOf r w av A l) : SlOf r w no A l := h.stable (.forget w av)
theorem SlOf.app {base : Nat} {e : TypeId} {sz : Nat} {v v' : Value} {n : Nat} {xs : List Value} (h : SlOf r w (own v) A l) (ha : Appended w w' base e sz v v' n xs) : SlOf r w' (own v') A l := h.stable (.of_app ha)
theorem SlOf.nil : SlOf r w av A [] := ⟨[], ⟨by simp, fun h => absurd h (by simp)⟩, .nil, fun h => absurd h (by simp)⟩

/-- an element's cells -/
theorem SlOf.look {n i : Nat} (h : SlOf r w av A l) (hl : l.length = n) (hi : i < n) :
    ∃ b off cs x, A = some ⟨b, off, none⟩ ∧ b < w.heap.size ∧ l[i]? = some x ∧ r.R w av cs x ∧ (∀ j u, cs[j]? = some u → w.cell? ⟨b, off + (i * r.k + j), none⟩ = some u) ∧ ¬ av b := by
  subst hl
  obtain ⟨vs, hs, he, hn⟩ := h
  obtain ⟨b, off, e, hb, hc⟩ := hs.2 (by omega)
  obtain ⟨cs, h1, h2⟩ := he.get (fun _ _ => r.len) (List.getElem?_eq_getElem hi)
  exact ⟨b, off, cs, l[i], e, hb, List.getElem?_eq_getElem hi, h1, fun j u hu => hc _ u (h2 j u hu), hn (by omega) b off e⟩

theorem SlOf.from {n k c : Nat} (h : SlOf r w av A l) (hl : l.length = n) (hk : k ≤ n) (hc : n ≤ c) : SlOf r w av (if c = k then A else A.map (·.add (k * r.k))) (l.drop k) := by
  subst hl
  obtain ⟨vs, hs, he, hn⟩ := h
  have h1 := hs.from hk hc
  refine ⟨vs.drop (k * r.k), by rw [List.length_drop]; exact h1, he.drop (fun _ _ => r.len) k, fun h0 b off e => ?_⟩
  rw [List.length_drop] at h0
  obtain ⟨b', off', e', hb', _⟩ := hs.2 (by omega)
  rw [if_neg (by omega), e'] at e
  simp only [Option.map_some, addr_add, Option.some.injEq, Addr.mk.injEq] at e
  rw [← e.1]
  exact hn (by omega) b' off' e'
theorem SlOf.upto {n k : Nat} (h : SlOf r w av A l) (hl : l.length = n) (hk : k ≤ n) : SlOf r w av A (l.take k) := by
  subst hl
  obtain ⟨vs, hs, he, hn⟩ := h
  refine ⟨vs.take (k * r.k), by rw [List.length_take, Nat.min_eq_left hk]; exact hs.upto hk, he.take (fun _ _ => r.len) k, fun h0 b off e => ?_⟩
  rw [List.length_take] at h0
  exact hn (by omega) b off e
/-- what a row of the call's own reads as -/
theorem SlOf.ofOwn {base : Nat} {e : TypeId} {c : Nat} {vs : List Value} (h : w.ownsRow base e r.k (.slice A l.length c) l.length vs) (he : Each (r.R w (own (Value.slice A l.length c))) vs l) : SlOf r w no A l :=
  ⟨vs, Sl.ofOwn h, he.mono fun _ _ h => r.stable h (.forget _ _), fun _ _ _ _ h => h⟩
end

/-! ### the plain element types -/
theorem each_str {w : World} {av : Av} {vs : List Value} {l : List ByteArray} (h : Each (strR.R w av) vs l) : vs = l.map Value.string := by
  induction h with
  | nil => rfl
  | cons h1 _ ih => obtain rfl := h1; subst ih; rfl
theorem each_str_mk {w : World} {av : Av} : ∀ (l : List ByteArray), Each (strR.R w av) (l.map Value.string) l
  | [] => .nil
  | s :: l => by simpa using Each.cons (R := strR.R w av) (cs := [.string s]) rfl (each_str_mk l)
theorem each_byte {w : World} {av : Av} {vs : List Value} {l : List UInt8} (h : Each (byteR.R w av) vs l) : vs = l.map fun b => .int .u8 (b.toNat : Int) := by
  induction h with
  | nil => rfl
  | cons h1 _ ih => obtain rfl := h1; subst ih; rfl
theorem each_byte_mk {w : World} {av : Av} : ∀ (l : List UInt8), Each (byteR.R w av) (l.map fun b => .int .u8 (b.toNat : Int)) l
  | [] => .nil
  | s :: l => by simpa using Each.cons (R := byteR.R w av) (cs := [.int .u8 (s.toNat : Int)]) rfl (each_byte_mk l)
theorem each_bool {w : World} {av : Av} {vs : List Value} {l : List Bool} (h : Each (boolR.R w av) vs l) : vs = l.map Value.bool := by
  induction h with
  | nil => rfl
  | cons h1 _ ih => obtain rfl := h1; subst ih; rfl
theorem each_nat {w : World} {av : Av} {vs : List Value} {l : List Nat} (h : Each (natR.R w av) vs l) : vs = l.map fun (n : Nat) => .int .i64 (n : Int) := by
  induction h with
  | nil => rfl
  | cons h1 _ ih => obtain rfl := h1; subst ih; rfl
theorem each_nat_mk {w : World} {av : Av} : ∀ (l : List Nat), Each (natR.R w av) (l.map fun (n : Nat) => .int .i64 (n : Int)) l
  | [] => .nil
  | s :: l => by simpa using Each.cons (R := natR.R w av) (cs := [.int .i64 (s : Int)]) rfl (each_nat_mk l)
theorem SlOf.str {w : World} {av : Av} {A : Option Addr} {l : List ByteArray} (h : SlOf strR w av A l) : Sl w 1 A l.length (l.map Value.string) := by
  obtain ⟨vs, hs, he, _⟩ := h
  rw [each_str he] at hs; exact hs
theorem SlOf.ofStr {w : World} {A : Option Addr} {l : List ByteArray} (h : Sl w 1 A l.length (l.map Value.string)) : SlOf strR w no A l := ⟨_, h, each_str_mk l, fun _ _ _ _ h => h⟩
theorem SlOf.bytes {w : World} {av : Av} {A : Option Addr} {l : List UInt8} (h : SlOf byteR w av A l) : Sl w 1 A l.length (l.map fun b => .int .u8 (b.toNat : Int)) := by
  obtain ⟨vs, hs, he, _⟩ := h
  rw [each_byte he] at hs; exact hs
theorem SlOf.ofBytes {w : World} {A : Option Addr} {l : List UInt8} (h : Sl w 1 A l.length (l.map fun b => .int .u8 (b.toNat : Int))) : SlOf byteR w no A l := ⟨_, h, each_byte_mk l, fun _ _ _ _ h => h⟩
end Go.Proofs.YtehminpiejophaaDoor
