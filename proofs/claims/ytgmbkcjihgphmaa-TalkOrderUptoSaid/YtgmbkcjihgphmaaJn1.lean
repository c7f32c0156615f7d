/- Contracts and laws for what the statement reaches, joined: Mem, BytesV, GrainPlain, GrainHeads. -/
import Derived.Test.YtgmbkcjihgphmaaRows
import Derived.Deep.Draws
import Derived.Laws.BytesArg
import Derived.Laws.IdiomStrings
import Derived.Lib.Hide
import Derived.Lib.SlBytesConst
import Derived.Maps.AppendAt
import Derived.ProofKit
import Derived.WalkKit
import Derived.WalkLawsBesides
import Derived.WalkSpells
/- Words for memory that the walks of this seat share: a slice that reads as a list of cells, and how appends and cuts act on it. -/
namespace Go.Proofs.Ytgmbkcjihgphmaa
open Go.RowKit

/-! ### slices that read as lists of cells -/

/-- The slice at A with n elements of sz cells reads as the cells xs. -/
def Sl (w : World) (sz : Nat) (A : Option Addr) (n : Nat) (xs : List Value) : Prop :=
  xs.length = n * sz ∧ (0 < n → ∃ b off, A = some ⟨b, off, none⟩ ∧ b < w.heap.size ∧ ∀ j u, xs[j]? = some u → w.cell? ⟨b, off + j, none⟩ = some u)

theorem addr_add (b off : Nat) (k : Nat) : (⟨b, off, none⟩ : Addr).add k = ⟨b, off + k, none⟩ := by
  unfold Addr.add; split
  · subst_vars; rfl
  · rfl

section
variable {w w' : World} {sz n : Nat} {A : Option Addr} {xs : List Value}

theorem Sl.nil : Sl w sz A 0 [] := ⟨by simp, fun h => absurd h (by omega)⟩

theorem Sl.empty (h : Sl w sz A 0 xs) : xs = [] := List.eq_nil_of_length_eq_zero (by have := h.1; omega)

theorem Sl.look {k : Nat} (h : Sl w 1 A n xs) (hk : k < n) :
    ∃ b off u, A = some ⟨b, off, none⟩ ∧ b < w.heap.size ∧ xs[k]? = some u ∧ w.cell? ⟨b, off + k, none⟩ = some u := by
  obtain ⟨b, off, e, hb, hc⟩ := h.2 (by omega)
  have hl : k < xs.length := by have := h.1; omega
  exact ⟨b, off, xs[k], e, hb, List.getElem?_eq_getElem hl, hc k _ (List.getElem?_eq_getElem hl)⟩

theorem Sl.keep (h : Sl w sz A n xs) (hk : ∀ p : Addr, p.block < w.heap.size → w'.cell? p = w.cell? p) (hs : w.heap.size ≤ w'.heap.size) : Sl w' sz A n xs :=
  ⟨h.1, fun hn => by
    obtain ⟨b, off, e, hb, hc⟩ := h.2 hn
    exact ⟨b, off, e, by omega, fun j u hu => (hk _ hb).trans (hc j u hu)⟩⟩

theorem Sl.below (h : Sl w sz A n xs) (hb : Below w.heap.size w w') : Sl w' sz A n xs := h.keep (fun _ hp => hb.cell hp) hb.size

theorem Sl.drew (h : Sl w sz A n xs) : Sl w.drew sz A n xs := h

theorem Sl.alloc (h : Sl w sz A n xs) (o : Obj) : Sl (w.alloc o) sz A n xs := h.below ((Below.refl _ _).alloc (Nat.le_refl _) o)

/-- a cut 's[k:]', as the model spells it -/
theorem Sl.from {k c : Nat} (h : Sl w sz A n xs) (hk : k ≤ n) (hc : n ≤ c) :
    Sl w sz (if c = k then A else A.map (·.add (k * sz))) (n - k) (xs.drop (k * sz)) := by
  refine ⟨by rw [List.length_drop, h.1, Nat.sub_mul], fun hn => ?_⟩
  obtain ⟨b, off, rfl, hb, hcell⟩ := h.2 (by omega)
  rw [if_neg (by omega)]
  refine ⟨b, off + k * sz, ?_, hb, fun j u hu => ?_⟩
  · simp [addr_add]
  · rw [Nat.add_assoc]
    exact hcell _ u (by rw [← hu, List.getElem?_drop])

/-- the same at elements of one cell, as the walk shows it -/
theorem Sl.from1 {k c : Nat} (h : Sl w 1 A n xs) (hk : k ≤ n) (hc : n ≤ c) : Sl w 1 (if c = k then A else A.map (fun x => x.add k)) (n - k) (xs.drop k) := by
  simpa using h.from hk hc

/-- a cut 's[:k]' within the length -/
theorem Sl.upto {k : Nat} (h : Sl w sz A n xs) (hk : k ≤ n) : Sl w sz A k (xs.take (k * sz)) := by
  refine ⟨?_, fun hn => ?_⟩
  · have := h.1
    have hm : k * sz ≤ n * sz := Nat.mul_le_mul_right _ hk
    simp; omega
  · obtain ⟨b, off, e, hb, hcell⟩ := h.2 (by omega)
    refine ⟨b, off, e, hb, fun j u hu => hcell j u ?_⟩
    rw [List.getElem?_take] at hu
    split at hu
    · exact hu
    · cases hu

theorem Sl.ofOwn {base : Nat} {e : TypeId} {c : Nat} (h : w.ownsRow base e sz (.slice A n c) n xs) : Sl w sz A n xs := by
  refine ⟨h.1, fun hn => ?_⟩
  rcases h.2 with ⟨hv, hz⟩ | ⟨g, cap, cur, hv, hb, hg, hnc, hm, hcs, ht⟩
  · omega
  · injection hv with h1 h2 h3
    refine ⟨g, 0, h1, (Array.getElem?_eq_some_iff.1 hg).1, fun j u hu => ?_⟩
    rw [Nat.zero_add, cell_of_row w g j cur e (0, 0) hg]
    rw [← ht, List.getElem?_take] at hu
    split at hu
    · simpa using hu
    · cases hu
end

/-! ### the element's row of the table, and append -/

/-- The slice type t has elements of type e, of zero z, sz cells and by bytes. -/
def ElemOf (P : Program) (t e : TypeId) (z : Value) (sz byt : Nat) : Prop :=
  P.underlying t = some (.slice e) ∧ (P.info? e).map (fun i => (i.zero, i.size, i.bytes)) = some (some z, sz, byt) ∧ z.cells.size = sz ∧ 0 < sz

theorem own_form {w : World} {base : Nat} {e : TypeId} {sz : Nat} {v : Value} {n : Nat} {xs : List Value} (h : w.ownsRow base e sz v n xs) :
    ∃ A c, v = .slice A n c ∧ n ≤ c ∧ c ≤ maxLen := by
  rcases h.2 with ⟨rfl, rfl⟩ | ⟨g, cap, cur, rfl, _, _, h1, h2, _⟩
  · exact ⟨none, 0, rfl, Nat.le_refl _, by simp [maxLen]⟩
  · exact ⟨_, cap, rfl, h1, h2⟩

theorem own_mono {w : World} {base base' : Nat} {e : TypeId} {sz : Nat} {v : Value} {n : Nat} {xs : List Value} (h : w.ownsRow base e sz v n xs) (hb : base' ≤ base) : w.ownsRow base' e sz v n xs := by
  refine ⟨h.1, ?_⟩
  rcases h.2 with h2 | ⟨g, cap, cur, hv, hg, r⟩
  · exact .inl h2
  · exact .inr ⟨g, cap, cur, hv, by omega, r⟩

/-- An owned row stays while nothing that was there turns. -/
theorem own_below {w w' : World} {base : Nat} {e : TypeId} {sz : Nat} {v : Value} {n : Nat} {xs : List Value} (h : w.ownsRow base e sz v n xs) (hb : Below w.heap.size w w') : w'.ownsRow base e sz v n xs :=
  h.kept (row := none) ⟨hb.os, hb.tape, hb.output, hb.size, fun k hk _ => hb.block k hk⟩ (by cases v.ownBlock <;> simp)

/-- What an append onto a row of the call's own leaves. -/
structure Appended (w w' : World) (base : Nat) (e : TypeId) (sz : Nat) (v v' : Value) (n : Nat) (xs : List Value) : Prop where
  own : w'.ownsRow base e sz v' n xs
  grown : w.grownBy w' v.ownBlock
  below : Below base w w'
  place : v'.ownBlock = v.ownBlock ∨ v'.ownBlock = some w.heap.size
  room : ∃ A c, v' = .slice A n c ∧ n ≤ c ∧ c ≤ maxLen

section
variable {P : Program} (w : World)

theorem run_append_sl {t ty e : TypeId} {z : Value} {sz byt : Nat} (E : ElemOf P t e z sz byt)
    {base : Nat} {v : Value} {n : Nat} {xs : List Value} (hown : w.ownsRow base e sz v n xs)
    {A : Option Addr} {m c : Nat} {news : List Value} (hr : Sl w sz A m news) (h1 : ∀ u ∈ news, u.oneCell' = true)
    (hbytes : (n + m) * byt ≤ 140737488355328) (h63 : n + m ≤ maxLen) (hbase : base ≤ w.heap.size) :
    ∃ v' w', (Builtin.append_ #[t, t] ty #[v, .slice A m c]).run P w = .ok v' w' ∧ Appended w w' base e sz v v' (n + m) (xs ++ news) := by
  obtain ⟨ht, hi, hzs, hsz⟩ := E
  obtain ⟨i, hi, hz, hsize, hby⟩ := info_parts hi
  have hbel : ∀ w', w.grownBy w' v.ownBlock → Below base w w' := fun w' hg =>
    (Below.refl _ _).grown hg hbase (fun k hk => (hown.lt k hk).1)
  rcases A with _ | ad
  · have hm : m = 0 := by
      rcases Nat.eq_zero_or_pos m with h0 | h0
      · exact h0
      · obtain ⟨_, _, h, _⟩ := hr.2 h0
        cases h
    subst hm
    have hn := hr.empty
    subst hn
    refine ⟨v, w, ?_, ⟨by simpa using hown, World.grownBy.refl w _, Below.refl _ _, .inl rfl, by simpa using own_form hown⟩⟩
    rcases hown.2 with ⟨rfl, rfl⟩ | ⟨g, cap, cur, rfl, _, _, hnc, _⟩
    · simp [Builtin.append_, run_underlying ht, sizeOf, typeInfo, hi, Builtin.lenOf, Builtin.firstCells]
    · simp [Builtin.append_, run_underlying ht, sizeOf, typeInfo, hi, Builtin.lenOf, Builtin.firstCells, hnc, storeCells]
  · have hcells : ∀ j u, news[j]? = some u → w.cell? (ad.add j) = some u := by
      intro j u hu
      rcases Nat.eq_zero_or_pos m with h0 | h0
      · subst h0
        have hn := hr.empty
        subst hn
        simp at hu
      · obtain ⟨b, off, h, _, hc⟩ := hr.2 h0
        injection h with h
        subst h
        rw [addr_add]
        exact hc j u hu
    obtain ⟨v', w', hrun, h2, h3, _, h5⟩ := run_append_own_at (P := P) w base t ty e i z sz byt ht hi hz hsize hby hzs hsz v n xs hown ad m c news hr.1 hcells h1 h63 hbytes hbase
    exact ⟨v', w', hrun, h2, h3, hbel _ h3, h5, own_form h2⟩

/-- the same, the value written out: obtained where the walk stands at the append, it takes the walk on -/
theorem append_sl {w : World} {t e : TypeId} {z : Value} {sz byt : Nat} (E : ElemOf P t e z sz byt)
    {base : Nat} {v : Value} {n : Nat} {xs : List Value} (hown : w.ownsRow base e sz v n xs)
    {A : Option Addr} {m : Nat} {news : List Value} (hr : Sl w sz A m news) (h1 : ∀ u ∈ news, u.oneCell' = true)
    (hbytes : (n + m) * byt ≤ 140737488355328) (h63 : n + m ≤ maxLen) (hbase : base ≤ w.heap.size) (ty : TypeId) (c : Nat) :
    ∃ A' c' w', (Builtin.append_ #[t, t] ty #[v, .slice A m c]).run P w = .ok (.slice A' (n + m) c') w' ∧ Appended w w' base e sz v (.slice A' (n + m) c') (n + m) (xs ++ news) ∧ n + m ≤ c' ∧ c' ≤ maxLen := by
  obtain ⟨v', w', hrun, h⟩ := run_append_sl (P := P) w (ty := ty) (c := c) E hown hr h1 hbytes h63 hbase
  obtain ⟨A', c', rfl, h3, h4⟩ := h.room
  exact ⟨A', c', w', hrun, h, h3, h4⟩

/-- the walk's step at an append whose run is known -/
theorem wpList_run_append {w w' : World} {ops : Array Oper} {rest : List Oper} {a : Act} {Q : Exit → Act → World → Prop} {dst : Option Tmp} {s x : Operand} {ty : TypeId} {pos : String} {after : Array Edge} {t t' : TypeId} {v x' v' : Value}
    (hrun : (Builtin.append_ #[t, t'] ty #[v, x']).run P w = .ok v' w') (hs : a.eval s = v) (hx : a.eval x = x') (h : wpList P ops Q rest (a.put dst v') w') :
    wpList P ops Q (⟨dst, .call { callee := .builtin .append, args := #[s, x], argTypes := #[t, t'] }, ty, pos, after, none⟩ :: rest) a w :=
  wpList_plain rfl fun _ hK => by
    unfold Oper.wp execOp
    simp only [resolve, invoke, builtin, Sem.run_bind, Sem.run_pure, Result.andThen_ok, List.map_toArray, List.map_cons, List.map_nil, hs, hx, hrun]
    exact hK _ _ h

/-- the same at an operation behind a guard that says yes -/
theorem wpList_run_append_g {w w' : World} {ops : Array Oper} {rest : List Oper} {a : Act} {Q : Exit → Act → World → Prop} {dst : Option Tmp} {s x : Operand} {ty : TypeId} {pos : String} {after : Array Edge} {t t' : TypeId} {v x' v' : Value} {g : Nat × Bool}
    (hrun : (Builtin.append_ #[t, t'] ty #[v, x']).run P w = .ok v' w') (hw : (yielded ops a.tmps g.1 == some g.2) = true) (hs : a.eval s = v) (hx : a.eval x = x') (h : wpList P ops Q rest (a.put dst v') w') :
    wpList P ops Q (⟨dst, .call { callee := .builtin .append, args := #[s, x], argTypes := #[t, t'] }, ty, pos, after, some g⟩ :: rest) a w :=
  wpList_step fun _ hK => by
    rw [if_pos (by exact hw)]
    unfold Oper.wp execOp
    simp only [resolve, invoke, builtin, Sem.run_bind, Sem.run_pure, Result.andThen_ok, List.map_toArray, List.map_cons, List.map_nil, hs, hx, hrun]
    exact hK _ _ h

theorem wp_append_sl {o : Oper} {a : Act} {K : Act → World → Prop} {Q : Exit → Act → World → Prop} (s x : Operand) {t e : TypeId}
    (ho : o.op = .call { callee := .builtin .append, args := #[s, x], argTypes := #[t, t] })
    {z : Value} {sz byt : Nat} (E : ElemOf P t e z sz byt) {base : Nat} {v : Value} {n : Nat} {xs : List Value} (hs : a.eval s = v) (hown : w.ownsRow base e sz v n xs)
    {A : Option Addr} {m c : Nat} {news : List Value} (hx : a.eval x = .slice A m c) (hr : Sl w sz A m news) (h1 : ∀ u ∈ news, u.oneCell' = true)
    (hbytes : (n + m) * byt ≤ 140737488355328) (h63 : n + m ≤ maxLen) (hbase : base ≤ w.heap.size)
    (h : ∀ v' w', Appended w w' base e sz v v' (n + m) (xs ++ news) → K (a.put o.dst v') w') : o.wp P a w K Q := by
  obtain ⟨v', w', hrun, h2⟩ := run_append_sl (P := P) w (ty := o.type) E hown hr h1 hbytes h63 hbase (c := c)
  unfold Oper.wp execOp
  simp only [ho, resolve, invoke, builtin, Sem.run_bind, Sem.run_pure, Result.andThen_ok, List.map_toArray, List.map_cons, List.map_nil, hs, hx, hrun]
  exact h v' w' h2

/-- append in a plain region -/
theorem wpList_append_sl {ops : Array Oper} {rest : List Oper} {a : Act} {Q : Exit → Act → World → Prop} {dst : Option Tmp} {s x : Operand} {ty : TypeId} {pos : String} {after : Array Edge} {t e : TypeId}
    {z : Value} {sz byt : Nat} (E : ElemOf P t e z sz byt) {base : Nat} {v : Value} {n : Nat} {xs : List Value} (hown : w.ownsRow base e sz v n xs)
    {A : Option Addr} {m c : Nat} {news : List Value} (hr : Sl w sz A m news) (h1 : ∀ u ∈ news, u.oneCell' = true)
    (hbytes : (n + m) * byt ≤ 140737488355328) (h63 : n + m ≤ maxLen) (hbase : base ≤ w.heap.size) (hs : a.eval s = v) (hx : a.eval x = .slice A m c)
    (h : ∀ A' c' w', Appended w w' base e sz v (.slice A' (n + m) c') (n + m) (xs ++ news) → n + m ≤ c' → c' ≤ maxLen → wpList P ops Q rest (a.put dst (.slice A' (n + m) c')) w') :
    wpList P ops Q (⟨dst, .call { callee := .builtin .append, args := #[s, x], argTypes := #[t, t] }, ty, pos, after, none⟩ :: rest) a w :=
  wpList_plain rfl fun _ hK => wp_append_sl w s x rfl E hs hown hx hr h1 hbytes h63 hbase fun v' w' h2 => by
    obtain ⟨A', c', rfl, h3, h4⟩ := h2.room
    exact hK _ _ (h A' c' w' h2 h3 h4)
end

/-- a literal's row, fresh, marked or not -/
theorem Sl.fresh (w : World) (cs : Array Value) (e : TypeId) (fr : Nat × Nat) (n sz : Nat) (h : cs.toList.length = n * sz) : Sl (w.alloc (.cells cs e fr)) sz (some ⟨w.heap.size, 0, none⟩) n cs.toList := by
  refine ⟨h, fun _ => ⟨w.heap.size, 0, rfl, by simp, fun j u hu => ?_⟩⟩
  rw [Nat.zero_add, cell_of_row _ w.heap.size j _ e fr (heap_alloc_new w _)]
  simpa using hu

/-- append in a region that draws its order: the step; the sum of the lengths and the cells as the caller wants them spelt -/
theorem step_append_sl {P : Program} {ops : Array Oper} {o : Oper} {a : Act} {w : World} {K : Act → World → Prop} {Q : Exit → Act → World → Prop} {E : Prop} (hgd : o.guard = none) (s x : Operand) {t e : TypeId}
    (ho : o.op = .call { callee := .builtin .append, args := #[s, x], argTypes := #[t, t] })
    {z : Value} {sz byt : Nat} (E' : ElemOf P t e z sz byt) (base : Nat) (n : Nat) (xs : List Value) {v : Value} (hs : a.eval s = v) (hown : w.ownsRow base e sz v n xs)
    (m : Nat) (news : List Value) {A : Option Addr} {c : Nat} (hx : a.eval x = .slice A m c) (hr : Sl w sz A m news) (h1 : ∀ u ∈ news, u.oneCell' = true)
    (k : Nat) (hk : n + m = k) (ys : List Value) (hys : xs ++ news = ys)
    (hbytes : k * byt ≤ 140737488355328) (h63 : k ≤ maxLen) (hbase : base ≤ w.heap.size)
    (h : ∀ A' c' w', Appended w w' base e sz v (.slice A' k c') k ys → k ≤ c' → c' ≤ maxLen → K (a.put o.dst (.slice A' k c')) w') :
    if Region.wanted o (yielded ops a.tmps) = true then Oper.wp P o a w K Q else E := by
  have hw : Region.wanted o (yielded ops a.tmps) = true := by simp [Region.wanted, hgd]
  rw [if_pos hw]
  subst hk hys
  exact wp_append_sl w s x ho E' hs hown hx hr h1 hbytes h63 hbase fun v' w' h2 => by
    obtain ⟨A', c', rfl, h3, h4⟩ := h2.room
    exact h A' c' w' h2 h3 h4

/-- the one-element slice that '..., x)' makes ahead of an append -/
theorem Sl.one (w : World) (u : Value) (e : TypeId) : Sl (w.alloc (.cells #[u] e)) 1 (some ⟨w.heap.size, 0, none⟩) 1 [u] := by
  refine ⟨rfl, fun _ => ⟨w.heap.size, 0, rfl, by simp, fun j x hx => ?_⟩⟩
  rw [Nat.zero_add, cell_of_row _ w.heap.size j #[u] e (0, 0) (heap_alloc_new w _)]
  simpa using hx

/-- the length in a slot: for a loop's measure -/
def lenOf : Value → Nat | .slice _ n _ => n | _ => 0

theorem own_cap {w : World} {base : Nat} {e : TypeId} {sz : Nat} {A : Option Addr} {c : Nat} {n : Nat} {xs : List Value} (h : w.ownsRow base e sz (.slice A n c) n xs) : n ≤ c ∧ c ≤ maxLen := by
  obtain ⟨A', c', e, h1, h2⟩ := own_form h
  injection e with _ _ e
  subst e
  exact ⟨h1, h2⟩

theorem own_at {w : World} {base : Nat} {e : TypeId} {sz : Nat} {A : Option Addr} {c : Nat} {n : Nat} {xs : List Value} (h : w.ownsRow base e sz (.slice A n c) n xs) (hn : 0 < n) : ∃ g, A = some ⟨g, 0, none⟩ ∧ base ≤ g ∧ g < w.heap.size := by
  rcases h.2 with ⟨_, hz⟩ | ⟨g, cap, cur, hv, hb, hg, _⟩
  · omega
  · injection hv with h1
    exact ⟨g, h1, hb, (Array.getElem?_eq_some_iff.1 hg).1⟩

/-- the empty literal's row -/
theorem own_made (w : World) (e : TypeId) (sz : Nat) {base : Nat} (hb : base ≤ w.heap.size) : (w.alloc (.cells #[] e)).ownsRow base e sz (.slice (some ⟨w.heap.size, 0, none⟩) 0 0) 0 [] :=
  World.ownsRow_made w #[] 0 hb (by simp [maxLen]) (by simp)

theorem own_made' {w : World} {e : TypeId} {sz base g : Nat} (hg : w.heap.size = g) (hb : base ≤ g) : (w.alloc (.cells #[] e)).ownsRow base e sz (.slice (some ⟨g, 0, none⟩) 0 0) 0 [] := by
  subst hg; exact own_made w e sz hb

theorem Sl.fresh' {w : World} {cs : Array Value} {e : TypeId} {n sz g : Nat} (hg : w.heap.size = g) (h : cs.toList.length = n * sz) : Sl (w.alloc (.cells cs e)) sz (some ⟨g, 0, none⟩) n cs.toList := by
  subst hg; exact Sl.fresh w cs e (0, 0) n sz h

/-- a slice elsewhere than in the row appended to -/
theorem Appended.sl {w w' : World} {base : Nat} {e : TypeId} {sz : Nat} {v v' : Value} {n : Nat} {xs : List Value} (h : Appended w w' base e sz v v' n xs)
    {sz2 b n2 : Nat} {off : Nat} {ys : List Value} (hs : Sl w sz2 (some ⟨b, off, none⟩) n2 ys) (hne : v.ownBlock ≠ some b) : Sl w' sz2 (some ⟨b, off, none⟩) n2 ys := by
  refine ⟨hs.1, fun hn => ?_⟩
  obtain ⟨b', off', he, hb, hc⟩ := hs.2 hn
  injection he with he
  injection he with e1 e2
  subst e1 e2
  refine ⟨b, off, rfl, Nat.lt_of_lt_of_le hb h.grown.size, fun j u hu => ?_⟩
  rw [World.cell?_of_block (h.grown.block b hb (fun e => hne e.symm))]
  exact hc j u hu

theorem cells3_keep {B : Nat} {w w' : World} {b : Nat} {x y z : Option Value} (hb : Below B w w') (hlt : b < B) (h : w.cell? ⟨b, 0, none⟩ = x ∧ w.cell? ⟨b, 1, none⟩ = y ∧ w.cell? ⟨b, 2, none⟩ = z) :
    w'.cell? ⟨b, 0, none⟩ = x ∧ w'.cell? ⟨b, 1, none⟩ = y ∧ w'.cell? ⟨b, 2, none⟩ = z :=
  ⟨(hb.cell hlt).trans h.1, (hb.cell hlt).trans h.2.1, (hb.cell hlt).trans h.2.2⟩

/-- 'string(b)' of a slice that reads as bytes -/
theorem Sl.toStr {P : Program} {w : World} {A : Option Addr} {n : Nat} {l : List UInt8} (h : Sl w 1 A n (l.map fun b => .int .u8 (b.toNat : Int))) {src dst e : TypeId} (c : Nat)
    (hs : P.underlying src = some (.slice e)) (he : P.underlying e = some (.int .u8)) (hd : P.underlying dst = some .string) : (convert src dst (.slice A n c)).run P w = .ok (.string ⟨l.toArray⟩) w := by
  have hl : l.length = n := by have := h.1; simpa using this
  rcases A with _ | ad
  · have hn : n = 0 := by
      rcases Nat.eq_zero_or_pos n with h0 | h0
      · exact h0
      · obtain ⟨_, _, e, _⟩ := h.2 h0
        cases e
    subst hn
    have : l = [] := List.eq_nil_of_length_eq_zero hl
    subst this
    exact run_convert_bytes_nil w src e hs he 0 c dst hd
  · subst hl
    refine run_convert_bytes_back w src dst e ad c l hs he hd fun j hj => ?_
    obtain ⟨b, off, e, hb, hc⟩ := h.2 (by omega)
    injection e with e
    subst e
    rw [addr_add]
    exact hc j _ (by simp [hj])

/-! ### cells of the call's own -/
theorem bcell {B : Nat} {w w' : World} (hb : Below B w w') : (∀ b o, b < B → w'.cell? ⟨b, o, none⟩ = w.cell? ⟨b, o, none⟩) ∧ (∀ b o, b < B → w'.frozen? ⟨b, o, none⟩ = w.frozen? ⟨b, o, none⟩) :=
  ⟨fun _ _ h => hb.cell h, fun _ _ h => hb.frozen h⟩

end Go.Proofs.Ytgmbkcjihgphmaa

/- Bytes and numbers as cells. -/
set_option linter.unusedVariables false
namespace Go.Proofs.Ytgmbkcjihgphmaa
open Go.RowKit

def bytesV (l : List UInt8) : List Value := l.map fun b => .int .u8 (b.toNat : Int)
/-- numbers, as cells -/
def natsV (l : List Nat) : List Value := l.map fun (n : Nat) => .int .i64 (n : Int)

theorem bytesV_drop (l : List UInt8) (k : Nat) : (bytesV l).drop k = bytesV (l.drop k) := by simp [bytesV]
theorem bytesV_take (l : List UInt8) (k : Nat) : (bytesV l).take k = bytesV (l.take k) := by simp [bytesV]
theorem bytesV_length (l : List UInt8) : (bytesV l).length = l.length := by simp [bytesV]
theorem bytesV_one (l : List UInt8) : ∀ u ∈ bytesV l, u.oneCell' = true := by
  intro u hu
  obtain ⟨_, _, rfl⟩ := List.mem_map.1 hu
  rfl
theorem bytesV_get (l : List UInt8) (k : Nat) (hk : k < l.length) : (bytesV l)[k]? = some (.int .u8 (l[k].toNat : Int)) := by
  simp [bytesV, hk]
theorem bytesV_look {w : World} {A : Option Addr} {n k : Nat} {l : List UInt8} (h : Sl w 1 A n (bytesV l)) (hk : k < n) :
    ∃ (b off : Nat) (x : UInt8), A = some ⟨b, off, none⟩ ∧ b < w.heap.size ∧ w.cell? ⟨b, off + k, none⟩ = some (.int .u8 (x.toNat : Int)) ∧ l.drop k = x :: l.drop (k + 1) := by
  have hl : l.length = n := by have := h.1; simpa [bytesV] using this
  have hkl : k < l.length := by omega
  obtain ⟨b, off, u, e, hb, hu, hc⟩ := h.look hk
  rw [bytesV_get l k hkl] at hu
  injection hu with hu
  subst hu
  exact ⟨b, off, l[k], e, hb, hc, List.drop_eq_getElem_cons hkl⟩
theorem natsV_one (l : List Nat) : ∀ u ∈ natsV l, u.oneCell' = true := by
  intro u hu
  obtain ⟨_, _, rfl⟩ := List.mem_map.1 hu
  rfl
theorem natsV_length (l : List Nat) : (natsV l).length = l.length := by simp [natsV]
theorem natsV_get (l : List Nat) (k : Nat) (hk : k < l.length) : (natsV l)[k]? = some (.int .i64 (l[k] : Int)) := by
  simp [natsV, hk]
end Go.Proofs.Ytgmbkcjihgphmaa

/- grain, plain: values, how they are written as bytes and read. -/
set_option linter.unusedVariables false
namespace Go.Proofs.Ytgmbkcjihgphmaa
open Go.RowKit

/-- a value: its kind, its number, its bytes, the bits of its number with a point, its list -/
inductive Val where
  | mk : Int → Nat → List UInt8 → Nat → List Val → Val
namespace Val
def kind : Val → Int | mk k _ _ _ _ => k
def num : Val → Nat | mk _ u _ _ _ => u
def bytes : Val → List UInt8 | mk _ _ b _ _ => b
def flt : Val → Nat | mk _ _ _ f _ => f
def list : Val → List Val | mk _ _ _ _ l => l
def zero : Val := mk 0 0 [] 0 []
end Val

def isNan (b : Nat) : Bool := FloatKind.f64.format.order b b != some .eq
/-- the bits of what is no number, in its one form -/
def nanB : Nat := 9221120237041090560
def canonB (b : Nat) : Nat := if isNan b then nanB else b

/-! ### writing -/
/-- a number's parts of seven bits behind the first byte x -/
def tailL (x n : Nat) : List UInt8 := if n = 0 then [UInt8.ofNat x] else UInt8.ofNat (x + 128) :: tailL (n % 128) (n / 128)
termination_by n
decreasing_by omega
def headL (k n : Nat) : List UInt8 := tailL (n % 32 * 4 + k) (n / 32)
def be64 (b : Nat) : List UInt8 := [56, 48, 40, 32, 24, 16, 8, 0].map fun i => UInt8.ofNat (b / 2 ^ i)
abbrev Res (α : Type) := Except Int α
def fin (out : List UInt8) : Res (List UInt8) := if 1048576 < out.length then .error 2 else .ok out
/-- all of a list, one behind the other -/
def wrL (f : List UInt8 → Val → Res (List UInt8)) : List UInt8 → List Val → Res (List UInt8)
  | out, [] => .ok out
  | out, v :: r => match f out v with | .ok o => wrL f o r | .error e => .error e
/-- the bytes so far with a value's behind them; d: how deep one may still go -/
def wrV : Nat → List UInt8 → Val → Res (List UInt8)
  | 0, _, _ => .error 24
  | d + 1, out, v =>
    if v.kind = 0 then fin (out ++ headL 0 v.num)
    else if v.kind = 1 then fin (out ++ headL 1 v.bytes.length ++ v.bytes)
    else if v.kind = 2 then fin (out ++ headL 2 0 ++ be64 (canonB v.flt))
    else if v.kind = 3 then match wrL (wrV d) (out ++ headL 3 v.list.length) v.list with | .ok o => fin o | .error e => .error e
    else .error 22
def enc (v : Val) : Res (List UInt8) := wrV 16 [] v

/-! ### reading -/
/-- behind a head's byte x: the number so far n, its next part's place 2 ^ s -/
def rdT : Nat → Nat → UInt8 → List UInt8 → Res (Nat × List UInt8)
  | s, n, x, [] => if x < 128 then .ok (n, []) else .error 20
  | s, n, x, y :: r => if x < 128 then .ok (n, y :: r) else if y = 0 ∨ (s = 61 ∧ 7 < y) then .error 21 else rdT (s + 7) (n + y.toNat % 128 * 2 ^ s) y r
def rdH : List UInt8 → Res (Nat × Nat × List UInt8)
  | [] => .error 20
  | x :: r => match rdT 5 (x.toNat / 4 % 32) x r with | .ok (n, q) => .ok (x.toNat % 4, n, q) | .error e => .error e
def ofBe (l : List UInt8) : Nat := l.foldl (fun b x => b * 256 + x.toNat) 0
/-- so many values, one behind the other -/
def rdN (f : List UInt8 → Res (Val × List UInt8)) : Nat → List UInt8 → Res (List Val × List UInt8)
  | 0, l => .ok ([], l)
  | n + 1, l => match f l with
    | .ok (v, r) => match rdN f n r with | .ok (vs, q) => .ok (v :: vs, q) | .error e => .error e
    | .error e => .error e
def rd : Nat → List UInt8 → Res (Val × List UInt8)
  | 0, _ => .error 24
  | d + 1, l => match rdH l with
    | .error e => .error e
    | .ok (k, n, r) =>
      if k = 0 then .ok (.mk 0 n [] 0 [], r)
      else if k = 1 then if r.length < n then .error 20 else .ok (.mk 1 0 (r.take n) 0 [], r.drop n)
      else if k = 2 then if r.length < 8 then .error 20 else
        if n ≠ 0 ∨ canonB (ofBe (r.take 8)) ≠ ofBe (r.take 8) then .error 22 else .ok (.mk 2 0 [] (ofBe (r.take 8)) [], r.drop 8)
      else match rdN (rd d) n r with | .ok (vs, q) => .ok (.mk 3 0 [] 0 vs, q) | .error e => .error e
def dec (l : List UInt8) : Res Val :=
  if 1048576 < l.length then .error 2 else
  match rd 16 l with
  | .error e => .error e
  | .ok (v, []) => .ok v
  | .ok (_, _ :: _) => .error 23
end Go.Proofs.Ytgmbkcjihgphmaa

/- grain, plain: heads written are read again, and the other way round. -/
set_option linter.unusedVariables false
namespace Go.Proofs.Ytgmbkcjihgphmaa
open Go.RowKit

theorem u8_ofNat {n : Nat} (h : n < 256) : (UInt8.ofNat n).toNat = n := by simp [UInt8.toNat_ofNat']; omega
theorem u8_lt (x : UInt8) : x.toNat < 256 := x.toNat_lt
theorem u8_ext {x y : UInt8} (h : x.toNat = y.toNat) : x = y := UInt8.toNat_inj.1 h

theorem rdT_end {s n : Nat} {x : UInt8} {l : List UInt8} (hx : x.toNat < 128) : rdT s n x l = .ok (n, l) := by
  have : x < 128 := by rw [UInt8.lt_iff_toNat_lt]; exact hx
  cases l <;> simp [rdT, this]
theorem rdT_short {s n : Nat} {x : UInt8} (hx : ¬ x.toNat < 128) : rdT s n x [] = .error 20 := by
  have : ¬ x < 128 := by rw [UInt8.lt_iff_toNat_lt]; exact hx
  simp [rdT, this]
theorem rdT_more {s n : Nat} {x y : UInt8} {l : List UInt8} (hx : ¬ x.toNat < 128) : rdT s n x (y :: l) = if y.toNat = 0 ∨ (s = 61 ∧ 7 < y.toNat) then .error 21 else rdT (s + 7) (n + y.toNat % 128 * 2 ^ s) y l := by
  have h1 : ¬ x < 128 := by rw [UInt8.lt_iff_toNat_lt]; exact hx
  have h2 : y = 0 ↔ y.toNat = 0 := ⟨fun h => by rw [h]; rfl, fun h => u8_ext h⟩
  have h3 : 7 < y ↔ 7 < y.toNat := by rw [UInt8.lt_iff_toNat_lt]; rfl
  rw [rdT, if_neg h1]
  simp only [h2, h3]

theorem tailL_zero (x : Nat) : tailL x 0 = [UInt8.ofNat x] := by rw [tailL]; simp
theorem tailL_pos (x : Nat) {n : Nat} (h : n ≠ 0) : tailL x n = UInt8.ofNat (x + 128) :: tailL (n % 128) (n / 128) := by rw [tailL, if_neg h]
theorem tailL_ne (x n : Nat) : tailL x n ≠ [] := by
  by_cases h : n = 0
  · subst h; rw [tailL_zero]; simp
  · rw [tailL_pos x h]; simp

theorem rdT_tail : ∀ (m s a x : Nat) (r : List UInt8), x < 128 → m * 2 ^ s < 2 ^ 64 → ∃ b t, tailL x m = b :: t ∧ b.toNat % 128 = x ∧ (b.toNat = 0 → m = 0 ∧ x = 0) ∧ (m = 0 → b.toNat = x) ∧ rdT s a b (t ++ r) = .ok (a + m * 2 ^ s, r) := by
  intro m
  induction m using Nat.strongRecOn with
  | _ m ih =>
    intro s a x r hx hm
    by_cases h0 : m = 0
    · subst h0
      refine ⟨UInt8.ofNat x, [], tailL_zero x, ?_, ?_, ?_, ?_⟩
      · rw [u8_ofNat (by omega)]; omega
      · rw [u8_ofNat (by omega)]; exact fun h => ⟨rfl, h⟩
      · rw [u8_ofNat (by omega)]; exact fun _ => rfl
      · rw [rdT_end (by rw [u8_ofNat (by omega)]; omega)]; simp
    · have hq : m / 128 * 2 ^ (s + 7) ≤ m * 2 ^ s := by
        rw [Nat.pow_add, Nat.mul_comm (2 ^ s), ← Nat.mul_assoc]
        exact Nat.mul_le_mul_right _ (Nat.div_mul_le_self m 128)
      obtain ⟨b, t, e1, e2, e3, e4, e5⟩ := ih (m / 128) (by omega) (s + 7) (a + m % 128 * 2 ^ s) (m % 128) r (by omega) (by omega)
      refine ⟨UInt8.ofNat (x + 128), tailL (m % 128) (m / 128), tailL_pos x h0, ?_, ?_, fun h => absurd h h0, ?_⟩
      · rw [u8_ofNat (by omega)]; omega
      · rw [u8_ofNat (by omega)]; omega
      · rw [e1, List.cons_append, rdT_more (by rw [u8_ofNat (by omega)]; omega), if_neg, e2, e5]
        · congr 2
          have : m * 2 ^ s = m % 128 * 2 ^ s + m / 128 * 2 ^ (s + 7) := by
            rw [Nat.pow_add, Nat.mul_comm (2 ^ s), ← Nat.mul_assoc, ← Nat.add_mul]
            congr 1
            omega
          omega
        · rintro (h | ⟨rfl, h⟩)
          · have := e3 h; omega
          · have h8 : m < 8 := by
              apply Nat.lt_of_not_le
              intro hc
              have := Nat.mul_le_mul_right (2 ^ 61) hc
              omega
            have := e4 (by omega)
            omega

theorem headL_read {k n : Nat} (r : List UInt8) (hk : k < 4) (hn : n < 2 ^ 64) : rdH (headL k n ++ r) = .ok (k, n, r) := by
  unfold headL
  obtain ⟨b, t, e1, e2, e3, e4, e5⟩ := rdT_tail (n / 32) 5 (n % 32) (n % 32 * 4 + k) r (by omega) (by omega)
  rw [e1, List.cons_append]
  have hb : b.toNat / 4 % 32 = n % 32 := by omega
  have hb2 : b.toNat % 4 = k := by omega
  rw [rdH, hb, e5, hb2]
  have : n % 32 + n / 32 * 2 ^ 5 = n := by omega
  simp [this]

theorem rdT_back : ∀ (l : List UInt8) (s n : Nat) (x : UInt8) (n' : Nat) (r : List UInt8), rdT s n x l = .ok (n', r) → s % 7 = 5 → s ≤ 61 ∨ x.toNat < 128 → (s ≤ 61 → n < 2 ^ s) → (¬ s ≤ 61 → n < 2 ^ 64) →
    ∃ m, n' = n + m * 2 ^ s ∧ x :: l = tailL (x.toNat % 128) m ++ r ∧ n' < 2 ^ 64 := by
  intro l
  induction l with
  | nil =>
    intro s n x n' r h hs h61 hn hn2
    by_cases hx : x.toNat < 128
    · rw [rdT_end hx] at h
      injection h with h
      injection h with h1 h2
      subst h1 h2
      refine ⟨0, by omega, ?_, ?_⟩
      · rw [tailL_zero]
        have : UInt8.ofNat (x.toNat % 128) = x := u8_ext (by rw [u8_ofNat (by omega)]; omega)
        simp [this]
      · by_cases h6 : s ≤ 61
        · exact Nat.lt_of_lt_of_le (hn h6) (Nat.pow_le_pow_right (by omega) (by omega))
        · exact hn2 h6
    · rw [rdT_short hx] at h; cases h
  | cons y l ih =>
    intro s n x n' r h hs h61 hn hn2
    by_cases hx : x.toNat < 128
    · rw [rdT_end hx] at h
      injection h with h
      injection h with h1 h2
      subst h1 h2
      refine ⟨0, by omega, ?_, ?_⟩
      · rw [tailL_zero]
        have : UInt8.ofNat (x.toNat % 128) = x := u8_ext (by rw [u8_ofNat (by omega)]; omega)
        simp [this]
      · by_cases h6 : s ≤ 61
        · exact Nat.lt_of_lt_of_le (hn h6) (Nat.pow_le_pow_right (by omega) (by omega))
        · exact hn2 h6
    · rw [rdT_more hx] at h
      split at h
      · cases h
      · rename_i hy
        have h6 : s ≤ 61 := by omega
        have hns := hn h6
        have hlt : n + y.toNat % 128 * 2 ^ s < 2 ^ (s + 7) := by
          have h1 : y.toNat % 128 * 2 ^ s ≤ 127 * 2 ^ s := Nat.mul_le_mul_right _ (by omega)
          rw [Nat.pow_add]
          omega
        have hlt64 : ¬ s + 7 ≤ 61 → n + y.toNat % 128 * 2 ^ s < 2 ^ 64 := by
          intro h
          have h61' : s = 61 := by omega
          subst h61'
          have h7 : y.toNat ≤ 7 := by omega
          have h1 : y.toNat % 128 * 2 ^ 61 ≤ 7 * 2 ^ 61 := Nat.mul_le_mul_right _ (by omega)
          omega
        obtain ⟨m, e1, e2, e3⟩ := ih (s + 7) _ y n' r h (by omega) (by by_cases h : s + 7 ≤ 61; exact .inl h; right; omega) (fun _ => hlt) hlt64
        have hm0 : y.toNat % 128 + 128 * m ≠ 0 := by
          intro h0
          have hm : m = 0 := by omega
          subst hm
          rw [tailL_zero, List.cons_append] at e2
          injection e2 with e2 _
          have := congrArg UInt8.toNat e2
          rw [u8_ofNat (by omega)] at this
          omega
        refine ⟨y.toNat % 128 + 128 * m, ?_, ?_, e3⟩
        · rw [e1, Nat.add_mul, Nat.pow_add, Nat.mul_comm 128 m, Nat.mul_assoc m, Nat.mul_comm 128, Nat.add_assoc]
        · rw [tailL_pos _ hm0, List.cons_append]
          have h1 : (y.toNat % 128 + 128 * m) % 128 = y.toNat % 128 := by omega
          have h2 : (y.toNat % 128 + 128 * m) / 128 = m := by omega
          have h3 : UInt8.ofNat (x.toNat % 128 + 128) = x := u8_ext (by have := u8_lt x; rw [u8_ofNat (by omega)]; omega)
          rw [h1, h2, h3, e2]

theorem rdH_back {l : List UInt8} {k n : Nat} {r : List UInt8} (h : rdH l = .ok (k, n, r)) : l = headL k n ++ r ∧ k < 4 ∧ n < 2 ^ 64 := by
  cases l with
  | nil => cases h
  | cons x l =>
    rw [rdH] at h
    split at h
    · rename_i n0 q hq
      injection h with h
      injection h with h1 h
      injection h with h2 h3
      subst h1 h2 h3
      obtain ⟨m, e1, e2, e3⟩ := rdT_back l 5 (x.toNat / 4 % 32) x n0 q hq (by omega) (.inl (by omega)) (fun _ => by omega) (fun h => absurd (by omega) h)
      refine ⟨?_, by omega, e3⟩
      rw [e2]
      unfold headL
      have h1 : n0 % 32 * 4 + x.toNat % 4 = x.toNat % 128 := by omega
      have h2 : n0 / 32 = m := by omega
      rw [h1, h2]
    · cases h

/-- cut within a head -/
theorem headL_cut {k n : Nat} {p q : List UInt8} (hk : k < 4) (hn : n < 2 ^ 64) (h : p ++ q = headL k n) (hq : q ≠ []) : rdH p = .error 20 := by
  have key : ∀ (m s a x : Nat) (b : UInt8) (t p q : List UInt8), x < 128 → m * 2 ^ s < 2 ^ 64 → tailL x m = b :: t → p ++ q = t → q ≠ [] → rdT s a b p = .error 20 := by
    intro m
    induction m using Nat.strongRecOn with
    | _ m ih =>
      intro s a x b t p q hx hm ht hp hq
      by_cases h0 : m = 0
      · subst h0
        rw [tailL_zero] at ht
        injection ht with _ ht
        subst ht
        simp at hp
        exact absurd hp.2 hq
      · rw [tailL_pos x h0] at ht
        injection ht with h1 h2
        subst h1
        cases p with
        | nil => exact rdT_short (by rw [u8_ofNat (by omega)]; omega)
        | cons y p =>
          have hq' : m / 128 * 2 ^ (s + 7) ≤ m * 2 ^ s := by
            rw [Nat.pow_add, Nat.mul_comm (2 ^ s), ← Nat.mul_assoc]
            exact Nat.mul_le_mul_right _ (Nat.div_mul_le_self m 128)
          rw [← hp] at h2
          have hi := ih (m / 128) (by omega) (s + 7) (a + y.toNat % 128 * 2 ^ s) (m % 128) y (p ++ q) p q (by omega) (by omega) (by rw [h2]; rfl) rfl hq
          obtain ⟨b, t', e1, e2, e3, e4, _⟩ := rdT_tail (m / 128) (s + 7) 0 (m % 128) [] (by omega) (by omega)
          rw [h2] at e1
          injection e1 with e1 _
          subst e1
          rw [rdT_more (by rw [u8_ofNat (by omega)]; omega), if_neg, hi]
          rintro (h | ⟨rfl, h⟩)
          · have := e3 h; omega
          · have h8 : m < 8 := by
              apply Nat.lt_of_not_le
              intro hc
              have := Nat.mul_le_mul_right (2 ^ 61) hc
              omega
            have := e4 (by omega)
            omega
  cases p with
  | nil => rfl
  | cons b p =>
    rw [rdH, key (n / 32) 5 _ (n % 32 * 4 + k) b (p ++ q) p q (by omega) (by omega) h.symm rfl hq]
end Go.Proofs.Ytgmbkcjihgphmaa
