/- Words for memory that the walks of this seat share: a slice that reads as a list of cells, and how appends and cuts act on it. -/
import Derived.Test.YtehminpiejophaaDoorRows
import Derived.WalkKit
import Derived.ProofKit
import Derived.WalkLawsBesides
import Derived.WalkSpells
import Derived.Maps.AppendAt
import Derived.Lib.Hide
import Derived.Deep.Draws
import Derived.Laws.BytesArg
import Derived.Laws.IdiomStrings
import Derived.Lib.SlBytesConst
namespace Go.Proofs.YtehminpiejophaaDoor
open Go.RowKit

/-! ### slices that read as lists of cells -/

/-- The slice at A with n elements of sz cells reads as the cells xs. -/
def Sl (w : World) (sz : Nat) (A : Option Addr) (n : Nat) (xs : List Value) : Prop :=
  xs.length = n * sz ∧ (0 < n → ∃ b off, A = some ⟨b, off, none⟩ ∧ b < w.heap.size ∧ ∀ j u, xs[j]? = some u → w.cell? ⟨b, off + j, none⟩ = some u)

theorem addr_add (b off : Nat) (k : Nat) : (⟨b, off, none⟩ : Addr).add k = ⟨b, off + k, none⟩ := by
  unfold Addr.add; split
  · subst_vars; rfl
  · rfl

section
variable {w w' : World} {sz n : Nat} {A : Option Addr} {xs : List Value}

theorem Sl.nil : Sl w sz A 0 [] := ⟨by simp, fun h => absurd h (by omega)⟩

theorem Sl.empty (h : Sl w sz A 0 xs) : xs = [] := List.eq_nil_of_length_eq_zero (by have := h.1; omega)

theorem Sl.look {k : Nat} (h : Sl w 1 A n xs) (hk : k < n) :
    ∃ b off u, A = some ⟨b, off, none⟩ ∧ b < w.heap.size ∧ xs[k]? = some u ∧ w.cell? ⟨b, off + k, none⟩ = some u := by
  obtain ⟨b, off, e, hb, hc⟩ := h.2 (by omega)
  have hl : k < xs.length := by have := h.1; omega
  exact ⟨b, off, xs[k], e, hb, List.getElem?_eq_getElem hl, hc k _ (List.getElem?_eq_getElem hl)⟩

theorem Sl.keep (h : Sl w sz A n xs) (hk : ∀ p : Addr, p.block < w.heap.size → w'.cell? p = w.cell? p) (hs : w.heap.size ≤ w'.heap.size) : Sl w' sz A n xs :=
  ⟨h.1, fun hn => by
    obtain ⟨b, off, e, hb, hc⟩ := h.2 hn
    exact ⟨b, off, e, by omega, fun j u hu => (hk _ hb).trans (hc j u hu)⟩⟩

theorem Sl.below (h : Sl w sz A n xs) (hb : Below w.heap.size w w') : Sl w' sz A n xs := h.keep (fun _ hp => hb.cell hp) hb.size

theorem Sl.drew (h : Sl w sz A n xs) : Sl w.drew sz A n xs := h

theorem Sl.alloc (h : Sl w sz A n xs) (o : Obj) : Sl (w.alloc o) sz A n xs := h.below ((Below.refl _ _).alloc (Nat.le_refl _) o)

/-- a cut 's[k:]', as the model spells it -/
theorem Sl.from {k c : Nat} (h : Sl w sz A n xs) (hk : k ≤ n) (hc : n ≤ c) :
    Sl w sz (if c = k then A else A.map (·.add (k * sz))) (n - k) (xs.drop (k * sz)) := by
  refine ⟨by rw [List.length_drop, h.1, Nat.sub_mul], fun hn => ?_⟩
  obtain ⟨b, off, rfl, hb, hcell⟩ := h.2 (by omega)
  rw [if_neg (by omega)]
  refine ⟨b, off + k * sz, ?_, hb, fun j u hu => ?_⟩
  · simp [addr_add]
  · rw [Nat.add_assoc]
    exact hcell _ u (by rw [← hu, List.getElem?_drop])

/-- the same at elements of one cell, as the walk shows it -/
theorem Sl.from1 {k c : Nat} (h : Sl w 1 A n xs) (hk : k ≤ n) (hc : n ≤ c) : Sl w 1 (if c = k then A else A.map (fun x => x.add k)) (n - k) (xs.drop k) := by
  simpa using h.from hk hc

/-- a cut 's[:k]' within the length -/
theorem Sl.upto {k : Nat} (h : Sl w sz A n xs) (hk : k ≤ n) : Sl w sz A k (xs.take (k * sz)) := by
  refine ⟨?_, fun hn => ?_⟩
  · have := h.1
    have hm : k * sz ≤ n * sz := Nat.mul_le_mul_right _ hk
    simp; omega
  · obtain ⟨b, off, e, hb, hcell⟩ := h.2 (by omega)
    refine ⟨b, off, e, hb, fun j u hu => hcell j u ?_⟩
    rw [List.getElem?_take] at hu
    split at hu
    · exact hu
    · cases hu

theorem Sl.ofOwn {base : Nat} {e : TypeId} {c : Nat} (h : w.ownsRow base e sz (.slice A n c) n xs) : Sl w sz A n xs := by
  refine ⟨h.1, fun hn => ?_⟩
  rcases h.2 with ⟨hv, hz⟩ | ⟨g, cap, cur, hv, hb, hg, hnc, hm, hcs, ht⟩
  · omega
  · injection hv with h1 h2 h3
    refine ⟨g, 0, h1, (Array.getElem?_eq_some_iff.1 hg).1, fun j u hu => ?_⟩
    rw [Nat.zero_add, cell_of_row w g j cur e (0, 0) hg]
    rw [← ht, List.getElem?_take] at hu
    split at hu
    · simpa using hu
    · cases hu
end

/-! ### the element's row of the table, and append -/

/-- The slice type t has elements of type e, of zero z, sz cells and by bytes. -/
def ElemOf (P : Program) (t e : TypeId) (z : Value) (sz byt : Nat) : Prop :=
  P.underlying t = some (.slice e) ∧ (P.info? e).map (fun i => (i.zero, i.size, i.bytes)) = some (some z, sz, byt) ∧ z.cells.size = sz ∧ 0 < sz

theorem own_form {w : World} {base : Nat} {e : TypeId} {sz : Nat} {v : Value} {n : Nat} {xs : List Value} (h : w.ownsRow base e sz v n xs) :
    ∃ A c, v = .slice A n c ∧ n ≤ c ∧ c ≤ maxLen := by
  rcases h.2 with ⟨rfl, rfl⟩ | ⟨g, cap, cur, rfl, _, _, h1, h2, _⟩
  · exact ⟨none, 0, rfl, Nat.le_refl _, by simp [maxLen]⟩
  · exact ⟨_, cap, rfl, h1, h2⟩

theorem own_mono {w : World} {base base' : Nat} {e : TypeId} {sz : Nat} {v : Value} {n : Nat} {xs : List Value} (h : w.ownsRow base e sz v n xs) (hb : base' ≤ base) : w.ownsRow base' e sz v n xs := by
  refine ⟨h.1, ?_⟩
  rcases h.2 with h2 | ⟨g, cap, cur, hv, hg, r⟩
  · exact .inl h2
  · exact .inr ⟨g, cap, cur, hv, by omega, r⟩

/-- An owned row stays while nothing that was there turns. -/
theorem own_below {w w' : World} {base : Nat} {e : TypeId} {sz : Nat} {v : Value} {n : Nat} {xs : List Value} (h : w.ownsRow base e sz v n xs) (hb : Below w.heap.size w w') : w'.ownsRow base e sz v n xs :=
  h.kept (row := none) ⟨hb.os, hb.tape, hb.output, hb.size, fun k hk _ => hb.block k hk⟩ (by cases v.ownBlock <;> simp)

/-- What an append onto a row of the call's own leaves. -/
structure Appended (w w' : World) (base : Nat) (e : TypeId) (sz : Nat) (v v' : Value) (n : Nat) (xs : List Value) : Prop where
  own : w'.ownsRow base e sz v' n xs
  grown : w.grownBy w' v.ownBlock
  below : Below base w w'
  place : v'.ownBlock = v.ownBlock ∨ v'.ownBlock = some w.heap.size
  room : ∃ A c, v' = .slice A n c ∧ n ≤ c ∧ c ≤ maxLen

section
variable {P : Program} (w : World)

theorem run_append_sl {t ty e : TypeId} {z : Value} {sz byt : Nat} (E : ElemOf P t e z sz byt)
    {base : Nat} {v : Value} {n : Nat} {xs : List Value} (hown : w.ownsRow base e sz v n xs)
    {A : Option Addr} {m c : Nat} {news : List Value} (hr : Sl w sz A m news) (h1 : ∀ u ∈ news, u.oneCell' = true)
    (hbytes : (n + m) * byt ≤ 140737488355328) (h63 : n + m ≤ maxLen) (hbase : base ≤ w.heap.size) :
    ∃ v' w', (Builtin.append_ #[t, t] ty #[v, .slice A m c]).run P w = .ok v' w' ∧ Appended w w' base e sz v v' (n + m) (xs ++ news) := by
  obtain ⟨ht, hi, hzs, hsz⟩ := E
  obtain ⟨i, hi, hz, hsize, hby⟩ := info_parts hi
  have hbel : ∀ w', w.grownBy w' v.ownBlock → Below base w w' := fun w' hg =>
    (Below.refl _ _).grown hg hbase (fun k hk => (hown.lt k hk).1)
  rcases A with _ | ad
  · have hm : m = 0 := by
      rcases Nat.eq_zero_or_pos m with h0 | h0
      · exact h0
      · obtain ⟨_, _, h, _⟩ := hr.2 h0
        cases h
    subst hm
    have hn := hr.empty
    subst hn
    refine ⟨v, w, ?_, ⟨by simpa using hown, World.grownBy.refl w _, Below.refl _ _, .inl rfl, by simpa using own_form hown⟩⟩
    rcases hown.2 with ⟨rfl, rfl⟩ | ⟨g, cap, cur, rfl, _, _, hnc, _⟩
    · simp [Builtin.append_, run_underlying ht, sizeOf, typeInfo, hi, Builtin.lenOf, Builtin.firstCells]
    · simp [Builtin.append_, run_underlying ht, sizeOf, typeInfo, hi, Builtin.lenOf, Builtin.firstCells, hnc, storeCells]
  · have hcells : ∀ j u, news[j]? = some u → w.cell? (ad.add j) = some u := by
      intro j u hu
      rcases Nat.eq_zero_or_pos m with h0 | h0
      · subst h0
        have hn := hr.empty
        subst hn
        simp at hu
      · obtain ⟨b, off, h, _, hc⟩ := hr.2 h0
        injection h with h
        subst h
        rw [addr_add]
        exact hc j u hu
    obtain ⟨v', w', hrun, h2, h3, _, h5⟩ := run_append_own_at (P := P) w base t ty e i z sz byt ht hi hz hsize hby hzs hsz v n xs hown ad m c news hr.1 hcells h1 h63 hbytes hbase
    exact ⟨v', w', hrun, h2, h3, hbel _ h3, h5, own_form h2⟩

/-- the same, the value written out: obtained where the walk stands at the append, it takes the walk on -/
theorem append_sl {w : World} {t e : TypeId} {z : Value} {sz byt : Nat} (E : ElemOf P t e z sz byt)
    {base : Nat} {v : Value} {n : Nat} {xs : List Value} (hown : w.ownsRow base e sz v n xs)
    {A : Option Addr} {m : Nat} {news : List Value} (hr : Sl w sz A m news) (h1 : ∀ u ∈ news, u.oneCell' = true)
    (hbytes : (n + m) * byt ≤ 140737488355328) (h63 : n + m ≤ maxLen) (hbase : base ≤ w.heap.size) (ty : TypeId) (c : Nat) :
    ∃ A' c' w', (Builtin.append_ #[t, t] ty #[v, .slice A m c]).run P w = .ok (.slice A' (n + m) c') w' ∧ Appended w w' base e sz v (.slice A' (n + m) c') (n + m) (xs ++ news) ∧ n + m ≤ c' ∧ c' ≤ maxLen := by
  obtain ⟨v', w', hrun, h⟩ := run_append_sl (P := P) w (ty := ty) (c := c) E hown hr h1 hbytes h63 hbase
  obtain ⟨A', c', rfl, h3, h4⟩ := h.room
  exact ⟨A', c', w', hrun, h, h3, h4⟩

/-- the walk's step at an append whose run is known -/
theorem wpList_run_append {w w' : World} {ops : Array Oper} {rest : List Oper} {a : Act} {Q : Exit → Act → World → Prop} {dst : Option Tmp} {s x : Operand} {ty : TypeId} {pos : String} {after : Array Edge} {t t' : TypeId} {v x' v' : Value}
    (hrun : (Builtin.append_ #[t, t'] ty #[v, x']).run P w = .ok v' w') (hs : a.eval s = v) (hx : a.eval x = x') (h : wpList P ops Q rest (a.put dst v') w') :
    wpList P ops Q (⟨dst, .call { callee := .builtin .append, args := #[s, x], argTypes := #[t, t'] }, ty, pos, after, none⟩ :: rest) a w :=
  wpList_plain rfl fun _ hK => by
    unfold Oper.wp execOp
    simp only [resolve, invoke, builtin, Sem.run_bind, Sem.run_pure, Result.andThen_ok, List.map_toArray, List.map_cons, List.map_nil, hs, hx, hrun]
    exact hK _ _ h

/-- the same at an operation behind a guard that says yes -/
theorem wpList_run_append_g {w w' : World} {ops : Array Oper} {rest : List Oper} {a : Act} {Q : Exit → Act → World → Prop} {dst : Option Tmp} {s x : Operand} {ty : TypeId} {pos : String} {after : Array Edge} {t t' : TypeId} {v x' v' : Value} {g : Nat × Bool}
    (hrun : (Builtin.append_ #[t, t'] ty #[v, x']).run P w = .ok v' w') (hw : (yielded ops a.tmps g.1 == some g.2) = true) (hs : a.eval s = v) (hx : a.eval x = x') (h : wpList P ops Q rest (a.put dst v') w') :
    wpList P ops Q (⟨dst, .call { callee := .builtin .append, args := #[s, x], argTypes := #[t, t'] }, ty, pos, after, some g⟩ :: rest) a w :=
  wpList_step fun _ hK => by
    rw [if_pos (by exact hw)]
    unfold Oper.wp execOp
    simp only [resolve, invoke, builtin, Sem.run_bind, Sem.run_pure, Result.andThen_ok, List.map_toArray, List.map_cons, List.map_nil, hs, hx, hrun]
    exact hK _ _ h

theorem wp_append_sl {o : Oper} {a : Act} {K : Act → World → Prop} {Q : Exit → Act → World → Prop} (s x : Operand) {t e : TypeId}
    (ho : o.op = .call { callee := .builtin .append, args := #[s, x], argTypes := #[t, t] })
    {z : Value} {sz byt : Nat} (E : ElemOf P t e z sz byt) {base : Nat} {v : Value} {n : Nat} {xs : List Value} (hs : a.eval s = v) (hown : w.ownsRow base e sz v n xs)
    {A : Option Addr} {m c : Nat} {news : List Value} (hx : a.eval x = .slice A m c) (hr : Sl w sz A m news) (h1 : ∀ u ∈ news, u.oneCell' = true)
    (hbytes : (n + m) * byt ≤ 140737488355328) (h63 : n + m ≤ maxLen) (hbase : base ≤ w.heap.size)
    (h : ∀ v' w', Appended w w' base e sz v v' (n + m) (xs ++ news) → K (a.put o.dst v') w') : o.wp P a w K Q := by
  obtain ⟨v', w', hrun, h2⟩ := run_append_sl (P := P) w (ty := o.type) E hown hr h1 hbytes h63 hbase (c := c)
  unfold Oper.wp execOp
  simp only [ho, resolve, invoke, builtin, Sem.run_bind, Sem.run_pure, Result.andThen_ok, List.map_toArray, List.map_cons, List.map_nil, hs, hx, hrun]
  exact h v' w' h2

/-- append in a plain region -/
theorem wpList_append_sl {ops : Array Oper} {rest : List Oper} {a : Act} {Q : Exit → Act → World → Prop} {dst : Option Tmp} {s x : Operand} {ty : TypeId} {pos : String} {after : Array Edge} {t e : TypeId}
    {z : Value} {sz byt : Nat} (E : ElemOf P t e z sz byt) {base : Nat} {v : Value} {n : Nat} {xs : List Value} (hown : w.ownsRow base e sz v n xs)
    {A : Option Addr} {m c : Nat} {news : List Value} (hr : Sl w sz A m news) (h1 : ∀ u ∈ news, u.oneCell' = true)
    (hbytes : (n + m) * byt ≤ 140737488355328) (h63 : n + m ≤ maxLen) (hbase : base ≤ w.heap.size) (hs : a.eval s = v) (hx : a.eval x = .slice A m c)
    (h : ∀ A' c' w', Appended w w' base e sz v (.slice A' (n + m) c') (n + m) (xs ++ news) → n + m ≤ c' → c' ≤ maxLen → wpList P ops Q rest (a.put dst (.slice A' (n + m) c')) w') :
    wpList P ops Q (⟨dst, .call { callee := .builtin .append, args := #[s, x], argTypes := #[t, t] }, ty, pos, after, none⟩ :: rest) a w :=
  wpList_plain rfl fun _ hK => wp_append_sl w s x rfl E hs hown hx hr h1 hbytes h63 hbase fun v' w' h2 => by
    obtain ⟨A', c', rfl, h3, h4⟩ := h2.room
    exact hK _ _ (h A' c' w' h2 h3 h4)
end

/-- a literal's row, fresh, marked or not -/
theorem Sl.fresh (w : World) (cs : Array Value) (e : TypeId) (fr : Nat × Nat) (n sz : Nat) (h : cs.toList.length = n * sz) : Sl (w.alloc (.cells cs e fr)) sz (some ⟨w.heap.size, 0, none⟩) n cs.toList := by
  refine ⟨h, fun _ => ⟨w.heap.size, 0, rfl, by simp, fun j u hu => ?_⟩⟩
  rw [Nat.zero_add, cell_of_row _ w.heap.size j _ e fr (heap_alloc_new w _)]
  simpa using hu

/-- append in a region that draws its order: the step; the sum of the lengths and the cells as the caller wants them spelt -/
theorem step_append_sl {P : Program} {ops : Array Oper} {o : Oper} {a : Act} {w : World} {K : Act → World → Prop} {Q : Exit → Act → World → Prop} {E : Prop} (hgd : o.guard = none) (s x : Operand) {t e : TypeId}
    (ho : o.op = .call { callee := .builtin .append, args := #[s, x], argTypes := #[t, t] })
    {z : Value} {sz byt : Nat} (E' : ElemOf P t e z sz byt) (base : Nat) (n : Nat) (xs : List Value) {v : Value} (hs : a.eval s = v) (hown : w.ownsRow base e sz v n xs)
    (m : Nat) (news : List Value) {A : Option Addr} {c : Nat} (hx : a.eval x = .slice A m c) (hr : Sl w sz A m news) (h1 : ∀ u ∈ news, u.oneCell' = true)
    (k : Nat) (hk : n + m = k) (ys : List Value) (hys : xs ++ news = ys)
    (hbytes : k * byt ≤ 140737488355328) (h63 : k ≤ maxLen) (hbase : base ≤ w.heap.size)
    (h : ∀ A' c' w', Appended w w' base e sz v (.slice A' k c') k ys → k ≤ c' → c' ≤ maxLen → K (a.put o.dst (.slice A' k c')) w') :
    if Region.wanted o (yielded ops a.tmps) = true then Oper.wp P o a w K Q else E := by
  have hw : Region.wanted o (yielded ops a.tmps) = true := by simp [Region.wanted, hgd]
  rw [if_pos hw]
  subst hk hys
  exact wp_append_sl w s x ho E' hs hown hx hr h1 hbytes h63 hbase fun v' w' h2 => by
    obtain ⟨A', c', rfl, h3, h4⟩ := h2.room
    exact h A' c' w' h2 h3 h4

/-- the one-element slice that '..., x)' makes ahead of an append -/
theorem Sl.one (w : World) (u : Value) (e : TypeId) : Sl (w.alloc (.cells #[u] e)) 1 (some ⟨w.heap.size, 0, none⟩) 1 [u] := by
  refine ⟨rfl, fun _ => ⟨w.heap.size, 0, rfl, by simp, fun j x hx => ?_⟩⟩
  rw [Nat.zero_add, cell_of_row _ w.heap.size j #[u] e (0, 0) (heap_alloc_new w _)]
  simpa using hx

/-- the length in a slot: for a loop's measure -/
def lenOf : Value → Nat | .slice _ n _ => n | _ => 0

theorem own_cap {w : World} {base : Nat} {e : TypeId} {sz : Nat} {A : Option Addr} {c : Nat} {n : Nat} {xs : List Value} (h : w.ownsRow base e sz (.slice A n c) n xs) : n ≤ c ∧ c ≤ maxLen := by
  obtain ⟨A', c', e, h1, h2⟩ := own_form h
  injection e with _ _ e
  subst e
  exact ⟨h1, h2⟩

theorem own_at {w : World} {base : Nat} {e : TypeId} {sz : Nat} {A : Option Addr} {c : Nat} {n : Nat} {xs : List Value} (h : w.ownsRow base e sz (.slice A n c) n xs) (hn : 0 < n) : ∃ g, A = some ⟨g, 0, none⟩ ∧ base ≤ g ∧ g < w.heap.size := by
  rcases h.2 with ⟨_, hz⟩ | ⟨g, cap, cur, hv, hb, hg, _⟩
  · omega
  · injection hv with h1
    exact ⟨g, h1, hb, (Array.getElem?_eq_some_iff.1 hg).1⟩

/-- the empty literal's row -/
theorem own_made (w : World) (e : TypeId) (sz : Nat) {base : Nat} (hb : base ≤ w.heap.size) : (w.alloc (.cells #[] e)).ownsRow base e sz (.slice (some ⟨w.heap.size, 0, none⟩) 0 0) 0 [] :=
  World.ownsRow_made w #[] 0 hb (by simp [maxLen]) (by simp)

theorem own_made' {w : World} {e : TypeId} {sz base g : Nat} (hg : w.heap.size = g) (hb : base ≤ g) : (w.alloc (.cells #[] e)).ownsRow base e sz (.slice (some ⟨g, 0, none⟩) 0 0) 0 [] := by
  subst hg; exact own_made w e sz hb

theorem Sl.fresh' {w : World} {cs : Array Value} {e : TypeId} {n sz g : Nat} (hg : w.heap.size = g) (h : cs.toList.length = n * sz) : Sl (w.alloc (.cells cs e)) sz (some ⟨g, 0, none⟩) n cs.toList := by
  subst hg; exact Sl.fresh w cs e (0, 0) n sz h

/-- a slice elsewhere than in the row appended to -/
theorem Appended.sl {w w' : World} {base : Nat} {e : TypeId} {sz : Nat} {v v' : Value} {n : Nat} {xs : List Value} (h : Appended w w' base e sz v v' n xs)
    {sz2 b n2 : Nat} {off : Nat} {ys : List Value} (hs : Sl w sz2 (some ⟨b, off, none⟩) n2 ys) (hne : v.ownBlock ≠ some b) : Sl w' sz2 (some ⟨b, off, none⟩) n2 ys := by
  refine ⟨hs.1, fun hn => ?_⟩
  obtain ⟨b', off', he, hb, hc⟩ := hs.2 hn
  injection he with he
  injection he with e1 e2
  subst e1 e2
  refine ⟨b, off, rfl, Nat.lt_of_lt_of_le hb h.grown.size, fun j u hu => ?_⟩
  rw [World.cell?_of_block (h.grown.block b hb (fun e => hne e.symm))]
  exact hc j u hu

theorem cells3_keep {B : Nat} {w w' : World} {b : Nat} {x y z : Option Value} (hb : Below B w w') (hlt : b < B) (h : w.cell? ⟨b, 0, none⟩ = x ∧ w.cell? ⟨b, 1, none⟩ = y ∧ w.cell? ⟨b, 2, none⟩ = z) :
    w'.cell? ⟨b, 0, none⟩ = x ∧ w'.cell? ⟨b, 1, none⟩ = y ∧ w'.cell? ⟨b, 2, none⟩ = z :=
  ⟨(hb.cell hlt).trans h.1, (hb.cell hlt).trans h.2.1, (hb.cell hlt).trans h.2.2⟩

/-- 'string(b)' of a slice that reads as bytes -/
theorem Sl.toStr {P : Program} {w : World} {A : Option Addr} {n : Nat} {l : List UInt8} (h : Sl w 1 A n (l.map fun b => .int .u8 (b.toNat : Int))) {src dst e : TypeId} (c : Nat)
    (hs : P.underlying src = some (.slice e)) (he : P.underlying e = some (.int .u8)) (hd : P.underlying dst = some .string) : (convert src dst (.slice A n c)).run P w = .ok (.string ⟨l.toArray⟩) w := by
  have hl : l.length = n := by have := h.1; simpa using this
  rcases A with _ | ad
  · have hn : n = 0 := by
      rcases Nat.eq_zero_or_pos n with h0 | h0
      · exact h0
      · obtain ⟨_, _, e, _⟩ := h.2 h0
        cases e
    subst hn
    have : l = [] := List.eq_nil_of_length_eq_zero hl
    subst this
    exact run_convert_bytes_nil w src e hs he 0 c dst hd
  · subst hl
    refine run_convert_bytes_back w src dst e ad c l hs he hd fun j hj => ?_
    obtain ⟨b, off, e, hb, hc⟩ := h.2 (by omega)
    injection e with e
    subst e
    rw [addr_add]
    exact hc j _ (by simp [hj])

/-! ### cells of the call's own -/
theorem bcell {B : Nat} {w w' : World} (hb : Below B w w') : (∀ b o, b < B → w'.cell? ⟨b, o, none⟩ = w.cell? ⟨b, o, none⟩) ∧ (∀ b o, b < B → w'.frozen? ⟨b, o, none⟩ = w.frozen? ⟨b, o, none⟩) :=
  ⟨fun _ _ h => hb.cell h, fun _ _ h => hb.frozen h⟩

end Go.Proofs.YtehminpiejophaaDoor
