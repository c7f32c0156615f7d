/- Contracts and laws for what the statement reaches, joined: Region, BytesList, Rd, GrainFns, RegionLate. -/
import Derived.Test.YtgmbkcjihgphmaaGreatJn1
import Derived.Deep.CutBlock
import Derived.Deep.DeepCutAuto
import Derived.Deep.DrawnRows
import Derived.Laws.AppendOwn
import Derived.Laws.BitsAllLaws
import Derived.Laws.Cover2
import Derived.Laws.Externs
import Derived.Laws.IdiomStrings
import Derived.OrdersHeld
import Derived.RegionTactic
/- Steps through a region that draws its order, under a class S of worlds: what reads memory is taken first where S fixes what it reads. -/
set_option linter.unusedVariables false
namespace Go.Proofs.YtgmbkcjihgphmaaGreat
open Go.RowKit
section
variable {P : Program} {ops : Array Oper} {Q : Exit → Act → World → Prop} {md : Region.Mode} {S : World → Prop}
def AllHeld (P : Program) (md : Region.Mode) (ops : Array Oper) (Q : Exit → Act → World → Prop) (S : World → Prop) (fuel : Nat) (listed : Array Bool) (a : Act) (w : World) (rs : List Nat) : Prop :=
 ∀ i ∈ rs, wpOp P ops Q i (fun a' w' => S w' ∧ wpAnyH P md ops Q S fuel (listed.setIfInBounds i true) a' w') a w
theorem AllHeld.nil {fuel : Nat} {listed : Array Bool} {a : Act} {w : World} : AllHeld P md ops Q S fuel listed a w [] := fun _ h => by cases h
theorem AllHeld.cons {fuel : Nat} {listed : Array Bool} {a : Act} {w : World} {i : Nat} {o : Oper} {rs : List Nat} (ho : ops[i]? = some o)
  (h : ∀ K' : Act → World → Prop, (∀ a w, S w → wpAnyH P md ops Q S fuel (listed.setIfInBounds i true) a w → K' a w) → if Region.wanted o (yielded ops a.tmps) = true then Oper.wp P o a w K' Q else K' (a.put o.dst undef) w)
  (hs : AllHeld P md ops Q S fuel listed a w rs) : AllHeld P md ops Q S fuel listed a w (i :: rs) := fun j hj => by
 rcases List.mem_cons.1 hj with rfl | hj
 ·exact wpOp_step ho fun K' hK => h K' fun a w h1 h2 => hK a w ⟨h1, h2⟩
 ·exact hs j hj
theorem held_ready {rs : List Nat} {fuel : Nat} {listed : Array Bool} {a : Act} {w : World} (hr : Region.ready md ops listed = rs) (hne : rs ≠ [])
  (h : AllHeld P md ops Q S fuel listed a w rs) : wpAnyH P md ops Q S (fuel + 1) listed a w := wpAnyH_all hr hne h
/-- An operation whose guard says no. -/
theorem held_skip {i : Nat} {oi : Oper} {fuel : Nat} {listed : Array Bool} {a : Act} {w : World} (hi : ops[i]? = some oi)
  (hs : Region.noSelect ops = true) (hf : Region.free md ops listed i = true) (hr : (Region.ready md ops listed).contains i = true)
  (hQ : ∀ c a w, Q (.panic c) (a.put oi.dst undef) w → Q (.panic c) a w) (hw : Region.wanted oi (yielded ops a.tmps) = false) (hS : S w)
  (h : wpAnyH P md ops Q S fuel (listed.setIfInBounds i true) (a.put oi.dst undef) w) : wpAnyH P md ops Q S (fuel + 1) listed a w :=
 wpAnyH_take hi hs hf hr hQ (.inr ⟨hw, rfl⟩) hS h
/-- An operation that yields v in every world of the class; a' is the frame behind it, written out. -/
theorem held_take {i : Nat} {oi : Oper} {v : Value} {a' : Act} {fuel : Nat} {listed : Array Bool} {a : Act} {w : World} (hi : ops[i]? = some oi)
  (hs : Region.noSelect ops = true) (hf : Region.free md ops listed i = true) (hr : (Region.ready md ops listed).contains i = true)
  (hQ : ∀ c a w, Q (.panic c) (a.put oi.dst v) w → Q (.panic c) a w) (hw : Region.wanted oi (yielded ops a.tmps) = true) (hS : S w)
  (hy : ∀ w, S w → (execOp a.eval oi).run P w = .ok (.value v) w) (ha : a.put oi.dst v = a')
  (h : wpAnyH P md ops Q S fuel (listed.setIfInBounds i true) a' w) : wpAnyH P md ops Q S (fuel + 1) listed a w := by
 subst ha
 exact wpAnyH_take hi hs hf hr hQ (.inl ⟨hw, hy⟩) hS h
/-- held_take with defaults (wip/squeeze.py) -/
theorem rgU (i : Nat) {oi : Oper} {v : Value} {a' : Act} {fuel : Nat} {listed : Array Bool} {a : Act} {w : World} (hS : S w)
  (hy : ∀ w, S w → (execOp a.eval oi).run P w = .ok (.value v) w) (ha : a.put oi.dst v = a')
  (h : wpAnyH P md ops Q S fuel (listed.setIfInBounds i true) a' w) (hi : ops[i]? = some oi := by exact rfl)
  (hs : Region.noSelect ops = true := by kernel_rfl) (hf : Region.free md ops listed i = true := by kernel_rfl) (hr : (Region.ready md ops listed).contains i = true := by kernel_rfl)
  (hQ : ∀ c a w, Q (.panic c) (a.put oi.dst v) w → Q (.panic c) a w := by exact fun _ _ _ h => h) (hw : Region.wanted oi (yielded ops a.tmps) = true := by rfl) : wpAnyH P md ops Q S (fuel + 1) listed a w :=
 held_take hi hs hf hr hQ hw hS hy ha h
theorem rgT (i : Nat) {oi : Oper} {v : Value} {a' : Act} {fuel : Nat} {listed : Array Bool} {a : Act} {w : World} (hS : S w)
  (h : wpAnyH P md ops Q S fuel (listed.setIfInBounds i true) a' w) (hi : ops[i]? = some oi := by exact rfl)
  (hs : Region.noSelect ops = true := by kernel_rfl) (hf : Region.free md ops listed i = true := by kernel_rfl) (hr : (Region.ready md ops listed).contains i = true := by kernel_rfl)
  (hy : ∀ w, S w → (execOp a.eval oi).run P w = .ok (.value v) w := by intro w hS; go_simp; try with_reducible rfl) (ha : a.put oi.dst v = a' := by go_simp; try with_reducible rfl)
  (hQ : ∀ c a w, Q (.panic c) (a.put oi.dst v) w → Q (.panic c) a w := by exact fun _ _ _ h => h) (hw : Region.wanted oi (yielded ops a.tmps) = true := by rfl) : wpAnyH P md ops Q S (fuel + 1) listed a w :=
 held_take hi hs hf hr hQ hw hS hy ha h
end
/-- the address of a cut 's[k:]' of capacity c, under one name: so that a walk does not part on it ('attribute [local go_sem ↓] cutA_eq') -/
def cutA (A : Option Addr) (c k : Nat) : Option Addr := if c = k then A else A.map (fun x => x.add k)
theorem cutA_eq (A : Option Addr) (c k : Nat) : (if c = k then A else Option.map (fun x => x.add k) A) = cutA A c k := rfl
theorem Sl.cut {w : World} {n k c : Nat} {A : Option Addr} {xs : List Value} (h : Sl w 1 A n xs) (hk : k ≤ n) (hc : n ≤ c) : Sl w 1 (cutA A c k) (n - k) (xs.drop k) := h.from1 hk hc
/-- A world that differs from another by draws alone. -/
def Same (w w' : World) : Prop := ∃ q, w.drewN q = w'
section
variable {w w' w'' : World}
theorem Same.refl (w : World) : Same w w := ⟨0, rfl⟩
theorem Same.trans (h : Same w w') (k : Same w' w'') : Same w w'' := by
 obtain ⟨a, rfl⟩ := h; obtain ⟨b, rfl⟩ := k; exact ⟨a + b, (World.drewN_drewN _ _ _).symm⟩
theorem Same.drew (h : Same w w') : Same w w'.drew := h.trans ⟨1, rfl⟩
theorem Same.drewN (h : Same w w') (n : Nat) : Same w (w'.drewN n) := h.trans ⟨n, rfl⟩
theorem Same.cell (h : Same w w') (p : Addr) : w'.cell? p = w.cell? p := by obtain ⟨a, rfl⟩ := h; rfl
theorem Same.frozen (h : Same w w') (p : Addr) : w'.frozen? p = w.frozen? p := by obtain ⟨a, rfl⟩ := h; rfl
theorem Same.size (h : Same w w') : w'.heap.size = w.heap.size := by obtain ⟨a, rfl⟩ := h; rfl
theorem Same.heap (h : Same w w') : w'.heap = w.heap := by obtain ⟨a, rfl⟩ := h; rfl
theorem Same.below (h : Same w w') (B : Nat) : Below B w w' := by
 obtain ⟨a, rfl⟩ := h
 have r := Below.refl B w
 exact ⟨r.os, r.tape, r.output, r.size, r.block⟩
theorem Same.own {base : Nat} {e : TypeId} {sz : Nat} {v : Value} {n : Nat} {xs : List Value} (h : Same w w') (hs : w.ownsRow base e sz v n xs) : w'.ownsRow base e sz v n xs := by obtain ⟨a, rfl⟩ := h; exact hs
theorem quiet_s2 {P : Program} {f : FuncId} {args : Array Value} {w : World} {a n : Nat} {v : Value}
  (h : Calls P f args (w.drewN (a + n)) fun e w' => e = .returned v ∧ Same (w.drewN (a + n)) w') : Calls P f args (w.drewN (a + n)) fun e w'' => e = .returned v ∧ ∃ m, w'' = w.drewN (a + m) :=
 h.mono fun _ _ ⟨he, q, hm⟩ => ⟨he, n + q, by rw [← hm, World.drewN_drewN, Nat.add_assoc]⟩
end
end Go.Proofs.YtgmbkcjihgphmaaGreat
/- Lists of byte slices in memory. -/
namespace Go.Proofs.YtgmbkcjihgphmaaGreat
open Go.RowKit
/-- a slice of bytes that reads as l -/
def SlB (w : World) (v : Value) (l : List UInt8) : Prop := ∃ A c, v = .slice A l.length c ∧ Sl w 1 A l.length (bytesV l) ∧ l.length ≤ c ∧ c ≤ maxLen
/-- values that read as byte lists, one by one -/
def AllB (w : World) (vs : List Value) (ls : List (List UInt8)) : Prop := vs.length = ls.length ∧ ∀ (i : Nat) (v : Value) (l : List UInt8), vs[i]? = some v → ls[i]? = some l → SlB w v l
theorem AllB.nil (w : World) : AllB w [] [] := ⟨rfl, fun i v l hv _ => by simp at hv⟩
theorem AllB.snoc {w : World} {vs : List Value} {ls : List (List UInt8)} {v : Value} {l : List UInt8} (h : AllB w vs ls) (hv : SlB w v l) : AllB w (vs ++ [v]) (ls ++ [l]) := by
 refine ⟨by simp [h.1], fun i u k hu hk => ?_⟩
 rcases Nat.lt_or_ge i vs.length with hi | hi
 ·rw [List.getElem?_append_left hi] at hu
  rw [List.getElem?_append_left (by rw [← h.1]; exact hi)] at hk
  exact h.2 i u k hu hk
 ·rw [List.getElem?_append_right hi] at hu
  rw [List.getElem?_append_right (by rw [← h.1]; exact hi), ← h.1] at hk
  rcases Nat.eq_zero_or_pos (i - vs.length) with h0 | h0
  ·rw [h0] at hu hk
   simp at hu hk
   subst hu hk
   exact hv
  ·rw [List.getElem?_eq_none (by simp; omega)] at hu
   cases hu
theorem SlB.of {w : World} {A : Option Addr} {n c : Nat} {l : List UInt8} (h : Sl w 1 A n (bytesV l)) (hc : n ≤ c) (hm : c ≤ maxLen) : SlB w (.slice A n c) l := by
 have hl : l.length = n := by have := h.1; simpa [bytesV] using this
 subst hl
 exact ⟨A, c, rfl, h, hc, hm⟩
theorem AllB.look {w : World} {A : Option Addr} {n k : Nat} {vs : List Value} {ls : List (List UInt8)} (hs : Sl w 1 A n vs) (h : AllB w vs ls) (hk : k < n) :
  ∃ (b off : Nat) (A' : Option Addr) (c' : Nat) (l : List UInt8), A = some ⟨b, off, none⟩ ∧ b < w.heap.size ∧ w.cell? ⟨b, off + k, none⟩ = some (.slice A' l.length c') ∧ ls[k]? = some l ∧ Sl w 1 A' l.length (bytesV l) ∧ l.length ≤ c' ∧ c' ≤ maxLen := by
 obtain ⟨b, off, u, e, hb, hu, hc⟩ := hs.look hk
 have hkl : k < ls.length := by rw [← h.1, hs.1]; omega
 obtain ⟨A', c', rfl, h1, h2, h3⟩ := h.2 k u ls[k] hu (List.getElem?_eq_getElem hkl)
 exact ⟨b, off, A', c', ls[k], e, hb, hc, List.getElem?_eq_getElem hkl, h1, h2, h3⟩
theorem flat_take_succ {ls : List (List UInt8)} {k : Nat} {l : List UInt8} (h : ls[k]? = some l) : (ls.take (k + 1)).flatten = (ls.take k).flatten ++ l := by
 rw [List.take_add_one, h, List.flatten_append]
 simp
theorem flat_take_le (ls : List (List UInt8)) (k : Nat) : (ls.take k).flatten.length ≤ ls.flatten.length := by
 have h := congrArg (fun x => (List.flatten x).length) (List.take_append_drop k ls)
 simp only [List.flatten_append, List.length_append] at h
 omega
/-- 'string(b)' behind a name, so that a walk through a region that draws its order does not open it -/
noncomputable def cvt (w : World) (A : Option Addr) (n c : Nat) : Result Value := (convert 38 9 (.slice A n c)).run Tryz.prog w
theorem cvt_eq (w : World) (A : Option Addr) (n c : Nat) : (convert 38 9 (.slice A n c)).run Tryz.prog w = cvt w A n c := rfl
theorem cvt_of {w : World} {A : Option Addr} {n : Nat} {l : List UInt8} (h : Sl w 1 A n (bytesV l)) (c : Nat) : cvt w A n c = .ok (.string ⟨l.toArray⟩) w :=
 Sl.toStr h c Tryz.underlying38 Tryz.underlying5 Tryz.underlying9
/-- '[]byte(s)': new memory that reads as the string's bytes. -/
theorem toBytes (w : World) (s : ByteArray) (hs : s.size ≤ maxLen) : ∃ A c w', (convert 9 38 (.string s)).run Tryz.prog w = .ok (.slice A s.size c) w' ∧ Sl w' 1 A s.size (bytesV s.data.toList) ∧ s.size ≤ c ∧ c ≤ maxLen ∧ Below w.heap.size w w' ∧ (∃ b, A = some ⟨b, 0, none⟩ ∧ w.heap.size ≤ b) := by
 have hr := run_bytes_of_string (P := Tryz.prog) w 9 38 5 s Tryz.underlying9 Tryz.underlying38 Tryz.underlying5
 refine ⟨_, _, _, hr, ⟨?_, fun h0 => ⟨w.heap.size, 0, rfl, by simp, fun j u hu => ?_⟩⟩, grownCap_ge _ _ _ _, grownCap_le_maxLen _ _ _ _ hs, ((Below.refl _ _).drew).alloc (Nat.le_refl _) _, ⟨_, rfl, Nat.le_refl _⟩⟩
 ·rw [bytesV_length, Nat.mul_one]; exact Array.length_toList
 ·have hj := (List.getElem?_eq_some_iff.1 hu).1
  rw [bytesV_length] at hj
  have hl : s.data.toList.length = s.data.size := Array.length_toList
  rw [Nat.zero_add]
  have := cell_of_row (w.drew.alloc (.cells (bytesRow s (grownCap w s.size 0 5)) 5 ((bytesRow s (grownCap w s.size 0 5)).size, (bytesRow s (grownCap w s.size 0 5)).size + 1))) w.heap.size j _ 5 _ (heap_alloc_new w.drew _)
  rw [this, ← hu]
  unfold bytesRow bytesV
  rw [Array.getElem?_append_left (by rw [Array.size_map]; omega)]
  simp
/-- the same behind a name -/
noncomputable def cvs (w : World) (s : ByteArray) : Result Value := (convert 9 38 (.string s)).run Tryz.prog w
theorem cvs_eq (w : World) (s : ByteArray) : (convert 9 38 (.string s)).run Tryz.prog w = cvs w s := rfl
end Go.Proofs.YtgmbkcjihgphmaaGreat
/- Readings: how cells of memory read as plain data, whatever its shape; what keeps a reading. -/
namespace Go.Proofs.YtgmbkcjihgphmaaGreat
open Go.RowKit
/-- blocks that a reading keeps away from -/
abbrev Av := Nat → Prop
def no : Av := fun _ => False
/-- the block that an append onto v may turn -/
def own (v : Value) : Av := fun b => v.ownBlock = some b
/-- From w to w' nothing turned that lay outside the blocks av; av' is not met by what was not av. -/
structure Moves (w w' : World) (av av' : Av) : Prop where
 size : w.heap.size ≤ w'.heap.size
 block : ∀ b, b < w.heap.size → ¬ av b → w'.heap[b]? = w.heap[b]?
 ne : ∀ b, b < w.heap.size → ¬ av b → ¬ av' b
theorem Moves.of_below {w w' : World} {av : Av} (h : Below w.heap.size w w') : Moves w w' av av := ⟨h.size, fun b hb _ => h.block b hb, fun _ _ h => h⟩
theorem Moves.forget (w : World) (av : Av) : Moves w w av no := ⟨Nat.le_refl _, fun _ _ _ => rfl, fun _ _ _ h => h⟩
theorem Moves.less (w : World) {av av' : Av} (h : ∀ b, b < w.heap.size → av' b → av b) : Moves w w av av' := ⟨Nat.le_refl _, fun _ _ _ => rfl, fun b hb hn h' => hn (h b hb h')⟩
theorem Moves.trans {w w' w'' : World} {av av' av'' : Av} (h : Moves w w' av av') (k : Moves w' w'' av' av'') : Moves w w'' av av'' :=
 ⟨Nat.le_trans h.size k.size, fun b hb hn => (k.block b (Nat.lt_of_lt_of_le hb h.size) (h.ne b hb hn)).trans (h.block b hb hn), fun b hb hn => k.ne b (Nat.lt_of_lt_of_le hb h.size) (h.ne b hb hn)⟩
theorem Moves.of_app {w w' : World} {base : Nat} {e : TypeId} {sz : Nat} {v v' : Value} {n : Nat} {xs : List Value} (h : Appended w w' base e sz v v' n xs) : Moves w w' (own v) (own v') := by
 refine ⟨h.grown.size, fun b hb hne => h.grown.block b hb (fun e => hne e.symm), fun b hb hne => ?_⟩
 unfold own at *
 rcases h.place with hp | hp
 ·rw [hp]; exact hne
 ·rw [hp]; intro e; injection e with e; omega
/-- an append onto one of several rows -/
theorem Moves.of_app_in {w w' : World} {base : Nat} {e : TypeId} {sz : Nat} {v v' : Value} {n : Nat} {xs : List Value} (h : Appended w w' base e sz v v' n xs) {av av' : Av} (hv : ∀ b, own v b → av b) (hv' : ∀ b, av' b → av b ∨ own v' b) : Moves w w' av av' := by
 have m := Moves.of_app h
 refine ⟨m.size, fun b hb hne => m.block b hb (fun e => hne (hv b e)), fun b hb hne e => ?_⟩
 rcases hv' b e with h1 | h1
 ·exact hne h1
 ·exact m.ne b hb (fun e => hne (hv b e)) h1
/-- One after another, each piece of cells reads as one value. -/
inductive Each {α : Type} (R : List Value → α → Prop) : List Value → List α → Prop
 | nil : Each R [] []
 | cons {cs vs : List Value} {x : α} {xs : List α} : R cs x → Each R vs xs → Each R (cs ++ vs) (x :: xs)
section
variable {α : Type} {R R' : List Value → α → Prop}
theorem Each.mono {vs : List Value} {xs : List α} (h : Each R vs xs) (hr : ∀ cs x, R cs x → R' cs x) : Each R' vs xs := by
 induction h with
 | nil => exact .nil
 | cons h1 _ ih => exact .cons (hr _ _ h1) ih
theorem Each.append {vs us : List Value} {xs ys : List α} (h : Each R vs xs) (k : Each R us ys) : Each R (vs ++ us) (xs ++ ys) := by
 induction h with
 | nil => exact k
 | cons h1 _ ih => rw [List.append_assoc]; exact .cons h1 ih
theorem Each.one {cs : List Value} {x : α} (h : R cs x) : Each R cs [x] := by simpa using Each.cons h (.nil)
theorem Each.snoc {vs cs : List Value} {xs : List α} {x : α} (h : Each R vs xs) (k : R cs x) : Each R (vs ++ cs) (xs ++ [x]) := h.append (.one k)
theorem Each.length {k : Nat} (hk : ∀ cs x, R cs x → cs.length = k) {vs : List Value} {xs : List α} (h : Each R vs xs) : vs.length = xs.length * k := by
 induction h with
 | nil => simp
 | cons h1 _ ih => rw [List.length_append, hk _ _ h1, ih, List.length_cons, Nat.add_mul]; omega
theorem Each.get {k : Nat} (hk : ∀ cs x, R cs x → cs.length = k) {vs : List Value} {xs : List α} (h : Each R vs xs) {i : Nat} {x : α} (hx : xs[i]? = some x) :
  ∃ cs, R cs x ∧ ∀ j u, cs[j]? = some u → vs[i * k + j]? = some u := by
 induction h generalizing i with
 | nil => simp at hx
 | @cons cs vs y ys h1 _ ih =>
  cases i with
  | zero =>
   simp at hx; subst hx
   refine ⟨cs, h1, fun j u hu => ?_⟩
   have hj := (List.getElem?_eq_some_iff.1 hu).1
   rw [Nat.zero_mul, Nat.zero_add, List.getElem?_append_left hj]; exact hu
  | succ i =>
   simp at hx
   obtain ⟨cs', h2, h3⟩ := ih hx
   refine ⟨cs', h2, fun j u hu => ?_⟩
   rw [Nat.add_mul, List.getElem?_append_right (by rw [hk _ _ h1]; omega), hk _ _ h1, show i * k + 1 * k + j - k = i * k + j from by omega]
   exact h3 j u hu
theorem Each.take {k : Nat} (hk : ∀ cs x, R cs x → cs.length = k) {vs : List Value} {xs : List α} (h : Each R vs xs) (n : Nat) : Each R (vs.take (n * k)) (xs.take n) := by
 induction h generalizing n with
 | nil => simp; exact .nil
 | @cons cs vs y ys h1 _ ih =>
  cases n with
  | zero => simp; exact .nil
  | succ n =>
   rw [List.take_succ_cons, List.take_append, List.take_of_length_le (by rw [hk _ _ h1, Nat.add_mul]; omega), hk _ _ h1, show (n + 1) * k - k = n * k from by rw [Nat.add_mul]; omega]
   exact .cons h1 (ih n)
theorem Each.drop {k : Nat} (hk : ∀ cs x, R cs x → cs.length = k) {vs : List Value} {xs : List α} (h : Each R vs xs) (n : Nat) : Each R (vs.drop (n * k)) (xs.drop n) := by
 induction h generalizing n with
 | nil => simp; exact .nil
 | @cons cs vs y ys h1 h2 ih =>
  cases n with
  | zero => simpa using Each.cons h1 h2
  | succ n =>
   rw [List.drop_succ_cons, List.drop_append, List.drop_of_length_le (by rw [hk _ _ h1, Nat.add_mul]; omega), hk _ _ h1, show (n + 1) * k - k = n * k from by rw [Nat.add_mul]; omega]
   simpa using ih n
theorem Each.all {vs : List Value} {xs : List α} (h : Each R vs xs) {p : Value → Prop} (hp : ∀ cs x, R cs x → ∀ u ∈ cs, p u) : ∀ u ∈ vs, p u := by
 induction h with
 | nil => intro u hu; cases hu
 | cons h1 _ ih =>
  intro u hu
  rcases List.mem_append.1 hu with h | h
  ·exact hp _ _ h1 u h
  ·exact ih u h
end
/-- A way to read k cells as an α. -/
structure Rd (α : Type) where
 k : Nat
 R : World → Av → List Value → α → Prop
 len : ∀ {w av cs x}, R w av cs x → cs.length = k
 one : ∀ {w av cs x}, R w av cs x → ∀ u ∈ cs, u.oneCell' = true
 stable : ∀ {w w' av av' cs x}, R w av cs x → Moves w w' av av' → R w' av' cs x
/-- a value of some bytes -/
def strR : Rd ByteArray where
 k := 1
 R := fun _ _ cs s => cs = [.string s]
 len := fun h => by subst h; rfl
 one := fun h u hu => by subst h; simp at hu; subst hu; rfl
 stable := fun h _ => h
def intR (kd : IntKind) : Rd Int where
 k := 1
 R := fun _ _ cs z => cs = [.int kd z] ∧ (Lit.int kd z).wf = true
 len := fun h => by obtain ⟨rfl, _⟩ := h; rfl
 one := fun h u hu => by obtain ⟨rfl, _⟩ := h; simp at hu; subst hu; rfl
 stable := fun h _ => h
def byteR : Rd UInt8 where
 k := 1
 R := fun _ _ cs z => cs = [.int .u8 (z.toNat : Int)]
 len := fun h => by subst h; rfl
 one := fun h u hu => by subst h; simp at hu; subst hu; rfl
 stable := fun h _ => h
def boolR : Rd Bool where
 k := 1
 R := fun _ _ cs z => cs = [.bool z]
 len := fun h => by subst h; rfl
 one := fun h u hu => by subst h; simp at hu; subst hu; rfl
 stable := fun h _ => h
/-- fields one behind the other -/
def prodR {α β : Type} (r : Rd α) (s : Rd β) : Rd (α × β) where
 k := r.k + s.k
 R := fun w av cs x => ∃ c1 c2, cs = c1 ++ c2 ∧ r.R w av c1 x.1 ∧ s.R w av c2 x.2
 len := fun h => by obtain ⟨c1, c2, rfl, h1, h2⟩ := h; rw [List.length_append, r.len h1, s.len h2]
 one := fun h u hu => by
  obtain ⟨c1, c2, rfl, h1, h2⟩ := h
  rcases List.mem_append.1 hu with h | h
  ·exact r.one h1 u h
  ·exact s.one h2 u h
 stable := fun h m => by obtain ⟨c1, c2, rfl, h1, h2⟩ := h; exact ⟨c1, c2, rfl, r.stable h1 m, s.stable h2 m⟩
/-- an array of n -/
def arrR {α : Type} (n : Nat) (r : Rd α) : Rd (List α) where
 k := n * r.k
 R := fun w av cs l => l.length = n ∧ Each (r.R w av) cs l
 len := fun h => by obtain ⟨rfl, h⟩ := h; exact h.length fun _ _ => r.len
 one := fun h u hu => h.2.all (p := fun u => u.oneCell' = true) (fun _ _ h => r.one h) u hu
 stable := fun h m => ⟨h.1, h.2.mono fun _ _ h => r.stable h m⟩
/-- What a slice's parts must be, that it read as l. -/
def SlOf {α : Type} (r : Rd α) (w : World) (av : Av) (A : Option Addr) (l : List α) : Prop :=
 ∃ vs, Sl w r.k A l.length vs ∧ Each (r.R w av) vs l ∧ (0 < l.length → ∀ b off, A = some ⟨b, off, none⟩ → ¬ av b)
theorem SlOf.stable {α : Type} {r : Rd α} {w w' : World} {av av' : Av} {A : Option Addr} {l : List α} (h : SlOf r w av A l) (m : Moves w w' av av') : SlOf r w' av' A l := by
 obtain ⟨vs, hs, he, hn⟩ := h
 refine ⟨vs, ⟨hs.1, fun h0 => ?_⟩, he.mono fun _ _ h => r.stable h m, fun h0 b off e => ?_⟩
 ·obtain ⟨b, off, e, hb, hc⟩ := hs.2 h0
  refine ⟨b, off, e, Nat.lt_of_lt_of_le hb m.size, fun j u hu => ?_⟩
  rw [World.cell?_of_block (m.block b hb (hn h0 b off e))]
  exact hc j u hu
 ·obtain ⟨b', off', e', hb, _⟩ := hs.2 h0
  rw [e] at e'
  injection e' with e'
  injection e' with e1 e2
  subst e1
  exact m.ne b hb (hn h0 b off e)
def slR {α : Type} (r : Rd α) : Rd (List α) where
 k := 1
 R := fun w av cs l => ∃ A c, cs = [.slice A l.length c] ∧ l.length ≤ c ∧ c ≤ maxLen ∧ SlOf r w av A l
 len := fun h => by obtain ⟨A, c, rfl, _⟩ := h; rfl
 one := fun h u hu => by obtain ⟨A, c, rfl, _⟩ := h; simp at hu; subst hu; rfl
 stable := fun h m => by obtain ⟨A, c, e, h1, h2, h3⟩ := h; exact ⟨A, c, e, h1, h2, h3.stable m⟩
section
variable {α : Type} {r : Rd α} {w w' : World} {av av' : Av} {A : Option Addr} {l : List α}
theorem SlOf.below (h : SlOf r w av A l) (hb : Below w.heap.size w w') : SlOf r w' av A l := h.stable (.of_below hb)
theorem SlOf.forget (h : SlOf r w av A l) : SlOf r w no A l := h.stable (.forget w av)
theorem SlOf.nil : SlOf r w av A [] := ⟨[], ⟨by simp, fun h => absurd h (by simp)⟩, .nil, fun h => absurd h (by simp)⟩
/-- an element's cells -/
theorem SlOf.look {n i : Nat} (h : SlOf r w av A l) (hl : l.length = n) (hi : i < n) :
  ∃ b off cs x, A = some ⟨b, off, none⟩ ∧ b < w.heap.size ∧ l[i]? = some x ∧ r.R w av cs x ∧ (∀ j u, cs[j]? = some u → w.cell? ⟨b, off + (i * r.k + j), none⟩ = some u) ∧ ¬ av b := by
 subst hl
 obtain ⟨vs, hs, he, hn⟩ := h
 obtain ⟨b, off, e, hb, hc⟩ := hs.2 (by omega)
 obtain ⟨cs, h1, h2⟩ := he.get (fun _ _ => r.len) (List.getElem?_eq_getElem hi)
 exact ⟨b, off, cs, l[i], e, hb, List.getElem?_eq_getElem hi, h1, fun j u hu => hc _ u (h2 j u hu), hn (by omega) b off e⟩
theorem SlOf.from {n k c : Nat} (h : SlOf r w av A l) (hl : l.length = n) (hk : k ≤ n) (hc : n ≤ c) : SlOf r w av (if c = k then A else A.map (·.add (k * r.k))) (l.drop k) := by
 subst hl
 obtain ⟨vs, hs, he, hn⟩ := h
 have h1 := hs.from hk hc
 refine ⟨vs.drop (k * r.k), by rw [List.length_drop]; exact h1, he.drop (fun _ _ => r.len) k, fun h0 b off e => ?_⟩
 rw [List.length_drop] at h0
 obtain ⟨b', off', e', hb', _⟩ := hs.2 (by omega)
 rw [if_neg (by omega), e'] at e
 simp only [Option.map_some, addr_add, Option.some.injEq, Addr.mk.injEq] at e
 rw [← e.1]
 exact hn (by omega) b' off' e'
theorem SlOf.upto {n k : Nat} (h : SlOf r w av A l) (hl : l.length = n) (hk : k ≤ n) : SlOf r w av A (l.take k) := by
 subst hl
 obtain ⟨vs, hs, he, hn⟩ := h
 refine ⟨vs.take (k * r.k), by rw [List.length_take, Nat.min_eq_left hk]; exact hs.upto hk, he.take (fun _ _ => r.len) k, fun h0 b off e => ?_⟩
 rw [List.length_take] at h0
 exact hn (by omega) b off e
/-- what a row of the call's own reads as -/
theorem SlOf.ofOwn {base : Nat} {e : TypeId} {c : Nat} {vs : List Value} (h : w.ownsRow base e r.k (.slice A l.length c) l.length vs) (he : Each (r.R w (own (Value.slice A l.length c))) vs l) : SlOf r w no A l :=
 ⟨vs, Sl.ofOwn h, he.mono fun _ _ h => r.stable h (.forget _ _), fun _ _ _ _ h => h⟩
end
/-! ### the plain element types -/
theorem each_byte {w : World} {av : Av} {vs : List Value} {l : List UInt8} (h : Each (byteR.R w av) vs l) : vs = l.map fun b => .int .u8 (b.toNat : Int) := by
 induction h with
 | nil => rfl
 | cons h1 _ ih => obtain rfl := h1; subst ih; rfl
theorem each_byte_mk {w : World} {av : Av} : ∀ (l : List UInt8), Each (byteR.R w av) (l.map fun b => .int .u8 (b.toNat : Int)) l
 | [] => .nil
 | s :: l => by simpa using Each.cons (R := byteR.R w av) (cs := [.int .u8 (s.toNat : Int)]) rfl (each_byte_mk l)
theorem SlOf.bytes {w : World} {av : Av} {A : Option Addr} {l : List UInt8} (h : SlOf byteR w av A l) : Sl w 1 A l.length (l.map fun b => .int .u8 (b.toNat : Int)) := by
 obtain ⟨vs, hs, he, _⟩ := h
 rw [each_byte he] at hs; exact hs
end Go.Proofs.YtgmbkcjihgphmaaGreat
/- grain: Canon, the bits of a number with a point, heads. -/
namespace Go.Proofs.YtgmbkcjihgphmaaGreat
open Go.RowKit
theorem elemByte : ElemOf Tryz.prog 38 5 (.int .u8 0) 1 1 := ⟨Tryz.underlying38, by kernel_rfl, rfl, by decide⟩
theorem ext_bits (b : Nat) (w : World) : (callFunc 100 #[.float .f64 b]).run Tryz.prog w = .ok (.value (.int .u64 (b : Int))) w := by
 rw [run_callFunc_extern Tryz.func100 (by kernel_rfl) (by kernel_rfl) (by kernel_rfl) (e := Extern.MathFloatBits.float64bits) (by kernel_rfl)]; rfl
theorem ext_from (n : Int) (w : World) : (callFunc 91 #[.int .u64 n]).run Tryz.prog w = .ok (.value (.float .f64 n.toNat)) w := by
 rw [run_callFunc_extern Tryz.func91 (by kernel_rfl) (by kernel_rfl) (by kernel_rfl) (e := Extern.MathFloatBits.float64frombits) (by kernel_rfl)]; rfl
theorem canon_any (b : Nat) (w : World) : Calls Tryz.prog 66 #[.float .f64 b] w fun e w' => e = .returned (.float .f64 (canonB b)) ∧ Same w w' := by
 have hf := ext_from
 by_cases hn : isNan b = true
 ·have hc : canonB b = nanB := by simp [canonB, hn]
  have hn' : (FloatKind.f64.format.order b b != some .eq) = true := hn
  rw [hc]
  clear hc hn
  go_enter Tryz.func66, Tryz.ntmps66
  go_wp2_with fail
  go_ret
  exact ⟨rfl, Same.refl _⟩
 ·have hc : canonB b = b := by simp [canonB, hn]
  have hn' : (FloatKind.f64.format.order b b != some .eq) = false := by simpa [isNan] using hn
  rw [hc]
  clear hc hn hf
  go_enter Tryz.func66, Tryz.ntmps66
  go_wp2_with fail
  go_ret
  exact ⟨rfl, Same.refl _⟩
/-! ### bits -/
theorem wrap_u64 (z : Int) : IntKind.u64.wrap z = z % 18446744073709551616 := by simp [IntKind.wrap, IntKind.bits, IntKind.signed]
theorem and124 : ∀ y : Fin 256, (y.val &&& 124) = y.val / 4 % 32 * 4 := by decide +kernel
theorem or4 : ∀ (k : Fin 4) (z : Fin 32), (k.val ||| z.val * 4) = z.val * 4 + k.val := by decide +kernel
theorem or128 : ∀ x : Fin 128, (x.val ||| 128) = x.val + 128 := by decide +kernel
theorem head_first {k n : Nat} (hk : k < 4) : bits .or .u8 (k : Int) (bits .and .u8 (IntKind.u64.wrap ((n : Int) * 4) % 256) 124) = ((n % 32 * 4 + k : Nat) : Int) := by
 have e1 : IntKind.u64.wrap ((n : Int) * 4) % 256 = ((n * 4 % 256 : Nat) : Int) := by rw [wrap_u64]; omega
 have e2 : bits .and .u8 ((n * 4 % 256 : Nat) : Int) 124 = ((n % 32 * 4 : Nat) : Int) := by
  have h := u8_and_nat (n * 4 % 256) 124 (by omega) (by omega)
  rw [and124 ⟨n * 4 % 256, by omega⟩] at h
  rw [show ((124 : Nat) : Int) = 124 from rfl] at h
  rw [h]
  congr 1
  show n * 4 % 256 / 4 % 32 * 4 = _
  omega
 rw [e1, e2, u8_or_nat k (n % 32 * 4) (by omega) (by omega)]
 congr 1
 exact or4 ⟨k, hk⟩ ⟨n % 32, by omega⟩
theorem head_or {x : Nat} (hx : x < 128) : bits .or .u8 (x : Int) 128 = ((x + 128 : Nat) : Int) := by
 have h := u8_or_nat x 128 (by omega) (by omega)
 rw [or128 ⟨x, hx⟩] at h
 exact h
theorem head_and {q : Nat} : bits .and .u8 ((q : Int) % 256) 127 = ((q % 128 : Nat) : Int) := by
 have h := u8_and_nat (q % 256) 127 (by omega) (by omega)
 rw [nat_mask7] at h
 have e : ((q % 256 : Nat) : Int) = (q : Int) % 256 := by omega
 rw [e] at h
 refine h.trans ?_
 congr 1
 omega
theorem tailL_length : ∀ (j x q : Nat), q < 2 ^ (7 * j) → (tailL x q).length ≤ j + 1
 | 0, x, q, h => by
  have : q = 0 := by simpa using h
  subst this; rw [tailL_zero]; simp
 | j + 1, x, q, h => by
  by_cases h0 : q = 0
  ·subst h0; rw [tailL_zero]; simp
  ·rw [tailL_pos x h0, List.length_cons]
   have := tailL_length j (q % 128) (q / 128) (by
    rw [Nat.mul_add, Nat.pow_add] at h
    exact Nat.div_lt_of_lt_mul (by rw [Nat.mul_comm]; exact h))
   omega
theorem headL_length {k n : Nat} (hn : n < 2 ^ 64) : (headL k n).length ≤ 10 := tailL_length 9 _ _ (by omega)
set_option maxRecDepth 100000 in
set_option maxHeartbeats 1000000 in
theorem head_any {base : Nat} {A : Option Addr} {m c : Nat} {xs : List UInt8} (k n : Nat) (w : World) (hk : k < 4) (hn : n < 2 ^ 64) (hm : m ≤ 1000000000) (hown : w.ownsRow base 5 1 (.slice A m c) m (bytesV xs)) (hb : base ≤ w.heap.size) :
  Calls Tryz.prog 99 #[.slice A m c, .int .i64 (k : Int), .int .u64 (n : Int)] w fun e w' => ∃ A' m' c', e = .returned (.slice A' m' c') ∧ m' = m + (headL k n).length ∧ w'.ownsRow base 5 1 (.slice A' m' c') m' (bytesV (xs ++ headL k n)) ∧ Below base w w' ∧ Moves w w' (own (.slice A m c)) (own (.slice A' m' c')) := by
 have hlen := headL_length (k := k) hn
 obtain ⟨R, hR⟩ : ∃ R, R = headL k n := ⟨_, rfl⟩
 rw [← hR] at hlen
 have HR := Lib.hid hR
 rw [← hR]
 have hf := head_first (n := n) hk
 obtain ⟨x0, hx0⟩ : ∃ x0, x0 = n % 32 * 4 + k := ⟨_, rfl⟩
 have hx0l : x0 < 128 := by omega
 obtain ⟨q0, hq0⟩ : ∃ q0, q0 = n / 32 := ⟨_, rfl⟩
 have hq : (n : Int) / 32 = (q0 : Int) := by omega
 have hRt : R = tailL x0 q0 := by rw [hR, hx0, hq0]; rfl
 have HRT := Lib.hid hRt
 rw [← hx0] at hf
 clear hR hRt hx0 HR hq0
 go_enter Tryz.func99, Tryz.ntmps99
 go_wp2_with fail
 clear hf hq
 go_loopw [0, 2, 7] (fun s0 s2 s7 wr => ∃ (A' : Option Addr) (m' c' x q : Nat) (acc : List UInt8), s0 = .slice A' m' c' ∧ s2 = .int .u64 (q : Int) ∧ s7 = .int .u8 (x : Int) ∧ x < 128 ∧ Hid (acc ++ tailL x q = R) ∧ m' = m + acc.length ∧ wr.ownsRow base 5 1 (.slice A' m' c') m' (bytesV (xs ++ acc)) ∧ Below base w wr ∧ Moves w wr (own (.slice A m c)) (own (.slice A' m' c')))
  (fun s0 s2 s7 wr => (intOf s2).toNat)
 case atStart => exact ⟨A, m, c, x0, q0, [], rfl, rfl, rfl, hx0l, Lib.hid HRT.out.symm, by simp, by simpa using hown, Below.refl _ _, Moves.of_below (Below.refl _ _)⟩
 case round =>
  obtain ⟨A', m', c', x, q, acc, rfl, rfl, rfl, hx, HA, hm', hown', hbl, hmv⟩ := hrel
  have hal : acc.length ≤ R.length := by rw [← HA.out]; simp
  have hbw := Nat.le_trans hb hbl.size
  by_cases hq0 : 0 < q
  ·have hqI : (0 : Int) < (q : Int) := by omega
   have ht := tailL_pos x (by omega : q ≠ 0)
   have hor := head_or hx
   have hand : bits .and .u8 ((q : Int) % 256) 127 = ((q % 128 : Nat) : Int) := head_and
   obtain ⟨x1, hx1⟩ : ∃ x1, x1 = x + 128 := ⟨_, rfl⟩
   obtain ⟨q1, hq1⟩ : ∃ q1, q1 = q / 128 := ⟨_, rfl⟩
   obtain ⟨y1, hy1⟩ : ∃ y1, y1 = q % 128 := ⟨_, rfl⟩
   rw [← hx1] at hor ht
   rw [← hy1] at hand ht
   rw [← hq1] at ht
   have e128 : (q : Int) / 128 = (q1 : Int) := by omega
   obtain ⟨A2, c2, w2, run2, ap2, hc2, hm2⟩ := append_sl elemByte (hown'.alloc (.cells #[.int .u8 (x1 : Int)] 5)) (Sl.one wr (.int .u8 (x1 : Int)) 5) (by simp; rfl) (by omega) (by simp only [maxLen]; omega) (by simp; omega) 38 1
   have hbl2 : Below base w w2 := hbl.trans (((Below.refl _ _).alloc hbw _).trans ap2.below)
   have hmv2 := hmv.trans ((Moves.of_below ((Below.refl _ _).alloc (Nat.le_refl _) _)).trans (Moves.of_app ap2))
   have hown2 := ap2.own
   have hq1q : q1 < q := by omega
   have hy128 : y1 < 128 := by omega
   have hbv : bytesV (xs ++ acc) ++ [Value.int .u8 (x1 : Int)] = bytesV (xs ++ (acc ++ [UInt8.ofNat x1])) := by
    rw [← List.append_assoc]
    simp only [bytesV, List.map_append, List.map_cons, List.map_nil]
    rw [u8_ofNat (by omega)]
   rw [hbv] at hown2
   have HA2 : Hid (acc ++ [UInt8.ofNat x1] ++ tailL y1 q1 = R) := Lib.hid (by rw [← HA.out, ht]; simp)
   clear hx1 hq1 hy1 ht ap2 hown' HA hbv
   go_wp2_with (first | (at_builtin; refine wpList_run_append run2 ?_ ?_ ?_; exact rfl; exact rfl) | fail)
   go_roundw
   case rel => exact ⟨A2, m' + 1, c2, y1, q1, acc ++ [UInt8.ofNat x1], by go_num, rfl, rfl, hy128, HA2, by simp; omega, hown2, hbl2, hmv2⟩
   case measure => simp [intOf]; omega
  ·obtain rfl : q = 0 := by omega
   have HM' := Lib.hid hm'
   clear hm'
   have ha := HA.out
   rw [tailL_zero] at ha
   obtain ⟨A2, c2, w2, run2, ap2, hc2, hm2⟩ := append_sl elemByte (hown'.alloc (.cells #[.int .u8 (x : Int)] 5)) (Sl.one wr (.int .u8 (x : Int)) 5) (by simp; rfl) (by have := HM'.out; omega) (by have := HM'.out; simp only [maxLen]; omega) (by simp; omega) 38 1
   have hbl2 : Below base w w2 := hbl.trans (((Below.refl _ _).alloc hbw _).trans ap2.below)
   have hmv2 := hmv.trans ((Moves.of_below ((Below.refl _ _).alloc (Nat.le_refl _) _)).trans (Moves.of_app ap2))
   have hown2 := ap2.own
   have hbv : bytesV (xs ++ acc) ++ [Value.int .u8 (x : Int)] = bytesV (xs ++ R) := by
    rw [← ha, ← List.append_assoc]
    simp only [bytesV, List.map_append, List.map_cons, List.map_nil]
    rw [u8_ofNat (by omega)]
   rw [hbv] at hown2
   have hml : m' + 1 = m + R.length := by have := HM'.out; rw [← ha]; simp; omega
   have HM := Lib.hid hml
   clear ha hbv HA hml
   go_wp2_with (first | (at_builtin; refine wpList_run_append run2 ?_ ?_ ?_; exact rfl; exact rfl) | fail)
   go_ret
   exact ⟨A2, m' + 1, c2, rfl, HM.out, hown2, hbl2, hmv2⟩
end Go.Proofs.YtgmbkcjihgphmaaGreat
/- A region that draws its order and stores, at its end, where it loaded: the class S of worlds is asked only while the store s has not come up. -/
namespace Go.Proofs.YtgmbkcjihgphmaaGreat
open Go.RowKit
section
variable {P : Program} {ops : Array Oper} {Q : Exit → Act → World → Prop} {md : Region.Mode} {S : World → Prop} {s : Nat}
/-- every order from here on; S behind each operation ahead of s -/
def wpAnyL (P : Program) (md : Region.Mode) (ops : Array Oper) (Q : Exit → Act → World → Prop) (S : World → Prop) (s : Nat) : Nat → Array Bool → Act → World → Prop
 | 0, L, a, w => Region.ready md ops L = [] ∧ Q .normal a w
 | fuel + 1, L, a, w => (Region.ready md ops L = [] → Q .normal a w) ∧
   ∀ i ∈ Region.ready md ops L, wpOp P ops Q i (fun a' w' => ((L.setIfInBounds i true).getD s true = false → S w') ∧ wpAnyL P md ops Q S s fuel (L.setIfInBounds i true) a' w') a w
theorem wpAny_of_late : ∀ (fuel : Nat) (L : Array Bool) (a : Act) (w : World), wpAnyL P md ops Q S s fuel L a w → wpAny P md ops Q fuel L a w
 | 0, _, _, _, h => h
 | fuel + 1, _, _, _, h => ⟨h.1, fun i hi => wpOp_mono (fun a' w' h' => wpAny_of_late fuel _ a' w' h'.2) (h.2 i hi)⟩
/-- taking i first: T is what its value leans on, J what is known of the operations that have come up -/
theorem late_first {i : Nat} {oi : Oper} {v : Value} {T : World → Prop} {J : Array Bool → Prop} (hi : ops[i]? = some oi) (hsel : ∀ (j : Nat) (o : Oper) cs b, ops[j]? = some o → o.op ≠ .select cs b)
  (hQ : ∀ c a w, Q (.panic c) (a.put oi.dst v) w → Q (.panic c) a w) (his : i ≠ s)
  (hJ : ∀ L j, J L → j ∈ Region.ready md ops L → i ∈ Region.ready md ops L → j ≠ i → J (L.setIfInBounds j true))
  (hT : ∀ L w, J L → (L.getD s true = false → S w) → T w) :
  ∀ (fuel : Nat) (L : Array Bool) (a : Act) (w : World),
   (∀ j oj, ops[j]? = some oj → j ≠ i → L.getD j true = false → (∀ e ∈ oj.after, Region.binds md e = true → e.on ≠ i) → oi.apart ops oj = true) →
   i ∈ Region.ready md ops L → YieldsIf P ops T oi v a → (L.getD s true = false → S w) → J L →
   wpAnyL P md ops Q S s fuel (L.setIfInBounds i true) (a.put oi.dst v) w → wpAnyL P md ops Q S s (fuel + 1) L a w := by
 intro fuel
 induction fuel with
 | zero =>
  intro L a w hfree hr hy hS hJL H
  refine ⟨fun h0 => (by rw [h0] at hr; cases hr), fun j hj => ?_⟩
  rcases Nat.decEq j i with hji | hji
  ·have := ready_mono hj hji
   rw [H.1] at this; cases this
  ·subst hji
   exact hy.wpOp hi (hT L w hJL hS) ⟨fun h0 => hS (by rwa [getD_set_ne true his] at h0), H⟩
 | succ fuel ih =>
  intro L a w hfree hr hy hS hJL H
  refine ⟨fun h0 => (by rw [h0] at hr; cases hr), fun j hj => ?_⟩
  rcases Nat.decEq j i with hji | hji
  ·have h1 := H.2 j (ready_mono hj hji)
   obtain ⟨hjun, oj, hoj, hall⟩ := mem_ready.1 hj
   have hiun := (mem_ready.1 hr).1
   have hnot : ∀ e ∈ oj.after, Region.binds md e = true → e.on ≠ i := fun e he hb heq => by
    have h2 := hall e he hb
    rw [heq] at h2
    rcases Nat.lt_or_ge i L.size with h' | h'
    ·simp [h'] at hiun h2; rw [hiun] at h2; cases h2
    ·simp [Array.getElem?_eq_none h'] at h2
   have h2 := wpOp_putIf hoj (hfree j oj hoj hji hjun hnot) (fun cs b => hsel i oi cs b hi) (fun cs b => hsel j oj cs b hoj) hQ hy h1
   refine wpOp_mono (fun a' w' h3 => ?_) h2
   obtain ⟨hy', hS', hA⟩ := h3
   rw [Array.setIfInBounds_comm _ _ (Ne.symm hji)] at hS' hA
   have hSj : (L.setIfInBounds j true).getD s true = false → S w' := fun h0 => hS' (by rw [getD_set_ne true his]; exact h0)
   refine ⟨hSj, ih _ a' w' (fun k ok hk hki hun hno => ?_) (ready_mono hr (Ne.symm hji)) hy' hSj (hJ L j hJL hj hr hji) hA⟩
   refine hfree k ok hk hki ?_ hno
   rcases Nat.decEq j k with hjk | hjk
   ·rw [getD_set_ne true hjk] at hun; exact hun
   ·subst hjk; exact hjun
  ·subst hji
   exact hy.wpOp hi (hT L w hJL hS) ⟨fun h0 => hS (by rwa [getD_set_ne true his] at h0), H⟩
/-- s waits for m, and m is i or waits for i; neither s nor m has come up -/
def lateOk (md : Region.Mode) (ops : Array Oper) (s m i : Nat) (L : Array Bool) : Bool :=
 (match ops[s]? with | some o => o.after.any (fun e => Region.binds md e && e.on == m) | none => false) &&
 (m == i || match ops[m]? with | some o => o.after.any (fun e => Region.binds md e && e.on == i) | none => false) && !(L.getD m true) && !(L.getD s true)
/-- what has come up is marked -/
theorem late_done {L : Array Bool} {j k : Nat} {oj : Oper} (hj : j ∈ Region.ready md ops L) (hoj : ops[j]? = some oj) (h : oj.after.any (fun e => Region.binds md e && e.on == k) = true) : L.getD k true = true := by
 obtain ⟨_, oj', hoj', hall⟩ := mem_ready.1 hj
 rw [hoj] at hoj'
 injection hoj' with e
 subst e
 rw [Array.any_eq_true] at h
 obtain ⟨q, hq, he⟩ := h
 simp only [Bool.and_eq_true, beq_iff_eq] at he
 have := hall _ (Array.getElem_mem hq) he.1
 rw [he.2] at this
 rcases Nat.lt_or_ge k L.size with h' | h'
 ·simp [h'] at this ⊢; exact this
 ·simp [Array.getElem?_eq_none h'] at this
theorem late_load {i m : Nat} {oi : Oper} {v : Value} {a' : Act} {fuel : Nat} {L : Array Bool} {a : Act} {w : World} (hi : ops[i]? = some oi)
  (hs : Region.noSelect ops = true) (hf : Region.free md ops L i = true) (hr : (Region.ready md ops L).contains i = true) (hm : lateOk md ops s m i L = true) (his : (i == s) = false)
  (hQ : ∀ c a w, Q (.panic c) (a.put oi.dst v) w → Q (.panic c) a w) (hw : Region.wanted oi (yielded ops a.tmps) = true) (hS : S w)
  (hy : ∀ w, S w → (execOp a.eval oi).run P w = .ok (.value v) w) (ha : a.put oi.dst v = a')
  (h : wpAnyL P md ops Q S s fuel (L.setIfInBounds i true) a' w) : wpAnyL P md ops Q S s (fuel + 1) L a w := by
 subst ha
 refine late_first (T := S) (J := fun L => lateOk md ops s m i L = true) hi (Region.noSelect_spec hs) hQ (by simpa using his) (fun L j hL hj hir hji => ?_) (fun L w hL h0 => ?_) fuel L a w (Region.free_spec hi hf) (by simpa using hr) (.inl ⟨hw, hy⟩) (fun _ => hS) hm h
 ·simp only [lateOk, Bool.and_eq_true, Bool.not_eq_true', Bool.or_eq_true, beq_iff_eq] at hL ⊢
  obtain ⟨⟨⟨h1, h2⟩, h3⟩, h4⟩ := hL
  have iun : L.getD i true = false := (mem_ready.1 hir).1
  have js : j ≠ s := by
   rintro rfl
   cases ho : ops[j]? with
   | none => rw [ho] at h1; cases h1
   | some o => rw [ho] at h1; have := late_done hj ho h1; rw [h3] at this; cases this
  have jm : j ≠ m := by
   rintro rfl
   rcases h2 with h2 | h2
   ·exact hji h2
   ·cases ho : ops[j]? with
    | none => rw [ho] at h2; cases h2
    | some o => rw [ho] at h2; have := late_done hj ho h2; rw [iun] at this; cases this
  exact ⟨⟨⟨h1, h2⟩, by rw [getD_set_ne true jm]; exact h3⟩, by rw [getD_set_ne true js]; exact h4⟩
 ·simp only [lateOk, Bool.and_eq_true, Bool.not_eq_true'] at hL
  exact h0 hL.2
/-- m waits for k -/
def waits (md : Region.Mode) (ops : Array Oper) (m k : Nat) : Bool := match ops[m]? with | some o => o.after.any (fun e => Region.binds md e && e.on == k) | none => false
/-- a chain of operations that wait, each for the next, the last for i; none of them has come up -/
def chainOk (md : Region.Mode) (ops : Array Oper) (i : Nat) (L : Array Bool) : List Nat → Bool
 | [] => true
 | m :: c => waits md ops m (c.headD i) && !(L.getD m true) && chainOk md ops i L c
theorem chain_step {i j : Nat} {L : Array Bool} (hi : L.getD i true = false) (hj : j ∈ Region.ready md ops L) : ∀ c : List Nat, chainOk md ops i L c = true → chainOk md ops i (L.setIfInBounds j true) c = true
 | [], _ => rfl
 | m :: c, h => by
  simp only [chainOk, Bool.and_eq_true, Bool.not_eq_true'] at h ⊢
  obtain ⟨⟨h1, h2⟩, h3⟩ := h
  have hn : L.getD (c.headD i) true = false := by
   cases c with
   | nil => exact hi
   | cons m' c' =>
    simp only [chainOk, Bool.and_eq_true, Bool.not_eq_true'] at h3
    exact h3.1.2
  have hm : j ≠ m := by
   rintro rfl
   unfold waits at h1
   cases ho : ops[j]? with
   | none => rw [ho] at h1; cases h1
   | some o => rw [ho] at h1; have := late_done hj ho h1; rw [hn] at this; cases this
  exact ⟨⟨h1, by rw [getD_set_ne true hm]; exact h2⟩, chain_step hi hj c h3⟩
theorem late_loadc {i : Nat} (c : List Nat) {oi : Oper} {v : Value} {a' : Act} {fuel : Nat} {L : Array Bool} {a : Act} {w : World} (hi : ops[i]? = some oi)
  (hs : Region.noSelect ops = true) (hf : Region.free md ops L i = true) (hr : (Region.ready md ops L).contains i = true) (hm : chainOk md ops i L (s :: c) = true) (his : (i == s) = false)
  (hQ : ∀ c a w, Q (.panic c) (a.put oi.dst v) w → Q (.panic c) a w) (hw : Region.wanted oi (yielded ops a.tmps) = true) (hS : S w)
  (hy : ∀ w, S w → (execOp a.eval oi).run P w = .ok (.value v) w) (ha : a.put oi.dst v = a')
  (h : wpAnyL P md ops Q S s fuel (L.setIfInBounds i true) a' w) : wpAnyL P md ops Q S s (fuel + 1) L a w := by
 subst ha
 refine late_first (T := S) (J := fun L => chainOk md ops i L (s :: c) = true) hi (Region.noSelect_spec hs) hQ (by simpa using his) (fun L j hL hj hir hji => ?_) (fun L w hL h0 => ?_) fuel L a w (Region.free_spec hi hf) (by simpa using hr) (.inl ⟨hw, hy⟩) (fun _ => hS) hm h
 ·exact chain_step (mem_ready.1 hir).1 hj _ hL
 ·simp only [chainOk, Bool.and_eq_true, Bool.not_eq_true'] at hL
  exact h0 hL.1.2
theorem late_pure {i : Nat} {oi : Oper} {v : Value} {a' : Act} {fuel : Nat} {L : Array Bool} {a : Act} {w : World} (hi : ops[i]? = some oi)
  (hs : Region.noSelect ops = true) (hf : Region.free md ops L i = true) (hr : (Region.ready md ops L).contains i = true) (his : (i == s) = false)
  (hQ : ∀ c a w, Q (.panic c) (a.put oi.dst v) w → Q (.panic c) a w) (hw : Region.wanted oi (yielded ops a.tmps) = true) (hS : L.getD s true = false → S w)
  (hy : ∀ w, (execOp a.eval oi).run P w = .ok (.value v) w) (ha : a.put oi.dst v = a')
  (h : wpAnyL P md ops Q S s fuel (L.setIfInBounds i true) a' w) : wpAnyL P md ops Q S s (fuel + 1) L a w := by
 subst ha
 exact late_first (T := fun _ => True) (J := fun _ => True) hi (Region.noSelect_spec hs) hQ (by simpa using his) (fun _ _ _ _ _ _ => trivial) (fun _ _ _ _ => trivial) fuel L a w (Region.free_spec hi hf) (by simpa using hr) (.inl ⟨hw, fun w _ => hy w⟩) hS trivial h
/-- late_pure with defaults (wip/squeeze.py) -/
theorem rgL (i : Nat) {oi : Oper} {v : Value} {a' : Act} {fuel : Nat} {L : Array Bool} {a : Act} {w : World} (hi : ops[i]? = some oi)
  (hQ : ∀ c a w, Q (.panic c) (a.put oi.dst v) w → Q (.panic c) a w) (hS : L.getD s true = false → S w)
  (h : wpAnyL P md ops Q S s fuel (L.setIfInBounds i true) a' w)
  (hs : Region.noSelect ops = true := by kernel_rfl) (hf : Region.free md ops L i = true := by kernel_rfl) (hr : (Region.ready md ops L).contains i = true := by kernel_rfl) (his : (i == s) = false := by rfl)
  (hy : ∀ w, (execOp a.eval oi).run P w = .ok (.value v) w := by intro w; go_simp; try with_reducible rfl) (ha : a.put oi.dst v = a' := by go_simp; try with_reducible rfl)
  (hw : Region.wanted oi (yielded ops a.tmps) = true := by rfl) : wpAnyL P md ops Q S s (fuel + 1) L a w :=
 late_pure hi hs hf hr his hQ hw hS hy ha h
/-- one operation alone may come up -/
theorem late_one {i : Nat} {o : Oper} {fuel : Nat} {L : Array Bool} {a : Act} {w : World} (hr : Region.ready md ops L = [i]) (ho : ops[i]? = some o)
  (h : ∀ K' : Act → World → Prop, (∀ a w, ((L.setIfInBounds i true).getD s true = false → S w) → wpAnyL P md ops Q S s fuel (L.setIfInBounds i true) a w → K' a w) → if Region.wanted o (yielded ops a.tmps) = true then Oper.wp P o a w K' Q else K' (a.put o.dst undef) w) :
  wpAnyL P md ops Q S s (fuel + 1) L a w :=
 ⟨fun h0 => (by rw [hr] at h0; cases h0), fun j hj => by
  rw [hr] at hj
  simp only [List.mem_cons, List.not_mem_nil, or_false] at hj
  subst hj
  exact wpOp_step ho fun K' hK => h K' fun a w h1 h2 => hK a w ⟨h1, h2⟩⟩
theorem late_done' {L : Array Bool} {a : Act} {w : World} (hr : Region.ready md ops L = []) (h : Q .normal a w) : ∀ fuel, wpAnyL P md ops Q S s fuel L a w
 | 0 => ⟨hr, h⟩
 | _ + 1 => ⟨fun _ => h, fun i hi => by rw [hr] at hi; cases hi⟩
theorem wp_region_late {id : Nat} {a : Act} {w : World} (hm : P.follows .mixedOrders = true)
  (h : wpAnyL P .any ops Q S s ops.size (Array.replicate ops.size false) a w.drew) : (Code.region id ops true).wp P Q a w :=
 wp_region_any hm (wpAny_of_late _ _ _ _ h)
/-- a step whose run is known -/
theorem step_run_append {o : Oper} {a : Act} {w w' : World} {K : Act → World → Prop} {E : Prop} (hgd : o.guard = none) (x y : Operand) {t t' : TypeId}
  (ho : o.op = .call { callee := .builtin .append, args := #[x, y], argTypes := #[t, t'] }) {v y' v' : Value} (hx : a.eval x = v) (hy : a.eval y = y')
  (hrun : (Builtin.append_ #[t, t'] o.type #[v, y']).run P w = .ok v' w') (h : K (a.put o.dst v') w') :
  if Region.wanted o (yielded ops a.tmps) = true then Oper.wp P o a w K Q else E := by
 have hw : Region.wanted o (yielded ops a.tmps) = true := by simp [Region.wanted, hgd]
 rw [if_pos hw]
 unfold Oper.wp execOp
 simp only [ho, resolve, invoke, builtin, Sem.run_bind, Sem.run_pure, Result.andThen_ok, List.map_toArray, List.map_cons, List.map_nil, hx, hy, hrun]
 exact h
end
end Go.Proofs.YtgmbkcjihgphmaaGreat
