/- Steps through a region that draws its order, under a class S of worlds: what reads memory is taken first where S fixes what it reads. -/
import Derived.Test.YtehminpiejophaaDoorMem
import Derived.OrdersHeld
import Derived.RegionTactic
import Derived.Deep.DrawnRows
set_option linter.unusedVariables false
namespace Go.Proofs.YtehminpiejophaaDoor
open Go.RowKit

section
variable {P : Program} {ops : Array Oper} {Q : Exit → Act → World → Prop} {md : Region.Mode} {S : World → Prop}

def AllHeld (P : Program) (md : Region.Mode) (ops : Array Oper) (Q : Exit → Act → World → Prop) (S : World → Prop) (fuel : Nat) (listed : Array Bool) (a : Act) (w : World) (rs : List Nat) : Prop :=
  ∀ i ∈ rs, wpOp P ops Q i (fun a' w' => S w' ∧ wpAnyH P md ops Q S fuel (listed.setIfInBounds i true) a' w') a w

theorem AllHeld.nil {fuel : Nat} {listed : Array Bool} {a : Act} {w : World} : AllHeld P md ops Q S fuel listed a w [] := fun _ h => by cases h

theorem AllHeld.cons {fuel : Nat} {listed : Array Bool} {a : Act} {w : World} {i : Nat} {o : Oper} {rs : List Nat} (ho : ops[i]? = some o)
    (h : ∀ K' : Act → World → Prop, (∀ a w, S w → wpAnyH P md ops Q S fuel (listed.setIfInBounds i true) a w → K' a w) → if Region.wanted o (yielded ops a.tmps) = true then Oper.wp P o a w K' Q else K' (a.put o.dst undef) w)
    (hs : AllHeld P md ops Q S fuel listed a w rs) : AllHeld P md ops Q S fuel listed a w (i :: rs) := fun j hj => by
  rcases List.mem_cons.1 hj with rfl | hj
  · exact wpOp_step ho fun K' hK => h K' fun a w h1 h2 => hK a w ⟨h1, h2⟩
  · exact hs j hj

theorem held_ready {rs : List Nat} {fuel : Nat} {listed : Array Bool} {a : Act} {w : World} (hr : Region.ready md ops listed = rs) (hne : rs ≠ [])
    (h : AllHeld P md ops Q S fuel listed a w rs) : wpAnyH P md ops Q S (fuel + 1) listed a w := wpAnyH_all hr hne h

/-- An operation whose guard says no. -/
theorem held_skip {i : Nat} {oi : Oper} {fuel : Nat} {listed : Array Bool} {a : Act} {w : World} (hi : ops[i]? = some oi)
    (hs : Region.noSelect ops = true) (hf : Region.free md ops listed i = true) (hr : (Region.ready md ops listed).contains i = true)
    (hQ : ∀ c a w, Q (.panic c) (a.put oi.dst undef) w → Q (.panic c) a w) (hw : Region.wanted oi (yielded ops a.tmps) = false) (hS : S w)
    (h : wpAnyH P md ops Q S fuel (listed.setIfInBounds i true) (a.put oi.dst undef) w) : wpAnyH P md ops Q S (fuel + 1) listed a w :=
  wpAnyH_take hi hs hf hr hQ (.inr ⟨hw, rfl⟩) hS h

/-- An operation that yields v in every world of the class; a' is the frame behind it, written out. -/
theorem held_take {i : Nat} {oi : Oper} {v : Value} {a' : Act} {fuel : Nat} {listed : Array Bool} {a : Act} {w : World} (hi : ops[i]? = some oi)
    (hs : Region.noSelect ops = true) (hf : Region.free md ops listed i = true) (hr : (Region.ready md ops listed).contains i = true)
    (hQ : ∀ c a w, Q (.panic c) (a.put oi.dst v) w → Q (.panic c) a w) (hw : Region.wanted oi (yielded ops a.tmps) = true) (hS : S w)
    (hy : ∀ w, S w → (execOp a.eval oi).run P w = .ok (.value v) w) (ha : a.put oi.dst v = a')
    (h : wpAnyH P md ops Q S fuel (listed.setIfInBounds i true) a' w) : wpAnyH P md ops Q S (fuel + 1) listed a w := by
  subst ha
  exact wpAnyH_take hi hs hf hr hQ (.inl ⟨hw, hy⟩) hS h
end

/-- the address of a cut 's[k:]' of capacity c, under one name: so that a walk does not part on it ('attribute [local go_sem ↓] cutA_eq') -/
def cutA (A : Option Addr) (c k : Nat) : Option Addr := if c = k then A else A.map (fun x => x.add k)
theorem cutA_eq (A : Option Addr) (c k : Nat) : (if c = k then A else Option.map (fun x => x.add k) A) = cutA A c k := rfl
theorem Sl.cut {w : World} {n k c : Nat} {A : Option Addr} {xs : List Value} (h : Sl w 1 A n xs) (hk : k ≤ n) (hc : n ≤ c) : Sl w 1 (cutA A c k) (n - k) (xs.drop k) := h.from1 hk hc

/-- A world that differs from another by draws alone. -/
def Same (w w' : World) : Prop := ∃ q, w.drewN q = w'
section
variable {w w' w'' : World}
theorem Same.refl (w : World) : Same w w := ⟨0, rfl⟩
theorem Same.trans (h : Same w w') (k : Same w' w'') : Same w w'' := by
  obtain ⟨a, rfl⟩ := h; obtain ⟨b, rfl⟩ := k; exact ⟨a + b, (World.drewN_drewN _ _ _).symm⟩
theorem Same.drew (h : Same w w') : Same w w'.drew := h.trans ⟨1, rfl⟩
theorem Same.drewN (h : Same w w') (n : Nat) : Same w (w'.drewN n) := h.trans ⟨n, rfl⟩
theorem Same.cell (h : Same w w') (p : Addr) : w'.cell? p = w.cell? p := by obtain ⟨a, rfl⟩ := h; rfl
theorem Same.frozen (h : Same w w') (p : Addr) : w'.frozen? p = w.frozen? p := by obtain ⟨a, rfl⟩ := h; rfl
theorem Same.size (h : Same w w') : w'.heap.size = w.heap.size := by obtain ⟨a, rfl⟩ := h; rfl
theorem Same.heap (h : Same w w') : w'.heap = w.heap := by obtain ⟨a, rfl⟩ := h; rfl
theorem Same.below (h : Same w w') (B : Nat) : Below B w w' := by
  obtain ⟨a, rfl⟩ := h
  have r := Below.refl B w
  exact ⟨r.os, r.tape, r.output, r.size, r.block⟩
theorem Same.sl {sz n : Nat} {A : Option Addr} {xs : List Value} (h : Same w w') (hs : Sl w sz A n xs) : Sl w' sz A n xs := hs.below (h.below _)
theorem Same.own {base : Nat} {e : TypeId} {sz : Nat} {v : Value} {n : Nat} {xs : List Value} (h : Same w w') (hs : w.ownsRow base e sz v n xs) : w'.ownsRow base e sz v n xs := by obtain ⟨a, rfl⟩ := h; exact hs
/-- A world that differs from another by draws and one cell alone. -/
def Off (w : World) (q : Addr) (w' : World) : Prop := ∀ p, p ≠ q → w'.cell? p = w.cell? p
theorem Same.off (h : Same w w') (q : Addr) : Off w q w' := fun p _ => h.cell p
theorem Same.offStore (h : Same w w') (q : Addr) (v : Value) : Off w q (w'.setCell q v) := fun p hp => (World.cell?_setCell_other _ _ _ _ (fun e => hp e.symm)).trans (h.cell p)
theorem addr_ne {b i j : Nat} (h : i ≠ j) : (⟨b, i, none⟩ : Addr) ≠ ⟨b, j, none⟩ := fun e => h (by injection e)
/-- a contract that reads alone, in a quiet region -/
theorem quiet_s {P : Program} {f : FuncId} {args : Array Value} {w : World} {n : Nat} {v : Value}
    (h : Calls P f args (w.drewN n) fun e w' => e = .returned v ∧ Same (w.drewN n) w') : Calls P f args (w.drewN n) fun e w'' => e = .returned v ∧ ∃ m, w'' = w.drewN m :=
  h.mono fun _ _ ⟨he, q, hm⟩ => ⟨he, n + q, by rw [← hm, World.drewN_drewN]⟩
theorem quiet_s2 {P : Program} {f : FuncId} {args : Array Value} {w : World} {a n : Nat} {v : Value}
    (h : Calls P f args (w.drewN (a + n)) fun e w' => e = .returned v ∧ Same (w.drewN (a + n)) w') : Calls P f args (w.drewN (a + n)) fun e w'' => e = .returned v ∧ ∃ m, w'' = w.drewN (a + m) :=
  h.mono fun _ _ ⟨he, q, hm⟩ => ⟨he, n + q, by rw [← hm, World.drewN_drewN, Nat.add_assoc]⟩
end
end Go.Proofs.YtehminpiejophaaDoor
