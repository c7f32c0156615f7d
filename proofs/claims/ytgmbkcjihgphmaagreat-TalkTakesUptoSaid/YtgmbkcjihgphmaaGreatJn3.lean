/- Contracts and laws for what the statement reaches, joined: Agg, ObjRise, Open, OpenRd, OpenAgg, OpenB, GrainVal, Blk. -/
import Derived.Test.YtgmbkcjihgphmaaGreatJn1
import Derived.Test.YtgmbkcjihgphmaaGreatJn2
import Derived.ChangeOld
import Derived.Deep.Fields
import Derived.Deep.Slices
import Derived.Deep.WholeRow
import Derived.JoinedCond
import Derived.Laws.CopyRow
import Derived.Laws.Cover2
import Derived.Lib.SmallJoins
import Derived.OpenShut
import Derived.ShutString
/- Structs and arrays loaded whole, at any place of a block. -/
set_option linter.unusedVariables false
namespace Go.Proofs.YtgmbkcjihgphmaaGreat
open Go.RowKit
section
variable {P : Program}
/-- the cells at an address -/
def At (w : World) (a : Addr) (cs : Array Value) : Prop := ∀ j u, cs[j]? = some u → w.cell? ⟨a.block, a.off + j, none⟩ = some u
theorem run_loadVar_at (w : World) (g off : Nat) (ty : TypeId) (cs : Array Value) (d : TypeDesc) (hg : At w ⟨g, off, none⟩ cs)
  (hu : P.underlying ty = some d) (hd : (match d with | .struct _ | .array _ _ => true | _ => false) = true) (hi : (P.info? ty).map (·.size) = some cs.size) :
  (loadVar ty ⟨g, off, none⟩).run P w = .ok (.agg cs) w := by
 have hl : (loadCells ⟨g, off, none⟩ cs.toList.length).run P w = .ok cs.toList.toArray w :=
  run_loadCells_list (P := P) w ⟨g, off, none⟩ cs.toList (fun j v hv => by
   rw [addr_add]
   exact hg j v (by simpa using hv))
 cases hq : P.info? ty with
 | none => simp [hq] at hi
 | some i =>
  have hs : i.size = cs.size := by simpa [hq] using hi
  have hagg : (isAgg ty).run P w = .ok true w := by
   unfold isAgg
   rw [Sem.run_bind, run_underlying hu w]
   cases d <;> simp_all
  simp only [Array.length_toList, Array.toArray_toList] at hl
  simp [loadVar, Sem.run_bind, hagg, sizeOf, typeInfo, hq, hs, hl]
theorem exec_load_at {o : Oper} {a : Act} {w : World} (ty : TypeId) (x : Operand) (ho : o.op = .load ty x)
  (g off : Nat) (hx : a.eval x = .pointer (some ⟨g, off, none⟩)) (cs : Array Value) (d : TypeDesc) (hg : At w ⟨g, off, none⟩ cs)
  (hu : P.underlying ty = some d) (hd : (match d with | .struct _ | .array _ _ => true | _ => false) = true) (hi : (P.info? ty).map (·.size) = some cs.size) :
  (execOp a.eval o).run P w = .ok (.value (.agg cs)) w := by
 unfold execOp
 simp only [ho, hx, Instr.loadAt, Instr.sureAddr, Sem.run_bind, Sem.run_pure, Result.andThen_ok, run_loadVar_at w g off ty cs d hg hu hd hi]
theorem wpList_load_at {ops : Array Oper} {rest : List Oper} {o : Oper} {a : Act} {w : World} {Q : Exit → Act → World → Prop} (hgd : o.guard = none) (ty : TypeId) (x : Operand) (ho : o.op = .load ty x)
  (g off : Nat) (hx : a.eval x = .pointer (some ⟨g, off, none⟩)) (cs : Array Value) (d : TypeDesc) (hg : At w ⟨g, off, none⟩ cs)
  (hu : P.underlying ty = some d) (hd : (match d with | .struct _ | .array _ _ => true | _ => false) = true) (hi : (P.info? ty).map (·.size) = some cs.size)
  (h : wpList P ops Q rest (a.put o.dst (.agg cs)) w) : wpList P ops Q (o :: rest) a w :=
 wpList_plain hgd fun _ hK => by
  unfold Oper.wp
  rw [exec_load_at ty x ho g off hx cs d hg hu hd hi]
  exact hK _ _ h
/-- An operation whose guard says no, taken first; a' is the frame behind it, written out. -/
theorem held_no {ops : Array Oper} {Q : Exit → Act → World → Prop} {md : Region.Mode} {S : World → Prop} {i : Nat} {oi : Oper} {a' : Act} {fuel : Nat} {listed : Array Bool} {a : Act} {w : World} (hi : ops[i]? = some oi)
  (hs : Region.noSelect ops = true) (hf : Region.free md ops listed i = true) (hr : (Region.ready md ops listed).contains i = true)
  (hQ : ∀ c a w, Q (.panic c) (a.put oi.dst undef) w → Q (.panic c) a w) (hw : Region.wanted oi (yielded ops a.tmps) = false) (hS : S w) (ha : a.put oi.dst undef = a')
  (h : wpAnyH P md ops Q S fuel (listed.setIfInBounds i true) a' w) : wpAnyH P md ops Q S (fuel + 1) listed a w := by
 subst ha
 exact held_skip hi hs hf hr hQ hw hS h
theorem At.of_row {w : World} {g : Nat} {t : TypeId} {cs : Array Value} (h : w.heap[g]? = some (.cells cs t (0, 0))) : At w ⟨g, 0, none⟩ cs := fun j u hu => by
 show w.cell? ⟨g, 0 + j, none⟩ = _
 rw [Nat.zero_add, cell_of_row w g j cs t (0, 0) h]; exact hu
theorem At.below {w w' : World} {B : Nat} {a : Addr} {cs : Array Value} (h : At w a cs) (hb : Below B w w') (hlt : a.block < B) : At w' a cs := fun j u hu => (hb.cell (p := ⟨a.block, a.off + j, none⟩) hlt).trans (h j u hu)
end
/-- an element of a slice, as the cells at its address -/
theorem SlOf.at {α : Type} {r : Rd α} {w : World} {av : Av} {A : Option Addr} {l : List α} {n i : Nat} (h : SlOf r w av A l) (hl : l.length = n) (hi : i < n) :
  ∃ b off cs x, A = some ⟨b, off, none⟩ ∧ b < w.heap.size ∧ l[i]? = some x ∧ r.R w av cs x ∧ At w ⟨b, off + i * r.k, none⟩ cs.toArray := by
 obtain ⟨b, off, cs, x, e, hb, hx, hr, hc, _⟩ := h.look hl hi
 exact ⟨b, off, cs, x, e, hb, hx, hr, fun j u hu => by
  show w.cell? ⟨b, off + i * r.k + j, none⟩ = _
  rw [Nat.add_assoc]
  exact hc j u (by simpa using hu)⟩
end Go.Proofs.YtgmbkcjihgphmaaGreat
/- slices.Compare of bytes; do ids rise? -/
set_option linter.unusedSimpArgs false
namespace Go.Proofs.YtgmbkcjihgphmaaGreat
open Go.RowKit
def cmpI (a b : Nat) : Int := if a < b then -1 else if b < a then 1 else 0
theorem isNaN_any (a : Int) (w : World) : Calls Tryz.prog 101 #[.int .u8 a] w fun e w' => e = .returned (.bool false) ∧ w' = w := by
 go_enter Tryz.func101, Tryz.ntmps101
 go_wp2_with fail
 go_ret
 exact ⟨rfl, rfl⟩
theorem cmpByte_any (a b : Nat) (w : World) : Calls Tryz.prog 90 #[.int .u8 (a : Int), .int .u8 (b : Int)] w fun e w' => e = .returned (.int .i64 (cmpI a b)) ∧ w' = w := by
 by_cases h1 : a < b
 ·have a1 : (a : Int) < (b : Int) := by omega
  have hk := Lib.hid (show cmpI a b = -1 by simp [cmpI, h1])
  clear h1
  go_enter Tryz.func90, Tryz.ntmps90
  go_wp2_with fail
  refine (isNaN_any _ _).mono ?_
  rintro e w' ⟨rfl, rfl⟩
  go_wp2_with fail
  refine (isNaN_any _ _).mono ?_
  rintro e w' ⟨rfl, rfl⟩
  go_wp2_with fail
  go_ret
  exact ⟨by rw [hk.out]; rfl, rfl⟩
 ·by_cases h2 : b < a
  ·have a1 : ¬ (a : Int) < (b : Int) := by omega
   have a2 : (b : Int) < (a : Int) := by omega
   have hk := Lib.hid (show cmpI a b = 1 by simp [cmpI, h1, h2])
   clear h1 h2
   go_enter Tryz.func90, Tryz.ntmps90
   go_wp2_with fail
   refine (isNaN_any _ _).mono ?_
   rintro e w' ⟨rfl, rfl⟩
   go_wp2_with fail
   refine (isNaN_any _ _).mono ?_
   rintro e w' ⟨rfl, rfl⟩
   go_wp2_with fail
   go_ret
   exact ⟨by rw [hk.out]; rfl, rfl⟩
  ·have a1 : ¬ (a : Int) < (b : Int) := by omega
   have a2 : ¬ (b : Int) < (a : Int) := by omega
   have hk := Lib.hid (show cmpI a b = 0 by simp [cmpI, h1, h2])
   clear h1 h2
   go_enter Tryz.func90, Tryz.ntmps90
   go_wp2_with fail
   refine (isNaN_any _ _).mono ?_
   rintro e w' ⟨rfl, rfl⟩
   go_wp2_with fail
   refine (isNaN_any _ _).mono ?_
   rintro e w' ⟨rfl, rfl⟩
   go_wp2_with fail
   go_ret
   exact ⟨by rw [hk.out]; rfl, rfl⟩
theorem less_cons (a b : UInt8) (x y : List UInt8) : Op.bytesLess (a :: x) (b :: y) = if a.toNat < b.toNat then true else if b.toNat < a.toNat then false else Op.bytesLess x y := by
 have e1 : (a < b) = (a.toNat < b.toNat) := propext UInt8.lt_iff_toNat_lt
 have e2 : (a = b) = (a.toNat = b.toNat) := by rw [UInt8.toNat_inj]
 have e0 : Op.bytesLess (a :: x) (b :: y) = (decide (a < b) || (a == b && Op.bytesLess x y)) := by rw [Op.bytesLess]
 rw [e0]
 generalize Op.bytesLess x y = r
 rw [Bool.eq_iff_iff]
 by_cases h1 : a.toNat < b.toNat
 ·simp [e1, h1]
 ·by_cases h2 : b.toNat < a.toNat
  ·have h3 : ¬ a.toNat = b.toNat := by omega
   simp [e1, e2, h1, h2, h3]
  ·have h3 : a.toNat = b.toNat := by omega
   simp [e1, e2, h3]
set_option maxRecDepth 100000 in
set_option maxHeartbeats 2000000 in
theorem compare_any (A : Option Addr) (n c : Nat) (x : List UInt8) (B : Option Addr) (m d : Nat) (y : List UInt8) (w : World) (hx : Sl w 1 A n (bytesV x)) (hy : Sl w 1 B m (bytesV y)) (hn : n ≤ 1000000000) (hm : m ≤ 1000000000) :
  Calls Tryz.prog 65 #[.slice A n c, .slice B m d] w fun e w' => ∃ k : Int, e = .returned (.int .i64 k) ∧ decide (k < 0) = Op.bytesLess x y ∧ w' = w := by
 have HX := Lib.hid hx
 have HY := Lib.hid hy
 have HLX := Lib.hid (show x.length = n by have := hx.1; simpa [bytesV_length] using this)
 have HLY := Lib.hid (show y.length = m by have := hy.1; simpa [bytesV_length] using this)
 obtain ⟨G, hG⟩ : ∃ G, G = Op.bytesLess x y := ⟨_, rfl⟩
 have HG := Lib.hid hG
 rw [← hG]
 clear hG hx hy
 go_enter Tryz.func65, Tryz.ntmps65
 go_wp2_with fail
 go_loopw [11] (fun s11 wr => ∃ i : Nat, i ≤ n ∧ i ≤ m ∧ s11 = .int .i64 (i : Int) ∧ wr = w ∧ Hid (G = Op.bytesLess (x.drop i) (y.drop i))) (fun s11 wr => n - (intOf s11).toNat)
 case atStart => exact ⟨0, by omega, by omega, rfl, rfl, Lib.hid (by simpa using HG.out)⟩
 case round =>
  obtain ⟨i, hin, him, rfl, rfl, HR⟩ := hrel
  by_cases hi : i < n
  ·have hiI : (i : Int) < (n : Int) := by omega
   obtain ⟨bx, ox, u, rfl, hbx, hcx, hdx⟩ := bytesV_look HX.out hi
   have hu := u8_lt u
   by_cases him2 : i < m
   ·have himI : ¬ (m : Int) ≤ (i : Int) := by omega
    have himI2 : (i : Int) < (m : Int) := by omega
    obtain ⟨by', oy, v, rfl, hby, hcy, hdy⟩ := bytesV_look HY.out him2
    have hv := u8_lt v
    have hr := HR.out
    rw [hdx, hdy, less_cons] at hr
    have HRR := Lib.hid hr
    clear hr hdx hdy HR
    go_wp2_with fail
    refine (cmpByte_any u.toNat v.toNat _).mono ?_
    rintro e w' ⟨rfl, rfl⟩
    by_cases h1 : u.toNat < v.toNat
    ·have hk : cmpI u.toNat v.toNat = -1 := by simp [cmpI, h1]
     have hg := Lib.hid (show G = true by rw [HRR.out, if_pos h1])
     rw [hk]
     clear hk h1 hcx hcy
     go_wp2_with fail
     go_ret
     exact ⟨-1, rfl, by rw [hg.out]; rfl, rfl⟩
    ·by_cases h2 : v.toNat < u.toNat
     ·have hk : cmpI u.toNat v.toNat = 1 := by simp [cmpI, h1, h2]
      have hg := Lib.hid (show G = false by rw [HRR.out, if_neg h1, if_pos h2])
      rw [hk]
      clear hk h1 h2 hcx hcy
      go_wp2_with fail
      go_ret
      exact ⟨1, rfl, by rw [hg.out]; rfl, rfl⟩
     ·have hk : cmpI u.toNat v.toNat = 0 := by simp [cmpI, h1, h2]
      have hg := Lib.hid (show G = Op.bytesLess (x.drop (i + 1)) (y.drop (i + 1)) by rw [HRR.out, if_neg h1, if_neg h2])
      rw [hk]
      clear hk h1 h2 hcx hcy
      go_wp2_with fail
      go_roundw
      case rel => exact ⟨i + 1, by omega, by omega, by go_num, by first | trivial | rfl, hg⟩
      case measure => simp [intOf]; omega
   ·have himI : (m : Int) ≤ (i : Int) := by omega
    have hg := Lib.hid (show G = false by
     rw [HR.out, List.drop_of_length_le (l := y) (by rw [HLY.out]; omega)]
     cases x.drop i <;> rfl)
    clear hdx
    go_wp2_with fail
    go_ret
    exact ⟨1, rfl, by rw [hg.out]; rfl, rfl⟩
  ·have hiI : ¬ (i : Int) < (n : Int) := by omega
   have hr := HR.out
   rw [List.drop_of_length_le (l := x) (by rw [HLX.out]; omega)] at hr
   by_cases hnm : n < m
   ·have hI : (n : Int) < (m : Int) := by omega
    have hg := Lib.hid (show G = true by
     rw [hr]
     cases hy : y.drop i with
     | nil => have := congrArg List.length hy; simp at this; have := HLY.out; omega
     | cons a b => rfl)
    clear hr
    go_wp2_with fail
    go_ret
    exact ⟨-1, rfl, by rw [hg.out]; rfl, rfl⟩
   ·have hI : ¬ (n : Int) < (m : Int) := by omega
    have hg := Lib.hid (show G = false by
     rw [hr, List.drop_of_length_le (l := y) (by rw [HLY.out]; omega)]; rfl)
    clear hr
    go_wp2_with fail
    go_ret
    exact ⟨0, rfl, by rw [hg.out]; rfl, rfl⟩
end Go.Proofs.YtgmbkcjihgphmaaGreat
/- How an argument of a law is opened: what came in, in the words of Mem; and how much of the bulk it is. -/
namespace Go.Proofs.YtgmbkcjihgphmaaGreat
open Go.ChangeShapes Go.WideShapes Go.ChangeAt Go.RowKit
open Go.ChangeMaps (open_string shut_string)
theorem own_knob : ownKnob Tryz.prog.godebug = none := by kernel_rfl
theorem laid_out : laidOutB Tryz.prog = true := by kernel_rfl
/-! ### the bulk -/
theorem bulk_one {H : Type} (d : DataW H) : 1 ≤ Rows.uptoBulk d := by
 cases d with
 | lit l => cases l <;> simp [Rows.uptoBulk]
 | nil => simp [Rows.uptoBulk]
 | ptr d => simp [Rows.uptoBulk]
 | slice elems spare => simp [Rows.uptoBulk]
 | agg parts => simp [Rows.uptoBulk]
 | iface t d => simp [Rows.uptoBulk]
 | map entries => simp [Rows.uptoBulk]
 | held h => simp [Rows.uptoBulk]
theorem bulk_all {H : Type} {l : List (DataW H)} (hk : Rows.uptoSmall H l = true) : Rows.uptoBulkAll l ≤ 1048576 := of_decide_eq_true hk
/-! ### bytes -/
theorem byte_of_wf {z : Int} (h : (Lit.int .u8 z).wf = true) : ∃ b : UInt8, z = (b.toNat : Int) := by
 have := bounds_u8 h
 exact ⟨UInt8.ofNat z.toNat, by rw [UInt8.toNat_ofNat']; omega⟩
section
variable {H : Type} {enc : TypeId × Value → H} {P : Program} {W : World} {spare : Nat → Bool} {held : Bool}
end
end Go.Proofs.YtgmbkcjihgphmaaGreat
/- How an argument of any shape is opened: as the reading that its type has. -/
namespace Go.Proofs.YtgmbkcjihgphmaaGreat
open Go.ChangeShapes Go.WideShapes Go.ChangeAt Go.RowKit Go.Deep
open Go.ChangeMaps (open_string shut_string)
/-- Cells of type t that were let in read as an x by r, of bulk at most the datum's. -/
def Opens (P : Program) (t : TypeId) {α : Type} (r : Rd α) (bulk : α → Nat) : Prop :=
 r.k = P.cellsOf t ∧ ∀ {H : Type} (enc : TypeId × Value → H) (W : World) (spare : Nat → Bool) (held : Bool) (fuel : Nat) (cs : List Value) (y : DataW H × List MemPlace),
  DataW.trod enc P W 0 spare held fuel t cs = some y → ∃ x, r.R W no cs x ∧ bulk x ≤ Rows.uptoBulk y.1
section
variable {P : Program} {t : TypeId}
theorem opens_int {kd : IntKind} (ht : P.underlying t = some (.int kd)) (hk : P.cellsOf t = 1) : Opens P t (intR kd) (fun _ => 1) := by
 refine ⟨hk.symm, fun enc W spare held fuel cs y h => ?_⟩
 obtain ⟨z, rfl, rfl, hw⟩ := DataW.trod_int ht h
 exact ⟨z, ⟨rfl, hw⟩, bulk_one _⟩
theorem opens_byte (ht : P.underlying t = some (.int .u8)) (hk : P.cellsOf t = 1) : Opens P t byteR (fun _ => 1) := by
 refine ⟨hk.symm, fun enc W spare held fuel cs y h => ?_⟩
 obtain ⟨z, rfl, rfl, hw⟩ := DataW.trod_int ht h
 obtain ⟨b, rfl⟩ := byte_of_wf hw
 exact ⟨b, rfl, bulk_one _⟩
theorem opens_bool (ht : P.underlying t = some .bool) (hk : P.cellsOf t = 1) : Opens P t boolR (fun _ => 1) := by
 refine ⟨hk.symm, fun enc W spare held fuel cs y h => ?_⟩
 obtain ⟨z, rfl, rfl⟩ := DataW.trod_bool ht h
 exact ⟨z, rfl, bulk_one _⟩
/-- the bulk of a list -/
def bulkL {α : Type} (b : α → Nat) : List α → Nat
 | [] => 0
 | x :: r => b x + bulkL b r
/-- a choice of readings, one by one, put together -/
theorem each_of {α : Type} {r : Rd α} {b : α → Nat} {W : World} {H : Type} : ∀ (n : Nat) (cs : Nat → List Value) (D : Nat → DataW H),
  (∀ i, i < n → ∃ x, r.R W no (cs i) x ∧ b x ≤ Rows.uptoBulk (D i)) →
  ∃ l : List α, l.length = n ∧ Each (r.R W no) ((List.range n).flatMap cs) l ∧ bulkL b l ≤ Rows.uptoBulkAll ((List.range n).map D)
 | 0, cs, D, _ => ⟨[], rfl, by simp; exact .nil, by simp [bulkL]⟩
 | n + 1, cs, D, h => by
  obtain ⟨x, hx, hb⟩ := h 0 (by omega)
  obtain ⟨l, hl, he, hbl⟩ := each_of n (fun i => cs (i + 1)) (fun i => D (i + 1)) (fun i hi => h (i + 1) (by omega))
  refine ⟨x :: l, by simp [hl], ?_, ?_⟩
  ·rw [List.range_succ_eq_map, List.flatMap_cons, List.flatMap_map]
   exact .cons hx he
  ·rw [List.range_succ_eq_map, List.map_cons, List.map_map]
   simp only [bulkL, Rows.uptoBulkAll]
   exact Nat.add_le_add hb hbl
theorem opens_slice {e : TypeId} {α : Type} {r : Rd α} {b : α → Nat} (ht : P.underlying t = some (.slice e)) (hk : P.cellsOf t = 1) (hpos : 0 < r.k) (he : Opens P e r b) : Opens P t (slR r) (fun l => bulkL b l + 1) := by
 refine ⟨hk.symm, fun enc W spare held fuel cs y h => ?_⟩
 rcases Go.Deep.open_slice ht h with ⟨rfl, rfl⟩ | ⟨a, len, cap, m, n, D, Pl, rfl, _, hlc, hcm, hm, rfl, hel⟩
 ·exact ⟨[], ⟨none, 0, rfl, Nat.le_refl _, Nat.zero_le _, SlOf.nil⟩, by simp [bulkL, Rows.uptoBulk]⟩
 ·have hlm : len ≤ m := by rw [hm]; split <;> omega
  have hchoose : ∀ i, ∃ c : List Value, i < len → (W.cells? 0 (a.add (i * P.cellsOf e)) (P.cellsOf e) = some c ∧ DataW.trod enc P W 0 spare held n e c = some (D i, Pl i)) := fun i => by
   by_cases hi : i < len
   ·obtain ⟨c, h1, h2⟩ := hel i (by omega)
    exact ⟨c, fun _ => ⟨h1, h2⟩⟩
   ·exact ⟨[], fun h => absurd h hi⟩
  let cs : Nat → List Value := fun i => (hchoose i).choose
  have hcs : ∀ i, i < len → (W.cells? 0 (a.add (i * P.cellsOf e)) (P.cellsOf e) = some (cs i) ∧ DataW.trod enc P W 0 spare held n e (cs i) = some (D i, Pl i)) := fun i hi => (hchoose i).choose_spec hi
  clear_value cs
  obtain ⟨l, hl, hE, hB⟩ := each_of (r := r) (b := b) (W := W) len cs D (fun i hi => he.2 enc W spare held n (cs i) _ (hcs i hi).2)
  refine ⟨l, ⟨some a, cap, by rw [hl], by omega, hcm, (List.range len).flatMap cs, ?_, hE, fun _ _ _ _ h => h⟩, ?_⟩
  ·have hlen := hE.length (fun _ _ => r.len)
   refine ⟨hlen, fun h0 => ?_⟩
   rw [hl] at h0
   have key : ∀ i j, i < len → j < r.k → ∃ u, W.cell? (a.add (i * r.k + j)) = some u ∧ (cs i)[j]? = some u := fun i j hi hj => by
    obtain ⟨h1, _⟩ := hcs i hi
    rw [← he.1] at h1
    obtain ⟨_, h2, h3⟩ := World.cells?_some h1
    have h4 := h3 j hj
    rw [Go.Deep.add_add] at h4
    exact ⟨(cs i)[j]'(by omega), by rw [h4]; exact List.getElem?_eq_getElem (by omega), List.getElem?_eq_getElem (by omega)⟩
   obtain ⟨u0, h1, _⟩ := key 0 0 h0 hpos
   simp only [Nat.zero_mul, Nat.zero_add] at h1
   obtain ⟨bl, off, spot⟩ := a
   have hspot : spot = none := by simpa [Addr.add] using World.cell?_spot h1
   subst hspot
   have hbl : bl < W.heap.size := by
    have := World.block_lt_of_cell? _ _ h1
    rwa [addr_add] at this
   refine ⟨bl, off, rfl, hbl, fun j u hu => ?_⟩
   have hj := (List.getElem?_eq_some_iff.1 hu).1
   rw [hlen, hl] at hj
   have hd : j / r.k < len := by rw [Nat.div_lt_iff_lt_mul hpos]; exact hj
   have hmod := Nat.mod_lt j hpos
   obtain ⟨v, hv, hcv⟩ := key (j / r.k) (j % r.k) hd hmod
   have hj2 : j / r.k * r.k + j % r.k = j := by rw [Nat.mul_comm]; exact Nat.div_add_mod j r.k
   rw [hj2, addr_add] at hv
   rw [hv, ← hu]
   have hflat : ∀ (m : Nat) (f : Nat → List Value), (∀ i, i < m → (f i).length = r.k) → ∀ i q, i < m → q < r.k → ((List.range m).flatMap f)[i * r.k + q]? = (f i)[q]? := by
    intro m
    induction m with
    | zero => intro f _ i q hi; omega
    | succ m ih =>
     intro f hf i q hi hq
     rw [List.range_succ_eq_map, List.flatMap_cons, List.flatMap_map]
     cases i with
     | zero => rw [Nat.zero_mul, Nat.zero_add, List.getElem?_append_left (by rw [hf 0 (by omega)]; exact hq)]
     | succ i =>
      rw [List.getElem?_append_right (by rw [hf 0 (by omega), Nat.add_mul]; omega), hf 0 (by omega), show (i + 1) * r.k + q - r.k = i * r.k + q from by rw [Nat.add_mul]; omega]
      exact ih (fun i => f (i + 1)) (fun i hi => hf (i + 1) (by omega)) i q (by omega) hq
   have hlens : ∀ i, i < len → (cs i).length = r.k := fun i hi => by
    have h1 := (hcs i hi).1
    rw [← he.1] at h1
    exact (World.cells?_some h1).2.1
   rw [← hcv]
   have := hflat len cs hlens (j / r.k) (j % r.k) hd hmod
   rw [hj2] at this
   exact this.symm
  ·simp only [Rows.uptoBulk]
   omega
/-- Fields one after another, from the offset off on. -/
def OpensFs (P : Program) (fs : List Field) (off : Nat) {α : Type} (r : Rd α) (bulk : α → Nat) : Prop :=
 ∀ {H : Type} (enc : TypeId × Value → H) (W : World) (spare : Nat → Bool) (held : Bool) (n : Nat) (cs : List Value) (ys : List (DataW H × List MemPlace)),
  cs.length = r.k → ys.length = fs.length → (∀ (i : Nat) (f : Field), fs[i]? = some f → DataW.trod enc P W 0 spare held n f.type ((cs.drop (f.offset - off)).take (P.cellsOf f.type)) = ys[i]?) →
  ∃ x, r.R W no cs x ∧ bulk x ≤ Rows.uptoBulkAll (ys.map (·.1))
theorem opensFs_one {f : Field} {α : Type} {r : Rd α} {b : α → Nat} (ho : Opens P f.type r b) : OpensFs P [f] f.offset r b := by
 intro H enc W spare held n cs ys hl hy h
 match ys, hy with
 | [y], _ =>
  have h0 := h 0 f rfl
  rw [Nat.sub_self, List.drop_zero, List.take_of_length_le (by rw [hl, ho.1]; exact Nat.le_refl _)] at h0
  obtain ⟨x, h1, h2⟩ := ho.2 enc W spare held n cs y h0
  exact ⟨x, h1, by simp only [List.map_cons, List.map_nil, Rows.uptoBulkAll]; omega⟩
theorem opensFs_cons {f : Field} {fs : List Field} {off : Nat} {α β : Type} {r : Rd α} {s : Rd β} {b : α → Nat} {c : β → Nat} (ho : Opens P f.type r b) (hf : OpensFs P fs off s c)
  (hoff : off = f.offset + r.k) (hmono : fs.all (fun g => decide (off ≤ g.offset)) = true) : OpensFs P (f :: fs) f.offset (prodR r s) (fun x => b x.1 + c x.2) := by
 intro H enc W spare held n cs ys hl hy h
 match ys, hy with
 | y :: ys, hy =>
  have hl' : cs.length = r.k + s.k := hl
  have h0 := h 0 f rfl
  rw [Nat.sub_self, List.drop_zero, ← ho.1] at h0
  obtain ⟨x, h1, h2⟩ := ho.2 enc W spare held n _ y h0
  obtain ⟨z, h3, h4⟩ := hf enc W spare held n (cs.drop r.k) ys (by rw [List.length_drop]; omega) (by simpa using hy) (fun i g hg => by
   have := h (i + 1) g hg
   have hge : off ≤ g.offset := by
    have := List.all_eq_true.1 hmono g (List.mem_of_getElem? hg)
    simpa using this
   rw [List.drop_drop, show r.k + (g.offset - off) = g.offset - f.offset from by omega]
   simpa using this)
  refine ⟨(x, z), ⟨cs.take r.k, cs.drop r.k, (List.take_append_drop _ _).symm, h1, h3⟩, ?_⟩
  simp only [List.map_cons, Rows.uptoBulkAll]
  omega
theorem opens_struct {fs : Array Field} {α : Type} {r : Rd α} {b : α → Nat} (ht : P.underlying t = some (.struct fs)) (hk : r.k = P.cellsOf t) (hf : OpensFs P fs.toList 0 r b) : Opens P t r (fun x => b x + 1) := by
 refine ⟨hk, fun enc W spare held fuel cs y h => ?_⟩
 obtain ⟨ys, n, _, rfl, hl, hyl, hi⟩ := DataW.trod_struct ht h
 obtain ⟨x, h1, h2⟩ := hf enc W spare held n cs ys (by rw [hl, hk]) (by rw [hyl]; simp) (fun i f hfi => by
  have := hi i f (by simpa using hfi)
  rw [Nat.sub_zero]; exact this)
 exact ⟨x, h1, by simp only [Rows.uptoBulk]; omega⟩
end
/-- An argument of one cell that came in. -/
theorem open_rd {H : Type} {enc : TypeId × Value → H} {P : Program} {W : World} {spare : Nat → Bool} {held : Bool} {t : TypeId} {v : Value} {d : DataW H} {p : List MemPlace} {α : Type} {r : Rd α} {b : α → Nat}
  (ho : Opens P t r b) (h : DataW.Trod enc P W 0 spare held t v d p) : ∃ x, r.R W no v.cells.toList x ∧ b x ≤ Rows.uptoBulk d := by
 obtain ⟨fuel, hf⟩ := h
 exact ho.2 enc W spare held fuel _ _ hf
theorem open_slice_rd {H : Type} {enc : TypeId × Value → H} {P : Program} {W : World} {spare : Nat → Bool} {held : Bool} {rc : Reach} {base : Nat} {t e : TypeId} {v : Value} {d : DataW H} {p : List MemPlace} {α : Type} {r : Rd α} {b : List α → Nat}
  (ht : P.underlying t = some (.slice e)) (hv : Value.okWide P W rc base t v) (ho : Opens P t (slR r) b) (h : DataW.Trod enc P W 0 spare held t v d p) :
  ∃ A c l, v = .slice A l.length c ∧ l.length ≤ c ∧ c ≤ maxLen ∧ SlOf r W no A l ∧ b l ≤ Rows.uptoBulk d := by
 obtain ⟨A, n, c, rfl⟩ := okWide_slice ht hv
 obtain ⟨l, ⟨A', c', e1, h1, h2, h3⟩, h4⟩ := open_rd ho h
 simp [Value.cells] at e1
 obtain ⟨rfl, rfl, rfl⟩ := e1
 exact ⟨_, _, l, rfl, h1, h2, h3, h4⟩
end Go.Proofs.YtgmbkcjihgphmaaGreat
/- How a struct or an array by value is opened: as the reading that its type has. -/
namespace Go.Proofs.YtgmbkcjihgphmaaGreat
open Go.ChangeShapes Go.WideShapes Go.ChangeAt Go.RowKit Go.Deep
/-- A struct or an array by value. -/
def isAgg : Option TypeDesc → Bool
 | some (.struct _) | some (.array _ _) => true
 | _ => false
end Go.Proofs.YtgmbkcjihgphmaaGreat
/- How an argument of a type that holds itself is opened: the readings of XOpenRd, for so much fuel. -/
namespace Go.Proofs.YtgmbkcjihgphmaaGreat
open Go.ChangeShapes Go.WideShapes Go.ChangeAt Go.RowKit Go.Deep
open Go.ChangeMaps (open_string shut_string)
section
variable {P : Program} {t : TypeId} {F : Nat}
end
end Go.Proofs.YtgmbkcjihgphmaaGreat
/- api.Value in memory: how it reads, and how one is opened that came in. -/
namespace Go.Proofs.YtgmbkcjihgphmaaGreat
open Go.ChangeShapes Go.WideShapes Go.ChangeAt Go.RowKit Go.Deep
/-- the reading, so deep -/
def valRR : Nat → World → Av → List Value → Val → Prop
 | 0, _, _, _, _ => False
 | d + 1, w, av, cs, .mk k u b f l => ∃ A cA L cL, cs = [.int .i64 k, .int .u64 (u : Int), .slice A b.length cA, .float .f64 f, .slice L l.length cL] ∧ (Lit.int .i64 k).wf = true ∧ u < 2 ^ 64 ∧ f < 2 ^ 64 ∧
   (b.length ≤ cA ∧ cA ≤ maxLen ∧ SlOf byteR w av A b) ∧ l.length ≤ cL ∧ cL ≤ maxLen ∧
   ∃ vs, Sl w 5 L l.length vs ∧ Each (valRR d w av) vs l ∧ (0 < l.length → ∀ b off, L = some ⟨b, off, none⟩ → ¬ av b)
theorem valRR_len {d : Nat} {w : World} {av : Av} {cs : List Value} {v : Val} (h : valRR d w av cs v) : cs.length = 5 := by
 cases d with
 | zero => exact absurd h id
 | succ d => cases v; obtain ⟨A, cA, L, cL, rfl, _⟩ := h; rfl
theorem valRR_one {d : Nat} {w : World} {av : Av} {cs : List Value} {v : Val} (h : valRR d w av cs v) : ∀ u ∈ cs, u.oneCell' = true := by
 cases d with
 | zero => exact absurd h id
 | succ d =>
  cases v; obtain ⟨A, cA, L, cL, rfl, _⟩ := h
  intro u hu
  simp at hu
  rcases hu with rfl | rfl | rfl | rfl | rfl <;> rfl
theorem valRR_stable : ∀ (d : Nat) {w w' : World} {av av' : Av} {cs : List Value} {v : Val}, valRR d w av cs v → Moves w w' av av' → valRR d w' av' cs v
 | 0, _, _, _, _, _, _, h, _ => h
 | d + 1, w, w', av, av', cs, .mk k u b f l, h, m => by
  obtain ⟨A, cA, L, cL, rfl, h1, h2, h3, ⟨h4, h5, h6⟩, h7, h8, h9⟩ := h
  have r : SlOf ⟨5, valRR d, valRR_len, valRR_one, fun h m => valRR_stable d h m⟩ w av L l := h9
  exact ⟨A, cA, L, cL, rfl, h1, h2, h3, ⟨h4, h5, h6.stable m⟩, h7, h8, r.stable m⟩
theorem valRR_mono : ∀ (d : Nat) {w : World} {av : Av} {cs : List Value} {v : Val}, valRR d w av cs v → valRR (d + 1) w av cs v
 | 0, _, _, _, _, h => absurd h id
 | d + 1, w, av, cs, .mk k u b f l, h => by
  obtain ⟨A, cA, L, cL, rfl, h1, h2, h3, h4, h7, h8, vs, h9, h10, h11⟩ := h
  exact ⟨A, cA, L, cL, rfl, h1, h2, h3, h4, h7, h8, vs, h9, h10.mono fun _ _ h => valRR_mono d h, h11⟩
theorem valRR_le {d e : Nat} (hde : d ≤ e) {w : World} {av : Av} {cs : List Value} {v : Val} (h : valRR d w av cs v) : valRR e w av cs v := by
 induction hde with
 | refl => exact h
 | step _ ih => exact valRR_mono _ ih
/-- a value -/
def valR : Rd Val where
 k := 5
 R := fun w av cs v => ∃ d, valRR d w av cs v
 len := fun ⟨_, h⟩ => valRR_len h
 one := fun ⟨_, h⟩ => valRR_one h
 stable := fun ⟨d, h⟩ m => ⟨d, valRR_stable d h m⟩
theorem each_depth {w : World} {av : Av} {vs : List Value} {l : List Val} (h : Each (valR.R w av) vs l) : ∃ d, Each (valRR d w av) vs l := by
 induction h with
 | nil => exact ⟨0, .nil⟩
 | cons h1 _ ih =>
  obtain ⟨d1, h1⟩ := h1
  obtain ⟨d2, h2⟩ := ih
  exact ⟨max d1 d2, .cons (valRR_le (Nat.le_max_left _ _) h1) (h2.mono fun _ _ h => valRR_le (Nat.le_max_right _ _) h)⟩
theorem valR_iff {w : World} {av : Av} {cs : List Value} {k : Int} {u : Nat} {b : List UInt8} {f : Nat} {l : List Val} : valR.R w av cs (.mk k u b f l) ↔
  ∃ A cA L cL, cs = [.int .i64 k, .int .u64 (u : Int), .slice A b.length cA, .float .f64 f, .slice L l.length cL] ∧ (Lit.int .i64 k).wf = true ∧ u < 2 ^ 64 ∧ f < 2 ^ 64 ∧
   (b.length ≤ cA ∧ cA ≤ maxLen ∧ SlOf byteR w av A b) ∧ l.length ≤ cL ∧ cL ≤ maxLen ∧ SlOf valR w av L l := by
 constructor
 ·rintro ⟨d, h⟩
  cases d with
  | zero => exact absurd h id
  | succ d =>
   obtain ⟨A, cA, L, cL, rfl, h1, h2, h3, h4, h7, h8, vs, h9, h10, h11⟩ := h
   exact ⟨A, cA, L, cL, rfl, h1, h2, h3, h4, h7, h8, vs, h9, h10.mono fun _ _ h => ⟨d, h⟩, h11⟩
 ·rintro ⟨A, cA, L, cL, rfl, h1, h2, h3, h4, h7, h8, vs, h9, h10, h11⟩
  obtain ⟨d, h10⟩ := each_depth h10
  exact ⟨d + 1, A, cA, L, cL, rfl, h1, h2, h3, h4, h7, h8, vs, h9, h10, h11⟩
/-! ### bulk -/
mutual
def bulkV : Val → Nat
 | .mk _ _ b _ l => b.length + bulkVs l + 1
def bulkVs : List Val → Nat
 | [] => 0
 | v :: r => bulkV v + bulkVs r
end
theorem bulkVs_eq : ∀ l, bulkVs l = bulkL bulkV l
 | [] => by simp [bulkVs, bulkL]
 | v :: r => by simp [bulkVs, bulkL, bulkVs_eq r]
theorem bulkVs_mem : ∀ {l : List Val} {x : Val}, x ∈ l → bulkV x ≤ bulkVs l
 | [], x, h => by cases h
 | v :: r, x, h => by
  rw [bulkVs]
  rcases List.mem_cons.1 h with rfl | h
  ·omega
  ·have := bulkVs_mem h; omega
theorem bulkVs_len : ∀ (l : List Val), l.length ≤ bulkVs l
 | [] => by simp
 | v :: r => by
  have := bulkVs_len r
  have hv : 1 ≤ bulkV v := by cases v; simp only [bulkV]; omega
  rw [bulkVs, List.length_cons]; omega
/-! ### opening -/
def fltR : Rd Nat where
 k := 1
 R := fun _ _ cs n => cs = [.float .f64 n] ∧ n < 2 ^ 64
 len := fun h => by obtain ⟨rfl, _⟩ := h; rfl
 one := fun h u hu => by obtain ⟨rfl, _⟩ := h; simp at hu; subst hu; rfl
 stable := fun h _ => h
section
variable {P : Program} {t : TypeId}
end
end Go.Proofs.YtgmbkcjihgphmaaGreat
/- A block of the heap, whole. -/
namespace Go.Proofs.YtgmbkcjihgphmaaGreat
open Go.RowKit
/-- a block of cells -/
def Blk (w : World) (g : Nat) (t : TypeId) (cs : Array Value) : Prop := w.heap[g]? = some (.cells cs t (0, 0))
section
variable {w w' : World} {g : Nat} {t : TypeId} {cs : Array Value}
theorem Blk.lt (h : Blk w g t cs) : g < w.heap.size := by
 unfold Blk at h
 exact (Array.getElem?_eq_some_iff.1 h).1
theorem Blk.cell (h : Blk w g t cs) (i : Nat) : w.cell? ⟨g, i, none⟩ = cs[i]? := cell_of_row w g i cs t (0, 0) h
theorem Blk.frozen (h : Blk w g t cs) (i : Nat) : w.frozen? ⟨g, i, none⟩ = false := frozen_of_row w g i cs t h
theorem Blk.new (w : World) (t : TypeId) (cs : Array Value) : Blk (w.alloc (.cells cs t)) w.heap.size t cs := heap_alloc_new w _
theorem Blk.same (h : Blk w g t cs) (hs : Same w w') : Blk w' g t cs := by unfold Blk; rw [hs.heap]; exact h
theorem Blk.alloc (h : Blk w g t cs) (o : Obj) : Blk (w.alloc o) g t cs := (Below.heap_alloc w o g h.lt).trans h
theorem Blk.below {B : Nat} (h : Blk w g t cs) (hb : Below B w w') (hg : g < B) : Blk w' g t cs := (hb.block g hg).trans h
theorem Blk.set_ (h : Blk w g t cs) (i : Nat) (u : Value) : Blk (w.setCell ⟨g, i, none⟩ u) g t (cs.setIfInBounds i u) := heap_setCell_same w g i cs t u h
theorem Blk.other (h : Blk w g t cs) {g' : Nat} (hne : g ≠ g') (i : Nat) (u : Value) : Blk (w.setCell ⟨g', i, none⟩ u) g t cs := (heap_setCell_other w ⟨g', i, none⟩ g u hne).trans h
theorem Blk.grown {row : Option Nat} (h : Blk w g t cs) (hb : w.grownBy w' row) (hg : some g ≠ row) : Blk w' g t cs := (hb.block g h.lt hg).trans h
end
theorem grown_set (w : World) (b i : Nat) (v : Value) : w.grownBy (w.setCell ⟨b, i, none⟩ v) (some b) :=
 ⟨rfl, rfl, rfl, ((Below.refl 0 w).setCell (p := ⟨b, i, none⟩) (Nat.zero_le _) v).size, fun k hk hne => Below.heap_setCell w ⟨b, i, none⟩ v k (fun e => hne (congrArg some e))⟩
end Go.Proofs.YtgmbkcjihgphmaaGreat
