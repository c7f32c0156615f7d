/- Contracts and laws for what the statement reaches, joined: ObjRise, Open, OpenRd, OpenAgg, OpenB, GrainVal, Blk. -/
import Derived.Test.YtgmbkcjihgphmaaJn1
import Derived.Test.YtgmbkcjihgphmaaJn2
import Derived.Test.YtgmbkcjihgphmaaJn3
import Derived.ChangeOld
import Derived.Deep.Fields
import Derived.Deep.Slices
import Derived.Deep.WholeRow
import Derived.JoinedCond
import Derived.Laws.CopyRow
import Derived.Laws.Cover2
import Derived.Lib.SmallJoins
import Derived.OpenShut
import Derived.ShutString
/- slices.Compare of bytes; do ids rise? -/
set_option linter.unusedVariables false
set_option linter.unusedSimpArgs false
namespace Go.Proofs.Ytgmbkcjihgphmaa
open Go.RowKit

def cmpI (a b : Nat) : Int := if a < b then -1 else if b < a then 1 else 0

theorem isNaN_any (a : Int) (w : World) : Calls Try.prog 73 #[.int .u8 a] w fun e w' => e = .returned (.bool false) ∧ w' = w := by
  go_enter Try.func73, Try.ntmps73
  go_wp2_with fail
  go_ret
  exact ⟨rfl, rfl⟩
theorem cmpByte_any (a b : Nat) (w : World) : Calls Try.prog 65 #[.int .u8 (a : Int), .int .u8 (b : Int)] w fun e w' => e = .returned (.int .i64 (cmpI a b)) ∧ w' = w := by
  by_cases h1 : a < b
  · have a1 : (a : Int) < (b : Int) := by omega
    have hk := Lib.hid (show cmpI a b = -1 by simp [cmpI, h1])
    clear h1
    go_enter Try.func65, Try.ntmps65
    go_wp2_with fail
    refine (isNaN_any _ _).mono ?_
    rintro e w' ⟨rfl, rfl⟩
    go_wp2_with fail
    refine (isNaN_any _ _).mono ?_
    rintro e w' ⟨rfl, rfl⟩
    go_wp2_with fail
    go_ret
    exact ⟨by rw [hk.out]; rfl, rfl⟩
  · by_cases h2 : b < a
    · have a1 : ¬ (a : Int) < (b : Int) := by omega
      have a2 : (b : Int) < (a : Int) := by omega
      have hk := Lib.hid (show cmpI a b = 1 by simp [cmpI, h1, h2])
      clear h1 h2
      go_enter Try.func65, Try.ntmps65
      go_wp2_with fail
      refine (isNaN_any _ _).mono ?_
      rintro e w' ⟨rfl, rfl⟩
      go_wp2_with fail
      refine (isNaN_any _ _).mono ?_
      rintro e w' ⟨rfl, rfl⟩
      go_wp2_with fail
      go_ret
      exact ⟨by rw [hk.out]; rfl, rfl⟩
    · have a1 : ¬ (a : Int) < (b : Int) := by omega
      have a2 : ¬ (b : Int) < (a : Int) := by omega
      have hk := Lib.hid (show cmpI a b = 0 by simp [cmpI, h1, h2])
      clear h1 h2
      go_enter Try.func65, Try.ntmps65
      go_wp2_with fail
      refine (isNaN_any _ _).mono ?_
      rintro e w' ⟨rfl, rfl⟩
      go_wp2_with fail
      refine (isNaN_any _ _).mono ?_
      rintro e w' ⟨rfl, rfl⟩
      go_wp2_with fail
      go_ret
      exact ⟨by rw [hk.out]; rfl, rfl⟩

theorem less_cons (a b : UInt8) (x y : List UInt8) : Op.bytesLess (a :: x) (b :: y) = if a.toNat < b.toNat then true else if b.toNat < a.toNat then false else Op.bytesLess x y := by
  have e1 : (a < b) = (a.toNat < b.toNat) := propext UInt8.lt_iff_toNat_lt
  have e2 : (a = b) = (a.toNat = b.toNat) := by rw [UInt8.toNat_inj]
  have e0 : Op.bytesLess (a :: x) (b :: y) = (decide (a < b) || (a == b && Op.bytesLess x y)) := by rw [Op.bytesLess]
  rw [e0]
  generalize Op.bytesLess x y = r
  rw [Bool.eq_iff_iff]
  by_cases h1 : a.toNat < b.toNat
  · simp [e1, h1]
  · by_cases h2 : b.toNat < a.toNat
    · have h3 : ¬ a.toNat = b.toNat := by omega
      simp [e1, e2, h1, h2, h3]
    · have h3 : a.toNat = b.toNat := by omega
      simp [e1, e2, h3]

set_option maxRecDepth 100000 in
set_option maxHeartbeats 2000000 in
theorem compare_any (A : Option Addr) (n c : Nat) (x : List UInt8) (B : Option Addr) (m d : Nat) (y : List UInt8) (w : World) (hx : Sl w 1 A n (bytesV x)) (hy : Sl w 1 B m (bytesV y)) (hn : n ≤ 1000000000) (hm : m ≤ 1000000000) :
    Calls Try.prog 50 #[.slice A n c, .slice B m d] w fun e w' => ∃ k : Int, e = .returned (.int .i64 k) ∧ decide (k < 0) = Op.bytesLess x y ∧ w' = w := by
  have HX := Lib.hid hx
  have HY := Lib.hid hy
  have HLX := Lib.hid (show x.length = n by have := hx.1; simpa [bytesV_length] using this)
  have HLY := Lib.hid (show y.length = m by have := hy.1; simpa [bytesV_length] using this)
  obtain ⟨G, hG⟩ : ∃ G, G = Op.bytesLess x y := ⟨_, rfl⟩
  have HG := Lib.hid hG
  rw [← hG]
  clear hG hx hy
  go_enter Try.func50, Try.ntmps50
  go_wp2_with fail
  go_loopw [11] (fun s11 wr => ∃ i : Nat, i ≤ n ∧ i ≤ m ∧ s11 = .int .i64 (i : Int) ∧ wr = w ∧ Hid (G = Op.bytesLess (x.drop i) (y.drop i))) (fun s11 wr => n - (intOf s11).toNat)
  case atStart => exact ⟨0, by omega, by omega, rfl, rfl, Lib.hid (by simpa using HG.out)⟩
  case round =>
    obtain ⟨i, hin, him, rfl, rfl, HR⟩ := hrel
    by_cases hi : i < n
    · have hiI : (i : Int) < (n : Int) := by omega
      obtain ⟨bx, ox, u, rfl, hbx, hcx, hdx⟩ := bytesV_look HX.out hi
      have hu := u8_lt u
      by_cases him2 : i < m
      · have himI : ¬ (m : Int) ≤ (i : Int) := by omega
        have himI2 : (i : Int) < (m : Int) := by omega
        obtain ⟨by', oy, v, rfl, hby, hcy, hdy⟩ := bytesV_look HY.out him2
        have hv := u8_lt v
        have hr := HR.out
        rw [hdx, hdy, less_cons] at hr
        have HRR := Lib.hid hr
        clear hr hdx hdy HR
        go_wp2_with fail
        refine (cmpByte_any u.toNat v.toNat _).mono ?_
        rintro e w' ⟨rfl, rfl⟩
        by_cases h1 : u.toNat < v.toNat
        · have hk : cmpI u.toNat v.toNat = -1 := by simp [cmpI, h1]
          have hg := Lib.hid (show G = true by rw [HRR.out, if_pos h1])
          rw [hk]
          clear hk h1 hcx hcy
          go_wp2_with fail
          go_ret
          exact ⟨-1, rfl, by rw [hg.out]; rfl, rfl⟩
        · by_cases h2 : v.toNat < u.toNat
          · have hk : cmpI u.toNat v.toNat = 1 := by simp [cmpI, h1, h2]
            have hg := Lib.hid (show G = false by rw [HRR.out, if_neg h1, if_pos h2])
            rw [hk]
            clear hk h1 h2 hcx hcy
            go_wp2_with fail
            go_ret
            exact ⟨1, rfl, by rw [hg.out]; rfl, rfl⟩
          · have hk : cmpI u.toNat v.toNat = 0 := by simp [cmpI, h1, h2]
            have hg := Lib.hid (show G = Op.bytesLess (x.drop (i + 1)) (y.drop (i + 1)) by rw [HRR.out, if_neg h1, if_neg h2])
            rw [hk]
            clear hk h1 h2 hcx hcy
            go_wp2_with fail
            go_roundw
            case rel => exact ⟨i + 1, by omega, by omega, by go_num, by first | trivial | rfl, hg⟩
            case measure => simp [intOf]; omega
      · have himI : (m : Int) ≤ (i : Int) := by omega
        have hg := Lib.hid (show G = false by
          rw [HR.out, List.drop_of_length_le (l := y) (by rw [HLY.out]; omega)]
          cases x.drop i <;> rfl)
        clear hdx
        go_wp2_with fail
        go_ret
        exact ⟨1, rfl, by rw [hg.out]; rfl, rfl⟩
    · have hiI : ¬ (i : Int) < (n : Int) := by omega
      have hr := HR.out
      rw [List.drop_of_length_le (l := x) (by rw [HLX.out]; omega)] at hr
      by_cases hnm : n < m
      · have hI : (n : Int) < (m : Int) := by omega
        have hg := Lib.hid (show G = true by
          rw [hr]
          cases hy : y.drop i with
          | nil => have := congrArg List.length hy; simp at this; have := HLY.out; omega
          | cons a b => rfl)
        clear hr
        go_wp2_with fail
        go_ret
        exact ⟨-1, rfl, by rw [hg.out]; rfl, rfl⟩
      · have hI : ¬ (n : Int) < (m : Int) := by omega
        have hg := Lib.hid (show G = false by
          rw [hr, List.drop_of_length_le (l := y) (by rw [HLY.out]; omega)]; rfl)
        clear hr
        go_wp2_with fail
        go_ret
        exact ⟨0, rfl, by rw [hg.out]; rfl, rfl⟩
end Go.Proofs.Ytgmbkcjihgphmaa

/- How an argument of a law is opened: what came in, in the words of Mem; and how much of the bulk it is. -/
namespace Go.Proofs.Ytgmbkcjihgphmaa
open Go.ChangeShapes Go.WideShapes Go.ChangeAt Go.RowKit
open Go.ChangeMaps (open_string shut_string)

theorem own_knob : ownKnob Try.prog.godebug = none := by kernel_rfl
theorem laid_out : laidOutB Try.prog = true := by kernel_rfl

/-! ### the bulk -/
theorem bulk_one {H : Type} (d : DataW H) : 1 ≤ Rows.uptoBulk d := by
  cases d with
  | lit l => cases l <;> simp [Rows.uptoBulk]
  | nil => simp [Rows.uptoBulk]
  | ptr d => simp [Rows.uptoBulk]
  | slice elems spare => simp [Rows.uptoBulk]
  | agg parts => simp [Rows.uptoBulk]
  | iface t d => simp [Rows.uptoBulk]
  | map entries => simp [Rows.uptoBulk]
  | held h => simp [Rows.uptoBulk]

theorem bulk_length {H : Type} (l : List (DataW H)) : l.length ≤ Rows.uptoBulkAll l := by
  induction l with
  | nil => simp [Rows.uptoBulkAll]
  | cons x r ih => have := bulk_one x; simp only [Rows.uptoBulkAll, List.length_cons]; omega

theorem bulk_slice {H : Type} (elems spare : List (DataW H)) : elems.length + spare.length + 1 ≤ Rows.uptoBulk (.slice elems spare) := by
  have h1 := bulk_length elems
  have h2 := bulk_length spare
  simp only [Rows.uptoBulk]
  omega

theorem bulk_string {H : Type} (s : ByteArray) : Rows.uptoBulk (DataW.lit (H := H) (.string s.data.toList)) = s.size + 1 := by
  simp only [Rows.uptoBulk]
  rw [Array.length_toList]
  rfl

theorem bulk_all {H : Type} {l : List (DataW H)} (hk : Rows.uptoSmall H l = true) : Rows.uptoBulkAll l ≤ 1048576 := of_decide_eq_true hk

/-! ### bytes -/
theorem byte_of_wf {z : Int} (h : (Lit.int .u8 z).wf = true) : ∃ b : UInt8, z = (b.toNat : Int) := by
  have := bounds_u8 h
  exact ⟨UInt8.ofNat z.toNat, by rw [UInt8.toNat_ofNat']; omega⟩

theorem bytes_of_wf {zs : List Int} (h : ∀ n ∈ zs, (Lit.int .u8 n).wf = true) : ∃ l : List UInt8, zs = l.map fun b => (b.toNat : Int) := by
  induction zs with
  | nil => exact ⟨[], rfl⟩
  | cons z zs ih =>
    obtain ⟨b, hb⟩ := byte_of_wf (h z List.mem_cons_self)
    obtain ⟨l, hl⟩ := ih fun n hn => h n (List.mem_cons_of_mem _ hn)
    exact ⟨b :: l, by rw [List.map_cons, ← hb, ← hl]⟩

section
variable {H : Type} {enc : TypeId × Value → H} {P : Program} {W : World} {spare : Nat → Bool} {held : Bool}

/-- A slice of bytes that came in. -/
theorem open_bytes {r : Reach} {base t e : TypeId} {v : Value} {d : DataW H} {p : List MemPlace} (ht : P.underlying t = some (.slice e)) (he : P.underlying e = some (.int .u8)) (hC : P.cellsOf e = 1)
    (hv : Value.okWide P W r base t v) (h : DataW.Trod enc P W 0 spare held t v d p) :
    ∃ (A : Option Addr) (n c : Nat) (l : List UInt8), v = .slice A n c ∧ Sl W 1 A n (l.map fun b => .int .u8 (b.toNat : Int)) ∧ n ≤ c ∧ c ≤ maxLen ∧ n + 1 ≤ Rows.uptoBulk d := by
  obtain ⟨A, n, c, rfl⟩ := okWide_slice ht hv
  obtain ⟨fuel, hf⟩ := h
  rcases open_ints ht he hC hf with ⟨hcs, _⟩ | ⟨x, l, c', zs, hcs, _, hl, hm, hz, hx, hcell, hwz⟩
  · simp [Value.cells] at hcs
    obtain ⟨rfl, rfl, rfl⟩ := hcs
    exact ⟨none, 0, 0, [], rfl, Sl.nil, Nat.le_refl _, by simp [maxLen], by have := bulk_one d; omega⟩
  · simp [Value.cells] at hcs
    obtain ⟨rfl, rfl, rfl⟩ := hcs
    obtain ⟨zl, rfl⟩ := bytes_of_wf hwz
    simp only [Prod.mk.injEq] at hx
    have hlen : n ≤ zl.length := by
      rw [List.length_map] at hz
      split at hz <;> omega
    refine ⟨some x, n, c, zl.take n, rfl, ⟨by simp; omega, fun hn => ?_⟩, hl, hm, ?_⟩
    · have h0 := hcell 0 (by rw [List.length_map]; omega)
      obtain ⟨b, off, spot⟩ := x
      have hspot : spot = none := by simpa [Addr.add] using World.cell?_spot h0
      subst hspot
      refine ⟨b, off, rfl, ?_, fun j u hu => ?_⟩
      · have := World.block_lt_of_cell? _ _ h0
        rwa [addr_add] at this
      · have hj : j < (zl.take n).length := by
          have := (List.getElem?_eq_some_iff.1 hu).1
          rwa [List.length_map] at this
        have hj' : j < zl.length := by rw [List.length_take] at hj; omega
        have hcj := hcell j (by rw [List.length_map]; exact hj')
        rw [addr_add] at hcj
        rw [hcj]
        have e1 : (zl.map fun (b : UInt8) => (b.toNat : Int)).getD j 0 = (zl[j].toNat : Int) := by simp [List.getD, hj']
        have e2 : ((zl.take n).map fun (b : UInt8) => Value.int .u8 (b.toNat : Int))[j]? = some (.int .u8 (zl[j].toNat : Int)) := by
          rw [List.getElem?_map, List.getElem?_eq_getElem hj, List.getElem_take]; rfl
        rw [e1, ← hu, e2]
    · rw [hx.1]
      have hb := bulk_slice (H := H) (lits .u8 ((zl.map fun (b : UInt8) => (b.toNat : Int)).take n)) (lits .u8 ((zl.map fun (b : UInt8) => (b.toNat : Int)).drop n))
      simp only [lits, List.length_map, List.length_take, List.length_drop] at hb
      simp only [lits] 
      omega
end
end Go.Proofs.Ytgmbkcjihgphmaa

/- How an argument of any shape is opened: as the reading that its type has. -/
set_option linter.unusedVariables false
namespace Go.Proofs.Ytgmbkcjihgphmaa
open Go.ChangeShapes Go.WideShapes Go.ChangeAt Go.RowKit Go.Deep
open Go.ChangeMaps (open_string shut_string)

/-- Cells of type t that were let in read as an x by r, of bulk at most the datum's. -/
def Opens (P : Program) (t : TypeId) {α : Type} (r : Rd α) (bulk : α → Nat) : Prop :=
  r.k = P.cellsOf t ∧ ∀ {H : Type} (enc : TypeId × Value → H) (W : World) (spare : Nat → Bool) (held : Bool) (fuel : Nat) (cs : List Value) (y : DataW H × List MemPlace),
    DataW.trod enc P W 0 spare held fuel t cs = some y → ∃ x, r.R W no cs x ∧ bulk x ≤ Rows.uptoBulk y.1

section
variable {P : Program} {t : TypeId}
theorem opens_str (ht : P.underlying t = some .string) (hk : P.cellsOf t = 1) : Opens P t strR (fun s => s.size + 1) := by
  refine ⟨hk.symm, fun enc W spare held fuel cs y h => ?_⟩
  obtain ⟨s, rfl, rfl, _⟩ := DataW.trod_string ht h
  exact ⟨s, rfl, by rw [bulk_string]; exact Nat.le_refl _⟩
theorem opens_int {kd : IntKind} (ht : P.underlying t = some (.int kd)) (hk : P.cellsOf t = 1) : Opens P t (intR kd) (fun _ => 1) := by
  refine ⟨hk.symm, fun enc W spare held fuel cs y h => ?_⟩
  obtain ⟨z, rfl, rfl, hw⟩ := DataW.trod_int ht h
  exact ⟨z, ⟨rfl, hw⟩, bulk_one _⟩
theorem opens_byte (ht : P.underlying t = some (.int .u8)) (hk : P.cellsOf t = 1) : Opens P t byteR (fun _ => 1) := by
  refine ⟨hk.symm, fun enc W spare held fuel cs y h => ?_⟩
  obtain ⟨z, rfl, rfl, hw⟩ := DataW.trod_int ht h
  obtain ⟨b, rfl⟩ := byte_of_wf hw
  exact ⟨b, rfl, bulk_one _⟩
theorem opens_bool (ht : P.underlying t = some .bool) (hk : P.cellsOf t = 1) : Opens P t boolR (fun _ => 1) := by
  refine ⟨hk.symm, fun enc W spare held fuel cs y h => ?_⟩
  obtain ⟨z, rfl, rfl⟩ := DataW.trod_bool ht h
  exact ⟨z, rfl, bulk_one _⟩

/-- the bulk of a list -/
def bulkL {α : Type} (b : α → Nat) : List α → Nat
  | [] => 0
  | x :: r => b x + bulkL b r

/-- a choice of readings, one by one, put together -/
theorem each_of {α : Type} {r : Rd α} {b : α → Nat} {W : World} {H : Type} : ∀ (n : Nat) (cs : Nat → List Value) (D : Nat → DataW H),
    (∀ i, i < n → ∃ x, r.R W no (cs i) x ∧ b x ≤ Rows.uptoBulk (D i)) →
    ∃ l : List α, l.length = n ∧ Each (r.R W no) ((List.range n).flatMap cs) l ∧ bulkL b l ≤ Rows.uptoBulkAll ((List.range n).map D)
  | 0, cs, D, _ => ⟨[], rfl, by simp; exact .nil, by simp [bulkL]⟩
  | n + 1, cs, D, h => by
    obtain ⟨x, hx, hb⟩ := h 0 (by omega)
    obtain ⟨l, hl, he, hbl⟩ := each_of n (fun i => cs (i + 1)) (fun i => D (i + 1)) (fun i hi => h (i + 1) (by omega))
    refine ⟨x :: l, by simp [hl], ?_, ?_⟩
    · rw [List.range_succ_eq_map, List.flatMap_cons, List.flatMap_map]
      exact .cons hx he
    · rw [List.range_succ_eq_map, List.map_cons, List.map_map]
      simp only [bulkL, Rows.uptoBulkAll]
      exact Nat.add_le_add hb hbl

theorem opens_slice {e : TypeId} {α : Type} {r : Rd α} {b : α → Nat} (ht : P.underlying t = some (.slice e)) (hk : P.cellsOf t = 1) (hpos : 0 < r.k) (he : Opens P e r b) : Opens P t (slR r) (fun l => bulkL b l + 1) := by
  refine ⟨hk.symm, fun enc W spare held fuel cs y h => ?_⟩
  rcases Go.Deep.open_slice ht h with ⟨rfl, rfl⟩ | ⟨a, len, cap, m, n, D, Pl, rfl, _, hlc, hcm, hm, rfl, hel⟩
  · exact ⟨[], ⟨none, 0, rfl, Nat.le_refl _, Nat.zero_le _, SlOf.nil⟩, by simp [bulkL, Rows.uptoBulk]⟩
  · have hlm : len ≤ m := by rw [hm]; split <;> omega
    have hchoose : ∀ i, ∃ c : List Value, i < len → (W.cells? 0 (a.add (i * P.cellsOf e)) (P.cellsOf e) = some c ∧ DataW.trod enc P W 0 spare held n e c = some (D i, Pl i)) := fun i => by
      by_cases hi : i < len
      · obtain ⟨c, h1, h2⟩ := hel i (by omega)
        exact ⟨c, fun _ => ⟨h1, h2⟩⟩
      · exact ⟨[], fun h => absurd h hi⟩
    let cs : Nat → List Value := fun i => (hchoose i).choose
    have hcs : ∀ i, i < len → (W.cells? 0 (a.add (i * P.cellsOf e)) (P.cellsOf e) = some (cs i) ∧ DataW.trod enc P W 0 spare held n e (cs i) = some (D i, Pl i)) := fun i hi => (hchoose i).choose_spec hi
    clear_value cs
    obtain ⟨l, hl, hE, hB⟩ := each_of (r := r) (b := b) (W := W) len cs D (fun i hi => he.2 enc W spare held n (cs i) _ (hcs i hi).2)
    refine ⟨l, ⟨some a, cap, by rw [hl], by omega, hcm, (List.range len).flatMap cs, ?_, hE, fun _ _ _ _ h => h⟩, ?_⟩
    · have hlen := hE.length (fun _ _ => r.len)
      refine ⟨hlen, fun h0 => ?_⟩
      rw [hl] at h0
      have key : ∀ i j, i < len → j < r.k → ∃ u, W.cell? (a.add (i * r.k + j)) = some u ∧ (cs i)[j]? = some u := fun i j hi hj => by
        obtain ⟨h1, _⟩ := hcs i hi
        rw [← he.1] at h1
        obtain ⟨_, h2, h3⟩ := World.cells?_some h1
        have h4 := h3 j hj
        rw [Go.Deep.add_add] at h4
        exact ⟨(cs i)[j]'(by omega), by rw [h4]; exact List.getElem?_eq_getElem (by omega), List.getElem?_eq_getElem (by omega)⟩
      obtain ⟨u0, h1, _⟩ := key 0 0 h0 hpos
      simp only [Nat.zero_mul, Nat.zero_add] at h1
      obtain ⟨bl, off, spot⟩ := a
      have hspot : spot = none := by simpa [Addr.add] using World.cell?_spot h1
      subst hspot
      have hbl : bl < W.heap.size := by
        have := World.block_lt_of_cell? _ _ h1
        rwa [addr_add] at this
      refine ⟨bl, off, rfl, hbl, fun j u hu => ?_⟩
      have hj := (List.getElem?_eq_some_iff.1 hu).1
      rw [hlen, hl] at hj
      have hd : j / r.k < len := by rw [Nat.div_lt_iff_lt_mul hpos]; exact hj
      have hmod := Nat.mod_lt j hpos
      obtain ⟨v, hv, hcv⟩ := key (j / r.k) (j % r.k) hd hmod
      have hj2 : j / r.k * r.k + j % r.k = j := by rw [Nat.mul_comm]; exact Nat.div_add_mod j r.k
      rw [hj2, addr_add] at hv
      rw [hv, ← hu]
      have hflat : ∀ (m : Nat) (f : Nat → List Value), (∀ i, i < m → (f i).length = r.k) → ∀ i q, i < m → q < r.k → ((List.range m).flatMap f)[i * r.k + q]? = (f i)[q]? := by
        intro m
        induction m with
        | zero => intro f _ i q hi; omega
        | succ m ih =>
          intro f hf i q hi hq
          rw [List.range_succ_eq_map, List.flatMap_cons, List.flatMap_map]
          cases i with
          | zero => rw [Nat.zero_mul, Nat.zero_add, List.getElem?_append_left (by rw [hf 0 (by omega)]; exact hq)]
          | succ i =>
            rw [List.getElem?_append_right (by rw [hf 0 (by omega), Nat.add_mul]; omega), hf 0 (by omega), show (i + 1) * r.k + q - r.k = i * r.k + q from by rw [Nat.add_mul]; omega]
            exact ih (fun i => f (i + 1)) (fun i hi => hf (i + 1) (by omega)) i q (by omega) hq
      have hlens : ∀ i, i < len → (cs i).length = r.k := fun i hi => by
        have h1 := (hcs i hi).1
        rw [← he.1] at h1
        exact (World.cells?_some h1).2.1
      rw [← hcv]
      have := hflat len cs hlens (j / r.k) (j % r.k) hd hmod
      rw [hj2] at this
      exact this.symm
    · simp only [Rows.uptoBulk]
      omega

/-- Fields one after another, from the offset off on. -/
def OpensFs (P : Program) (fs : List Field) (off : Nat) {α : Type} (r : Rd α) (bulk : α → Nat) : Prop :=
  ∀ {H : Type} (enc : TypeId × Value → H) (W : World) (spare : Nat → Bool) (held : Bool) (n : Nat) (cs : List Value) (ys : List (DataW H × List MemPlace)),
    cs.length = r.k → ys.length = fs.length → (∀ (i : Nat) (f : Field), fs[i]? = some f → DataW.trod enc P W 0 spare held n f.type ((cs.drop (f.offset - off)).take (P.cellsOf f.type)) = ys[i]?) →
    ∃ x, r.R W no cs x ∧ bulk x ≤ Rows.uptoBulkAll (ys.map (·.1))

theorem opensFs_one {f : Field} {α : Type} {r : Rd α} {b : α → Nat} (ho : Opens P f.type r b) : OpensFs P [f] f.offset r b := by
  intro H enc W spare held n cs ys hl hy h
  match ys, hy with
  | [y], _ =>
    have h0 := h 0 f rfl
    rw [Nat.sub_self, List.drop_zero, List.take_of_length_le (by rw [hl, ho.1]; exact Nat.le_refl _)] at h0
    obtain ⟨x, h1, h2⟩ := ho.2 enc W spare held n cs y h0
    exact ⟨x, h1, by simp only [List.map_cons, List.map_nil, Rows.uptoBulkAll]; omega⟩

theorem opensFs_cons {f : Field} {fs : List Field} {off : Nat} {α β : Type} {r : Rd α} {s : Rd β} {b : α → Nat} {c : β → Nat} (ho : Opens P f.type r b) (hf : OpensFs P fs off s c)
    (hoff : off = f.offset + r.k) (hmono : fs.all (fun g => decide (off ≤ g.offset)) = true) : OpensFs P (f :: fs) f.offset (prodR r s) (fun x => b x.1 + c x.2) := by
  intro H enc W spare held n cs ys hl hy h
  match ys, hy with
  | y :: ys, hy =>
    have hl' : cs.length = r.k + s.k := hl
    have h0 := h 0 f rfl
    rw [Nat.sub_self, List.drop_zero, ← ho.1] at h0
    obtain ⟨x, h1, h2⟩ := ho.2 enc W spare held n _ y h0
    obtain ⟨z, h3, h4⟩ := hf enc W spare held n (cs.drop r.k) ys (by rw [List.length_drop]; omega) (by simpa using hy) (fun i g hg => by
      have := h (i + 1) g hg
      have hge : off ≤ g.offset := by
        have := List.all_eq_true.1 hmono g (List.mem_of_getElem? hg)
        simpa using this
      rw [List.drop_drop, show r.k + (g.offset - off) = g.offset - f.offset from by omega]
      simpa using this)
    refine ⟨(x, z), ⟨cs.take r.k, cs.drop r.k, (List.take_append_drop _ _).symm, h1, h3⟩, ?_⟩
    simp only [List.map_cons, Rows.uptoBulkAll]
    omega

theorem opens_struct {fs : Array Field} {α : Type} {r : Rd α} {b : α → Nat} (ht : P.underlying t = some (.struct fs)) (hk : r.k = P.cellsOf t) (hf : OpensFs P fs.toList 0 r b) : Opens P t r (fun x => b x + 1) := by
  refine ⟨hk, fun enc W spare held fuel cs y h => ?_⟩
  obtain ⟨ys, n, _, rfl, hl, hyl, hi⟩ := DataW.trod_struct ht h
  obtain ⟨x, h1, h2⟩ := hf enc W spare held n cs ys (by rw [hl, hk]) (by rw [hyl]; simp) (fun i f hfi => by
    have := hi i f (by simpa using hfi)
    rw [Nat.sub_zero]; exact this)
  exact ⟨x, h1, by simp only [Rows.uptoBulk]; omega⟩

theorem opens_array {e : TypeId} {m : Nat} {α : Type} {r : Rd α} {b : α → Nat} (ht : P.underlying t = some (.array m e)) (hk : m * r.k = P.cellsOf t) (he : Opens P e r b) : Opens P t (arrR m r) (fun l => bulkL b l + 1) := by
  refine ⟨hk, fun enc W spare held fuel cs y h => ?_⟩
  obtain ⟨ys, n, _, rfl, hl, hyl, hi⟩ := DataW.trod_array ht h
  obtain ⟨l, h1, h2, h3⟩ := each_of (r := r) (b := b) (W := W) m (fun i => (cs.drop (i * r.k)).take r.k) (fun i => (ys.getD i (.nil, [])).1) (fun i him => by
    have := hi i him
    have hy : ys[i]? = some (ys[i]'(by omega)) := List.getElem?_eq_getElem (by omega)
    rw [hy, ← he.1] at this
    obtain ⟨x, q1, q2⟩ := he.2 enc W spare held n _ _ this
    exact ⟨x, q1, by simp only [List.getD, hy, Option.getD_some]; exact q2⟩)
  have hcs : (List.range m).flatMap (fun i => (cs.drop (i * r.k)).take r.k) = cs := by
    have : ∀ (m : Nat) (cs : List Value), cs.length = m * r.k → (List.range m).flatMap (fun i => (cs.drop (i * r.k)).take r.k) = cs := by
      intro m
      induction m with
      | zero => intro cs h; simp at h; simp [h]
      | succ m ih =>
        intro cs h
        rw [List.range_succ_eq_map, List.flatMap_cons, List.flatMap_map, Nat.zero_mul, List.drop_zero]
        have h2 := ih (cs.drop r.k) (by rw [List.length_drop, h, Nat.add_mul]; omega)
        simp only [List.drop_drop] at h2
        have h3 : (fun i => (cs.drop ((i + 1) * r.k)).take r.k) = (fun i => (cs.drop (r.k + i * r.k)).take r.k) := by funext i; rw [Nat.add_mul, Nat.one_mul, Nat.add_comm]
        rw [h3, h2, List.take_append_drop]
    exact this m cs (by rw [hl, hk])
  rw [hcs] at h2
  have hys : (List.range m).map (fun i => (ys.getD i (.nil, [])).1) = ys.map (·.1) := by
    refine List.ext_getElem? fun i => ?_
    rw [List.getElem?_map, List.getElem?_map]
    rcases Nat.lt_or_ge i m with hi | hi
    · rw [List.getElem?_range hi, List.getElem?_eq_getElem (by omega)]; simp [List.getD, List.getElem?_eq_getElem (show i < ys.length by omega)]
    · rw [List.getElem?_eq_none (by simpa using hi), List.getElem?_eq_none (by omega)]; rfl
  rw [hys] at h3
  exact ⟨l, ⟨h1, h2⟩, by simp only [Rows.uptoBulk]; omega⟩
end

/-- An argument of one cell that came in. -/
theorem open_rd {H : Type} {enc : TypeId × Value → H} {P : Program} {W : World} {spare : Nat → Bool} {held : Bool} {t : TypeId} {v : Value} {d : DataW H} {p : List MemPlace} {α : Type} {r : Rd α} {b : α → Nat}
    (ho : Opens P t r b) (h : DataW.Trod enc P W 0 spare held t v d p) : ∃ x, r.R W no v.cells.toList x ∧ b x ≤ Rows.uptoBulk d := by
  obtain ⟨fuel, hf⟩ := h
  exact ho.2 enc W spare held fuel _ _ hf

theorem open_slice_rd {H : Type} {enc : TypeId × Value → H} {P : Program} {W : World} {spare : Nat → Bool} {held : Bool} {rc : Reach} {base : Nat} {t e : TypeId} {v : Value} {d : DataW H} {p : List MemPlace} {α : Type} {r : Rd α} {b : List α → Nat}
    (ht : P.underlying t = some (.slice e)) (hv : Value.okWide P W rc base t v) (ho : Opens P t (slR r) b) (h : DataW.Trod enc P W 0 spare held t v d p) :
    ∃ A c l, v = .slice A l.length c ∧ l.length ≤ c ∧ c ≤ maxLen ∧ SlOf r W no A l ∧ b l ≤ Rows.uptoBulk d := by
  obtain ⟨A, n, c, rfl⟩ := okWide_slice ht hv
  obtain ⟨l, ⟨A', c', e1, h1, h2, h3⟩, h4⟩ := open_rd ho h
  simp [Value.cells] at e1
  obtain ⟨rfl, rfl, rfl⟩ := e1
  exact ⟨_, _, l, rfl, h1, h2, h3, h4⟩
end Go.Proofs.Ytgmbkcjihgphmaa

/- How a struct or an array by value is opened: as the reading that its type has. -/
set_option linter.unusedVariables false
namespace Go.Proofs.Ytgmbkcjihgphmaa
open Go.ChangeShapes Go.WideShapes Go.ChangeAt Go.RowKit Go.Deep

/-- A struct or an array by value. -/
def isAgg : Option TypeDesc → Bool
  | some (.struct _) | some (.array _ _) => true
  | _ => false
theorem okWide_agg {P : Program} {w : World} {rc : Reach} {base : Nat} {t : TypeId} {v : Value} {d : TypeDesc} (ht : P.underlying t = some d) (hd : isAgg (some d) = true) (h : Value.okWide P w rc base t v) : ∃ cs, v = .agg cs := by
  simp only [Value.okWide, ht] at h
  cases d <;> first | (obtain ⟨cs, h1, _⟩ := h; exact ⟨cs, h1⟩) | cases hd
theorem open_agg_rd {H : Type} {enc : TypeId × Value → H} {P : Program} {W : World} {spare : Nat → Bool} {held : Bool} {rc : Reach} {base : Nat} {t : TypeId} {v : Value} {dt : DataW H} {p : List MemPlace} {α : Type} {r : Rd α} {b : α → Nat} {d : TypeDesc}
    (ht : P.underlying t = some d) (hd : isAgg (some d) = true) (hv : Value.okWide P W rc base t v) (ho : Opens P t r b) (h : DataW.Trod enc P W 0 spare held t v dt p) :
    ∃ (cs : List Value) (x : α), v = .agg cs.toArray ∧ r.R W no cs x ∧ b x ≤ Rows.uptoBulk dt := by
  obtain ⟨cs, rfl⟩ := okWide_agg ht hd hv
  obtain ⟨x, h1, h2⟩ := open_rd ho h
  exact ⟨cs.toList, x, by simp, h1, h2⟩
end Go.Proofs.Ytgmbkcjihgphmaa

/- How an argument of a type that holds itself is opened: the readings of XOpenRd, for so much fuel. -/
set_option linter.unusedVariables false
namespace Go.Proofs.Ytgmbkcjihgphmaa
open Go.ChangeShapes Go.WideShapes Go.ChangeAt Go.RowKit Go.Deep
open Go.ChangeMaps (open_string shut_string)

def OpensB (F : Nat) (P : Program) (t : TypeId) {α : Type} (r : Rd α) (bulk : α → Nat) : Prop :=
  r.k = P.cellsOf t ∧ ∀ {H : Type} (enc : TypeId × Value → H) (W : World) (spare : Nat → Bool) (held : Bool) (fuel : Nat) (cs : List Value) (y : DataW H × List MemPlace), fuel < F →
    DataW.trod enc P W 0 spare held fuel t cs = some y → ∃ x, r.R W no cs x ∧ bulk x ≤ Rows.uptoBulk y.1

section
variable {P : Program} {t : TypeId} {F : Nat}
theorem OpensB.of {α : Type} {r : Rd α} {b : α → Nat} (h : Opens P t r b) : OpensB F P t r b := ⟨h.1, fun enc W spare held fuel cs y _ => h.2 enc W spare held fuel cs y⟩
theorem OpensB.zero {α : Type} {r : Rd α} {b : α → Nat} (h : r.k = P.cellsOf t) : OpensB 0 P t r b := ⟨h, fun enc W spare held fuel cs y hf => absurd hf (by omega)⟩
theorem Opens.ofB {α : Type} {r : Rd α} {b : α → Nat} (h : ∀ F, OpensB F P t r b) : Opens P t r b := ⟨(h 0).1, fun enc W spare held fuel cs y => (h (fuel + 1)).2 enc W spare held fuel cs y (by omega)⟩

theorem open_sliceB {H : Type} {enc : TypeId × Value → H} {w : World} {base : Nat} {spare : Nat → Bool} {held : Bool} {e : TypeId} {fuel : Nat} {cs : List Value} {x : DataW H × List MemPlace} (ht : P.underlying t = some (.slice e)) (h : DataW.trod enc P w base spare held fuel t cs = some x) :
    (cs = [.slice none 0 0] ∧ x = (.nil, [])) ∨
    ∃ (a : Addr) (len cap n : Nat) (D : Nat → DataW H) (Pl : Nat → List MemPlace) (rest : List (DataW H)), cs = [.slice (some a) len cap] ∧ fuel = n + 1 ∧ len ≤ cap ∧ cap ≤ maxLen ∧ x.1 = .slice ((List.range len).map D) rest ∧
      ∀ i, i < len → ∃ cs', w.cells? base (a.add (i * P.cellsOf e)) (P.cellsOf e) = some cs' ∧ DataW.trod enc P w base spare held n e cs' = some (D i, Pl i) := by
  rcases DataW.trod_slice ht h with h0 | ⟨a, len, cap, elems, rest, n, hf, rfl, rfl, hb, hl, hm, hlen, hel, hsp, hns⟩
  · exact .inl h0
  · refine .inr ⟨a, len, cap, n, fun i => (elems.getD i (.nil, [])).1, fun i => (elems.getD i (.nil, [])).2, rest.map (·.1), rfl, hf, hl, hm, ?_, fun i hi => ?_⟩
    · show DataW.slice (elems.map (·.1)) (rest.map (·.1)) = _
      congr 1
      refine List.ext_getElem? fun i => ?_
      rw [List.getElem?_map, List.getElem?_map]
      rcases Nat.lt_or_ge i len with h1 | h1
      · rw [List.getElem?_range h1, List.getElem?_eq_getElem (by omega)]; simp [List.getD, List.getElem?_eq_getElem (show i < elems.length by omega)]
      · rw [List.getElem?_eq_none (show elems.length ≤ i by omega), List.getElem?_eq_none (by simpa using h1)]; rfl
    · have key := hel i hi
      rw [List.getElem?_eq_getElem (by omega)] at key
      obtain ⟨cs', h1, h2⟩ := Option.bind_eq_some_iff.1 key
      exact ⟨cs', h1, by rw [h2]; simp [List.getD, List.getElem?_eq_getElem (show i < elems.length by omega)]⟩

theorem opensB_slice {e : TypeId} {α : Type} {r : Rd α} {b : α → Nat} (ht : P.underlying t = some (.slice e)) (hk : P.cellsOf t = 1) (hpos : 0 < r.k) (he : OpensB F P e r b) : OpensB (F + 1) P t (slR r) (fun l => bulkL b l + 1) := by
  refine ⟨hk.symm, fun enc W spare held fuel cs y hfl h => ?_⟩
  rcases open_sliceB ht h with ⟨rfl, rfl⟩ | ⟨a, len, cap, n, D, Pl, rest, rfl, hfn, hlc, hcm, hx, hel⟩
  · exact ⟨[], ⟨none, 0, rfl, Nat.le_refl _, Nat.zero_le _, SlOf.nil⟩, by simp [bulkL, Rows.uptoBulk]⟩
  · skip
    have hchoose : ∀ i, ∃ c : List Value, i < len → (W.cells? 0 (a.add (i * P.cellsOf e)) (P.cellsOf e) = some c ∧ DataW.trod enc P W 0 spare held n e c = some (D i, Pl i)) := fun i => by
      by_cases hi : i < len
      · obtain ⟨c, h1, h2⟩ := hel i hi
        exact ⟨c, fun _ => ⟨h1, h2⟩⟩
      · exact ⟨[], fun h => absurd h hi⟩
    let cs : Nat → List Value := fun i => (hchoose i).choose
    have hcs : ∀ i, i < len → (W.cells? 0 (a.add (i * P.cellsOf e)) (P.cellsOf e) = some (cs i) ∧ DataW.trod enc P W 0 spare held n e (cs i) = some (D i, Pl i)) := fun i hi => (hchoose i).choose_spec hi
    clear_value cs
    obtain ⟨l, hl, hE, hB⟩ := each_of (r := r) (b := b) (W := W) len cs D (fun i hi => he.2 enc W spare held n (cs i) _ (by omega) (hcs i hi).2)
    refine ⟨l, ⟨some a, cap, by rw [hl], by omega, hcm, (List.range len).flatMap cs, ?_, hE, fun _ _ _ _ h => h⟩, ?_⟩
    · have hlen := hE.length (fun _ _ => r.len)
      refine ⟨hlen, fun h0 => ?_⟩
      rw [hl] at h0
      have key : ∀ i j, i < len → j < r.k → ∃ u, W.cell? (a.add (i * r.k + j)) = some u ∧ (cs i)[j]? = some u := fun i j hi hj => by
        obtain ⟨h1, _⟩ := hcs i hi
        rw [← he.1] at h1
        obtain ⟨_, h2, h3⟩ := World.cells?_some h1
        have h4 := h3 j hj
        rw [Go.Deep.add_add] at h4
        exact ⟨(cs i)[j]'(by omega), by rw [h4]; exact List.getElem?_eq_getElem (by omega), List.getElem?_eq_getElem (by omega)⟩
      obtain ⟨u0, h1, _⟩ := key 0 0 h0 hpos
      simp only [Nat.zero_mul, Nat.zero_add] at h1
      obtain ⟨bl, off, spot⟩ := a
      have hspot : spot = none := by simpa [Addr.add] using World.cell?_spot h1
      subst hspot
      have hbl : bl < W.heap.size := by
        have := World.block_lt_of_cell? _ _ h1
        rwa [addr_add] at this
      refine ⟨bl, off, rfl, hbl, fun j u hu => ?_⟩
      have hj := (List.getElem?_eq_some_iff.1 hu).1
      rw [hlen, hl] at hj
      have hd : j / r.k < len := by rw [Nat.div_lt_iff_lt_mul hpos]; exact hj
      have hmod := Nat.mod_lt j hpos
      obtain ⟨v, hv, hcv⟩ := key (j / r.k) (j % r.k) hd hmod
      have hj2 : j / r.k * r.k + j % r.k = j := by rw [Nat.mul_comm]; exact Nat.div_add_mod j r.k
      rw [hj2, addr_add] at hv
      rw [hv, ← hu]
      have hflat : ∀ (m : Nat) (f : Nat → List Value), (∀ i, i < m → (f i).length = r.k) → ∀ i q, i < m → q < r.k → ((List.range m).flatMap f)[i * r.k + q]? = (f i)[q]? := by
        intro m
        induction m with
        | zero => intro f _ i q hi; omega
        | succ m ih =>
          intro f hf i q hi hq
          rw [List.range_succ_eq_map, List.flatMap_cons, List.flatMap_map]
          cases i with
          | zero => rw [Nat.zero_mul, Nat.zero_add, List.getElem?_append_left (by rw [hf 0 (by omega)]; exact hq)]
          | succ i =>
            rw [List.getElem?_append_right (by rw [hf 0 (by omega), Nat.add_mul]; omega), hf 0 (by omega), show (i + 1) * r.k + q - r.k = i * r.k + q from by rw [Nat.add_mul]; omega]
            exact ih (fun i => f (i + 1)) (fun i hi => hf (i + 1) (by omega)) i q (by omega) hq
      have hlens : ∀ i, i < len → (cs i).length = r.k := fun i hi => by
        have h1 := (hcs i hi).1
        rw [← he.1] at h1
        exact (World.cells?_some h1).2.1
      rw [← hcv]
      have := hflat len cs hlens (j / r.k) (j % r.k) hd hmod
      rw [hj2] at this
      exact this.symm
    · rw [hx]; simp only [Rows.uptoBulk]
      omega

/-- Fields one after another, from the offset off on. -/
def OpensFsB (F : Nat) (P : Program) (fs : List Field) (off : Nat) {α : Type} (r : Rd α) (bulk : α → Nat) : Prop :=
  ∀ {H : Type} (enc : TypeId × Value → H) (W : World) (spare : Nat → Bool) (held : Bool) (n : Nat) (cs : List Value) (ys : List (DataW H × List MemPlace)), n < F →
    cs.length = r.k → ys.length = fs.length → (∀ (i : Nat) (f : Field), fs[i]? = some f → DataW.trod enc P W 0 spare held n f.type ((cs.drop (f.offset - off)).take (P.cellsOf f.type)) = ys[i]?) →
    ∃ x, r.R W no cs x ∧ bulk x ≤ Rows.uptoBulkAll (ys.map (·.1))

theorem opensFsB_one {f : Field} {α : Type} {r : Rd α} {b : α → Nat} (ho : OpensB F P f.type r b) : OpensFsB F P [f] f.offset r b := by
  intro H enc W spare held n cs ys hnF hl hy h
  match ys, hy with
  | [y], _ =>
    have h0 := h 0 f rfl
    rw [Nat.sub_self, List.drop_zero, List.take_of_length_le (by rw [hl, ho.1]; exact Nat.le_refl _)] at h0
    obtain ⟨x, h1, h2⟩ := ho.2 enc W spare held n cs y hnF h0
    exact ⟨x, h1, by simp only [List.map_cons, List.map_nil, Rows.uptoBulkAll]; omega⟩

theorem opensFsB_cons {f : Field} {fs : List Field} {off : Nat} {α β : Type} {r : Rd α} {s : Rd β} {b : α → Nat} {c : β → Nat} (ho : OpensB F P f.type r b) (hf : OpensFsB F P fs off s c)
    (hoff : off = f.offset + r.k) (hmono : fs.all (fun g => decide (off ≤ g.offset)) = true) : OpensFsB F P (f :: fs) f.offset (prodR r s) (fun x => b x.1 + c x.2) := by
  intro H enc W spare held n cs ys hnF hl hy h
  match ys, hy with
  | y :: ys, hy =>
    have hl' : cs.length = r.k + s.k := hl
    have h0 := h 0 f rfl
    rw [Nat.sub_self, List.drop_zero, ← ho.1] at h0
    obtain ⟨x, h1, h2⟩ := ho.2 enc W spare held n _ y hnF h0
    obtain ⟨z, h3, h4⟩ := hf enc W spare held n (cs.drop r.k) ys hnF (by rw [List.length_drop]; omega) (by simpa using hy) (fun i g hg => by
      have := h (i + 1) g hg
      have hge : off ≤ g.offset := by
        have := List.all_eq_true.1 hmono g (List.mem_of_getElem? hg)
        simpa using this
      rw [List.drop_drop, show r.k + (g.offset - off) = g.offset - f.offset from by omega]
      simpa using this)
    refine ⟨(x, z), ⟨cs.take r.k, cs.drop r.k, (List.take_append_drop _ _).symm, h1, h3⟩, ?_⟩
    simp only [List.map_cons, Rows.uptoBulkAll]
    omega

theorem opensB_struct {fs : Array Field} {α : Type} {r : Rd α} {b : α → Nat} (ht : P.underlying t = some (.struct fs)) (hk : r.k = P.cellsOf t) (hf : OpensFsB F P fs.toList 0 r b) : OpensB (F + 1) P t r (fun x => b x + 1) := by
  refine ⟨hk, fun enc W spare held fuel cs y hfl h => ?_⟩
  obtain ⟨ys, n, hfn, rfl, hl, hyl, hi⟩ := DataW.trod_struct ht h
  obtain ⟨x, h1, h2⟩ := hf enc W spare held n cs ys (by omega) (by rw [hl, hk]) (by rw [hyl]; simp) (fun i f hfi => by
    have := hi i f (by simpa using hfi)
    rw [Nat.sub_zero]; exact this)
  exact ⟨x, h1, by simp only [Rows.uptoBulk]; omega⟩

end
end Go.Proofs.Ytgmbkcjihgphmaa

/- api.Value in memory: how it reads, and how one is opened that came in. -/
set_option linter.unusedVariables false
namespace Go.Proofs.Ytgmbkcjihgphmaa
open Go.ChangeShapes Go.WideShapes Go.ChangeAt Go.RowKit Go.Deep

theorem Val.ind {p : Val → Prop} (h : ∀ k u b f l, (∀ x ∈ l, p x) → p (.mk k u b f l)) (v : Val) : p v :=
  match v with
  | .mk k u b f l => h k u b f l (fun x hx => Val.ind h x)
termination_by SizeOf.sizeOf v
decreasing_by
  have := List.sizeOf_lt_of_mem hx
  simp only [Val.mk.sizeOf_spec]
  omega

/-- the reading, so deep -/
def valRR : Nat → World → Av → List Value → Val → Prop
  | 0, _, _, _, _ => False
  | d + 1, w, av, cs, .mk k u b f l => ∃ A cA L cL, cs = [.int .i64 k, .int .u64 (u : Int), .slice A b.length cA, .float .f64 f, .slice L l.length cL] ∧ (Lit.int .i64 k).wf = true ∧ u < 2 ^ 64 ∧ f < 2 ^ 64 ∧
      (b.length ≤ cA ∧ cA ≤ maxLen ∧ SlOf byteR w av A b) ∧ l.length ≤ cL ∧ cL ≤ maxLen ∧
      ∃ vs, Sl w 5 L l.length vs ∧ Each (valRR d w av) vs l ∧ (0 < l.length → ∀ b off, L = some ⟨b, off, none⟩ → ¬ av b)

theorem valRR_len {d : Nat} {w : World} {av : Av} {cs : List Value} {v : Val} (h : valRR d w av cs v) : cs.length = 5 := by
  cases d with
  | zero => exact absurd h id
  | succ d => cases v; obtain ⟨A, cA, L, cL, rfl, _⟩ := h; rfl
theorem valRR_one {d : Nat} {w : World} {av : Av} {cs : List Value} {v : Val} (h : valRR d w av cs v) : ∀ u ∈ cs, u.oneCell' = true := by
  cases d with
  | zero => exact absurd h id
  | succ d =>
    cases v; obtain ⟨A, cA, L, cL, rfl, _⟩ := h
    intro u hu
    simp at hu
    rcases hu with rfl | rfl | rfl | rfl | rfl <;> rfl
theorem valRR_stable : ∀ (d : Nat) {w w' : World} {av av' : Av} {cs : List Value} {v : Val}, valRR d w av cs v → Moves w w' av av' → valRR d w' av' cs v
  | 0, _, _, _, _, _, _, h, _ => h
  | d + 1, w, w', av, av', cs, .mk k u b f l, h, m => by
    obtain ⟨A, cA, L, cL, rfl, h1, h2, h3, ⟨h4, h5, h6⟩, h7, h8, h9⟩ := h
    have r : SlOf ⟨5, valRR d, valRR_len, valRR_one, fun h m => valRR_stable d h m⟩ w av L l := h9
    exact ⟨A, cA, L, cL, rfl, h1, h2, h3, ⟨h4, h5, h6.stable m⟩, h7, h8, r.stable m⟩
theorem valRR_mono : ∀ (d : Nat) {w : World} {av : Av} {cs : List Value} {v : Val}, valRR d w av cs v → valRR (d + 1) w av cs v
  | 0, _, _, _, _, h => absurd h id
  | d + 1, w, av, cs, .mk k u b f l, h => by
    obtain ⟨A, cA, L, cL, rfl, h1, h2, h3, h4, h7, h8, vs, h9, h10, h11⟩ := h
    exact ⟨A, cA, L, cL, rfl, h1, h2, h3, h4, h7, h8, vs, h9, h10.mono fun _ _ h => valRR_mono d h, h11⟩
theorem valRR_le {d e : Nat} (hde : d ≤ e) {w : World} {av : Av} {cs : List Value} {v : Val} (h : valRR d w av cs v) : valRR e w av cs v := by
  induction hde with
  | refl => exact h
  | step _ ih => exact valRR_mono _ ih

/-- a value -/
def valR : Rd Val where
  k := 5
  R := fun w av cs v => ∃ d, valRR d w av cs v
  len := fun ⟨_, h⟩ => valRR_len h
  one := fun ⟨_, h⟩ => valRR_one h
  stable := fun ⟨d, h⟩ m => ⟨d, valRR_stable d h m⟩

theorem each_depth {w : World} {av : Av} {vs : List Value} {l : List Val} (h : Each (valR.R w av) vs l) : ∃ d, Each (valRR d w av) vs l := by
  induction h with
  | nil => exact ⟨0, .nil⟩
  | cons h1 _ ih =>
    obtain ⟨d1, h1⟩ := h1
    obtain ⟨d2, h2⟩ := ih
    exact ⟨max d1 d2, .cons (valRR_le (Nat.le_max_left _ _) h1) (h2.mono fun _ _ h => valRR_le (Nat.le_max_right _ _) h)⟩

theorem valR_iff {w : World} {av : Av} {cs : List Value} {k : Int} {u : Nat} {b : List UInt8} {f : Nat} {l : List Val} : valR.R w av cs (.mk k u b f l) ↔
    ∃ A cA L cL, cs = [.int .i64 k, .int .u64 (u : Int), .slice A b.length cA, .float .f64 f, .slice L l.length cL] ∧ (Lit.int .i64 k).wf = true ∧ u < 2 ^ 64 ∧ f < 2 ^ 64 ∧
      (b.length ≤ cA ∧ cA ≤ maxLen ∧ SlOf byteR w av A b) ∧ l.length ≤ cL ∧ cL ≤ maxLen ∧ SlOf valR w av L l := by
  constructor
  · rintro ⟨d, h⟩
    cases d with
    | zero => exact absurd h id
    | succ d =>
      obtain ⟨A, cA, L, cL, rfl, h1, h2, h3, h4, h7, h8, vs, h9, h10, h11⟩ := h
      exact ⟨A, cA, L, cL, rfl, h1, h2, h3, h4, h7, h8, vs, h9, h10.mono fun _ _ h => ⟨d, h⟩, h11⟩
  · rintro ⟨A, cA, L, cL, rfl, h1, h2, h3, h4, h7, h8, vs, h9, h10, h11⟩
    obtain ⟨d, h10⟩ := each_depth h10
    exact ⟨d + 1, A, cA, L, cL, rfl, h1, h2, h3, h4, h7, h8, vs, h9, h10, h11⟩

/-! ### bulk -/
mutual
def bulkV : Val → Nat
  | .mk _ _ b _ l => b.length + bulkVs l + 1
def bulkVs : List Val → Nat
  | [] => 0
  | v :: r => bulkV v + bulkVs r
end
theorem bulkVs_eq : ∀ l, bulkVs l = bulkL bulkV l
  | [] => by simp [bulkVs, bulkL]
  | v :: r => by simp [bulkVs, bulkL, bulkVs_eq r]
theorem bulkVs_mem : ∀ {l : List Val} {x : Val}, x ∈ l → bulkV x ≤ bulkVs l
  | [], x, h => by cases h
  | v :: r, x, h => by
    rw [bulkVs]
    rcases List.mem_cons.1 h with rfl | h
    · omega
    · have := bulkVs_mem h; omega
theorem bulkVs_len : ∀ (l : List Val), l.length ≤ bulkVs l
  | [] => by simp
  | v :: r => by
    have := bulkVs_len r
    have hv : 1 ≤ bulkV v := by cases v; simp only [bulkV]; omega
    rw [bulkVs, List.length_cons]; omega

/-! ### opening -/
def u64R : Rd Nat where
  k := 1
  R := fun _ _ cs n => cs = [.int .u64 (n : Int)] ∧ n < 2 ^ 64
  len := fun h => by obtain ⟨rfl, _⟩ := h; rfl
  one := fun h u hu => by obtain ⟨rfl, _⟩ := h; simp at hu; subst hu; rfl
  stable := fun h _ => h
def fltR : Rd Nat where
  k := 1
  R := fun _ _ cs n => cs = [.float .f64 n] ∧ n < 2 ^ 64
  len := fun h => by obtain ⟨rfl, _⟩ := h; rfl
  one := fun h u hu => by obtain ⟨rfl, _⟩ := h; simp at hu; subst hu; rfl
  stable := fun h _ => h

section
variable {P : Program} {t : TypeId}
theorem opens_u64 (ht : P.underlying t = some (.int .u64)) (hk : P.cellsOf t = 1) : Opens P t u64R (fun _ => 1) := by
  refine ⟨hk.symm, fun enc W spare held fuel cs y h => ?_⟩
  obtain ⟨z, rfl, rfl, hw⟩ := DataW.trod_int ht h
  have hz : 0 ≤ z ∧ z < 18446744073709551616 := by
    simp [Lit.wf] at hw
    have e1 : IntKind.u64.min = 0 := rfl
    have e2 : IntKind.u64.max = 18446744073709551615 := rfl
    omega
  exact ⟨z.toNat, ⟨by rw [Int.toNat_of_nonneg hz.1], by omega⟩, bulk_one _⟩
theorem opens_flt (ht : P.underlying t = some (.float .f64)) (hk : P.cellsOf t = 1) : Opens P t fltR (fun _ => 1) := by
  refine ⟨hk.symm, fun enc W spare held fuel cs y h => ?_⟩
  cases fuel with
  | zero => simp [DataW.trod] at h
  | succ n =>
    unfold DataW.trod at h
    rw [ht] at h
    split at h
    all_goals first
      | (cases h; done)
      | (simp_all; done)
      | skip
    rename_i k1 k2 b e
    injection e with e
    injection e with e
    subst e
    split at h
    · rename_i hc
      obtain ⟨rfl, hw⟩ := hc
      injection h with h
      subst h
      exact ⟨b, ⟨rfl, by simpa [Lit.wf] using hw⟩, bulk_one _⟩
    · cases h
end

set_option maxRecDepth 100000 in
theorem opens_val : Opens Try.prog 72 valR bulkV := by
  have hk5 : valR.k = Try.prog.cellsOf 72 := by rfl
  refine Opens.ofB fun F => ?_
  induction F using Nat.strongRecOn with
  | _ F ih =>
    cases F with
    | zero => exact OpensB.zero hk5
    | succ F =>
      have hb : OpensB F Try.prog 28 (slR byteR) (fun l => bulkL (fun _ => 1) l + 1) := OpensB.of (opens_slice Try.underlying28 rfl (by decide) (opens_byte Try.underlying5 rfl))
      have hl : OpensB F Try.prog 70 (slR valR) (fun l => bulkL bulkV l + 1) := by
        cases F with
        | zero => exact OpensB.zero rfl
        | succ F => exact opensB_slice Try.underlying70 rfl (by decide) (ih F (by omega))
      have hs := opensB_struct (t := 72) (r := prodR (intR .i64) (prodR u64R (prodR (slR byteR) (prodR fltR (slR valR))))) Try.underlying72 rfl
        (opensFsB_cons (OpensB.of (opens_int Try.underlying3 rfl)) (opensFsB_cons (OpensB.of (opens_u64 Try.underlying69 rfl)) (opensFsB_cons hb (opensFsB_cons (OpensB.of (opens_flt Try.underlying60 rfl)) (opensFsB_one hl) rfl rfl) rfl rfl) rfl rfl) rfl rfl)
      refine ⟨hk5, fun enc W spare held fuel cs y hf h => ?_⟩
      obtain ⟨⟨k, u, b, f, l⟩, hx, hbk⟩ := hs.2 enc W spare held fuel cs y hf h
      refine ⟨.mk k u b f l, ?_, ?_⟩
      · obtain ⟨c1, c2, rfl, ⟨rfl, h1⟩, d1, d2, rfl, ⟨rfl, h2⟩, e1, e2, rfl, ⟨A, cA, rfl, h3⟩, f1, f2, rfl, ⟨rfl, h4⟩, ⟨L, cL, rfl, h5⟩⟩ := hx
        exact valR_iff.2 ⟨A, cA, L, cL, rfl, h1, h2, h4, h3, h5⟩
      · refine Nat.le_trans ?_ hbk
        simp only [bulkV, bulkVs_eq]
        have : ∀ l : List UInt8, bulkL (fun _ => 1) l = l.length := fun l => by
          induction l with
          | nil => rfl
          | cons x r ih => simp only [bulkL, List.length_cons, ih]; omega
        simp only [this]
        omega
end Go.Proofs.Ytgmbkcjihgphmaa

/- A block of the heap, whole. -/
set_option linter.unusedVariables false
namespace Go.Proofs.Ytgmbkcjihgphmaa
open Go.RowKit

/-- a block of cells -/
def Blk (w : World) (g : Nat) (t : TypeId) (cs : Array Value) : Prop := w.heap[g]? = some (.cells cs t (0, 0))
section
variable {w w' : World} {g : Nat} {t : TypeId} {cs : Array Value}
theorem Blk.lt (h : Blk w g t cs) : g < w.heap.size := by
  unfold Blk at h
  exact (Array.getElem?_eq_some_iff.1 h).1
theorem Blk.cell (h : Blk w g t cs) (i : Nat) : w.cell? ⟨g, i, none⟩ = cs[i]? := cell_of_row w g i cs t (0, 0) h
theorem Blk.frozen (h : Blk w g t cs) (i : Nat) : w.frozen? ⟨g, i, none⟩ = false := frozen_of_row w g i cs t h
theorem Blk.new (w : World) (t : TypeId) (cs : Array Value) : Blk (w.alloc (.cells cs t)) w.heap.size t cs := heap_alloc_new w _
theorem Blk.same (h : Blk w g t cs) (hs : Same w w') : Blk w' g t cs := by unfold Blk; rw [hs.heap]; exact h
theorem Blk.alloc (h : Blk w g t cs) (o : Obj) : Blk (w.alloc o) g t cs := (Below.heap_alloc w o g h.lt).trans h
theorem Blk.below {B : Nat} (h : Blk w g t cs) (hb : Below B w w') (hg : g < B) : Blk w' g t cs := (hb.block g hg).trans h
theorem Blk.set_ (h : Blk w g t cs) (i : Nat) (u : Value) : Blk (w.setCell ⟨g, i, none⟩ u) g t (cs.setIfInBounds i u) := heap_setCell_same w g i cs t u h
theorem Blk.other (h : Blk w g t cs) {g' : Nat} (hne : g ≠ g') (i : Nat) (u : Value) : Blk (w.setCell ⟨g', i, none⟩ u) g t cs := (heap_setCell_other w ⟨g', i, none⟩ g u hne).trans h
theorem Blk.grown {row : Option Nat} (h : Blk w g t cs) (hb : w.grownBy w' row) (hg : some g ≠ row) : Blk w' g t cs := (hb.block g h.lt hg).trans h
end
theorem grown_set (w : World) (b i : Nat) (v : Value) : w.grownBy (w.setCell ⟨b, i, none⟩ v) (some b) :=
  ⟨rfl, rfl, rfl, ((Below.refl 0 w).setCell (p := ⟨b, i, none⟩) (Nat.zero_le _) v).size, fun k hk hne => Below.heap_setCell w ⟨b, i, none⟩ v k (fun e => hne (congrArg some e))⟩
end Go.Proofs.Ytgmbkcjihgphmaa
