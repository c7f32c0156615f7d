/- How an argument of a law is opened: what came in, in the words of Mem; and how much of the bulk it is. -/
import Derived.Test.YtehminpiejophaaDoorMem
import Derived.OpenShut
import Derived.ShutString
import Derived.ChangeOld
import Derived.JoinedCond
import Derived.Lib.SmallJoins
namespace Go.Proofs.YtehminpiejophaaDoor
open Go.ChangeShapes Go.WideShapes Go.ChangeAt Go.RowKit
open Go.ChangeMaps (open_string shut_string)

theorem own_knob : ownKnob Tryd.prog.godebug = none := by kernel_rfl
theorem laid_out : laidOutB Tryd.prog = true := by kernel_rfl

/-! ### the bulk -/
theorem bulk_one {H : Type} (d : DataW H) : 1 ≤ Rows.uptoBulk d := by
  cases d with
  | lit l => cases l <;> simp [Rows.uptoBulk]
  | nil => simp [Rows.uptoBulk]
  | ptr d => simp [Rows.uptoBulk]
  | slice elems spare => simp [Rows.uptoBulk]
  | agg parts => simp [Rows.uptoBulk]
  | iface t d => simp [Rows.uptoBulk]
  | map entries => simp [Rows.uptoBulk]
  | held h => simp [Rows.uptoBulk]

theorem bulk_length {H : Type} (l : List (DataW H)) : l.length ≤ Rows.uptoBulkAll l := by
  induction l with
  | nil => simp [Rows.uptoBulkAll]
  | cons x r ih => have := bulk_one x; simp only [Rows.uptoBulkAll, List.length_cons]; omega

theorem bulk_slice {H : Type} (elems spare : List (DataW H)) : elems.length + spare.length + 1 ≤ Rows.uptoBulk (.slice elems spare) := by
  have h1 := bulk_length elems
  have h2 := bulk_length spare
  simp only [Rows.uptoBulk]
  omega

theorem bulk_string {H : Type} (s : ByteArray) : Rows.uptoBulk (DataW.lit (H := H) (.string s.data.toList)) = s.size + 1 := by
  simp only [Rows.uptoBulk]
  rw [Array.length_toList]
  rfl

theorem bulk_all {H : Type} {l : List (DataW H)} (hk : Rows.uptoSmall H l = true) : Rows.uptoBulkAll l ≤ 1048576 := of_decide_eq_true hk

/-! ### bytes -/
theorem byte_of_wf {z : Int} (h : (Lit.int .u8 z).wf = true) : ∃ b : UInt8, z = (b.toNat : Int) := by
  have := bounds_u8 h
  exact ⟨UInt8.ofNat z.toNat, by rw [UInt8.toNat_ofNat']; omega⟩

theorem bytes_of_wf {zs : List Int} (h : ∀ n ∈ zs, (Lit.int .u8 n).wf = true) : ∃ l : List UInt8, zs = l.map fun b => (b.toNat : Int) := by
  induction zs with
  | nil => exact ⟨[], rfl⟩
  | cons z zs ih =>
    obtain ⟨b, hb⟩ := byte_of_wf (h z List.mem_cons_self)
    obtain ⟨l, hl⟩ := ih fun n hn => h n (List.mem_cons_of_mem _ hn)
    exact ⟨b :: l, by rw [List.map_cons, ← hb, ← hl]⟩

section
variable {H : Type} {enc : TypeId × Value → H} {P : Program} {W : World} {spare : Nat → Bool} {held : Bool}

/-- A slice of bytes that came in. -/
theorem open_bytes {r : Reach} {base t e : TypeId} {v : Value} {d : DataW H} {p : List MemPlace} (ht : P.underlying t = some (.slice e)) (he : P.underlying e = some (.int .u8)) (hC : P.cellsOf e = 1)
    (hv : Value.okWide P W r base t v) (h : DataW.Trod enc P W 0 spare held t v d p) :
    ∃ (A : Option Addr) (n c : Nat) (l : List UInt8), v = .slice A n c ∧ Sl W 1 A n (l.map fun b => .int .u8 (b.toNat : Int)) ∧ n ≤ c ∧ c ≤ maxLen ∧ n + 1 ≤ Rows.uptoBulk d := by
  obtain ⟨A, n, c, rfl⟩ := okWide_slice ht hv
  obtain ⟨fuel, hf⟩ := h
  rcases open_ints ht he hC hf with ⟨hcs, _⟩ | ⟨x, l, c', zs, hcs, _, hl, hm, hz, hx, hcell, hwz⟩
  · simp [Value.cells] at hcs
    obtain ⟨rfl, rfl, rfl⟩ := hcs
    exact ⟨none, 0, 0, [], rfl, Sl.nil, Nat.le_refl _, by simp [maxLen], by have := bulk_one d; omega⟩
  · simp [Value.cells] at hcs
    obtain ⟨rfl, rfl, rfl⟩ := hcs
    obtain ⟨zl, rfl⟩ := bytes_of_wf hwz
    simp only [Prod.mk.injEq] at hx
    have hlen : n ≤ zl.length := by
      rw [List.length_map] at hz
      split at hz <;> omega
    refine ⟨some x, n, c, zl.take n, rfl, ⟨by simp; omega, fun hn => ?_⟩, hl, hm, ?_⟩
    · have h0 := hcell 0 (by rw [List.length_map]; omega)
      obtain ⟨b, off, spot⟩ := x
      have hspot : spot = none := by simpa [Addr.add] using World.cell?_spot h0
      subst hspot
      refine ⟨b, off, rfl, ?_, fun j u hu => ?_⟩
      · have := World.block_lt_of_cell? _ _ h0
        rwa [addr_add] at this
      · have hj : j < (zl.take n).length := by
          have := (List.getElem?_eq_some_iff.1 hu).1
          rwa [List.length_map] at this
        have hj' : j < zl.length := by rw [List.length_take] at hj; omega
        have hcj := hcell j (by rw [List.length_map]; exact hj')
        rw [addr_add] at hcj
        rw [hcj]
        have e1 : (zl.map fun (b : UInt8) => (b.toNat : Int)).getD j 0 = (zl[j].toNat : Int) := by simp [List.getD, hj']
        have e2 : ((zl.take n).map fun (b : UInt8) => Value.int .u8 (b.toNat : Int))[j]? = some (.int .u8 (zl[j].toNat : Int)) := by
          rw [List.getElem?_map, List.getElem?_eq_getElem hj, List.getElem_take]; rfl
        rw [e1, ← hu, e2]
    · rw [hx.1]
      have hb := bulk_slice (H := H) (lits .u8 ((zl.map fun (b : UInt8) => (b.toNat : Int)).take n)) (lits .u8 ((zl.map fun (b : UInt8) => (b.toNat : Int)).drop n))
      simp only [lits, List.length_map, List.length_take, List.length_drop] at hb
      simp only [lits] 
      omega
end
end Go.Proofs.YtehminpiejophaaDoor
