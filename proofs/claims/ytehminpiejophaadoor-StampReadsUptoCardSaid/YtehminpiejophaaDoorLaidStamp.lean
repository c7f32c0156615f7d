/- The witness's world of the rows of stamp; what a row's world holds. -/
import Derived.Test.YtehminpiejophaaDoorCards
import Derived.Test.YtehminpiejophaaDoorTie
import Derived.Test.YtehminpiejophaaDoorStampNum
import Derived.Lib.LaidIn
import Derived.Lib.LaidU8
import Derived.LaidSub
import Derived.MakeChecks
import Derived.Deep.DeepHandedRow
import Derived.Deep.DeepWitnessRowRef
import Derived.Shelf.Vars
import Derived.SevenTiedAt
set_option linter.unusedVariables false
namespace Go.Proofs.YtehminpiejophaaDoor
open Go.RowKit

/-- the settled world, the tables holding what their initialisers lay, the two sentinels in two further blocks -/
noncomputable def laidWorld (os : Os) : World :=
  let w0 := World.holding Tryd.prog os ⟨#[], #[], []⟩
  let put (h : Array Obj) (g : Nat) (cs : Array Value) : Array Obj := h.modify g fun
    | .cells _ t frozen => .cells cs t frozen
    | o => o
  let n := w0.heap.size
  let h1 := put w0.heap 1 (Lib.pow10Tab.map fun z => Value.int .u64 z).toArray
  let h2 := put h1 3 #[.iface 106 (.pointer (some ⟨n, 0, none⟩))]
  let h3 := put h2 4 #[.iface 106 (.pointer (some ⟨n + 1, 0, none⟩))]
  let h4 := put h3 5 (#[0, 1, 28, 2, 29, 14, 24, 3, 30, 22, 20, 15, 25, 17, 4, 8, 31, 27, 13, 23, 21, 19, 16, 7, 26, 12, 18, 6, 11, 5, 10, 9].map fun (z : Int) => Value.int .u8 z)
  let h5 := put h4 6 (#[0, 1, 56, 2, 57, 49, 28, 3, 61, 58, 42, 50, 38, 29, 17, 4, 62, 47, 59, 36, 45, 43, 51, 22, 53, 39, 33, 30, 24, 18, 12, 5, 63, 55, 48, 27, 60, 41, 37, 16, 46, 35, 44, 21, 52, 32, 23, 11, 54, 26, 40, 15, 34, 20, 31, 10, 25, 14, 19, 9, 13, 8, 7, 6].map fun (z : Int) => Value.int .u8 z)
  let h6 := (h5.push (.cells #[.string ⟨#[105, 110, 118, 97, 108, 105, 100, 32, 115, 121, 110, 116, 97, 120]⟩] 108)).push (.cells #[.string ⟨#[118, 97, 108, 117, 101, 32, 111, 117, 116, 32, 111, 102, 32, 114, 97, 110, 103, 101]⟩] 108)
  { w0 with heap := h6 }
theorem laid_met_stamp (os : Os) (args : Array Value) : laidMet Tryd.prog Rows.stampOrderUptoRow.laid ((laidWorld os).forCall (fun _ _ => 0) ⟨#[], args, []⟩).memory :=
  laidMet_of_run3 8 (by kernel_rfl) (by kernel_rfl) (by kernel_rfl)

theorem trod_err {P : Program} {w : World} {fuel : Nat} {t : TypeId} {ms : Array (String × TypeId)} {cs : List Value} {d : DataW Unit} {p : List MemPlace} (ht : P.underlying t = some (.interface ms))
    (h : DataW.trod (fun _ => ()) P w 0 (fun _ => true) false fuel t cs = some (d, p)) : ∃ ev, cs = [ev] ∧ (ev = .nilIface ∨ ∃ te pe, ev = .iface te pe) := by
  cases fuel with
  | zero => simp [DataW.trod] at h
  | succ fuel =>
    unfold DataW.trod at h
    rw [ht] at h
    cases cs with
    | nil => simp at h
    | cons v r =>
      cases r with
      | cons _ _ => cases v <;> simp at h
      | nil => exact ⟨v, rfl, by cases v <;> simp at h ⊢⟩
theorem err_cell {P : Program} {W : World} {n : String} {d : DataW Unit} {g : Nat} {t : TypeId} {ms : Array (String × TypeId)} (h : Lib.VarReads P W n d) (hg : P.globalNamed n = some g) (hty : (P.globals[g]?).map (·.type) = some t) (ht : P.underlying t = some (.interface ms)) :
    ∃ ev, W.cell? ⟨g, 0, none⟩ = some ev ∧ (ev = .nilIface ∨ ∃ te pe, ev = .iface te pe) := by
  obtain ⟨g', t', cs, fuel, p, h1, h2, h3, h4⟩ := h
  obtain rfl := Option.some.inj (hg.symm.trans h1)
  obtain rfl := Option.some.inj (hty.symm.trans h2)
  obtain ⟨ev, he, hev⟩ := trod_err ht h4
  refine ⟨ev, ?_, hev⟩
  have := World.var?_cell hg h3 0
  rw [this]
  have : cs = #[ev] := Array.toList_inj.1 he
  rw [this]; rfl
theorem globs_of {W : World} (hL : laidMetH Tryd.prog Rows.stampOrderUptoRow.laid W) (hS : W.ShapedOpen Tryd.prog) : Globs W := by
  have hlm : laidMet Tryd.prog Rows.stampOrderUptoRow.laid W := by rwa [MakeChecks.laidMetH_plain _ _ _ (by kernel_rfl)] at hL
  have hf := hlm.filter (fun x => x.1 == "internal/strconv.uint64pow10")
  have hpow : Pow10 W := Lib.tabIs_of_head (g := 1) (t := 82) (e := 25) (n := 20) (rest := []) (by kernel_rfl) (by kernel_rfl) Tryd.underlying82 Tryd.underlying25 (by kernel_rfl) (by kernel_rfl) hf
  have hsyn := err_cell (g := 3) (t := 66) (Lib.laidMet.reads hlm (n := "strconv.ErrSyntax") (.tail _ (.tail _ (.tail _ (.tail _ (.head _)))))) (by kernel_rfl) (by kernel_rfl) Tryd.underlying66
  have hrng := err_cell (g := 4) (t := 66) (Lib.laidMet.reads hlm (n := "strconv.ErrRange") (.tail _ (.tail _ (.tail _ (.head _))))) (by kernel_rfl) (by kernel_rfl) Tryd.underlying66
  have hmax := cell_of_shapedOpen_int (zero := #[.int .i64 0]) (g := 2) (t := 3) (k := .i64) hS (of_decide_eq_true (by kernel_rfl)) (by kernel_rfl) rfl (by kernel_rfl) (by kernel_rfl) Tryd.underlying3
  refine ⟨hpow, ?_, hmax, hsyn, hrng⟩
  obtain ⟨ev, he, _⟩ := hrng
  rcases Nat.lt_or_ge 4 W.heap.size with h | h
  · exact h
  · simp [World.cell?, Array.getElem?_eq_none h] at he
open Go.ChangeShapes Go.WideShapes Go.ChangeAt in
theorem open_flt {H : Type} {enc : TypeId × Value → H} {P : Program} {W : World} {spare : Nat → Bool} {held : Bool} {rc : Reach} {base : Nat} {t : TypeId} {v : Value} {d : DataW H} {p : List MemPlace}
    (ht : P.underlying t = some (.float .f64)) (hv : Value.okWide P W rc base t v) (h : DataW.Trod enc P W 0 spare held t v d p) : ∃ b, v = .float .f64 b ∧ b < 2 ^ 64 := by
  have hf : ∃ b, v = .float .f64 b := by
    simp only [Value.okWide, ht, Cell.okWide] at hv
    cases v <;> simp_all [Cell.ok]
  obtain ⟨b, rfl⟩ := hf
  obtain ⟨fuel, hf⟩ := h
  cases fuel with
  | zero => simp [DataW.trod] at hf
  | succ n =>
    refine ⟨b, rfl, ?_⟩
    simp [DataW.trod, ht, Value.cells] at hf
    simpa [Lit.wf] using hf.1

end Go.Proofs.YtehminpiejophaaDoor
