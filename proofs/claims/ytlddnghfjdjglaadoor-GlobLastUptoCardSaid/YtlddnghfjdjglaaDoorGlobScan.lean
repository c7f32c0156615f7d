/- glob's scan: next, letter. -/
import Derived.Test.YtlddnghfjdjglaaDoorGlobPlain
import Derived.Test.YtlddnghfjdjglaaDoorBlk
import Derived.Test.YtlddnghfjdjglaaDoorRegion
import Derived.Test.YtlddnghfjdjglaaDoorRd
set_option linter.unusedVariables false
set_option linter.unusedSimpArgs false
namespace Go.Proofs.YtlddnghfjdjglaaDoor
open Go.RowKit

/-! ### what may turn -/
theorem grown_below {w w' : World} (h : Below w.heap.size w w') (r : Option Nat) : w.grownBy w' r := ⟨h.os, h.tape, h.output, h.size, fun k hk _ => h.block k hk⟩
theorem grown_trans {w w' w'' : World} {r : Option Nat} (h : w.grownBy w' r) (k : w'.grownBy w'' r) : w.grownBy w'' r := World.grownBy.trans h k
theorem grown_refl (w : World) (r : Option Nat) : w.grownBy w r := World.grownBy.refl w r
theorem grown_new {w w2 w3 : World} {r : Option Nat} {g : Nat} (h : w.grownBy w2 r) (k : w2.grownBy w3 (some g)) (hg : w.heap.size ≤ g) : w.grownBy w3 r :=
  ⟨k.os.trans h.os, k.tape.trans h.tape, k.output.trans h.output, Nat.le_trans h.size k.size, fun b hb hne => (k.block b (Nat.lt_of_lt_of_le hb h.size) (fun e => by injection e with e; omega)).trans (h.block b hb hne)⟩
theorem Moves.grown {w w' : World} {av : Av} {g : Nat} (h : w.grownBy w' (some g)) (hg : av g) : Moves w w' av av :=
  ⟨h.size, fun b hb hn => h.block b hb (fun e => hn (by injection e with e; subst e; exact hg)), fun _ _ h => h⟩
theorem below_grown {w0 w w' : World} {b g : Nat} (h : Below b w0 w) (k : w.grownBy w' (some g)) (hb : b ≤ w.heap.size) (hg : b ≤ g) : Below b w0 w' :=
  h.trans ⟨k.os, k.tape, k.output, k.size, fun j hj => k.block j (Nat.lt_of_lt_of_le hj hb) (fun e => by injection e with e; omega)⟩

/-- what reading a pattern gives up with -/
abbrev brokE : List PanicEntry := [{ v := .iface 44 (.agg #[]), recovered := false }]
/-- a text in the scan's block -/
abbrev Scn (w : World) (g : Nat) (l : List UInt8) : Prop := Blk w g 53 #[.string (strL l)]
def NextPost (w : World) (g : Nat) (r : Option (UInt8 × List UInt8)) (e : Ending) (w' : World) : Prop :=
  w.grownBy w' (some g) ∧ match r with
    | some (x, l) => e = .returned (.int .u8 (x.toNat : Int)) ∧ Scn w' g l
    | none => e = .panicked brokE
theorem strL_cons (x : UInt8) (r : List UInt8) : (strL (x :: r)).extract 1 (strL (x :: r)).size = strL r := by
  apply ByteArray.ext
  apply Array.ext'
  simp [strL, ByteArray.extract, ByteArray.copySlice, ByteArray.size]

set_option maxRecDepth 100000 in
theorem next_any (g : Nat) (l : List UInt8) (w : World) (h : Scn w g l) :
    Calls Tryd.prog 42 #[.pointer (some ⟨g, 0, none⟩)] w (NextPost w g (nextG l)) := by
  have HS := Lib.hid h
  have hc := h.cell 0
  have hf := h.frozen 0
  have hlt := h.lt
  cases l with
  | nil =>
    have hc1 : w.cell? ⟨g, 0, none⟩ = some (.string (strL [])) := hc
    have hq0 : (strL []).toList.isEmpty = true := by rw [ByteArray.toList_eq]; rfl
    clear h hc
    go_enter Tryd.func42, Tryd.ntmps42
    go_wp2_with fail
    exact ⟨rfl, grown_refl w _, rfl⟩
  | cons x r =>
    have hc1 : w.cell? ⟨g, 0, none⟩ = some (.string (strL (x :: r))) := hc
    have HQ := Lib.hid (strL_cons x r)
    have hq0 : (strL (x :: r)).toList.isEmpty = false := by rw [ByteArray.toList_eq]; rfl
    have hq1 : 0 < (strL (x :: r)).size := by simp [strL, ByteArray.size]
    have hq2 : (strL (x :: r))[0] = x := rfl
    have HW := Lib.hid (grown_set w g 0 (.string (strL r)))
    have HS' := Lib.hid (show Scn (w.setCell ⟨g, 0, none⟩ (.string (strL r))) g r from HS.out.set_ 0 (.string (strL r)))
    rw [← HQ.out] at HW HS'
    clear h HS hc
    generalize strL (x :: r) = q at *
    have hz : (1 : Int) ≤ (q.size : Int) := by omega
    clear HQ
    go_enter Tryd.func42, Tryd.ntmps42
    go_wp2_with fail
    go_ret
    exact ⟨HW.out, rfl, HS'.out⟩

set_option maxRecDepth 100000 in
theorem letter_any (g : Nat) (l : List UInt8) (w : World) (h : Scn w g l) :
    Calls Tryd.prog 55 #[.pointer (some ⟨g, 0, none⟩)] w (NextPost w g (letterG l)) := by
  have H1 := Lib.hid (next_any g l w h)
  cases l with
  | nil =>
    clear h
    go_enter Tryd.func55, Tryd.ntmps55
    go_wp2_with fail
    refine H1.out.mono ?_
    rintro e w1 ⟨hg, rfl⟩
    exact ⟨rfl, hg, rfl⟩
  | cons x r =>
    obtain ⟨D, hD⟩ : ∃ D, D = letterG (x :: r) := ⟨_, rfl⟩
    rw [← hD]
    have HD := Lib.hid (show D = if x = 92 then nextG r else some (x, r) from hD)
    clear h hD
    go_enter Tryd.func55, Tryd.ntmps55
    go_wp2_with fail
    refine H1.out.mono ?_
    rintro e w1 ⟨hg, rfl, hs⟩
    have H2 := Lib.hid (next_any g r w1 hs)
    have HG := Lib.hid hg
    have HS := Lib.hid hs
    clear hg hs H1
    by_cases hx : x = 92
    · have hb : ((x.toNat : Int) == 92) = true := by rw [hx]; rfl
      have HD2 := Lib.hid (show D = nextG r by rw [HD.out, if_pos hx])
      clear hx HD
      go_wp2_with fail
      refine H2.out.mono ?_
      rintro e w2 ⟨hg2, hp⟩
      revert hp
      cases hN : nextG r with
      | none =>
        intro hp
        obtain rfl : e = _ := hp
        rw [HD2.out, hN]
        exact ⟨rfl, grown_trans HG.out hg2, rfl⟩
      | some q =>
        obtain ⟨y, r'⟩ := q
        rintro ⟨rfl, hs2⟩
        have hDD : D = some (y, r') := by rw [HD2.out, hN]
        have hDD := Lib.hid hDD
        clear hN
        have HG2 := Lib.hid (grown_trans HG.out hg2)
        have HS2 := Lib.hid hs2
        clear hg2 hs2 H2 HG HS hb
        clear HD2
        go_wp2_with fail
        go_ret
        rw [hDD.out]
        exact ⟨HG2.out, rfl, HS2.out⟩
    · have hb : ((x.toNat : Int) == 92) = false := by
        have : x.toNat ≠ 92 := fun h => hx (UInt8.toNat_inj.1 h)
        simp; omega
      have HD2 := Lib.hid (show D = some (x, r) by rw [HD.out, if_neg hx])
      clear hx HD H2
      go_wp2_with fail
      go_ret
      rw [HD2.out]
      exact ⟨HG.out, rfl, HS.out⟩
end Go.Proofs.YtlddnghfjdjglaaDoor
