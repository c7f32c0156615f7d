/- Hunks in memory: lines of a list that are others in another list. -/
import Derived.Test.YtbdlpigokahnoaaLinesPlain
import Derived.Test.YtbdlpigokahnoaaRd
set_option linter.unusedVariables false
namespace Go.Proofs.Ytbdlpigokahnoaa
open Go.RowKit

abbrev Hk := Int × List ByteArray × List ByteArray
def hkR : Rd Hk := prodR (intR .i64) (prodR (slR strR) (slR strR))

theorem hk_cells {w : World} {av : Av} {cs : List Value} {h : Hk} (hr : hkR.R w av cs h) :
    ∃ A1 c1 A2 c2, cs = [.int .i64 h.1, .slice A1 h.2.1.length c1, .slice A2 h.2.2.length c2] ∧ (Lit.int .i64 h.1).wf = true ∧ h.2.1.length ≤ c1 ∧ c1 ≤ maxLen ∧ SlOf strR w av A1 h.2.1 ∧ h.2.2.length ≤ c2 ∧ c2 ≤ maxLen ∧ SlOf strR w av A2 h.2.2 := by
  obtain ⟨x1, x2, rfl, ⟨rfl, hw⟩, y1, y2, rfl, ⟨A1, c1, rfl, a1, a2, a3⟩, ⟨A2, c2, rfl, b1, b2, b3⟩⟩ := hr
  exact ⟨A1, c1, A2, c2, rfl, hw, a1, a2, a3, b1, b2, b3⟩
theorem hk_mk {w : World} {av : Av} {z : Int} {l1 l2 : List ByteArray} {A1 A2 : Option Addr} {c1 c2 : Nat} (hw : (Lit.int .i64 z).wf = true) (a1 : l1.length ≤ c1) (a2 : c1 ≤ maxLen) (a3 : SlOf strR w av A1 l1) (b1 : l2.length ≤ c2) (b2 : c2 ≤ maxLen) (b3 : SlOf strR w av A2 l2) :
    hkR.R w av [.int .i64 z, .slice A1 l1.length c1, .slice A2 l2.length c2] (z, l1, l2) :=
  ⟨[_], [_, _], rfl, ⟨rfl, hw⟩, [_], [_], rfl, ⟨A1, c1, rfl, a1, a2, a3⟩, ⟨A2, c2, rfl, b1, b2, b3⟩⟩

theorem hk_look {w : World} {av : Av} {A : Option Addr} {n i : Nat} {hs : List Hk} (h : SlOf hkR w av A hs) (hl : hs.length = n) (hi : i < n) :
    ∃ (b off : Nat) (z : Int) (l1 l2 : List ByteArray) (A1 A2 : Option Addr) (c1 c2 : Nat), A = some ⟨b, off, none⟩ ∧ b < w.heap.size ∧ hs[i]? = some (z, l1, l2) ∧ (Lit.int .i64 z).wf = true ∧
      w.cell? ⟨b, off + i * 3, none⟩ = some (.int .i64 z) ∧ w.cell? ⟨b, off + i * 3 + 1, none⟩ = some (.slice A1 l1.length c1) ∧ w.cell? ⟨b, off + i * 3 + 2, none⟩ = some (.slice A2 l2.length c2) ∧
      l1.length ≤ c1 ∧ c1 ≤ maxLen ∧ SlOf strR w av A1 l1 ∧ l2.length ≤ c2 ∧ c2 ≤ maxLen ∧ SlOf strR w av A2 l2 := by
  obtain ⟨b, off, cs, ⟨z, l1, l2⟩, e, hb, hx, hr, hc, _⟩ := h.look hl hi
  obtain ⟨A1, c1, A2, c2, rfl, hw, a1, a2, a3, b1, b2, b3⟩ := hk_cells hr
  exact ⟨b, off, z, l1, l2, A1, A2, c1, c2, e, hb, hx, hw, hc 0 _ rfl, hc 1 _ rfl, hc 2 _ rfl, a1, a2, a3, b1, b2, b3⟩

theorem Appended.cell {w w' : World} {base : Nat} {e : TypeId} {sz : Nat} {v v' : Value} {n : Nat} {xs : List Value} (h : Appended w w' base e sz v v' n xs) {b : Nat} (hb : b < w.heap.size) (hne : v.ownBlock ≠ some b) (o : Nat) :
    w'.cell? ⟨b, o, none⟩ = w.cell? ⟨b, o, none⟩ := World.cell?_of_block (h.grown.block b hb (fun e => hne e.symm))
theorem Appended.cells3 {w w' : World} {base : Nat} {e : TypeId} {sz : Nat} {v v' : Value} {n : Nat} {xs : List Value} (h : Appended w w' base e sz v v' n xs) {b : Nat} (hb : b < w.heap.size) (hne : v.ownBlock ≠ some b) {x y z : Option Value}
    (hc : w.cell? ⟨b, 0, none⟩ = x ∧ w.cell? ⟨b, 1, none⟩ = y ∧ w.cell? ⟨b, 2, none⟩ = z) : w'.cell? ⟨b, 0, none⟩ = x ∧ w'.cell? ⟨b, 1, none⟩ = y ∧ w'.cell? ⟨b, 2, none⟩ = z :=
  ⟨(h.cell hb hne 0).trans hc.1, (h.cell hb hne 1).trans hc.2.1, (h.cell hb hne 2).trans hc.2.2⟩
theorem Appended.ne {w w' : World} {base : Nat} {e : TypeId} {sz : Nat} {v v' : Value} {n : Nat} {xs : List Value} (h : Appended w w' base e sz v v' n xs) {b : Nat} (hb : b < w.heap.size) (hne : v.ownBlock ≠ some b) : v'.ownBlock ≠ some b := by
  rcases h.place with hp | hp
  · rw [hp]; exact hne
  · rw [hp]; intro e; injection e with e; omega
theorem own_lt {w : World} {base : Nat} {e : TypeId} {sz : Nat} {v : Value} {n : Nat} {xs : List Value} (h : w.ownsRow base e sz v n xs) {g : Nat} (hg : w.heap.size ≤ g) : v.ownBlock ≠ some g := fun e => by
  have := (h.lt g e).2; omega

/-! ### Patch -/
def patchG (a : List ByteArray) : Nat → List Hk → Option (List ByteArray)
  | i, [] => some (a.drop i)
  | i, h :: r => if h.1 < (i : Int) ∨ (a.length : Int) < h.1 ∨ (a.length : Int) - h.1 < (h.2.1.length : Int) ∨ (a.drop h.1.toNat).take h.2.1.length ≠ h.2.1 then none
    else (patchG a (h.1.toNat + h.2.1.length) r).map fun t => (a.drop i).take (h.1.toNat - i) ++ (h.2.2 ++ t)

/-- how many lines hunks put in -/
def newSum (hs : List Hk) : Nat := (hs.map fun h => h.2.2.length).sum
theorem newSum_take_le (hs : List Hk) (k : Nat) : newSum (hs.take k) ≤ newSum hs := by
  have h := congrArg newSum (List.take_append_drop k hs)
  simp only [newSum, List.map_append, List.sum_append] at h
  simp only [newSum]; omega
theorem newSum_take_succ {hs : List Hk} {k : Nat} {h : Hk} (hx : hs[k]? = some h) : newSum (hs.take (k + 1)) = newSum (hs.take k) + h.2.2.length := by
  rw [List.take_add_one, hx]
  simp [newSum]
theorem hdrop_cons {hs : List Hk} {k : Nat} {h : Hk} (hx : hs[k]? = some h) : hs.drop k = h :: hs.drop (k + 1) := by
  obtain ⟨hi, rfl⟩ := List.getElem?_eq_some_iff.1 hx
  exact List.drop_eq_getElem_cons hi
end Go.Proofs.Ytbdlpigokahnoaa
