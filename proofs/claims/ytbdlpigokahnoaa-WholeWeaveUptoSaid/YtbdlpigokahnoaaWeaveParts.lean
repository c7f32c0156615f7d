/- Parts of a merge in memory; rows that grow beside a part's own block. -/
import Derived.Test.YtbdlpigokahnoaaWeaveText
import Derived.Test.YtbdlpigokahnoaaWeaveKind
import Derived.Test.YtbdlpigokahnoaaHunks
set_option linter.unusedVariables false
namespace Go.Proofs.Ytbdlpigokahnoaa
open Go.RowKit

def ptR : Rd Pt := prodR (intR .i64) (prodR (slR strR) (prodR (slR strR) (slR strR)))
def ptCells (z : Int) (A1 A2 A3 : Option Addr) (n1 n2 n3 c1 c2 c3 : Nat) : List Value := [.int .i64 z, .slice A1 n1 c1, .slice A2 n2 c2, .slice A3 n3 c3]

/-- a slice of strings in memory with room for it -/
structure StrAt (w : World) (av : Av) (A : Option Addr) (n c : Nat) (l : List ByteArray) : Prop where
  len : l.length = n
  cap : n ≤ c
  max : c ≤ maxLen
  sl : SlOf strR w av A l

theorem StrAt.str {w : World} {av : Av} {A : Option Addr} {n c : Nat} {l : List ByteArray} (h : StrAt w av A n c l) : Sl w 1 A n (strV l) := by
  have := h.sl.str; rw [h.len] at this; exact this
theorem StrAt.moves {w w' : World} {av av' : Av} {A : Option Addr} {n c : Nat} {l : List ByteArray} (h : StrAt w av A n c l) (m : Moves w w' av av') : StrAt w' av' A n c l := ⟨h.len, h.cap, h.max, h.sl.stable m⟩

theorem pt_cells {w : World} {av : Av} {cs : List Value} {p : Pt} (hr : ptR.R w av cs p) :
    ∃ A1 A2 A3 n1 n2 n3 c1 c2 c3, cs = ptCells p.1 A1 A2 A3 n1 n2 n3 c1 c2 c3 ∧ (Lit.int .i64 p.1).wf = true ∧ StrAt w av A1 n1 c1 p.2.1 ∧ StrAt w av A2 n2 c2 p.2.2.1 ∧ StrAt w av A3 n3 c3 p.2.2.2 := by
  obtain ⟨x1, x2, rfl, ⟨rfl, hw⟩, y1, y2, rfl, ⟨A1, c1, rfl, a1, a2, a3⟩, z1, z2, rfl, ⟨A2, c2, rfl, b1, b2, b3⟩, ⟨A3, c3, rfl, d1, d2, d3⟩⟩ := hr
  exact ⟨A1, A2, A3, _, _, _, c1, c2, c3, rfl, hw, ⟨rfl, a1, a2, a3⟩, ⟨rfl, b1, b2, b3⟩, ⟨rfl, d1, d2, d3⟩⟩
theorem pt_mk {w : World} {av : Av} {z : Int} {b o t : List ByteArray} {A1 A2 A3 : Option Addr} {n1 n2 n3 c1 c2 c3 : Nat} (hw : (Lit.int .i64 z).wf = true) (h1 : StrAt w av A1 n1 c1 b) (h2 : StrAt w av A2 n2 c2 o) (h3 : StrAt w av A3 n3 c3 t) :
    ptR.R w av (ptCells z A1 A2 A3 n1 n2 n3 c1 c2 c3) (z, b, o, t) := by
  obtain ⟨rfl, a1, a2, a3⟩ := h1
  obtain ⟨rfl, b1, b2, b3⟩ := h2
  obtain ⟨rfl, d1, d2, d3⟩ := h3
  exact ⟨[_], [_, _, _], rfl, ⟨rfl, hw⟩, [_], [_, _], rfl, ⟨A1, c1, rfl, a1, a2, a3⟩, [_], [_], rfl, ⟨A2, c2, rfl, b1, b2, b3⟩, ⟨A3, c3, rfl, d1, d2, d3⟩⟩

theorem pt_look {w : World} {av : Av} {A : Option Addr} {n i : Nat} {ps : List Pt} (h : SlOf ptR w av A ps) (hl : ps.length = n) (hi : i < n) :
    ∃ (b off : Nat) (z : Int) (x y t : List ByteArray) (A1 A2 A3 : Option Addr) (n1 n2 n3 c1 c2 c3 : Nat), A = some ⟨b, off, none⟩ ∧ b < w.heap.size ∧ ps[i]? = some (z, x, y, t) ∧ (Lit.int .i64 z).wf = true ∧
      w.cell? ⟨b, off + i * 4, none⟩ = some (.int .i64 z) ∧ w.cell? ⟨b, off + i * 4 + 1, none⟩ = some (.slice A1 n1 c1) ∧ w.cell? ⟨b, off + i * 4 + 2, none⟩ = some (.slice A2 n2 c2) ∧ w.cell? ⟨b, off + i * 4 + 3, none⟩ = some (.slice A3 n3 c3) ∧
      StrAt w av A1 n1 c1 x ∧ StrAt w av A2 n2 c2 y ∧ StrAt w av A3 n3 c3 t ∧ ¬ av b := by
  obtain ⟨b, off, cs, ⟨z, x, y, t⟩, e, hb, hx, hr, hc, hav⟩ := h.look hl hi
  obtain ⟨A1, A2, A3, n1, n2, n3, c1, c2, c3, rfl, hw, h1, h2, h3⟩ := pt_cells hr
  exact ⟨b, off, z, x, y, t, A1, A2, A3, n1, n2, n3, c1, c2, c3, e, hb, hx, hw, hc 0 _ rfl, hc 1 _ rfl, hc 2 _ rfl, hc 3 _ rfl, h1, h2, h3, hav⟩

/-! ### a row of strings of the call's own beside a block that stays -/
structure TextAt (w0 : World) (g : Nat) (T : TypeId) (cs : Array Value) (d : List ByteArray) (n : Nat) (A : Option Addr) (c : Nat) (w : World) : Prop where
  len : d.length = n
  own : w.ownsRow w0.heap.size 9 1 (.slice A n c) n (strV d)
  below : Below w0.heap.size w0 w
  blk : Blk w g T cs
  ne : (Value.slice A n c).ownBlock ≠ some g

section
variable {w0 w : World} {g : Nat} {T : TypeId} {cs : Array Value} {d : List ByteArray} {n : Nat} {A : Option Addr} {c : Nat}
theorem TextAt.cell (h : TextAt w0 g T cs d n A c w) (i : Nat) : w.cell? ⟨g, i, none⟩ = cs[i]? := h.blk.cell i
theorem TextAt.step (h : TextAt w0 g T cs d n A c w) {w1 : World} (hb : Below w.heap.size w w1) : TextAt w0 g T cs d n A c w1 :=
  ⟨h.len, own_below h.own hb, h.below.trans (hb.mono h.below.size), h.blk.below hb h.blk.lt, h.ne⟩
theorem TextAt.app (h : TextAt w0 g T cs d n A c w) {B : Option Addr} {m : Nat} {l : List ByteArray} (hs : Sl w 1 B m (strV l)) (hb : n + m ≤ 1000000000) (cB : Nat) :
    ∃ A' c' w', (Builtin.append_ #[23, 23] 23 #[.slice A n c, .slice B m cB]).run Try.prog w = .ok (.slice A' (n + m) c') w' ∧ TextAt w0 g T cs (d ++ l) (n + m) A' c' w' := by
  obtain ⟨A', c', w', hrun, hap, h1, h2⟩ := append_sl (P := Try.prog) elemStr h.own hs (strV_one l) (by omega) (by simp only [maxLen]; omega) h.below.size 23 cB
  refine ⟨A', c', w', hrun, by rw [List.length_append, h.len, hs.strLen], ?_, h.below.trans hap.below, h.blk.grown hap.grown (fun e => h.ne e.symm), hap.ne h.blk.lt h.ne⟩
  rw [← strV_append]; exact hap.own
theorem TextAt.one (h : TextAt w0 g T cs d n A c w) (s : ByteArray) (hb : n + 1 ≤ 1000000000) {g1 : Nat} (hg1 : w.heap.size = g1) :
    ∃ A' c' w', (Builtin.append_ #[23, 23] 23 #[.slice A n c, .slice (some ⟨g1, 0, none⟩) 1 1]).run Try.prog (w.alloc (.cells #[.string s] 9)) = .ok (.slice A' (n + 1) c') w' ∧ TextAt w0 g T cs (d ++ [s]) (n + 1) A' c' w' := by
  have h1 : TextAt w0 g T cs d n A c (w.alloc (.cells #[.string s] 9)) := h.step ((Below.refl _ _).alloc (Nat.le_refl _) _)
  subst hg1
  exact h1.app (l := [s]) (Sl.one w (.string s) _) hb 1
theorem TextAt.start (hl : d.length = n) (ho : w.ownsRow w0.heap.size 9 1 (.slice A n c) n (strV d)) (hb : Below w0.heap.size w0 w) (T : TypeId) (cs : Array Value) : TextAt w0 w.heap.size T cs d n A c (w.alloc (.cells cs T)) :=
  ⟨hl, own_below ho ((Below.refl _ _).alloc (Nat.le_refl _) _), hb.alloc hb.size _, Blk.new w T cs, own_lt ho (Nat.le_refl _)⟩
theorem TextAt.room (h : TextAt w0 g T cs d n A c w) : n ≤ c ∧ c ≤ maxLen := own_cap h.own
end
end Go.Proofs.Ytbdlpigokahnoaa
