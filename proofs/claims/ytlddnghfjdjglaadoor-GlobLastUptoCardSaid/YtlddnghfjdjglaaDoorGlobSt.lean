/- glob's set: what its loop knows, and how it grows. -/
import Derived.Test.YtlddnghfjdjglaaDoorGlobScan
import Derived.Test.YtlddnghfjdjglaaDoorRowR
import Derived.Test.YtlddnghfjdjglaaDoorRegionLate
import Derived.Test.YtlddnghfjdjglaaDoorShelf
set_option linter.unusedVariables false
set_option linter.unusedSimpArgs false
namespace Go.Proofs.YtlddnghfjdjglaaDoor
open Go.RowKit

theorem begins_any (l p : List UInt8) (w : World) : Calls Tryd.prog 39 #[.string (strL l), .string (strL p)] w fun e w' => e = .returned (.bool (begins p l)) ∧ w' = w := by
  have h := Tryd.strings_HasPrefix (strL l) (strL p) w
  have e1 : Lib.hasPrefix (strL l).data.toList (strL p).data.toList = begins p l := by simp [strL, Lib.hasPrefix, begins]
  rw [e1] at h
  exact h

theorem elemB : ElemOf Tryd.prog 40 5 (.int .u8 0) 1 1 := ⟨Tryd.underlying40, by kernel_rfl, rfl, by decide⟩
def atK (no : Bool) (F : Option Addr) (n c : Nat) (T : Option Addr) (m d : Nat) : Array Value := #[.bool false, .bool false, .bool no, .slice F n c, .slice T m d]

/-- the variables of set: the scan's block g, the result's g2, the sign's g3; two rows of the call's own behind B -/
structure SetSt (W0 w : World) (B g g2 g3 : Nat) (KZ K : Array Value) (F : Option Addr) (n c : Nat) (T : Option Addr) (m d : Nat) (fs ts l : List UInt8) : Prop where
  grown : W0.grownBy w (some g)
  size : B ≤ w.heap.size
  ord : g < W0.heap.size ∧ W0.heap.size ≤ g2 ∧ g2 < g3 ∧ g3 < B
  scan : Scn w g l
  res : Blk w g2 76 KZ
  blk : Blk w g3 76 K
  f : RowR byteR 5 w B F n c fs
  t : RowR byteR 5 w B T m d ts
  apart : ∀ b, own (.slice F n c) b → own (.slice T m d) b → False

theorem row_byte {w w' : World} {r : Option Nat} {B : Nat} {A : Option Addr} {n c : Nat} {l : List UInt8} (h : RowR byteR 5 w B A n c l) (hg : w.grownBy w' r) (hr : ∀ k, r = some k → own (.slice A n c) k → False) : RowR byteR 5 w' B A n c l :=
  h.grown hg hr fun _ _ _ k => k
/-- a byte put behind a row of one's own, out of a slice elsewhere -/
theorem byte_push {w : World} {B : Nat} {A : Option Addr} {n c : Nat} {l : List UInt8} (h : RowR byteR 5 w B A n c l) (hB : B ≤ w.heap.size) {b : Nat} {x : UInt8} (hx : Sl w 1 (some ⟨b, 0, none⟩) 1 [.int .u8 (x.toNat : Int)]) (hn : n + 1 ≤ 140737488355328) (c0 : Nat) :
    ∃ A' c' w', (Builtin.append_ #[40, 40] 40 #[.slice A n c, .slice (some ⟨b, 0, none⟩) 1 c0]).run Tryd.prog w = .ok (.slice A' (n + 1) c') w' ∧ RowR byteR 5 w' B A' (n + 1) c' (l ++ [x]) ∧ Appended w w' B 5 1 (.slice A n c) (.slice A' (n + 1) c') (n + 1) ((l ++ [x]).map fun y => .int .u8 (y.toNat : Int)) := by
  obtain ⟨xs, h1, h2⟩ := h.row
  have hxs := each_byte h2
  subst hxs
  obtain ⟨A', c', w', run, ap, hc, hcm⟩ := append_sl elemB h1 hx (fun u hu => by simp at hu; subst hu; rfl) (by omega) (by simp only [maxLen]; omega) hB 40 c0
  have he : (l.map fun y => Value.int .u8 (y.toNat : Int)) ++ [.int .u8 (x.toNat : Int)] = (l ++ [x]).map fun y => .int .u8 (y.toNat : Int) := by simp
  rw [he] at ap
  exact ⟨A', c', w', run, ⟨⟨_, ap.own, each_byte_mk _⟩, by rw [List.length_append, h.len]; rfl⟩, ap⟩
theorem grown_own {W0 w w' : World} {g B : Nat} {v : Value} (h : W0.grownBy w (some g)) (k : w.grownBy w' v.ownBlock) (hv : ∀ j, v.ownBlock = some j → B ≤ j) (hB : W0.heap.size ≤ B) : W0.grownBy w' (some g) := by
  cases ho : v.ownBlock with
  | none => rw [ho] at k; exact grown_trans h (k.but _)
  | some j => rw [ho] at k; exact grown_new h k (Nat.le_trans hB (hv j ho))
section
variable {W0 w w' : World} {B g g2 g3 : Nat} {KZ K : Array Value} {F T : Option Addr} {n c m d : Nat} {fs ts l : List UInt8}
theorem SetSt.below (h : SetSt W0 w B g g2 g3 KZ K F n c T m d fs ts l) (hb : Below w.heap.size w w') : SetSt W0 w' B g g2 g3 KZ K F n c T m d fs ts l :=
  ⟨grown_trans h.grown (grown_below hb _), Nat.le_trans h.size hb.size, h.ord, h.scan.below hb h.scan.lt, h.res.below hb h.res.lt, h.blk.below hb h.blk.lt, h.f.below hb, h.t.below hb, h.apart⟩
/-- the scan goes on -/
theorem SetSt.scanned (h : SetSt W0 w B g g2 g3 KZ K F n c T m d fs ts l) {l' : List UInt8} (hg : w.grownBy w' (some g)) (hs : Scn w' g l') : SetSt W0 w' B g g2 g3 KZ K F n c T m d fs ts l' := by
  obtain ⟨o1, o2, o3, o4⟩ := h.ord
  exact ⟨grown_trans h.grown hg, Nat.le_trans h.size hg.size, h.ord, hs, h.res.grown hg (fun e => by injection e with e; omega), h.blk.grown hg (fun e => by injection e with e; omega), row_byte h.f hg (fun k e hk => by injection e with e; have := (h.f.lt hk).1; omega), row_byte h.t hg (fun k e hk => by injection e with e; have := (h.t.lt hk).1; omega), h.apart⟩
/-- the sign's block stored anew -/
theorem SetSt.set (h : SetSt W0 w B g g2 g3 KZ K F n c T m d fs ts l) (i : Nat) (u : Value) : SetSt W0 (w.setCell ⟨g3, i, none⟩ u) B g g2 g3 KZ (K.setIfInBounds i u) F n c T m d fs ts l := by
  obtain ⟨o1, o2, o3, o4⟩ := h.ord
  have hg := grown_set w g3 i u
  exact ⟨grown_new h.grown hg (by omega), Nat.le_trans h.size hg.size, h.ord, h.scan.other (by omega) i u, h.res.other (by omega) i u, h.blk.set_ i u, row_byte h.f hg (fun k e hk => by injection e with e; have := (h.f.lt hk).1; omega), row_byte h.t hg (fun k e hk => by injection e with e; have := (h.t.lt hk).1; omega), h.apart⟩
theorem SetSt.pushF (h : SetSt W0 w B g g2 g3 KZ K F n c T m d fs ts l) {b : Nat} {x : UInt8} (hx : Sl w 1 (some ⟨b, 0, none⟩) 1 [.int .u8 (x.toNat : Int)]) (hn : n + 1 ≤ 140737488355328) (c0 : Nat) :
    ∃ F' c' w', (Builtin.append_ #[40, 40] 40 #[.slice F n c, .slice (some ⟨b, 0, none⟩) 1 c0]).run Tryd.prog w = .ok (.slice F' (n + 1) c') w' ∧ SetSt W0 w' B g g2 g3 KZ K F' (n + 1) c' T m d (fs ++ [x]) ts l ∧ w.grownBy w' (Value.slice F n c).ownBlock := by
  obtain ⟨o1, o2, o3, o4⟩ := h.ord
  obtain ⟨F', c', w', run, hr, ap⟩ := byte_push h.f h.size hx hn c0
  have hmv := Moves.of_app ap
  have hgo : ∀ k, (Value.slice F n c).ownBlock = some k → B ≤ k := fun k hk => (h.f.lt hk).1
  refine ⟨F', c', w', run, ⟨grown_own h.grown ap.grown hgo (by omega), Nat.le_trans h.size ap.grown.size, h.ord, h.scan.grown ap.grown (fun e => by have := hgo g e.symm; omega), h.res.grown ap.grown (fun e => by have := hgo g2 e.symm; omega), h.blk.grown ap.grown (fun e => by have := hgo g3 e.symm; omega), hr, row_byte h.t ap.grown (fun k e hk => h.apart k e hk), fun k h1 h2 => ?_⟩, ap.grown⟩
  exact hmv.ne k (h.t.lt h2).2 (fun h3 => h.apart k h3 h2) h1
theorem SetSt.pushT (h : SetSt W0 w B g g2 g3 KZ K F n c T m d fs ts l) {b : Nat} {x : UInt8} (hx : Sl w 1 (some ⟨b, 0, none⟩) 1 [.int .u8 (x.toNat : Int)]) (hn : m + 1 ≤ 140737488355328) (c0 : Nat) :
    ∃ T' d' w', (Builtin.append_ #[40, 40] 40 #[.slice T m d, .slice (some ⟨b, 0, none⟩) 1 c0]).run Tryd.prog w = .ok (.slice T' (m + 1) d') w' ∧ SetSt W0 w' B g g2 g3 KZ K F n c T' (m + 1) d' fs (ts ++ [x]) l ∧ w.grownBy w' (Value.slice T m d).ownBlock := by
  obtain ⟨o1, o2, o3, o4⟩ := h.ord
  obtain ⟨T', d', w', run, hr, ap⟩ := byte_push h.t h.size hx hn c0
  have hmv := Moves.of_app ap
  have hgo : ∀ k, (Value.slice T m d).ownBlock = some k → B ≤ k := fun k hk => (h.t.lt hk).1
  refine ⟨T', d', w', run, ⟨grown_own h.grown ap.grown hgo (by omega), Nat.le_trans h.size ap.grown.size, h.ord, h.scan.grown ap.grown (fun e => by have := hgo g e.symm; omega), h.res.grown ap.grown (fun e => by have := hgo g2 e.symm; omega), h.blk.grown ap.grown (fun e => by have := hgo g3 e.symm; omega), row_byte h.f ap.grown (fun k e hk => h.apart k hk e), hr, fun k h1 h2 => ?_⟩, ap.grown⟩
  exact hmv.ne k (h.f.lt h1).2 (fun h3 => h.apart k h1 h3) h2
/-- a byte in a slice of its own -/
theorem SetSt.elem (h : SetSt W0 w B g g2 g3 KZ K F n c T m d fs ts l) (x : UInt8) : ∃ w' b, w.alloc (.cells #[.int .u8 (x.toNat : Int)] 5) = w' ∧ w.heap.size = b ∧ Sl w' 1 (some ⟨b, 0, none⟩) 1 [.int .u8 (x.toNat : Int)] ∧ ¬ own (.slice F n c) b ∧ ¬ own (.slice T m d) b ∧ SetSt W0 w' B g g2 g3 KZ K F n c T m d fs ts l ∧ Below w.heap.size w w' :=
  ⟨_, _, rfl, rfl, Sl.one w _ _, fun hb => Nat.lt_irrefl _ (h.f.lt hb).2, fun hb => Nat.lt_irrefl _ (h.t.lt hb).2, h.below ((Below.refl _ _).alloc (Nat.le_refl _) _), (Below.refl _ _).alloc (Nat.le_refl _) _⟩
/-- a slice elsewhere than in the row appended to -/
theorem sl_else {v : Value} {b : Nat} {x : Value} (hx : Sl w 1 (some ⟨b, 0, none⟩) 1 [x]) (hg : w.grownBy w' v.ownBlock) (hne : ¬ own v b) : Sl w' 1 (some ⟨b, 0, none⟩) 1 [x] := by
  refine ⟨hx.1, fun h0 => ?_⟩
  obtain ⟨b', off, e, hb, hc⟩ := hx.2 h0
  injection e with e
  injection e with e1 e2
  subst e1 e2
  refine ⟨b, 0, rfl, Nat.lt_of_lt_of_le hb hg.size, fun j u hu => ?_⟩
  rw [World.cell?_of_block (hg.block b hb (fun e => hne e.symm))]
  exact hc j u hu
end
end Go.Proofs.YtlddnghfjdjglaaDoor
