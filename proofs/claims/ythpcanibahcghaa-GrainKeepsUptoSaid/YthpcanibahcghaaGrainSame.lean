/- towlinelaw02.same: two readings of one value are the same. -/
import Derived.Test.YthpcanibahcghaaGrainMake
set_option linter.unusedVariables false
namespace Go.Proofs.Ythpcanibahcghaa
open Go.RowKit
attribute [local go_sem ↓] cvt_eq

/-- the two values in their boxes -/
structure Two (w w1 : World) (g : Nat) (k : Int) (u : Nat) (b : List UInt8) (f : Nat) (l : List Val) (A : Option Addr) (cA : Nat) (L : Option Addr) (cL : Nat) (B : Option Addr) (cB : Nat) (M : Option Addr) (cM : Nat) : Prop where
  below : Below w.heap.size w w1
  x : Blk w1 g 27 (cellsV k u A b.length cA f L l.length cL)
  y : Blk w1 (g + 1) 27 (cellsV k u B b.length cB f M l.length cM)
  sa : Sl w1 1 A b.length (bytesV b)
  sb : Sl w1 1 B b.length (bytesV b)
  la : SlOf valR w1 no L l
  lb : SlOf valR w1 no M l

set_option maxRecDepth 100000 in
set_option maxHeartbeats 4000000 in
theorem same_step (k : Int) (u : Nat) (b : List UInt8) (f : Nat) (l : List Val) (A : Option Addr) (cA : Nat) (L : Option Addr) (cL : Nat) (B : Option Addr) (cB : Nat) (M : Option Addr) (cM : Nat) (w : World)
    (hll : l.length ≤ 9223372036854775807)
    (ha : valR.R w no (cellsV k u A b.length cA f L l.length cL).toList (.mk k u b f l)) (hb : valR.R w no (cellsV k u B b.length cB f M l.length cM).toList (.mk k u b f l))
    (ih : ∀ x ∈ l, ∀ (c1 c2 : List Value) (w : World), valR.R w no c1 x → valR.R w no c2 x → Calls Try.prog 14 #[.agg c1.toArray, .agg c2.toArray] w fun e w' => e = .returned (.bool true) ∧ Below w.heap.size w w') :
    Calls Try.prog 14 #[.agg (cellsV k u A b.length cA f L l.length cL), .agg (cellsV k u B b.length cB f M l.length cM)] w fun e w' => e = .returned (.bool true) ∧ Below w.heap.size w w' := by
  obtain ⟨w1, hw1⟩ : ∃ w1, w1 = (w.alloc (.cells (cellsV k u A b.length cA f L l.length cL) 27)).alloc (.cells (cellsV k u B b.length cB f M l.length cM) 27) := ⟨_, rfl⟩
  have HT : Hid (Two w w1 w.heap.size k u b f l A cA L cL B cB M cM) := by
    obtain ⟨A', cA', L', cL', e1, _, _, _, ⟨_, _, a1⟩, _, _, a2⟩ := valR_iff.1 ha
    obtain ⟨B', cB', M', cM', e2, _, _, _, ⟨_, _, b1⟩, _, _, b2⟩ := valR_iff.1 hb
    simp [cellsV] at e1 e2
    obtain ⟨⟨rfl, rfl⟩, rfl, rfl⟩ := e1
    obtain ⟨⟨rfl, rfl⟩, rfl, rfl⟩ := e2
    have hbl : Below w.heap.size w w1 := by rw [hw1]; exact ((Below.refl _ _).alloc (Nat.le_refl _) _).alloc (by simp) _
    refine Lib.hid ⟨hbl, ?_, ?_, (a1.stable (Moves.of_below hbl)).bytes, (b1.stable (Moves.of_below hbl)).bytes, a2.stable (Moves.of_below hbl), b2.stable (Moves.of_below hbl)⟩
    · rw [hw1]; exact (Blk.new w _ _).alloc _
    · rw [hw1]
      have := Blk.new (w.alloc (.cells (cellsV k u A b.length cA f L l.length cL) 27)) 27 (cellsV k u B b.length cB f M l.length cM)
      simpa using this
  have HIH := Lib.hid ih
  clear ih ha hb
  unfold cellsV at hw1 ⊢
  go_enter Try.func14, Try.ntmps14
  go_upto_region 1 with fail
  rw [← hw1]
  clear hw1
  generalize hg : w.heap.size = g at *
  have HG := Lib.hid hg
  clear hg
  have hx := HT.out.x.lt
  have hy := HT.out.y.lt
  have hef := ext_bits
  go_cut [44] (fun v wx => v = .bool false ∧ Below w1.heap.size w1 wx)
  case first =>
    have x0 : w1.cell? ⟨g, 0, none⟩ = some (.int .i64 k) := HT.out.x.cell 0
    have x1 : w1.cell? ⟨g, 1, none⟩ = some (.int .u64 (u : Int)) := HT.out.x.cell 1
    have x2 : w1.cell? ⟨g, 2, none⟩ = some (.slice A b.length cA) := HT.out.x.cell 2
    have x3 : w1.cell? ⟨g, 3, none⟩ = some (.float .f64 f) := HT.out.x.cell 3
    have x4 : w1.cell? ⟨g, 4, none⟩ = some (.slice L l.length cL) := HT.out.x.cell 4
    have y0 : w1.cell? ⟨g + 1, 0, none⟩ = some (.int .i64 k) := HT.out.y.cell 0
    have y1 : w1.cell? ⟨g + 1, 1, none⟩ = some (.int .u64 (u : Int)) := HT.out.y.cell 1
    have y2 : w1.cell? ⟨g + 1, 2, none⟩ = some (.slice B b.length cB) := HT.out.y.cell 2
    have y3 : w1.cell? ⟨g + 1, 3, none⟩ = some (.float .f64 f) := HT.out.y.cell 3
    have y4 : w1.cell? ⟨g + 1, 4, none⟩ = some (.slice M l.length cM) := HT.out.y.cell 4
    refine wp_region_held (S := fun w => Below w1.heap.size w1 w) (by kernel_rfl) ?_
    change wpAnyH _ _ _ _ _ _ _ _ (World.drew _)
    refine held_take (i := 0) (v := ?_) (a' := ?_) rfl (by kernel_rfl) (by kernel_rfl) (by kernel_rfl) (fun _ _ _ h => h) (by rfl) (Same.below ⟨1, rfl⟩ _) ?_ ?_ ?_
    rotate_left 2
    · (intro w hS; go_simp; try with_reducible rfl)
    · (go_simp; try with_reducible rfl)
    refine held_take (i := 1) (v := ?_) (a' := ?_) rfl (by kernel_rfl) (by kernel_rfl) (by kernel_rfl) (fun _ _ _ h => h) (by rfl) (Same.below ⟨1, rfl⟩ _) ?_ ?_ ?_
    rotate_left 2
    · (intro w hS; have t := (hS.cell (p := ⟨g, 0, none⟩) hx).trans x0; go_simp; try with_reducible rfl)
    · (go_simp; try with_reducible rfl)
    refine held_take (i := 2) (v := ?_) (a' := ?_) rfl (by kernel_rfl) (by kernel_rfl) (by kernel_rfl) (fun _ _ _ h => h) (by rfl) (Same.below ⟨1, rfl⟩ _) ?_ ?_ ?_
    rotate_left 2
    · (intro w hS; go_simp; try with_reducible rfl)
    · (go_simp; try with_reducible rfl)
    refine held_take (i := 3) (v := ?_) (a' := ?_) rfl (by kernel_rfl) (by kernel_rfl) (by kernel_rfl) (fun _ _ _ h => h) (by rfl) (Same.below ⟨1, rfl⟩ _) ?_ ?_ ?_
    rotate_left 2
    · (intro w hS; have t := (hS.cell (p := ⟨g + 1, 0, none⟩) hy).trans y0; go_simp; try with_reducible rfl)
    · (go_simp; try with_reducible rfl)
    refine held_take (i := 4) (v := ?_) (a' := ?_) rfl (by kernel_rfl) (by kernel_rfl) (by kernel_rfl) (fun _ _ _ h => h) (by rfl) (Same.below ⟨1, rfl⟩ _) ?_ ?_ ?_
    rotate_left 2
    · (intro w hS; go_simp; try with_reducible rfl)
    · (go_simp; try with_reducible rfl)
    refine held_take (i := 5) (v := ?_) (a' := ?_) rfl (by kernel_rfl) (by kernel_rfl) (by kernel_rfl) (fun _ _ _ h => h) (by rfl) (Same.below ⟨1, rfl⟩ _) ?_ ?_ ?_
    rotate_left 2
    · (intro w hS; go_simp; try with_reducible rfl)
    · (go_simp; try with_reducible rfl)
    refine held_take (i := 6) (v := ?_) (a' := ?_) rfl (by kernel_rfl) (by kernel_rfl) (by kernel_rfl) (fun _ _ _ h => h) (by rfl) (Same.below ⟨1, rfl⟩ _) ?_ ?_ ?_
    rotate_left 2
    · (intro w hS; go_simp; try with_reducible rfl)
    · (go_simp; try with_reducible rfl)
    refine held_take (i := 7) (v := ?_) (a' := ?_) rfl (by kernel_rfl) (by kernel_rfl) (by kernel_rfl) (fun _ _ _ h => h) (by rfl) (Same.below ⟨1, rfl⟩ _) ?_ ?_ ?_
    rotate_left 2
    · (intro w hS; have t := (hS.cell (p := ⟨g, 1, none⟩) hx).trans x1; go_simp; try with_reducible rfl)
    · (go_simp; try with_reducible rfl)
    refine held_take (i := 8) (v := ?_) (a' := ?_) rfl (by kernel_rfl) (by kernel_rfl) (by kernel_rfl) (fun _ _ _ h => h) (by rfl) (Same.below ⟨1, rfl⟩ _) ?_ ?_ ?_
    rotate_left 2
    · (intro w hS; go_simp; try with_reducible rfl)
    · (go_simp; try with_reducible rfl)
    refine held_take (i := 9) (v := ?_) (a' := ?_) rfl (by kernel_rfl) (by kernel_rfl) (by kernel_rfl) (fun _ _ _ h => h) (by rfl) (Same.below ⟨1, rfl⟩ _) ?_ ?_ ?_
    rotate_left 2
    · (intro w hS; have t := (hS.cell (p := ⟨g + 1, 1, none⟩) hy).trans y1; go_simp; try with_reducible rfl)
    · (go_simp; try with_reducible rfl)
    refine held_take (i := 10) (v := ?_) (a' := ?_) rfl (by kernel_rfl) (by kernel_rfl) (by kernel_rfl) (fun _ _ _ h => h) (by rfl) (Same.below ⟨1, rfl⟩ _) ?_ ?_ ?_
    rotate_left 2
    · (intro w hS; go_simp; try with_reducible rfl)
    · (go_simp; try with_reducible rfl)
    refine held_take (i := 11) (v := ?_) (a' := ?_) rfl (by kernel_rfl) (by kernel_rfl) (by kernel_rfl) (fun _ _ _ h => h) (by rfl) (Same.below ⟨1, rfl⟩ _) ?_ ?_ ?_
    rotate_left 2
    · (intro w hS; go_simp; try with_reducible rfl)
    · (go_simp; try with_reducible rfl)
    refine held_take (i := 12) (v := ?_) (a' := ?_) rfl (by kernel_rfl) (by kernel_rfl) (by kernel_rfl) (fun _ _ _ h => h) (by rfl) (Same.below ⟨1, rfl⟩ _) ?_ ?_ ?_
    rotate_left 2
    · (intro w hS; go_simp; try with_reducible rfl)
    · (go_simp; try with_reducible rfl)
    refine held_take (i := 13) (v := ?_) (a' := ?_) rfl (by kernel_rfl) (by kernel_rfl) (by kernel_rfl) (fun _ _ _ h => h) (by rfl) (Same.below ⟨1, rfl⟩ _) ?_ ?_ ?_
    rotate_left 2
    · (intro w hS; go_simp; try with_reducible rfl)
    · (go_simp; try with_reducible rfl)
    refine held_take (i := 14) (v := ?_) (a' := ?_) rfl (by kernel_rfl) (by kernel_rfl) (by kernel_rfl) (fun _ _ _ h => h) (by rfl) (Same.below ⟨1, rfl⟩ _) ?_ ?_ ?_
    rotate_left 2
    · (intro w hS; have t := (hS.cell (p := ⟨g, 2, none⟩) hx).trans x2; go_simp; try with_reducible rfl)
    · (go_simp; try with_reducible rfl)
    refine held_take (i := 15) (v := ?_) (a' := ?_) rfl (by kernel_rfl) (by kernel_rfl) (by kernel_rfl) (fun _ _ _ h => h) (by rfl) (Same.below ⟨1, rfl⟩ _) ?_ ?_ ?_
    rotate_left 2
    · (intro w hS; have t := cvt_of (HT.out.sa.below hS) cA; go_simp; try with_reducible rfl)
    · (go_simp; try with_reducible rfl)
    refine held_take (i := 16) (v := ?_) (a' := ?_) rfl (by kernel_rfl) (by kernel_rfl) (by kernel_rfl) (fun _ _ _ h => h) (by rfl) (Same.below ⟨1, rfl⟩ _) ?_ ?_ ?_
    rotate_left 2
    · (intro w hS; go_simp; try with_reducible rfl)
    · (go_simp; try with_reducible rfl)
    refine held_take (i := 17) (v := ?_) (a' := ?_) rfl (by kernel_rfl) (by kernel_rfl) (by kernel_rfl) (fun _ _ _ h => h) (by rfl) (Same.below ⟨1, rfl⟩ _) ?_ ?_ ?_
    rotate_left 2
    · (intro w hS; have t := (hS.cell (p := ⟨g + 1, 2, none⟩) hy).trans y2; go_simp; try with_reducible rfl)
    · (go_simp; try with_reducible rfl)
    refine held_take (i := 18) (v := ?_) (a' := ?_) rfl (by kernel_rfl) (by kernel_rfl) (by kernel_rfl) (fun _ _ _ h => h) (by rfl) (Same.below ⟨1, rfl⟩ _) ?_ ?_ ?_
    rotate_left 2
    · (intro w hS; have t := cvt_of (HT.out.sb.below hS) cB; go_simp; try with_reducible rfl)
    · (go_simp; try with_reducible rfl)
    refine held_take (i := 19) (v := ?_) (a' := ?_) rfl (by kernel_rfl) (by kernel_rfl) (by kernel_rfl) (fun _ _ _ h => h) (by rfl) (Same.below ⟨1, rfl⟩ _) ?_ ?_ ?_
    rotate_left 2
    · (intro w hS; go_simp; try with_reducible rfl)
    · (go_simp; try with_reducible rfl)
    refine held_take (i := 20) (v := ?_) (a' := ?_) rfl (by kernel_rfl) (by kernel_rfl) (by kernel_rfl) (fun _ _ _ h => h) (by rfl) (Same.below ⟨1, rfl⟩ _) ?_ ?_ ?_
    rotate_left 2
    · (intro w hS; go_simp; try with_reducible rfl)
    · (go_simp; try with_reducible rfl)
    refine held_take (i := 21) (v := ?_) (a' := ?_) rfl (by kernel_rfl) (by kernel_rfl) (by kernel_rfl) (fun _ _ _ h => h) (by rfl) (Same.below ⟨1, rfl⟩ _) ?_ ?_ ?_
    rotate_left 2
    · (intro w hS; go_simp; try with_reducible rfl)
    · (go_simp; try with_reducible rfl)
    refine held_take (i := 22) (v := ?_) (a' := ?_) rfl (by kernel_rfl) (by kernel_rfl) (by kernel_rfl) (fun _ _ _ h => h) (by rfl) (Same.below ⟨1, rfl⟩ _) ?_ ?_ ?_
    rotate_left 2
    · (intro w hS; go_simp; try with_reducible rfl)
    · (go_simp; try with_reducible rfl)
    refine held_take (i := 23) (v := ?_) (a' := ?_) rfl (by kernel_rfl) (by kernel_rfl) (by kernel_rfl) (fun _ _ _ h => h) (by rfl) (Same.below ⟨1, rfl⟩ _) ?_ ?_ ?_
    rotate_left 2
    · (intro w hS; have t := (hS.cell (p := ⟨g, 3, none⟩) hx).trans x3; go_simp; try with_reducible rfl)
    · (go_simp; try with_reducible rfl)
    refine held_take (i := 24) (v := ?_) (a' := ?_) rfl (by kernel_rfl) (by kernel_rfl) (by kernel_rfl) (fun _ _ _ h => h) (by rfl) (Same.below ⟨1, rfl⟩ _) ?_ ?_ ?_
    rotate_left 2
    · (intro w hS; go_simp; try with_reducible rfl)
    · (go_simp; try with_reducible rfl)
    refine held_take (i := 25) (v := ?_) (a' := ?_) rfl (by kernel_rfl) (by kernel_rfl) (by kernel_rfl) (fun _ _ _ h => h) (by rfl) (Same.below ⟨1, rfl⟩ _) ?_ ?_ ?_
    rotate_left 2
    · (intro w hS; go_simp; try with_reducible rfl)
    · (go_simp; try with_reducible rfl)
    refine held_take (i := 26) (v := ?_) (a' := ?_) rfl (by kernel_rfl) (by kernel_rfl) (by kernel_rfl) (fun _ _ _ h => h) (by rfl) (Same.below ⟨1, rfl⟩ _) ?_ ?_ ?_
    rotate_left 2
    · (intro w hS; have t := (hS.cell (p := ⟨g + 1, 3, none⟩) hy).trans y3; go_simp; try with_reducible rfl)
    · (go_simp; try with_reducible rfl)
    refine held_take (i := 27) (v := ?_) (a' := ?_) rfl (by kernel_rfl) (by kernel_rfl) (by kernel_rfl) (fun _ _ _ h => h) (by rfl) (Same.below ⟨1, rfl⟩ _) ?_ ?_ ?_
    rotate_left 2
    · (intro w hS; go_simp; try with_reducible rfl)
    · (go_simp; try with_reducible rfl)
    refine held_take (i := 28) (v := ?_) (a' := ?_) rfl (by kernel_rfl) (by kernel_rfl) (by kernel_rfl) (fun _ _ _ h => h) (by rfl) (Same.below ⟨1, rfl⟩ _) ?_ ?_ ?_
    rotate_left 2
    · (intro w hS; go_simp; try with_reducible rfl)
    · (go_simp; try with_reducible rfl)
    refine held_take (i := 29) (v := ?_) (a' := ?_) rfl (by kernel_rfl) (by kernel_rfl) (by kernel_rfl) (fun _ _ _ h => h) (by rfl) (Same.below ⟨1, rfl⟩ _) ?_ ?_ ?_
    rotate_left 2
    · (intro w hS; go_simp; try with_reducible rfl)
    · (go_simp; try with_reducible rfl)
    refine held_take (i := 30) (v := ?_) (a' := ?_) rfl (by kernel_rfl) (by kernel_rfl) (by kernel_rfl) (fun _ _ _ h => h) (by rfl) (Same.below ⟨1, rfl⟩ _) ?_ ?_ ?_
    rotate_left 2
    · (intro w hS; go_simp; try with_reducible rfl)
    · (go_simp; try with_reducible rfl)
    refine held_take (i := 31) (v := ?_) (a' := ?_) rfl (by kernel_rfl) (by kernel_rfl) (by kernel_rfl) (fun _ _ _ h => h) (by rfl) (Same.below ⟨1, rfl⟩ _) ?_ ?_ ?_
    rotate_left 2
    · (intro w hS; go_simp; try with_reducible rfl)
    · (go_simp; try with_reducible rfl)
    refine held_take (i := 32) (v := ?_) (a' := ?_) rfl (by kernel_rfl) (by kernel_rfl) (by kernel_rfl) (fun _ _ _ h => h) (by rfl) (Same.below ⟨1, rfl⟩ _) ?_ ?_ ?_
    rotate_left 2
    · (intro w hS; have t := (hS.cell (p := ⟨g, 4, none⟩) hx).trans x4; go_simp; try with_reducible rfl)
    · (go_simp; try with_reducible rfl)
    refine held_take (i := 33) (v := ?_) (a' := ?_) rfl (by kernel_rfl) (by kernel_rfl) (by kernel_rfl) (fun _ _ _ h => h) (by rfl) (Same.below ⟨1, rfl⟩ _) ?_ ?_ ?_
    rotate_left 2
    · (intro w hS; go_simp; try with_reducible rfl)
    · (go_simp; try with_reducible rfl)
    refine held_take (i := 34) (v := ?_) (a' := ?_) rfl (by kernel_rfl) (by kernel_rfl) (by kernel_rfl) (fun _ _ _ h => h) (by rfl) (Same.below ⟨1, rfl⟩ _) ?_ ?_ ?_
    rotate_left 2
    · (intro w hS; go_simp; try with_reducible rfl)
    · (go_simp; try with_reducible rfl)
    refine held_take (i := 35) (v := ?_) (a' := ?_) rfl (by kernel_rfl) (by kernel_rfl) (by kernel_rfl) (fun _ _ _ h => h) (by rfl) (Same.below ⟨1, rfl⟩ _) ?_ ?_ ?_
    rotate_left 2
    · (intro w hS; have t := (hS.cell (p := ⟨g + 1, 4, none⟩) hy).trans y4; go_simp; try with_reducible rfl)
    · (go_simp; try with_reducible rfl)
    refine held_take (i := 36) (v := ?_) (a' := ?_) rfl (by kernel_rfl) (by kernel_rfl) (by kernel_rfl) (fun _ _ _ h => h) (by rfl) (Same.below ⟨1, rfl⟩ _) ?_ ?_ ?_
    rotate_left 2
    · (intro w hS; go_simp; try with_reducible rfl)
    · (go_simp; try with_reducible rfl)
    refine held_take (i := 37) (v := ?_) (a' := ?_) rfl (by kernel_rfl) (by kernel_rfl) (by kernel_rfl) (fun _ _ _ h => h) (by rfl) (Same.below ⟨1, rfl⟩ _) ?_ ?_ ?_
    rotate_left 2
    · (intro w hS; go_simp; try with_reducible rfl)
    · (go_simp; try with_reducible rfl)
    refine held_take (i := 38) (v := ?_) (a' := ?_) rfl (by kernel_rfl) (by kernel_rfl) (by kernel_rfl) (fun _ _ _ h => h) (by rfl) (Same.below ⟨1, rfl⟩ _) ?_ ?_ ?_
    rotate_left 2
    · (intro w hS; go_simp; try with_reducible rfl)
    · (go_simp; try with_reducible rfl)
    refine wpAnyH_done (by kernel_rfl) ?_ _
    go_wp2_with fail
    go_meet
    case rel => exact ⟨rfl, Same.below ⟨1, rfl⟩ _⟩
  case rest =>
    obtain ⟨rfl, hbx⟩ := hcut
    rename World => w2
    have HBW := Lib.hid (HT.out.below.trans (hbx.mono (by rw [HG.out]; have := HT.out.below.size; omega)))
    have HX2 := Lib.hid (HT.out.x.below hbx hx)
    have HY2 := Lib.hid (HT.out.y.below hbx hy)
    have HLA := Lib.hid (HT.out.la.below hbx)
    have HLB := Lib.hid (HT.out.lb.below hbx)
    have x4 : w2.cell? ⟨g, 4, none⟩ = some (.slice L l.length cL) := HX2.out.cell 4
    have hx2 := HX2.out.lt
    have hy2 := HY2.out.lt
    clear hbx HT hef hx hy
    go_wp2_with fail
    clear x4
    go_loopw [48] (fun s48 wr => ∃ j : Nat, j ≤ l.length ∧ s48 = .int .i64 (j : Int) ∧ Below w2.heap.size w2 wr) (fun s48 wr => l.length - (intOf s48).toNat)
    case atStart => exact ⟨0, Nat.zero_le _, rfl, Below.refl _ _⟩
    case round =>
      obtain ⟨j, hj, rfl, hbl⟩ := hrel
      have X4 : wr.cell? ⟨g, 4, none⟩ = some (.slice L l.length cL) := (HX2.out.below hbl hx2).cell 4
      have Y4 : wr.cell? ⟨g + 1, 4, none⟩ = some (.slice M l.length cM) := (HY2.out.below hbl hy2).cell 4
      by_cases hjl : j < l.length
      · have hjI : (j : Int) < (l.length : Int) := by omega
        have hj0 : (0 : Int) ≤ (j : Int) := by omega
        obtain ⟨ba, oa, ca, xa, hLa, hba, hxa, hra, hata⟩ := (HLA.out.below hbl).at rfl hjl
        obtain ⟨bb, ob, cb, xb, hLb, hbb, hxb, hrb, hatb⟩ := (HLB.out.below hbl).at rfl hjl
        subst hLa hLb
        have hxx : xa = xb := by rw [hxa] at hxb; exact Option.some.inj hxb
        subst hxx
        have HC := Lib.hid (fun W (h : Below wr.heap.size wr W) => HIH.out xa (List.mem_of_getElem? hxa) ca cb W (valR.stable hra (Moves.of_below h)) (valR.stable hrb (Moves.of_below h)))
        have ha5 : ca.length = 5 := valR.len hra
        have hb5 : cb.length = 5 := valR.len hrb
        have HKA := Lib.hid (show (Try.prog.info? 27).map (·.size) = some ca.toArray.size by rw [show ca.toArray.size = 5 from by simpa using ha5]; exact val_info)
        have HKB := Lib.hid (show (Try.prog.info? 27).map (·.size) = some cb.toArray.size by rw [show cb.toArray.size = 5 from by simpa using hb5]; exact val_info)
        have HAA := Lib.hid (show At wr ⟨ba, oa + j * 5, none⟩ ca.toArray from hata)
        have HAB := Lib.hid (show At wr ⟨bb, ob + j * 5, none⟩ cb.toArray from hatb)
        obtain ⟨KA, hKA⟩ : ∃ KA : Array Value, KA = ca.toArray := ⟨_, rfl⟩
        obtain ⟨KB, hKB⟩ : ∃ KB : Array Value, KB = cb.toArray := ⟨_, rfl⟩
        rw [← hKA] at HKA HAA HC
        rw [← hKB] at HKB HAB HC
        have hgx := Nat.lt_of_lt_of_le hx2 hbl.size
        have hgy := Nat.lt_of_lt_of_le hy2 hbl.size
        clear hKA hKB ha5 hb5 hata hatb hra hrb hxa hxb
        go_upto_region 6 with fail
        go_cut [62] (fun v wx => v = .bool false ∧ Below wr.heap.size wr wx)
        case first =>
          clear HLA HLB HIH HX2 HY2 HBW hx2 hy2
          have hdr : Below wr.heap.size wr wr.drew := Same.below ⟨1, rfl⟩ _
          refine wp_region_held (S := fun w => Below wr.heap.size wr w) (by kernel_rfl) ?_
          change wpAnyH _ _ _ _ _ _ _ _ (World.drew _)
          refine held_take (i := 0) (v := ?_) (a' := ?_) rfl (by kernel_rfl) (by kernel_rfl) (by kernel_rfl) (fun _ _ _ h => h) (by rfl) (Same.below ⟨1, rfl⟩ _) ?_ ?_ ?_
          rotate_left 2
          · (intro w hS; go_simp; try with_reducible rfl)
          · (go_simp; try with_reducible rfl)
          refine held_take (i := 1) (v := ?_) (a' := ?_) rfl (by kernel_rfl) (by kernel_rfl) (by kernel_rfl) (fun _ _ _ h => h) (by rfl) (Same.below ⟨1, rfl⟩ _) ?_ ?_ ?_
          rotate_left 2
          · (intro w hS; have t := (hS.cell (p := ⟨g, 4, none⟩) hgx).trans X4; go_simp; try with_reducible rfl)
          · (go_simp; try with_reducible rfl)
          refine held_take (i := 2) (v := ?_) (a' := ?_) rfl (by kernel_rfl) (by kernel_rfl) (by kernel_rfl) (fun _ _ _ h => h) (by rfl) (Same.below ⟨1, rfl⟩ _) ?_ ?_ ?_
          rotate_left 2
          · (intro w hS; go_simp; try with_reducible rfl)
          · (go_simp; try with_reducible rfl)
          refine held_take (i := 3) (v := ?_) (a' := ?_) rfl (by kernel_rfl) (by kernel_rfl) (by kernel_rfl) (fun _ _ _ h => h) (by rfl) (Same.below ⟨1, rfl⟩ _) ?_ ?_ ?_
          rotate_left 2
          · (intro w hS; go_simp; try with_reducible rfl)
          · (go_simp; try with_reducible rfl)
          refine held_take (i := 4) (v := ?_) (a' := ?_) rfl (by kernel_rfl) (by kernel_rfl) (by kernel_rfl) (fun _ _ _ h => h) (by rfl) (Same.below ⟨1, rfl⟩ _) ?_ ?_ ?_
          rotate_left 2
          · (intro w hS; refine exec_load_at 27 (.tmp 54) ?_ ba (oa + j * 5) ?_ KA _ (HAA.out.below hS hba) Try.underlying27 rfl HKA.out; exact rfl; exact rfl)
          · (go_simp; try with_reducible rfl)
          refine held_take (i := 5) (v := ?_) (a' := ?_) rfl (by kernel_rfl) (by kernel_rfl) (by kernel_rfl) (fun _ _ _ h => h) (by rfl) (Same.below ⟨1, rfl⟩ _) ?_ ?_ ?_
          rotate_left 2
          · (intro w hS; go_simp; try with_reducible rfl)
          · (go_simp; try with_reducible rfl)
          refine held_take (i := 6) (v := ?_) (a' := ?_) rfl (by kernel_rfl) (by kernel_rfl) (by kernel_rfl) (fun _ _ _ h => h) (by rfl) (Same.below ⟨1, rfl⟩ _) ?_ ?_ ?_
          rotate_left 2
          · (intro w hS; have t := (hS.cell (p := ⟨g + 1, 4, none⟩) hgy).trans Y4; go_simp; try with_reducible rfl)
          · (go_simp; try with_reducible rfl)
          refine held_take (i := 7) (v := ?_) (a' := ?_) rfl (by kernel_rfl) (by kernel_rfl) (by kernel_rfl) (fun _ _ _ h => h) (by rfl) (Same.below ⟨1, rfl⟩ _) ?_ ?_ ?_
          rotate_left 2
          · (intro w hS; go_simp; try with_reducible rfl)
          · (go_simp; try with_reducible rfl)
          refine held_take (i := 8) (v := ?_) (a' := ?_) rfl (by kernel_rfl) (by kernel_rfl) (by kernel_rfl) (fun _ _ _ h => h) (by rfl) (Same.below ⟨1, rfl⟩ _) ?_ ?_ ?_
          rotate_left 2
          · (intro w hS; go_simp; try with_reducible rfl)
          · (go_simp; try with_reducible rfl)
          refine held_take (i := 9) (v := ?_) (a' := ?_) rfl (by kernel_rfl) (by kernel_rfl) (by kernel_rfl) (fun _ _ _ h => h) (by rfl) (Same.below ⟨1, rfl⟩ _) ?_ ?_ ?_
          rotate_left 2
          · (intro w hS; refine exec_load_at 27 (.tmp 59) ?_ bb (ob + j * 5) ?_ KB _ (HAB.out.below hS hbb) Try.underlying27 rfl HKB.out; exact rfl; exact rfl)
          · (go_simp; try with_reducible rfl)
          refine held_ready (rs := [10]) (by kernel_rfl) (by simp) ?_
          refine AllHeld.cons rfl (fun KR hKR => ?_) ?_
          · go_simp
            refine (HC.out _ hdr).mono ?_
            rintro e w5 ⟨rfl, hb5⟩
            refine hKR _ _ (hdr.trans hb5) ?_
            clear hKR KR
            refine held_take (i := 11) (v := ?_) (a' := ?_) rfl (by kernel_rfl) (by kernel_rfl) (by kernel_rfl) (fun _ _ _ h => h) (by rfl) (hdr.trans hb5) ?_ ?_ ?_
            rotate_left 2
            · (intro w hS; go_simp; try with_reducible rfl)
            · (go_simp; try with_reducible rfl)
            refine wpAnyH_done (by kernel_rfl) ?_ _
            go_wp2_with fail
            go_meet
            case rel => exact ⟨rfl, hdr.trans hb5⟩
          exact AllHeld.nil
        case rest =>
          obtain ⟨rfl, hb5⟩ := hcut
          go_wp2_with fail
          go_roundw
          case rel => exact ⟨j + 1, by omega, by go_num, hbl.trans (hb5.mono hbl.size)⟩
          case measure => simp [intOf]; omega
      · obtain rfl : j = l.length := by omega
        go_wp2_with fail
        go_ret
        refine ⟨rfl, ?_⟩
        have h1 := HBW.out
        have h2 := h1.size
        exact h1.trans (hbl.mono h2)

theorem same_any (v : Val) : ∀ (c1 c2 : List Value) (w : World), valR.R w no c1 v → valR.R w no c2 v →
    Calls Try.prog 14 #[.agg c1.toArray, .agg c2.toArray] w fun e w' => e = .returned (.bool true) ∧ Below w.heap.size w w' := by
  induction v using Val.ind with
  | h k u b f l ih =>
    intro c1 c2 w h1 h2
    obtain ⟨A, cA, L, cL, rfl, _, _, _, _, g1, g2, _⟩ := valR_iff.1 h1
    obtain ⟨B, cB, M, cM, rfl, _⟩ := valR_iff.1 h2
    exact same_step k u b f l A cA L cL B cB M cM w (Nat.le_trans g1 g2) h1 h2 ih
end Go.Proofs.Ythpcanibahcghaa
