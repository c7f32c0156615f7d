/- Three rows of strings of the call's own that grow side by side. -/
import Derived.Test.YtbdlpigokahnoaaWeaveJoin
set_option linter.unusedVariables false
namespace Go.Proofs.Ytbdlpigokahnoaa
open Go.RowKit

structure Rows3 (B : Nat) (w : World) (v1 v2 v3 : Value) (n1 n2 n3 : Nat) (d1 d2 d3 : List ByteArray) : Prop where
  r1 : w.ownsRow B 9 1 v1 n1 (strV d1)
  r2 : w.ownsRow B 9 1 v2 n2 (strV d2)
  r3 : w.ownsRow B 9 1 v3 n3 (strV d3)
  d12 : Dis v1 v2
  d13 : Dis v1 v3
  d23 : Dis v2 v3
section
variable {B : Nat} {w w' : World} {v1 v2 v3 : Value} {n1 n2 n3 : Nat} {d1 d2 d3 : List ByteArray}
theorem Rows3.nil (B : Nat) (w : World) : Rows3 B w (.slice none 0 0) (.slice none 0 0) (.slice none 0 0) 0 0 0 [] [] [] :=
  ⟨World.ownsRow_nil _ _ _ _, World.ownsRow_nil _ _ _ _, World.ownsRow_nil _ _ _ _, (fun _ h => by cases h), (fun _ h => by cases h), (fun _ h => by cases h)⟩
theorem Rows3.below (h : Rows3 B w v1 v2 v3 n1 n2 n3 d1 d2 d3) (hb : Below w.heap.size w w') : Rows3 B w' v1 v2 v3 n1 n2 n3 d1 d2 d3 :=
  ⟨own_below h.r1 hb, own_below h.r2 hb, own_below h.r3 hb, h.d12, h.d13, h.d23⟩
theorem Rows3.lt (h : Rows3 B w v1 v2 v3 n1 n2 n3 d1 d2 d3) : ∀ g, own v1 g ∨ own v2 g ∨ own v3 g → g < w.heap.size := fun g hg => by
  rcases hg with h' | h' | h'
  · exact (own_in h.r1 h').2
  · exact (own_in h.r2 h').2
  · exact (own_in h.r3 h').2
theorem Rows3.push (h : Rows3 B w v1 v2 v3 n1 n2 n3 d1 d2 d3) (hB : B ≤ w.heap.size) {P1 P2 P3 : Option Addr} {m1 m2 m3 : Nat} {s1 s2 s3 : List ByteArray} (c1 c2 c3 : Nat)
    (h1 : ∀ W, Below B w W → Sl W 1 P1 m1 (strV s1)) (h2 : ∀ W, Below B w W → Sl W 1 P2 m2 (strV s2)) (h3 : ∀ W, Below B w W → Sl W 1 P3 m3 (strV s3))
    (e1 : n1 + m1 ≤ 1000000000) (e2 : n2 + m2 ≤ 1000000000) (e3 : n3 + m3 ≤ 1000000000) :
    ∃ (D1 D2 D3 : Option Addr) (f1 f2 f3 : Nat) (wA wB wC : World),
      (Builtin.append_ #[23, 23] 23 #[v1, .slice P1 m1 c1]).run Try.prog w = .ok (.slice D1 (n1 + m1) f1) wA ∧
      (Builtin.append_ #[23, 23] 23 #[v2, .slice P2 m2 c2]).run Try.prog wA = .ok (.slice D2 (n2 + m2) f2) wB ∧
      (Builtin.append_ #[23, 23] 23 #[v3, .slice P3 m3 c3]).run Try.prog wB = .ok (.slice D3 (n3 + m3) f3) wC ∧
      Rows3 B wC (.slice D1 (n1 + m1) f1) (.slice D2 (n2 + m2) f2) (.slice D3 (n3 + m3) f3) (n1 + m1) (n2 + m2) (n3 + m3) (d1 ++ s1) (d2 ++ s2) (d3 ++ s3) ∧ Below B w wC ∧
      (∀ g, g < w.heap.size → ¬ own v1 g → ¬ own v2 g → ¬ own v3 g → wA.heap[g]? = w.heap[g]? ∧ wB.heap[g]? = w.heap[g]? ∧ wC.heap[g]? = w.heap[g]?) := by
  obtain ⟨r1, r2, r3, d12, d13, d23⟩ := h
  obtain ⟨D1, f1, wA, run1, ap1, -, -⟩ := append_sl (P := Try.prog) elemStr r1 (h1 w (Below.refl _ _)) (strV_one _) (by omega) (by simp only [maxLen]; omega) hB 23 c1
  have bA := ap1.below
  have r2A := own_far ap1.grown r2 d12
  have r3A := own_far ap1.grown r3 d13
  obtain ⟨D2, f2, wB, run2, ap2, -, -⟩ := append_sl (P := Try.prog) elemStr r2A (h2 wA bA) (strV_one _) (by omega) (by simp only [maxLen]; omega) (by have := bA.size; omega) 23 c2
  have bB := bA.trans ap2.below
  have r3B := own_far ap2.grown r3A d23
  obtain ⟨D3, f3, wC, run3, ap3, -, -⟩ := append_sl (P := Try.prog) elemStr r3B (h3 wB bB) (strV_one _) (by omega) (by simp only [maxLen]; omega) (by have := bB.size; omega) 23 c3
  have x12 : Dis v2 (.slice D1 (n1 + m1) f1) := Dis.app d12.symm ap1 r2
  have x13 : Dis v3 (.slice D1 (n1 + m1) f1) := Dis.app d13.symm ap1 r3
  have n1B := own_far ap2.grown ap1.own x12
  have y12 : Dis (.slice D1 (n1 + m1) f1) (.slice D2 (n2 + m2) f2) := Dis.app x12.symm ap2 ap1.own
  have x23 : Dis v3 (.slice D2 (n2 + m2) f2) := Dis.app d23.symm ap2 r3A
  have n1C := own_far ap3.grown n1B x13
  have n2C := own_far ap3.grown ap2.own x23
  have y13 : Dis (.slice D1 (n1 + m1) f1) (.slice D3 (n3 + m3) f3) := Dis.app x13.symm ap3 n1B
  have y23 : Dis (.slice D2 (n2 + m2) f2) (.slice D3 (n3 + m3) f3) := Dis.app x23.symm ap3 ap2.own
  have o3 := ap3.own
  rw [strV_append] at n1C n2C o3
  refine ⟨D1, D2, D3, f1, f2, f3, wA, wB, wC, run1, run2, run3, ⟨n1C, n2C, o3, y12, y13, y23⟩, bB.trans ap3.below, fun g hg a1 a2 a3 => ?_⟩
  have q1 := ap1.grown.block g hg (fun e => a1 e.symm)
  have q2 := ap2.grown.block g (Nat.lt_of_lt_of_le hg ap1.grown.size) (fun e => a2 e.symm)
  have q3 := ap3.grown.block g (Nat.lt_of_lt_of_le (Nat.lt_of_lt_of_le hg ap1.grown.size) ap2.grown.size) (fun e => a3 e.symm)
  exact ⟨q1, q2.trans q1, q3.trans (q2.trans q1)⟩
end
end Go.Proofs.Ytbdlpigokahnoaa
