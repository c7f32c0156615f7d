/- Plain laws on the first words of a block. -/
import Derived.Test.YtknbbekinpamjaaShaRounds
import Derived.Test.YtknbbekinpamjaaRegion
import Derived.Laws.CopyRow
import Derived.Laws.CopyOwn
set_option linter.unusedVariables false
namespace Go.Proofs.Ytknbbekinpamjaa
open Go.RowKit

/-- a block of cells -/
def Blk (w : World) (g : Nat) (t : TypeId) (cs : Array Value) : Prop := w.heap[g]? = some (.cells cs t (0, 0))
section
variable {w w' : World} {g : Nat} {t : TypeId} {cs : Array Value}
theorem Blk.lt (h : Blk w g t cs) : g < w.heap.size := by
  unfold Blk at h
  exact (Array.getElem?_eq_some_iff.1 h).1
theorem Blk.cell (h : Blk w g t cs) (i : Nat) : w.cell? ⟨g, i, none⟩ = cs[i]? := cell_of_row w g i cs t (0, 0) h
theorem Blk.frozen (h : Blk w g t cs) (i : Nat) : w.frozen? ⟨g, i, none⟩ = false := frozen_of_row w g i cs t h
theorem Blk.new (w : World) (t : TypeId) (cs : Array Value) : Blk (w.alloc (.cells cs t)) w.heap.size t cs := heap_alloc_new w _
theorem Blk.same (h : Blk w g t cs) (hs : Same w w') : Blk w' g t cs := by unfold Blk; rw [hs.heap]; exact h
theorem Blk.alloc (h : Blk w g t cs) (o : Obj) : Blk (w.alloc o) g t cs := (Below.heap_alloc w o g h.lt).trans h
theorem Blk.below {B : Nat} (h : Blk w g t cs) (hb : Below B w w') (hg : g < B) : Blk w' g t cs := (hb.block g hg).trans h
theorem Blk.set_ (h : Blk w g t cs) (i : Nat) (u : Value) : Blk (w.setCell ⟨g, i, none⟩ u) g t (cs.setIfInBounds i u) := heap_setCell_same w g i cs t u h
theorem Blk.other (h : Blk w g t cs) {g' : Nat} (hne : g ≠ g') (i : Nat) (u : Value) : Blk (w.setCell ⟨g', i, none⟩ u) g t cs := (heap_setCell_other w ⟨g', i, none⟩ g u hne).trans h
theorem Blk.grown {row : Option Nat} (h : Blk w g t cs) (hb : w.grownBy w' row) (hg : some g ≠ row) : Blk w' g t cs := (hb.block g h.lt hg).trans h
end
/-- words in a block -/
abbrev WBlk (w : World) (g : Nat) (t : TypeId) (l : List UInt32) : Prop := Blk w g t (wV l).toArray
theorem WBlk.at {w : World} {g : Nat} {t : TypeId} {l : List UInt32} (h : WBlk w g t l) {i : Nat} {x : UInt32} (hx : l[i]? = some x) : w.cell? ⟨g, i, none⟩ = some (.int .u32 (uI x)) := (h.cell i).trans (wV_arr hx)
theorem WBlk.put {w : World} {g : Nat} {t : TypeId} {l : List UInt32} (h : WBlk w g t l) (i : Nat) (x : UInt32) : WBlk (w.setCell ⟨g, i, none⟩ (.int .u32 (uI x))) g t (l.set i x) := by
  have := h.set_ i (.int .u32 (uI x))
  rwa [wV_set] at this

theorem run_index_agg {P : Program} {t e : TypeId} {n : Nat} {cs : Array Value} {i : Nat} {v : Value} (ht : P.underlying t = some (.array n e)) (hs : (P.info? e).map (·.size) = some 1) (hu : P.underlying e = some (.int .u32)) (hi : i < n) (hv : cs[i]? = some v) (w : World) :
    (Instr.index t (.agg cs) (.int .i64 (i : Int))).run P w = .ok v w := by
  cases hq : P.info? e with
  | none => simp [hq] at hs
  | some ie =>
    have h1 : ie.size = 1 := by simpa [hq] using hs
    have hlt := (Array.getElem?_eq_some_iff.1 hv).1
    have hi' : (i : Int) < n := by omega
    have hee := (Array.getElem?_eq_some_iff.1 hv).2
    simp [Instr.index, asIntOf, run_underlying ht, run_underlying hu, sizeOf, typeInfo, hq, h1, part, isAgg, hv]
    omega
theorem wrap_u32 (z : Int) : IntKind.u32.wrap z = z % 4294967296 := by
  simp only [IntKind.wrap, IntKind.bits, IntKind.signed]
  simp
theorem u_wadd (x y : UInt32) : IntKind.u32.wrap (uI x + uI y) = uI (x + y) := by rw [wrap_u32, u_add]
theorem u_shr3 (x : UInt32) : uI x / 8 = uI (x >>> UInt32.ofNat 3) := u_shr x 3 (by omega) 8 rfl
theorem u_shr10 (x : UInt32) : uI x / 1024 = uI (x >>> UInt32.ofNat 10) := u_shr x 10 (by omega) 1024 rfl
theorem sched_get (b : List UInt8) {M i : Nat} (hM : 16 ≤ M) (hi : i < M) : (schedW b (M - 16) ++ List.replicate (64 - M) 0)[i]? = some ((schedW b (M - 16)).getD i 0) := by
  have hl : (schedW b (M - 16)).length = M := by rw [schedW_length]; omega
  rw [List.getElem?_append_left (by omega)]
  exact getD_get (by omega)
theorem sched_put (b : List UInt8) {M : Nat} (hM : 16 ≤ M) (h64 : M < 64) : (schedW b (M - 16) ++ List.replicate (64 - M) 0).set M (nextW (schedW b (M - 16))) = schedW b (M + 1 - 16) ++ List.replicate (64 - (M + 1)) 0 := by
  have hl : (schedW b (M - 16)).length = M := by rw [schedW_length]; omega
  rw [List.set_append, if_neg (by omega), hl, Nat.sub_self, show 64 - M = (64 - (M + 1)) + 1 from by omega, List.replicate_succ, List.set_cons_zero, show M + 1 - 16 = (M - 16) + 1 from by omega, schedW, List.append_assoc]
  rfl
theorem sched_hole (b : List UInt8) {M : Nat} (hM : 16 ≤ M) (h64 : M < 64) : (schedW b (M - 16) ++ List.replicate (64 - M) 0)[M]? = some 0 := by
  have hl : (schedW b (M - 16)).length = M := by rw [schedW_length]; omega
  rw [List.getElem?_append_right (by omega), hl, Nat.sub_self, show 64 - M = (64 - (M + 1)) + 1 from by omega, List.replicate_succ]
  rfl

theorem list8 {s : List UInt32} (h : s.length = 8) : ∃ s0 s1 s2 s3 s4 s5 s6 s7, s = [s0, s1, s2, s3, s4, s5, s6, s7] := by
  match s, h with
  | [s0, s1, s2, s3, s4, s5, s6, s7], _ => exact ⟨s0, s1, s2, s3, s4, s5, s6, s7, rfl⟩
theorem shaK_length : shaK.length = 64 := rfl

theorem quiet_e {P : Program} {f : FuncId} {args : Array Value} {w : World} {n : Nat} {v : Value}
    (h : Calls P f args (w.drewN n) fun e w' => e = .returned v ∧ w.drewN n = w') : Calls P f args (w.drewN n) fun e w'' => e = .returned v ∧ ∃ m, w'' = w.drewN m :=
  h.mono fun _ _ ⟨he, hw⟩ => ⟨he, n, hw.symm⟩
theorem quiet_e2 {P : Program} {f : FuncId} {args : Array Value} {w : World} {a n : Nat} {v : Value}
    (h : Calls P f args (w.drewN (a + n)) fun e w' => e = .returned v ∧ w.drewN (a + n) = w') : Calls P f args (w.drewN (a + n)) fun e w'' => e = .returned v ∧ ∃ m, w'' = w.drewN (a + m) :=
  h.mono fun _ _ ⟨he, hw⟩ => ⟨he, n, hw.symm⟩
/-- a copy in a region that draws its order, its run known -/
theorem step_run_copy {P : Program} {ops : Array Oper} {Q : Exit → Act → World → Prop} {o : Oper} {a : Act} {w w' : World} {K : Act → World → Prop} {E : Prop} (hgd : o.guard = none) (x y : Operand) {t t' : TypeId}
    (ho : o.op = .call { callee := .builtin .copy, args := #[x, y], argTypes := #[t, t'] }) {vx vy v : Value} (hx : a.eval x = vx) (hy : a.eval y = vy)
    (hrun : (Builtin.copy_ #[t, t'] o.type #[vx, vy]).run P w = .ok v w') (h : K (a.put o.dst v) w') :
    if Region.wanted o (yielded ops a.tmps) = true then Oper.wp P o a w K Q else E := by
  have hw : Region.wanted o (yielded ops a.tmps) = true := by simp [Region.wanted, hgd]
  rw [if_pos hw]
  unfold Oper.wp execOp
  simp only [ho, resolve, invoke, builtin, Sem.run_bind, Sem.run_pure, Result.andThen_ok, List.map_toArray, List.map_cons, List.map_nil, hx, hy, hrun]
  exact h

theorem WBlk.row {w : World} {g : Nat} {t : TypeId} {l : List UInt32} (h : WBlk w g t l) (l' : List UInt32) : WBlk (w.setRow g (wV l').toArray) g t l' := setRow_heap w g _ _ t _ h
theorem Blk.setRow {w : World} {g g' : Nat} {t : TypeId} {cs : Array Value} (h : Blk w g t cs) (hne : g ≠ g') (c : Array Value) : Blk (w.setRow g' c) g t cs := (setRow_other w g' g c hne).trans h
theorem copy_run {W : World} {g : Nat} {a b c d e f k h : UInt32} (hb : WBlk W g 56 [a, b, c, d, e, f, k, h]) (ty : TypeId) :
    (Builtin.copy_ #[66, 66] ty #[.slice (some ⟨g, 1, none⟩) 7 7, .slice (some ⟨g, 0, none⟩) 7 8]).run Try.prog W = .ok (.int .i64 7) (W.setRow g (wV [a, a, b, c, d, e, f, k]).toArray) := by
  have := run_copy_row (P := Try.prog) W 66 66 ty 54 g 1 7 7 ⟨g, 0, none⟩ 7 8 (wV [a, b, c, d, e, f, k, h]).toArray 56 (wV [a, b, c, d, e, f, k]) Try.underlying66 (by kernel_rfl) hb rfl
    (fun j v hv => by
      have hj : j < 7 := by have := (List.getElem?_eq_some_iff.1 hv).1; simpa [wV] using this
      rw [addr_add, Nat.zero_add]
      rw [hb.cell j, ← hv]
      have h7 : j = 0 ∨ j = 1 ∨ j = 2 ∨ j = 3 ∨ j = 4 ∨ j = 5 ∨ j = 6 := by omega
      rcases h7 with rfl | rfl | rfl | rfl | rfl | rfl | rfl <;> rfl) (by simp [wV]) (by intro v hv; simp only [wV, List.mem_map] at hv; obtain ⟨x, _, rfl⟩ := hv; rfl)
  exact this

/-- the words while they are read: K whole ones, j bytes of the next -/
def partB (b : List UInt8) (K j : Nat) : UInt32 := ((b.drop (4 * K)).take j).foldl mixB 0
def loadL (b : List UInt8) (K : Nat) (x : UInt32) : List UInt32 := (List.range K).map (wordB b) ++ x :: List.replicate (63 - K) 0
theorem loadL_start (b : List UInt8) : List.replicate 64 0 = loadL b 0 (partB b 0 0) := rfl
theorem loadL_get (b : List UInt8) (K : Nat) (x : UInt32) : (loadL b K x)[K]? = some x := by
  unfold loadL
  rw [List.getElem?_append_right (by simp)]
  simp
theorem loadL_set (b : List UInt8) (K : Nat) (x y : UInt32) : (loadL b K x).set K y = loadL b K y := by
  unfold loadL
  rw [List.set_append, if_neg (by simp)]
  simp
theorem loadL_next (b : List UInt8) {K : Nat} (hK : K < 16) : loadL b K (partB b K 4) = loadL b (K + 1) (partB b (K + 1) 0) := by
  unfold loadL
  have e1 : partB b K 4 = wordB b K := rfl
  have e2 : partB b (K + 1) 0 = 0 := rfl
  rw [e1, e2, List.range_succ, List.map_append, List.append_assoc, show 63 - K = (63 - (K + 1)) + 1 from by omega, List.replicate_succ]
  rfl
theorem partB_succ {b : List UInt8} {K j : Nat} {y : UInt8} (h : b[4 * K + j]? = some y) : partB b K (j + 1) = mixB (partB b K j) y := by
  unfold partB
  rw [List.take_add_one, List.getElem?_drop, h, List.foldl_append]
  rfl
theorem loadL_end (b : List UInt8) : loadL b 16 (partB b 16 0) = schedW b 0 ++ List.replicate 48 0 := rfl
theorem grown_of_below {a w : World} (h : Below a.heap.size a w) (row : Option Nat) : a.grownBy w row := ⟨h.os, h.tape, h.output, h.size, fun i hi _ => h.block i hi⟩
theorem grown_set {a w : World} {g : Nat} (h : a.grownBy w (some g)) (i : Nat) (u : Value) : a.grownBy (w.setCell ⟨g, i, none⟩ u) (some g) :=
  ⟨h.os, h.tape, h.output, by simpa [World.setCell] using h.size, fun k hk hne => (Below.heap_setCell w ⟨g, i, none⟩ u k (by rintro rfl; exact hne rfl)).trans (h.block k hk hne)⟩

/-- the words added, K of them so far -/
def addTo (s V : List UInt32) : Nat → List UInt32
  | 0 => s
  | K + 1 => (addTo s V K).set K ((addTo s V K).getD K 0 + V.getD K 0)
theorem addTo_length (s V : List UInt32) : ∀ K, (addTo s V K).length = s.length
  | 0 => rfl
  | K + 1 => by rw [addTo, List.length_set, addTo_length s V K]
theorem addTo_8 (s0 s1 s2 s3 s4 s5 s6 s7 v0 v1 v2 v3 v4 v5 v6 v7 : UInt32) : addTo [s0, s1, s2, s3, s4, s5, s6, s7] [v0, v1, v2, v3, v4, v5, v6, v7] 8 = addL [s0, s1, s2, s3, s4, s5, s6, s7] [v0, v1, v2, v3, v4, v5, v6, v7] := rfl
theorem wordB_take (b : List UInt8) {i : Nat} (hi : i < 16) : wordB (b.take 64) i = wordB b i := by
  unfold wordB
  rw [List.drop_take, List.take_take, show min 4 (64 - 4 * i) = 4 from by omega]
theorem firstW_take (b : List UInt8) : firstW (b.take 64) = firstW b := by
  unfold firstW
  exact List.map_congr_left fun i hi => wordB_take b (by simpa using hi)
theorem schedW_take (b : List UInt8) : ∀ n, schedW (b.take 64) n = schedW b n
  | 0 => firstW_take b
  | n + 1 => by rw [schedW, schedW, schedW_take b n]
theorem blockS_take (s : List UInt32) (b : List UInt8) : blockS s (b.take 64) = blockS s b := by unfold blockS; rw [schedW_take]
end Go.Proofs.Ytknbbekinpamjaa
