/- Contracts and laws for what the statement reaches, joined: ShaRounds, ShaLoad, ShaBlock1. -/
import Derived.Test.YtpafhajpnepecaaJn2
import Derived.Test.YtpafhajpnepecaaJn3
import Derived.Test.YtpafhajpnepecaaJn30
import Derived.Test.YtpafhajpnepecaaJn4
import Derived.BigQuiet
import Derived.Deep.CutBlock
import Derived.Deep.DeepCutAuto
import Derived.Deep.QuietTactic
import Derived.Deep.WholeRow
import Derived.Laws.CopyOwn
import Derived.Laws.CopyRow
import Derived.Laws.Tables
/- sha.rounds: the constants. -/
set_option linter.unusedVariables false
namespace Go.Proofs.Ytpafhajpnepecaa
open Go.RowKit

/-- the walk's step at a build whose cells are known -/
theorem wpList_build_to {P : Program} {ops : Array Oper} {rest : List Oper} {o : Oper} {a : Act} {w : World} {Q : Exit → Act → World → Prop} (hg : o.guard = none) (t : TypeId) (parts : Array (Nat × Operand)) (ho : o.op = .build t parts) (cells : Array Value)
    (hf : P.built t (parts.map fun (i, x) => (i, a.eval x)).toList = some cells)
    (h : wpList P ops Q rest (a.put o.dst (.agg cells)) w) : wpList P ops Q (o :: rest) a w :=
  wpList_build hg t parts ho (by rw [hf]; rfl) (by rw [hf]; exact h)

set_option maxRecDepth 100000 in
set_option maxHeartbeats 2000000 in
theorem rounds_any (w : World) : Calls Try.prog 98 #[] w fun e w' => e = .returned (.agg (wV shaK).toArray) ∧ Below w.heap.size w w' := by
  obtain ⟨KV, hKV⟩ : ∃ KV, KV = (wV shaK).toArray := ⟨_, rfl⟩
  have hsz : KV.size = 64 := by rw [hKV]; rfl
  have hone : KV.all (·.oneCell') = true := by rw [hKV]; kernel_rfl
  have hinfo : (Try.prog.info? 156).map (·.size) = some KV.size := by rw [hsz]; kernel_rfl
  have HS := Lib.hid hsz
  have HO := Lib.hid hone
  have HI := Lib.hid hinfo
  have HK := Lib.hid hKV
  clear hsz hone hinfo hKV
  go_enter Try.func98, Try.ntmps98
  go_upto_region 1 with fail
  go_wp2_with (first | (refine wpList_build_to rfl _ _ rfl KV (by rw [HK.out]; kernel_rfl) ?_) | (refine wpList_store_row rfl _ _ _ rfl w.heap.size KV rfl rfl 156 _ (heap_alloc_last w _) HI.out (by rw [HS.out]; rfl) HO.out ?_))
  rw [World.setRow_alloc_new]
  refine bodyPost_ret (v := .agg KV) (results_cell_row rfl _ _ w.heap.size 156 KV (0, 0) _ rfl (heap_alloc_last w _) Try.underlying156 rfl HI.out) rfl ⟨by rw [HK.out], (Below.refl _ _).alloc (Nat.le_refl _) _⟩
end Go.Proofs.Ytpafhajpnepecaa

/- Plain laws on the first words of a block. -/
set_option linter.unusedVariables false
namespace Go.Proofs.Ytpafhajpnepecaa
open Go.RowKit

/-- words in a block -/
abbrev WBlk (w : World) (g : Nat) (t : TypeId) (l : List UInt32) : Prop := Blk w g t (wV l).toArray
theorem WBlk.at {w : World} {g : Nat} {t : TypeId} {l : List UInt32} (h : WBlk w g t l) {i : Nat} {x : UInt32} (hx : l[i]? = some x) : w.cell? ⟨g, i, none⟩ = some (.int .u32 (uI x)) := (h.cell i).trans (wV_arr hx)
theorem WBlk.put {w : World} {g : Nat} {t : TypeId} {l : List UInt32} (h : WBlk w g t l) (i : Nat) (x : UInt32) : WBlk (w.setCell ⟨g, i, none⟩ (.int .u32 (uI x))) g t (l.set i x) := by
  have := h.set_ i (.int .u32 (uI x))
  rwa [wV_set] at this

theorem run_index_agg {P : Program} {t e : TypeId} {n : Nat} {cs : Array Value} {i : Nat} {v : Value} (ht : P.underlying t = some (.array n e)) (hs : (P.info? e).map (·.size) = some 1) (hu : P.underlying e = some (.int .u32)) (hi : i < n) (hv : cs[i]? = some v) (w : World) :
    (Instr.index t (.agg cs) (.int .i64 (i : Int))).run P w = .ok v w := by
  cases hq : P.info? e with
  | none => simp [hq] at hs
  | some ie =>
    have h1 : ie.size = 1 := by simpa [hq] using hs
    have hlt := (Array.getElem?_eq_some_iff.1 hv).1
    have hi' : (i : Int) < n := by omega
    have hee := (Array.getElem?_eq_some_iff.1 hv).2
    simp [Instr.index, asIntOf, run_underlying ht, run_underlying hu, sizeOf, typeInfo, hq, h1, part, Go.isAgg, hv]
    omega
theorem wrap_u32 (z : Int) : IntKind.u32.wrap z = z % 4294967296 := by
  simp only [IntKind.wrap, IntKind.bits, IntKind.signed]
  simp
theorem u_wadd (x y : UInt32) : IntKind.u32.wrap (uI x + uI y) = uI (x + y) := by rw [wrap_u32, u_add]
theorem u_shr3 (x : UInt32) : uI x / 8 = uI (x >>> UInt32.ofNat 3) := u_shr x 3 (by omega) 8 rfl
theorem u_shr10 (x : UInt32) : uI x / 1024 = uI (x >>> UInt32.ofNat 10) := u_shr x 10 (by omega) 1024 rfl
theorem sched_get (b : List UInt8) {M i : Nat} (hM : 16 ≤ M) (hi : i < M) : (schedW b (M - 16) ++ List.replicate (64 - M) 0)[i]? = some ((schedW b (M - 16)).getD i 0) := by
  have hl : (schedW b (M - 16)).length = M := by rw [schedW_length]; omega
  rw [List.getElem?_append_left (by omega)]
  exact getD_get (by omega)
theorem sched_put (b : List UInt8) {M : Nat} (hM : 16 ≤ M) (h64 : M < 64) : (schedW b (M - 16) ++ List.replicate (64 - M) 0).set M (nextW (schedW b (M - 16))) = schedW b (M + 1 - 16) ++ List.replicate (64 - (M + 1)) 0 := by
  have hl : (schedW b (M - 16)).length = M := by rw [schedW_length]; omega
  rw [List.set_append, if_neg (by omega), hl, Nat.sub_self, show 64 - M = (64 - (M + 1)) + 1 from by omega, List.replicate_succ, List.set_cons_zero, show M + 1 - 16 = (M - 16) + 1 from by omega, schedW, List.append_assoc]
  rfl
theorem sched_hole (b : List UInt8) {M : Nat} (hM : 16 ≤ M) (h64 : M < 64) : (schedW b (M - 16) ++ List.replicate (64 - M) 0)[M]? = some 0 := by
  have hl : (schedW b (M - 16)).length = M := by rw [schedW_length]; omega
  rw [List.getElem?_append_right (by omega), hl, Nat.sub_self, show 64 - M = (64 - (M + 1)) + 1 from by omega, List.replicate_succ]
  rfl

theorem list8 {s : List UInt32} (h : s.length = 8) : ∃ s0 s1 s2 s3 s4 s5 s6 s7, s = [s0, s1, s2, s3, s4, s5, s6, s7] := by
  match s, h with
  | [s0, s1, s2, s3, s4, s5, s6, s7], _ => exact ⟨s0, s1, s2, s3, s4, s5, s6, s7, rfl⟩
theorem shaK_length : shaK.length = 64 := rfl

theorem quiet_e {P : Program} {f : FuncId} {args : Array Value} {w : World} {n : Nat} {v : Value}
    (h : Calls P f args (w.drewN n) fun e w' => e = .returned v ∧ w.drewN n = w') : Calls P f args (w.drewN n) fun e w'' => e = .returned v ∧ ∃ m, w'' = w.drewN m :=
  h.mono fun _ _ ⟨he, hw⟩ => ⟨he, n, hw.symm⟩
theorem quiet_e2 {P : Program} {f : FuncId} {args : Array Value} {w : World} {a n : Nat} {v : Value}
    (h : Calls P f args (w.drewN (a + n)) fun e w' => e = .returned v ∧ w.drewN (a + n) = w') : Calls P f args (w.drewN (a + n)) fun e w'' => e = .returned v ∧ ∃ m, w'' = w.drewN (a + m) :=
  h.mono fun _ _ ⟨he, hw⟩ => ⟨he, n, hw.symm⟩
/-- a copy in a region that draws its order, its run known -/
theorem step_run_copy {P : Program} {ops : Array Oper} {Q : Exit → Act → World → Prop} {o : Oper} {a : Act} {w w' : World} {K : Act → World → Prop} {E : Prop} (hgd : o.guard = none) (x y : Operand) {t t' : TypeId}
    (ho : o.op = .call { callee := .builtin .copy, args := #[x, y], argTypes := #[t, t'] }) {vx vy v : Value} (hx : a.eval x = vx) (hy : a.eval y = vy)
    (hrun : (Builtin.copy_ #[t, t'] o.type #[vx, vy]).run P w = .ok v w') (h : K (a.put o.dst v) w') :
    if Region.wanted o (yielded ops a.tmps) = true then Oper.wp P o a w K Q else E := by
  have hw : Region.wanted o (yielded ops a.tmps) = true := by simp [Region.wanted, hgd]
  rw [if_pos hw]
  unfold Oper.wp execOp
  simp only [ho, resolve, invoke, builtin, Sem.run_bind, Sem.run_pure, Result.andThen_ok, List.map_toArray, List.map_cons, List.map_nil, hx, hy, hrun]
  exact h

theorem WBlk.row {w : World} {g : Nat} {t : TypeId} {l : List UInt32} (h : WBlk w g t l) (l' : List UInt32) : WBlk (w.setRow g (wV l').toArray) g t l' := setRow_heap w g _ _ t _ h
theorem Blk.setRow {w : World} {g g' : Nat} {t : TypeId} {cs : Array Value} (h : Blk w g t cs) (hne : g ≠ g') (c : Array Value) : Blk (w.setRow g' c) g t cs := (setRow_other w g' g c hne).trans h
theorem copy_run {W : World} {g : Nat} {a b c d e f k h : UInt32} (hb : WBlk W g 140 [a, b, c, d, e, f, k, h]) (ty : TypeId) :
    (Builtin.copy_ #[159, 159] ty #[.slice (some ⟨g, 1, none⟩) 7 7, .slice (some ⟨g, 0, none⟩) 7 8]).run Try.prog W = .ok (.int .i64 7) (W.setRow g (wV [a, a, b, c, d, e, f, k]).toArray) := by
  have := run_copy_row (P := Try.prog) W 159 159 ty 138 g 1 7 7 ⟨g, 0, none⟩ 7 8 (wV [a, b, c, d, e, f, k, h]).toArray 140 (wV [a, b, c, d, e, f, k]) Try.underlying159 (by kernel_rfl) hb rfl
    (fun j v hv => by
      have hj : j < 7 := by have := (List.getElem?_eq_some_iff.1 hv).1; simpa [wV] using this
      rw [addr_add, Nat.zero_add]
      rw [hb.cell j, ← hv]
      have h7 : j = 0 ∨ j = 1 ∨ j = 2 ∨ j = 3 ∨ j = 4 ∨ j = 5 ∨ j = 6 := by omega
      rcases h7 with rfl | rfl | rfl | rfl | rfl | rfl | rfl <;> rfl) (by simp [wV]) (by intro v hv; simp only [wV, List.mem_map] at hv; obtain ⟨x, _, rfl⟩ := hv; rfl)
  exact this

/-- the words while they are read: K whole ones, j bytes of the next -/
def partB (b : List UInt8) (K j : Nat) : UInt32 := ((b.drop (4 * K)).take j).foldl mixB 0
def loadL (b : List UInt8) (K : Nat) (x : UInt32) : List UInt32 := (List.range K).map (wordB b) ++ x :: List.replicate (63 - K) 0
theorem loadL_start (b : List UInt8) : List.replicate 64 0 = loadL b 0 (partB b 0 0) := rfl
theorem loadL_get (b : List UInt8) (K : Nat) (x : UInt32) : (loadL b K x)[K]? = some x := by
  unfold loadL
  rw [List.getElem?_append_right (by simp)]
  simp
theorem loadL_set (b : List UInt8) (K : Nat) (x y : UInt32) : (loadL b K x).set K y = loadL b K y := by
  unfold loadL
  rw [List.set_append, if_neg (by simp)]
  simp
theorem loadL_next (b : List UInt8) {K : Nat} (hK : K < 16) : loadL b K (partB b K 4) = loadL b (K + 1) (partB b (K + 1) 0) := by
  unfold loadL
  have e1 : partB b K 4 = wordB b K := rfl
  have e2 : partB b (K + 1) 0 = 0 := rfl
  rw [e1, e2, List.range_succ, List.map_append, List.append_assoc, show 63 - K = (63 - (K + 1)) + 1 from by omega, List.replicate_succ]
  rfl
theorem partB_succ {b : List UInt8} {K j : Nat} {y : UInt8} (h : b[4 * K + j]? = some y) : partB b K (j + 1) = mixB (partB b K j) y := by
  unfold partB
  rw [List.take_add_one, List.getElem?_drop, h, List.foldl_append]
  rfl
theorem loadL_end (b : List UInt8) : loadL b 16 (partB b 16 0) = schedW b 0 ++ List.replicate 48 0 := rfl
theorem grown_of_below {a w : World} (h : Below a.heap.size a w) (row : Option Nat) : a.grownBy w row := ⟨h.os, h.tape, h.output, h.size, fun i hi _ => h.block i hi⟩
theorem grown_setC {a w : World} {g : Nat} (h : a.grownBy w (some g)) (i : Nat) (u : Value) : a.grownBy (w.setCell ⟨g, i, none⟩ u) (some g) :=
  ⟨h.os, h.tape, h.output, by simpa [World.setCell] using h.size, fun k hk hne => (Below.heap_setCell w ⟨g, i, none⟩ u k (by rintro rfl; exact hne rfl)).trans (h.block k hk hne)⟩

/-- the words added, K of them so far -/
def addTo (s V : List UInt32) : Nat → List UInt32
  | 0 => s
  | K + 1 => (addTo s V K).set K ((addTo s V K).getD K 0 + V.getD K 0)
theorem addTo_length (s V : List UInt32) : ∀ K, (addTo s V K).length = s.length
  | 0 => rfl
  | K + 1 => by rw [addTo, List.length_set, addTo_length s V K]
theorem addTo_8 (s0 s1 s2 s3 s4 s5 s6 s7 v0 v1 v2 v3 v4 v5 v6 v7 : UInt32) : addTo [s0, s1, s2, s3, s4, s5, s6, s7] [v0, v1, v2, v3, v4, v5, v6, v7] 8 = addL [s0, s1, s2, s3, s4, s5, s6, s7] [v0, v1, v2, v3, v4, v5, v6, v7] := rfl
theorem wordB_take (b : List UInt8) {i : Nat} (hi : i < 16) : wordB (b.take 64) i = wordB b i := by
  unfold wordB
  rw [List.drop_take, List.take_take, show min 4 (64 - 4 * i) = 4 from by omega]
theorem firstW_take (b : List UInt8) : firstW (b.take 64) = firstW b := by
  unfold firstW
  exact List.map_congr_left fun i hi => wordB_take b (by simpa using hi)
theorem schedW_take (b : List UInt8) : ∀ n, schedW (b.take 64) n = schedW b n
  | 0 => firstW_take b
  | n + 1 => by rw [schedW, schedW, schedW_take b n]
theorem blockS_take (s : List UInt32) (b : List UInt8) : blockS s (b.take 64) = blockS s b := by unfold blockS; rw [schedW_take]
end Go.Proofs.Ytpafhajpnepecaa

/- (*state).block. -/
set_option linter.unusedVariables false
namespace Go.Proofs.Ytpafhajpnepecaa
open Go.RowKit
attribute [local go_sem ↓] cutA_eq
attribute [local go_sem] u_add u_wadd u_xor u_and u_or u_not u_shr3 u_shr10

set_option maxRecDepth 100000 in
set_option maxHeartbeats 4000000 in
theorem block_any (G : Nat) (B n c : Nat) (bo : Nat) (s : List UInt32) (b : List UInt8) (W0 : World) (hG : WBlk W0 G 140 s) (hs8 : s.length = 8) (hb : Sl W0 1 (some ⟨B, bo, none⟩) n (bytesV b)) (h64 : 64 ≤ n) (hc : n ≤ c) (hm : c ≤ maxLen) (hne : B ≠ G) :
    Calls Try.prog 86 #[.pointer (some ⟨G, 0, none⟩), .slice (some ⟨B, bo, none⟩) n c] W0 fun e w' => e = .returned (.tuple #[]) ∧ WBlk w' G 140 (blockS s (b.take 64)) ∧ W0.grownBy w' (some G) := by
  have hl : b.length = n := by have := hb.1; simpa [bytesV] using this
  have HL := Lib.hid hl
  have HG := Lib.hid hG
  have HB := Lib.hid hb
  have H8 := Lib.hid hs8
  unfold maxLen at hm
  clear hl hG hb hs8
  have hz : Blk (W0.alloc (.cells (wV (List.replicate 64 0)).toArray 156)) W0.heap.size 156 (wV (List.replicate 64 0)).toArray := Blk.new W0 _ _
  have HZ := Lib.hid (show Blk (W0.alloc (.cells (wV (List.replicate 64 0)).toArray 156)) W0.heap.size 156 (wV (loadL b 0 (partB b 0 0))).toArray from hz)
  clear hz
  go_enter Try.func86, Try.ntmps86
  go_wp2_with fail
  go_loopw [19] (fun i wr => ∃ K : Nat, i = .int .i64 K ∧ K ≤ 16 ∧ Hid (WBlk wr W0.heap.size 156 (loadL b K (partB b K 0))) ∧ Below W0.heap.size W0 wr) (fun i _ => 16 - (intOf i).toNat)
  case atStart => exact ⟨0, rfl, by omega, HZ, (Below.refl _ _).alloc (Nat.le_refl _) _⟩
  case round =>
    obtain ⟨K, rfl, hK, HW, hbr⟩ := hrel
    by_cases hlt : K < 16
    · have hlt' : (K : Int) < 16 := by omega
      have m1 : IntKind.i64.wrap (4 * (K : Int)) = 4 * (K : Int) := IntWalk.i64_in _ (by omega)
      have m2 : IntKind.i64.wrap (4 * (K : Int) + 4) = 4 * (K : Int) + 4 := IntWalk.i64_in _ (by omega)
      have m3 : (0 : Int) ≤ 4 * (K : Int) := by omega
      have m4 : (4 * (K : Int)) ≤ 4 * (K : Int) + 4 := by omega
      have m5 : 4 * (K : Int) + 4 ≤ (c : Int) := by omega
      have m6 : (4 * (K : Int)).toNat = 4 * K := by omega
      have m7 : (4 * (K : Int) + 4).toNat = 4 * K + 4 := by omega
      go_wp2_with fail
      have HBR := Lib.hid hbr
      clear hbr m1 m2 m3 m4 m5 m6 m7
      obtain ⟨wo, rfl⟩ : ∃ wo : World, wo = wr := ⟨_, rfl⟩
      go_loopw [30] (fun i wr => ∃ j : Nat, i = .int .i64 j ∧ j ≤ 4 ∧ Hid (WBlk wr W0.heap.size 156 (loadL b K (partB b K j))) ∧ Below W0.heap.size W0 wr) (fun i _ => 4 - (intOf i).toNat)
      case atStart => exact ⟨0, rfl, by omega, HW, HBR.out⟩
      case round =>
        obtain ⟨j, rfl, hj, HWj, hbr⟩ := hrel
        by_cases hj4 : j < 4
        · have hj4' : (j : Int) < 4 := by omega
          obtain ⟨b', o', y, eb, hbl, hcy, hdy⟩ := bytesV_look (k := 4 * K + j) HB.out (by omega)
          injection eb with eb
          injection eb with eb1 eb2
          subst eb1 eb2
          have hy : b[4 * K + j]? = some y := by
            have h1 : (b.drop (4 * K + j))[0]? = some y := by rw [hdy]; rfl
            rw [List.getElem?_drop, Nat.add_zero] at h1; exact h1
          have HP := Lib.hid (partB_succ hy)
          have cy := (hbr.cell hbl).trans hcy
          rw [← Nat.add_assoc] at cy
          have cw := HWj.out.at (loadL_get b K _)
          have fw := HWj.out.frozen K
          have HS := Lib.hid (HWj.out.put K (mixB (partB b K j) y))
          have HBS := Lib.hid (hbr.setCell (p := ⟨W0.heap.size, K, none⟩) (Nat.le_refl _) (.int .u32 (uI (mixB (partB b K j) y))))
          rw [loadL_set, ← HP.out] at HS
          rw [← HP.out] at HBS
          have n1 := u_shl (partB b K j) 8 (by omega) 256 rfl
          have n2 : bits .or .u32 (uI (partB b K j) * 256 % 4294967296) ((y.toNat : Int) % 4294967296) = uI (partB b K (j + 1)) := by rw [n1, show (y.toNat : Int) % 4294967296 = (y.toNat : Int) from by have := y.toNat_lt; omega, u_byte, u_or, HP.out]; rfl
          have hj1 : IntKind.i64.wrap ((j : Int) + 1) = (j : Int) + 1 := IntWalk.i64_in _ (by omega)
          clear n1 hcy hdy hy hbr
          go_wp2_with fail
          go_roundw
          case rel => exact ⟨j + 1, by go_num, by omega, HS, HBS.out⟩
          case measure => simp [intOf]; omega
        · obtain rfl : j = 4 := by omega
          have HN := Lib.hid (show WBlk wr W0.heap.size 156 (loadL b (K + 1) (partB b (K + 1) 0)) by rw [← loadL_next b hlt]; exact HWj.out)
          have hk1 : IntKind.i64.wrap ((K : Int) + 1) = (K : Int) + 1 := IntWalk.i64_in _ (by omega)
          have HB2 := Lib.hid hbr
          clear HWj hbr HW
          go_wp2_with fail
          go_roundw
          case rel => exact ⟨K + 1, by go_num, by omega, HN, HB2.out⟩
          case measure => simp [intOf]; omega
    · have hKe : K = 16 := by omega
      have hge : ¬ (K : Int) < 16 := by omega
      have HW0 := Lib.hid (show WBlk wr W0.heap.size 156 (schedW b (16 - 16) ++ List.replicate (64 - 16) 0) by subst hKe; exact HW.out)
      have HBR := Lib.hid hbr
      clear hbr HW HZ hlt hK hKe
      go_wp2_with fail
      obtain ⟨wo, rfl⟩ : ∃ wo : World, wo = wr := ⟨_, rfl⟩
      go_loopw [8] (fun i wr => ∃ M : Nat, i = .int .i64 M ∧ 16 ≤ M ∧ M ≤ 64 ∧ Hid (WBlk wr W0.heap.size 156 (schedW b (M - 16) ++ List.replicate (64 - M) 0)) ∧ Below W0.heap.size W0 wr) (fun i _ => 64 - (intOf i).toNat)
      case atStart => exact ⟨16, rfl, by omega, by omega, HW0, HBR.out⟩
      case round =>
        obtain ⟨M, rfl, hM, hM2, HW, hbr⟩ := hrel
        by_cases hlt : M < 64
        · have hlt' : (M : Int) < 64 := by omega
          have a1 := HW.out.at (sched_get b (i := M - 15) hM (by omega))
          have a2 := HW.out.at (sched_get b (i := M - 2) hM (by omega))
          have a3 := HW.out.at (sched_get b (i := M - 16) hM (by omega))
          have a4 := HW.out.at (sched_get b (i := M - 7) hM (by omega))
          have a5 := HW.out.at (sched_hole b hM hlt)
          have f5 := HW.out.frozen M
          have HN := Lib.hid (HW.out.put M (nextW (schedW b (M - 16))))
          rw [sched_put b hM hlt] at HN
          have HNX := Lib.hid (show nextW (schedW b (M - 16)) = (schedW b (M - 16)).getD (M - 16) 0 + (schedW b (M - 16)).getD (M - 7) 0 + sg0 ((schedW b (M - 16)).getD (M - 15) 0) + sg1 ((schedW b (M - 16)).getD (M - 2) 0) by
            unfold nextW; rw [schedW_length, show 16 + (M - 16) = M from by omega])
          have HBS := Lib.hid (hbr.setCell (p := ⟨W0.heap.size, M, none⟩) (Nat.le_refl _) (.int .u32 (uI (nextW (schedW b (M - 16))))))
          generalize nextW (schedW b (M - 16)) = nx at *
          generalize (schedW b (M - 16)).getD (M - 15) 0 = x1 at *
          generalize (schedW b (M - 16)).getD (M - 2) 0 = x2 at *
          generalize (schedW b (M - 16)).getD (M - 16) 0 = x3 at *
          generalize (schedW b (M - 16)).getD (M - 7) 0 = x4 at *
          have i1 : IntKind.i64.wrap ((M : Int) - 15) = (M : Int) - 15 := IntWalk.i64_in _ (by omega)
          have i2 : IntKind.i64.wrap ((M : Int) - 2) = (M : Int) - 2 := IntWalk.i64_in _ (by omega)
          have i3 : IntKind.i64.wrap ((M : Int) - 16) = (M : Int) - 16 := IntWalk.i64_in _ (by omega)
          have i4 : IntKind.i64.wrap ((M : Int) - 7) = (M : Int) - 7 := IntWalk.i64_in _ (by omega)
          have j1 : (0 : Int) ≤ (M : Int) - 15 := by omega
          have j2 : (0 : Int) ≤ (M : Int) - 2 := by omega
          have j3 : (0 : Int) ≤ (M : Int) - 16 := by omega
          have j4 : (0 : Int) ≤ (M : Int) - 7 := by omega
          have o1 : (15 : Int) ≤ (M : Int) := by omega
          have o2 : (2 : Int) ≤ (M : Int) := by omega
          have o3 : (16 : Int) ≤ (M : Int) := by omega
          have o4 : (7 : Int) ≤ (M : Int) := by omega
          have k1 : (M : Int) - 15 < 64 := by omega
          have k2 : (M : Int) - 2 < 64 := by omega
          have k3 : (M : Int) - 16 < 64 := by omega
          have k4 : (M : Int) - 7 < 64 := by omega
          have l1 : ((M : Int) - 15).toNat = M - 15 := by omega
          have l2 : ((M : Int) - 2).toNat = M - 2 := by omega
          have l3 : ((M : Int) - 16).toNat = M - 16 := by omega
          have l4 : ((M : Int) - 7).toNat = M - 7 := by omega
          have HBR2 := Lib.hid hbr
          clear hbr HW
          go_wp2_with fail
          go_quiet (fail)
          go_wp2_with fail
          refine wp_region_late (S := fun W => Same wr W) (s := 29) (by kernel_rfl) ?_
          refine late_pure (i := 0) (v := ?_) (a' := ?_) rfl (by kernel_rfl) (by kernel_rfl) (by kernel_rfl) (by rfl) (fun _ _ _ h => h) (by rfl) (fun _ => ((Same.drewN (Same.refl wr) nq).drew)) ?_ ?_ ?_
          rotate_left 2
          · (intro w; go_simp; try with_reducible rfl)
          · (go_simp; try with_reducible rfl)
          refine late_pure (i := 1) (v := ?_) (a' := ?_) rfl (by kernel_rfl) (by kernel_rfl) (by kernel_rfl) (by rfl) (fun _ _ _ h => h) (by rfl) (fun _ => ((Same.drewN (Same.refl wr) nq).drew)) ?_ ?_ ?_
          rotate_left 2
          · (intro w; go_simp; try with_reducible rfl)
          · (go_simp; try with_reducible rfl)
          refine late_pure (i := 2) (v := ?_) (a' := ?_) rfl (by kernel_rfl) (by kernel_rfl) (by kernel_rfl) (by rfl) (fun _ _ _ h => h) (by rfl) (fun _ => ((Same.drewN (Same.refl wr) nq).drew)) ?_ ?_ ?_
          rotate_left 2
          · (intro w; go_simp; try with_reducible rfl)
          · (go_simp; try with_reducible rfl)
          refine late_pure (i := 3) (v := ?_) (a' := ?_) rfl (by kernel_rfl) (by kernel_rfl) (by kernel_rfl) (by rfl) (fun _ _ _ h => h) (by rfl) (fun _ => ((Same.drewN (Same.refl wr) nq).drew)) ?_ ?_ ?_
          rotate_left 2
          · (intro w; go_simp; try with_reducible rfl)
          · (go_simp; try with_reducible rfl)
          refine late_load (i := 4) (m := 4) (v := ?_) (a' := ?_) rfl (by kernel_rfl) (by kernel_rfl) (by kernel_rfl) (by kernel_rfl) (by rfl) (fun _ _ _ h => h) (by rfl) ((Same.drewN (Same.refl wr) nq).drew) ?_ ?_ ?_
          rotate_left 2
          · (intro w hS; have t := (hS.cell ⟨W0.heap.size, M - 16, none⟩).trans a3; go_simp; try with_reducible rfl)
          · (go_simp; try with_reducible rfl)
          refine late_pure (i := 5) (v := ?_) (a' := ?_) rfl (by kernel_rfl) (by kernel_rfl) (by kernel_rfl) (by rfl) (fun _ _ _ h => h) (by rfl) (fun _ => ((Same.drewN (Same.refl wr) nq).drew)) ?_ ?_ ?_
          rotate_left 2
          · (intro w; go_simp; try with_reducible rfl)
          · (go_simp; try with_reducible rfl)
          refine late_pure (i := 6) (v := ?_) (a' := ?_) rfl (by kernel_rfl) (by kernel_rfl) (by kernel_rfl) (by rfl) (fun _ _ _ h => h) (by rfl) (fun _ => ((Same.drewN (Same.refl wr) nq).drew)) ?_ ?_ ?_
          rotate_left 2
          · (intro w; go_simp; try with_reducible rfl)
          · (go_simp; try with_reducible rfl)
          refine late_pure (i := 7) (v := ?_) (a' := ?_) rfl (by kernel_rfl) (by kernel_rfl) (by kernel_rfl) (by rfl) (fun _ _ _ h => h) (by rfl) (fun _ => ((Same.drewN (Same.refl wr) nq).drew)) ?_ ?_ ?_
          rotate_left 2
          · (intro w; go_simp; try with_reducible rfl)
          · (go_simp; try with_reducible rfl)
          refine late_load (i := 8) (m := 8) (v := ?_) (a' := ?_) rfl (by kernel_rfl) (by kernel_rfl) (by kernel_rfl) (by kernel_rfl) (by rfl) (fun _ _ _ h => h) (by rfl) ((Same.drewN (Same.refl wr) nq).drew) ?_ ?_ ?_
          rotate_left 2
          · (intro w hS; have t := (hS.cell ⟨W0.heap.size, M - 7, none⟩).trans a4; go_simp; try with_reducible rfl)
          · (go_simp; try with_reducible rfl)
          refine late_pure (i := 9) (v := ?_) (a' := ?_) rfl (by kernel_rfl) (by kernel_rfl) (by kernel_rfl) (by rfl) (fun _ _ _ h => h) (by rfl) (fun _ => ((Same.drewN (Same.refl wr) nq).drew)) ?_ ?_ ?_
          rotate_left 2
          · (intro w; go_simp; try with_reducible rfl)
          · (go_simp; try with_reducible rfl)
          refine late_pure (i := 10) (v := ?_) (a' := ?_) rfl (by kernel_rfl) (by kernel_rfl) (by kernel_rfl) (by rfl) (fun _ _ _ h => h) (by rfl) (fun _ => ((Same.drewN (Same.refl wr) nq).drew)) ?_ ?_ ?_
          rotate_left 2
          · (intro w; go_simp; try with_reducible rfl)
          · (go_simp; try with_reducible rfl)
          refine late_pure (i := 12) (v := ?_) (a' := ?_) rfl (by kernel_rfl) (by kernel_rfl) (by kernel_rfl) (by rfl) (fun _ _ _ h => h) (by rfl) (fun _ => ((Same.drewN (Same.refl wr) nq).drew)) ?_ ?_ ?_
          rotate_left 2
          · (intro w; go_simp; try with_reducible rfl)
          · (go_simp; try with_reducible rfl)
          refine late_pure (i := 15) (v := ?_) (a' := ?_) rfl (by kernel_rfl) (by kernel_rfl) (by kernel_rfl) (by rfl) (fun _ _ _ h => h) (by rfl) (fun _ => ((Same.drewN (Same.refl wr) nq).drew)) ?_ ?_ ?_
          rotate_left 2
          · (intro w; go_simp; try with_reducible rfl)
          · (go_simp; try with_reducible rfl)
          refine late_pure (i := 16) (v := ?_) (a' := ?_) rfl (by kernel_rfl) (by kernel_rfl) (by kernel_rfl) (by rfl) (fun _ _ _ h => h) (by rfl) (fun _ => ((Same.drewN (Same.refl wr) nq).drew)) ?_ ?_ ?_
          rotate_left 2
          · (intro w; go_simp; try with_reducible rfl)
          · (go_simp; try with_reducible rfl)
          refine late_pure (i := 19) (v := ?_) (a' := ?_) rfl (by kernel_rfl) (by kernel_rfl) (by kernel_rfl) (by rfl) (fun _ _ _ h => h) (by rfl) (fun _ => ((Same.drewN (Same.refl wr) nq).drew)) ?_ ?_ ?_
          rotate_left 2
          · (intro w; go_simp; try with_reducible rfl)
          · (go_simp; try with_reducible rfl)
          refine late_pure (i := 21) (v := ?_) (a' := ?_) rfl (by kernel_rfl) (by kernel_rfl) (by kernel_rfl) (by rfl) (fun _ _ _ h => h) (by rfl) (fun _ => ((Same.drewN (Same.refl wr) nq).drew)) ?_ ?_ ?_
          rotate_left 2
          · (intro w; go_simp; try with_reducible rfl)
          · (go_simp; try with_reducible rfl)
          refine late_pure (i := 24) (v := ?_) (a' := ?_) rfl (by kernel_rfl) (by kernel_rfl) (by kernel_rfl) (by rfl) (fun _ _ _ h => h) (by rfl) (fun _ => ((Same.drewN (Same.refl wr) nq).drew)) ?_ ?_ ?_
          rotate_left 2
          · (intro w; go_simp; try with_reducible rfl)
          · (go_simp; try with_reducible rfl)
          refine late_pure (i := 25) (v := ?_) (a' := ?_) rfl (by kernel_rfl) (by kernel_rfl) (by kernel_rfl) (by rfl) (fun _ _ _ h => h) (by rfl) (fun _ => ((Same.drewN (Same.refl wr) nq).drew)) ?_ ?_ ?_
          rotate_left 2
          · (intro w; go_simp; try with_reducible rfl)
          · (go_simp; try with_reducible rfl)
          refine late_one (i := 11) (by kernel_rfl) rfl (fun KR hKR => ?_)
          go_simp
          refine (rot_7 _ _).mono ?_
          rintro e wx ⟨rfl, rfl⟩
          refine hKR _ _ (fun _ => ((Same.drewN (Same.refl wr) nq).drew)) ?_
          clear hKR KR
          refine late_one (i := 13) (by kernel_rfl) rfl (fun KR hKR => ?_)
          go_simp
          refine (rot_18 _ _).mono ?_
          rintro e wx ⟨rfl, rfl⟩
          refine hKR _ _ (fun _ => ((Same.drewN (Same.refl wr) nq).drew)) ?_
          clear hKR KR
          refine late_pure (i := 14) (v := ?_) (a' := ?_) rfl (by kernel_rfl) (by kernel_rfl) (by kernel_rfl) (by rfl) (fun _ _ _ h => h) (by rfl) (fun _ => ((Same.drewN (Same.refl wr) nq).drew)) ?_ ?_ ?_
          rotate_left 2
          · (intro w; go_simp; try with_reducible rfl)
          · (go_simp; try with_reducible rfl)
          refine late_pure (i := 17) (v := ?_) (a' := ?_) rfl (by kernel_rfl) (by kernel_rfl) (by kernel_rfl) (by rfl) (fun _ _ _ h => h) (by rfl) (fun _ => ((Same.drewN (Same.refl wr) nq).drew)) ?_ ?_ ?_
          rotate_left 2
          · (intro w; go_simp; try with_reducible rfl)
          · (go_simp; try with_reducible rfl)
          refine late_pure (i := 18) (v := ?_) (a' := ?_) rfl (by kernel_rfl) (by kernel_rfl) (by kernel_rfl) (by rfl) (fun _ _ _ h => h) (by rfl) (fun _ => ((Same.drewN (Same.refl wr) nq).drew)) ?_ ?_ ?_
          rotate_left 2
          · (intro w; go_simp; try with_reducible rfl)
          · (go_simp; try with_reducible rfl)
          refine late_one (i := 20) (by kernel_rfl) rfl (fun KR hKR => ?_)
          go_simp
          refine (rot_17 _ _).mono ?_
          rintro e wx ⟨rfl, rfl⟩
          refine hKR _ _ (fun _ => ((Same.drewN (Same.refl wr) nq).drew)) ?_
          clear hKR KR
          refine late_one (i := 22) (by kernel_rfl) rfl (fun KR hKR => ?_)
          go_simp
          refine (rot_19 _ _).mono ?_
          rintro e wx ⟨rfl, rfl⟩
          refine hKR _ _ (fun _ => ((Same.drewN (Same.refl wr) nq).drew)) ?_
          clear hKR KR
          refine late_pure (i := 23) (v := ?_) (a' := ?_) rfl (by kernel_rfl) (by kernel_rfl) (by kernel_rfl) (by rfl) (fun _ _ _ h => h) (by rfl) (fun _ => ((Same.drewN (Same.refl wr) nq).drew)) ?_ ?_ ?_
          rotate_left 2
          · (intro w; go_simp; try with_reducible rfl)
          · (go_simp; try with_reducible rfl)
          refine late_pure (i := 26) (v := ?_) (a' := ?_) rfl (by kernel_rfl) (by kernel_rfl) (by kernel_rfl) (by rfl) (fun _ _ _ h => h) (by rfl) (fun _ => ((Same.drewN (Same.refl wr) nq).drew)) ?_ ?_ ?_
          rotate_left 2
          · (intro w; go_simp; try with_reducible rfl)
          · (go_simp; try with_reducible rfl)
          refine late_pure (i := 27) (v := ?_) (a' := ?_) rfl (by kernel_rfl) (by kernel_rfl) (by kernel_rfl) (by rfl) (fun _ _ _ h => h) (by rfl) (fun _ => ((Same.drewN (Same.refl wr) nq).drew)) ?_ ?_ ?_
          rotate_left 2
          · (intro w; go_simp; try with_reducible rfl)
          · (go_simp; try with_reducible rfl)
          refine late_pure (i := 28) (v := ?_) (a' := ?_) rfl (by kernel_rfl) (by kernel_rfl) (by kernel_rfl) (by rfl) (fun _ _ _ h => h) (by rfl) (fun _ => ((Same.drewN (Same.refl wr) nq).drew)) ?_ ?_ ?_
          rotate_left 2
          · (intro w; go_simp; try with_reducible rfl)
          · (go_simp; try with_reducible rfl)
          refine late_one (i := 29) (by kernel_rfl) rfl (fun KR hKR => ?_)
          go_simp
          refine hKR _ _ (fun h0 => Bool.noConfusion (show (true : Bool) = false from h0)) ?_
          clear hKR KR
          refine late_done' (by kernel_rfl) ?_ _
          go_wp2_with fail
          rw [HNX.out] at HN HBS
          go_roundw
          case rel => exact ⟨M + 1, by go_num, by omega, by omega, Lib.hid (HN.out.same ⟨nq + 1, rfl⟩), HBS.out.trans (Same.below ⟨nq + 1, rfl⟩ _)⟩
          case measure => simp [intOf]; omega
        · have hMe : M = 64 := by omega
          have hge2 : ¬ (M : Int) < 64 := by omega
          have HW := Lib.hid (show WBlk wr W0.heap.size 156 (schedW b 48) by subst hMe; simpa using HW.out)
          have HBR2 := Lib.hid hbr
          clear hbr hMe hlt hM hM2
          obtain ⟨s0, s1, s2, s3, s4, s5, s6, s7, rfl⟩ := list8 H8.out
          have hGw : WBlk wr G 140 [s0, s1, s2, s3, s4, s5, s6, s7] := HG.out.below HBR2.out HG.out.lt
          have c0 := hGw.at (i := 0) rfl
          have c1 := hGw.at (i := 1) rfl
          have c2 := hGw.at (i := 2) rfl
          have c3 := hGw.at (i := 3) rfl
          have c4 := hGw.at (i := 4) rfl
          have c5 := hGw.at (i := 5) rfl
          have c6 := hGw.at (i := 6) rfl
          have c7 := hGw.at (i := 7) rfl
          have HGL := Lib.hid HG.out.lt
          clear hGw
          obtain ⟨wo, rfl⟩ : ∃ wo : World, wo = wr := ⟨_, rfl⟩
          have HV := Lib.hid (show WBlk (wo.alloc (.cells (wV [s0, s1, s2, s3, s4, s5, s6, s7]).toArray 140)) wo.heap.size 140 (rndsW (schedW b 48) [s0, s1, s2, s3, s4, s5, s6, s7] 0) from Blk.new wo _ _)
          have HW2 := Lib.hid (HW.out.alloc (.cells (wV [s0, s1, s2, s3, s4, s5, s6, s7]).toArray 140))
          have HB3 := Lib.hid (HBR2.out.alloc HBR2.out.size (.cells (wV [s0, s1, s2, s3, s4, s5, s6, s7]).toArray 140))
          have HWL := Lib.hid HW.out.lt
          go_wp2_with fail
          refine (rounds_any _).mono ?_
          rintro e wk ⟨rfl, hbk⟩
          have HV3 := Lib.hid (HV.out.below hbk HV.out.lt)
          have HW3 := Lib.hid (HW2.out.below hbk HW2.out.lt)
          have HB4 := Lib.hid (HB3.out.trans (hbk.mono HB3.out.size))
          have HV0 := Lib.hid (show W0.heap.size ≤ wo.heap.size from HBR2.out.size)
          obtain ⟨KV, hKV⟩ : ∃ KV, KV = (wV shaK).toArray := ⟨_, rfl⟩
          rw [← hKV]
          have HKV := Lib.hid hKV
          clear hKV hbk HV HW2 HB3 c0 c1 c2 c3 c4 c5 c6 c7 HW HW0
          have HWW := Lib.hid (show ∀ R, R < 64 → ∃ x, (schedW b 48)[R]? = some x from fun R hR => ⟨_, getD_get (by rw [schedW_length]; omega)⟩)
          have HRES := Lib.hid (show blockS [s0, s1, s2, s3, s4, s5, s6, s7] (b.take 64) = addL [s0, s1, s2, s3, s4, s5, s6, s7] (rndsW (schedW b 48) [s0, s1, s2, s3, s4, s5, s6, s7] 64) by rw [blockS_take]; rfl)
          generalize schedW b 48 = SW at *
          go_wp2_with fail
          go_loopw [90] (fun i wr => ∃ R : Nat, i = .int .i64 R ∧ R ≤ 64 ∧ Hid (WBlk wr wo.heap.size 140 (rndsW SW [s0, s1, s2, s3, s4, s5, s6, s7] R)) ∧ Hid (WBlk wr W0.heap.size 156 SW) ∧ Below W0.heap.size W0 wr) (fun i _ => 64 - (intOf i).toNat)
          case atStart => exact ⟨0, rfl, by omega, HV3, HW3, HB4.out⟩
          case round =>
            obtain ⟨R, rfl, hR, HVr, HWr, hbr⟩ := hrel
            by_cases hlt : R < 64
            · have hlt' : (R : Int) < 64 := by omega
              obtain ⟨x, hx⟩ := HWW.out R hlt
              have hkx : shaK[R]? = some (shaK.getD R 0) := getD_get (by rw [shaK_length]; exact hlt)
              have hidx := run_index_agg (P := Try.prog) Try.underlying156 (by kernel_rfl) Try.underlying138 hlt (show KV[R]? = some (.int .u32 (uI (shaK.getD R 0))) by rw [HKV.out]; exact wV_arr hkx)
              have hwx := HWr.out.at hx
              have hstep : rndsW SW [s0, s1, s2, s3, s4, s5, s6, s7] (R + 1) = rnd (shaK.getD R 0) x (rndsW SW [s0, s1, s2, s3, s4, s5, s6, s7] R) := by
                rw [rndsW, show SW.getD R 0 = x by rw [List.getD_eq_getElem?_getD, hx]; rfl]
              have HST := Lib.hid hstep
              obtain ⟨a, b', c', d, e, f, g, h, hl8⟩ := list8 (rndsW_length SW [s0, s1, s2, s3, s4, s5, s6, s7] rfl R)
              rw [hl8] at HVr HST
              have HL8 := Lib.hid hl8
              have v0 := HVr.out.at (i := 0) rfl
              have v1 := HVr.out.at (i := 1) rfl
              have v2 := HVr.out.at (i := 2) rfl
              have v3 := HVr.out.at (i := 3) rfl
              have v4 := HVr.out.at (i := 4) rfl
              have v5 := HVr.out.at (i := 5) rfl
              have v6 := HVr.out.at (i := 6) rfl
              have v7 := HVr.out.at (i := 7) rfl
              have HBr := Lib.hid hbr
              have hk1 : IntKind.i64.wrap ((R : Int) + 1) = (R : Int) + 1 := IntWalk.i64_in _ (by omega)
              clear hx hkx hstep hl8 hbr
              generalize shaK.getD R 0 = kk at *
              have HT := Lib.hid (show rndT kk x [a, b', c', d, e, f, g, h] = h + (rotr e 6 ^^^ rotr e 11 ^^^ rotr e 25) + ((e &&& f) ^^^ (~~~e &&& g)) + kk + x from rfl)
              have HU := Lib.hid (show rndU [a, b', c', d, e, f, g, h] = (rotr a 2 ^^^ rotr a 13 ^^^ rotr a 22) + ((a &&& b') ^^^ (a &&& c') ^^^ (b' &&& c')) from rfl)
              have hrn : rnd kk x [a, b', c', d, e, f, g, h] = [rndT kk x [a, b', c', d, e, f, g, h] + rndU [a, b', c', d, e, f, g, h], a, b', c', d + rndT kk x [a, b', c', d, e, f, g, h], e, f, g] := rfl
              rw [hrn, HT.out, HU.out] at HST
              clear hrn HT HU
              go_wp2_with fail
              go_quiet (fail)
              go_wp2_with fail
              go_quiet ((go_at_call 97; exact quiet_e2 (rot_all _ _ (by decide) _)))
              go_wp2_with fail
              go_quiet ((go_at_call 97; exact quiet_e2 (rot_all _ _ (by decide) _)))
              go_upto_region 22 with fail
              go_cut [] (fun wx => WBlk wx wo.heap.size 140 [a, a, b', c', d, e, f, g] ∧ WBlk wx W0.heap.size 156 SW ∧ Below W0.heap.size W0 wx)
              case first =>
                have hne0 : W0.heap.size ≠ wo.heap.size := Nat.ne_of_lt HWL.out
                clear v0 v1 v2 v3 v4 v5 v6 v7 hwx hidx
                refine wp_region_held (S := fun _ => True) (by kernel_rfl) ?_
                change wpAnyH _ _ _ _ _ _ _ _ (World.drew _)
                refine held_take (i := 0) (v := ?_) (a' := ?_) rfl (by kernel_rfl) (by kernel_rfl) (by kernel_rfl) (fun _ _ _ h => h) (by rfl) trivial ?_ ?_ ?_
                rotate_left 2
                · (intro w hS; go_simp; try with_reducible rfl)
                · (go_simp; try with_reducible rfl)
                refine held_take (i := 1) (v := ?_) (a' := ?_) rfl (by kernel_rfl) (by kernel_rfl) (by kernel_rfl) (fun _ _ _ h => h) (by rfl) trivial ?_ ?_ ?_
                rotate_left 2
                · (intro w hS; go_simp; try with_reducible rfl)
                · (go_simp; try with_reducible rfl)
                refine held_ready (rs := [2]) (by kernel_rfl) (by simp) ?_
                refine AllHeld.cons rfl (fun KR hKR => ?_) ?_
                · refine step_run_copy (by rfl) (.tmp 150) (.tmp 151) (by rfl) (by rfl) (by rfl) (copy_run (Blk.same HVr.out ((((Same.refl wr).drewN _).drewN _).drewN _).drew) _) ?_
                  refine hKR _ _ trivial ?_
                  clear hKR KR
                  refine wpAnyH_done (by kernel_rfl) ?_ _
                  go_wp2_with fail
                  go_meet
                  case rel => exact ⟨WBlk.row (Blk.same HVr.out ((((Same.refl wr).drewN _).drewN _).drewN _).drew) _, Blk.setRow (Blk.same HWr.out ((((Same.refl wr).drewN _).drewN _).drewN _).drew) hne0 _, below_setRow (HBr.out.trans (((((Same.refl wr).drewN _).drewN _).drewN _).drew.below _)) HV0.out _⟩
                exact AllHeld.nil
              case rest =>
                obtain ⟨hv, hw, hbw⟩ := hcut
                have y4 := hv.at (i := 4) rfl
                have y0 := hv.at (i := 0) rfl
                have z4 := Blk.frozen hv 4
                have z0 := Blk.frozen hv 0
                have hp := (hv.put 4 (d + (h + (rotr e 6 ^^^ rotr e 11 ^^^ rotr e 25) + ((e &&& f) ^^^ (~~~e &&& g)) + kk + x))).put 0 (h + (rotr e 6 ^^^ rotr e 11 ^^^ rotr e 25) + ((e &&& f) ^^^ (~~~e &&& g)) + kk + x + ((rotr a 2 ^^^ rotr a 13 ^^^ rotr a 22) + ((a &&& b') ^^^ (a &&& c') ^^^ (b' &&& c'))))
                have HP := Lib.hid hp
                have HWN := Lib.hid (Blk.other (Blk.other hw (g' := wo.heap.size) (Nat.ne_of_lt HWL.out) 4 (.int .u32 (uI (d + (h + (rotr e 6 ^^^ rotr e 11 ^^^ rotr e 25) + ((e &&& f) ^^^ (~~~e &&& g)) + kk + x))))) (g' := wo.heap.size) (Nat.ne_of_lt HWL.out) 0 (.int .u32 (uI (h + (rotr e 6 ^^^ rotr e 11 ^^^ rotr e 25) + ((e &&& f) ^^^ (~~~e &&& g)) + kk + x + ((rotr a 2 ^^^ rotr a 13 ^^^ rotr a 22) + ((a &&& b') ^^^ (a &&& c') ^^^ (b' &&& c')))))))
                have HBN := Lib.hid ((hbw.setCell (p := ⟨wo.heap.size, 4, none⟩) HV0.out (.int .u32 (uI (d + (h + (rotr e 6 ^^^ rotr e 11 ^^^ rotr e 25) + ((e &&& f) ^^^ (~~~e &&& g)) + kk + x))))).setCell (p := ⟨wo.heap.size, 0, none⟩) HV0.out (.int .u32 (uI (h + (rotr e 6 ^^^ rotr e 11 ^^^ rotr e 25) + ((e &&& f) ^^^ (~~~e &&& g)) + kk + x + ((rotr a 2 ^^^ rotr a 13 ^^^ rotr a 22) + ((a &&& b') ^^^ (a &&& c') ^^^ (b' &&& c')))))))
                clear hv hw hbw hp v0 v1 v2 v3 v4 v5 v6 v7 hwx hidx HVr HWr
                go_wp2_with fail
                go_roundw
                case rel => exact ⟨R + 1, by go_num, by omega, Lib.hid (by rw [HST.out]; exact HP.out), HWN, HBN.out⟩
                case measure => simp [intOf]; omega
            · have hRe : R = 64 := by omega
              have hge3 : ¬ (R : Int) < 64 := by omega
              have HF := Lib.hid (show WBlk wr wo.heap.size 140 (rndsW SW [s0, s1, s2, s3, s4, s5, s6, s7] 64) by subst hRe; exact HVr.out)
              have HGR := Lib.hid (show WBlk wr G 140 (addTo [s0, s1, s2, s3, s4, s5, s6, s7] (rndsW SW [s0, s1, s2, s3, s4, s5, s6, s7] 64) 0) from HG.out.below hbr HG.out.lt)
              have HGW := Lib.hid (grown_of_below hbr (some G))
              clear hRe hlt HVr HWr hbr
              have hneG : wo.heap.size ≠ G := by have h1 := HG.out.lt; have h2 := HV0.out; omega
              obtain ⟨v0, v1, v2, v3, v4, v5, v6, v7, hV8⟩ := list8 (rndsW_length SW [s0, s1, s2, s3, s4, s5, s6, s7] rfl 64)
              rw [hV8] at HF HGR HRES
              rw [← addTo_8] at HRES
              have HV8 := Lib.hid hV8
              clear hV8 HG HB HKV HV3 HW3 HB4 H8
              generalize hs : [s0, s1, s2, s3, s4, s5, s6, s7] = ss at *
              generalize hv : [v0, v1, v2, v3, v4, v5, v6, v7] = vv at *
              have HS8 := Lib.hid (show ss.length = 8 by rw [← hs]; rfl)
              have HV8' := Lib.hid (show vv.length = 8 by rw [← hv]; rfl)
              have HSS := Lib.hid hs
              clear hs hv
              go_wp2_with fail
              obtain ⟨wz, rfl⟩ : ∃ wz : World, wz = wr := ⟨_, rfl⟩
              go_loopw [163] (fun i wr => ∃ R : Nat, i = .int .i64 R ∧ R ≤ 8 ∧ Hid (WBlk wr wo.heap.size 140 vv) ∧ Hid (WBlk wr G 140 (addTo ss vv R)) ∧ W0.grownBy wr (some G)) (fun i _ => 8 - (intOf i).toNat)
              case atStart => exact ⟨0, rfl, by omega, HF, HGR, HGW.out⟩
              case round =>
                obtain ⟨R, rfl, hR, HVr, HGr, hgr⟩ := hrel
                by_cases hlt : R < 8
                · have hlt' : (R : Int) < 8 := by omega
                  have g1 := HGr.out.at (getD_get (l := addTo ss vv R) (i := R) (by rw [addTo_length, HS8.out]; exact hlt))
                  have g2 := HVr.out.at (getD_get (l := vv) (i := R) (by rw [HV8'.out]; exact hlt))
                  have g3 := HGr.out.frozen R
                  have HNX := Lib.hid (show WBlk (wr.setCell ⟨G, R, none⟩ (.int .u32 (uI ((addTo ss vv R).getD R 0 + vv.getD R 0)))) G 140 (addTo ss vv (R + 1)) from HGr.out.put R _)
                  have HNV := Lib.hid (HVr.out.other hneG R (.int .u32 (uI ((addTo ss vv R).getD R 0 + vv.getD R 0))))
                  have HNG := Lib.hid (grown_setC hgr R (.int .u32 (uI ((addTo ss vv R).getD R 0 + vv.getD R 0))))
                  have hk1 : IntKind.i64.wrap ((R : Int) + 1) = (R : Int) + 1 := IntWalk.i64_in _ (by omega)
                  clear hgr
                  generalize (addTo ss vv R).getD R 0 = x1 at *
                  generalize vv.getD R 0 = x2 at *
                  go_wp2_with fail
                  refine wp_region_late (S := fun W => Same wr W) (s := 11) (by kernel_rfl) ?_
                  refine late_pure (i := 0) (v := ?_) (a' := ?_) rfl (by kernel_rfl) (by kernel_rfl) (by kernel_rfl) (by rfl) (fun _ _ _ h => h) (by rfl) (fun _ => (Same.refl wr).drew) ?_ ?_ ?_
                  rotate_left 2
                  · (intro w; go_simp; try with_reducible rfl)
                  · (go_simp; try with_reducible rfl)
                  refine late_pure (i := 1) (v := ?_) (a' := ?_) rfl (by kernel_rfl) (by kernel_rfl) (by kernel_rfl) (by rfl) (fun _ _ _ h => h) (by rfl) (fun _ => (Same.refl wr).drew) ?_ ?_ ?_
                  rotate_left 2
                  · (intro w; go_simp; try with_reducible rfl)
                  · (go_simp; try with_reducible rfl)
                  refine late_pure (i := 2) (v := ?_) (a' := ?_) rfl (by kernel_rfl) (by kernel_rfl) (by kernel_rfl) (by rfl) (fun _ _ _ h => h) (by rfl) (fun _ => (Same.refl wr).drew) ?_ ?_ ?_
                  rotate_left 2
                  · (intro w; go_simp; try with_reducible rfl)
                  · (go_simp; try with_reducible rfl)
                  refine late_pure (i := 3) (v := ?_) (a' := ?_) rfl (by kernel_rfl) (by kernel_rfl) (by kernel_rfl) (by rfl) (fun _ _ _ h => h) (by rfl) (fun _ => (Same.refl wr).drew) ?_ ?_ ?_
                  rotate_left 2
                  · (intro w; go_simp; try with_reducible rfl)
                  · (go_simp; try with_reducible rfl)
                  refine late_load (i := 4) (m := 4) (v := ?_) (a' := ?_) rfl (by kernel_rfl) (by kernel_rfl) (by kernel_rfl) (by kernel_rfl) (by rfl) (fun _ _ _ h => h) (by rfl) (Same.refl wr).drew ?_ ?_ ?_
                  rotate_left 2
                  · (intro w hS; have t := (hS.cell ⟨G, R, none⟩).trans g1; go_simp; try with_reducible rfl)
                  · (go_simp; try with_reducible rfl)
                  refine late_pure (i := 5) (v := ?_) (a' := ?_) rfl (by kernel_rfl) (by kernel_rfl) (by kernel_rfl) (by rfl) (fun _ _ _ h => h) (by rfl) (fun _ => (Same.refl wr).drew) ?_ ?_ ?_
                  rotate_left 2
                  · (intro w; go_simp; try with_reducible rfl)
                  · (go_simp; try with_reducible rfl)
                  refine late_pure (i := 6) (v := ?_) (a' := ?_) rfl (by kernel_rfl) (by kernel_rfl) (by kernel_rfl) (by rfl) (fun _ _ _ h => h) (by rfl) (fun _ => (Same.refl wr).drew) ?_ ?_ ?_
                  rotate_left 2
                  · (intro w; go_simp; try with_reducible rfl)
                  · (go_simp; try with_reducible rfl)
                  refine late_load (i := 7) (m := 7) (v := ?_) (a' := ?_) rfl (by kernel_rfl) (by kernel_rfl) (by kernel_rfl) (by kernel_rfl) (by rfl) (fun _ _ _ h => h) (by rfl) (Same.refl wr).drew ?_ ?_ ?_
                  rotate_left 2
                  · (intro w hS; have t := (hS.cell ⟨wo.heap.size, R, none⟩).trans g2; go_simp; try with_reducible rfl)
                  · (go_simp; try with_reducible rfl)
                  refine late_pure (i := 8) (v := ?_) (a' := ?_) rfl (by kernel_rfl) (by kernel_rfl) (by kernel_rfl) (by rfl) (fun _ _ _ h => h) (by rfl) (fun _ => (Same.refl wr).drew) ?_ ?_ ?_
                  rotate_left 2
                  · (intro w; go_simp; try with_reducible rfl)
                  · (go_simp; try with_reducible rfl)
                  refine late_pure (i := 9) (v := ?_) (a' := ?_) rfl (by kernel_rfl) (by kernel_rfl) (by kernel_rfl) (by rfl) (fun _ _ _ h => h) (by rfl) (fun _ => (Same.refl wr).drew) ?_ ?_ ?_
                  rotate_left 2
                  · (intro w; go_simp; try with_reducible rfl)
                  · (go_simp; try with_reducible rfl)
                  refine late_pure (i := 10) (v := ?_) (a' := ?_) rfl (by kernel_rfl) (by kernel_rfl) (by kernel_rfl) (by rfl) (fun _ _ _ h => h) (by rfl) (fun _ => (Same.refl wr).drew) ?_ ?_ ?_
                  rotate_left 2
                  · (intro w; go_simp; try with_reducible rfl)
                  · (go_simp; try with_reducible rfl)
                  refine late_one (i := 11) (by kernel_rfl) rfl (fun KR hKR => ?_)
                  go_simp
                  refine hKR _ _ (fun h0 => Bool.noConfusion (show (true : Bool) = false from h0)) ?_
                  clear hKR KR
                  refine late_done' (by kernel_rfl) ?_ _
                  go_wp2_with fail
                  go_roundw
                  case rel => exact ⟨R + 1, by go_num, by omega, Lib.hid (HNV.out.same ⟨1, rfl⟩), Lib.hid (HNX.out.same ⟨1, rfl⟩), HNG.out.trans (grown_of_below (Same.below ⟨1, rfl⟩ _) _)⟩
                  case measure => simp [intOf]; omega
                · have hRe : R = 8 := by omega
                  have hge4 : ¬ (R : Int) < 8 := by omega
                  have HFIN := Lib.hid (show WBlk wr G 140 (addTo ss vv 8) by subst hRe; exact HGr.out)
                  go_wp2_with fail
                  go_end0
                  exact ⟨rfl, by rw [HSS.out, HRES.out]; exact HFIN.out, hgr⟩
end Go.Proofs.Ytpafhajpnepecaa
