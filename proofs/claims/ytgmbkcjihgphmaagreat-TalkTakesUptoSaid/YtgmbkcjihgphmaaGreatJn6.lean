/- Contracts and laws for what the statement reaches, joined: GrainWrite, GrainCur, GrainMake. -/
import Derived.Test.YtgmbkcjihgphmaaGreatJn2
import Derived.Test.YtgmbkcjihgphmaaGreatJn3
import Derived.Deep.WholeRow
import Derived.Laws.CopyOwn
import Derived.Laws.Rows
import Derived.Laws.Tables
import Derived.WalkLawsBesides
/- grain.write: the bytes so far with a value's behind them, or a panic that tells the error. -/
set_option linter.unusedVariables false
namespace Go.Proofs.YtgmbkcjihgphmaaGreat
open Go.RowKit
/-- what comes of giving up with an error -/
def stopE (z : Int) : List PanicEntry := [{ v := .iface 190 (.agg #[.int .i64 z]), recovered := false }]
/-- what writing leaves -/
def WrPost (base : Nat) (w : World) (v : Value) (r : Res (List UInt8)) (e : Ending) (w' : World) : Prop :=
 Below base w w' ∧ match r with
  | .ok o => ∃ A m c, e = .returned (.slice A m c) ∧ m = o.length ∧ w'.ownsRow base 5 1 (.slice A m c) m (bytesV o) ∧ Moves w w' (own v) (own (.slice A m c))
  | .error z => e = .panicked (stopE z)
theorem WrPost.long {base : Nat} {w w' : World} {v : Value} {o : List UInt8} {m : Nat} (hb : Below base w w') (hm : m = o.length) (hl : 1048576 < m) : WrPost base w v (fin o) (.panicked (stopE 2)) w' := by
 refine ⟨hb, ?_⟩
 unfold fin
 rw [if_pos (by omega)]
theorem WrPost.good {base : Nat} {w w' : World} {v : Value} {o : List UInt8} {A : Option Addr} {m c : Nat} (hb : Below base w w') (hm : m = o.length) (hl : ¬ 1048576 < m) (hown : w'.ownsRow base 5 1 (.slice A m c) m (bytesV o)) (hv : Moves w w' (own v) (own (.slice A m c))) : WrPost base w v (fin o) (.returned (.slice A m c)) w' := by
 refine ⟨hb, ?_⟩
 unfold fin
 rw [if_neg (by omega)]
 exact ⟨A, m, c, rfl, hm, hown, hv⟩
theorem Moves.cell {w w' : World} {av av' : Av} (h : Moves w w' av av') {g o : Nat} (hg : g < w.heap.size) (hn : ¬ av g) : w'.cell? ⟨g, o, none⟩ = w.cell? ⟨g, o, none⟩ := World.cell?_of_block (h.block g hg hn)
theorem Moves.drew (w : World) (av : Av) : Moves w w.drew av av := Moves.of_below (Same.below ⟨1, rfl⟩ _)
theorem own_lt {base : Nat} {w : World} {e : TypeId} {sz n : Nat} {v : Value} {xs : List Value} (h : w.ownsRow base e sz v n xs) : ¬ own v w.heap.size := fun e => by
 have := (h.lt _ e).2; omega
theorem own_len {base : Nat} {w : World} {A : Option Addr} {m c : Nat} {xs : List UInt8} (h : w.ownsRow base 5 1 (.slice A m c) m (bytesV xs)) : m = xs.length := by
 have := (Sl.ofOwn h).1; simpa [bytesV_length] using this.symm
/-- what a call of write starts from -/
structure WIn (base : Nat) (w : World) (A : Option Addr) (m c : Nat) (xs : List UInt8) (k : Int) (u : Nat) (b : List UInt8) (f : Nat) (l : List Val) (B : Option Addr) (cB : Nat) (L : Option Addr) (cL : Nat) : Prop where
 num : u < 2 ^ 64
 flt : f < 2 ^ 64
 bcap : b.length ≤ cB ∧ cB ≤ maxLen
 bytes : SlOf byteR w (own (.slice A m c)) B b
 lcap : l.length ≤ cL ∧ cL ≤ maxLen
 list : SlOf valR w (own (.slice A m c)) L l
 bulk : bulkV (.mk k u b f l) ≤ 1100000
 row : w.ownsRow base 5 1 (.slice A m c) m (bytesV xs)
 base : base ≤ w.heap.size
 long : m ≤ 1100000
/-- the world in which the value lies boxed at g -/
structure WBox (base : Nat) (w w1 : World) (g : Nat) (A : Option Addr) (m c : Nat) (xs : List UInt8) (k : Int) (u : Nat) (b : List UInt8) (f : Nat) (l : List Val) (B : Option Addr) (cB : Nat) (L : Option Addr) (cL : Nat) : Prop where
 below : Below base w w1
 moves : Moves w w1 (own (.slice A m c)) (own (.slice A m c))
 c0 : w1.cell? ⟨g, 0, none⟩ = some (.int .i64 k)
 c1 : w1.cell? ⟨g, 1, none⟩ = some (.int .u64 (u : Int))
 c2 : w1.cell? ⟨g, 2, none⟩ = some (.slice B b.length cB)
 c3 : w1.cell? ⟨g, 3, none⟩ = some (.float .f64 f)
 c4 : w1.cell? ⟨g, 4, none⟩ = some (.slice L l.length cL)
 lt : g < w1.heap.size
 ne : ¬ own (.slice A m c) g
 row : w1.ownsRow base 5 1 (.slice A m c) m (bytesV xs)
 base : base ≤ w1.heap.size
 bytes : SlOf byteR w1 (own (.slice A m c)) B b
 list : SlOf valR w1 (own (.slice A m c)) L l
theorem WIn.box {base : Nat} {w : World} {A : Option Addr} {m c : Nat} {xs : List UInt8} {k : Int} {u : Nat} {b : List UInt8} {f : Nat} {l : List Val} {B : Option Addr} {cB : Nat} {L : Option Addr} {cL : Nat} (h : WIn base w A m c xs k u b f l B cB L cL) :
  WBox base w (w.alloc (.cells #[.int .i64 k, .int .u64 (u : Int), .slice B b.length cB, .float .f64 f, .slice L l.length cL] 94)) w.heap.size A m c xs k u b f l B cB L cL := by
 have hb : Below w.heap.size w (w.alloc (.cells #[.int .i64 k, .int .u64 (u : Int), .slice B b.length cB, .float .f64 f, .slice L l.length cL] 94)) := (Below.refl _ _).alloc (Nat.le_refl _) _
 refine ⟨hb.mono h.base, Moves.of_below hb, ?_, ?_, ?_, ?_, ?_, by simp, own_lt h.row, h.row.alloc _, Nat.le_trans h.base hb.size, h.bytes.stable (Moves.of_below hb), h.list.stable (Moves.of_below hb)⟩ <;> go_simp
theorem wr_num (d : Nat) (xs : List UInt8) (u : Nat) (b : List UInt8) (f : Nat) (l : List Val) : wrV (d + 1) xs (.mk 0 u b f l) = fin (xs ++ headL 0 u) := by simp [wrV, Val.kind, Val.num]
theorem wr_bytes (d : Nat) (xs : List UInt8) (u : Nat) (b : List UInt8) (f : Nat) (l : List Val) : wrV (d + 1) xs (.mk 1 u b f l) = fin (xs ++ headL 1 b.length ++ b) := by simp [wrV, Val.kind, Val.bytes]
theorem wr_flt (d : Nat) (xs : List UInt8) (u : Nat) (b : List UInt8) (f : Nat) (l : List Val) : wrV (d + 1) xs (.mk 2 u b f l) = fin (xs ++ headL 2 0 ++ be64 (canonB f)) := by simp [wrV, Val.kind, Val.flt]
def thenFin : Res (List UInt8) → Res (List UInt8)
 | .ok o => fin o
 | .error e => .error e
theorem wr_list (d : Nat) (xs : List UInt8) (u : Nat) (b : List UInt8) (f : Nat) (l : List Val) : wrV (d + 1) xs (.mk 3 u b f l) = thenFin (wrL (wrV d) (xs ++ headL 3 l.length) l) := by
 simp [wrV, Val.kind, Val.list]
 cases wrL (wrV d) (xs ++ headL 3 l.length) l <;> rfl
theorem wr_bad (d : Nat) (xs : List UInt8) {k : Int} (u : Nat) (b : List UInt8) (f : Nat) (l : List Val) (h0 : k ≠ 0) (h1 : k ≠ 1) (h2 : k ≠ 2) (h3 : k ≠ 3) : wrV (d + 1) xs (.mk k u b f l) = .error 22 := by simp [wrV, Val.kind, h0, h1, h2, h3]
section
variable {base : Nat} {w : World} {A : Option Addr} {m c : Nat} {xs : List UInt8} {k : Int} {u : Nat} {b : List UInt8} {f : Nat} {l : List Val} {B : Option Addr} {cB : Nat} {L : Option Addr} {cL : Nat} {z : Int}
set_option maxRecDepth 100000 in
set_option maxHeartbeats 1000000 in
theorem write_num (hz : ¬ (16 : Int) < z) (h : WIn base w A m c xs 0 u b f l B cB L cL) :
  Calls Tryz.prog 89 #[.slice A m c, .agg #[.int .i64 0, .int .u64 (u : Int), .slice B b.length cB, .float .f64 f, .slice L l.length cL], .int .i64 z] w (WrPost base w (.slice A m c) (fin (xs ++ headL 0 u))) := by
 have hX := h.box
 go_enter Tryz.func89, Tryz.ntmps89
 go_upto_region 3 with fail
 generalize w.alloc _ = w1 at *
 generalize w.heap.size = g at *
 have p0 := hX.c0
 have p1 := hX.c1
 go_wp2_with fail
 refine (head_any 0 u w1 (by omega) h.num (by have := h.long; omega) hX.row hX.base).mono ?_
 rintro e w2 ⟨A2, m2, c2, rfl, hm2, hown2, hb2, hv2⟩
 have HM := Lib.hid (own_len hown2)
 have HB := Lib.hid (hX.below.trans hb2)
 have HV := Lib.hid (hX.moves.trans hv2)
 clear hm2 hX h hb2 hv2 p0 p1
 by_cases hl : 1048576 < m2
 ·have hlI : (1048576 : Int) < (m2 : Int) := by omega
  go_wp2_with fail
  exact ⟨rfl, WrPost.long HB.out HM.out hl⟩
 ·have hlI : ¬ (1048576 : Int) < (m2 : Int) := by omega
  go_wp2_with fail
  go_ret
  exact WrPost.good HB.out HM.out hl hown2 HV.out
theorem kinds {k : Int} (h0 : k ≠ 0) (h1 : k ≠ 1) (h2 : k ≠ 2) (h3 : k ≠ 3) : (k == 0) = false ∧ (k == 1) = false ∧ (k == 2) = false ∧ (k == 3) = false := by simp [h0, h1, h2, h3]
set_option maxRecDepth 100000 in
set_option maxHeartbeats 1000000 in
theorem write_bad (hz : ¬ (16 : Int) < z) (h0 : k ≠ 0) (h1 : k ≠ 1) (h2 : k ≠ 2) (h3 : k ≠ 3) (h : WIn base w A m c xs k u b f l B cB L cL) :
  Calls Tryz.prog 89 #[.slice A m c, .agg #[.int .i64 k, .int .u64 (u : Int), .slice B b.length cB, .float .f64 f, .slice L l.length cL], .int .i64 z] w (WrPost base w (.slice A m c) (.error 22)) := by
 have hX := h.box
 obtain ⟨k0, k1, k2, k3⟩ := kinds h0 h1 h2 h3
 clear h0 h1 h2 h3
 go_enter Tryz.func89, Tryz.ntmps89
 go_upto_region 3 with fail
 generalize w.alloc _ = w1 at *
 generalize w.heap.size = g at *
 have p0 := hX.c0
 have HB := Lib.hid hX.below
 clear hX h
 go_wp2_with fail
 exact ⟨rfl, HB.out, rfl⟩
set_option maxRecDepth 100000 in
set_option maxHeartbeats 1000000 in
theorem write_bytes (hz : ¬ (16 : Int) < z) (h : WIn base w A m c xs 1 u b f l B cB L cL) :
  Calls Tryz.prog 89 #[.slice A m c, .agg #[.int .i64 1, .int .u64 (u : Int), .slice B b.length cB, .float .f64 f, .slice L l.length cL], .int .i64 z] w (WrPost base w (.slice A m c) (fin (xs ++ headL 1 b.length ++ b))) := by
 generalize hR : xs ++ headL 1 b.length ++ b = R
 have HR := Lib.hid hR
 clear hR
 have hX := h.box
 have hbl : b.length ≤ 1100000 := by have := h.bulk; simp only [bulkV] at this; omega
 have hm := h.long
 go_enter Tryz.func89, Tryz.ntmps89
 go_upto_region 8 with fail
 generalize w.alloc _ = w1 at *
 generalize w.heap.size = g at *
 have p0 := hX.c0
 have p2 := hX.c2
 have hwl : IntKind.u64.wrap (b.length : Int) = (b.length : Int) := by rw [wrap_u64]; omega
 have HH := Lib.hid (head_any (xs := xs) 1 b.length w1.drew (by omega) (by omega) (by omega) hX.row hX.base)
 have HN := Lib.hid (headL_length (k := 1) (n := b.length) (by omega))
 have HBL := Lib.hid hbl
 have HM := Lib.hid hm
 have HL := Lib.hid (own_len h.row)
 clear hbl hm h
 refine wp_region_held (S := fun w => w.cell? ⟨g, 2, none⟩ = some (.slice B b.length cB)) (by kernel_rfl) ?_
 change wpAnyH _ _ _ _ _ _ _ _ (World.drew _)
 refine rgT 0 (show w1.drew.cell? ⟨g, 2, none⟩ = some (.slice B b.length cB) from p2) ?_
 refine rgT 1 (show w1.drew.cell? ⟨g, 2, none⟩ = some (.slice B b.length cB) from p2) ?_
 refine rgU 2 (v := ?_) (a' := ?_) (show w1.drew.cell? ⟨g, 2, none⟩ = some (.slice B b.length cB) from p2) ?_ ?_ ?_
 rotate_left 2
 ·(intro w hS; have t := hS; go_simp; try with_reducible rfl)
 ·(go_simp; try with_reducible rfl)
 refine rgT 3 (show w1.drew.cell? ⟨g, 2, none⟩ = some (.slice B b.length cB) from p2) ?_
 refine rgT 4 (show w1.drew.cell? ⟨g, 2, none⟩ = some (.slice B b.length cB) from p2) ?_
 refine rgT 6 (show w1.drew.cell? ⟨g, 2, none⟩ = some (.slice B b.length cB) from p2) ?_
 refine rgU 7 (v := ?_) (a' := ?_) (show w1.drew.cell? ⟨g, 2, none⟩ = some (.slice B b.length cB) from p2) ?_ ?_ ?_
 rotate_left 2
 ·(intro w hS; have t := hS; go_simp; try with_reducible rfl)
 ·(go_simp; try with_reducible rfl)
 refine held_ready (rs := [5]) (by kernel_rfl) (by simp) ?_
 refine AllHeld.cons rfl (fun KR hKR => ?_) ?_
 ·go_simp
  refine HH.out.mono ?_
  rintro e w2 ⟨A2, m2, c2, rfl, hm2, hown2, hb2, hv2⟩
  have HM2 := Lib.hid hm2
  clear hm2
  have HV2 := Lib.hid ((Moves.drew w1 _).trans hv2)
  have hcA : w2.cell? ⟨g, 2, none⟩ = some (.slice B b.length cB) := (HV2.out.cell hX.lt hX.ne).trans p2
  have hby := (hX.bytes.stable HV2.out).bytes
  obtain ⟨A3, c3, w3, run3, ap3, hc3, hm3⟩ := append_sl elemByte hown2 hby (bytesV_one b) (by have := HBL.out; have := HM.out; have := HM2.out; have := HN.out; omega) (by have := HBL.out; have := HM.out; have := HM2.out; have := HN.out; simp only [maxLen]; omega) (Nat.le_trans hX.base HV2.out.size) 38 cB
  have HV3 := Lib.hid (hX.moves.trans (HV2.out.trans (Moves.of_app ap3)))
  have HB3 := Lib.hid (hX.below.trans (((Same.below ⟨1, rfl⟩ base).trans hb2).trans ap3.below))
  have hcB : w3.cell? ⟨g, 2, none⟩ = some (.slice B b.length cB) := ((Moves.of_app ap3).cell (Nat.lt_of_lt_of_le hX.lt HV2.out.size) (HV2.out.ne g hX.lt hX.ne)).trans hcA
  have hown3 := ap3.own
  rw [show bytesV (xs ++ headL 1 b.length) ++ b.map (fun b => Value.int .u8 (b.toNat : Int)) = bytesV R from by rw [← HR.out]; simp [bytesV]] at hown3
  have HL3 := Lib.hid (own_len hown3)
  refine hKR _ _ hcA ?_
  clear hKR KR
  refine held_ready (rs := [8]) (by kernel_rfl) (by simp) ?_
  refine AllHeld.cons rfl (fun KR hKR => ?_) ?_
  ·refine step_run_append (by rfl) (.tmp 32) (.tmp 34) (by rfl) (by rfl) (by rfl) run3 ?_
   refine hKR _ _ hcB ?_
   clear hKR KR
   refine rgT 9 hcB ?_
   refine wpAnyH_done (by kernel_rfl) ?_ _
   have HOK := Lib.hid hown3
   clear run3 ap3 hown3 hown2 hv2 hb2 hby hcA hcB p0 p2 hX hwl
   by_cases hl : 1048576 < m2 + b.length
   ·have hlI : (1048576 : Int) < (m2 : Int) + (b.length : Int) := by omega
    go_wp2_with fail
    exact ⟨rfl, WrPost.long HB3.out HL3.out hl⟩
   ·have hlI : ¬ (1048576 : Int) < (m2 : Int) + (b.length : Int) := by omega
    go_wp2_with fail
    go_ret
    exact WrPost.good HB3.out HL3.out hl HOK.out HV3.out
  exact AllHeld.nil
 exact AllHeld.nil
theorem be64_take {C p i : Nat} (hp : p < 8) (hi : i = 56 - 8 * p) : (be64 C).take (p + 1) = (be64 C).take p ++ [UInt8.ofNat (C / 2 ^ i)] := by
 subst hi
 match p, hp with
 | 0, _ => rfl
 | 1, _ => rfl
 | 2, _ => rfl
 | 3, _ => rfl
 | 4, _ => rfl
 | 5, _ => rfl
 | 6, _ => rfl
 | 7, _ => rfl
set_option maxRecDepth 100000 in
set_option maxHeartbeats 1000000 in
theorem write_flt (hz : ¬ (16 : Int) < z) (h : WIn base w A m c xs 2 u b f l B cB L cL) :
  Calls Tryz.prog 89 #[.slice A m c, .agg #[.int .i64 2, .int .u64 (u : Int), .slice B b.length cB, .float .f64 f, .slice L l.length cL], .int .i64 z] w (WrPost base w (.slice A m c) (fin (xs ++ headL 2 0 ++ be64 (canonB f)))) := by
 generalize hR : xs ++ headL 2 0 ++ be64 (canonB f) = R
 have HR := Lib.hid hR
 clear hR
 have hX := h.box
 have hm := h.long
 have hef := ext_bits
 have HHL := Lib.hid (headL_length (k := 2) (n := 0) (by omega))
 have HF := Lib.hid (canonB_lt h.flt)
 go_enter Tryz.func89, Tryz.ntmps89
 go_upto_region 3 with fail
 generalize w.alloc _ = w1 at *
 generalize w.heap.size = g at *
 have hbase : base ≤ w.heap.size := h.base
 have p0 := hX.c0
 go_wp2_with fail
 refine (head_any 2 0 w1 (by omega) (by omega) (by omega) hX.row hX.base).mono ?_
 rintro e w2 ⟨A2, m2, c2, rfl, hm2, hown2, hb2, hv2⟩
 have p3 : w2.cell? ⟨g, 3, none⟩ = some (.float .f64 f) := (hv2.cell hX.lt hX.ne).trans hX.c3
 have HM2 := Lib.hid hm2
 clear hm2
 go_wp2_with fail
 refine (canon_any f w2).mono ?_
 rintro e w3 ⟨rfl, hs3⟩
 go_wp2_with fail
 have HB3 := Lib.hid ((hX.below.trans hb2).trans (hs3.below base))
 have HV3 := Lib.hid ((hX.moves.trans hv2).trans (Moves.of_below (hs3.below _)))
 have hown3 := hs3.own hown2
 have hz3 : base ≤ w3.heap.size := by rw [hs3.size]; exact Nat.le_trans hX.base hv2.size
 have HLm := Lib.hid (own_len hown3)
 clear hown2 hb2 hv2 p0 p3 hX h hs3 hef
 clear w2
 obtain ⟨C, hC⟩ : ∃ C, C = canonB f := ⟨_, rfl⟩
 rw [← hC] at HR HF ⊢
 clear hC
 obtain ⟨X, hX⟩ : ∃ X, X = xs ++ headL 2 0 := ⟨_, rfl⟩
 rw [← hX] at HR hown3 HLm
 clear hX
 go_loopw [0, 8] (fun s0 s8 wr => ∃ (A' : Option Addr) (m' c' p : Nat) (I : Int), p ≤ 8 ∧ s0 = .slice A' m' c' ∧ s8 = .int .i64 I ∧ Hid (I = (56 : Int) - 8 * (p : Int)) ∧ m' = m2 + p ∧ wr.ownsRow base 5 1 (.slice A' m' c') m' (bytesV (X ++ (be64 C).take p)) ∧ Below base w wr ∧ Moves w wr (own (.slice A m c)) (own (.slice A' m' c')))
  (fun s0 s8 wr => (intOf s8 + 8).toNat)
 case atStart => exact ⟨A2, m2, c2, 0, 56, by omega, rfl, rfl, Lib.hid rfl, rfl, by simpa using hown3, HB3.out, HV3.out⟩
 case round =>
  obtain ⟨A', m', c', p, I, hp, rfl, rfl, HI, hm', hown', hbl, hmv⟩ := hrel
  have HM' := Lib.hid hm'
  clear hm'
  have hbw : base ≤ wr.heap.size := Nat.le_trans hbase hmv.size
  by_cases hp8 : p < 8
  ·obtain ⟨i, rfl⟩ : ∃ i : Nat, I = (i : Int) := ⟨56 - 8 * p, by have := HI.out; omega⟩
   have hi64 : (i : Int) < 64 := by have := HI.out; omega
   have hi0 : (0 : Int) ≤ (i : Int) := by omega
   have hpm : m' + 1 ≤ 1200000 := by have := HM'.out; have := HM2.out; have := HHL.out; omega
   obtain ⟨y, hy⟩ : ∃ y, y = C / 2 ^ i % 256 := ⟨_, rfl⟩
   have hyI : (C : Int) / 2 ^ i % 256 = (y : Int) := by rw [hy]; simp
   obtain ⟨A3, c3, w4, run3, ap3, hc3, hm3⟩ := append_sl elemByte (hown'.alloc (.cells #[.int .u8 (y : Int)] 5)) (Sl.one wr (.int .u8 (y : Int)) 5) (by simp; rfl) (by omega) (by simp only [maxLen]; omega) (by simp; omega) 38 1
   have hbl2 : Below base w w4 := hbl.trans (((Below.refl _ _).alloc hbw _).trans ap3.below)
   have hmv2 := hmv.trans ((Moves.of_below ((Below.refl _ _).alloc (Nat.le_refl _) _)).trans (Moves.of_app ap3))
   have hown4 := ap3.own
   have hbv : bytesV (X ++ (be64 C).take p) ++ [Value.int .u8 (y : Int)] = bytesV (X ++ (be64 C).take (p + 1)) := by
    rw [be64_take hp8 (i := i) (by have := HI.out; omega), ← List.append_assoc]
    simp only [bytesV, List.map_append, List.map_cons, List.map_nil]
    rw [hy, show (UInt8.ofNat (C / 2 ^ i)).toNat = C / 2 ^ i % 256 from by simp [UInt8.toNat_ofNat']]
   rw [hbv] at hown4
   have HI2 : Hid ((i : Int) - 8 = (56 : Int) - 8 * ((p + 1 : Nat) : Int)) := Lib.hid (by have := HI.out; omega)
   clear hy ap3 hown' hbv HI hmv hbl
   go_wp2_with (first | (at_builtin; refine wpList_run_append run3 ?_ ?_ ?_; exact rfl; exact rfl) | fail)
   go_roundw
   case rel => exact ⟨A3, m' + 1, c3, p + 1, (i : Int) - 8, by omega, by go_num, rfl, HI2, by have := HM'.out; omega, hown4, hbl2, hmv2⟩
   case measure => simp [intOf]; omega
  ·obtain rfl : p = 8 := by omega
   obtain rfl : I = -8 := by have := HI.out; omega
   have hR8 : X ++ (be64 C).take 8 = R := HR.out
   rw [hR8] at hown'
   have HL3 := Lib.hid (own_len hown')
   clear hR8 HI
   by_cases hl : 1048576 < m'
   ·have hlI : (1048576 : Int) < (m' : Int) := by omega
    go_wp2_with fail
    exact ⟨rfl, WrPost.long hbl HL3.out hl⟩
   ·have hlI : ¬ (1048576 : Int) < (m' : Int) := by omega
    go_wp2_with fail
    go_ret
    exact WrPost.good hbl HL3.out hl hown' hmv
theorem wr_len {d : Nat} {out o : List UInt8} {v : Val} (h : wrV d out v = .ok o) : o.length ≤ 1048576 := by
 obtain ⟨_, _, _, h⟩ := (wr_iff d out v o).1 h; exact h
theorem wrL_step {f : List UInt8 → Val → Res (List UInt8)} {o : List UInt8} {l : List Val} {j : Nat} {x : Val} (hx : l[j]? = some x) : wrL f o (l.drop j) = match f o x with | .ok o' => wrL f o' (l.drop (j + 1)) | .error e => .error e := by
 obtain ⟨hj, rfl⟩ := List.getElem?_eq_some_iff.1 hx
 rw [List.drop_eq_getElem_cons hj]
 rfl
theorem elem_bulk {k : Int} {u : Nat} {b : List UInt8} {f : Nat} {l : List Val} {j : Nat} {x : Val} (hx : l[j]? = some x) (h : bulkV (.mk k u b f l) ≤ 1100000) : bulkV x ≤ 1100000 := by
 have := bulkVs_mem (List.mem_of_getElem? hx)
 simp only [bulkV] at h
 omega
set_option maxRecDepth 100000 in
set_option maxHeartbeats 2000000 in
theorem write_list {d : Nat} {zz : Int} (hd : d ≤ 16) (hz : ¬ (16 : Int) < z) (hzz : zz = z + 1) (hz0 : -1000 ≤ z) (h : WIn base w A m c xs 3 u b f l B cB L cL) (hlong : m + 10 * (d + 1) ≤ 1100000)
  (ih : ∀ {A : Option Addr} {m c : Nat} {xs : List UInt8} {cs : List Value} (v : Val) (w : World), valR.R w (own (.slice A m c)) cs v → bulkV v ≤ 1100000 → m + 10 * d ≤ 1100000 →
   w.ownsRow base 5 1 (.slice A m c) m (bytesV xs) → base ≤ w.heap.size → Calls Tryz.prog 89 #[.slice A m c, .agg cs.toArray, .int .i64 zz] w (WrPost base w (.slice A m c) (wrV d xs v))) :
  Calls Tryz.prog 89 #[.slice A m c, .agg #[.int .i64 3, .int .u64 (u : Int), .slice B b.length cB, .float .f64 f, .slice L l.length cL], .int .i64 z] w (WrPost base w (.slice A m c) (thenFin (wrL (wrV d) (xs ++ headL 3 l.length) l))) := by
 subst hzz
 generalize hR : wrL (wrV d) (xs ++ headL 3 l.length) l = R
 have HR := Lib.hid hR
 clear hR
 have hX := h.box
 have hll : l.length ≤ 1100000 := by have := h.bulk; have := bulkVs_len l; simp only [bulkV] at *; omega
 have HHL := Lib.hid (headL_length (k := 3) (n := l.length) (by omega))
 have HIH := Lib.hid (fun A m c xs cs v w => @ih A m c xs cs v w)
 have HBK := Lib.hid h.bulk
 have HLG := Lib.hid hlong
 clear ih hlong
 have hwl : IntKind.u64.wrap (l.length : Int) = (l.length : Int) := by rw [wrap_u64]; omega
 go_enter Tryz.func89, Tryz.ntmps89
 go_upto_region 3 with fail
 generalize w.alloc _ = w1 at *
 generalize w.heap.size = g at *
 have hbase : base ≤ w.heap.size := h.base
 have p0 := hX.c0
 have p4 := hX.c4
 go_wp2_with fail
 refine (head_any 3 l.length w1 (by omega) (by omega) (by have := HLG.out; omega) hX.row hX.base).mono ?_
 rintro e w2 ⟨A2, m2, c2, rfl, hm2, hown2, hb2, hv2⟩
 have q4 : w2.cell? ⟨g, 4, none⟩ = some (.slice L l.length cL) := (hv2.cell hX.lt hX.ne).trans hX.c4
 have HM2 := Lib.hid hm2
 clear hm2
 go_wp2_with fail
 have HB2 := Lib.hid (hX.below.trans hb2)
 have HV2 := Lib.hid (hX.moves.trans hv2)
 have HLS := Lib.hid (hX.list.stable hv2)
 have hg2 : g < w2.heap.size := Nat.lt_of_lt_of_le hX.lt hv2.size
 clear hX hwl p0 p4 q4 hb2 hv2 h
 clear w1
 have hm2l := own_len hown2
 have HM2L := Lib.hid (show m2 + 10 * d ≤ 1100000 by have := HM2.out; have := HHL.out; have := HLG.out; omega)
 have HHM := Lib.hid hm2l
 clear hm2l HM2 HHL HLG
 obtain ⟨X, hX⟩ : ∃ X, X = xs ++ headL 3 l.length := ⟨_, rfl⟩
 rw [← hX] at HR hown2 HHM
 clear hX
 go_loopw [0, 66] (fun s0 s66 wr => ∃ (A' : Option Addr) (m' c' j : Nat) (o : List UInt8), j ≤ l.length ∧ s0 = .slice A' m' c' ∧ s66 = .int .i64 (j : Int) ∧ Hid (wrL (wrV d) o (l.drop j) = R) ∧ Hid (m' = o.length) ∧ Hid (m' + 10 * d ≤ 1100000) ∧ wr.ownsRow base 5 1 (.slice A' m' c') m' (bytesV o) ∧ Below base w wr ∧ Hid (Moves w wr (own (.slice A m c)) (own (.slice A' m' c'))) ∧ Hid (Moves w2 wr (own (.slice A2 m2 c2)) (own (.slice A' m' c'))))
  (fun s0 s66 wr => l.length - (intOf s66).toNat)
 case atStart => exact ⟨A2, m2, c2, 0, X, Nat.zero_le _, rfl, rfl, Lib.hid HR.out, HHM, HM2L, hown2, HB2.out, HV2, Lib.hid (Moves.of_below (Below.refl _ _))⟩
 case round =>
  obtain ⟨A', m', c', j, o, hj, rfl, rfl, HW, HO, HD, hown', hbl, HMV, HMV2⟩ := hrel
  by_cases hjl : j < l.length
  ·have hls := HLS.out.stable HMV2.out
   obtain ⟨bb, off, cs, x, hLa, hbb, hx, hxr, hat⟩ := hls.at rfl hjl
   subst hLa
   have hxb := elem_bulk hx HBK.out
   have hst := wrL_step (f := wrV d) (o := o) hx
   rw [HW.out] at hst
   have HST := Lib.hid hst
   have hk5 : cs.length = 5 := valR.len hxr
   have hone := valR.one hxr
   have HC := Lib.hid (fun w => HIH.out A' m' c' o cs x w)
   have hat' : At wr ⟨bb, off + j * 5, none⟩ cs.toArray := hat
   have HKI := Lib.hid (show (Tryz.prog.info? 94).map (·.size) = some cs.toArray.size by rw [show cs.toArray.size = 5 from by simpa using hk5]; kernel_rfl)
   have HKO := Lib.hid (show cs.toArray.all (·.oneCell') = true by simpa using hone)
   have HKS := Lib.hid (show (#[Value.int .i64 0, .int .u64 0, .slice none 0 0, .float .f64 0, .slice none 0 0] : Array Value).size = cs.toArray.size by simp [hk5])
   have HXR := Lib.hid hxr
   clear hst hx hls hat hk5 hone
   obtain ⟨KV, hKV⟩ : ∃ KV : Array Value, KV = cs.toArray := ⟨_, rfl⟩
   rw [← hKV] at hat' HKI HKO HKS HC
   have HAT := Lib.hid hat'
   clear hKV hat'
   have hjI : (j : Int) < (l.length : Int) := by omega
   go_upto_region 21 with (first
    | (refine wpList_load_at rfl 94 (.tmp 68) rfl bb (off + j * 5) rfl KV _ HAT.out Tryz.underlying94 rfl HKI.out ?_)
    | (refine wpList_store_row rfl _ _ _ rfl wr.heap.size KV rfl rfl 94 _ (heap_alloc_new wr _) HKI.out HKS.out HKO.out ?_))
   rw [World.setRow_alloc_new]
   have hba : Below wr.heap.size wr (wr.alloc (.cells KV 94)) := (Below.refl _ _).alloc (Nat.le_refl _) _
   have hbw : base ≤ wr.heap.size := Nat.le_trans hbase HMV.out.size
   have HC2 := Lib.hid (HC.out (wr.alloc (.cells KV 94)) (valR.stable HXR.out (Moves.of_below hba)) hxb HD.out (hown'.alloc _) (Nat.le_trans hbw hba.size))
   have HBA := Lib.hid (hbl.trans (hba.mono hbw))
   have HMA := Lib.hid (HMV.out.trans (Moves.of_below hba))
   have HMA2 := Lib.hid (HMV2.out.trans (Moves.of_below hba))
   have hnew := Lib.hid (heap_alloc_new wr (.cells KV 94))
   clear HC HXR HAT HIH HKO HKS hba hown' hbl HMV HMV2 hxb
   go_wp2_with (refine wpList_load_row rfl 94 (.tmp 10) rfl wr.heap.size rfl 94 KV (0, 0) _ hnew.out Tryz.underlying94 rfl HKI.out ?_)
   refine HC2.out.mono ?_
   intro e w3 hp
   obtain ⟨hb3, hp⟩ := hp
   have hst := HST.out
   clear HC2 hnew HST
   cases hr : wrV d o x with
   | error zz =>
    rw [hr] at hp hst
    obtain rfl : e = _ := hp
    have HB4 := Lib.hid (HBA.out.trans hb3)
    have HR2 := Lib.hid hst
    clear hst hr hb3
    refine ⟨rfl, HB4.out, ?_⟩
    rw [HR2.out]
    rfl
   | ok o2 =>
    rw [hr] at hp hst
    obtain ⟨A3, m3, c3, rfl, hm3, hown3, hmv3⟩ := hp
    have hl3 := wr_len hr
    have HB4 := Lib.hid (HBA.out.trans hb3)
    have HM4 := Lib.hid (HMA.out.trans hmv3)
    have HM5 := Lib.hid (HMA2.out.trans hmv3)
    have HW3 := Lib.hid hst.symm
    have HO3 := Lib.hid hm3
    have HD3 := Lib.hid (show m3 + 10 * d ≤ 1100000 by omega)
    clear hst hr hm3 hl3 hb3 hmv3 HBA HMA HMA2 HW HO HD
    go_wp2_with fail
    go_roundw
    case rel => exact ⟨A3, m3, c3, j + 1, o2, by omega, rfl, by go_num, HW3, HO3, HD3, hown3, HB4.out, HM4, HM5⟩
    case measure => simp [intOf]; omega
  ·obtain rfl : j = l.length := by omega
   have hW := HW.out
   rw [List.drop_length] at hW
   have HRE := Lib.hid (show thenFin R = fin o by rw [← hW]; rfl)
   have HO' := HO.out
   have HOO := Lib.hid HO'
   clear hW HW HO' hj hjl HIH HLS HMV2 HR
   by_cases hl : 1048576 < m'
   ·have hlI : (1048576 : Int) < (m' : Int) := by omega
    go_wp2_with fail
    refine ⟨rfl, ?_⟩
    rw [HRE.out]
    exact WrPost.long hbl HOO.out hl
   ·have hlI : ¬ (1048576 : Int) < (m' : Int) := by omega
    go_wp2_with fail
    go_ret
    rw [HRE.out]
    exact WrPost.good hbl HOO.out hl hown' HMV.out
end
theorem write_any : ∀ (d : Nat) {base : Nat} {A : Option Addr} {m c : Nat} {xs : List UInt8} {cs : List Value} (v : Val) (w : World), d ≤ 16 → valR.R w (own (.slice A m c)) cs v → bulkV v ≤ 1100000 → m + 10 * d ≤ 1100000 →
  w.ownsRow base 5 1 (.slice A m c) m (bytesV xs) → base ≤ w.heap.size →
  Calls Tryz.prog 89 #[.slice A m c, .agg cs.toArray, .int .i64 ((17 : Int) - (d : Int))] w (WrPost base w (.slice A m c) (wrV d xs v)) := by
 intro d
 induction d with
 | zero =>
  intro base A m c xs cs v w hd hv hbk hm hown hbase
  obtain ⟨k, u, b, f, l⟩ := v
  obtain ⟨B, cB, L, cL, rfl, _⟩ := valR_iff.1 hv
  have hbb : Below base w (w.alloc (.cells #[.int .i64 k, .int .u64 (u : Int), .slice B b.length cB, .float .f64 f, .slice L l.length cL] 94)) := (Below.refl _ _).alloc hbase _
  rw [show ((17 : Int) - ((0 : Nat) : Int)) = 17 from rfl]
  clear hv hown
  go_enter Tryz.func89, Tryz.ntmps89
  go_wp2_with fail
  exact ⟨rfl, hbb, rfl⟩
 | succ d ih =>
  intro base A m c xs cs v w hd hv hbk hm hown hbase
  obtain ⟨k, u, b, f, l⟩ := v
  obtain ⟨B, cB, L, cL, rfl, hk, hu, hf, ⟨hb1, hb2, hb3⟩, hl1, hl2, hl3⟩ := valR_iff.1 hv
  have hin : WIn base w A m c xs k u b f l B cB L cL := ⟨hu, hf, ⟨hb1, hb2⟩, hb3, ⟨hl1, hl2⟩, hl3, hbk, hown, hbase, by omega⟩
  have hz : ¬ (16 : Int) < (17 : Int) - ((d + 1 : Nat) : Int) := by omega
  by_cases h0 : k = 0
  ·subst h0; rw [wr_num]; exact write_num hz hin
  by_cases h1 : k = 1
  ·subst h1; rw [wr_bytes]; exact write_bytes hz hin
  by_cases h2 : k = 2
  ·subst h2; rw [wr_flt]; exact write_flt hz hin
  by_cases h3 : k = 3
  ·subst h3; rw [wr_list]
   exact write_list (zz := (17 : Int) - (d : Int)) (by omega) hz (by omega) (by omega) hin hm (fun v w hv hbk hm hown hbase => ih v w (by omega) hv hbk hm hown hbase)
  ·rw [wr_bad d xs u b f l h0 h1 h2 h3]; exact write_bad hz h0 h1 h2 h3 hin
theorem wrV_err : ∀ (d : Nat) (out : List UInt8) (v : Val) (z : Int), wrV d out v = .error z → z ≠ 0
 | 0, out, v, z, h => by injection h with h; omega
 | d + 1, out, v, z, h => by
  have hf : ∀ o z, fin o = .error z → z ≠ 0 := fun o z h => by unfold fin at h; split at h; injection h with h; omega; cases h
  have hl : ∀ (l : List Val) (o : List UInt8) z, wrL (wrV d) o l = .error z → z ≠ 0 := by
   intro l
   induction l with
   | nil => intro o z h; cases h
   | cons v r ih =>
    intro o z h
    rw [wrL] at h
    split at h
    ·exact ih _ _ h
    ·rename_i z' h'; injection h with h; subst h; exact wrV_err d _ _ _ h'
  unfold wrV at h
  split at h
  ·exact hf _ _ h
  split at h
  ·exact hf _ _ h
  split at h
  ·exact hf _ _ h
  split at h
  ·split at h
   ·exact hf _ _ h
   ·rename_i z' h'; injection h with h; subst h; exact hl _ _ _ h'
  ·injection h with h; omega
end Go.Proofs.YtgmbkcjihgphmaaGreat
/- grain's cursor: bytes that are read. -/
namespace Go.Proofs.YtgmbkcjihgphmaaGreat
open Go.RowKit
attribute [local go_sem ↓] cutA_eq
/-- the cursor in block gc is at the bytes l -/
structure Cur (w : World) (gc : Nat) (A : Option Addr) (n c : Nat) (l : List UInt8) : Prop where
 blk : Blk w gc 187 #[.slice A n c]
 sl : Sl w 1 A n (bytesV l)
 le : n ≤ c
 max : c ≤ maxLen
 src : 0 < n → ∀ b off sp, A = some ⟨b, off, sp⟩ → b < gc
theorem Cur.len {w : World} {gc : Nat} {A : Option Addr} {n c : Nat} {l : List UInt8} (h : Cur w gc A n c l) : l.length = n := by
 have := h.sl.1; simpa [bytesV_length] using this
/-- a slice of memory that lies ahead of gc is kept where gc alone turns -/
theorem sl_grown {w w' : World} {gc : Nat} {A : Option Addr} {n : Nat} {xs : List Value} (hs : Sl w 1 A n xs) (hsrc : 0 < n → ∀ b off sp, A = some ⟨b, off, sp⟩ → b < gc) (hg : w.grownBy w' (some gc)) : Sl w' 1 A n xs := by
 refine ⟨hs.1, fun hn => ?_⟩
 obtain ⟨b, off, he, hb, hc⟩ := hs.2 hn
 refine ⟨b, off, he, Nat.lt_of_lt_of_le hb hg.size, fun j u hu => ?_⟩
 have := hsrc hn b off none he
 rw [World.cell?_of_block (hg.block b hb (fun e => by have := Option.some.inj e; omega))]
 exact hc j u hu
theorem grown_refl (w : World) (r : Option Nat) : w.grownBy w r := World.grownBy.refl w r
theorem cutA_src {A : Option Addr} {c n gc : Nat} (h : ∀ b off sp, A = some ⟨b, off, sp⟩ → b < gc) : ∀ b off sp, cutA A c n = some ⟨b, off, sp⟩ → b < gc := by
 intro b off sp e
 unfold cutA at e
 split at e
 ·exact h b off sp e
 ·cases A with
  | none => simp at e
  | some a =>
   have e := congrArg (Option.map Addr.block) e
   simp only [Option.map_some, Option.some.injEq] at e
   have hb : (a.add n).block = a.block := by unfold Addr.add; split <;> rfl
   rw [hb] at e
   have := h a.block a.off a.spot (by cases a; rfl)
   omega
/-- take: the next n bytes -/
theorem take_short {w : World} {gc : Nat} {A : Option Addr} {n c : Nat} {l : List UInt8} (m : Nat) (h : Cur w gc A n c l) (hm : n < m) :
  Calls Tryz.prog 106 #[.pointer (some ⟨gc, 0, none⟩), .int .u64 (m : Int)] w fun e w' => e = .panicked (stopE 20) ∧ w' = w := by
 have c0 : w.cell? ⟨gc, 0, none⟩ = some (.slice A n c) := h.blk.cell 0
 have hn : n ≤ 9223372036854775807 := by have := h.le; have := h.max; unfold maxLen at *; omega
 have hw : IntKind.u64.wrap (n : Int) = (n : Int) := by rw [wrap_u64]; omega
 have hmI : (n : Int) < (m : Int) := by omega
 go_enter Tryz.func106, Tryz.ntmps106
 go_wp2_with fail
 exact ⟨rfl, rfl, rfl⟩
theorem take_any {w : World} {gc : Nat} {A : Option Addr} {n c : Nat} {l : List UInt8} (m : Nat) (h : Cur w gc A n c l) (hm : m ≤ n) :
  Calls Tryz.prog 106 #[.pointer (some ⟨gc, 0, none⟩), .int .u64 (m : Int)] w fun e w' => e = .returned (.slice A m c) ∧ Sl w' 1 A m (bytesV (l.take m)) ∧ Cur w' gc (cutA A c m) (n - m) (c - m) (l.drop m) ∧ w.grownBy w' (some gc) ∧ w'.heap.size = w.heap.size := by
 have c0 : w.cell? ⟨gc, 0, none⟩ = some (.slice A n c) := h.blk.cell 0
 have f0 := h.blk.frozen 0
 have hn : n ≤ 9223372036854775807 := by have := h.le; have := h.max; unfold maxLen at *; omega
 have hw : IntKind.u64.wrap (n : Int) = (n : Int) := by rw [wrap_u64]; omega
 have hmI : ¬ (n : Int) < (m : Int) := by omega
 have hmI2 : (m : Int) ≤ (n : Int) := by omega
 have hmc : (m : Int) ≤ (c : Int) := by have := h.le; omega
 have hnc : (n : Int) ≤ (c : Int) := by have := h.le; omega
 go_enter Tryz.func106, Tryz.ntmps106
 go_wp2_with fail
 go_ret
 have hg := grown_set w gc 0 (.slice (cutA A c m) (n - m) (c - m))
 have h1 := h.sl.upto hm
 rw [Nat.mul_one, bytesV_take] at h1
 have h2 := h.sl.cut hm h.le
 rw [bytesV_drop] at h2
 exact ⟨rfl, sl_grown h1 (fun h0 => h.src (by omega)) hg, ⟨h.blk.set_ 0 _, sl_grown h2 (fun h0 => cutA_src (h.src (by omega))) hg, by have := h.le; omega, by have := h.max; omega, fun h0 => cutA_src (h.src (by omega))⟩, hg, by simp⟩
/-! ### a head -/
theorem u8_and3 (x : UInt8) : bits .and .u8 (x.toNat : Int) 3 = ((x.toNat % 4 : Nat) : Int) := by
 have h := u8_and_nat x.toNat 3 (u8_lt x) (by omega)
 rw [nat_mask2] at h; exact h
theorem u8_and31 (x : UInt8) : bits .and .u8 ((x.toNat : Int) / 4) 31 = ((x.toNat / 4 % 32 : Nat) : Int) := by
 have h := u8_and_nat (x.toNat / 4) 31 (by have := u8_lt x; omega) (by omega)
 rw [nat_mask5] at h
 simpa using h
theorem u8_and127 (x : UInt8) : bits .and .u8 (x.toNat : Int) 127 = ((x.toNat % 128 : Nat) : Int) := by
 have h := u8_and_nat x.toNat 127 (u8_lt x) (by omega)
 rw [nat_mask7] at h; exact h
theorem u64_join {n y s : Nat} (hn : n < 2 ^ s) (h64 : n + y * 2 ^ s < 2 ^ 64) : bits .or .u64 (n : Int) ((y * 2 ^ s : Nat) : Int) = ((n + y * 2 ^ s : Nat) : Int) := by
 have h := u64_or_nat n (y * 2 ^ s) (by omega) (by omega)
 rw [Nat.or_comm, nat_join s (y * 2 ^ s) n (by simp) hn, Nat.add_comm] at h
 exact h
def HeadPost (w : World) (gc : Nat) (r : Res (Nat × Nat × List UInt8)) (e : Ending) (w' : World) : Prop :=
 w.grownBy w' (some gc) ∧ w'.heap.size = w.heap.size ∧ match r with
  | .ok (k, n, l) => e = .returned (.tuple #[.int .i64 (k : Int), .int .u64 (n : Int)]) ∧ ∃ A m c, Cur w' gc A m c l
  | .error z => e = .panicked (stopE z)
theorem grown_trans {w w' w'' : World} {r : Option Nat} (h : w.grownBy w' r) (k : w'.grownBy w'' r) : w.grownBy w'' r := World.grownBy.trans h k
set_option maxRecDepth 100000 in
set_option maxHeartbeats 1000000 in
theorem curHead_any {w : World} {gc : Nat} {A : Option Addr} {n c : Nat} {l : List UInt8} (h : Cur w gc A n c l) :
  Calls Tryz.prog 105 #[.pointer (some ⟨gc, 0, none⟩)] w (HeadPost w gc (rdH l)) := by
 cases l with
 | nil =>
  have hn : n = 0 := by have := h.len; simpa using this.symm
  go_enter Tryz.func105, Tryz.ntmps105
  go_wp2_with fail
  refine (take_short 1 h (by omega)).mono ?_
  rintro e w' ⟨rfl, rfl⟩
  exact ⟨rfl, grown_refl _ _, rfl, rfl⟩
 | cons x r =>
  have hn : 1 ≤ n := by have := h.len; simp at this; omega
  go_enter Tryz.func105, Tryz.ntmps105
  go_wp2_with fail
  refine (take_any 1 h hn).mono ?_
  rintro e w1 ⟨rfl, hs1, hc1, hg1, hz1⟩
  obtain ⟨b, off, hA, hb, hcell⟩ := hs1.2 (by omega)
  have c0 := hcell 0 (.int .u8 (x.toNat : Int)) rfl
  subst hA
  rw [Nat.add_zero] at c0
  have a3 := u8_and3 x
  have a31 := u8_and31 x
  have hk4 : x.toNat % 4 < 4 := by omega
  have hRR : rdH (x :: r) = match rdT 5 (x.toNat / 4 % 32) x r with | .ok (n, q) => .ok (x.toNat % 4, n, q) | .error e => .error e := rfl
  obtain ⟨RR, hRR2⟩ : ∃ RR, RR = rdT 5 (x.toNat / 4 % 32) x r := ⟨_, rfl⟩
  rw [← hRR2] at hRR
  have HRR := Lib.hid hRR
  have HR2 := Lib.hid hRR2.symm
  obtain ⟨kk, hkk⟩ : ∃ kk, kk = x.toNat % 4 := ⟨_, rfl⟩
  obtain ⟨nn, hnn⟩ : ∃ nn, nn = x.toNat / 4 % 32 := ⟨_, rfl⟩
  rw [← hkk] at a3 HRR
  rw [← hnn] at a31 HR2
  have hnn32 : nn < 2 ^ 5 := by omega
  have hkk4 : kk < 4 := by omega
  have hc1' : Cur w1 gc (cutA (some ⟨b, off, none⟩) c 1) (n - 1) (c - 1) r := hc1
  have HC1 := Lib.hid hc1'
  clear hRR hRR2 hkk hnn hk4 hcell h hs1 hc1 hc1'
  go_wp2_with fail
  clear a3 a31 c0
  go_loopw [4, 6, 7] (fun s4 s6 s7 wr => ∃ (y : UInt8) (q s : Nat) (A' : Option Addr) (m' c' : Nat) (l' : List UInt8), s4 = .int .u8 (y.toNat : Int) ∧ s6 = .int .u64 (q : Int) ∧ s7 = .int .i64 (s : Int) ∧ Hid (rdT s q y l' = RR) ∧ s % 7 = 5 ∧ s ≤ 68 ∧ (s ≤ 61 ∨ y.toNat < 128) ∧ Hid (s ≤ 61 → q < 2 ^ s) ∧ q < 2 ^ 64 ∧ Hid (Cur wr gc A' m' c' l') ∧ w.grownBy wr (some gc) ∧ wr.heap.size = w.heap.size)
   (fun s4 s6 s7 wr => 100 - (intOf s7).toNat)
  case atStart => exact ⟨x, nn, 5, _, _, _, r, rfl, rfl, rfl, HR2, by omega, by omega, .inl (by omega), Lib.hid (fun _ => hnn32), by omega, HC1, hg1, hz1⟩
  case round =>
   obtain ⟨y, q, s, A', m', c', l', rfl, rfl, rfl, HD, hs5, hs68, hs61, HQ, hq64, HC, hg, hz⟩ := hrel
   have HZ := Lib.hid hz
   clear hz
   by_cases hy : y.toNat < 128
   ·have hyI : (y.toNat : Int) < 128 := by omega
    have hrt := HD.out
    rw [rdT_end hy] at hrt
    have HRT := Lib.hid hrt
    clear hrt HD
    go_wp2_with fail
    go_ret2
    refine ⟨hg, HZ.out, ?_⟩
    rw [HRR.out, ← HRT.out]
    exact ⟨rfl, _, _, _, HC.out⟩
   ·have hyI : ¬ (y.toNat : Int) < 128 := by omega
    have hyI2 : (128 : Int) ≤ (y.toNat : Int) := by omega
    have hs : s ≤ 61 := by omega
    cases l' with
    | nil =>
     have hrt := HD.out
     rw [rdT_short hy] at hrt
     have HRT := Lib.hid hrt
     have hm0 : m' = 0 := by have := HC.out.len; simpa using this.symm
     clear hrt HD
     go_wp2_with fail
     refine (take_short 1 HC.out (by omega)).mono ?_
     rintro e w' ⟨rfl, rfl⟩
     refine ⟨rfl, hg, HZ.out, ?_⟩
     rw [HRR.out, ← HRT.out]
    | cons y2 l2 =>
     have hrt := HD.out
     rw [rdT_more hy] at hrt
     have HRT := Lib.hid hrt
     have hm1 : 1 ≤ m' := by have := HC.out.len; simp at this; omega
     clear hrt HD
     go_wp2_with fail
     refine (take_any 1 HC.out hm1).mono ?_
     rintro e w2 ⟨rfl, hs2, hc2, hg2, hz2⟩
     obtain ⟨b2, off2, hA2, hb2, hcell2⟩ := hs2.2 (by omega)
     have d0 := hcell2 0 (.int .u8 (y2.toNat : Int)) rfl
     subst hA2
     rw [Nat.add_zero] at d0
     have HC2 : Hid (Cur w2 gc (cutA (some ⟨b2, off2, none⟩) c' 1) (m' - 1) (c' - 1) l2) := Lib.hid hc2
     have hgg := World.grownBy.trans hg hg2
     have HZ2 := Lib.hid (show w2.heap.size = w.heap.size by rw [hz2]; exact HZ.out)
     clear hcell2 hs2 hc2 HC hg hg2 hz2 HZ
     by_cases hbad : y2.toNat = 0 ∨ (s = 61 ∧ 7 < y2.toNat)
     ·have hrt := HRT.out
      rw [if_pos hbad] at hrt
      have HRE := Lib.hid hrt
      clear hrt HRT
      have hend : HeadPost w gc (rdH (x :: r)) (.panicked (stopE 21)) w2 := by
       refine ⟨hgg, HZ2.out, ?_⟩
       rw [HRR.out, ← HRE.out]
      have HEND := Lib.hid hend
      clear hend HRE HRR
      by_cases h0 : y2.toNat = 0
      ·have e0 : ((y2.toNat : Int) == 0) = true := by simp [h0]
       have e1 : (y2.toNat : Int) = 0 := by omega
       clear hbad
       go_wp2_with fail
       exact ⟨rfl, HEND.out⟩
      ·have e0 : ((y2.toNat : Int) == 0) = false := by simp [h0]
       have e61 : ((s : Int) == 61) = true := by simp; omega
       have h7 : (7 : Int) < (y2.toNat : Int) := by omega
       clear hbad h0
       go_wp2_with fail
       exact ⟨rfl, HEND.out⟩
     ·have hrt := HRT.out
      rw [if_neg hbad] at hrt
      obtain ⟨z2, hz2⟩ : ∃ z2, z2 = y2.toNat % 128 := ⟨_, rfl⟩
      have a127 := u8_and127 y2
      rw [← hz2] at a127 hrt
      have hp : (2 : Nat) ^ s ≤ 2 ^ 61 := Nat.pow_le_pow_right (by omega) hs
      have hzl : z2 < 128 := by omega
      have hqs := HQ.out hs
      have hV64 : q + z2 * 2 ^ s < 2 ^ 64 := by
       by_cases h61 : s = 61
       ·subst h61
        have : z2 ≤ 7 := by omega
        have := Nat.mul_le_mul_right (2 ^ 61) this
        omega
       ·have h54 : s ≤ 54 := by omega
        have h1 : (2 : Nat) ^ s ≤ 2 ^ 54 := Nat.pow_le_pow_right (by omega) h54
        have h2 := Nat.mul_le_mul (show z2 ≤ 127 by omega) h1
        omega
      have hV7 : q + z2 * 2 ^ s < 2 ^ (s + 7) := by
       have h1 : z2 * 2 ^ s ≤ 127 * 2 ^ s := Nat.mul_le_mul_right _ (by omega)
       rw [Nat.pow_add]; omega
      have hor := u64_join hqs hV64
      have hsh : IntKind.u64.wrap ((z2 : Int) * 2 ^ s) = ((z2 * 2 ^ s : Nat) : Int) := by
       rw [wrap_u64]
       have : ((z2 : Int) * 2 ^ s) = ((z2 * 2 ^ s : Nat) : Int) := by simp
       rw [this]
       omega
      obtain ⟨T, hT⟩ : ∃ T, T = z2 * 2 ^ s := ⟨_, rfl⟩
      rw [← hT] at hor hsh hV64 hV7 hrt
      obtain ⟨V, hV⟩ : ∃ V, V = q + T := ⟨_, rfl⟩
      rw [← hV] at hor hV64 hV7 hrt
      have HRN := Lib.hid hrt
      have HQ2 : Hid (s + 7 ≤ 61 → V < 2 ^ (s + 7)) := Lib.hid (fun _ => hV7)
      have hs612 : s + 7 ≤ 61 ∨ y2.toNat < 128 := by
       by_cases h61 : s = 61
       ·right; omega
       ·left; omega
      have e0 : ((y2.toNat : Int) == 0) = false := by simp; omega
      clear hrt HRT hT hV hz2 hp hqs HQ hV7
      by_cases h61 : s = 61
      ·have e61 : ((s : Int) == 61) = true := by simp [h61]
       have h7 : ¬ (7 : Int) < (y2.toNat : Int) := by omega
       have HS := Lib.hid h61
       clear hbad h61
       go_wp2_with fail
       go_roundw
       case rel => exact ⟨y2, V, s + 7, _, _, _, l2, rfl, rfl, by go_num, HRN, by omega, by omega, hs612, HQ2, hV64, HC2, hgg, HZ2.out⟩
       case measure => simp [intOf]; omega
      ·have e61 : ((s : Int) == 61) = false := by simp; omega
       clear hbad
       go_wp2_with fail
       go_roundw
       case rel => exact ⟨y2, V, s + 7, _, _, _, l2, rfl, rfl, by go_num, HRN, by omega, by omega, hs612, HQ2, hV64, HC2, hgg, HZ2.out⟩
       case measure => simp [intOf]; omega
end Go.Proofs.YtgmbkcjihgphmaaGreat
/- grain: Num, Text, Real, Row. -/
namespace Go.Proofs.YtgmbkcjihgphmaaGreat
open Go.RowKit
/-- the cells of a value -/
def cellsV (k : Int) (u : Nat) (A : Option Addr) (n c : Nat) (f : Nat) (L : Option Addr) (m d : Nat) : Array Value := #[.int .i64 k, .int .u64 (u : Int), .slice A n c, .float .f64 f, .slice L m d]
theorem val_info : (Tryz.prog.info? 94).map (·.size) = some 5 := by kernel_rfl
theorem cellsV_info (k : Int) (u : Nat) (A : Option Addr) (n c : Nat) (f : Nat) (L : Option Addr) (m d : Nat) : (Tryz.prog.info? 94).map (·.size) = some (cellsV k u A n c f L m d).size := val_info
theorem cellsV_one (k : Int) (u : Nat) (A : Option Addr) (n c : Nat) (f : Nat) (L : Option Addr) (m d : Nat) : (cellsV k u A n c f L m d).all (·.oneCell') = true := by simp [cellsV, Value.oneCell']
theorem below_row (w w' : World) (z KV : Array Value) (t : TypeId) (h : Below w.heap.size (w.alloc (.cells z t)) w') : Below w.heap.size w (w'.setRow w.heap.size KV) :=
 below_setRow (((Below.refl _ _).alloc (Nat.le_refl _) _).trans h) (Nat.le_refl _) KV
theorem num_any (n : Nat) (w : World) : Calls Tryz.prog 62 #[.int .u64 (n : Int)] w fun e w' => e = .returned (.agg (cellsV 0 n none 0 0 0 none 0 0)) ∧ Below w.heap.size w w' := by
 obtain ⟨KV, hKV⟩ : ∃ KV, KV = cellsV 0 n none 0 0 0 none 0 0 := ⟨_, rfl⟩
 have HI := Lib.hid (hKV ▸ cellsV_info 0 n none 0 0 0 none 0 0)
 have HO := Lib.hid (hKV ▸ cellsV_one 0 n none 0 0 0 none 0 0)
 rw [← hKV]
 go_enter Tryz.func62, Tryz.ntmps62
 go_wp2_with (first | (refine wpList_store_row rfl _ _ _ rfl w.heap.size KV rfl (by rw [hKV]; rfl) 94 _ (heap_alloc_new w _) HI.out (by rw [hKV]; rfl) HO.out ?_) | fail)
 refine bodyPost_ret (results_cell_row rfl _ _ w.heap.size 94 KV (0, 0) _ rfl (setRow_heap _ w.heap.size _ _ _ _ (heap_alloc_new w _)) Tryz.underlying94 rfl HI.out) rfl ?_
 exact ⟨rfl, below_row w _ _ KV _ (Below.refl _ _)⟩
theorem real_any (b : Nat) (w : World) : Calls Tryz.prog 40 #[.float .f64 b] w fun e w' => e = .returned (.agg (cellsV 2 0 none 0 0 (canonB b) none 0 0)) ∧ Below w.heap.size w w' := by
 obtain ⟨C, hC⟩ : ∃ C, C = canonB b := ⟨_, rfl⟩
 have HC := Lib.hid (fun w => canon_any b w)
 rw [← hC] at HC ⊢
 obtain ⟨KV, hKV⟩ : ∃ KV, KV = cellsV 2 0 none 0 0 C none 0 0 := ⟨_, rfl⟩
 have HI := Lib.hid (hKV ▸ cellsV_info 2 0 none 0 0 C none 0 0)
 have HO := Lib.hid (hKV ▸ cellsV_one 2 0 none 0 0 C none 0 0)
 have HKV := Lib.hid hKV
 rw [← hKV]
 clear hKV hC
 go_enter Tryz.func40, Tryz.ntmps40
 go_wp2_with fail
 refine (HC.out _).mono ?_
 rintro e w2 ⟨rfl, hs⟩
 have hblk : w2.heap[w.heap.size]? = some (.cells #[.int .i64 0, .int .u64 0, .slice none 0 0, .float .f64 0, .slice none 0 0] 94 (0, 0)) := by rw [hs.heap]; exact heap_alloc_new w _
 have HB := Lib.hid (hs.below w.heap.size)
 have HBL := Lib.hid hblk
 clear hblk hs
 go_wp2_with (first | (refine wpList_store_row rfl _ _ _ rfl w.heap.size KV rfl (by rw [HKV.out]; rfl) 94 _ HBL.out HI.out (by rw [HKV.out]; rfl) HO.out ?_) | fail)
 refine bodyPost_ret (results_cell_row rfl _ _ w.heap.size 94 KV (0, 0) _ rfl (setRow_heap _ w.heap.size _ _ _ _ HBL.out) Tryz.underlying94 rfl HI.out) rfl ?_
 exact ⟨rfl, below_row w _ _ KV _ HB.out⟩
end Go.Proofs.YtgmbkcjihgphmaaGreat
