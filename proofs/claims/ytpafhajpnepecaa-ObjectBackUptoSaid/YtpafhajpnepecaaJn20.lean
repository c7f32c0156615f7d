/- Contracts and laws for what the statement reaches, joined: GrainRefWrite, GrainRefEncode, GrainRefHeadAt. -/
import Derived.Test.YtpafhajpnepecaaJn10
import Derived.Test.YtpafhajpnepecaaJn2
import Derived.Test.YtpafhajpnepecaaJn6
/- towlineref02.write: the bytes so far with a value's behind them, and the error's number. -/
set_option linter.unusedVariables false
namespace Go.Proofs.Ytpafhajpnepecaa
open Go.RowKit

def RwPost (base : Nat) (w : World) (v : Value) (r : Res (List UInt8)) (e : Ending) (w' : World) : Prop :=
  Below base w w' ∧ match r with
    | .ok o => ∃ A m c, e = .returned (.tuple #[.slice A m c, .int .i64 0]) ∧ m = o.length ∧ w'.ownsRow base 5 1 (.slice A m c) m (bytesV o) ∧ Moves w w' (own v) (own (.slice A m c))
    | .error z => e = .returned (.tuple #[.slice none 0 0, .int .i64 z])
theorem RwPost.long {base : Nat} {w w' : World} {v : Value} {o : List UInt8} {m : Nat} (hb : Below base w w') (hm : m = o.length) (hl : 1048576 < m) : RwPost base w v (fin o) (.returned (.tuple #[.slice none 0 0, .int .i64 2])) w' := by
  refine ⟨hb, ?_⟩
  unfold fin
  rw [if_pos (by omega)]
theorem RwPost.good {base : Nat} {w w' : World} {v : Value} {o : List UInt8} {A : Option Addr} {m c : Nat} (hb : Below base w w') (hm : m = o.length) (hl : ¬ 1048576 < m) (hown : w'.ownsRow base 5 1 (.slice A m c) m (bytesV o)) (hv : Moves w w' (own v) (own (.slice A m c))) : RwPost base w v (fin o) (.returned (.tuple #[.slice A m c, .int .i64 0])) w' := by
  refine ⟨hb, ?_⟩
  unfold fin
  rw [if_neg (by omega)]
  exact ⟨A, m, c, rfl, hm, hown, hv⟩

/-- what an append of a head onto the bytes so far leaves -/
theorem head_app {base : Nat} {w w1 w2 : World} {g : Nat} {A : Option Addr} {m c : Nat} {xs : List UInt8} {k0 : Int} {u : Nat} {b : List UInt8} {f : Nat} {l : List Val} {B : Option Addr} {cB : Nat} {L : Option Addr} {cL : Nat}
    (hX : WBox base w w1 g A m c xs k0 u b f l B cB L cL) (hm : m ≤ 1100000) (k n : Nat) (hn : n < 2 ^ 64) (hb : Below w1.heap.size w1 w2) :
    ∃ A2 m2 c2 w3, (Builtin.append_ #[32, 9] 32 #[.slice A m c, .string (strL (headL k n))]).run Try.prog w2 = .ok (.slice A2 m2 c2) w3 ∧ m2 = m + (headL k n).length ∧ w3.ownsRow base 5 1 (.slice A2 m2 c2) m2 (bytesV (xs ++ headL k n)) ∧
      Below base w1 w3 ∧ Moves w1 w3 (own (.slice A m c)) (own (.slice A2 m2 c2)) := by
  have hl := headL_length (k := k) hn
  obtain ⟨A2, c2, w3, hr, hap, h1, h2⟩ := append_str (P := Try.prog) (w := w2) elemByte Try.underlying9 (own_below hX.row hb) (strL (headL k n)) (by rw [strL_size]; omega) (by rw [strL_size]; simp only [maxLen]; omega) (Nat.le_trans hX.base hb.size) 32
  refine ⟨A2, _, c2, w3, hr, by rw [strL_size], ?_, (hb.mono hX.base).trans hap.below, (Moves.of_below hb).trans (Moves.of_app hap)⟩
  have := hap.own
  rw [strL_list] at this
  rw [show bytesV (xs ++ headL k n) = bytesV xs ++ bytesV (headL k n) from by simp [bytesV]]
  exact this

section
variable {base : Nat} {w : World} {A : Option Addr} {m c : Nat} {xs : List UInt8} {k : Int} {u : Nat} {b : List UInt8} {f : Nat} {l : List Val} {B : Option Addr} {cB : Nat} {L : Option Addr} {cL : Nat} {z : Int}

set_option maxRecDepth 100000 in
set_option maxHeartbeats 1000000 in
theorem rw_num (hz : ¬ (16 : Int) < z) (h : WIn base w A m c xs 0 u b f l B cB L cL) :
    Calls Try.prog 89 #[.slice A m c, .agg #[.int .i64 0, .int .u64 (u : Int), .slice B b.length cB, .float .f64 f, .slice L l.length cL], .int .i64 z] w (RwPost base w (.slice A m c) (fin (xs ++ headL 0 u))) := by
  have hX := h.box
  have hu := h.num
  have hm := h.long
  go_enter Try.func89, Try.ntmps89
  go_upto_region 3 with fail
  generalize w.alloc _ = w1 at *
  generalize w.heap.size = g at *
  have p0 := hX.c0
  have p1 := hX.c1
  go_wp2_with fail
  refine (refHead_any 0 u w1 (by omega) hu).mono ?_
  rintro e w2 ⟨rfl, hb2⟩
  obtain ⟨A2, m2, c2, w3, hrun, hm2, hown2, hb3, hv3⟩ := head_app hX hm 0 u hu hb2
  have HM := Lib.hid (own_len hown2)
  have HB := Lib.hid (hX.below.trans hb3)
  have HV := Lib.hid (hX.moves.trans hv3)
  clear hm2 hX h hb2 hv3 p0 p1 hm hb3
  by_cases hl : 1048576 < m2
  · have hlI : (1048576 : Int) < (m2 : Int) := by omega
    go_wp2_with (first | (at_builtin; refine wpList_run_append hrun ?_ ?_ ?_; exact rfl; exact rfl) | fail)
    go_ret2
    exact RwPost.long HB.out HM.out hl
  · have hlI : ¬ (1048576 : Int) < (m2 : Int) := by omega
    go_wp2_with (first | (at_builtin; refine wpList_run_append hrun ?_ ?_ ?_; exact rfl; exact rfl) | fail)
    go_ret2
    exact RwPost.good HB.out HM.out hl hown2 HV.out

set_option maxRecDepth 100000 in
set_option maxHeartbeats 1000000 in
theorem rw_bad (hz : ¬ (16 : Int) < z) (h0 : k ≠ 0) (h1 : k ≠ 1) (h2 : k ≠ 2) (h3 : k ≠ 3) (h : WIn base w A m c xs k u b f l B cB L cL) :
    Calls Try.prog 89 #[.slice A m c, .agg #[.int .i64 k, .int .u64 (u : Int), .slice B b.length cB, .float .f64 f, .slice L l.length cL], .int .i64 z] w (RwPost base w (.slice A m c) (.error 22)) := by
  have hX := h.box
  obtain ⟨k0, k1, k2, k3⟩ := kinds h0 h1 h2 h3
  clear h0 h1 h2 h3
  go_enter Try.func89, Try.ntmps89
  go_upto_region 3 with fail
  generalize w.alloc _ = w1 at *
  generalize w.heap.size = g at *
  have p0 := hX.c0
  have HB := Lib.hid hX.below
  clear hX h
  go_wp2_with fail
  go_ret2
  exact ⟨HB.out, rfl⟩

set_option maxRecDepth 100000 in
set_option maxHeartbeats 1000000 in
theorem rw_bytes (hz : ¬ (16 : Int) < z) (h : WIn base w A m c xs 1 u b f l B cB L cL) :
    Calls Try.prog 89 #[.slice A m c, .agg #[.int .i64 1, .int .u64 (u : Int), .slice B b.length cB, .float .f64 f, .slice L l.length cL], .int .i64 z] w (RwPost base w (.slice A m c) (fin (xs ++ headL 1 b.length ++ b))) := by
  generalize hR : xs ++ headL 1 b.length ++ b = R
  have HR := Lib.hid hR
  clear hR
  have hX := h.box
  have hbl : b.length ≤ 1100000 := by have := h.bulk; simp only [bulkV] at this; omega
  have hm := h.long
  have hwl : IntKind.u64.wrap (b.length : Int) = (b.length : Int) := by rw [wrap_u64]; omega
  have HN := Lib.hid (headL_length (k := 1) (n := b.length) (by omega))
  have HBL := Lib.hid hbl
  have HM := Lib.hid hm
  go_enter Try.func89, Try.ntmps89
  go_upto_region 3 with fail
  generalize w.alloc _ = w1 at *
  generalize w.heap.size = g at *
  have p0 := hX.c0
  have p2 := hX.c2
  clear h
  go_wp2_with fail
  refine (refHead_any 1 b.length w1 (by omega) (by omega)).mono ?_
  rintro e w2 ⟨rfl, hb2⟩
  obtain ⟨A2, m2, c2, w3, hrun, hm2, hown2, hb3, hv3⟩ := head_app hX hm 1 b.length (by omega) hb2
  have HM2 := Lib.hid hm2
  clear hm2
  have p2' : w3.cell? ⟨g, 2, none⟩ = some (.slice B b.length cB) := (hv3.cell hX.lt hX.ne).trans hX.c2
  have hby := (hX.bytes.stable hv3).bytes
  obtain ⟨A3, c3, w4, run3, ap3, hc3, hm3⟩ := append_sl elemByte hown2 hby (bytesV_one b) (by have := HBL.out; have := HM.out; have := HM2.out; have := HN.out; omega) (by have := HBL.out; have := HM.out; have := HM2.out; have := HN.out; simp only [maxLen]; omega) (Nat.le_trans hX.base hv3.size) 32 cB
  have HV3 := Lib.hid (hX.moves.trans (hv3.trans (Moves.of_app ap3)))
  have HB3 := Lib.hid (hX.below.trans (hb3.trans ap3.below))
  have hown3 := ap3.own
  rw [show bytesV (xs ++ headL 1 b.length) ++ b.map (fun b => Value.int .u8 (b.toNat : Int)) = bytesV R from by rw [← HR.out]; simp [bytesV]] at hown3
  have HL3 := Lib.hid (own_len hown3)
  have HOK := Lib.hid hown3
  clear ap3 hown3 hown2 hv3 hb2 hby hb3 p0 p2 hX hwl hbl hm
  by_cases hl : 1048576 < m2 + b.length
  · have hlI : (1048576 : Int) < (m2 : Int) + (b.length : Int) := by omega
    go_wp2_with (first | (at_builtin; refine wpList_run_append hrun ?_ ?_ ?_; exact rfl; exact rfl) | (at_builtin; refine wpList_run_append run3 ?_ ?_ ?_; exact rfl; exact rfl) | fail)
    go_ret2
    exact RwPost.long HB3.out HL3.out hl
  · have hlI : ¬ (1048576 : Int) < (m2 : Int) + (b.length : Int) := by omega
    go_wp2_with (first | (at_builtin; refine wpList_run_append hrun ?_ ?_ ?_; exact rfl; exact rfl) | (at_builtin; refine wpList_run_append run3 ?_ ?_ ?_; exact rfl; exact rfl) | fail)
    go_ret2
    exact RwPost.good HB3.out HL3.out hl HOK.out HV3.out

set_option maxRecDepth 100000 in
set_option maxHeartbeats 1000000 in
theorem rw_flt (hz : ¬ (16 : Int) < z) (h : WIn base w A m c xs 2 u b f l B cB L cL) :
    Calls Try.prog 89 #[.slice A m c, .agg #[.int .i64 2, .int .u64 (u : Int), .slice B b.length cB, .float .f64 f, .slice L l.length cL], .int .i64 z] w (RwPost base w (.slice A m c) (fin (xs ++ headL 2 0 ++ be64 (canonB f)))) := by
  generalize hR : xs ++ headL 2 0 ++ be64 (canonB f) = R
  have HR := Lib.hid hR
  clear hR
  have hX := h.box
  have hm := h.long
  have HHL := Lib.hid (headL_length (k := 2) (n := 0) (by omega))
  have HF := Lib.hid (canonB_lt h.flt)
  go_enter Try.func89, Try.ntmps89
  go_upto_region 3 with fail
  generalize w.alloc _ = w1 at *
  generalize w.heap.size = g at *
  have hbase : base ≤ w.heap.size := h.base
  have p0 := hX.c0
  go_wp2_with fail
  refine (refHead_any 2 0 w1 (by omega) (by omega)).mono ?_
  rintro e w2 ⟨rfl, hb2⟩
  obtain ⟨A2, m2, c2, w3, hrun, hm2, hown2, hb3, hv3⟩ := head_app hX hm 2 0 (by omega) hb2
  have p3 : w3.cell? ⟨g, 3, none⟩ = some (.float .f64 f) := (hv3.cell hX.lt hX.ne).trans hX.c3
  have HM2 := Lib.hid hm2
  clear hm2
  go_wp2_with (first | (at_builtin; refine wpList_run_append hrun ?_ ?_ ?_; exact rfl; exact rfl) | fail)
  refine (bits_any f w3).mono ?_
  rintro e w4 ⟨rfl, hs4⟩
  go_wp2_with fail
  have HB3 := Lib.hid ((hX.below.trans hb3).trans (hs4.below base))
  have HV3 := Lib.hid ((hX.moves.trans hv3).trans (Moves.of_below (hs4.below _)))
  have hown3 := hs4.own hown2
  clear hown2 hb2 hv3 hb3 p0 p3 hX h hs4 hrun
  clear w2 w3
  obtain ⟨C, hC⟩ : ∃ C, C = canonB f := ⟨_, rfl⟩
  rw [← hC] at HR HF ⊢
  clear hC
  obtain ⟨X, hX⟩ : ∃ X, X = xs ++ headL 2 0 := ⟨_, rfl⟩
  rw [← hX] at HR hown3
  clear hX
  go_loopw [0, 9, 10] (fun s0 s9 s10 wr => ∃ (A' : Option Addr) (m' c' p q : Nat), p ≤ 8 ∧ s0 = .slice A' m' c' ∧ s10 = .int .i64 (p : Int) ∧ s9 = .int .u64 (q : Int) ∧ Hid (q = 2 ^ (8 * (8 - p)) / 256) ∧ Hid (m' = m2 + p) ∧ wr.ownsRow base 5 1 (.slice A' m' c') m' (bytesV (X ++ (be64 C).take p)) ∧ Below base w wr ∧ Moves w wr (own (.slice A m c)) (own (.slice A' m' c')))
    (fun s0 s9 s10 wr => 8 - (intOf s10).toNat)
  case atStart => exact ⟨A2, m2, c2, 0, 72057594037927936, by omega, rfl, rfl, rfl, Lib.hid (by decide), Lib.hid rfl, by simpa using hown3, HB3.out, HV3.out⟩
  case round =>
    obtain ⟨A', m', c', p, q, hp, rfl, rfl, rfl, HQ, HM', hown', hbl, hmv⟩ := hrel
    have hbw : base ≤ wr.heap.size := Nat.le_trans hbase hmv.size
    by_cases hp8 : p < 8
    · obtain ⟨i, hi⟩ : ∃ i, i = 56 - 8 * p := ⟨_, rfl⟩
      have hq : q = 2 ^ i := by
        rw [HQ.out, hi, show 8 * (8 - p) = (56 - 8 * p) + 8 from by omega, Nat.pow_add]
        omega
      have hq0 : 0 < q := by rw [hq]; exact Nat.two_pow_pos _
      have hqne : ¬ (q : Int) = 0 := by omega
      have hpm : m' + 1 ≤ 1200000 := by have := HM'.out; have := HM2.out; have := HHL.out; omega
      obtain ⟨y, hy⟩ : ∃ y, y = C / q % 256 := ⟨_, rfl⟩
      obtain ⟨D, hD⟩ : ∃ D, D = C / q := ⟨_, rfl⟩
      have hDl : D < 2 ^ 64 := by rw [hD]; exact Nat.lt_of_le_of_lt (Nat.div_le_self _ _) HF.out
      have hwD : IntKind.u64.wrap ((C : Int) / (q : Int)) = (D : Int) := by rw [wrap_u64, hD, ← Int.natCast_ediv]; rw [hD] at hDl; omega
      have hyI : (D : Int).tmod 256 = (y : Int) := by rw [hy, ← hD, Int.tmod_eq_emod_of_nonneg (by omega)]; omega
      clear hD hDl
      have hy256 : (y : Int) % 256 = (y : Int) := by omega
      have hpI : (p : Int) < 8 := by omega
      obtain ⟨A3, c3, w4', run3, ap3, hc3, hm3⟩ := append_sl elemByte (hown'.alloc (.cells #[.int .u8 (y : Int)] 5)) (Sl.one wr (.int .u8 (y : Int)) 5) (by simp; rfl) (by omega) (by simp only [maxLen]; omega) (by simp; omega) 32 1
      have hbl2 : Below base w w4' := hbl.trans (((Below.refl _ _).alloc hbw _).trans ap3.below)
      have hmv2 := hmv.trans ((Moves.of_below ((Below.refl _ _).alloc (Nat.le_refl _) _)).trans (Moves.of_app ap3))
      have hown4 := ap3.own
      have hbv : bytesV (X ++ (be64 C).take p) ++ [Value.int .u8 (y : Int)] = bytesV (X ++ (be64 C).take (p + 1)) := by
        rw [be64_take hp8 hi, ← List.append_assoc]
        simp only [bytesV, List.map_append, List.map_cons, List.map_nil]
        rw [hy, hq, show (UInt8.ofNat (C / 2 ^ i)).toNat = C / 2 ^ i % 256 from by simp [UInt8.toNat_ofNat']]
      rw [hbv] at hown4
      obtain ⟨q1, hq1⟩ : ∃ q1, q1 = q / 256 := ⟨_, rfl⟩
      have hq1I : (q : Int) / 256 = (q1 : Int) := by omega
      have hq56 : q ≤ 2 ^ 56 := by rw [hq]; exact Nat.pow_le_pow_right (by omega) (by omega)
      have hwq : IntKind.u64.wrap (q1 : Int) = (q1 : Int) := by rw [wrap_u64]; omega
      have HQ2 : Hid (q1 = 2 ^ (8 * (8 - (p + 1))) / 256) := Lib.hid (by
        rw [hq1, hq, hi, show 8 * (8 - (p + 1)) = 56 - 8 * p from by omega])
      clear hy ap3 hown' hbv HQ hmv hbl hq hi hq1 hq56
      go_wp2_with (first | (at_builtin; refine wpList_run_append run3 ?_ ?_ ?_; exact rfl; exact rfl) | fail)
      go_roundw
      case rel => exact ⟨A3, m' + 1, c3, p + 1, q1, by omega, by go_num, by go_num, rfl, HQ2, Lib.hid (by have := HM'.out; omega), hown4, hbl2, hmv2⟩
      case measure => simp [intOf]; omega
    · obtain rfl : p = 8 := by omega
      have hR8 : X ++ (be64 C).take 8 = R := HR.out
      rw [hR8] at hown'
      have HL3 := Lib.hid (own_len hown')
      clear hR8 HQ
      by_cases hl : 1048576 < m'
      · have hlI : (1048576 : Int) < (m' : Int) := by omega
        go_wp2_with fail
        go_ret2
        exact RwPost.long hbl HL3.out hl
      · have hlI : ¬ (1048576 : Int) < (m' : Int) := by omega
        go_wp2_with fail
        go_ret2
        exact RwPost.good hbl HL3.out hl hown' hmv

set_option maxRecDepth 100000 in
set_option maxHeartbeats 2000000 in
theorem rw_list {d : Nat} {zz : Int} (hd : d ≤ 16) (hz : ¬ (16 : Int) < z) (hzz : zz = z + 1) (hz0 : -1000 ≤ z) (h : WIn base w A m c xs 3 u b f l B cB L cL) (hlong : m + 10 * (d + 1) ≤ 1100000)
    (ih : ∀ {A : Option Addr} {m c : Nat} {xs : List UInt8} {cs : List Value} (v : Val) (w : World), valR.R w (own (.slice A m c)) cs v → bulkV v ≤ 1100000 → m + 10 * d ≤ 1100000 →
      w.ownsRow base 5 1 (.slice A m c) m (bytesV xs) → base ≤ w.heap.size → Calls Try.prog 89 #[.slice A m c, .agg cs.toArray, .int .i64 zz] w (RwPost base w (.slice A m c) (wrV d xs v))) :
    Calls Try.prog 89 #[.slice A m c, .agg #[.int .i64 3, .int .u64 (u : Int), .slice B b.length cB, .float .f64 f, .slice L l.length cL], .int .i64 z] w (RwPost base w (.slice A m c) (thenFin (wrL (wrV d) (xs ++ headL 3 l.length) l))) := by
  subst hzz
  generalize hR : wrL (wrV d) (xs ++ headL 3 l.length) l = R
  have HR := Lib.hid hR
  clear hR
  have hX := h.box
  have hll : l.length ≤ 1100000 := by have := h.bulk; have := bulkVs_len l; simp only [bulkV] at *; omega
  have HHL := Lib.hid (headL_length (k := 3) (n := l.length) (by omega))
  have HIH := Lib.hid (fun A m c xs cs v w => @ih A m c xs cs v w)
  have HBK := Lib.hid h.bulk
  have HLG := Lib.hid hlong
  clear ih hlong
  have hwl : IntKind.u64.wrap (l.length : Int) = (l.length : Int) := by rw [wrap_u64]; omega
  go_enter Try.func89, Try.ntmps89
  go_upto_region 3 with fail
  generalize w.alloc _ = w1 at *
  generalize w.heap.size = g at *
  have hbase : base ≤ w.heap.size := h.base
  have p0 := hX.c0
  have p4 := hX.c4
  go_wp2_with fail
  refine (refHead_any 3 l.length w1 (by omega) (by omega)).mono ?_
  rintro e w2' ⟨rfl, hb2⟩
  obtain ⟨A2, m2, c2, w2, hrun, hm2, hown2, hb3, hv2⟩ := head_app hX (by have := HLG.out; omega) 3 l.length (by omega) hb2
  have q4 : w2.cell? ⟨g, 4, none⟩ = some (.slice L l.length cL) := (hv2.cell hX.lt hX.ne).trans hX.c4
  have HM2 := Lib.hid hm2
  clear hm2
  go_wp2_with (first | (at_builtin; refine wpList_run_append hrun ?_ ?_ ?_; exact rfl; exact rfl) | fail)
  have HB2 := Lib.hid (hX.below.trans hb3)
  have HV2 := Lib.hid (hX.moves.trans hv2)
  have HLS := Lib.hid (hX.list.stable hv2)
  have HQ4 := Lib.hid q4
  have hg2 : g < w2.heap.size := Nat.lt_of_lt_of_le hX.lt hv2.size
  have hgn := Lib.hid (hv2.ne g hX.lt hX.ne)
  have hm2l := own_len hown2
  have HM2L := Lib.hid (show m2 + 10 * d ≤ 1100000 by have := HM2.out; have := HHL.out; have := HLG.out; omega)
  have HHM := Lib.hid hm2l
  clear hX hwl p0 p4 q4 hb2 hb3 hv2 h hrun hm2l HM2 HHL HLG
  clear w1 w2'
  obtain ⟨X, hX⟩ : ∃ X, X = xs ++ headL 3 l.length := ⟨_, rfl⟩
  rw [← hX] at HR hown2 HHM
  clear hX
  go_loopw [0, 11] (fun s0 s11 wr => ∃ (A' : Option Addr) (m' c' j : Nat) (o : List UInt8), j ≤ l.length ∧ s0 = .slice A' m' c' ∧ s11 = .int .i64 (j : Int) ∧ Hid (wrL (wrV d) o (l.drop j) = R) ∧ Hid (m' = o.length) ∧ Hid (m' + 10 * d ≤ 1100000) ∧ wr.ownsRow base 5 1 (.slice A' m' c') m' (bytesV o) ∧ Below base w wr ∧ Hid (Moves w wr (own (.slice A m c)) (own (.slice A' m' c'))) ∧ Hid (Moves w2 wr (own (.slice A2 m2 c2)) (own (.slice A' m' c'))))
    (fun s0 s11 wr => l.length - (intOf s11).toNat)
  case atStart => exact ⟨A2, m2, c2, 0, X, Nat.zero_le _, rfl, rfl, Lib.hid HR.out, HHM, HM2L, hown2, HB2.out, HV2, Lib.hid (Moves.of_below (Below.refl _ _))⟩
  case round =>
    obtain ⟨A', m', c', j, o, hj, rfl, rfl, HW, HO, HD, hown', hbl, HMV, HMV2⟩ := hrel
    have q4 : wr.cell? ⟨g, 4, none⟩ = some (.slice L l.length cL) := (HMV2.out.cell hg2 hgn.out).trans HQ4.out
    by_cases hjl : j < l.length
    · have hls := HLS.out.stable HMV2.out
      obtain ⟨bb, off, cs, x, hLa, hbb, hx, hxr, hat⟩ := hls.at rfl hjl
      subst hLa
      have hxb := elem_bulk hx HBK.out
      have hst := wrL_step (f := wrV d) (o := o) hx
      rw [HW.out] at hst
      have HST := Lib.hid hst
      have hk5 : cs.length = 5 := valR.len hxr
      have HKI := Lib.hid (show (Try.prog.info? 84).map (·.size) = some cs.toArray.size by rw [show cs.toArray.size = 5 from by simpa using hk5]; kernel_rfl)
      have hat' : At wr ⟨bb, off + j * 5, none⟩ cs.toArray := hat
      have HC := Lib.hid (HIH.out A' m' c' o cs x wr hxr hxb HD.out hown' (Nat.le_trans hbase HMV.out.size))
      clear hst hx hls hat hk5 hxr hxb
      obtain ⟨KV, hKV⟩ : ∃ KV : Array Value, KV = cs.toArray := ⟨_, rfl⟩
      rw [← hKV] at hat' HKI HC
      have HAT := Lib.hid hat'
      clear hKV hat'
      have hjI : (j : Int) < (l.length : Int) := by omega
      clear HIH
      go_wp2_with (refine wpList_load_at rfl 84 (.tmp 83) rfl bb (off + j * 5) rfl KV _ HAT.out Try.underlying84 rfl HKI.out ?_)
      refine HC.out.mono ?_
      intro e w3 hp
      obtain ⟨hb3, hp⟩ := hp
      have hst := HST.out
      clear HC HST HAT HKI
      cases hr : wrV d o x with
      | error zz =>
        rw [hr] at hp hst
        obtain rfl : e = _ := hp
        have HB4 := Lib.hid (hbl.trans hb3)
        have HR2 := Lib.hid hst
        have hzz : (zz != 0) = true := by simpa using wrV_err d o x zz hr
        clear hst hr hb3 hown' hbl HW HMV HMV2
        go_wp2_with fail
        go_ret2
        refine ⟨HB4.out, ?_⟩
        rw [HR2.out]
        rfl
      | ok o2 =>
        rw [hr] at hp hst
        obtain ⟨A3, m3, c3, rfl, hm3, hown3, hmv3⟩ := hp
        have hl3 := wr_len hr
        have HB4 := Lib.hid (hbl.trans hb3)
        have HM4 := Lib.hid (HMV.out.trans hmv3)
        have HM5 := Lib.hid (HMV2.out.trans hmv3)
        have HW3 := Lib.hid hst.symm
        have HO3 := Lib.hid hm3
        have HD3 := Lib.hid (show m3 + 10 * d ≤ 1100000 by omega)
        clear hst hr hm3 hl3 hb3 hmv3 HW HO HD hown' hbl HMV HMV2
        go_wp2_with fail
        go_roundw
        case rel => exact ⟨A3, m3, c3, j + 1, o2, by omega, rfl, by go_num, HW3, HO3, HD3, hown3, HB4.out, HM4, HM5⟩
        case measure => simp [intOf]; omega
    · obtain rfl : j = l.length := by omega
      have hW := HW.out
      rw [List.drop_length] at hW
      have HRE := Lib.hid (show thenFin R = fin o by rw [← hW]; rfl)
      have HO' := HO.out
      have HOO := Lib.hid HO'
      clear hW HW HO' hj hjl HIH HLS HMV2 HR
      by_cases hl : 1048576 < m'
      · have hlI : (1048576 : Int) < (m' : Int) := by omega
        go_wp2_with fail
        go_ret2
        rw [HRE.out]
        exact RwPost.long hbl HOO.out hl
      · have hlI : ¬ (1048576 : Int) < (m' : Int) := by omega
        go_wp2_with fail
        go_ret2
        rw [HRE.out]
        exact RwPost.good hbl HOO.out hl hown' HMV.out
end

theorem refWrite_any : ∀ (d : Nat) {base : Nat} {A : Option Addr} {m c : Nat} {xs : List UInt8} {cs : List Value} (v : Val) (w : World), d ≤ 16 → valR.R w (own (.slice A m c)) cs v → bulkV v ≤ 1100000 → m + 10 * d ≤ 1100000 →
    w.ownsRow base 5 1 (.slice A m c) m (bytesV xs) → base ≤ w.heap.size →
    Calls Try.prog 89 #[.slice A m c, .agg cs.toArray, .int .i64 ((17 : Int) - (d : Int))] w (RwPost base w (.slice A m c) (wrV d xs v)) := by
  intro d
  induction d with
  | zero =>
    intro base A m c xs cs v w hd hv hbk hm hown hbase
    obtain ⟨k, u, b, f, l⟩ := v
    obtain ⟨B, cB, L, cL, rfl, _⟩ := valR_iff.1 hv
    have hbb : Below base w (w.alloc (.cells #[.int .i64 k, .int .u64 (u : Int), .slice B b.length cB, .float .f64 f, .slice L l.length cL] 84)) := (Below.refl _ _).alloc hbase _
    rw [show ((17 : Int) - ((0 : Nat) : Int)) = 17 from rfl]
    clear hv hown
    go_enter Try.func89, Try.ntmps89
    go_wp2_with fail
    go_ret2
    exact ⟨hbb, rfl⟩
  | succ d ih =>
    intro base A m c xs cs v w hd hv hbk hm hown hbase
    obtain ⟨k, u, b, f, l⟩ := v
    obtain ⟨B, cB, L, cL, rfl, hk, hu, hf, ⟨hb1, hb2, hb3⟩, hl1, hl2, hl3⟩ := valR_iff.1 hv
    have hin : WIn base w A m c xs k u b f l B cB L cL := ⟨hu, hf, ⟨hb1, hb2⟩, hb3, ⟨hl1, hl2⟩, hl3, hbk, hown, hbase, by omega⟩
    have hz : ¬ (16 : Int) < (17 : Int) - ((d + 1 : Nat) : Int) := by omega
    by_cases h0 : k = 0
    · subst h0; rw [wr_num]; exact rw_num hz hin
    by_cases h1 : k = 1
    · subst h1; rw [wr_bytes]; exact rw_bytes hz hin
    by_cases h2 : k = 2
    · subst h2; rw [wr_flt]; exact rw_flt hz hin
    by_cases h3 : k = 3
    · subst h3; rw [wr_list]
      exact rw_list (zz := (17 : Int) - (d : Int)) (by omega) hz (by omega) (by omega) hin hm (fun v w hv hbk hm hown hbase => ih v w (by omega) hv hbk hm hown hbase)
    · rw [wr_bad d xs u b f l h0 h1 h2 h3]; exact rw_bad hz h0 h1 h2 h3 hin
end Go.Proofs.Ytpafhajpnepecaa

/- towlineref02.Encode. -/
set_option linter.unusedVariables false
namespace Go.Proofs.Ytpafhajpnepecaa
open Go.RowKit
attribute [local go_sem ↓] cvt_eq

theorem Moves.fresh (w : World) : Moves w w no (fun b => w.heap.size ≤ b) := ⟨Nat.le_refl _, fun _ _ _ => rfl, fun b h _ h' => by omega⟩
def RefEnc (w : World) (r : Res (List UInt8)) (e : Ending) (w' : World) : Prop :=
  Below w.heap.size w w' ∧ match r with
    | .ok o => e = .returned (.tuple #[.string (strL o), .int .i64 0])
    | .error z => e = .returned (.tuple #[.string (strL []), .int .i64 z])

theorem cvt_nil (w : World) : cvt w none 0 0 = .ok (.string (strL [])) w := cvt_of (l := []) Sl.nil 0

set_option maxRecDepth 100000 in
set_option maxHeartbeats 1000000 in
theorem refEncode_any {cs : List Value} (v : Val) (w : World) (hv : valR.R w no cs v) (hbk : bulkV v ≤ 1100000) :
    Calls Try.prog 77 #[.agg cs.toArray] w (RefEnc w (enc v)) := by
  have hk5 : cs.length = 5 := valR.len hv
  have HKI := Lib.hid (show (Try.prog.info? 84).map (·.size) = some cs.toArray.size by rw [show cs.toArray.size = 5 from by simpa using hk5]; kernel_rfl)
  obtain ⟨w3, hw3⟩ : ∃ w3, w3 = (w.alloc (.cells cs.toArray 84)).alloc (.cells #[] 5) := ⟨_, rfl⟩
  have hb3 : Below w.heap.size w w3 := by rw [hw3]; exact ((Below.refl _ _).alloc (Nat.le_refl _) _).alloc (by simp) _
  have hbox : w3.heap[w.heap.size]? = some (.cells cs.toArray 84 (0, 0)) := by rw [hw3, Below.heap_alloc _ _ _ (by simp)]; exact heap_alloc_new w _
  have hnew : w3.ownsRow (w.heap.size + 1) 5 1 (.slice (some ⟨w.heap.size + 1, 0, none⟩) 0 0) 0 (bytesV []) := by
    rw [hw3]; exact own_made' (by simp) (Nat.le_refl _)
  have hv3 : valR.R w3 (own (.slice (some ⟨w.heap.size + 1, 0, none⟩) 0 0)) cs v := valR.stable ((valR.stable hv (Moves.fresh w))) ((Moves.less w (av' := own (.slice (some ⟨w.heap.size + 1, 0, none⟩) 0 0)) (fun b hb h => by simp [own, Value.ownBlock] at h; omega)).trans (Moves.of_below hb3))
  have HW := Lib.hid (refWrite_any (base := w.heap.size + 1) 16 v w3 (Nat.le_refl _) hv3 hbk (by omega) hnew (by rw [hw3]; simp))
  have HB3 := Lib.hid hb3
  have HBOX := Lib.hid hbox
  obtain ⟨KV, hKV⟩ : ∃ KV : Array Value, KV = cs.toArray := ⟨_, rfl⟩
  rw [← hKV] at HKI HW hw3 HBOX ⊢
  have HW3 := Lib.hid hw3
  have henc : wrV 16 [] v = enc v := rfl
  rw [henc] at HW
  clear hKV hv hv3 hk5 hbk hb3 hbox hnew henc hw3
  go_enter Try.func77, Try.ntmps77
  go_upto_region 1 with fail
  generalize hg : w.heap.size = g at *
  have HG := Lib.hid hg
  clear hg
  have hsz : (w.alloc (.cells KV 84)).heap.size = g + 1 := by have := HG.out; simp; omega
  have hw3 := HW3.out.symm
  go_wp2_with (first | (refine wpList_load_row rfl 84 (.tmp 1) rfl g rfl 84 KV (0, 0) _ HBOX.out Try.underlying84 rfl HKI.out ?_) | fail)
  refine HW.out.mono ?_
  intro e w4 hp
  obtain ⟨hb4, hp⟩ := hp
  have HB4 := Lib.hid (HB3.out.trans (hb4.mono (Nat.le_succ _)))
  clear hw3 hsz hb4 HW HBOX HB3 HW3
  cases hr : enc v with
  | ok o =>
    rw [hr] at hp
    obtain ⟨A, m, c, rfl, hm, hown, _⟩ := hp
    have hcv : cvt w4 A m c = .ok (.string (strL o)) w4 := cvt_of (Sl.ofOwn hown) c
    have HRR := Lib.hid hr
    clear hm hown hr
    go_wp2_with fail
    go_ret2
    unfold RefEnc
    rw [HG.out, HRR.out]
    exact ⟨HB4.out, rfl⟩
  | error z =>
    rw [hr] at hp
    obtain rfl : e = _ := hp
    have hcv := cvt_nil w4
    have HRR := Lib.hid hr
    clear hr
    go_wp2_with fail
    go_ret2
    unfold RefEnc
    rw [HG.out, HRR.out]
    exact ⟨HB4.out, rfl⟩
end Go.Proofs.Ytpafhajpnepecaa

/- towlineref02.head: a head read at a place of a string. -/
set_option linter.unusedVariables false
namespace Go.Proofs.Ytpafhajpnepecaa
open Go.RowKit

theorem list_at (s : ByteArray) (k : Nat) (hk : k < s.size) : s.data.toList.drop k = (s[k]'hk) :: s.data.toList.drop (k + 1) :=
  List.drop_eq_getElem_cons (by simpa using hk)

def HeadAt (w : World) (s : ByteArray) (i : Nat) (r : Res (Nat × Nat × List UInt8)) (e : Ending) (w' : World) : Prop :=
  Below w.heap.size w w' ∧ match r with
    | .ok (k, n, q) => e = .returned (.tuple #[.int .i64 (k : Int), .int .u64 (n : Int), .int .i64 ((s.size - q.length : Nat) : Int), .int .i64 0])
    | .error z => e = .returned (.tuple #[.int .i64 0, .int .u64 0, .int .i64 (i : Int), .int .i64 z])

theorem results_tmp4 {fn : Func} {t u v x : Tmp} (h : fn.results = #[.tmp t, .tmp u, .tmp v, .tmp x]) (tmps : Array Value) (P : Program) (w : World) :
    (results fn tmps).run P w = .ok (.tuple #[tmps.getD t undef, tmps.getD u undef, tmps.getD v undef, tmps.getD x undef]) w := by
  simp [results, h]
theorem headAt_ok {w w' : World} {s : ByteArray} {i j k n : Nat} {q : List UInt8} {r : Res (Nat × Nat × List UInt8)} (h : Below w.heap.size w w') (hr : r = .ok (k, n, q)) (hj : s.size - q.length = j) :
    HeadAt w s i r (.returned (.tuple #[.int .i64 (k : Int), .int .u64 (n : Int), .int .i64 (j : Int), .int .i64 0])) w' := by
  subst hr hj
  exact ⟨h, rfl⟩
theorem headAt_err {w w' : World} {s : ByteArray} {i : Nat} {z : Int} {r : Res (Nat × Nat × List UInt8)} (h : Below w.heap.size w w') (hr : r = .error z) :
    HeadAt w s i r (.returned (.tuple #[.int .i64 0, .int .u64 0, .int .i64 (i : Int), .int .i64 z])) w' := by
  subst hr
  exact ⟨h, rfl⟩

set_option maxRecDepth 100000 in
set_option maxHeartbeats 2000000 in
theorem refHeadAt_any (q0 : ByteArray) (i : Nat) (w : World) (hi : i ≤ q0.size) (hs : q0.size ≤ 1048576) :
    Calls Try.prog 95 #[.string q0, .int .i64 (i : Int)] w (HeadAt w q0 i (rdH (q0.data.toList.drop i))) := by
  by_cases hlt : i < q0.size
  · have hI : ¬ (q0.size : Int) ≤ (i : Int) := by omega
    have hd := list_at q0 i hlt
    obtain ⟨x, hx⟩ : ∃ x, x = q0[i]'hlt := ⟨_, rfl⟩
    have hx' := hx.symm
    rw [← hx] at hd
    obtain ⟨r, hr⟩ : ∃ r, r = q0.data.toList.drop (i + 1) := ⟨_, rfl⟩
    rw [← hr] at hd
    have hRR : rdH (x :: r) = match rdT 5 (x.toNat / 4 % 32) x r with | .ok (n, q) => .ok (x.toNat % 4, n, q) | .error e => .error e := rfl
    obtain ⟨RR, hRR2⟩ : ∃ RR, RR = rdT 5 (x.toNat / 4 % 32) x r := ⟨_, rfl⟩
    rw [← hRR2] at hRR
    rw [hd]
    obtain ⟨kk, hkk⟩ : ∃ kk, kk = x.toNat % 4 := ⟨_, rfl⟩
    obtain ⟨nn, hnn⟩ : ∃ nn, nn = x.toNat / 4 % 32 := ⟨_, rfl⟩
    rw [← hkk] at hRR
    rw [← hnn] at hRR2
    have hnn32 : nn < 2 ^ 5 := by omega
    have hkk4 : kk < 4 := by omega
    have HRR := Lib.hid hRR
    have HR2 := Lib.hid hRR2.symm
    have HD0 := Lib.hid hd
    have HR := Lib.hid hr
    have e1 : (x.toNat : Int) % 4 = (kk : Int) := by omega
    have e2 : (x.toNat : Int) / 4 % 32 = (nn : Int) := by omega
    have hx256 := u8_lt x
    clear hRR hRR2 hkk hnn hd hr hx
    go_enter Try.func95, Try.ntmps95
    go_wp2_with fail
    clear e1 e2
    go_loopw [8, 10, 11, 12] (fun s8 s10 s11 s12 wr => ∃ (y : UInt8) (q k pl s : Nat), s8 = .int .i64 (y.toNat : Int) ∧ s10 = .int .u64 (q : Int) ∧ s11 = .int .u64 (pl : Int) ∧ s12 = .int .i64 (k : Int) ∧ Hid (s + 2 = 7 * k) ∧ 1 ≤ k ∧ k ≤ 10 ∧ i + k ≤ q0.size ∧ Hid (rdT s q y (q0.data.toList.drop (i + k)) = RR) ∧ Hid (pl = 2 ^ s % 2 ^ 64) ∧ (k ≤ 9 ∨ y.toNat < 128) ∧ Hid (k ≤ 9 → q < 2 ^ s) ∧ q < 2 ^ 64 ∧ pl < 2 ^ 64 ∧ Below w.heap.size w wr)
      (fun s8 s10 s11 s12 wr => 100 - (intOf s12).toNat)
    case atStart => exact ⟨x, nn, 1, 32, 5, rfl, rfl, rfl, rfl, Lib.hid rfl, by omega, by omega, by omega, by rw [← HR.out]; exact HR2, Lib.hid (by decide), .inl (by omega), Lib.hid (fun _ => hnn32), by omega, by omega, Below.refl _ _⟩
    case round =>
      obtain ⟨y, q, k, pl, s, rfl, rfl, rfl, rfl, HSK, hk1, hk10, hik, HD, HP, hk9, HQ, hq64, hpl64, hbl⟩ := hrel
      have hy256 := u8_lt y
      by_cases hy : y.toNat < 128
      · have hyI : ¬ (128 : Int) ≤ (y.toNat : Int) := by omega
        have hrt := HD.out
        rw [rdT_end hy] at hrt
        have HRT := Lib.hid hrt
        have hb : rdH (x :: r) = .ok (kk, q, q0.data.toList.drop (i + k)) := by rw [HRR.out, ← hrt]
        obtain ⟨hb1, hb2, hb3⟩ := rdH_back hb
        rw [← HD0.out] at hb1
        have hln : (headL kk q).length = k := by
          have := congrArg List.length hb1
          simp at this
          omega
        obtain ⟨j, hj⟩ : ∃ j, j = i + k := ⟨_, rfl⟩
        have HPOST := Lib.hid (fun w' (h : Below w.heap.size w w') => headAt_ok (s := q0) (i := i) h hb (show q0.size - (q0.data.toList.drop (i + k)).length = j by simp; omega))
        have HC := Lib.hid (fun w => refHead_any kk q w hkk4 hb3)
        obtain ⟨S, hS⟩ : ∃ S, S = strL (headL kk q) := ⟨_, rfl⟩
        have hSz : S.size = k := by rw [hS, strL_size, hln]
        rw [← hS] at HC
        clear hrt HD hb hb1 hb2 hln hS HRR HRT
        have hsum : (i : Int) + (k : Int) = (j : Int) := by omega
        have hsum2 : j ≤ 1048576 := by omega
        clear hj
        go_wp2_with fail
        refine (HC.out _).mono ?_
        rintro e w2 ⟨rfl, hb2⟩
        have hbb := hbl.trans (hb2.mono hbl.size)
        go_wp2_with fail
        (try simp only [Exit.inBlock, Exit.then])
        refine bodyPost_ret (results_tmp4 rfl _ _ _) rfl ?_
        exact HPOST.out _ hbb
      · have hyI : (128 : Int) ≤ (y.toNat : Int) := by omega
        have hk : k ≤ 9 := by omega
        by_cases hend : i + k < q0.size
        · have hcmp : ¬ (q0.size : Int) ≤ (i : Int) + (k : Int) := by omega
          have hix0 : (0 : Int) ≤ (i : Int) + (k : Int) := by omega
          have hix1 : (i : Int) + (k : Int) < (q0.size : Int) := by omega
          have hixn : ((i : Int) + (k : Int)).toNat = i + k := by omega
          have hat := list_at q0 (i + k) hend
          obtain ⟨y2, hy2⟩ : ∃ y2, y2 = q0[i + k]'hend := ⟨_, rfl⟩
          rw [← hy2] at hat
          have hy2' := hy2.symm
          have hrt := HD.out
          rw [hat, rdT_more hy] at hrt
          have HRT := Lib.hid hrt
          have hy2256 := u8_lt y2
          clear hrt HD hat hy2
          by_cases hbad : y2.toNat = 0 ∨ (s = 61 ∧ 7 < y2.toNat)
          · have hrt := HRT.out
            rw [if_pos hbad] at hrt
            have HPOST := Lib.hid (fun w' (h : Below w.heap.size w w') => headAt_err (s := q0) (i := i) h (show rdH (x :: r) = .error 21 by rw [HRR.out, ← hrt]))
            clear hrt HRT HRR
            by_cases h0 : y2.toNat = 0
            · have e0 : ((y2.toNat : Int) == 0) = true := by simp [h0]
              have e1 : (y2.toNat : Int) = 0 := by omega
              clear hbad
              go_wp2_with fail
              (try simp only [Exit.inBlock, Exit.then])
              refine bodyPost_ret (results_tmp4 rfl _ _ _) rfl ?_
              exact HPOST.out _ hbl
            · have e0 : ((y2.toNat : Int) == 0) = false := by simp [h0]
              have h9 := Lib.hid (show k = 9 by have := HSK.out; omega)
              have e61 : ((k : Int) == 9) = true := by have := h9.out; simp; omega
              have h7 : (7 : Int) < (y2.toNat : Int) := by omega
              clear hbad h0
              go_wp2_with fail
              (try simp only [Exit.inBlock, Exit.then])
              refine bodyPost_ret (results_tmp4 rfl _ _ _) rfl ?_
              exact HPOST.out _ hbl
          · have hrt := HRT.out
            rw [if_neg hbad] at hrt
            have hsk := HSK.out
            have hp := HP.out
            have hqs := HQ.out hk
            have hsle : s ≤ 61 := by omega
            have hpow : (2 : Nat) ^ s ≤ 2 ^ 61 := Nat.pow_le_pow_right (by omega) hsle
            have hple : pl = 2 ^ s := by rw [hp]; omega
            obtain ⟨z2, hz2⟩ : ∃ z2, z2 = y2.toNat % 128 := ⟨_, rfl⟩
            rw [← hz2] at hrt
            have hzl : z2 < 128 := by omega
            have hV64 : q + z2 * 2 ^ s < 2 ^ 64 := by
              by_cases h61 : s = 61
              · subst h61
                have : z2 ≤ 7 := by omega
                have := Nat.mul_le_mul_right (2 ^ 61) this
                omega
              · have h54 : s ≤ 54 := by omega
                have h1 : (2 : Nat) ^ s ≤ 2 ^ 54 := Nat.pow_le_pow_right (by omega) h54
                have h2 := Nat.mul_le_mul (show z2 ≤ 127 by omega) h1
                omega
            have hV7 : q + z2 * 2 ^ s < 2 ^ (s + 7) := by
              have h1 : z2 * 2 ^ s ≤ 127 * 2 ^ s := Nat.mul_le_mul_right _ (by omega)
              rw [Nat.pow_add]; omega
            have hpl2 : pl * 128 % 2 ^ 64 = 2 ^ (s + 7) % 2 ^ 64 := by rw [hple, Nat.pow_add]
            rw [← hple] at hrt hV64 hV7
            obtain ⟨T, hT⟩ : ∃ T, T = z2 * pl := ⟨_, rfl⟩
            have hTI : (z2 : Int) * (pl : Int) = (T : Int) := by rw [hT]; simp
            rw [← hT] at hrt hV64 hV7
            obtain ⟨V, hV⟩ : ∃ V, V = q + T := ⟨_, rfl⟩
            have hVI : (q : Int) + (T : Int) = (V : Int) := by omega
            rw [← hV] at hV64 hV7 hrt
            obtain ⟨pl2, hpl2e⟩ : ∃ pl2, pl2 = pl * 128 % 2 ^ 64 := ⟨_, rfl⟩
            have HP2 := Lib.hid (hpl2e.trans hpl2)
            have hpl264 : pl2 < 2 ^ 64 := by omega
            have hplI : IntKind.u64.wrap ((pl : Int) * 128) = (pl2 : Int) := by rw [wrap_u64]; omega
            have HRN := Lib.hid (show rdT (s + 7) V y2 (q0.data.toList.drop (i + (k + 1))) = RR from hrt)
            have HQ2 : Hid (k + 1 ≤ 9 → V < 2 ^ (s + 7)) := Lib.hid (fun _ => hV7)
            have HSK2 : Hid (s + 7 + 2 = 7 * (k + 1)) := Lib.hid (by omega)
            have hk92 : k + 1 ≤ 9 ∨ y2.toNat < 128 := by
              by_cases h61 : k = 9
              · right; omega
              · left; omega
            have e0 : ((y2.toNat : Int) == 0) = false := by simp; omega
            have em : (y2.toNat : Int) % 128 = (z2 : Int) := by omega
            have hT64 : T < 2 ^ 64 := by omega
            have hk9b : k ≠ 9 ∨ ¬ 7 < y2.toNat := by omega
            clear hrt HRT hT hV hz2 hp hqs HQ hV7 hsk hpow hple hpl2 hpl2e hbad HRR
            by_cases h61 : k = 9
            · have e61 : ((k : Int) == 9) = true := by simp [h61]
              have h7 : ¬ (7 : Int) < (y2.toNat : Int) := by omega
              have HS := Lib.hid h61
              clear h61 hk9b
              go_wp2_with fail
              go_roundw
              case rel => exact ⟨y2, V, k + 1, pl2, s + 7, rfl, rfl, rfl, by go_num, HSK2, by omega, by omega, by omega, HRN, HP2, hk92, HQ2, hV64, hpl264, hbl⟩
              case measure => simp [intOf]; omega
            · have e61 : ((k : Int) == 9) = false := by simp; omega
              clear hk9b
              go_wp2_with fail
              go_roundw
              case rel => exact ⟨y2, V, k + 1, pl2, s + 7, rfl, rfl, rfl, by go_num, HSK2, by omega, by omega, by omega, HRN, HP2, hk92, HQ2, hV64, hpl264, hbl⟩
              case measure => simp [intOf]; omega
        · have hcmp : (q0.size : Int) ≤ (i : Int) + (k : Int) := by omega
          have hz : q0.data.toList.drop (i + k) = [] := List.drop_of_length_le (by simp; omega)
          have hrt := HD.out
          rw [hz, rdT_short hy] at hrt
          have HPOST := Lib.hid (fun w' (h : Below w.heap.size w w') => headAt_err (s := q0) (i := i) h (show rdH (x :: r) = .error 20 by rw [HRR.out, ← hrt]))
          clear hrt HD HRR hz
          go_wp2_with fail
          (try simp only [Exit.inBlock, Exit.then])
          refine bodyPost_ret (results_tmp4 rfl _ _ _) rfl ?_
          exact HPOST.out _ hbl
  · have hI : (q0.size : Int) ≤ (i : Int) := by omega
    have hz : q0.data.toList.drop i = [] := List.drop_of_length_le (by simp; omega)
    rw [hz]
    clear hz
    go_enter Try.func95, Try.ntmps95
    go_wp2_with fail
    (try simp only [Exit.inBlock, Exit.then])
    refine bodyPost_ret (results_tmp4 rfl _ _ _) rfl ?_
    exact headAt_err (Below.refl _ _) rfl
end Go.Proofs.Ytpafhajpnepecaa
