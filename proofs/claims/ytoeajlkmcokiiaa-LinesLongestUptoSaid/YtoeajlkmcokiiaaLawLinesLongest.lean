/- The walk of the law LinesLongest: the common lines stand in the order of both lists, and no common list is longer. -/
import Derived.Test.YtoeajlkmcokiiaaLinesAwake
import Derived.Test.YtoeajlkmcokiiaaLinesLaws
import Derived.Test.YtoeajlkmcokiiaaLinesBulk
import Derived.Deep.DeepCutAuto
import Derived.Deep.CutBlock
set_option linter.unusedVariables false
namespace Go.Proofs.Ytoeajlkmcokiiaa
open Go.RowKit

theorem rising_cons {a b : List ByteArray} {i k p q : Nat} {r : List (Nat × Nat)} (h : Rising a b i k ((p, q) :: r)) : i ≤ p ∧ k ≤ q ∧ p < a.length ∧ q < b.length ∧ a[p]? = b[q]? ∧ Rising a b (p + 1) (q + 1) r := h

theorem bool_look {w : World} {C : Option Addr} {n k : Nat} {l : List Bool} (h : SlOf boolR w none C l) (hl : l.length = n) (hk : k < n) :
    ∃ (b off : Nat) (x : Bool), C = some ⟨b, off, none⟩ ∧ b < w.heap.size ∧ w.cell? ⟨b, off + k, none⟩ = some (.bool x) := by
  obtain ⟨b, off, cs, x, e, hb, _, hr, hc, _⟩ := h.look hl hk
  obtain rfl := hr
  exact ⟨b, off, x, e, hb, by simpa [boolR] using hc 0 _ rfl⟩

set_option maxRecDepth 100000 in
set_option maxHeartbeats 8000000 in
theorem linesLongest_any (A : Option Addr) (ca : Nat) (a : List ByteArray) (B : Option Addr) (cb : Nat) (b : List ByteArray) (C : Option Addr) (cc : Nat) (ch : List Bool) (w : World) (hca : a.length ≤ ca) (hcm : ca ≤ maxLen) (ha : SlOf strR w none A a) (ba : strB a ≤ 1048576)
    (hcb : b.length ≤ cb) (hcbm : cb ≤ maxLen) (hb : SlOf strR w none B b) (bb : strB b ≤ 1048576) (hcc : ch.length ≤ cc) (hccm : cc ≤ maxLen) (hc : SlOf boolR w none C ch) (bc : bulkL (fun _ : Bool => 1) ch + 1 ≤ 1048576) :
    Calls Try.prog 5 #[.slice A a.length ca, .slice B b.length cb, .slice C ch.length cc] w fun e w' => e = .returned (.bool true) ∧ Below w.heap.size w w' := by
  have hn : a.length ≤ 1048576 := Nat.le_trans (strB_length a) ba
  have hm : b.length ≤ 1048576 := Nat.le_trans (strB_length b) bb
  have hr : ch.length ≤ 1048576 := by have := bulkL_length (fun _ : Bool => 1) (fun _ => Nat.le_refl _) ch; omega
  have ha := ha.str
  have hb := hb.str
  clear ba bb bc
  generalize hN : a.length = n at *
  generalize hM : b.length = m at *
  generalize hR : ch.length = r at *
  have HN := Lib.hid hN
  have HM := Lib.hid hM
  have HR := Lib.hid hR
  clear hN hM hR
  by_cases hp : n * m ≤ 1048576
  · have HP := Lib.hid hp
    have HP' : Hid (m * n ≤ 1048576) := Lib.hid (by rw [Nat.mul_comm]; exact hp)
    have hpl := pairsAt_length a b 0 0
    have hql := pairsAt_length b a 0 0
    rw [Lc_comm b a 0 0] at hql
    have hle := Lc_le a b 0 0
    rw [HN.out] at hle
    have hri := Lib.hid (pairsAt_rising a b 0 0)
    have PP := Lib.hid (fun (W : World) => pairs_any A B n ca m cb a b W)
    have PQ := Lib.hid (fun (W : World) => pairs_any B A m cb n ca b a W)
    unfold PairsPost at PP PQ
    generalize pairsAt a b 0 0 = P at *
    generalize pairsAt b a 0 0 = Q at *
    rw [hpl] at PP
    rw [hql] at PQ
    have HPL := Lib.hid hpl
    have HTL : Hid (Lc a b 0 0 = Lc a b 0 0) := Lib.hid rfl
    generalize hT : Lc a b 0 0 = T at *
    have HT := Lib.hid hT
    clear hp hpl hql HTL hT
    go_enter Try.func5, Try.ntmps5
    go_wp2_with fail
    refine (awake_any _).mono ?_
    rintro e w1 ⟨rfl, hb1⟩
    have ha1 := ha.below hb1
    have hbb1 := hb.below hb1
    have hc1 := hc.below hb1
    go_wp2_with fail
    refine (PP.out _ ha1 hbb1 hn hm HP.out).mono ?_
    rintro e w2 ⟨Ap, cp, rfl, hop, hcp, hcpm, hb2⟩
    have hp2 := Sl.ofOwn hop
    have ha2 := ha1.below hb2
    have hbb2 := hbb1.below hb2
    have hc2 := hc1.below hb2
    have hb02 := hb1.trans (hb2.mono hb1.size)
    clear ha1 hbb1 hc1 hb1 hb2 ha hb hc hop PP
    go_wp2_with fail
    go_loopw [9, 10, 33] (fun zi zk j wr => ∃ (I K J : Nat) (i k : Int), zi = .int .i64 i ∧ zk = .int .i64 k ∧ j = .int .i64 J ∧ i + 1 = (I : Int) ∧ k + 1 = (K : Int) ∧ J ≤ T ∧ Below w2.heap.size w2 wr ∧ Hid (Rising a b I K (P.drop J))) (fun _ _ j _ => T - (intOf j).toNat)
    case atStart => exact ⟨0, 0, 0, -1, -1, rfl, rfl, rfl, rfl, rfl, by omega, Below.refl _ _, hri⟩
    case round =>
      obtain ⟨I, K, J, i, k, rfl, rfl, rfl, hi, hk, hJ, hbr, HRS⟩ := hrel
      by_cases hJT : J < T
      · obtain ⟨bq, oq, p, q, rfl, hbq, hx, k0, k1⟩ := pair_look hp2 HPL.out hJT
        have k0 := (hbr.cell hbq).trans k0
        have k1 := (hbr.cell hbq).trans k1
        have hrs := HRS.out
        rw [pdrop_cons hx] at hrs
        obtain ⟨r1, r2, r3, r4, r5, r6⟩ := rising_cons hrs
        rw [HN.out] at r3
        rw [HM.out] at r4
        obtain ⟨b1, o1, x, rfl, hb1, cx, gx⟩ := strV_look ha2 r3
        obtain ⟨b2, o2, y, rfl, hb2, cy, gy⟩ := strV_look hbb2 r4
        rw [gx, gy] at r5
        injection r5 with r5
        subst r5
        have cx := (hbr.cell hb1).trans cx
        have cy := (hbr.cell hb2).trans cy
        have cx2 := (World.cell?_alloc_lt wr (.cells #[.int .i64 (p : Int), .int .i64 (q : Int)] 39) ⟨b1, o1 + p, none⟩ (Nat.lt_of_lt_of_le hb1 hbr.size)).trans cx
        have cy2 := (World.cell?_alloc_lt wr (.cells #[.int .i64 (p : Int), .int .i64 (q : Int)] 39) ⟨b2, o2 + q, none⟩ (Nat.lt_of_lt_of_le hb2 hbr.size)).trans cy
        have HR6 := Lib.hid r6
        have d1 : decide ((p : Int) ≤ i) = false := by rw [decide_eq_false_iff_not]; omega
        have d2 : decide ((q : Int) ≤ k) = false := by rw [decide_eq_false_iff_not]; omega
        have d3 : decide (n ≤ p) = false := by rw [decide_eq_false_iff_not]; omega
        have d3' : decide ((n : Int) ≤ (p : Int)) = false := by rw [decide_eq_false_iff_not]; omega
        have d4 : decide (m ≤ q) = false := by rw [decide_eq_false_iff_not]; omega
        have d4' : decide ((m : Int) ≤ (q : Int)) = false := by rw [decide_eq_false_iff_not]; omega
        have hlt' : (J : Int) < (T : Int) := by omega
        have HB := Lib.hid (hbr.alloc hbr.size (.cells #[.int .i64 (p : Int), .int .i64 (q : Int)] 39))
        clear hx hrs r6 gx gy hi hk hbr r1 r2 ha2 hbb2
        go_wp2_with fail
        go_quiet (fail)
        go_wp2_with fail
        go_quiet (fail)
        go_wp2_with fail
        go_roundw
        case rel => exact ⟨p + 1, q + 1, J + 1, p, q, rfl, rfl, by go_num, by omega, by omega, by omega, HB.out.trans (Same.below ⟨_, rfl⟩ _), HR6⟩
        case measure => simp [intOf]; omega
      · obtain rfl : J = T := by omega
        have hlt' : ¬ (J : Int) < (J : Int) := by omega
        have ha3 := ha2.below hbr
        have hbb3 := hbb2.below hbr
        have hc3 := hc2.below hbr
        have hb03 := hb02.trans (hbr.mono hb02.size)
        clear ha2 hbb2 hc2 hbr hb02 HRS hi hk hp2
        go_upto_block 2 with fail
        go_cut [13] (fun s13 wx => ∃ c : Nat, s13 = .int .i64 c ∧ c ≤ J ∧ wr = wx)
        case first =>
          have hT0 := HT.out
          go_wp2_with fail
          go_loop [13, 14, 81] (fun sc st si => ∃ (c t i : Nat), sc = .int .i64 c ∧ st = .int .i64 t ∧ si = .int .i64 i ∧ i ≤ n ∧ t ≤ m ∧ c ≤ i ∧ Hid (c + Lc a b i t ≤ J)) (fun _ _ si => n - (intOf si).toNat)
          case atStart => exact ⟨0, 0, 0, rfl, rfl, rfl, by omega, by omega, by omega, Lib.hid (by omega)⟩
          case round =>
            clear hT0
            obtain ⟨c, t, i, rfl, rfl, rfl, hi, ht, hci, HC⟩ := hrel
            by_cases hin : i < n
            · obtain ⟨b1, o1, x, rfl, hb1, cx, gx⟩ := strV_look ha3 hin
              have HX := Lib.hid gx
              have hin' : (i : Int) < (n : Int) := by omega
              clear gx
              have hch : (r ≤ i) ∨ (i < r ∧ ∃ (b9 o9 : Nat), C = some ⟨b9, o9, none⟩ ∧ wr.cell? ⟨b9, o9 + i, none⟩ = some (.bool false)) ∨ (i < r ∧ ∃ (b9 o9 : Nat), C = some ⟨b9, o9, none⟩ ∧ wr.cell? ⟨b9, o9 + i, none⟩ = some (.bool true)) := by
                by_cases h : i < r
                · obtain ⟨b9, o9, y, e, _, h2⟩ := bool_look hc3 HR.out h
                  cases y
                  · exact .inr (.inl ⟨h, b9, o9, e, h2⟩)
                  · exact .inr (.inr ⟨h, b9, o9, e, h2⟩)
                · exact .inl (by omega)
              have hmono := Lib.hid (Lc_mono a b i t).1
              rcases hch with hri | ⟨hri, b9, o9, rfl, hcb⟩ | ⟨hri, b9, o9, rfl, hcb⟩
              · have d1 : decide (r ≤ i) = true := by simpa using hri
                have d1' : decide ((r : Int) ≤ (i : Int)) = true := by rw [decide_eq_true_iff]; omega
                go_wp2_with fail
                go_round
                case rel => exact ⟨c, t, i + 1, rfl, rfl, by go_num, by omega, by omega, by omega, Lib.hid (by have := HC.out; have := hmono.out; omega)⟩
                case measure => simp [intOf]; omega
              · have d1 : decide (r ≤ i) = false := by rw [decide_eq_false_iff_not]; omega
                have d1' : decide ((r : Int) ≤ (i : Int)) = false := by rw [decide_eq_false_iff_not]; omega
                go_wp2_with fail
                go_round
                case rel => exact ⟨c, t, i + 1, rfl, rfl, by go_num, by omega, by omega, by omega, Lib.hid (by have := HC.out; have := hmono.out; omega)⟩
                case measure => simp [intOf]; omega
              · have d1 : decide (r ≤ i) = false := by rw [decide_eq_false_iff_not]; omega
                have d1' : decide ((r : Int) ≤ (i : Int)) = false := by rw [decide_eq_false_iff_not]; omega
                go_wp2_with fail
                go_loop [14] (fun st => ∃ t : Nat, st = .int .i64 t ∧ t ≤ m ∧ Hid (c + Lc a b i t ≤ J)) (fun st => m - (intOf st).toNat)
                case atStart => exact ⟨t, rfl, ht, HC⟩
                case round =>
                  clear HC ht hmono
                  obtain ⟨t, rfl, ht, HC⟩ := hrel
                  by_cases htm : t < m
                  · obtain ⟨b2, o2, y, rfl, hb2, cy, gy⟩ := strV_look hbb3 htm
                    have HY := Lib.hid gy
                    have htm' : (t : Int) < (m : Int) := by omega
                    clear gy
                    by_cases hxy : y = x
                    · subst hxy
                      have HTK := Lib.hid (Lc_took HX.out HY.out)
                      have e1 : ((t : Int) == (m : Int)) = false := by rw [beq_eq_false_iff_ne]; omega
                      have e2 : ¬ (t : Int) = (m : Int) := by omega
                      have e3 : ¬ t = m := by omega
                      go_wp2_with fail
                      go_round
                      case rel => exact ⟨c + 1, t + 1, i + 1, by go_num, by go_num, by go_num, by omega, by omega, by omega, Lib.hid (by have := HC.out; have := HTK.out; omega)⟩
                      case measure => simp [intOf]; omega
                    · have hne := str_ne hxy
                      have hm2 := Lib.hid (Lc_mono a b i t).2
                      clear hxy
                      go_wp2_with fail
                      go_round
                      case rel => exact ⟨t + 1, by go_num, by omega, Lib.hid (by have := HC.out; have := hm2.out; omega)⟩
                      case measure => simp [intOf]; omega
                  · obtain rfl : t = m := by omega
                    have htm' : ¬ (t : Int) < (t : Int) := by omega
                    go_wp2_with fail
                    go_meet
                    case rel => exact ⟨c, rfl, by have := HC.out; omega, rfl⟩
            · have hin' : ¬ (i : Int) < (n : Int) := by omega
              go_wp2_with fail
              go_meet
              case rel => exact ⟨c, rfl, by have := HC.out; omega, rfl⟩
        case rest =>
          obtain ⟨c, rfl, hcJ, rfl⟩ := hcut
          go_wp2_with fail
          refine (PQ.out _ hbb3 ha3 hm hn HP'.out).mono ?_
          rintro e w4 ⟨Aq, cq, rfl, _, hcq, hcqm, hb4⟩
          have hb04 := Lib.hid (hb03.trans (hb4.mono hb03.size))
          have d1 : decide (c ≤ J) = true := by simpa using hcJ
          have d1' : decide ((c : Int) ≤ (J : Int)) = true := by rw [decide_eq_true_iff]; omega
          clear hb4 hb03 PQ hcJ
          go_wp2_with fail
          go_ret
          exact ⟨rfl, hb04.out⟩
  · have HP : Hid (1048576 < n * m) := Lib.hid (by omega)
    clear hp
    go_enter Try.func5, Try.ntmps5
    go_wp2_with fail
    refine (awake_any _).mono ?_
    rintro e w1 ⟨rfl, hb1⟩
    go_wp2_with fail
    refine (pairs_long A B n ca m cb _ hn hm HP.out).mono ?_
    rintro e w2 ⟨rfl, rfl⟩
    go_wp2_with fail
    go_ret
    exact ⟨rfl, hb1⟩
end Go.Proofs.Ytoeajlkmcokiiaa
