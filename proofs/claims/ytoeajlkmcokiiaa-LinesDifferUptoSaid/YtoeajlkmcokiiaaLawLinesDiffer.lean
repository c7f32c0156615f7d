/- The walk of the law LinesDiffer: what two raw lists have in common, and what must be done to make one the other, is the document's answer. -/
import Derived.Test.YtoeajlkmcokiiaaLinesAwake
import Derived.Test.YtoeajlkmcokiiaaLinesRefDiff
import Derived.Test.YtoeajlkmcokiiaaLinesSameH
import Derived.Test.YtoeajlkmcokiiaaLinesLaws
import Derived.Test.YtoeajlkmcokiiaaLinesBulk
set_option linter.unusedVariables false
namespace Go.Proofs.Ytoeajlkmcokiiaa
open Go.RowKit

theorem equalIn_two {P : Program} (w : World) (d : Nat) (t e : TypeId) (k : IntKind) (ht : P.underlying t = some (.array 2 e)) (he : P.underlying e = some (.int k)) (hsz : ∀ w, (sizeOf e).run P w = .ok 1 w) (a b : Int) :
    (Op.equalIn (d + 2) t (.agg #[.int k a, .int k b]) (.agg #[.int k a, .int k b])).run P w = .ok true w := by
  have px : (part e #[.int k a, .int k b] (0 * 1)).run P w = .ok (.int k a) w := by simp [part, isAgg, run_underlying he]
  have py : (part e #[.int k a, .int k b] (1 * 1)).run P w = .ok (.int k b) w := by simp [part, isAgg, run_underlying he]
  have pe : ∀ z : Int, (Op.equalIn (d + 1) e (.int k z) (.int k z)).run P w = .ok true w := fun z => by rw [run_equalIn_int w d e k k z z he]; simp
  rw [Op.equalIn]
  simp only [Sem.run_bind, run_underlying ht, Result.andThen_ok, hsz, Std.Legacy.Range.forIn_eq_forIn_range', Std.Legacy.Range.size, Nat.sub_zero, Nat.add_sub_cancel, Nat.div_one]
  rw [show List.range' 0 2 1 = [0, 1] from rfl]
  simp only [List.forIn_cons, List.forIn_nil, Sem.run_bind, px, py, pe, Result.andThen_ok, Bool.not_true, Bool.false_eq_true, if_false, Sem.run_pure]
theorem sum_mem {hs : List Hk} {h : Hk} (hm : h ∈ hs) : h.2.1.length ≤ oldSum hs ∧ h.2.2.length ≤ newSum hs := by
  induction hs with
  | nil => cases hm
  | cons x r ih =>
    simp only [oldSum, newSum, List.map_cons, List.sum_cons] at *
    rcases List.mem_cons.1 hm with rfl | hm
    · omega
    · have := ih hm; omega

set_option maxHeartbeats 2000000 in
theorem linesDiffer_any (A : Option Addr) (ca : Nat) (a : List ByteArray) (B : Option Addr) (cb : Nat) (b : List ByteArray) (w : World) (hca : a.length ≤ ca) (hcm : ca ≤ maxLen) (ha : SlOf strR w none A a) (ba : strB a ≤ 1048576)
    (hcb : b.length ≤ cb) (hcbm : cb ≤ maxLen) (hb : SlOf strR w none B b) (bb : strB b ≤ 1048576) :
    Calls Try.prog 3 #[.slice A a.length ca, .slice B b.length cb] w fun e w' => e = .returned (.bool true) ∧ Below w.heap.size w w' := by
  have hn : a.length ≤ 1048576 := Nat.le_trans (strB_length a) ba
  have hm : b.length ≤ 1048576 := Nat.le_trans (strB_length b) bb
  have ha := ha.str
  have hb := hb.str
  clear ba bb
  generalize hN : a.length = n at *
  generalize hM : b.length = m at *
  have HN := Lib.hid hN
  have HM := Lib.hid hM
  clear hN hM
  by_cases hp : n * m ≤ 1048576
  · have HP := Lib.hid hp
    have hsz := diff_size a b
    rw [HN.out, HM.out] at hsz
    have hdl := hunksG_length a b (allPairs a b) 0 0
    rw [allPairs_length] at hdl
    have hpl := pairsAt_le a b 0 0
    rw [HN.out] at hpl
    have hdl : (diffG a b).length ≤ 1048577 := by unfold diffG; omega
    have hdm := fun h hh => sum_mem (hs := diffG a b) (h := h) hh
    have PD := Lib.hid (fun (W : World) => diff_any A B n ca m cb a b W)
    have PR := Lib.hid (fun (W : World) => refDiff_any A B n ca m cb a b W)
    have PP := Lib.hid (fun (W : World) => pairs_any A B n ca m cb a b W)
    have PQ := Lib.hid (fun (W : World) => refPairs_any A B n ca m cb a b W)
    unfold PairsPost at PP
    unfold RefPairsPost at PQ
    generalize diffG a b = hs at *
    generalize pairsAt a b 0 0 = P at *
    generalize hL : hs.length = L at *
    generalize hLP : P.length = LP at *
    have HL := Lib.hid hL
    have HLP := Lib.hid hLP
    have HSZ := Lib.hid hsz.2.2
    have HDM := Lib.hid hdm
    have hns := hsz.1
    have hos := hsz.2.1
    clear hp hL hsz hdm hLP
    go_enter Try.func3, Try.ntmps3
    go_wp2_with fail
    refine (awake_any _).mono ?_
    rintro e w1 ⟨rfl, hb1⟩
    have ha1 := ha.below hb1
    have hbb1 := hb.below hb1
    go_wp2_with fail
    refine (PP.out _ ha1 hbb1 hn hm HP.out).mono ?_
    rintro e w2 ⟨Ap, cp, rfl, hop, hcp, hcpm, hb2⟩
    have hp2 := Sl.ofOwn hop
    have ha2 := ha1.below hb2
    have hbb2 := hbb1.below hb2
    have hb02 := hb1.trans (hb2.mono hb1.size)
    clear ha1 hbb1 hb1 hb2 ha hb hop
    go_wp2_with fail
    refine (PQ.out _ ha2 hbb2 hn hm HP.out).mono ?_
    rintro e w3 ⟨Aq, cq, rfl, hoq, hcq, hcqm, hb3⟩
    have hq3 := Sl.ofOwn hoq
    have hp3 := hp2.below hb3
    have ha3 := ha2.below hb3
    have hbb3 := hbb2.below hb3
    have hb03 := hb02.trans (hb3.mono hb02.size)
    clear ha2 hbb2 hb02 hb3 hp2 hoq
    go_wp2_with fail
    refine (PD.out _ ha3 hbb3 hca hcm hcb hcbm hn hm HP.out).mono ?_
    rintro e w4 ⟨Ah, ch, rfl, hch, hchm, hH, hb4⟩
    rw [HL.out] at hch ⊢
    have hq4 := hq3.below hb4
    have hp4 := hp3.below hb4
    have ha4 := ha3.below hb4
    have hbb4 := hbb3.below hb4
    have hb04 := hb03.trans (hb4.mono hb03.size)
    clear ha3 hbb3 hb03 hb4 hp3 hq3
    go_wp2_with fail
    refine (PR.out _ ha4 hbb4 hca hcm hcb hcbm hn hm HP.out).mono ?_
    rintro e w5 ⟨Ak, ck, rfl, hck, hckm, hK, hb5⟩
    rw [HL.out] at hck ⊢
    have hq5 := hq4.below hb5
    have hp5 := hp4.below hb5
    have hH5 := hH.below hb5
    have hb05 := hb04.trans (hb5.mono hb04.size)
    clear ha4 hbb4 hb04 hb5 hp4 hq4 hH PD PR PP PQ
    go_wp2_with fail
    refine (plain_any Ah L ch hs _ hH5 HL.out (by omega)).mono ?_
    rintro e w6 ⟨Ax, cx, rfl, hcx, hcxm, hX, hb6⟩
    rw [HL.out] at hcx ⊢
    have hq6 := hq5.below hb6
    have hp6 := hp5.below hb6
    have hK6 := hK.below hb6
    have hb06 := hb05.trans (hb6.mono hb05.size)
    clear hb05 hb6 hp5 hq5 hH5 hK
    go_wp2_with fail
    refine (sameHk_any Ax Ak L cx ck hs _ hX hK6 HL.out (by omega) (fun h hh => by have := HDM.out h hh; omega)).mono ?_
    rintro e w7 ⟨rfl, s7⟩
    have hp7 := s7.sl hp6
    have hq7 := s7.sl hq6
    have hb07 := hb06.trans (s7.below _)
    clear hb06 hX hK6 hp6 hq6 s7
    go_wp2_with fail
    go_loopw [64] (fun i wr => ∃ k : Nat, k ≤ LP ∧ i = .int .i64 k ∧ Same w7 wr) (fun i _ => LP - (intOf i).toNat)
    case atStart => exact ⟨0, by omega, rfl, Same.refl _⟩
    case round =>
      obtain ⟨k, hk, rfl, hs⟩ := hrel
      by_cases hlt : k < LP
      · obtain ⟨b1, o1, p, q, rfl, _, hx, c0, c1⟩ := pair_look (hs.sl hp7) HLP.out hlt
        obtain ⟨b2, o2, p', q', rfl, _, hx', d0, d1⟩ := pair_look (hs.sl hq7) HLP.out hlt
        rw [hx] at hx'
        injection hx' with hx'
        injection hx' with e1 e2
        subst e1 e2
        have hlt' : (k : Int) < (LP : Int) := by omega
        clear hx hp7 hq7
        have heq := fun w => equalIn_two (P := Try.prog) w 9998 39 3 .i64 Try.underlying39 Try.underlying3 (fun _ => by kernel_rfl) (p : Int) (q : Int)
        go_wp2_with fail
        go_quiet (fail)
        go_wp2_with fail
        go_roundw
        case rel => exact ⟨k + 1, by omega, by go_num, hs.drewN _⟩
        case measure => simp [intOf]; omega
      · have hlt' : ¬ (k : Int) < (LP : Int) := by omega
        go_wp2_with fail
        go_ret
        exact ⟨rfl, hb07.trans (hs.below _)⟩
  · have HP : Hid (1048576 < n * m) := Lib.hid (by omega)
    clear hp
    go_enter Try.func3, Try.ntmps3
    go_wp2_with fail
    refine (awake_any _).mono ?_
    rintro e w1 ⟨rfl, hb1⟩
    go_wp2_with fail
    refine (pairs_long A B n ca m cb _ hn hm HP.out).mono ?_
    rintro e w2 ⟨rfl, rfl⟩
    go_wp2_with fail
    refine (refPairs_long A B n ca m cb _ hn hm HP.out).mono ?_
    rintro e w2 ⟨rfl, rfl⟩
    go_wp2_with fail
    refine (diff_long A B n ca m cb _ hn hm HP.out).mono ?_
    rintro e w2 ⟨rfl, rfl⟩
    go_wp2_with fail
    refine (refDiff_long A B n ca m cb _ hn hm HP.out).mono ?_
    rintro e w2 ⟨rfl, rfl⟩
    go_wp2_with fail
    refine (plain_any none 0 0 [] _ SlOf.nil rfl (by omega)).mono ?_
    rintro e w6 ⟨Ax, cx, rfl, hcx, hcxm, hX, hb6⟩
    go_wp2_with fail
    refine (sameHk_any Ax none 0 cx 0 [] _ hX SlOf.nil rfl (by omega) (fun h hh => by cases hh)).mono ?_
    rintro e w7 ⟨rfl, s7⟩
    have hb07 := (hb1.trans (hb6.mono hb1.size)).trans (s7.below _)
    go_wp2_with fail
    go_loopw [64] (fun i wr => i = .int .i64 0 ∧ Same w7 wr) (fun i _ => 0)
    case atStart => exact ⟨rfl, Same.refl _⟩
    case round =>
      obtain ⟨rfl, hs⟩ := hrel
      go_wp2_with fail
      go_ret
      exact ⟨rfl, hb07.trans (hs.below _)⟩
end Go.Proofs.Ytoeajlkmcokiiaa
