/- The walk of the law LinesThere: there and back. -/
import Derived.Test.YtoeajlkmcokiiaaLinesAwake
import Derived.Test.YtoeajlkmcokiiaaLinesBack
import Derived.Test.YtoeajlkmcokiiaaLinesBulk
set_option linter.unusedVariables false
namespace Go.Proofs.Ytoeajlkmcokiiaa
open Go.RowKit

set_option maxHeartbeats 2000000 in
theorem linesThere_any (A : Option Addr) (ca : Nat) (a : List ByteArray) (B : Option Addr) (cb : Nat) (b : List ByteArray) (w : World) (hca : a.length ≤ ca) (hcm : ca ≤ maxLen) (ha : SlOf strR w none A a) (ba : strB a ≤ 1048576)
    (hcb : b.length ≤ cb) (hcbm : cb ≤ maxLen) (hb : SlOf strR w none B b) (bb : strB b ≤ 1048576) :
    Calls Try.prog 7 #[.slice A a.length ca, .slice B b.length cb] w fun e w' => e = .returned (.bool true) ∧ Below w.heap.size w w' := by
  have hn : a.length ≤ 1048576 := Nat.le_trans (strB_length a) ba
  have hm : b.length ≤ 1048576 := Nat.le_trans (strB_length b) bb
  have ha := ha.str
  have hb := hb.str
  clear ba bb
  generalize hN : a.length = n at *
  generalize hM : b.length = m at *
  have HN := Lib.hid hN
  have HM := Lib.hid hM
  clear hN hM
  by_cases hp : n * m ≤ 1048576
  · have HP := Lib.hid hp
    have HT := Lib.hid (diff_there a b)
    have HBK := Lib.hid (diff_back a b)
    have hsz := diff_size a b
    rw [HN.out, HM.out] at hsz
    have hbl := backG_length 0 (diffG a b)
    have hbn := backG_new 0 (diffG a b)
    have hdl := hunksG_length a b (allPairs a b) 0 0
    rw [allPairs_length] at hdl
    have hpl := pairsAt_le a b 0 0
    rw [HN.out] at hpl
    have hdl : (diffG a b).length ≤ 1048577 := by unfold diffG; omega
    clear hpl
    have hself : Hid (((diffG a b).length = 0 ∧ sameS a b = true) ∨ (0 < (diffG a b).length ∧ sameS a b = false)) := by
      refine Lib.hid ?_
      by_cases e : a = b
      · subst e; exact .inl ⟨by rw [diff_self]; rfl, sameS_self a⟩
      · refine .inr ⟨?_, by simpa [sameS] using e⟩
        rcases Nat.eq_zero_or_pos (diffG a b).length with h | h
        · exact absurd (diff_nil (List.eq_nil_of_length_eq_zero h)) e
        · exact h
    generalize hdg : diffG a b = hs at *
    have HDG := Lib.hid hdg
    generalize hL : hs.length = L at *
    have HL := Lib.hid hL
    have HSZ := Lib.hid hsz.2.2
    have hns := hsz.1
    have hos := hsz.2.1
    have HBL := Lib.hid hbl
    have HBN := Lib.hid hbn
    clear hp hL hsz hbl hbn hdg
    go_enter Try.func7, Try.ntmps7
    go_wp2_with fail
    refine (awake_any _).mono ?_
    rintro e w1 ⟨rfl, hb1⟩
    have ha1 := ha.below hb1
    have hbb1 := hb.below hb1
    go_wp2_with fail
    refine (diff_any A B n ca m cb a b _ ha1 hbb1 hca hcm hcb hcbm hn hm HP.out).mono ?_
    rw [HDG.out]
    rintro e w2 ⟨Ah, ch, rfl, hch, hchm, hH, hb2⟩
    rw [HL.out] at hch ⊢
    have ha2 := ha1.below hb2
    have hbb2 := hbb1.below hb2
    have hb02 := hb1.trans (hb2.mono hb1.size)
    clear ha1 hbb1 hb1 hb2 ha hb
    go_wp2_with fail
    refine (patch_any A Ah n ca L ch a hs _ ha2 hca hcm hH HL.out hn (by omega) (by omega)).mono ?_
    rw [HT.out]
    rintro e w3 hp
    rcases hp with ⟨h, _⟩ | ⟨l, Ac, cc, h, rfl, hoc, hcc, hccm, hcl, hb3⟩
    · cases h
    injection h with h
    subst h
    have hc3 := Sl.ofOwn hoc
    have ha3 := ha2.below hb3
    have hbb3 := hbb2.below hb3
    have hH3 := hH.below hb3
    have hb03 := hb02.trans (hb3.mono hb02.size)
    rw [HM.out] at hc3 hcc hcl ⊢
    clear hb3 hb02 ha2 hbb2 hH hoc
    go_wp2_with fail
    refine (back_any Ah L ch hs _ hH3 HL.out (by omega) (by omega) (by omega) (fun h hh => by have := HSZ.out h hh; omega)).mono ?_
    rintro e w4 ⟨Ab, cb', rfl, hcb', hcbm', hB, hb4⟩
    rw [HBL.out] at hcb' ⊢
    have hc4 := hc3.below hb4
    have ha4 := ha3.below hb4
    have hbb4 := hbb3.below hb4
    have hb04 := hb03.trans (hb4.mono hb03.size)
    clear hb4 hb03 hc3 ha3 hbb3 hH3
    go_wp2_with fail
    refine (patch_any B Ab m cb L cb' b (backG 0 hs) _ hbb4 hcb hcbm hB HBL.out hm (by omega) (by rw [HBN.out]; omega)).mono ?_
    rw [HBK.out]
    rintro e w5 hp
    rcases hp with ⟨h, _⟩ | ⟨l, Ad, cd, h, rfl, hod, hcd, hcdm, hdl', hb5⟩
    · cases h
    injection h with h
    subst h
    have hd5 := Sl.ofOwn hod
    have hc5 := hc4.below hb5
    have ha5 := ha4.below hb5
    have hbb5 := hbb4.below hb5
    have hb05 := Lib.hid (hb04.trans (hb5.mono hb04.size))
    rw [HN.out] at hd5 hcd hdl' ⊢
    clear hb5 hb04 hc4 ha4 hbb4 hod hB
    go_wp2_with fail
    refine (refSame_any Ac B m cc m cb b b _ hc5 hbb5 (by omega) (by omega)).mono ?_
    rintro e w6 ⟨rfl, s6⟩
    rw [sameS_self]
    go_wp2_with fail
    refine (refSame_any Ad A n cd n ca a a _ (s6.sl hd5) (s6.sl ha5) (by omega) (by omega)).mono ?_
    rintro e w7 ⟨rfl, s7⟩
    have s57 := s6.trans s7
    rw [sameS_self]
    have hq := refSame_any A B n ca m cb a b w7 (s57.sl ha5) (s57.sl hbb5) (by omega) (by omega)
    have HQ := Lib.hid hq
    clear hq
    rcases hself.out with ⟨h1, h2⟩ | ⟨h1, h2⟩
    · rw [h2] at HQ
      subst h1
      clear h2 hself
      go_wp2_with fail
      refine HQ.out.mono ?_
      rintro e w8 ⟨rfl, s8⟩
      go_wp2_with fail
      go_ret
      exact ⟨rfl, hb05.out.trans ((s57.trans s8).below _)⟩
    · rw [h2] at HQ
      have d1 : ((L : Int) == 0) = false := by rw [beq_eq_false_iff_ne]; omega
      have d2 : (L == 0) = false := by rw [beq_eq_false_iff_ne]; omega
      have d3 : ¬ L = 0 := by omega
      clear h2 hself
      go_wp2_with fail
      refine HQ.out.mono ?_
      rintro e w8 ⟨rfl, s8⟩
      go_wp2_with fail
      go_ret
      exact ⟨rfl, hb05.out.trans ((s57.trans s8).below _)⟩
  · have HP : Hid (1048576 < n * m) := Lib.hid (by omega)
    have h1 : n * m ≤ 1048576 * 1048576 := Nat.mul_le_mul hn hm
    have h2 : (n : Int) * (m : Int) = ((n * m : Nat) : Int) := by push_cast; rfl
    have e1 := Lib.hid (show IntKind.i64.wrap ((n : Int) * (m : Int)) = ((n * m : Nat) : Int) from by rw [h2]; exact IntWalk.i64_in _ (by omega))
    have h3 : (1048576 : Int) < ((n * m : Nat) : Int) := by omega
    clear h1 h2 hp
    go_enter Try.func7, Try.ntmps7
    go_wp2_with fail
    refine (awake_any _).mono ?_
    rintro e w1 ⟨rfl, hb1⟩
    go_wp2_with fail
    refine (diff_long A B n ca m cb _ hn hm HP.out).mono ?_
    rintro e w2 ⟨rfl, rfl⟩
    have e1 := e1.out
    generalize n * m = q at *
    go_wp2_with fail
    go_ret
    exact ⟨rfl, hb1⟩
end Go.Proofs.Ytoeajlkmcokiiaa
