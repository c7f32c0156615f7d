/- The walk of the law GlobMatches: which paths a pattern means, or that it is none, is the document's answer. -/
import Derived.Test.YtlddnghfjdjglaaDoorGlobAwake
import Derived.Test.YtlddnghfjdjglaaDoorGlobRefMatch
import Derived.Test.YtlddnghfjdjglaaDoorOpenRd
set_option linter.unusedVariables false
set_option linter.unusedSimpArgs false
namespace Go.Proofs.YtlddnghfjdjglaaDoor
open Go.RowKit

theorem strL_sB (s : ByteArray) : strL (sB s) = s := mk_sB s
theorem codeG_eq (l : List UInt8) : codeG l = match parseG l with | .ok _ => 0 | .error z => z := rfl

set_option maxRecDepth 100000 in
set_option maxHeartbeats 4000000 in
theorem globMatches_any (s0 s1 : ByteArray) (W0 : World) (_ : s0.size ≤ maxLen) (hb0 : s0.size ≤ 1048576) (_ : s1.size ≤ maxLen) (hb1 : s1.size ≤ 1048576) :
    Calls Tryd.prog 3 #[.string s0, .string s1] W0 fun e w' => e = .returned (.bool true) ∧ Below W0.heap.size W0 w' := by
  obtain ⟨l, hl⟩ : ∃ l, l = sB s0 := ⟨_, rfl⟩
  obtain ⟨p, hp⟩ : ∃ p, p = sB s1 := ⟨_, rfl⟩
  obtain ⟨L, hL⟩ : ∃ L, L = p.length := ⟨_, rfl⟩
  have hs1 : s1.size = L := by rw [hL, hp]; rfl
  have HLL := Lib.hid (show l.length ≤ 4294967280 by rw [hl, sB_len]; omega)
  have HS0 := Lib.hid (show s0 = strL l by rw [hl, strL_sB])
  have HS1 := Lib.hid (show s1 = strL p by rw [hp, strL_sB])
  have HL := Lib.hid hL
  obtain ⟨pp, hpp⟩ : ∃ pp, pp = p.take 2000 := ⟨_, rfl⟩
  have HPP := Lib.hid hpp
  clear hl hp hL hpp
  rw [hs1] at hb1
  go_enter Tryd.func3, Tryd.ntmps3
  go_wp2_with fail
  refine (awake_any W0).mono ?_
  rintro e w1 ⟨rfl, hb1'⟩
  have HB1 := Lib.hid hb1'
  clear hb1'
  go_upto_if 12 with fail
  go_cut [1] (fun v wx => v = .string (strL pp) ∧ wx = w1)
  case first =>
    by_cases h2 : 2000 < L
    · have h2I : (2000 : Int) < (L : Int) := by omega
      have h2L : 2000 ≤ L := by omega
      go_wp2_with fail
      go_meet
      case rel => exact ⟨by rw [HPP.out, ← strL_take, ← HS1.out], rfl⟩
    · have h2I : ¬ (2000 : Int) < (L : Int) := by omega
      go_wp2_with fail
      go_meet
      case rel => exact ⟨by rw [HPP.out, List.take_of_length_le (by rw [← HL.out]; omega), HS1.out], rfl⟩
  case rest =>
    obtain ⟨rfl, hwr⟩ := hcut
    obtain rfl : w1 = _ := hwr.symm
    have HPL := Lib.hid (show pp.length ≤ 1000000 by rw [HPP.out, List.length_take]; omega)
    have HPA := Lib.hid (fun w => parse_any l w HLL.out)
    have HCH := Lib.hid (fun w => refCheck_any l w HLL.out)
    rw [← HS0.out] at HPA HCH
    cases hpg : parseG l with
    | error z =>
      have hz0 : (z != 0) = true ∧ (z == 0) = false := by rcases parse_err hpg with rfl | rfl <;> exact ⟨rfl, rfl⟩
      have hz1 := hz0.1
      have hzz : (z != z) = false := by simp
      have hc : codeG l = z := by rw [codeG_eq, hpg]
      rw [hc] at HCH
      have HPG := Lib.hid hpg
      clear hpg hc hz0
      go_wp2_with fail
      refine (HPA.out w1).mono ?_
      intro e w2 hp
      obtain ⟨hb2, hp⟩ := hp
      rw [HPG.out] at hp
      obtain rfl : e = _ := hp
      have HB2 := Lib.hid (HB1.out.trans (hb2.mono HB1.out.size))
      clear hb2
      go_wp2_with fail
      refine (HCH.out w2).mono ?_
      rintro e w3 ⟨rfl, hb3⟩
      have HB3 := Lib.hid (HB2.out.trans (hb3.mono HB2.out.size))
      clear hb3
      go_wp2_with fail
      go_ret
      exact ⟨rfl, HB3.out⟩
    | ok ps =>
      have hc : codeG l = 0 := by rw [codeG_eq, hpg]
      rw [hc] at HCH
      have HPG := Lib.hid hpg
      have HOK := Lib.hid (parse_ok hpg)
      clear hpg hc
      go_wp2_with fail
      refine (HPA.out w1).mono ?_
      intro e w2 hp
      obtain ⟨hb2, hp⟩ := hp
      rw [HPG.out] at hp
      obtain ⟨v2, rfl, hp2⟩ := hp
      obtain ⟨g2, rfl⟩ := pat_ptr hp2
      have HB2 := Lib.hid (HB1.out.trans (hb2.mono HB1.out.size))
      have HP2 := Lib.hid hp2
      clear hb2 hp2
      go_wp2_with fail
      refine (HCH.out w2).mono ?_
      rintro e w3 ⟨rfl, hb3⟩
      have HB3 := Lib.hid (HB2.out.trans (hb3.mono HB2.out.size))
      have HP3 := Lib.hid (pat_use (w0 := w2) HP2.out hb3)
      clear hb3
      obtain ⟨tk, htk⟩ : ∃ tk, tk = matchM ps pp := ⟨_, rfl⟩
      have HM1 := Lib.hid (pmatch_any g2 ps pp w3 HP3.out HOK.out.1 HOK.out.2 HPL.out)
      have HM2 := Lib.hid (fun w => refMatch_any l pp ps w HPG.out HPL.out)
      rw [← htk] at HM1 HM2
      rw [← HS0.out] at HM2
      have htt : (tk == tk) = true := by simp
      clear htk
      go_wp2_with fail
      refine HM1.out.mono ?_
      rintro e w4 ⟨rfl, hb4⟩
      have HB4 := Lib.hid (HB3.out.trans (hb4.mono HB3.out.size))
      clear hb4
      go_wp2_with fail
      refine (HM2.out w4).mono ?_
      rintro e w5 ⟨rfl, hb5⟩
      have HB5 := Lib.hid (HB4.out.trans (hb5.mono HB4.out.size))
      clear hb5
      go_wp2_with fail
      go_ret
      exact ⟨rfl, HB5.out⟩
end Go.Proofs.YtlddnghfjdjglaaDoor
