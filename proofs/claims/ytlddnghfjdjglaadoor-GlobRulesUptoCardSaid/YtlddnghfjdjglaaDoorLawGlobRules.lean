/- The walk of the law GlobRules: which paths rules pass over, or which line is none, is the document's answer. -/
import Derived.Test.YtlddnghfjdjglaaDoorGlobAwake
import Derived.Test.YtlddnghfjdjglaaDoorGlobRefSkips
import Derived.Test.YtlddnghfjdjglaaDoorOpenRd
set_option linter.unusedVariables false
set_option linter.unusedSimpArgs false
namespace Go.Proofs.YtlddnghfjdjglaaDoor
open Go.RowKit

theorem lines_of (ls : List ByteArray) : ls = (ls.map sB).map strL := by
  rw [List.map_map]
  have : strL ∘ sB = id := by funext s; exact mk_sB s
  rw [this, List.map_id]
theorem bulk_mem : ∀ {ls : List ByteArray} {s : ByteArray}, s ∈ ls → s.size ≤ bulkL (fun s : ByteArray => s.size + 1) ls
  | x :: r, s, h => by
    rcases List.mem_cons.1 h with rfl | h
    · simp only [bulkL]; omega
    · have := bulk_mem h; simp only [bulkL]; omega
theorem rulesZ_ok {ls : List (List UInt8)} {qs : List Rul} (h : rulesG 0 ls = .ok qs) : rulesZ ls = (0, 0) := by unfold rulesZ; rw [h]
theorem rulesZ_err {ls : List (List UInt8)} {z : Int × Nat} (h : rulesG 0 ls = .error z) : rulesZ ls = z := by unfold rulesZ; rw [h]
theorem rules_err_code : ∀ {i : Nat} {ls : List (List UInt8)} {z : Int × Nat}, rulesG i ls = .error z → z.1 = 2 ∨ z.1 = 60
  | i, [], z, h => by rw [rulesG] at h; cases h
  | i, l :: r, z, h => by
    rw [rulesG] at h
    cases hl : lineG l with
    | error e =>
      rw [hl] at h
      injection h with h; subst h
      rcases line_code (l := l) with ⟨o, ho, _⟩ | ⟨z, hz, _, _, hcz, _⟩
      · rw [hl] at ho; cases ho
      · rw [hl] at hz; injection hz with hz; subst hz
        rw [codeG] at hcz
        cases hp : parseG (cutG l) with
        | ok ps => rw [hp] at hcz; simp at hcz; subst hcz; rename_i h0; exact absurd rfl h0
        | error e' => rw [hp] at hcz; simp at hcz; subst hcz; exact parse_err hp
    | ok o =>
      rw [hl] at h
      cases o with
      | none => exact rules_err_code (i := i + 1) h
      | some q =>
        simp only [] at h
        cases hr : rulesG (i + 1) r with
        | ok q2 => rw [hr] at h; cases h
        | error z2 => rw [hr] at h; injection h with h; subst h; exact rules_err_code hr

set_option maxRecDepth 100000 in
set_option maxHeartbeats 4000000 in
theorem globRules_any (A0 : Option Addr) (c0 : Nat) (l0 : List ByteArray) (s1 : ByteArray) (W0 : World) (hc : l0.length ≤ c0) (hcm : c0 ≤ maxLen) (hs0 : SlOf strR W0 no A0 l0) (hb0 : bulkL (fun s : ByteArray => s.size + 1) l0 + 1 ≤ 1048576) (_ : s1.size ≤ maxLen) (hb1 : s1.size ≤ 1048576) :
    Calls Tryd.prog 4 #[.slice A0 l0.length c0, .string s1] W0 fun e w' => e = .returned (.bool true) ∧ Below W0.heap.size W0 w' := by
  obtain ⟨ls, hls⟩ : ∃ ls, ls = l0.map sB := ⟨_, rfl⟩
  have HS0 := Lib.hid (show SlOf strR W0 no A0 (ls.map strL) by rw [hls, ← lines_of]; exact hs0)
  have HLL := Lib.hid (show ∀ l ∈ ls, l.length ≤ 4294967280 from fun l hl => by
    rw [hls] at hl
    obtain ⟨s, hs, rfl⟩ := List.mem_map.1 hl
    have := bulk_mem hs
    rw [sB_len]; omega)
  obtain ⟨N, hN⟩ : ∃ N, N = l0.length := ⟨_, rfl⟩
  rw [← hN]
  have HN := Lib.hid (show N = ls.length by rw [hN, hls, List.length_map])
  obtain ⟨p, hp⟩ : ∃ p, p = sB s1 := ⟨_, rfl⟩
  obtain ⟨L, hL⟩ : ∃ L, L = p.length := ⟨_, rfl⟩
  have hs1 : s1.size = L := by rw [hL, hp]; rfl
  have HS1 := Lib.hid (show s1 = strL p by rw [hp]; exact (mk_sB s1).symm)
  have HL := Lib.hid hL
  clear hls hs0 hN hp hL hc hcm hb0 hb1
  go_enter Tryd.func4, Tryd.ntmps4
  go_wp2_with fail
  refine (awake_any W0).mono ?_
  rintro e w1 ⟨rfl, hb1'⟩
  have HB1 := Lib.hid hb1'
  have HSA := Lib.hid (HS0.out.below hb1')
  clear hb1' HS0
  by_cases h4 : 400 < L
  · have h4I : (400 : Int) < (L : Int) := by omega
    go_wp2_with fail
    go_ret
    exact ⟨rfl, HB1.out⟩
  · have h4I : ¬ (400 : Int) < (L : Int) := by omega
    by_cases h40 : 40 < N
    · have h40I : (40 : Int) < (N : Int) := by omega
      go_wp2_with fail
      go_ret
      exact ⟨rfl, HB1.out⟩
    · have h40I : ¬ (40 : Int) < (N : Int) := by omega
      have HPL := Lib.hid (show p.length ≤ 1000000 by rw [← HL.out]; omega)
      have hN6 : N ≤ 1000000 := by omega
      cases hrg : rulesG 0 ls with
      | error z =>
        obtain ⟨z, i⟩ := z
        have hz0 : (z != 0) = true ∧ (z != z) = false := ⟨by rcases rules_err_code hrg with h | h <;> simp only [] at h <;> subst h <;> rfl, by simp⟩
        obtain ⟨hz1, hz2⟩ := hz0
        have HNW := Lib.hid (fun c => new_any A0 N c ls w1 HSA.out HN.out hN6 HLL.out)
        have HRR := Lib.hid (fun c w (hb : Below w1.heap.size w1 w) => refRules_any A0 N c ls w (HSA.out.below hb) HN.out hN6 HLL.out)
        have HRG := Lib.hid hrg
        have hii : ((i : Int) != (i : Int)) = false := by simp
        clear hrg
        go_wp2_with fail
        refine (HNW.out _).mono ?_
        intro e w2 hp
        obtain ⟨hb2, hp⟩ := hp
        rw [HRG.out] at hp
        obtain rfl : e = _ := hp
        have HB2 := Lib.hid hb2
        clear hb2
        go_wp2_with fail
        refine (HRR.out _ w2 HB2.out).mono ?_
        rintro e w3 ⟨rfl, hb3⟩
        rw [rulesZ_err HRG.out]
        have HB3 := Lib.hid (HB1.out.trans ((HB2.out.trans (hb3.mono HB2.out.size)).mono HB1.out.size))
        clear hb3
        go_wp2_with fail
        go_ret
        exact ⟨rfl, HB3.out⟩
      | ok qs =>
        have HNW := Lib.hid (fun c => new_any A0 N c ls w1 HSA.out HN.out hN6 HLL.out)
        have HRR := Lib.hid (fun c w (hb : Below w1.heap.size w1 w) => refRules_any A0 N c ls w (HSA.out.below hb) HN.out hN6 HLL.out)
        have HRG := Lib.hid hrg
        clear hrg
        go_wp2_with fail
        refine (HNW.out _).mono ?_
        intro e w2 hp
        obtain ⟨hb2, hp⟩ := hp
        rw [HRG.out] at hp
        obtain ⟨v2, rfl, hp2⟩ := hp
        obtain ⟨g2, rfl⟩ := rul_ptr hp2
        have HB2 := Lib.hid hb2
        have HP2 := Lib.hid hp2
        clear hb2 hp2
        go_wp2_with fail
        refine (HRR.out _ w2 HB2.out).mono ?_
        rintro e w3 ⟨rfl, hb3⟩
        rw [rulesZ_ok HRG.out]
        have HB3 := Lib.hid (HB2.out.trans (hb3.mono HB2.out.size))
        have HP3 := Lib.hid (rulesR.stable HP2.out ((Moves.of_below hb3).trans (Moves.forget _ _)))
        clear hb3
        obtain ⟨tk, htk⟩ : ∃ tk, tk = skipsG qs p := ⟨_, rfl⟩
        have HK1 := Lib.hid (skips_any g2 qs p w3 HP3.out HPL.out)
        have HK2 := Lib.hid (fun c w (hb : Below w1.heap.size w1 w) => refSkips_any A0 N c ls qs p w (HSA.out.below hb) HN.out hN6 HRG.out HPL.out)
        rw [← htk, ← HS1.out] at HK1 HK2
        have htt : (tk == tk) = true := by simp
        clear htk
        go_wp2_with fail
        refine HK1.out.mono ?_
        rintro e w4 ⟨rfl, hb4⟩
        have HB4 := Lib.hid (HB3.out.trans (hb4.mono HB3.out.size))
        clear hb4
        go_wp2_with fail
        refine (HK2.out _ w4 HB4.out).mono ?_
        rintro e w5 ⟨rfl, hb5⟩
        have HB5 := Lib.hid (HB1.out.trans ((HB4.out.trans (hb5.mono HB4.out.size)).mono HB1.out.size))
        clear hb5
        go_wp2_with fail
        go_ret
        exact ⟨rfl, HB5.out⟩
end Go.Proofs.YtlddnghfjdjglaaDoor
