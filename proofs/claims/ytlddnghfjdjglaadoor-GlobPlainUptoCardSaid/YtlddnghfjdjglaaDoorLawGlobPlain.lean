/- The walk of the law GlobPlain: a path with backslashes means itself alone; with stars behind or ahead all within it, or that end so. -/
import Derived.Test.YtlddnghfjdjglaaDoorGlobAwake
import Derived.Test.YtlddnghfjdjglaaDoorGlobPlainLaw
import Derived.Test.YtlddnghfjdjglaaDoorOpenRd
set_option linter.unusedVariables false
set_option linter.unusedSimpArgs false
namespace Go.Proofs.YtlddnghfjdjglaaDoor
open Go.RowKit

def Pls (w : World) (g1 g2 g3 : Nat) (p : List UInt8) : Prop := patR.R w no [.pointer (some ⟨g1, 0, none⟩)] (litP p) ∧ patR.R w no [.pointer (some ⟨g2, 0, none⟩)] (litP p ++ [none]) ∧ patR.R w no [.pointer (some ⟨g3, 0, none⟩)] (none :: litP p)
theorem Pls.below {w w' : World} {g1 g2 g3 : Nat} {p : List UInt8} (h : Pls w g1 g2 g3 p) (hb : Below w.heap.size w w') : Pls w' g1 g2 g3 p := ⟨pat_use (w0 := w) h.1 hb, pat_use (w0 := w) h.2.1 hb, pat_use (w0 := w) h.2.2 hb⟩

set_option maxRecDepth 100000 in
set_option maxHeartbeats 4000000 in
theorem globPlain_any (s0 s1 : ByteArray) (W0 : World) (_ : s0.size ≤ maxLen) (hb0 : s0.size ≤ 1048576) (_ : s1.size ≤ maxLen) (hb1 : s1.size ≤ 1048576) :
    Calls Tryd.prog 7 #[.string s0, .string s1] W0 fun e w' => e = .returned (.bool true) ∧ Below W0.heap.size W0 w' := by
  obtain ⟨p, hp⟩ : ∃ p, p = sB s0 := ⟨_, rfl⟩
  obtain ⟨q, hq⟩ : ∃ q, q = sB s1 := ⟨_, rfl⟩
  obtain ⟨L, hL⟩ : ∃ L, L = p.length := ⟨_, rfl⟩
  obtain ⟨M, hM⟩ : ∃ M, M = q.length := ⟨_, rfl⟩
  have hsL : s0.size = L := by rw [hL, hp]; rfl
  have hsM : s1.size = M := by rw [hM, hq]; rfl
  have HS0 := Lib.hid (show s0 = strL p by rw [hp]; exact (mk_sB s0).symm)
  have HS1 := Lib.hid (show s1 = strL q by rw [hq]; exact (mk_sB s1).symm)
  have HL := Lib.hid hL
  have HM := Lib.hid hM
  have HCP := Lib.hid (fun w => check_any p w (by omega))
  have HCQ := Lib.hid (fun w => check_any q w (by omega))
  rw [← HS0.out] at HCP
  rw [← HS1.out] at HCQ
  clear hp hq hL hM
  go_enter Tryd.func7, Tryd.ntmps7
  go_wp2_with fail
  refine (awake_any W0).mono ?_
  rintro e w1 ⟨rfl, hb1'⟩
  have HB1 := Lib.hid hb1'
  clear hb1'
  go_wp2_with fail
  refine (HCP.out w1).mono ?_
  rintro e w2 ⟨⟨z, rfl, hz⟩, hb2⟩
  have HB2 := Lib.hid (HB1.out.trans (hb2.mono HB1.out.size))
  clear hb2 HB1 HCP
  cases hzz : (z == 0) with
  | false =>
    have hz1 : (z != 0) = true := by simp [bne, hzz]
    clear hz hzz
    go_wp2_with fail
    go_ret
    exact ⟨rfl, HB2.out⟩
  | true =>
    have hz1 : (z != 0) = false := by simp [bne, hzz]
    have HPO := Lib.hid (hz hzz)
    clear hz hzz
    go_wp2_with fail
    refine (HCQ.out w2).mono ?_
    rintro e w3 ⟨⟨z2, rfl, hz⟩, hb3⟩
    have HB3 := Lib.hid (HB2.out.trans (hb3.mono HB2.out.size))
    clear hb3 HB2 HCQ
    cases hzz : (z2 == 0) with
    | false =>
      have hz2 : (z2 != 0) = true := by simp [bne, hzz]
      clear hz hzz
      go_wp2_with fail
      go_ret
      exact ⟨rfl, HB3.out⟩
    | true =>
      have hz2 : (z2 != 0) = false := by simp [bne, hzz]
      have HQO := Lib.hid (hz hzz)
      clear hz hzz
      by_cases h120 : 120 < L
      · have h120I : (120 : Int) < (L : Int) := by omega
        go_wp2_with fail
        go_ret
        exact ⟨rfl, HB3.out⟩
      · have h120I : ¬ (120 : Int) < (L : Int) := by omega
        have hql : (quoG p).length ≤ 240 := by have := quoG_len p; have := HL.out; omega
        have HX := Lib.hid (quo_x HPO.out (by omega))
        have HY := Lib.hid (quo_y HPO.out (by simp; omega))
        have HZ := Lib.hid (quo_z HPO.out (by simp; omega))
        have HQU := Lib.hid (fun w => quoted_any p w (by have := HL.out; omega))
        have HPX := Lib.hid (fun w => parse_any (quoG p) w (by omega))
        have HPY := Lib.hid (fun w => parse_any (quoG p ++ [47, 42, 42]) w (by simp; omega))
        have HPZ := Lib.hid (fun w => parse_any ([42, 42, 47] ++ quoG p) w (by simp; omega))
        obtain ⟨qu, hqu⟩ : ∃ qu, qu = strL (quoG p) := ⟨_, rfl⟩
        have hqus : qu.size ≤ 240 := by rw [hqu, strL_size]; exact hql
        rw [← HS0.out, ← hqu] at HQU
        rw [← strL_add, ← hqu] at HPY
        rw [← strL_add, ← hqu] at HPZ
        rw [← hqu] at HPX
        clear hqu hql
        go_wp2_with fail
        refine (HQU.out w3).mono ?_
        rintro e w4 ⟨rfl, hb4⟩
        have HB4 := Lib.hid (HB3.out.trans (hb4.mono HB3.out.size))
        clear hb4 HB3
        go_wp2_with fail
        refine (HPX.out w4).mono ?_
        intro e w5 hp
        obtain ⟨hb5, hp⟩ := hp
        rw [HX.out] at hp
        obtain ⟨v5, rfl, hp5⟩ := hp
        obtain ⟨g1, rfl⟩ := pat_ptr hp5
        have HB5 := Lib.hid (HB4.out.trans (hb5.mono HB4.out.size))
        have HA5 := Lib.hid (patR.stable hp5 (Moves.forget _ _))
        clear hb5 hp5 HB4 HPX
        go_wp2_with fail
        refine (HQU.out w5).mono ?_
        rintro e w6 ⟨rfl, hb6⟩
        have HB6 := Lib.hid (HB5.out.trans (hb6.mono HB5.out.size))
        have HA6 := Lib.hid (pat_use (w0 := w5) HA5.out hb6)
        clear hb6 HB5 HA5
        go_wp2_with fail
        refine (HPY.out w6).mono ?_
        intro e w7 hp
        obtain ⟨hb7, hp⟩ := hp
        rw [HY.out] at hp
        obtain ⟨v7, rfl, hp7⟩ := hp
        obtain ⟨g2, rfl⟩ := pat_ptr hp7
        have HB7 := Lib.hid (HB6.out.trans (hb7.mono HB6.out.size))
        have HA7 := Lib.hid (pat_use (w0 := w6) HA6.out hb7)
        have HE7 := Lib.hid (patR.stable hp7 (Moves.forget _ _))
        clear hb7 hp7 HB6 HA6 HPY
        go_wp2_with fail
        refine (HQU.out w7).mono ?_
        rintro e w8 ⟨rfl, hb8⟩
        have HB8 := Lib.hid (HB7.out.trans (hb8.mono HB7.out.size))
        have HA8 := Lib.hid (pat_use (w0 := w7) HA7.out hb8)
        have HE8 := Lib.hid (pat_use (w0 := w7) HE7.out hb8)
        clear hb8 HB7 HA7 HE7 HQU
        go_wp2_with fail
        refine (HPZ.out w8).mono ?_
        intro e w9 hp
        obtain ⟨hb9, hp⟩ := hp
        rw [HZ.out] at hp
        obtain ⟨v9, rfl, hp9⟩ := hp
        obtain ⟨g3, rfl⟩ := pat_ptr hp9
        have HB9 := Lib.hid (HB8.out.trans (hb9.mono HB8.out.size))
        have HPL := Lib.hid (show Pls w9 g1 g2 g3 p from ⟨pat_use (w0 := w8) HA8.out hb9, pat_use (w0 := w8) HE8.out hb9, patR.stable hp9 (Moves.forget _ _)⟩)
        clear hb9 hp9 HB8 HA8 HE8 HPZ
        obtain ⟨eq0, heq0⟩ : ∃ eq0, eq0 = (p == q) := ⟨_, rfl⟩
        have HEQ := Lib.hid heq0
        have hss : (s0.toList == s1.toList) = eq0 := by
          rw [heq0, HS0.out, HS1.out, ByteArray.toList_eq, ByteArray.toList_eq]; simp [strL]
        clear heq0
        have HE0 := Lib.hid (show eq0 = endsF p q 0 by rw [HEQ.out]; unfold endsF; simp)
        obtain ⟨_, hqne⟩ := path_names HQO.out
        obtain ⟨_, hpne⟩ := path_names HPO.out
        have HQN := Lib.hid hqne
        have HPN := Lib.hid hpne
        clear hqne hpne
        go_wp2_with fail
        obtain ⟨wL, rfl⟩ : ∃ wo : World, wo = w9 := ⟨_, rfl⟩
        go_loopw [11, 12] (fun s11 s12 wr => ∃ (i : Nat) (b : Bool), i ≤ M ∧ s11 = .bool b ∧ s12 = .int .i64 (i : Int) ∧ Hid (b = endsF p q i) ∧ wr = wL) (fun s11 s12 wr => M - (intOf s12).toNat)
        case atStart => exact ⟨0, eq0, Nat.zero_le _, rfl, rfl, HE0, rfl⟩
        case round =>
          obtain ⟨i, b, hi, rfl, rfl, HEN, rfl⟩ := hrel
          by_cases hlt : i < M
          · have hltI : (i : Int) < (M : Int) := by omega
            have HST := Lib.hid (endsF_step p q i)
            cases b with
            | true =>
              have HEN2 := Lib.hid (show true = endsF p q (i + 1) by rw [HST.out, ← HEN.out]; rfl)
              go_wp2_with fail
              go_roundw
              case rel => exact ⟨i + 1, true, by omega, rfl, by go_num, HEN2, trivial⟩
              case measure => simp [intOf]; omega
            | false =>
              obtain ⟨x, hx⟩ : ∃ x, q[i]? = some x := ⟨_, List.getElem?_eq_getElem (by have := HM.out; omega)⟩
              have hiq : i < s1.size := by omega
              have hqx : s1[i] = x := strL_at hx HS1.out hiq
              by_cases h47 : x = 47
              · have hx47 : ((x.toNat : Int) == 47) = true := by rw [h47]; rfl
                obtain ⟨e1, he1⟩ : ∃ e1, e1 = (q.drop (i + 1) == p) := ⟨_, rfl⟩
                have hsx : ((s1.extract (i + 1) M).toList == s0.toList) = e1 := by
                  rw [he1, HS0.out, HS1.out, strL_cut, List.take_of_length_le (by rw [List.length_drop, ← HM.out]; exact Nat.le_refl _), ByteArray.toList_eq, ByteArray.toList_eq]; simp [strL]
                have HEN2 := Lib.hid (show e1 = endsF p q (i + 1) by
                  rw [HST.out, ← HEN.out, hx, h47, he1]; simp)
                have hi1 : (i : Int) + 1 ≤ (M : Int) := by omega
                have hi2 : (0 : Int) ≤ (i : Int) + 1 := by omega
                have hi3 : ((i : Int) + 1).toNat = i + 1 := by omega
                clear hx h47 he1
                go_wp2_with fail
                go_roundw
                case rel => exact ⟨i + 1, e1, by omega, rfl, by go_num, HEN2, trivial⟩
                case measure => simp [intOf]; omega
              · have hx47 : ((x.toNat : Int) == 47) = false := u8_ne (y := 47) h47
                have HEN2 := Lib.hid (show false = endsF p q (i + 1) by
                  rw [HST.out, ← HEN.out, hx]
                  have : (some x == some (47 : UInt8)) = false := by simpa using h47
                  rw [this]; rfl)
                clear hx h47
                go_wp2_with fail
                go_roundw
                case rel => exact ⟨i + 1, false, by omega, rfl, by go_num, HEN2, trivial⟩
                case measure => simp [intOf]; omega
          · have hltI : ¬ (i : Int) < (M : Int) := by omega
            obtain rfl : i = M := by omega
            have HPK := Lib.hid (litP_ok (p := p) (by have := HL.out; omega))
            have HQL := Lib.hid (show q.length ≤ 1000000 by have := HQO.out.1; omega)
            have HC1 := Lib.hid (fun w (h : Pls w g1 g2 g3 p) => pmatch_any g1 (litP p) q w h.1 HPK.out.2.2.1 HPK.out.2.2.2 HQL.out)
            have HC2 := Lib.hid (fun w (h : Pls w g1 g2 g3 p) => pmatch_any g2 (litP p ++ [none]) q w h.2.1 HPK.out.1.1 HPK.out.1.2 HQL.out)
            have HC3 := Lib.hid (fun w (h : Pls w g1 g2 g3 p) => pmatch_any g3 (none :: litP p) q w h.2.2 HPK.out.2.1.1 HPK.out.2.1.2 HQL.out)
            have HUN := Lib.hid (fun w => under_any q p w (by have := HL.out; omega))
            obtain ⟨un, hun⟩ : ∃ un, un = underG q p := ⟨_, rfl⟩
            rw [mean_x HQN.out, ← HEQ.out, ← HS1.out] at HC1
            rw [mean_y HPN.out HQN.out, ← HEQ.out, ← hun, ← HS1.out] at HC2
            rw [mean_z HQN.out, ← HM.out, ← HEN.out, ← HS1.out] at HC3
            rw [← hun, ← HS0.out, ← HS1.out] at HUN
            have hbb : (b == b) = true := by simp
            have huu : (un == un) = true := by simp
            clear hun HEN hlt
            cases eq0 with
            | true =>
              have HB20 := HB9
              have HPL20 := HPL
              clear HB9 HPL
              go_wp2_with fail
              refine (HC1.out _ HPL20.out).mono ?_
              rintro e w21 ⟨rfl, hb21⟩
              have HB21 := Lib.hid (HB20.out.trans (hb21.mono HB20.out.size))
              have HPL21 := Lib.hid (HPL20.out.below hb21)
              clear hb21 HB20 HPL20
              go_wp2_with fail
              refine (HC2.out _ HPL21.out).mono ?_
              rintro e w22 ⟨rfl, hb22⟩
              have HB22 := Lib.hid (HB21.out.trans (hb22.mono HB21.out.size))
              have HPL22 := Lib.hid (HPL21.out.below hb22)
              clear hb22 HB21 HPL21
              go_wp2_with fail
              refine (HC3.out _ HPL22.out).mono ?_
              rintro e w23 ⟨rfl, hb23⟩
              have HB23 := Lib.hid (HB22.out.trans (hb23.mono HB22.out.size))
              have HPL23 := Lib.hid (HPL22.out.below hb23)
              clear hb23 HB22 HPL22
              go_wp2_with fail
              go_ret
              exact ⟨rfl, HB23.out⟩
            | false =>
              simp only [Bool.false_or] at HC2
              have HB20 := HB9
              have HPL20 := HPL
              clear HB9 HPL
              go_wp2_with fail
              refine (HC1.out _ HPL20.out).mono ?_
              rintro e w21 ⟨rfl, hb21⟩
              have HB21 := Lib.hid (HB20.out.trans (hb21.mono HB20.out.size))
              have HPL21 := Lib.hid (HPL20.out.below hb21)
              clear hb21 HB20 HPL20
              go_wp2_with fail
              refine (HC2.out _ HPL21.out).mono ?_
              rintro e w22 ⟨rfl, hb22⟩
              have HB22 := Lib.hid (HB21.out.trans (hb22.mono HB21.out.size))
              have HPL22 := Lib.hid (HPL21.out.below hb22)
              clear hb22 HB21 HPL21
              go_wp2_with fail
              refine (HUN.out _).mono ?_
              rintro e w24 ⟨rfl, hb24⟩
              have HB24 := Lib.hid (HB22.out.trans (hb24.mono HB22.out.size))
              have HPL24 := Lib.hid (HPL22.out.below hb24)
              clear hb24 HB22 HPL22
              go_wp2_with fail
              refine (HC3.out _ HPL24.out).mono ?_
              rintro e w25 ⟨rfl, hb25⟩
              have HB25 := Lib.hid (HB24.out.trans (hb25.mono HB24.out.size))
              have HPL25 := Lib.hid (HPL24.out.below hb25)
              clear hb25 HB24 HPL24
              go_wp2_with fail
              go_ret
              exact ⟨rfl, HB25.out⟩
end Go.Proofs.YtlddnghfjdjglaaDoor
