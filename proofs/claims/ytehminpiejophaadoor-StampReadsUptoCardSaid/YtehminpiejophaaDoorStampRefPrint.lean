/- towlineref01.Print. -/
import Derived.Test.YtehminpiejophaaDoorStampRefDec
set_option linter.unusedVariables false
set_option linter.unusedSimpArgs false
namespace Go.Proofs.YtehminpiejophaaDoor
open Go.RowKit

theorem str_five (a b c : List UInt8) : Ending.returned (.string (((⟨a.toArray⟩ ++ ⟨b.toArray⟩) ++ ⟨#[112, 45]⟩) ++ ⟨c.toArray⟩ : ByteArray)) = .returned (.string ⟨(a ++ (b ++ 112 :: 45 :: c)).toArray⟩) := by
  congr 2
  apply ByteArray.ext
  simp
theorem str_two (a b : List UInt8) : Ending.returned (.string ((⟨a.toArray⟩ ++ ⟨b.toArray⟩) : ByteArray)) = .returned (.string ⟨(a ++ b).toArray⟩) := by
  congr 2
  first | done | (apply ByteArray.ext; simp)
theorem itoa_neg {Z : Int} {P : Nat} (h : Z < 0) (hp : -Z = (P : Int)) : Lib.itoa Z = 45 :: Lib.decDigits P := by
  unfold Lib.itoa
  rw [if_pos h, show Z.natAbs = P by omega]
theorem itoa_pos (P : Nat) : Lib.itoa (P : Int) = Lib.decDigits P := by
  unfold Lib.itoa
  rw [if_neg (by omega), Int.toNat_natCast]

set_option maxRecDepth 100000 in
theorem refPrint_nan (b : Nat) (w : World) (hb : b < 2 ^ 64) (hn : isNan b = true) : Calls Tryd.prog 20 #[.float .f64 b] w fun e w' => e = .returned (.string ⟨(printL b).toArray⟩) ∧ Below w.heap.size w w' := by
  have HR := Lib.hid (show printL b = [110, 97, 110] by unfold printL; rw [if_pos hn])
  have hn' : (FloatKind.f64.format.order b b != some .eq) = true := hn
  have HB := Lib.hid (fun w => refBits_any b w)
  generalize canonB b = c at *
  clear hn
  go_enter Tryd.func20, Tryd.ntmps20
  go_wp2_with fail
  refine (HB.out _).mono ?_
  rintro e w1 ⟨rfl, h1⟩
  go_wp2_with fail
  go_ret
  rw [HR.out]
  exact ⟨rfl, h1⟩


set_option maxRecDepth 100000 in
set_option maxHeartbeats 4000000 in
theorem refPrint_num (b : Nat) (w : World) (hb : b < 2 ^ 64) (hn : isNan b = false) (hr : rungB b ≤ infR) : Calls Tryd.prog 20 #[.float .f64 b] w fun e w' => e = .returned (.string ⟨(printL b).toArray⟩) ∧ Below w.heap.size w w' := by
  have hn' : (FloatKind.f64.format.order b b != some .eq) = false := hn
  have HB := Lib.hid (fun w => refBits_any b w)
  rw [canon_of hn] at HB
  have hi := inf_lt
  have hbb : b < 18446744073709551616 := hb
  have HR := Lib.hid (show printL b = signL b ++ bodyL (rungB b) by unfold printL; rw [if_neg (by rw [hn]; decide)])
  obtain ⟨r, hrr⟩ : ∃ r, r = rungB b := ⟨_, rfl⟩
  rw [← hrr] at HR hr
  have hm0 : r % 4503599627370496 < 4503599627370496 := Nat.mod_lt _ (by decide)
  have hEl : r / 4503599627370496 ≤ 2047 := by unfold infR at hr; omega
  have HBD := Lib.hid (show bodyL r = if r = infR then [105, 110, 102] else finL r from rfl)
  have HF := Lib.hid (show finL r = if manB r = 0 then [48] else Lib.decDigits (strip 64 (manB r)).1 ++ 112 :: Lib.itoa ((expB r : Int) - 1075 + ((strip 64 (manB r)).2 : Int)) from rfl)
  have HX := Lib.hid (show expB r = if r / 4503599627370496 = 0 then 1 else r / 4503599627370496 from rfl)
  have HY := Lib.hid (show manB r = if r / 4503599627370496 = 0 then r % 4503599627370496 else 4503599627370496 + r % 4503599627370496 from rfl)
  have hinf : r = infR ↔ r / 4503599627370496 = 2047 := by unfold infR at *; omega
  generalize bodyL r = BD at *
  generalize finL r = F at *
  generalize expB r = X at *
  generalize manB r = Y at *
  have hqE : (r : Int) / 4503599627370496 = ((r / 4503599627370496 : Nat) : Int) := by omega
  have hqM : (r : Int) % 4503599627370496 = ((r % 4503599627370496 : Nat) : Int) := by omega
  generalize r / 4503599627370496 = E at *
  generalize r % 4503599627370496 = m0 at *
  by_cases hs : 9223372036854775808 ≤ b
  · have HS := Lib.hid (show signL b = [45] by unfold signL; rw [if_pos hs])
    have hsI : (9223372036854775808 : Int) ≤ (b : Int) := by omega
    have hbr : (b : Int) - 9223372036854775808 = (r : Int) := by unfold rungB at hrr; omega
    clear hb hbb hs hrr hn
    by_cases hif : E = 2047
    · have HB0 := Lib.hid (show BD = [105, 110, 102] by rw [HBD.out, if_pos (hinf.2 hif)])
      have hE7 : (E : Int) = 2047 := by omega
      clear hinf HBD HF HX HY hr hi hif
      go_enter Tryd.func20, Tryd.ntmps20
      go_wp2_with fail
      refine (HB.out _).mono ?_
      rintro e w1 ⟨rfl, h1⟩
      have HB1 := Lib.hid h1
      clear h1
      go_wp2_with fail
      go_ret
      rw [HR.out, HB0.out, HS.out]
      exact ⟨str_two [45] [105, 110, 102], HB1.out⟩
    · have HBF := Lib.hid (show BD = F by rw [HBD.out, if_neg (fun h => hif (hinf.1 h))])
      have hEI7 : ¬ (E : Int) = 2047 := by omega
      clear hinf HBD
      by_cases hE0 : E = 0
      · have HX1 := Lib.hid (show X = 1 by rw [HX.out, if_pos hE0])
        have HY1 := Lib.hid (show Y = m0 by rw [HY.out, if_pos hE0])
        have hX := HX1.out
        clear HX HY
        subst hE0
        by_cases hmz : m0 = 0
        · have HF0 := Lib.hid (show F = [48] by rw [HF.out, if_pos (by rw [HY1.out]; exact hmz)])
          have hmI : (m0 : Int) = 0 := by omega
          clear HF HX1 HY1 hX hm0
          go_enter Tryd.func20, Tryd.ntmps20
          go_wp2_with fail
          refine (HB.out _).mono ?_
          rintro e w1 ⟨rfl, h1⟩
          have HB1 := Lib.hid h1
          clear h1
          go_wp2_with fail
          go_ret
          rw [HR.out, HBF.out, HF0.out, HS.out]
          exact ⟨str_two [45] [48], HB1.out⟩
        · have hmI : ¬ (m0 : Int) = 0 := by omega
          obtain ⟨ms, hms⟩ : ∃ ms, ms = m0 := ⟨_, rfl⟩
          have hms0 : 0 < ms := by omega
          have hms1 : ms < 9007199254740992 := by omega
          have HYs := Lib.hid (show Y = ms by rw [HY1.out, hms])
          obtain rfl := hms
          have hms : True := trivial
          obtain ⟨M, hMM⟩ : ∃ M, M = (strip 64 ms).1 := ⟨_, rfl⟩
          obtain ⟨K, hKK⟩ : ∃ K, K = (strip 64 ms).2 := ⟨_, rfl⟩
          have hK : K ≤ 64 := by rw [hKK]; exact strip_le 64 ms
          obtain ⟨Z, hZ⟩ : ∃ Z : Int, Z = (X : Int) - 1075 + (K : Int) := ⟨_, rfl⟩
          have hZ1 : -1074 ≤ Z := by omega
          have hZ2 : Z ≤ 2100 := by omega
          have HST := Lib.hid (show strip 64 ms = (M, K) by rw [hMM, hKK])
          have HFN := Lib.hid (show F = Lib.decDigits M ++ 112 :: Lib.itoa Z by rw [HF.out, if_neg (by rw [HYs.out]; omega), HYs.out, ← hMM, ← hKK, hZ])
          have HZS := Lib.hid (show Z - (K : Int) = (-1074 : Int) by rw [hZ, HX1.out]; omega)
          clear HF HYs hZ hMM hKK hms HX1
          go_enter Tryd.func20, Tryd.ntmps20
          go_wp2_with fail
          refine (HB.out _).mono ?_
          rintro e w1 ⟨rfl, h1⟩
          have HB1 := Lib.hid h1
          clear h1
          go_wp2_with fail
          go_loopw [6, 7] (fun s6 s7 wr => ∃ f m k : Nat, 0 < m ∧ m < 9007199254740992 ∧ f ≤ 64 ∧ k ≤ f ∧ s6 = .int .u64 (m : Int) ∧ s7 = .int .i64 (Z - (k : Int)) ∧ Hid (m < 2 ^ f ∧ strip f m = (M, k)) ∧ wr = w1) (fun s6 s7 wr => (intOf s6).toNat)
          case atStart => exact ⟨64, ms, K, hms0, hms1, by omega, hK, by go_num, by first | (rw [HZS.out]; done) | (rw [HZS.out]; rfl) | (rw [HZS.out]; go_num), Lib.hid ⟨by omega, HST.out⟩, by first | trivial | rfl⟩
          case round =>
            obtain ⟨f, m, k, hm1, hm2, hf64, hkf, rfl, rfl, HIN, rfl⟩ := hrel
            clear HZS
            by_cases hpar : m % 2 = 0
            · have hpI : (m : Int) % 2 = 0 := by omega
              obtain ⟨f', rfl⟩ : ∃ f', f = f' + 1 := ⟨f - 1, by
                have := HIN.out.1
                cases f with
                | zero => simp at this; omega
                | succ f => omega⟩
              obtain ⟨h1, h2⟩ := HIN.out
              rw [strip_even hpar hm1 h1] at h2
              obtain ⟨m', hm'⟩ : ∃ m', m' = m / 2 := ⟨_, rfl⟩
              rw [← hm'] at h2
              obtain ⟨k', hk'⟩ : ∃ k', k' = (strip f' m').2 := ⟨_, rfl⟩
              have hkk : k = k' + 1 := by rw [hk']; exact (Prod.mk.inj h2).2.symm
              have H2 := Lib.hid (show m' < 2 ^ f' ∧ strip f' m' = (M, k') by
                refine ⟨by rw [Nat.pow_succ] at h1; omega, ?_⟩
                rw [hk']
                exact Prod.ext (Prod.mk.inj h2).1 rfl)
              have hdI : (m : Int) / 2 = (m' : Int) := by omega
              have hm'0 : 0 < m' := by omega
              have hm'1 : m' < 9007199254740992 := by omega
              have hlt : m' < m := by omega
              have hkf' : k' ≤ f' := by omega
              have hei : Z - (k : Int) + 1 = Z - (k' : Int) := by omega
              have hmn : ((m' : Int)).toNat = m' := by omega
              clear h1 h2 HIN hk' hm' hkk hpar
              go_wp2_with fail
              go_roundw
              case rel => exact ⟨f', m', k', hm'0, hm'1, by omega, hkf', rfl, by first | rfl | rw [hei], H2, by first | trivial | rfl⟩
              case measure => simp [intOf]; omega
            · have hpI : (m : Int) % 2 = 1 := by omega
              have hst := HIN.out.2
              rw [strip_odd f m (by omega)] at hst
              obtain rfl : m = M := congrArg Prod.fst hst
              obtain rfl : (0 : Nat) = k := congrArg Prod.snd hst
              have hZ0 : Z - ((0 : Nat) : Int) = Z := by omega
              have HFM := Lib.hid (fun w => refDec_any m w (by omega))
              obtain ⟨D, hD⟩ : ∃ D : ByteArray, D = strL (Lib.decDigits m) := ⟨_, rfl⟩
              have hDs : D.size ≤ 20 := by rw [hD]; exact dec_size (by omega)
              rw [← hD] at HFM
              have HD := Lib.hid hD
              clear hD
              by_cases hz : Z < 0
              · obtain ⟨P, hP⟩ : ∃ P : Nat, -Z = (P : Int) := ⟨Z.natAbs, by omega⟩
                have HPI := Lib.hid (itoa_neg hz hP)
                have HFI := Lib.hid (fun w => refDec_any P w (by omega))
                obtain ⟨I, hI⟩ : ∃ I : ByteArray, I = strL (Lib.decDigits P) := ⟨_, rfl⟩
                have hIs : I.size ≤ 20 := by rw [hI]; exact dec_size (by omega)
                rw [← hI] at HFI
                have HI := Lib.hid hI
                have hP2 : P ≤ 1074 := by omega
                clear hI hst HIN hpar
                go_wp2_with fail
                refine (HFM.out _).mono ?_
                rintro e w3 ⟨rfl, hb3⟩
                have HB3 := Lib.hid (HB1.out.trans (hb3.mono HB1.out.size))
                clear hb3
                go_wp2_with fail
                refine (HFI.out _).mono ?_
                rintro e w4 ⟨rfl, hb4⟩
                have HB4 := Lib.hid (HB3.out.trans (hb4.mono HB3.out.size))
                clear hb4
                go_wp2_with fail
                go_ret
                rw [HR.out, HBF.out, HFN.out, HS.out, HPI.out]
                exact ⟨by rw [HD.out, HI.out]; exact str_five [45] _ _, HB4.out⟩
              · obtain ⟨P, rfl⟩ : ∃ P : Nat, Z = (P : Int) := ⟨Z.toNat, by omega⟩
                have hz2 : ¬ (P : Int) < 0 := hz
                have HPI := Lib.hid (itoa_pos P)
                have HFI := Lib.hid (fun w => refDec_any P w (by omega))
                obtain ⟨I, hI⟩ : ∃ I : ByteArray, I = strL (Lib.decDigits P) := ⟨_, rfl⟩
                have hIs : I.size ≤ 20 := by rw [hI]; exact dec_size (by omega)
                rw [← hI] at HFI
                have HI := Lib.hid hI
                have hP2 : P ≤ 2100 := by omega
                have hZ0 : (P : Int) - ((0 : Nat) : Int) = (P : Int) := by omega
                clear hI hst HIN hpar
                go_wp2_with fail
                refine (HFM.out _).mono ?_
                rintro e w3 ⟨rfl, hb3⟩
                have HB3 := Lib.hid (HB1.out.trans (hb3.mono HB1.out.size))
                clear hb3
                go_wp2_with fail
                refine (HFI.out _).mono ?_
                rintro e w4 ⟨rfl, hb4⟩
                have HB4 := Lib.hid (HB3.out.trans (hb4.mono HB3.out.size))
                clear hb4
                go_wp2_with fail
                go_ret
                rw [HR.out, HBF.out, HFN.out, HS.out, HPI.out]
                exact ⟨by rw [HD.out, HI.out]; exact str_four [45] _ _, HB4.out⟩
      · have HX1 := Lib.hid (show X = E by rw [HX.out, if_neg hE0])
        have HY1 := Lib.hid (show Y = 4503599627370496 + m0 by rw [HY.out, if_neg hE0])
        have hX := HX1.out
        clear HX HY
        have hEI : (0 : Int) < (E : Int) := by omega
        obtain ⟨ms, hms⟩ : ∃ ms, ms = 4503599627370496 + m0 := ⟨_, rfl⟩
        have hmsI : (m0 : Int) + 4503599627370496 = (ms : Int) := by omega
        have hmI : ¬ (ms : Int) = 0 := by omega
        have hms0 : 0 < ms := by omega
        have hms1 : ms < 9007199254740992 := by omega
        have HYs := Lib.hid (show Y = ms by rw [HY1.out, hms])
        obtain ⟨M, hMM⟩ : ∃ M, M = (strip 64 ms).1 := ⟨_, rfl⟩
        obtain ⟨K, hKK⟩ : ∃ K, K = (strip 64 ms).2 := ⟨_, rfl⟩
        have hK : K ≤ 64 := by rw [hKK]; exact strip_le 64 ms
        obtain ⟨Z, hZ⟩ : ∃ Z : Int, Z = (X : Int) - 1075 + (K : Int) := ⟨_, rfl⟩
        have hZ1 : -1074 ≤ Z := by omega
        have hZ2 : Z ≤ 2100 := by omega
        have HST := Lib.hid (show strip 64 ms = (M, K) by rw [hMM, hKK])
        have HFN := Lib.hid (show F = Lib.decDigits M ++ 112 :: Lib.itoa Z by rw [HF.out, if_neg (by rw [HYs.out]; omega), HYs.out, ← hMM, ← hKK, hZ])
        have HZS := Lib.hid (show Z - (K : Int) = (E : Int) - 1 - 1074 by rw [hZ, HX1.out]; omega)
        clear HF HYs hZ hMM hKK hms HX1
        go_enter Tryd.func20, Tryd.ntmps20
        go_wp2_with fail
        refine (HB.out _).mono ?_
        rintro e w1 ⟨rfl, h1⟩
        have HB1 := Lib.hid h1
        clear h1
        go_wp2_with fail
        go_loopw [6, 7] (fun s6 s7 wr => ∃ f m k : Nat, 0 < m ∧ m < 9007199254740992 ∧ f ≤ 64 ∧ k ≤ f ∧ s6 = .int .u64 (m : Int) ∧ s7 = .int .i64 (Z - (k : Int)) ∧ Hid (m < 2 ^ f ∧ strip f m = (M, k)) ∧ wr = w1) (fun s6 s7 wr => (intOf s6).toNat)
        case atStart => exact ⟨64, ms, K, hms0, hms1, by omega, hK, by go_num, by first | (rw [HZS.out]; done) | (rw [HZS.out]; rfl) | (rw [HZS.out]; go_num), Lib.hid ⟨by omega, HST.out⟩, by first | trivial | rfl⟩
        case round =>
          obtain ⟨f, m, k, hm1, hm2, hf64, hkf, rfl, rfl, HIN, rfl⟩ := hrel
          clear HZS
          by_cases hpar : m % 2 = 0
          · have hpI : (m : Int) % 2 = 0 := by omega
            obtain ⟨f', rfl⟩ : ∃ f', f = f' + 1 := ⟨f - 1, by
              have := HIN.out.1
              cases f with
              | zero => simp at this; omega
              | succ f => omega⟩
            obtain ⟨h1, h2⟩ := HIN.out
            rw [strip_even hpar hm1 h1] at h2
            obtain ⟨m', hm'⟩ : ∃ m', m' = m / 2 := ⟨_, rfl⟩
            rw [← hm'] at h2
            obtain ⟨k', hk'⟩ : ∃ k', k' = (strip f' m').2 := ⟨_, rfl⟩
            have hkk : k = k' + 1 := by rw [hk']; exact (Prod.mk.inj h2).2.symm
            have H2 := Lib.hid (show m' < 2 ^ f' ∧ strip f' m' = (M, k') by
              refine ⟨by rw [Nat.pow_succ] at h1; omega, ?_⟩
              rw [hk']
              exact Prod.ext (Prod.mk.inj h2).1 rfl)
            have hdI : (m : Int) / 2 = (m' : Int) := by omega
            have hm'0 : 0 < m' := by omega
            have hm'1 : m' < 9007199254740992 := by omega
            have hlt : m' < m := by omega
            have hkf' : k' ≤ f' := by omega
            have hei : Z - (k : Int) + 1 = Z - (k' : Int) := by omega
            have hmn : ((m' : Int)).toNat = m' := by omega
            clear h1 h2 HIN hk' hm' hkk hpar
            go_wp2_with fail
            go_roundw
            case rel => exact ⟨f', m', k', hm'0, hm'1, by omega, hkf', rfl, by first | rfl | rw [hei], H2, by first | trivial | rfl⟩
            case measure => simp [intOf]; omega
          · have hpI : (m : Int) % 2 = 1 := by omega
            have hst := HIN.out.2
            rw [strip_odd f m (by omega)] at hst
            obtain rfl : m = M := congrArg Prod.fst hst
            obtain rfl : (0 : Nat) = k := congrArg Prod.snd hst
            have hZ0 : Z - ((0 : Nat) : Int) = Z := by omega
            have HFM := Lib.hid (fun w => refDec_any m w (by omega))
            obtain ⟨D, hD⟩ : ∃ D : ByteArray, D = strL (Lib.decDigits m) := ⟨_, rfl⟩
            have hDs : D.size ≤ 20 := by rw [hD]; exact dec_size (by omega)
            rw [← hD] at HFM
            have HD := Lib.hid hD
            clear hD
            by_cases hz : Z < 0
            · obtain ⟨P, hP⟩ : ∃ P : Nat, -Z = (P : Int) := ⟨Z.natAbs, by omega⟩
              have HPI := Lib.hid (itoa_neg hz hP)
              have HFI := Lib.hid (fun w => refDec_any P w (by omega))
              obtain ⟨I, hI⟩ : ∃ I : ByteArray, I = strL (Lib.decDigits P) := ⟨_, rfl⟩
              have hIs : I.size ≤ 20 := by rw [hI]; exact dec_size (by omega)
              rw [← hI] at HFI
              have HI := Lib.hid hI
              have hP2 : P ≤ 1074 := by omega
              clear hI hst HIN hpar
              go_wp2_with fail
              refine (HFM.out _).mono ?_
              rintro e w3 ⟨rfl, hb3⟩
              have HB3 := Lib.hid (HB1.out.trans (hb3.mono HB1.out.size))
              clear hb3
              go_wp2_with fail
              refine (HFI.out _).mono ?_
              rintro e w4 ⟨rfl, hb4⟩
              have HB4 := Lib.hid (HB3.out.trans (hb4.mono HB3.out.size))
              clear hb4
              go_wp2_with fail
              go_ret
              rw [HR.out, HBF.out, HFN.out, HS.out, HPI.out]
              exact ⟨by rw [HD.out, HI.out]; exact str_five [45] _ _, HB4.out⟩
            · obtain ⟨P, rfl⟩ : ∃ P : Nat, Z = (P : Int) := ⟨Z.toNat, by omega⟩
              have hz2 : ¬ (P : Int) < 0 := hz
              have HPI := Lib.hid (itoa_pos P)
              have HFI := Lib.hid (fun w => refDec_any P w (by omega))
              obtain ⟨I, hI⟩ : ∃ I : ByteArray, I = strL (Lib.decDigits P) := ⟨_, rfl⟩
              have hIs : I.size ≤ 20 := by rw [hI]; exact dec_size (by omega)
              rw [← hI] at HFI
              have HI := Lib.hid hI
              have hP2 : P ≤ 2100 := by omega
              have hZ0 : (P : Int) - ((0 : Nat) : Int) = (P : Int) := by omega
              clear hI hst HIN hpar
              go_wp2_with fail
              refine (HFM.out _).mono ?_
              rintro e w3 ⟨rfl, hb3⟩
              have HB3 := Lib.hid (HB1.out.trans (hb3.mono HB1.out.size))
              clear hb3
              go_wp2_with fail
              refine (HFI.out _).mono ?_
              rintro e w4 ⟨rfl, hb4⟩
              have HB4 := Lib.hid (HB3.out.trans (hb4.mono HB3.out.size))
              clear hb4
              go_wp2_with fail
              go_ret
              rw [HR.out, HBF.out, HFN.out, HS.out, HPI.out]
              exact ⟨by rw [HD.out, HI.out]; exact str_four [45] _ _, HB4.out⟩
  · have HS := Lib.hid (show signL b = [] by unfold signL; rw [if_neg hs])
    have hbr : b = r := by unfold rungB at hrr; omega
    subst hbr
    have hsI : decide ((9223372036854775808 : Int) ≤ (b : Int)) = false := by simp; omega
    clear hb hbb hs hrr hn
    by_cases hif : E = 2047
    · have HB0 := Lib.hid (show BD = [105, 110, 102] by rw [HBD.out, if_pos (hinf.2 hif)])
      have hE7 : (E : Int) = 2047 := by omega
      clear hinf HBD HF HX HY hr hi hif
      go_enter Tryd.func20, Tryd.ntmps20
      go_wp2_with fail
      refine (HB.out _).mono ?_
      rintro e w1 ⟨rfl, h1⟩
      have HB1 := Lib.hid h1
      clear h1
      go_wp2_with fail
      go_ret
      rw [HR.out, HB0.out, HS.out]
      exact ⟨str_two [] [105, 110, 102], HB1.out⟩
    · have HBF := Lib.hid (show BD = F by rw [HBD.out, if_neg (fun h => hif (hinf.1 h))])
      have hEI7 : ¬ (E : Int) = 2047 := by omega
      clear hinf HBD
      by_cases hE0 : E = 0
      · have HX1 := Lib.hid (show X = 1 by rw [HX.out, if_pos hE0])
        have HY1 := Lib.hid (show Y = m0 by rw [HY.out, if_pos hE0])
        have hX := HX1.out
        clear HX HY
        subst hE0
        by_cases hmz : m0 = 0
        · have HF0 := Lib.hid (show F = [48] by rw [HF.out, if_pos (by rw [HY1.out]; exact hmz)])
          have hmI : (m0 : Int) = 0 := by omega
          clear HF HX1 HY1 hX hm0
          go_enter Tryd.func20, Tryd.ntmps20
          go_wp2_with fail
          refine (HB.out _).mono ?_
          rintro e w1 ⟨rfl, h1⟩
          have HB1 := Lib.hid h1
          clear h1
          go_wp2_with fail
          go_ret
          rw [HR.out, HBF.out, HF0.out, HS.out]
          exact ⟨str_two [] [48], HB1.out⟩
        · have hmI : ¬ (m0 : Int) = 0 := by omega
          obtain ⟨ms, hms⟩ : ∃ ms, ms = m0 := ⟨_, rfl⟩
          have hms0 : 0 < ms := by omega
          have hms1 : ms < 9007199254740992 := by omega
          have HYs := Lib.hid (show Y = ms by rw [HY1.out, hms])
          obtain rfl := hms
          have hms : True := trivial
          obtain ⟨M, hMM⟩ : ∃ M, M = (strip 64 ms).1 := ⟨_, rfl⟩
          obtain ⟨K, hKK⟩ : ∃ K, K = (strip 64 ms).2 := ⟨_, rfl⟩
          have hK : K ≤ 64 := by rw [hKK]; exact strip_le 64 ms
          obtain ⟨Z, hZ⟩ : ∃ Z : Int, Z = (X : Int) - 1075 + (K : Int) := ⟨_, rfl⟩
          have hZ1 : -1074 ≤ Z := by omega
          have hZ2 : Z ≤ 2100 := by omega
          have HST := Lib.hid (show strip 64 ms = (M, K) by rw [hMM, hKK])
          have HFN := Lib.hid (show F = Lib.decDigits M ++ 112 :: Lib.itoa Z by rw [HF.out, if_neg (by rw [HYs.out]; omega), HYs.out, ← hMM, ← hKK, hZ])
          have HZS := Lib.hid (show Z - (K : Int) = (-1074 : Int) by rw [hZ, HX1.out]; omega)
          clear HF HYs hZ hMM hKK hms HX1
          go_enter Tryd.func20, Tryd.ntmps20
          go_wp2_with fail
          refine (HB.out _).mono ?_
          rintro e w1 ⟨rfl, h1⟩
          have HB1 := Lib.hid h1
          clear h1
          go_wp2_with fail
          go_loopw [6, 7] (fun s6 s7 wr => ∃ f m k : Nat, 0 < m ∧ m < 9007199254740992 ∧ f ≤ 64 ∧ k ≤ f ∧ s6 = .int .u64 (m : Int) ∧ s7 = .int .i64 (Z - (k : Int)) ∧ Hid (m < 2 ^ f ∧ strip f m = (M, k)) ∧ wr = w1) (fun s6 s7 wr => (intOf s6).toNat)
          case atStart => exact ⟨64, ms, K, hms0, hms1, by omega, hK, by go_num, by first | (rw [HZS.out]; done) | (rw [HZS.out]; rfl) | (rw [HZS.out]; go_num), Lib.hid ⟨by omega, HST.out⟩, by first | trivial | rfl⟩
          case round =>
            obtain ⟨f, m, k, hm1, hm2, hf64, hkf, rfl, rfl, HIN, rfl⟩ := hrel
            clear HZS
            by_cases hpar : m % 2 = 0
            · have hpI : (m : Int) % 2 = 0 := by omega
              obtain ⟨f', rfl⟩ : ∃ f', f = f' + 1 := ⟨f - 1, by
                have := HIN.out.1
                cases f with
                | zero => simp at this; omega
                | succ f => omega⟩
              obtain ⟨h1, h2⟩ := HIN.out
              rw [strip_even hpar hm1 h1] at h2
              obtain ⟨m', hm'⟩ : ∃ m', m' = m / 2 := ⟨_, rfl⟩
              rw [← hm'] at h2
              obtain ⟨k', hk'⟩ : ∃ k', k' = (strip f' m').2 := ⟨_, rfl⟩
              have hkk : k = k' + 1 := by rw [hk']; exact (Prod.mk.inj h2).2.symm
              have H2 := Lib.hid (show m' < 2 ^ f' ∧ strip f' m' = (M, k') by
                refine ⟨by rw [Nat.pow_succ] at h1; omega, ?_⟩
                rw [hk']
                exact Prod.ext (Prod.mk.inj h2).1 rfl)
              have hdI : (m : Int) / 2 = (m' : Int) := by omega
              have hm'0 : 0 < m' := by omega
              have hm'1 : m' < 9007199254740992 := by omega
              have hlt : m' < m := by omega
              have hkf' : k' ≤ f' := by omega
              have hei : Z - (k : Int) + 1 = Z - (k' : Int) := by omega
              have hmn : ((m' : Int)).toNat = m' := by omega
              clear h1 h2 HIN hk' hm' hkk hpar
              go_wp2_with fail
              go_roundw
              case rel => exact ⟨f', m', k', hm'0, hm'1, by omega, hkf', rfl, by first | rfl | rw [hei], H2, by first | trivial | rfl⟩
              case measure => simp [intOf]; omega
            · have hpI : (m : Int) % 2 = 1 := by omega
              have hst := HIN.out.2
              rw [strip_odd f m (by omega)] at hst
              obtain rfl : m = M := congrArg Prod.fst hst
              obtain rfl : (0 : Nat) = k := congrArg Prod.snd hst
              have hZ0 : Z - ((0 : Nat) : Int) = Z := by omega
              have HFM := Lib.hid (fun w => refDec_any m w (by omega))
              obtain ⟨D, hD⟩ : ∃ D : ByteArray, D = strL (Lib.decDigits m) := ⟨_, rfl⟩
              have hDs : D.size ≤ 20 := by rw [hD]; exact dec_size (by omega)
              rw [← hD] at HFM
              have HD := Lib.hid hD
              clear hD
              by_cases hz : Z < 0
              · obtain ⟨P, hP⟩ : ∃ P : Nat, -Z = (P : Int) := ⟨Z.natAbs, by omega⟩
                have HPI := Lib.hid (itoa_neg hz hP)
                have HFI := Lib.hid (fun w => refDec_any P w (by omega))
                obtain ⟨I, hI⟩ : ∃ I : ByteArray, I = strL (Lib.decDigits P) := ⟨_, rfl⟩
                have hIs : I.size ≤ 20 := by rw [hI]; exact dec_size (by omega)
                rw [← hI] at HFI
                have HI := Lib.hid hI
                have hP2 : P ≤ 1074 := by omega
                clear hI hst HIN hpar
                go_wp2_with fail
                refine (HFM.out _).mono ?_
                rintro e w3 ⟨rfl, hb3⟩
                have HB3 := Lib.hid (HB1.out.trans (hb3.mono HB1.out.size))
                clear hb3
                go_wp2_with fail
                refine (HFI.out _).mono ?_
                rintro e w4 ⟨rfl, hb4⟩
                have HB4 := Lib.hid (HB3.out.trans (hb4.mono HB3.out.size))
                clear hb4
                go_wp2_with fail
                go_ret
                rw [HR.out, HBF.out, HFN.out, HS.out, HPI.out]
                exact ⟨by rw [HD.out, HI.out]; exact str_five [] _ _, HB4.out⟩
              · obtain ⟨P, rfl⟩ : ∃ P : Nat, Z = (P : Int) := ⟨Z.toNat, by omega⟩
                have hz2 : ¬ (P : Int) < 0 := hz
                have HPI := Lib.hid (itoa_pos P)
                have HFI := Lib.hid (fun w => refDec_any P w (by omega))
                obtain ⟨I, hI⟩ : ∃ I : ByteArray, I = strL (Lib.decDigits P) := ⟨_, rfl⟩
                have hIs : I.size ≤ 20 := by rw [hI]; exact dec_size (by omega)
                rw [← hI] at HFI
                have HI := Lib.hid hI
                have hP2 : P ≤ 2100 := by omega
                have hZ0 : (P : Int) - ((0 : Nat) : Int) = (P : Int) := by omega
                clear hI hst HIN hpar
                go_wp2_with fail
                refine (HFM.out _).mono ?_
                rintro e w3 ⟨rfl, hb3⟩
                have HB3 := Lib.hid (HB1.out.trans (hb3.mono HB1.out.size))
                clear hb3
                go_wp2_with fail
                refine (HFI.out _).mono ?_
                rintro e w4 ⟨rfl, hb4⟩
                have HB4 := Lib.hid (HB3.out.trans (hb4.mono HB3.out.size))
                clear hb4
                go_wp2_with fail
                go_ret
                rw [HR.out, HBF.out, HFN.out, HS.out, HPI.out]
                exact ⟨by rw [HD.out, HI.out]; exact str_four [] _ _, HB4.out⟩
      · have HX1 := Lib.hid (show X = E by rw [HX.out, if_neg hE0])
        have HY1 := Lib.hid (show Y = 4503599627370496 + m0 by rw [HY.out, if_neg hE0])
        have hX := HX1.out
        clear HX HY
        have hEI : (0 : Int) < (E : Int) := by omega
        obtain ⟨ms, hms⟩ : ∃ ms, ms = 4503599627370496 + m0 := ⟨_, rfl⟩
        have hmsI : (m0 : Int) + 4503599627370496 = (ms : Int) := by omega
        have hmI : ¬ (ms : Int) = 0 := by omega
        have hms0 : 0 < ms := by omega
        have hms1 : ms < 9007199254740992 := by omega
        have HYs := Lib.hid (show Y = ms by rw [HY1.out, hms])
        obtain ⟨M, hMM⟩ : ∃ M, M = (strip 64 ms).1 := ⟨_, rfl⟩
        obtain ⟨K, hKK⟩ : ∃ K, K = (strip 64 ms).2 := ⟨_, rfl⟩
        have hK : K ≤ 64 := by rw [hKK]; exact strip_le 64 ms
        obtain ⟨Z, hZ⟩ : ∃ Z : Int, Z = (X : Int) - 1075 + (K : Int) := ⟨_, rfl⟩
        have hZ1 : -1074 ≤ Z := by omega
        have hZ2 : Z ≤ 2100 := by omega
        have HST := Lib.hid (show strip 64 ms = (M, K) by rw [hMM, hKK])
        have HFN := Lib.hid (show F = Lib.decDigits M ++ 112 :: Lib.itoa Z by rw [HF.out, if_neg (by rw [HYs.out]; omega), HYs.out, ← hMM, ← hKK, hZ])
        have HZS := Lib.hid (show Z - (K : Int) = (E : Int) - 1 - 1074 by rw [hZ, HX1.out]; omega)
        clear HF HYs hZ hMM hKK hms HX1
        go_enter Tryd.func20, Tryd.ntmps20
        go_wp2_with fail
        refine (HB.out _).mono ?_
        rintro e w1 ⟨rfl, h1⟩
        have HB1 := Lib.hid h1
        clear h1
        go_wp2_with fail
        go_loopw [6, 7] (fun s6 s7 wr => ∃ f m k : Nat, 0 < m ∧ m < 9007199254740992 ∧ f ≤ 64 ∧ k ≤ f ∧ s6 = .int .u64 (m : Int) ∧ s7 = .int .i64 (Z - (k : Int)) ∧ Hid (m < 2 ^ f ∧ strip f m = (M, k)) ∧ wr = w1) (fun s6 s7 wr => (intOf s6).toNat)
        case atStart => exact ⟨64, ms, K, hms0, hms1, by omega, hK, by go_num, by first | (rw [HZS.out]; done) | (rw [HZS.out]; rfl) | (rw [HZS.out]; go_num), Lib.hid ⟨by omega, HST.out⟩, by first | trivial | rfl⟩
        case round =>
          obtain ⟨f, m, k, hm1, hm2, hf64, hkf, rfl, rfl, HIN, rfl⟩ := hrel
          clear HZS
          by_cases hpar : m % 2 = 0
          · have hpI : (m : Int) % 2 = 0 := by omega
            obtain ⟨f', rfl⟩ : ∃ f', f = f' + 1 := ⟨f - 1, by
              have := HIN.out.1
              cases f with
              | zero => simp at this; omega
              | succ f => omega⟩
            obtain ⟨h1, h2⟩ := HIN.out
            rw [strip_even hpar hm1 h1] at h2
            obtain ⟨m', hm'⟩ : ∃ m', m' = m / 2 := ⟨_, rfl⟩
            rw [← hm'] at h2
            obtain ⟨k', hk'⟩ : ∃ k', k' = (strip f' m').2 := ⟨_, rfl⟩
            have hkk : k = k' + 1 := by rw [hk']; exact (Prod.mk.inj h2).2.symm
            have H2 := Lib.hid (show m' < 2 ^ f' ∧ strip f' m' = (M, k') by
              refine ⟨by rw [Nat.pow_succ] at h1; omega, ?_⟩
              rw [hk']
              exact Prod.ext (Prod.mk.inj h2).1 rfl)
            have hdI : (m : Int) / 2 = (m' : Int) := by omega
            have hm'0 : 0 < m' := by omega
            have hm'1 : m' < 9007199254740992 := by omega
            have hlt : m' < m := by omega
            have hkf' : k' ≤ f' := by omega
            have hei : Z - (k : Int) + 1 = Z - (k' : Int) := by omega
            have hmn : ((m' : Int)).toNat = m' := by omega
            clear h1 h2 HIN hk' hm' hkk hpar
            go_wp2_with fail
            go_roundw
            case rel => exact ⟨f', m', k', hm'0, hm'1, by omega, hkf', rfl, by first | rfl | rw [hei], H2, by first | trivial | rfl⟩
            case measure => simp [intOf]; omega
          · have hpI : (m : Int) % 2 = 1 := by omega
            have hst := HIN.out.2
            rw [strip_odd f m (by omega)] at hst
            obtain rfl : m = M := congrArg Prod.fst hst
            obtain rfl : (0 : Nat) = k := congrArg Prod.snd hst
            have hZ0 : Z - ((0 : Nat) : Int) = Z := by omega
            have HFM := Lib.hid (fun w => refDec_any m w (by omega))
            obtain ⟨D, hD⟩ : ∃ D : ByteArray, D = strL (Lib.decDigits m) := ⟨_, rfl⟩
            have hDs : D.size ≤ 20 := by rw [hD]; exact dec_size (by omega)
            rw [← hD] at HFM
            have HD := Lib.hid hD
            clear hD
            by_cases hz : Z < 0
            · obtain ⟨P, hP⟩ : ∃ P : Nat, -Z = (P : Int) := ⟨Z.natAbs, by omega⟩
              have HPI := Lib.hid (itoa_neg hz hP)
              have HFI := Lib.hid (fun w => refDec_any P w (by omega))
              obtain ⟨I, hI⟩ : ∃ I : ByteArray, I = strL (Lib.decDigits P) := ⟨_, rfl⟩
              have hIs : I.size ≤ 20 := by rw [hI]; exact dec_size (by omega)
              rw [← hI] at HFI
              have HI := Lib.hid hI
              have hP2 : P ≤ 1074 := by omega
              clear hI hst HIN hpar
              go_wp2_with fail
              refine (HFM.out _).mono ?_
              rintro e w3 ⟨rfl, hb3⟩
              have HB3 := Lib.hid (HB1.out.trans (hb3.mono HB1.out.size))
              clear hb3
              go_wp2_with fail
              refine (HFI.out _).mono ?_
              rintro e w4 ⟨rfl, hb4⟩
              have HB4 := Lib.hid (HB3.out.trans (hb4.mono HB3.out.size))
              clear hb4
              go_wp2_with fail
              go_ret
              rw [HR.out, HBF.out, HFN.out, HS.out, HPI.out]
              exact ⟨by rw [HD.out, HI.out]; exact str_five [] _ _, HB4.out⟩
            · obtain ⟨P, rfl⟩ : ∃ P : Nat, Z = (P : Int) := ⟨Z.toNat, by omega⟩
              have hz2 : ¬ (P : Int) < 0 := hz
              have HPI := Lib.hid (itoa_pos P)
              have HFI := Lib.hid (fun w => refDec_any P w (by omega))
              obtain ⟨I, hI⟩ : ∃ I : ByteArray, I = strL (Lib.decDigits P) := ⟨_, rfl⟩
              have hIs : I.size ≤ 20 := by rw [hI]; exact dec_size (by omega)
              rw [← hI] at HFI
              have HI := Lib.hid hI
              have hP2 : P ≤ 2100 := by omega
              have hZ0 : (P : Int) - ((0 : Nat) : Int) = (P : Int) := by omega
              clear hI hst HIN hpar
              go_wp2_with fail
              refine (HFM.out _).mono ?_
              rintro e w3 ⟨rfl, hb3⟩
              have HB3 := Lib.hid (HB1.out.trans (hb3.mono HB1.out.size))
              clear hb3
              go_wp2_with fail
              refine (HFI.out _).mono ?_
              rintro e w4 ⟨rfl, hb4⟩
              have HB4 := Lib.hid (HB3.out.trans (hb4.mono HB3.out.size))
              clear hb4
              go_wp2_with fail
              go_ret
              rw [HR.out, HBF.out, HFN.out, HS.out, HPI.out]
              exact ⟨by rw [HD.out, HI.out]; exact str_four [] _ _, HB4.out⟩

theorem refPrint_any (b : Nat) (w : World) (hb : b < 2 ^ 64) : Calls Tryd.prog 20 #[.float .f64 b] w fun e w' => e = .returned (.string ⟨(printL b).toArray⟩) ∧ Below w.heap.size w w' := by
  cases hn : isNan b with
  | true => exact refPrint_nan b w hb hn
  | false =>
    refine refPrint_num b w hb hn ?_
    rw [nan_iff, decide_eq_false_iff_not] at hn
    omega
end Go.Proofs.YtehminpiejophaaDoor
