/- stamp.Print: the text of a number. -/
import Derived.Test.YtehminpiejophaaDoorStampMath
import Derived.Test.YtehminpiejophaaDoorStampFmt
set_option linter.unusedVariables false
set_option linter.unusedSimpArgs false
namespace Go.Proofs.YtehminpiejophaaDoor
open Go.RowKit

/-- twos taken off -/
def strip : Nat → Nat → Nat × Nat
  | 0, m => (m, 0)
  | f + 1, m => if m % 2 = 0 then ((strip f (m / 2)).1, (strip f (m / 2)).2 + 1) else (m, 0)
theorem strip_odd (f m : Nat) (h : m % 2 = 1) : strip f m = (m, 0) := by
  cases f with
  | zero => rfl
  | succ f => unfold strip; rw [if_neg (by omega)]
theorem strip_even {f m : Nat} (h : m % 2 = 0) (hm : 0 < m) (hf : m < 2 ^ (f + 1)) : strip (f + 1) m = ((strip f (m / 2)).1, (strip f (m / 2)).2 + 1) := by
  show (if m % 2 = 0 then _ else _) = _
  rw [if_pos h]
/-- the exponent's field, or one; the number's digits in two -/
def expB (r : Nat) : Nat := if r / 4503599627370496 = 0 then 1 else r / 4503599627370496
def manB (r : Nat) : Nat := if r / 4503599627370496 = 0 then r % 4503599627370496 else 4503599627370496 + r % 4503599627370496
def finL (r : Nat) : List UInt8 := if manB r = 0 then [48] else Lib.decDigits (strip 64 (manB r)).1 ++ 112 :: Lib.itoa ((expB r : Int) - 1075 + ((strip 64 (manB r)).2 : Int))
def bodyL (r : Nat) : List UInt8 := if r = infR then [105, 110, 102] else finL r
def signL (b : Nat) : List UInt8 := if 9223372036854775808 ≤ b then [45] else []
def printL (b : Nat) : List UInt8 := if isNan b then [110, 97, 110] else signL b ++ bodyL (rungB b)

theorem print_nan (b : Nat) (w : World) (hb : b < 2 ^ 64) (hn : isNan b = true) : Calls Tryd.prog 19 #[.float .f64 b] w fun e w' => e = .returned (.string ⟨(printL b).toArray⟩) ∧ Below w.heap.size w w' := by
  have HR := Lib.hid (show printL b = [110, 97, 110] by unfold printL; rw [if_pos hn])
  have hn' : (FloatKind.f64.format.order b b != some .eq) = true := hn
  clear hn hb
  go_enter Tryd.func19, Tryd.ntmps19
  go_wp2_with fail
  go_ret
  rw [HR.out]
  exact ⟨rfl, Below.refl _ _⟩
theorem print_inf (b : Nat) (w : World) (hb : b < 2 ^ 64) (hn : isNan b = false) (hr : rungB b = infR) : Calls Tryd.prog 19 #[.float .f64 b] w fun e w' => e = .returned (.string ⟨(printL b).toArray⟩) ∧ Below w.heap.size w w' := by
  have HR := Lib.hid (show printL b = signL b ++ [105, 110, 102] by unfold printL bodyL; rw [if_neg (by rw [hn]; decide), if_pos hr])
  have hn' : (FloatKind.f64.format.order b b != some .eq) = false := hn
  have H1 := Lib.hid (fun w => isInf1_any b w hb)
  have H2 := Lib.hid (fun w => isInfM_any b w hb)
  have hi := inf_lt
  rcases sgn_iff hb with ⟨s1, e1⟩ | ⟨s1, e1⟩
  · rw [decide_eq_false (by omega)] at H1
    rw [decide_eq_true (by omega)] at H2
    have HS := Lib.hid (show signL b = [45] by unfold signL; rw [if_pos (by omega)])
    clear hn hb hr e1 s1 hi
    go_enter Tryd.func19, Tryd.ntmps19
    go_wp2_with fail
    refine (H1.out _).mono ?_
    rintro e w2 ⟨rfl, rfl⟩
    go_wp2_with fail
    refine (H2.out _).mono ?_
    rintro e w2 ⟨rfl, rfl⟩
    go_wp2_with fail
    go_ret
    rw [HR.out, HS.out]
    exact ⟨rfl, Below.refl _ _⟩
  · rw [decide_eq_true (by omega)] at H1
    have HS := Lib.hid (show signL b = [] by unfold signL; rw [if_neg (by omega)])
    clear hn hb hr e1 s1 hi
    go_enter Tryd.func19, Tryd.ntmps19
    go_wp2_with fail
    refine (H1.out _).mono ?_
    rintro e w2 ⟨rfl, rfl⟩
    go_wp2_with fail
    go_ret
    rw [HR.out, HS.out]
    exact ⟨rfl, Below.refl _ _⟩

theorem exp_bits {b : Nat} (hb : b < 2 ^ 64) : bits .and .u64 ((b : Int) / 4503599627370496) 2047 = ((rungB b / 4503599627370496 : Nat) : Int) := by
  have hb : b < 18446744073709551616 := hb
  have e : ((b : Int) / 4503599627370496) = ((b / 4503599627370496 : Nat) : Int) := by omega
  rw [e, show (2047 : Int) = ((2047 : Nat) : Int) from rfl, u64_and_nat _ _ (by omega) (by decide), nat_mask11]
  congr 1
  unfold rungB
  omega
theorem man_bits {b : Nat} (hb : b < 2 ^ 64) : bits .and .u64 (b : Int) 4503599627370495 = ((rungB b % 4503599627370496 : Nat) : Int) := by
  have hb : b < 18446744073709551616 := hb
  rw [show (4503599627370495 : Int) = ((4503599627370495 : Nat) : Int) from rfl, u64_and_nat _ _ hb (by decide), show (4503599627370495 : Nat) = 2 ^ 52 - 1 by decide, Nat.and_two_pow_sub_one_eq_mod]
  congr 1
  unfold rungB
  show b % 4503599627370496 = _
  omega
theorem or_one {m : Nat} (hm : m < 4503599627370496) : bits .or .u64 (m : Int) 4503599627370496 = ((4503599627370496 + m : Nat) : Int) := by
  rw [show (4503599627370496 : Int) = ((4503599627370496 : Nat) : Int) from rfl, u64_or_nat _ _ (by omega) (by decide), Nat.or_comm, nat_join 52 _ _ (by decide) hm]

theorem strip_le (f m : Nat) : (strip f m).2 ≤ f := by
  induction f generalizing m with
  | zero => exact Nat.le_refl _
  | succ f ih =>
    unfold strip
    split
    · have := ih (m / 2); omega
    · omega
theorem and_one (m : Nat) (h : m < 18446744073709551616) : bits .and .u64 (m : Int) 1 = ((m % 2 : Nat) : Int) := by
  rw [show (1 : Int) = ((1 : Nat) : Int) from rfl, u64_and_nat _ _ h (by decide), nat_mask1]
theorem str_four (a b c : List UInt8) : Ending.returned (.string (((⟨a.toArray⟩ ++ ⟨b.toArray⟩) ++ ⟨#[112]⟩) ++ ⟨c.toArray⟩ : ByteArray)) = .returned (.string ⟨(a ++ (b ++ 112 :: c)).toArray⟩) := by
  congr 2
  apply ByteArray.ext
  simp
theorem dec_size {m : Nat} (h : m < 18446744073709551616) : (⟨(Lib.decDigits m).toArray⟩ : ByteArray).size ≤ 20 := by
  show (Lib.decDigits m).toArray.size ≤ 20
  rw [List.size_toArray, Lib.decDigits_length]
  by_cases h0 : m = 0
  · rw [h0, Lib.nDigits_small (by decide)]; decide
  · have := Lib.numDigits_eq m (by omega) h
    split at this <;> omega
theorem itoa_size {n : Int} (h : -9223372036854775808 ≤ n) (h2 : n ≤ 9223372036854775807) : (⟨(Lib.itoa n).toArray⟩ : ByteArray).size ≤ 21 := by
  show (Lib.itoa n).toArray.size ≤ 21
  rw [List.size_toArray]
  unfold Lib.itoa
  split
  · have := dec_size (m := n.natAbs) (by omega)
    have e : (⟨(Lib.decDigits n.natAbs).toArray⟩ : ByteArray).size = (Lib.decDigits n.natAbs).length := by show (Lib.decDigits n.natAbs).toArray.size = _; rw [List.size_toArray]
    rw [List.length_cons]; omega
  · have := dec_size (m := n.toNat) (by omega)
    have e : (⟨(Lib.decDigits n.toNat).toArray⟩ : ByteArray).size = (Lib.decDigits n.toNat).length := by show (Lib.decDigits n.toNat).toArray.size = _; rw [List.size_toArray]
    omega
theorem tabKept {w w' : World} (h : Below w.heap.size w w') (ht : Pow10 w) : Pow10 w' := by
  unfold Pow10 Lib.TabIs World.var? at *
  cases hg : Tryd.prog.globalNamed "internal/strconv.uint64pow10" with
  | none => simp [hg] at ht
  | some g =>
    simp only [hg, Option.bind_some] at ht ⊢
    have hlt : g < w.heap.size := by
      rcases Nat.lt_or_ge g w.heap.size with h1 | h1
      · exact h1
      · rw [Array.getElem?_eq_none h1] at ht; simp at ht
    rw [h.block g hlt]
    exact ht

set_option maxRecDepth 100000 in
theorem print_fin (b : Nat) (w : World) (hb : b < 2 ^ 64) (hn : isNan b = false) (hr : rungB b < infR) (htab : Pow10 w) : Calls Tryd.prog 19 #[.float .f64 b] w fun e w' => e = .returned (.string ⟨(printL b).toArray⟩) ∧ Below w.heap.size w w' := by
  have HR := Lib.hid (show printL b = signL b ++ finL (rungB b) by unfold printL bodyL; rw [if_neg (by rw [hn]; decide), if_neg (by omega)])
  have hn' : (FloatKind.f64.format.order b b != some .eq) = false := hn
  have H1 := Lib.hid (fun w => isInf1_any b w hb)
  have H2 := Lib.hid (fun w => isInfM_any b w hb)
  have HG := Lib.hid (fun w => signbit_any b w hb)
  have hf := ext_bits
  have hE := exp_bits hb
  have hM := man_bits hb
  have hi := inf_lt
  have hbb : b < 18446744073709551616 := hb
  rw [decide_eq_false (by rcases sgn_iff hb with ⟨s1, e1⟩ | ⟨s1, e1⟩ <;> omega)] at H1
  rw [decide_eq_false (by rcases sgn_iff hb with ⟨s1, e1⟩ | ⟨s1, e1⟩ <;> omega)] at H2
  have hm0 : rungB b % 4503599627370496 < 4503599627370496 := Nat.mod_lt _ (by decide)
  have hO := or_one hm0
  have hEl : rungB b / 4503599627370496 < 2047 := by unfold infR at hr; omega
  have HF := Lib.hid (show finL (rungB b) = if manB (rungB b) = 0 then [48] else Lib.decDigits (strip 64 (manB (rungB b))).1 ++ 112 :: Lib.itoa ((expB (rungB b) : Int) - 1075 + ((strip 64 (manB (rungB b))).2 : Int)) from rfl)
  have HX := Lib.hid (show expB (rungB b) = if rungB b / 4503599627370496 = 0 then 1 else rungB b / 4503599627370496 from rfl)
  have HY := Lib.hid (show manB (rungB b) = if rungB b / 4503599627370496 = 0 then rungB b % 4503599627370496 else 4503599627370496 + rungB b % 4503599627370496 from rfl)
  generalize finL (rungB b) = F at *
  generalize expB (rungB b) = X at *
  generalize manB (rungB b) = Y at *
  generalize rungB b / 4503599627370496 = E at *
  generalize rungB b % 4503599627370496 = m0 at *
  clear hn hr hi
  by_cases hs : 9223372036854775808 ≤ b
  · rw [decide_eq_true hs] at HG
    have HS := Lib.hid (show signL b = [45] by unfold signL; rw [if_pos hs])
    clear hs hbb hb
    by_cases hE0 : E = 0
    · have HX1 := Lib.hid (show X = 1 by rw [HX.out, if_pos hE0])
      have HY1 := Lib.hid (show Y = m0 by rw [HY.out, if_pos hE0])
      clear HX HY
      subst hE0
      by_cases hmz : m0 = 0
      · have HF0 := Lib.hid (show F = [48] by rw [HF.out, if_pos (by rw [HY1.out]; exact hmz)])
        have hmI : (m0 : Int) = 0 := by omega
        clear HF HX1 HY1 hO hm0
        go_enter Tryd.func19, Tryd.ntmps19
        go_wp2_with fail
        refine (H1.out _).mono ?_
        rintro e w2 ⟨rfl, rfl⟩
        go_wp2_with fail
        refine (H2.out _).mono ?_
        rintro e w2 ⟨rfl, rfl⟩
        go_wp2_with fail
        refine (HG.out _).mono ?_
        rintro e w2 ⟨rfl, rfl⟩
        go_wp2_with fail
        go_ret
        rw [HR.out, HF0.out, HS.out]
        exact ⟨rfl, Below.refl _ _⟩
      · have hmI : ¬ (m0 : Int) = 0 := by omega
        have hms0 : 0 < m0 := by omega
        obtain ⟨ms, hms⟩ : ∃ ms, ms = m0 := ⟨_, rfl⟩
        have hmsI : (m0 : Int) = (ms : Int) := by omega
        have hms0 : 0 < ms := by omega
        have hms1 : ms < 9007199254740992 := by omega
        have HYs := Lib.hid (show Y = ms by rw [HY1.out, hms])
        obtain ⟨M, hMM⟩ : ∃ M, M = (strip 64 ms).1 := ⟨_, rfl⟩
        obtain ⟨K, hKK⟩ : ∃ K, K = (strip 64 ms).2 := ⟨_, rfl⟩
        have hK : K ≤ 64 := by rw [hKK]; exact strip_le 64 ms
        obtain ⟨Z, hZ⟩ : ∃ Z : Int, Z = (1 : Int) - 1075 + (K : Int) := ⟨_, rfl⟩
        have hZs : Z - (K : Int) = -1074 := by omega
        have hZ1 : -1074 ≤ Z := by omega
        have hZ2 : Z ≤ 2000 := by omega
        have HST := Lib.hid (show strip 64 ms = (M, K) by rw [hMM, hKK])
        have HFN := Lib.hid (show F = Lib.decDigits M ++ 112 :: Lib.itoa Z by rw [HF.out, if_neg (by rw [HYs.out]; omega), HYs.out, HX1.out, ← hMM, ← hKK, hZ]; rfl)
        clear HF HX1 HY1 HYs hZ hMM hKK hms
        go_enter Tryd.func19, Tryd.ntmps19
        go_wp2_with fail
        refine (H1.out _).mono ?_
        rintro e w2 ⟨rfl, rfl⟩
        go_wp2_with fail
        refine (H2.out _).mono ?_
        rintro e w2 ⟨rfl, rfl⟩
        go_wp2_with fail
        refine (HG.out _).mono ?_
        rintro e w2 ⟨rfl, rfl⟩
        go_wp2_with fail
        go_loopw [5, 6] (fun s5 s6 wr => ∃ f m k : Nat, 0 < m ∧ m < 9007199254740992 ∧ f ≤ 64 ∧ k ≤ f ∧ s6 = .int .u64 (m : Int) ∧ s5 = .int .i64 (Z - (k : Int)) ∧ Hid (m < 2 ^ f ∧ strip f m = (M, k)) ∧ wr = w2) (fun s5 s6 wr => (intOf s6).toNat)
        case atStart => exact ⟨64, ms, K, hms0, hms1, by omega, hK, by first | rfl | rw [hmsI], by rw [hZs], Lib.hid ⟨by omega, HST.out⟩, by first | trivial | rfl⟩
        case round =>
          obtain ⟨f, m, k, hm1, hm2, hf64, hkf, rfl, rfl, HIN, rfl⟩ := hrel
          have hand := and_one m (by omega)
          by_cases hpar : m % 2 = 0
          · have hpI : ((m % 2 : Nat) : Int) = 0 := by omega
            obtain ⟨f', rfl⟩ : ∃ f', f = f' + 1 := ⟨f - 1, by
              have := HIN.out.1
              cases f with
              | zero => simp at this; omega
              | succ f => omega⟩
            obtain ⟨h1, h2⟩ := HIN.out
            rw [strip_even hpar hm1 h1] at h2
            obtain ⟨m', hm'⟩ : ∃ m', m' = m / 2 := ⟨_, rfl⟩
            rw [← hm'] at h2
            obtain ⟨k', hk'⟩ : ∃ k', k' = (strip f' m').2 := ⟨_, rfl⟩
            have hkk : k = k' + 1 := by rw [hk']; exact (Prod.mk.inj h2).2.symm
            have H2 := Lib.hid (show m' < 2 ^ f' ∧ strip f' m' = (M, k') by
              refine ⟨by rw [Nat.pow_succ] at h1; omega, ?_⟩
              rw [hk']
              exact Prod.ext (Prod.mk.inj h2).1 rfl)
            have hdI : (m : Int) / 2 = (m' : Int) := by omega
            have hm'0 : 0 < m' := by omega
            have hm'1 : m' < 9007199254740992 := by omega
            have hlt : m' < m := by omega
            have hkf' : k' ≤ f' := by omega
            have hei : Z - (k : Int) + 1 = Z - (k' : Int) := by omega
            have hmn : ((m' : Int)).toNat = m' := by omega
            clear h1 h2 HIN hk' hm' hkk hpar
            go_wp2_with fail
            go_roundw
            case rel => exact ⟨f', m', k', hm'0, hm'1, by omega, hkf', rfl, by first | rfl | rw [hei], H2, by first | trivial | rfl⟩
            case measure => simp [intOf]; omega
          · have hpI : ((m % 2 : Nat) : Int) ≠ 0 := by omega
            have hst := HIN.out.2
            rw [strip_odd f m (by omega)] at hst
            obtain rfl : m = M := congrArg Prod.fst hst
            obtain rfl : (0 : Nat) = k := congrArg Prod.snd hst
            have hZ0 : Z - ((0 : Nat) : Int) = Z := by omega
            have HFM := Lib.hid (fmt_any m (by omega) wr htab)
            obtain ⟨D, hD⟩ : ∃ D : ByteArray, D = ⟨(Lib.decDigits m).toArray⟩ := ⟨_, rfl⟩
            have hDs : D.size ≤ 20 := by rw [hD]; exact dec_size (by omega)
            rw [← hD] at HFM
            have HD := Lib.hid hD
            clear hD
            clear hst HIN hpar
            go_wp2_with fail
            refine HFM.out.mono ?_
            rintro e w3 ⟨rfl, hb3⟩
            have HI2 := Lib.hid (itoa_any Z (by omega) (by omega) w3 (tabKept hb3 htab))
            obtain ⟨I, hI⟩ : ∃ I : ByteArray, I = ⟨(Lib.itoa Z).toArray⟩ := ⟨_, rfl⟩
            have hIs : I.size ≤ 21 := by rw [hI]; exact itoa_size (by omega) (by omega)
            rw [← hI] at HI2
            have HI := Lib.hid hI
            clear hI
            have HB3 := Lib.hid hb3
            clear hb3
            go_wp2_with fail
            refine HI2.out.mono ?_
            rintro e w4 ⟨rfl, hb4⟩
            have HB4 := Lib.hid (HB3.out.trans (hb4.mono HB3.out.size))
            clear hb4
            go_wp2_with fail
            go_ret
            rw [HR.out, HFN.out, HS.out]
            exact ⟨by rw [HD.out, HI.out]; exact str_four _ _ _, HB4.out⟩
    · have HX1 := Lib.hid (show X = E by rw [HX.out, if_neg hE0])
      have HY1 := Lib.hid (show Y = 4503599627370496 + m0 by rw [HY.out, if_neg hE0])
      clear HX HY
      have hEI : ¬ (E : Int) = 0 := by omega
      have hEr : (E : Int) ≤ 2046 := by omega
      have hE0' : (0 : Int) ≤ (E : Int) := by omega
      obtain ⟨ms, hms⟩ : ∃ ms, ms = 4503599627370496 + m0 := ⟨_, rfl⟩
      have hmsI : ((4503599627370496 + m0 : Nat) : Int) = (ms : Int) := by omega
      have hmI : ¬ (ms : Int) = 0 := by omega
      rw [hmsI] at hO
      have hms0 : 0 < ms := by omega
      have hms1 : ms < 9007199254740992 := by omega
      have HYs := Lib.hid (show Y = ms by rw [HY1.out, hms])
      obtain ⟨M, hMM⟩ : ∃ M, M = (strip 64 ms).1 := ⟨_, rfl⟩
      obtain ⟨K, hKK⟩ : ∃ K, K = (strip 64 ms).2 := ⟨_, rfl⟩
      have hK : K ≤ 64 := by rw [hKK]; exact strip_le 64 ms
      obtain ⟨Z, hZ⟩ : ∃ Z : Int, Z = (E : Int) - 1075 + (K : Int) := ⟨_, rfl⟩
      have hZs : Z - (K : Int) = (E : Int) - 1075 := by omega
      have hZ1 : -1074 ≤ Z := by omega
      have hZ2 : Z ≤ 2000 := by omega
      have HST := Lib.hid (show strip 64 ms = (M, K) by rw [hMM, hKK])
      have HFN := Lib.hid (show F = Lib.decDigits M ++ 112 :: Lib.itoa Z by rw [HF.out, if_neg (by rw [HYs.out]; omega), HYs.out, HX1.out, ← hMM, ← hKK, hZ])
      clear HF HX1 HY1 HYs hZ hMM hKK hms hmsI hm0 hE0 hEl
      go_enter Tryd.func19, Tryd.ntmps19
      go_wp2_with fail
      refine (H1.out _).mono ?_
      rintro e w2 ⟨rfl, rfl⟩
      go_wp2_with fail
      refine (H2.out _).mono ?_
      rintro e w2 ⟨rfl, rfl⟩
      go_wp2_with fail
      refine (HG.out _).mono ?_
      rintro e w2 ⟨rfl, rfl⟩
      go_wp2_with fail
      go_loopw [5, 6] (fun s5 s6 wr => ∃ f m k : Nat, 0 < m ∧ m < 9007199254740992 ∧ f ≤ 64 ∧ k ≤ f ∧ s6 = .int .u64 (m : Int) ∧ s5 = .int .i64 (Z - (k : Int)) ∧ Hid (m < 2 ^ f ∧ strip f m = (M, k)) ∧ wr = w2) (fun s5 s6 wr => (intOf s6).toNat)
      case atStart => exact ⟨64, ms, K, hms0, hms1, by omega, hK, by first | rfl | rw [hmsI], by rw [hZs], Lib.hid ⟨by omega, HST.out⟩, by first | trivial | rfl⟩
      case round =>
        obtain ⟨f, m, k, hm1, hm2, hf64, hkf, rfl, rfl, HIN, rfl⟩ := hrel
        have hand := and_one m (by omega)
        by_cases hpar : m % 2 = 0
        · have hpI : ((m % 2 : Nat) : Int) = 0 := by omega
          obtain ⟨f', rfl⟩ : ∃ f', f = f' + 1 := ⟨f - 1, by
            have := HIN.out.1
            cases f with
            | zero => simp at this; omega
            | succ f => omega⟩
          obtain ⟨h1, h2⟩ := HIN.out
          rw [strip_even hpar hm1 h1] at h2
          obtain ⟨m', hm'⟩ : ∃ m', m' = m / 2 := ⟨_, rfl⟩
          rw [← hm'] at h2
          obtain ⟨k', hk'⟩ : ∃ k', k' = (strip f' m').2 := ⟨_, rfl⟩
          have hkk : k = k' + 1 := by rw [hk']; exact (Prod.mk.inj h2).2.symm
          have H2 := Lib.hid (show m' < 2 ^ f' ∧ strip f' m' = (M, k') by
            refine ⟨by rw [Nat.pow_succ] at h1; omega, ?_⟩
            rw [hk']
            exact Prod.ext (Prod.mk.inj h2).1 rfl)
          have hdI : (m : Int) / 2 = (m' : Int) := by omega
          have hm'0 : 0 < m' := by omega
          have hm'1 : m' < 9007199254740992 := by omega
          have hlt : m' < m := by omega
          have hkf' : k' ≤ f' := by omega
          have hei : Z - (k : Int) + 1 = Z - (k' : Int) := by omega
          have hmn : ((m' : Int)).toNat = m' := by omega
          clear h1 h2 HIN hk' hm' hkk hpar
          go_wp2_with fail
          go_roundw
          case rel => exact ⟨f', m', k', hm'0, hm'1, by omega, hkf', rfl, by first | rfl | rw [hei], H2, by first | trivial | rfl⟩
          case measure => simp [intOf]; omega
        · have hpI : ((m % 2 : Nat) : Int) ≠ 0 := by omega
          have hst := HIN.out.2
          rw [strip_odd f m (by omega)] at hst
          obtain rfl : m = M := congrArg Prod.fst hst
          obtain rfl : (0 : Nat) = k := congrArg Prod.snd hst
          have hZ0 : Z - ((0 : Nat) : Int) = Z := by omega
          have HFM := Lib.hid (fmt_any m (by omega) wr htab)
          obtain ⟨D, hD⟩ : ∃ D : ByteArray, D = ⟨(Lib.decDigits m).toArray⟩ := ⟨_, rfl⟩
          have hDs : D.size ≤ 20 := by rw [hD]; exact dec_size (by omega)
          rw [← hD] at HFM
          have HD := Lib.hid hD
          clear hD
          clear hst HIN hpar
          go_wp2_with fail
          refine HFM.out.mono ?_
          rintro e w3 ⟨rfl, hb3⟩
          have HI2 := Lib.hid (itoa_any Z (by omega) (by omega) w3 (tabKept hb3 htab))
          obtain ⟨I, hI⟩ : ∃ I : ByteArray, I = ⟨(Lib.itoa Z).toArray⟩ := ⟨_, rfl⟩
          have hIs : I.size ≤ 21 := by rw [hI]; exact itoa_size (by omega) (by omega)
          rw [← hI] at HI2
          have HI := Lib.hid hI
          clear hI
          have HB3 := Lib.hid hb3
          clear hb3
          go_wp2_with fail
          refine HI2.out.mono ?_
          rintro e w4 ⟨rfl, hb4⟩
          have HB4 := Lib.hid (HB3.out.trans (hb4.mono HB3.out.size))
          clear hb4
          go_wp2_with fail
          go_ret
          rw [HR.out, HFN.out, HS.out]
          exact ⟨by rw [HD.out, HI.out]; exact str_four _ _ _, HB4.out⟩
  · rw [decide_eq_false hs] at HG
    have HS := Lib.hid (show signL b = [] by unfold signL; rw [if_neg hs])
    clear hs hbb hb
    by_cases hE0 : E = 0
    · have HX1 := Lib.hid (show X = 1 by rw [HX.out, if_pos hE0])
      have HY1 := Lib.hid (show Y = m0 by rw [HY.out, if_pos hE0])
      clear HX HY
      subst hE0
      by_cases hmz : m0 = 0
      · have HF0 := Lib.hid (show F = [48] by rw [HF.out, if_pos (by rw [HY1.out]; exact hmz)])
        have hmI : (m0 : Int) = 0 := by omega
        clear HF HX1 HY1 hO hm0
        go_enter Tryd.func19, Tryd.ntmps19
        go_wp2_with fail
        refine (H1.out _).mono ?_
        rintro e w2 ⟨rfl, rfl⟩
        go_wp2_with fail
        refine (H2.out _).mono ?_
        rintro e w2 ⟨rfl, rfl⟩
        go_wp2_with fail
        refine (HG.out _).mono ?_
        rintro e w2 ⟨rfl, rfl⟩
        go_wp2_with fail
        go_ret
        rw [HR.out, HF0.out, HS.out]
        exact ⟨rfl, Below.refl _ _⟩
      · have hmI : ¬ (m0 : Int) = 0 := by omega
        have hms0 : 0 < m0 := by omega
        obtain ⟨ms, hms⟩ : ∃ ms, ms = m0 := ⟨_, rfl⟩
        have hmsI : (m0 : Int) = (ms : Int) := by omega
        have hms0 : 0 < ms := by omega
        have hms1 : ms < 9007199254740992 := by omega
        have HYs := Lib.hid (show Y = ms by rw [HY1.out, hms])
        obtain ⟨M, hMM⟩ : ∃ M, M = (strip 64 ms).1 := ⟨_, rfl⟩
        obtain ⟨K, hKK⟩ : ∃ K, K = (strip 64 ms).2 := ⟨_, rfl⟩
        have hK : K ≤ 64 := by rw [hKK]; exact strip_le 64 ms
        obtain ⟨Z, hZ⟩ : ∃ Z : Int, Z = (1 : Int) - 1075 + (K : Int) := ⟨_, rfl⟩
        have hZs : Z - (K : Int) = -1074 := by omega
        have hZ1 : -1074 ≤ Z := by omega
        have hZ2 : Z ≤ 2000 := by omega
        have HST := Lib.hid (show strip 64 ms = (M, K) by rw [hMM, hKK])
        have HFN := Lib.hid (show F = Lib.decDigits M ++ 112 :: Lib.itoa Z by rw [HF.out, if_neg (by rw [HYs.out]; omega), HYs.out, HX1.out, ← hMM, ← hKK, hZ]; rfl)
        clear HF HX1 HY1 HYs hZ hMM hKK hms
        go_enter Tryd.func19, Tryd.ntmps19
        go_wp2_with fail
        refine (H1.out _).mono ?_
        rintro e w2 ⟨rfl, rfl⟩
        go_wp2_with fail
        refine (H2.out _).mono ?_
        rintro e w2 ⟨rfl, rfl⟩
        go_wp2_with fail
        refine (HG.out _).mono ?_
        rintro e w2 ⟨rfl, rfl⟩
        go_wp2_with fail
        go_loopw [5, 6] (fun s5 s6 wr => ∃ f m k : Nat, 0 < m ∧ m < 9007199254740992 ∧ f ≤ 64 ∧ k ≤ f ∧ s6 = .int .u64 (m : Int) ∧ s5 = .int .i64 (Z - (k : Int)) ∧ Hid (m < 2 ^ f ∧ strip f m = (M, k)) ∧ wr = w2) (fun s5 s6 wr => (intOf s6).toNat)
        case atStart => exact ⟨64, ms, K, hms0, hms1, by omega, hK, by first | rfl | rw [hmsI], by rw [hZs], Lib.hid ⟨by omega, HST.out⟩, by first | trivial | rfl⟩
        case round =>
          obtain ⟨f, m, k, hm1, hm2, hf64, hkf, rfl, rfl, HIN, rfl⟩ := hrel
          have hand := and_one m (by omega)
          by_cases hpar : m % 2 = 0
          · have hpI : ((m % 2 : Nat) : Int) = 0 := by omega
            obtain ⟨f', rfl⟩ : ∃ f', f = f' + 1 := ⟨f - 1, by
              have := HIN.out.1
              cases f with
              | zero => simp at this; omega
              | succ f => omega⟩
            obtain ⟨h1, h2⟩ := HIN.out
            rw [strip_even hpar hm1 h1] at h2
            obtain ⟨m', hm'⟩ : ∃ m', m' = m / 2 := ⟨_, rfl⟩
            rw [← hm'] at h2
            obtain ⟨k', hk'⟩ : ∃ k', k' = (strip f' m').2 := ⟨_, rfl⟩
            have hkk : k = k' + 1 := by rw [hk']; exact (Prod.mk.inj h2).2.symm
            have H2 := Lib.hid (show m' < 2 ^ f' ∧ strip f' m' = (M, k') by
              refine ⟨by rw [Nat.pow_succ] at h1; omega, ?_⟩
              rw [hk']
              exact Prod.ext (Prod.mk.inj h2).1 rfl)
            have hdI : (m : Int) / 2 = (m' : Int) := by omega
            have hm'0 : 0 < m' := by omega
            have hm'1 : m' < 9007199254740992 := by omega
            have hlt : m' < m := by omega
            have hkf' : k' ≤ f' := by omega
            have hei : Z - (k : Int) + 1 = Z - (k' : Int) := by omega
            have hmn : ((m' : Int)).toNat = m' := by omega
            clear h1 h2 HIN hk' hm' hkk hpar
            go_wp2_with fail
            go_roundw
            case rel => exact ⟨f', m', k', hm'0, hm'1, by omega, hkf', rfl, by first | rfl | rw [hei], H2, by first | trivial | rfl⟩
            case measure => simp [intOf]; omega
          · have hpI : ((m % 2 : Nat) : Int) ≠ 0 := by omega
            have hst := HIN.out.2
            rw [strip_odd f m (by omega)] at hst
            obtain rfl : m = M := congrArg Prod.fst hst
            obtain rfl : (0 : Nat) = k := congrArg Prod.snd hst
            have hZ0 : Z - ((0 : Nat) : Int) = Z := by omega
            have HFM := Lib.hid (fmt_any m (by omega) wr htab)
            obtain ⟨D, hD⟩ : ∃ D : ByteArray, D = ⟨(Lib.decDigits m).toArray⟩ := ⟨_, rfl⟩
            have hDs : D.size ≤ 20 := by rw [hD]; exact dec_size (by omega)
            rw [← hD] at HFM
            have HD := Lib.hid hD
            clear hD
            clear hst HIN hpar
            go_wp2_with fail
            refine HFM.out.mono ?_
            rintro e w3 ⟨rfl, hb3⟩
            have HI2 := Lib.hid (itoa_any Z (by omega) (by omega) w3 (tabKept hb3 htab))
            obtain ⟨I, hI⟩ : ∃ I : ByteArray, I = ⟨(Lib.itoa Z).toArray⟩ := ⟨_, rfl⟩
            have hIs : I.size ≤ 21 := by rw [hI]; exact itoa_size (by omega) (by omega)
            rw [← hI] at HI2
            have HI := Lib.hid hI
            clear hI
            have HB3 := Lib.hid hb3
            clear hb3
            go_wp2_with fail
            refine HI2.out.mono ?_
            rintro e w4 ⟨rfl, hb4⟩
            have HB4 := Lib.hid (HB3.out.trans (hb4.mono HB3.out.size))
            clear hb4
            go_wp2_with fail
            go_ret
            rw [HR.out, HFN.out, HS.out]
            exact ⟨by rw [HD.out, HI.out]; exact str_four _ _ _, HB4.out⟩
    · have HX1 := Lib.hid (show X = E by rw [HX.out, if_neg hE0])
      have HY1 := Lib.hid (show Y = 4503599627370496 + m0 by rw [HY.out, if_neg hE0])
      clear HX HY
      have hEI : ¬ (E : Int) = 0 := by omega
      have hEr : (E : Int) ≤ 2046 := by omega
      have hE0' : (0 : Int) ≤ (E : Int) := by omega
      obtain ⟨ms, hms⟩ : ∃ ms, ms = 4503599627370496 + m0 := ⟨_, rfl⟩
      have hmsI : ((4503599627370496 + m0 : Nat) : Int) = (ms : Int) := by omega
      have hmI : ¬ (ms : Int) = 0 := by omega
      rw [hmsI] at hO
      have hms0 : 0 < ms := by omega
      have hms1 : ms < 9007199254740992 := by omega
      have HYs := Lib.hid (show Y = ms by rw [HY1.out, hms])
      obtain ⟨M, hMM⟩ : ∃ M, M = (strip 64 ms).1 := ⟨_, rfl⟩
      obtain ⟨K, hKK⟩ : ∃ K, K = (strip 64 ms).2 := ⟨_, rfl⟩
      have hK : K ≤ 64 := by rw [hKK]; exact strip_le 64 ms
      obtain ⟨Z, hZ⟩ : ∃ Z : Int, Z = (E : Int) - 1075 + (K : Int) := ⟨_, rfl⟩
      have hZs : Z - (K : Int) = (E : Int) - 1075 := by omega
      have hZ1 : -1074 ≤ Z := by omega
      have hZ2 : Z ≤ 2000 := by omega
      have HST := Lib.hid (show strip 64 ms = (M, K) by rw [hMM, hKK])
      have HFN := Lib.hid (show F = Lib.decDigits M ++ 112 :: Lib.itoa Z by rw [HF.out, if_neg (by rw [HYs.out]; omega), HYs.out, HX1.out, ← hMM, ← hKK, hZ])
      clear HF HX1 HY1 HYs hZ hMM hKK hms hmsI hm0 hE0 hEl
      go_enter Tryd.func19, Tryd.ntmps19
      go_wp2_with fail
      refine (H1.out _).mono ?_
      rintro e w2 ⟨rfl, rfl⟩
      go_wp2_with fail
      refine (H2.out _).mono ?_
      rintro e w2 ⟨rfl, rfl⟩
      go_wp2_with fail
      refine (HG.out _).mono ?_
      rintro e w2 ⟨rfl, rfl⟩
      go_wp2_with fail
      go_loopw [5, 6] (fun s5 s6 wr => ∃ f m k : Nat, 0 < m ∧ m < 9007199254740992 ∧ f ≤ 64 ∧ k ≤ f ∧ s6 = .int .u64 (m : Int) ∧ s5 = .int .i64 (Z - (k : Int)) ∧ Hid (m < 2 ^ f ∧ strip f m = (M, k)) ∧ wr = w2) (fun s5 s6 wr => (intOf s6).toNat)
      case atStart => exact ⟨64, ms, K, hms0, hms1, by omega, hK, by first | rfl | rw [hmsI], by rw [hZs], Lib.hid ⟨by omega, HST.out⟩, by first | trivial | rfl⟩
      case round =>
        obtain ⟨f, m, k, hm1, hm2, hf64, hkf, rfl, rfl, HIN, rfl⟩ := hrel
        have hand := and_one m (by omega)
        by_cases hpar : m % 2 = 0
        · have hpI : ((m % 2 : Nat) : Int) = 0 := by omega
          obtain ⟨f', rfl⟩ : ∃ f', f = f' + 1 := ⟨f - 1, by
            have := HIN.out.1
            cases f with
            | zero => simp at this; omega
            | succ f => omega⟩
          obtain ⟨h1, h2⟩ := HIN.out
          rw [strip_even hpar hm1 h1] at h2
          obtain ⟨m', hm'⟩ : ∃ m', m' = m / 2 := ⟨_, rfl⟩
          rw [← hm'] at h2
          obtain ⟨k', hk'⟩ : ∃ k', k' = (strip f' m').2 := ⟨_, rfl⟩
          have hkk : k = k' + 1 := by rw [hk']; exact (Prod.mk.inj h2).2.symm
          have H2 := Lib.hid (show m' < 2 ^ f' ∧ strip f' m' = (M, k') by
            refine ⟨by rw [Nat.pow_succ] at h1; omega, ?_⟩
            rw [hk']
            exact Prod.ext (Prod.mk.inj h2).1 rfl)
          have hdI : (m : Int) / 2 = (m' : Int) := by omega
          have hm'0 : 0 < m' := by omega
          have hm'1 : m' < 9007199254740992 := by omega
          have hlt : m' < m := by omega
          have hkf' : k' ≤ f' := by omega
          have hei : Z - (k : Int) + 1 = Z - (k' : Int) := by omega
          have hmn : ((m' : Int)).toNat = m' := by omega
          clear h1 h2 HIN hk' hm' hkk hpar
          go_wp2_with fail
          go_roundw
          case rel => exact ⟨f', m', k', hm'0, hm'1, by omega, hkf', rfl, by first | rfl | rw [hei], H2, by first | trivial | rfl⟩
          case measure => simp [intOf]; omega
        · have hpI : ((m % 2 : Nat) : Int) ≠ 0 := by omega
          have hst := HIN.out.2
          rw [strip_odd f m (by omega)] at hst
          obtain rfl : m = M := congrArg Prod.fst hst
          obtain rfl : (0 : Nat) = k := congrArg Prod.snd hst
          have hZ0 : Z - ((0 : Nat) : Int) = Z := by omega
          have HFM := Lib.hid (fmt_any m (by omega) wr htab)
          obtain ⟨D, hD⟩ : ∃ D : ByteArray, D = ⟨(Lib.decDigits m).toArray⟩ := ⟨_, rfl⟩
          have hDs : D.size ≤ 20 := by rw [hD]; exact dec_size (by omega)
          rw [← hD] at HFM
          have HD := Lib.hid hD
          clear hD
          clear hst HIN hpar
          go_wp2_with fail
          refine HFM.out.mono ?_
          rintro e w3 ⟨rfl, hb3⟩
          have HI2 := Lib.hid (itoa_any Z (by omega) (by omega) w3 (tabKept hb3 htab))
          obtain ⟨I, hI⟩ : ∃ I : ByteArray, I = ⟨(Lib.itoa Z).toArray⟩ := ⟨_, rfl⟩
          have hIs : I.size ≤ 21 := by rw [hI]; exact itoa_size (by omega) (by omega)
          rw [← hI] at HI2
          have HI := Lib.hid hI
          clear hI
          have HB3 := Lib.hid hb3
          clear hb3
          go_wp2_with fail
          refine HI2.out.mono ?_
          rintro e w4 ⟨rfl, hb4⟩
          have HB4 := Lib.hid (HB3.out.trans (hb4.mono HB3.out.size))
          clear hb4
          go_wp2_with fail
          go_ret
          rw [HR.out, HFN.out, HS.out]
          exact ⟨by rw [HD.out, HI.out]; exact str_four _ _ _, HB4.out⟩
theorem print_any (b : Nat) (w : World) (hb : b < 2 ^ 64) (htab : Pow10 w) : Calls Tryd.prog 19 #[.float .f64 b] w fun e w' => e = .returned (.string ⟨(printL b).toArray⟩) ∧ Below w.heap.size w w' := by
  cases hn : isNan b with
  | true => exact print_nan b w hb hn
  | false =>
    have h := hn
    rw [nan_iff, decide_eq_false_iff_not] at h
    rcases Nat.lt_or_ge (rungB b) infR with h1 | h1
    · exact print_fin b w hb hn h1 htab
    · exact print_inf b w hb hn (by omega)
end Go.Proofs.YtehminpiejophaaDoor
