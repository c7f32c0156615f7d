/- towlineref01.Parse: texts with a p, with a sign. -/
import Derived.Test.YtehminpiejophaaDoorStampRefParse
set_option linter.unusedVariables false
set_option linter.unusedSimpArgs false
namespace Go.Proofs.YtehminpiejophaaDoor
open Go.RowKit
set_option maxRecDepth 100000 in
set_option maxHeartbeats 8000000 in
theorem refp_p_neg (t : List UInt8) (a rest : List UInt8) (h3 : t ≠ [105, 110, 102]) (h4 : t ≠ [48]) (h5 : t = a ++ 112 :: rest) (h6 : (112 : UInt8) ∉ a) (w : World) (hl : t.length ≤ 4294967200) : Calls Tryd.prog 18 #[.string (strL (45 :: t))] w (RefPost w (45 :: t)) := by
  obtain ⟨n, hn⟩ : ∃ n, n = t.length := ⟨_, rfl⟩
  have hn2 : (n : Int) ≤ 4294967200 := by omega
  have hf := ext_from
  obtain ⟨tq, htq⟩ : ∃ tq, tq = strL t := ⟨_, rfl⟩
  have htn : tq.size = n := by rw [htq, strL_size, hn]
  obtain ⟨q, hq⟩ : ∃ q, q = strL (45 :: t) := ⟨_, rfl⟩
  have hqn : q.size = n + 1 := by rw [hq, strL_size, hn]; rfl
  have hq0 : q.toList.isEmpty = false := by rw [hq, toList_strL]; rfl
  have hiq : 0 < q.size := by omega
  obtain ⟨x, hxx⟩ : ∃ x : UInt8, x = 45 := ⟨_, rfl⟩
  have hqx : q[0] = x := strL_at (l := 45 :: t) (by rw [hxx]; rfl) hq hiq
  have hx : ((x.toNat : Int) == 45) = true := u8_is (y := 45) hxx
  have hsl : q.extract 1 (n + 1) = tq := by rw [htq]; exact strL_cons 45 t hq (by rw [hn])
  have hnan : (q.toList == [110, 97, 110]) = false := by rw [hq, toList_strL]; rfl
  have HRD := Lib.hid (show ∀ r, UT t r → Reads (45 :: t) (9223372036854775808 + r) from fun r h => ut_neg h)
  have HNO := Lib.hid (show (∀ r, ¬ UT t r) → ∀ b, ¬ Reads (45 :: t) b from neg_ut)
  generalize hLL : 45 :: t = LL at *
  rw [← hq]
  clear hq hxx hLL
  have hi1 : (tq.toList == [105, 110, 102]) = false := by rw [htq, toList_strL, beq_eq_false_iff_ne]; exact h3
  have hi2 : (tq.toList == [48]) = false := by rw [htq, toList_strL, beq_eq_false_iff_ne]; exact h4
  obtain ⟨m, hm⟩ : ∃ m, m = a.length := ⟨_, rfl⟩
  have hnm : n = m + 1 + rest.length := by rw [hn, h5, hm]; simp; omega
  have hn0 : 0 < n := by omega
  have HUP := Lib.hid (fun r (h : UT t r) => ut_parts h h3 h4 h5 h6)
  have HP := Lib.hid (show ∀ k y, k < m → t[k]? = some y → ((y.toNat : Int) == 112) = false from fun k y hk hy => u8_ne (y := 112) (fun e => h6 (by
    rw [h5, List.getElem?_append_left (by omega)] at hy
    exact e ▸ List.mem_of_getElem? hy)))
  have htm : t[m]? = some 112 := by rw [h5, List.getElem?_append_right (by omega), hm, Nat.sub_self]; rfl
  obtain ⟨y1, hy1⟩ : ∃ y : UInt8, y = 112 := ⟨_, rfl⟩
  have hmq : m < tq.size := by omega
  have hqm : tq[m] = y1 := strL_at (by rw [hy1]; exact htm) htq hmq
  have hym : ((y1.toNat : Int) == 112) = true := u8_is (y := 112) hy1
  have hcA : tq.extract 0 m = strL a := strL_pre a (112 :: rest) (by rw [htq, h5]) hm
  have hcR : tq.extract (m + 1) n = strL rest := strL_suf (a ++ [112]) rest (by rw [htq, h5]; simp) (by rw [hm]; simp) (by rw [hn, h5]; simp)
  have HT := Lib.hid htq
  have HNN := Lib.hid hn
  obtain ⟨qa, hqa⟩ : ∃ qa, qa = strL a := ⟨_, rfl⟩
  have hqas : qa.size = m := by rw [hqa, strL_size, hm]
  obtain ⟨qr, hqr⟩ : ∃ qr, qr = strL rest := ⟨_, rfl⟩
  have hqrs : qr.size = rest.length := by rw [hqr, strL_size]
  have HD1 := Lib.hid (fun w => refDigits_any a 16 w (by omega) (by omega))
  rw [← hqa] at hcA HD1
  rw [← hqr] at hcR
  have HQR := Lib.hid hqr
  clear hy1 htm hqa h3 h4 h6 hm htq hqr
  have hrc : (rest = [] ∨ ∃ c r, rest = c :: r ∧ c ≠ 45) ∨ ∃ r, rest = 45 :: r := by
    cases rest with
    | nil => exact .inl (.inl rfl)
    | cons c r =>
      by_cases h : c = 45
      · exact .inr ⟨r, by rw [h]⟩
      · exact .inl (.inr ⟨c, r, rfl, h⟩)
  rcases hrc with hrc | ⟨r1, hr1⟩
  · have hno45 : ∀ x, rest ≠ 45 :: x := fun x e => by
      rcases hrc with h | ⟨c, r, h, hc⟩
      · rw [h] at e; cases e
      · rw [h] at e; injection e with e _; exact hc e
    have HD2 := Lib.hid (fun w => refDigits_any rest 4 w (by omega) (by omega))
    rw [← HQR.out] at HD2
    have HPP := Lib.hid (fun r (h : UT t r) => show ∃ (M P : Nat), FinB M (P : Int) r ∧ digP a 16 = some M ∧ digP rest 4 = some P by
      obtain ⟨M, Z, hf, ha, hr⟩ := HUP.out r h
      obtain ⟨P, rfl, h1, h2⟩ := parts_pos hno45 hf ha hr
      exact ⟨M, P, hf, h1, h2⟩)
    have HTX := Lib.hid (fun (M P r : Nat) (h1 : digP a 16 = some M) (h2 : digP rest 4 = some P) (hf : FinB M (P : Int) r) => show UT t r by rw [h5]; exact pos_text h1 h2 hf)
    have hsh : (rest.length = 0 ∧ qr.toList.isEmpty = true) ∨ (0 < rest.length ∧ qr.toList.isEmpty = false ∧ ∃ z : UInt8, rest[0]? = some z ∧ ((z.toNat : Int) == 45) = false) := by
      rcases hrc with h | ⟨c, r, h, hc⟩
      · left; rw [HQR.out, toList_strL, h]; exact ⟨rfl, rfl⟩
      · right; rw [HQR.out, toList_strL, h]; exact ⟨by simp, rfl, c, rfl, u8_ne (y := 45) hc⟩
    clear hrc hno45 HUP h5
    rcases hsh with ⟨hs1, hs2⟩ | ⟨hs1, hs2, z, hz, hz45⟩
    · rw [hs1] at hnm hqrs
      have hmlt : m < n := by omega
      have hmn : ¬ (m : Int) + 1 < (n : Int) := by omega
      clear hn hnm
      go_enter Tryd.func18, Tryd.ntmps18
      go_wp2_with fail
      clear hiq hqx hx hq0 hnan hi1 hi2 hsl hqn
      go_loopw [6, 7] (fun s6 s7 wr => ((∃ k : Nat, k ≤ m ∧ s7 = .int .i64 (k : Int) ∧ s6 = .int .i64 (-1)) ∨ (s7 = .int .i64 ((m : Int) + 1) ∧ s6 = .int .i64 (m : Int))) ∧ wr = w) (fun s6 s7 wr => n + 1 - (intOf s7).toNat)
      case atStart => exact ⟨.inl ⟨0, by omega, rfl, rfl⟩, rfl⟩
      case round =>
        obtain ⟨⟨k, hk, rfl, rfl⟩ | ⟨rfl, rfl⟩, rfl⟩ := hrel
        · clear HD1 HD2
          by_cases hlt : k < m
          · have hltI : (k : Int) < (n : Int) := by omega
            obtain ⟨y, hy⟩ : ∃ y, t[k]? = some y := ⟨_, List.getElem?_eq_getElem (by have := HNN.out; omega)⟩
            have hkq : k < tq.size := by omega
            have hqy : tq[k] = y := strL_at hy HT.out hkq
            have hy2 := HP.out k y hlt hy
            clear hy hqm
            go_wp2_with fail
            go_roundw
            case rel => exact ⟨.inl ⟨k + 1, by omega, by go_num, rfl⟩, by first | rfl | exact True.intro⟩
            case measure => simp [intOf]; omega
          · obtain rfl : k = m := by omega
            have hltI : (k : Int) < (n : Int) := by omega
            go_wp2_with fail
            go_roundw
            case rel => exact ⟨.inr ⟨by go_num, rfl⟩, by first | rfl | exact True.intro⟩
            case measure => simp [intOf]; omega
        · have hm0 : ¬ (m : Int) < 0 := by omega
          have hm1 : (m : Int) + 1 ≤ (n : Int) := by omega
          have hm2 : (m : Int) ≤ (n : Int) := by omega
          have hm3 : (0 : Int) ≤ (m : Int) + 1 := by omega
          have hm4 : ((m : Int) + 1).toNat = m + 1 := by omega
          clear hqm hmq hym
          go_wp2_with fail
          refine (HD1.out _).mono ?_
          rintro e w1 ⟨rfl, rfl⟩
          cases hd1 : digP a 16 with
          | none =>
            have HNN2 := Lib.hid (HNO.out (fun r h => by obtain ⟨M, P, _, h1, _⟩ := HPP.out r h; rw [hd1] at h1; cases h1))
            clear HPP HTX HNO HRD hd1
            simp only [Option.getD_none, Option.isSome_none]
            go_wp2_with fail
            refine (HD2.out _).mono ?_
            rintro e w1 ⟨rfl, rfl⟩
            generalize ((digP rest 4).getD 0 : Nat) = p4 at *
            generalize (digP rest 4).isSome = o4 at *
            go_wp2_with fail
            go_ret2
            exact ⟨by first | rfl | exact True.intro, .inr ⟨HNN2.out, rfl⟩⟩
          | some M =>
            have hM64 := dig_lt hd1
            simp only [Option.getD_some, Option.isSome_some]
            go_wp2_with fail
            refine (HD2.out _).mono ?_
            rintro e w1 ⟨rfl, rfl⟩
            cases hd2 : digP rest 4 with
            | none =>
              have HNN2 := Lib.hid (HNO.out (fun r h => by obtain ⟨M, P, _, _, h1⟩ := HPP.out r h; rw [hd2] at h1; cases h1))
              clear HPP HTX HNO HRD hd1 hd2
              simp only [Option.getD_none, Option.isSome_none]
              go_wp2_with fail
              go_ret2
              exact ⟨by first | rfl | exact True.intro, .inr ⟨HNN2.out, rfl⟩⟩
            | some P =>
              have hP4 := dig_lt hd2
              simp only [Option.getD_some, Option.isSome_some]
              have HBI := Lib.hid (fun w => refBitsOf_any M (P : Int) w (by omega) (by omega) (by omega))
              have HYES := Lib.hid (fun r (hf : FinB M (P : Int) r) => HRD.out r (HTX.out M P r hd1 hd2 hf))
              have HNOT := Lib.hid (fun (hno : ∀ r, ¬ FinB M (P : Int) r) => HNO.out (fun r h => by
                obtain ⟨M', P', hf, h1, h2⟩ := HPP.out r h
                rw [hd1] at h1; rw [hd2] at h2
                cases h1; cases h2
                exact hno r hf))
              clear HPP HTX HNO HRD hd1 hd2
              go_wp2_with fail
              refine (HBI.out _).mono ?_
              rintro e w1 ⟨rfl, ⟨r, hf2, rfl⟩ | ⟨hno, rfl⟩⟩
              · have HR := Lib.hid (HYES.out r hf2)
                have hr2 := hf2.inf
                have hri : (r : Int) < 9218868437227405312 := by unfold infR at hr2; omega
                clear hf2 hr2 HYES HNOT
                obtain ⟨b, hb⟩ : ∃ b : Nat, b = 9223372036854775808 + r := ⟨_, rfl⟩
                have hbI : (9223372036854775808 : Int) + (r : Int) = (b : Int) := by omega
                rw [← hb] at HR
                clear hb
                go_wp2_with fail
                go_ret2
                exact ⟨by first | rfl | exact True.intro, .inl ⟨_, HR.out, rfl⟩⟩
              · have HNN2 := Lib.hid (HNOT.out hno)
                clear hno HYES HNOT
                go_wp2_with fail
                go_ret2
                exact ⟨by first | rfl | exact True.intro, .inr ⟨HNN2.out, rfl⟩⟩
    · have hz0 : 0 < qr.size := by omega
      have hqz : qr[0] = z := strL_at hz HQR.out hz0
      clear hz
      have hmlt : m < n := by omega
      have hmn : (m : Int) + 1 < (n : Int) := by omega
      clear hn hnm
      go_enter Tryd.func18, Tryd.ntmps18
      go_wp2_with fail
      clear hiq hqx hx hq0 hnan hi1 hi2 hsl hqn
      go_loopw [6, 7] (fun s6 s7 wr => ((∃ k : Nat, k ≤ m ∧ s7 = .int .i64 (k : Int) ∧ s6 = .int .i64 (-1)) ∨ (s7 = .int .i64 ((m : Int) + 1) ∧ s6 = .int .i64 (m : Int))) ∧ wr = w) (fun s6 s7 wr => n + 1 - (intOf s7).toNat)
      case atStart => exact ⟨.inl ⟨0, by omega, rfl, rfl⟩, rfl⟩
      case round =>
        obtain ⟨⟨k, hk, rfl, rfl⟩ | ⟨rfl, rfl⟩, rfl⟩ := hrel
        · clear HD1 HD2
          by_cases hlt : k < m
          · have hltI : (k : Int) < (n : Int) := by omega
            obtain ⟨y, hy⟩ : ∃ y, t[k]? = some y := ⟨_, List.getElem?_eq_getElem (by have := HNN.out; omega)⟩
            have hkq : k < tq.size := by omega
            have hqy : tq[k] = y := strL_at hy HT.out hkq
            have hy2 := HP.out k y hlt hy
            clear hy hqm
            go_wp2_with fail
            go_roundw
            case rel => exact ⟨.inl ⟨k + 1, by omega, by go_num, rfl⟩, by first | rfl | exact True.intro⟩
            case measure => simp [intOf]; omega
          · obtain rfl : k = m := by omega
            have hltI : (k : Int) < (n : Int) := by omega
            go_wp2_with fail
            go_roundw
            case rel => exact ⟨.inr ⟨by go_num, rfl⟩, by first | rfl | exact True.intro⟩
            case measure => simp [intOf]; omega
        · have hm0 : ¬ (m : Int) < 0 := by omega
          have hm1 : (m : Int) + 1 ≤ (n : Int) := by omega
          have hm2 : (m : Int) ≤ (n : Int) := by omega
          have hm3 : (0 : Int) ≤ (m : Int) + 1 := by omega
          have hm4 : ((m : Int) + 1).toNat = m + 1 := by omega
          clear hqm hmq hym
          go_wp2_with fail
          refine (HD1.out _).mono ?_
          rintro e w1 ⟨rfl, rfl⟩
          cases hd1 : digP a 16 with
          | none =>
            have HNN2 := Lib.hid (HNO.out (fun r h => by obtain ⟨M, P, _, h1, _⟩ := HPP.out r h; rw [hd1] at h1; cases h1))
            clear HPP HTX HNO HRD hd1
            simp only [Option.getD_none, Option.isSome_none]
            go_wp2_with fail
            refine (HD2.out _).mono ?_
            rintro e w1 ⟨rfl, rfl⟩
            generalize ((digP rest 4).getD 0 : Nat) = p4 at *
            generalize (digP rest 4).isSome = o4 at *
            go_wp2_with fail
            go_ret2
            exact ⟨by first | rfl | exact True.intro, .inr ⟨HNN2.out, rfl⟩⟩
          | some M =>
            have hM64 := dig_lt hd1
            simp only [Option.getD_some, Option.isSome_some]
            go_wp2_with fail
            refine (HD2.out _).mono ?_
            rintro e w1 ⟨rfl, rfl⟩
            cases hd2 : digP rest 4 with
            | none =>
              have HNN2 := Lib.hid (HNO.out (fun r h => by obtain ⟨M, P, _, _, h1⟩ := HPP.out r h; rw [hd2] at h1; cases h1))
              clear HPP HTX HNO HRD hd1 hd2
              simp only [Option.getD_none, Option.isSome_none]
              go_wp2_with fail
              go_ret2
              exact ⟨by first | rfl | exact True.intro, .inr ⟨HNN2.out, rfl⟩⟩
            | some P =>
              have hP4 := dig_lt hd2
              simp only [Option.getD_some, Option.isSome_some]
              have HBI := Lib.hid (fun w => refBitsOf_any M (P : Int) w (by omega) (by omega) (by omega))
              have HYES := Lib.hid (fun r (hf : FinB M (P : Int) r) => HRD.out r (HTX.out M P r hd1 hd2 hf))
              have HNOT := Lib.hid (fun (hno : ∀ r, ¬ FinB M (P : Int) r) => HNO.out (fun r h => by
                obtain ⟨M', P', hf, h1, h2⟩ := HPP.out r h
                rw [hd1] at h1; rw [hd2] at h2
                cases h1; cases h2
                exact hno r hf))
              clear HPP HTX HNO HRD hd1 hd2
              go_wp2_with fail
              refine (HBI.out _).mono ?_
              rintro e w1 ⟨rfl, ⟨r, hf2, rfl⟩ | ⟨hno, rfl⟩⟩
              · have HR := Lib.hid (HYES.out r hf2)
                have hr2 := hf2.inf
                have hri : (r : Int) < 9218868437227405312 := by unfold infR at hr2; omega
                clear hf2 hr2 HYES HNOT
                obtain ⟨b, hb⟩ : ∃ b : Nat, b = 9223372036854775808 + r := ⟨_, rfl⟩
                have hbI : (9223372036854775808 : Int) + (r : Int) = (b : Int) := by omega
                rw [← hb] at HR
                clear hb
                go_wp2_with fail
                go_ret2
                exact ⟨by first | rfl | exact True.intro, .inl ⟨_, HR.out, rfl⟩⟩
              · have HNN2 := Lib.hid (HNOT.out hno)
                clear hno HYES HNOT
                go_wp2_with fail
                go_ret2
                exact ⟨by first | rfl | exact True.intro, .inr ⟨HNN2.out, rfl⟩⟩
  · have HD2 := Lib.hid (fun w => refDigits_any r1 4 w (by rw [hr1] at hnm; simp at hnm; omega) (by omega))
    obtain ⟨q2, hq2⟩ : ∃ q2, q2 = strL r1 := ⟨_, rfl⟩
    rw [← hq2] at HD2
    have hcz : qr.extract 1 (r1.length + 1) = q2 := by rw [hq2]; exact strL_cons 45 r1 (by rw [HQR.out, hr1]) rfl
    have hrl : rest.length = r1.length + 1 := by rw [hr1]; rfl
    obtain ⟨k1, hk1⟩ : ∃ k, k = r1.length := ⟨_, rfl⟩
    rw [hrl, ← hk1] at hqrs hnm
    rw [← hk1] at hcz
    have hs2 : qr.toList.isEmpty = false := by rw [HQR.out, toList_strL, hr1]; rfl
    obtain ⟨z, hzz⟩ : ∃ z : UInt8, z = 45 := ⟨_, rfl⟩
    have hz0 : 0 < qr.size := by omega
    have hqz : qr[0] = z := strL_at (l := rest) (by rw [hr1, hzz]; rfl) HQR.out hz0
    have hz45 : ((z.toNat : Int) == 45) = true := u8_is (y := 45) hzz
    have HPP := Lib.hid (fun r (h : UT t r) => show ∃ (M P : Nat), 0 < P ∧ FinB M (-(P : Int)) r ∧ digP a 16 = some M ∧ digP r1 4 = some P by
      obtain ⟨M, Z, hf, ha, hr⟩ := HUP.out r h
      rw [hr1] at hr
      obtain ⟨P, h0, rfl, h1, h2⟩ := parts_neg hf ha hr
      exact ⟨M, P, h0, hf, h1, h2⟩)
    have HTX := Lib.hid (fun (M P r : Nat) (h1 : digP a 16 = some M) (h2 : digP r1 4 = some P) (h0 : 0 < P) (hf : FinB M (-(P : Int)) r) => show UT t r by rw [h5, hr1]; exact neg_text h1 h2 h0 hf)
    clear hzz hr1 HUP h5 hq2 hrl hk1
    have hmlt : m < n := by omega
    have hmn : (m : Int) + 1 < (n : Int) := by omega
    clear hn hnm
    go_enter Tryd.func18, Tryd.ntmps18
    go_wp2_with fail
    clear hiq hqx hx hq0 hnan hi1 hi2 hsl hqn
    go_loopw [6, 7] (fun s6 s7 wr => ((∃ k : Nat, k ≤ m ∧ s7 = .int .i64 (k : Int) ∧ s6 = .int .i64 (-1)) ∨ (s7 = .int .i64 ((m : Int) + 1) ∧ s6 = .int .i64 (m : Int))) ∧ wr = w) (fun s6 s7 wr => n + 1 - (intOf s7).toNat)
    case atStart => exact ⟨.inl ⟨0, by omega, rfl, rfl⟩, rfl⟩
    case round =>
      obtain ⟨⟨k, hk, rfl, rfl⟩ | ⟨rfl, rfl⟩, rfl⟩ := hrel
      · clear HD1 HD2
        by_cases hlt : k < m
        · have hltI : (k : Int) < (n : Int) := by omega
          obtain ⟨y, hy⟩ : ∃ y, t[k]? = some y := ⟨_, List.getElem?_eq_getElem (by have := HNN.out; omega)⟩
          have hkq : k < tq.size := by omega
          have hqy : tq[k] = y := strL_at hy HT.out hkq
          have hy2 := HP.out k y hlt hy
          clear hy hqm
          go_wp2_with fail
          go_roundw
          case rel => exact ⟨.inl ⟨k + 1, by omega, by go_num, rfl⟩, by first | rfl | exact True.intro⟩
          case measure => simp [intOf]; omega
        · obtain rfl : k = m := by omega
          have hltI : (k : Int) < (n : Int) := by omega
          go_wp2_with fail
          go_roundw
          case rel => exact ⟨.inr ⟨by go_num, rfl⟩, by first | rfl | exact True.intro⟩
          case measure => simp [intOf]; omega
      · have hm0 : ¬ (m : Int) < 0 := by omega
        have hm1 : (m : Int) + 1 ≤ (n : Int) := by omega
        have hm2 : (m : Int) ≤ (n : Int) := by omega
        have hm3 : (0 : Int) ≤ (m : Int) + 1 := by omega
        have hm4 : ((m : Int) + 1).toNat = m + 1 := by omega
        clear hqm hmq hym
        go_wp2_with fail
        refine (HD1.out _).mono ?_
        rintro e w1 ⟨rfl, rfl⟩
        cases hd1 : digP a 16 with
        | none =>
          have HNN2 := Lib.hid (HNO.out (fun r h => by obtain ⟨M, P, _, _, h1, _⟩ := HPP.out r h; rw [hd1] at h1; cases h1))
          clear HPP HTX HNO HRD hd1
          simp only [Option.getD_none, Option.isSome_none]
          go_wp2_with fail
          refine (HD2.out _).mono ?_
          rintro e w1 ⟨rfl, rfl⟩
          generalize ((digP r1 4).getD 0 : Nat) = p4 at *
          generalize (digP r1 4).isSome = o4 at *
          go_wp2_with fail
          go_ret2
          exact ⟨by first | rfl | exact True.intro, .inr ⟨HNN2.out, rfl⟩⟩
        | some M =>
          have hM64 := dig_lt hd1
          simp only [Option.getD_some, Option.isSome_some]
          go_wp2_with fail
          refine (HD2.out _).mono ?_
          rintro e w1 ⟨rfl, rfl⟩
          cases hd2 : digP r1 4 with
          | none =>
            have HNN2 := Lib.hid (HNO.out (fun r h => by obtain ⟨M, P, _, _, _, h1⟩ := HPP.out r h; rw [hd2] at h1; cases h1))
            clear HPP HTX HNO HRD hd1 hd2
            simp only [Option.getD_none, Option.isSome_none]
            go_wp2_with fail
            go_ret2
            exact ⟨by first | rfl | exact True.intro, .inr ⟨HNN2.out, rfl⟩⟩
          | some P =>
            have hP4 := dig_lt hd2
            simp only [Option.getD_some, Option.isSome_some]
            by_cases hP0 : P = 0
            · have HNN2 := Lib.hid (HNO.out (fun r h => by obtain ⟨M, P', h0, _, _, h1⟩ := HPP.out r h; rw [hd2] at h1; cases h1; omega))
              have hP0I : ((P : Nat) : Int) = 0 := by omega
              clear HPP HTX HNO HRD hd1 hd2 hP0
              go_wp2_with fail
              go_ret2
              exact ⟨by first | rfl | exact True.intro, .inr ⟨HNN2.out, rfl⟩⟩
            · have hP0I : ¬ ((P : Nat) : Int) = 0 := by omega
              have HBI := Lib.hid (fun w => refBitsOf_any M (-(P : Int)) w (by omega) (by omega) (by omega))
              have HYES := Lib.hid (fun r (hf : FinB M (-(P : Int)) r) => HRD.out r (HTX.out M P r hd1 hd2 (by omega) hf))
              have HNOT := Lib.hid (fun (hno : ∀ r, ¬ FinB M (-(P : Int)) r) => HNO.out (fun r h => by
                obtain ⟨M', P', _, hf, h1, h2⟩ := HPP.out r h
                rw [hd1] at h1; rw [hd2] at h2
                cases h1; cases h2
                exact hno r hf))
              clear HPP HTX HNO HRD hd1 hd2
              go_wp2_with fail
              refine (HBI.out _).mono ?_
              rintro e w1 ⟨rfl, ⟨r, hf2, rfl⟩ | ⟨hno, rfl⟩⟩
              · have HR := Lib.hid (HYES.out r hf2)
                have hr2 := hf2.inf
                have hri : (r : Int) < 9218868437227405312 := by unfold infR at hr2; omega
                clear hf2 hr2 HYES HNOT
                obtain ⟨b, hb⟩ : ∃ b : Nat, b = 9223372036854775808 + r := ⟨_, rfl⟩
                have hbI : (9223372036854775808 : Int) + (r : Int) = (b : Int) := by omega
                rw [← hb] at HR
                clear hb
                go_wp2_with fail
                go_ret2
                exact ⟨by first | rfl | exact True.intro, .inl ⟨_, HR.out, rfl⟩⟩
              · have HNN2 := Lib.hid (HNOT.out hno)
                clear hno HYES HNOT
                go_wp2_with fail
                go_ret2
                exact ⟨by first | rfl | exact True.intro, .inr ⟨HNN2.out, rfl⟩⟩

end Go.Proofs.YtehminpiejophaaDoor
