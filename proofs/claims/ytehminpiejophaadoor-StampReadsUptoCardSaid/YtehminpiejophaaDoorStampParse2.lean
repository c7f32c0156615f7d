/- stamp.parse: the walks. -/
import Derived.Test.YtehminpiejophaaDoorStampParse
set_option linter.unusedVariables false
set_option linter.unusedSimpArgs false
namespace Go.Proofs.YtehminpiejophaaDoor
open Go.RowKit

set_option maxRecDepth 100000 in
set_option maxHeartbeats 4000000 in
theorem parse_nan (w : World) : Calls Tryd.prog 27 #[.string (strL [110, 97, 110])] w (ReadPost w [110, 97, 110]) := by
  have h1 : ((strL [110, 97, 110]).toList == [110, 97, 110]) = true := by rw [toList_strL]; rfl
  have HN := Lib.hid (fun w => nan_any w)
  have HC := Lib.hid (fun w => canon_any 9221120237041090561 w)
  rw [show canonB 9221120237041090561 = nanB by unfold canonB; rw [if_pos (by rw [nan_iff]; decide)]] at HC
  generalize strL [110, 97, 110] = q at *
  go_enter Tryd.func27, Tryd.ntmps27
  go_wp2_with fail
  refine (HN.out _).mono ?_
  rintro e w2 ⟨rfl, rfl⟩
  go_wp2_with fail
  refine (HC.out _).mono ?_
  rintro e w3 ⟨rfl, hb⟩
  have HB := Lib.hid hb
  clear hb
  go_wp2_with fail
  go_ret
  exact ⟨HB.out, .inl ⟨nanB, reads_nan, rfl⟩⟩
set_option maxRecDepth 100000 in
set_option maxHeartbeats 4000000 in
theorem parse_inf (w : World) : Calls Tryd.prog 27 #[.string (strL [105, 110, 102])] w (ReadPost w [105, 110, 102]) := by
  have h1 : ((strL [105, 110, 102]).toList == [110, 97, 110]) = false := by rw [toList_strL]; rfl
  have h2 : ((strL [105, 110, 102]).toList == [105, 110, 102]) = true := by rw [toList_strL]; rfl
  have HN := Lib.hid (fun w => inf1_any w)
  generalize strL [105, 110, 102] = q at *
  go_enter Tryd.func27, Tryd.ntmps27
  go_wp2_with fail
  refine (HN.out _).mono ?_
  rintro e w2 ⟨rfl, rfl⟩
  go_wp2_with fail
  go_ret
  exact ⟨Below.refl _ _, .inl ⟨infR, reads_inf, rfl⟩⟩
set_option maxRecDepth 100000 in
set_option maxHeartbeats 4000000 in
theorem parse_zero (w : World) : Calls Tryd.prog 27 #[.string (strL [48])] w (ReadPost w [48]) := by
  have h1 : ((strL [48]).toList == [110, 97, 110]) = false := by rw [toList_strL]; rfl
  have h2 : ((strL [48]).toList == [105, 110, 102]) = false := by rw [toList_strL]; rfl
  have h3 : ((strL [48]).toList == [48]) = true := by rw [toList_strL]; rfl
  have HM := Lib.hid (fun w => cutm_any [48] w)
  rw [show Lib.hasPrefix [48] [45] = false by rfl] at HM
  generalize strL (Lib.trimPrefix [48] [45]) = t at *
  generalize strL [48] = q at *
  go_enter Tryd.func27, Tryd.ntmps27
  go_wp2_with fail
  refine (HM.out _).mono ?_
  rintro e w2 ⟨rfl, rfl⟩
  go_wp2_with fail
  go_ret
  exact ⟨Below.refl _ _, .inl ⟨0, reads_zero, rfl⟩⟩

/-- the parts of a text that can be read -/
theorem reads_parts {l a e : List UInt8} {ok : Bool} (h1 : l ≠ [110, 97, 110]) (h2 : l ≠ [105, 110, 102]) (h3 : l ≠ [48]) (h4 : Lib.hasPrefix l [45] = false) (hc : Lib.cut l [112] = (a, e, ok)) {b : Nat} (h : Reads l b) :
    ∃ M Z, FinText b M Z ∧ b < infR ∧ ok = true ∧ a = Lib.decDigits M ∧ e = Lib.itoa Z := by
  obtain ⟨M, Z, hf, hl, h0, hi⟩ := reads_shape h h1 h2 h3 h4
  rw [hl, cut_at _ _ 112 (digs_no (dec_digs M) (by decide))] at hc
  injection hc with hc1 hc2
  injection hc2 with hc2 hc3
  exact ⟨M, Z, hf, hi, hc3.symm, hc1.symm, hc2.symm⟩
theorem itoa_cases (Z : Int) : (Z < 0 ∧ Lib.hasPrefix (Lib.itoa Z) [45] = true ∧ Lib.trimPrefix (Lib.itoa Z) [45] = Lib.decDigits Z.natAbs) ∨ (0 ≤ Z ∧ Lib.hasPrefix (Lib.itoa Z) [45] = false ∧ Lib.trimPrefix (Lib.itoa Z) [45] = Lib.decDigits Z.natAbs) := by
  unfold Lib.itoa
  by_cases h : Z < 0
  · left
    rw [if_pos h]
    refine ⟨h, by simp [Lib.hasPrefix, List.isPrefixOf], by simp [Lib.trimPrefix, Lib.hasPrefix, List.isPrefixOf]⟩
  · right
    rw [if_neg h]
    have e : Z.toNat = Z.natAbs := by omega
    rw [e]
    have hp : Lib.hasPrefix (Lib.decDigits Z.natAbs) [45] = false := by
      have hd := dec_digs Z.natAbs
      cases hx : Lib.decDigits Z.natAbs with
      | nil => rfl
      | cons c r =>
        rw [hx] at hd
        have := hd c (List.mem_cons_self ..)
        have hne : (45 : UInt8) ≠ c := fun h => by rw [← h] at this; exact absurd this.1 (by decide)
        simp [Lib.hasPrefix, List.isPrefixOf, hne]
    exact ⟨by omega, hp, by unfold Lib.trimPrefix; rw [hp]; simp⟩
theorem not_reads {l : List UInt8} (h : ¬ ∃ b, Reads l b) : ∀ b, ¬ Reads l b := fun b hb => h ⟨b, hb⟩

set_option maxRecDepth 100000 in
set_option maxHeartbeats 4000000 in
theorem parse_genM (l a e : List UInt8) (ok : Bool) (w : World) (hl : l.length ≤ 4294967280) (hg : Globs w) (h1 : l ≠ [110, 97, 110]) (h2 : l ≠ [105, 110, 102]) (h3 : l ≠ [48]) (h4 : Lib.hasPrefix l [45] = false)
    (hc : Lib.cut l [112] = (a, e, ok)) (hm : Lib.hasPrefix e [45] = true) (hal : a.length ≤ 4294967280) (hel : e.length ≤ 4294967280) :
    Calls Tryd.prog 27 #[.string (strL l)] w (ReadPost w l) := by
  have HPT := Lib.hid (fun b (h : Reads l b) => reads_parts h1 h2 h3 h4 hc h)
  have q1 : ((strL l).toList == [110, 97, 110]) = false := by rw [toList_strL]; simpa using h1
  have q2 : ((strL l).toList == [105, 110, 102]) = false := by rw [toList_strL]; simpa using h2
  have q3 : ((strL l).toList == [48]) = false := by rw [toList_strL]; simpa using h3
  have HM := Lib.hid (fun w => cutm_any l w)
  rw [h4] at HM
  have HME := Lib.hid (fun w => cutm_any e w)
  rw [hm] at HME
  have HCU := Lib.hid (fun w hg => cutp_any l a e ok w hl hg hc)
  have HG := Lib.hid hg
  have HTE := Lib.hid (show (Lib.trimPrefix e [45]).length ≤ 4294967280 by
    unfold Lib.trimPrefix
    by_cases hx : Lib.hasPrefix e [45] = true
    all_goals simp only [hx, if_true, if_false, Bool.false_eq_true]
    · rw [List.length_drop]; omega
    · exact hel)
  have HNE := Lib.hid (fun w hg => number_any (Lib.trimPrefix e [45]) 1100 w HTE.out hg)
  have HNA := Lib.hid (fun w hg => number_any a 9007199254740992 w hal hg)
  have HMI := Lib.hid hm
  have HNP := Lib.hid (show ∀ b, Reads l b → ok = true ∧ ∃ M Z, FinText b M Z ∧ b < infR ∧ numP (Lib.trimPrefix e [45]) 1100 = some (Z.natAbs : Int) ∧ numP a 9007199254740992 = some (M : Int) ∧ Z < 0 by
    intro b hb
    obtain ⟨M, Z, hf, hi, h5, h6, h7⟩ := HPT.out b hb
    have hlo := hf.lo
    have hhi := hf.hi
    have hlt := hf.lt
    refine ⟨h5, M, Z, hf, hi, ?_, ?_, ?_⟩
    · rcases itoa_cases Z with ⟨hz, hz1, hz2⟩ | ⟨hz, hz1, hz2⟩
      · rw [h7, hz2, numP_dec (by omega) (by omega)]
      · rw [h7, hz2, numP_dec (by omega) (by omega)]
    · rw [h6, numP_dec (by omega) (by omega)]
    · rcases itoa_cases Z with ⟨hz, hz1, hz2⟩ | ⟨hz, hz1, hz2⟩
      · exact hz
      · rw [h7] at HMI; rw [HMI.out] at hz1; cases hz1)
  have HQ := Lib.hid (show ∀ b, printL b = l → ∃ q, (⟨(printL b).toArray⟩ : ByteArray) = q ∧ (q.toList == (strL l).toList) = true from fun b hb => ⟨_, rfl, by rw [hb]; exact beq_self_eq_true _⟩)
  have HQ2 := Lib.hid (show ∀ b, printL b ≠ l → ((⟨(printL b).toArray⟩ : ByteArray).toList == (strL l).toList) = false from fun b hb => by
    rw [ByteArray.toList_eq, toList_strL]
    simpa using hb)
  have HQ1 := Lib.hid (show ∀ b, printL b = l → ((⟨(printL b).toArray⟩ : ByteArray).toList == (strL l).toList) = true from fun b hb => by
    rw [ByteArray.toList_eq, toList_strL]
    simpa using hb)
  have HL1 := Lib.hid h1
  clear HQ hal hel hc hm h1 h2 h3 h4 hl hg HPT HTE
  generalize strL (Lib.trimPrefix l [45]) = lt at *
  generalize strL (Lib.trimPrefix e [45]) = te at *
  generalize hne : numP (Lib.trimPrefix e [45]) 1100 = ne at *
  have HNER := Lib.hid hne
  clear hne
  generalize hna : numP a 9007199254740992 = na at *
  have HNAR := Lib.hid hna
  clear hna
  generalize strL l = q at *
  generalize strL a = qa at *
  generalize strL e = qe at *
  go_enter Tryd.func27, Tryd.ntmps27
  go_wp2_with fail
  refine (HM.out _).mono ?_
  rintro x w2 ⟨rfl, rfl⟩
  go_wp2_with fail
  refine (HCU.out _ HG.out).mono ?_
  rintro x w3 ⟨rfl, hb3⟩
  have HB3 := Lib.hid hb3
  have HG3 := Lib.hid (HG.out.go hb3)
  clear hb3 HM HCU
  cases ok with
  | false =>
    go_wp2_with fail
    exact ⟨rfl, HB3.out, .inr ⟨fun b hb => by simpa using HNP.out b hb, rfl⟩⟩
  | true =>
    go_wp2_with fail
    refine (HME.out _).mono ?_
    rintro x w4 ⟨rfl, rfl⟩
    clear HME
    go_wp2_with fail
    refine (HNE.out _ HG3.out).mono ?_
    rintro x w5 hb5
    have HB5 := Lib.hid (HB3.out.trans (hb5.1.mono HB3.out.size))
    have HG5 := Lib.hid (HG3.out.go hb5.1)
    cases ne with
    | none =>
      have hx := hb5.2
      simp only [] at hx
      subst hx
      clear hb5
      go_wp2_with fail
      exact ⟨rfl, HB5.out, .inr ⟨fun b hb => by simpa using HNP.out b hb, rfl⟩⟩
    | some v =>
      have hx := hb5.2
      simp only [] at hx
      subst hx
      clear hb5 HNE HG3 HB3
      have hrg := numP_range HNER.out
      have hv0 := hrg.1
      have hv1 := hrg.2
      clear hrg HNER
      obtain ⟨P, hP⟩ : ∃ P, -v = P := ⟨_, rfl⟩
      have HP := Lib.hid (show P = -v from hP.symm)
      go_wp2_with fail
      refine (HNA.out _ HG5.out).mono ?_
      rintro x w6 hb6
      have HB6 := Lib.hid (HB5.out.trans (hb6.1.mono HB5.out.size))
      have HG6 := Lib.hid (HG5.out.go hb6.1)
      cases na with
      | none =>
        have hx := hb6.2
        simp only [] at hx
        subst hx
        clear hb6
        go_wp2_with fail
        exact ⟨rfl, HB6.out, .inr ⟨fun b hb => by simpa using HNP.out b hb, rfl⟩⟩
      | some n =>
        have hx := hb6.2
        simp only [] at hx
        subst hx
        clear hb6 HNA HG5 HB5
        have hrg := numP_range HNAR.out
        obtain ⟨N, rfl⟩ : ∃ N : Nat, n = (N : Int) := ⟨n.toNat, by omega⟩
        have hN : N ≤ 9007199254740992 := by omega
        clear hrg HNAR
        have HLD := Lib.hid (fun w => ldexp_any N P w hN (by omega) (by omega))
        have HEX := Lib.hid (show ∀ B, (1 ≤ N → -1074 ≤ P → ∀ R, R < infR → N * 2 ^ (P + 1074).toNat = V R → B = R) → ∀ b, Reads l b → B = b from fun B hB b hb => by
          obtain ⟨_, M, Z, hf, hi, h1, h2, h3⟩ := HNP.out b hb
          have e1 : v = (Z.natAbs : Int) := by simpa using h1
          have e2 : N = M := Int.ofNat.inj (show (N : Int) = (M : Int) by simpa using h2)
          have e3 : P = Z := by rw [HP.out]; omega
          subst e2 e3
          exact hB (fin_lt hf) hf.lo b hi hf.val)
        have HZ := Lib.hid (show P = 0 → ∀ b, ¬ Reads l b from fun h0 b hb => by
          obtain ⟨_, M, Z, hf, hi, h1, h2, h3⟩ := HNP.out b hb
          have e1 : v = (Z.natAbs : Int) := by simpa using h1
          rw [HP.out] at h0; omega)
        clear hN
        go_wp2_with fail
        refine (HLD.out _).mono ?_
        rintro x w7 ⟨B, rfl, rfl, hB1, hB2⟩
        have HPR := Lib.hid (print_any B w7 hB1 HG6.out.pow)
        have HBE := Lib.hid (HEX.out B hB2)
        have HBL := Lib.hid hB1
        clear hB1 hB2 HEX HLD
        by_cases h0 : P = 0
        · have HR := Lib.hid (HZ.out h0)
          go_wp2_with fail
          exact ⟨rfl, HB6.out, .inr ⟨HR.out, rfl⟩⟩
        · go_wp2_with fail
          refine HPR.out.mono ?_
          rintro x w8 ⟨rfl, hb8⟩
          have HB8 := Lib.hid (HB6.out.trans (hb8.mono HB6.out.size))
          clear hb8
          by_cases hpl : printL B = l
          · have hq := HQ1.out B hpl
            have hqn : ((⟨(printL B).toArray⟩ : ByteArray).toList != q.toList) = false := by rw [bne, hq]; rfl
            have HR := Lib.hid (show Reads l B from ⟨hpl, by
              unfold canonB
              rw [if_neg ?_]
              intro hn
              unfold printL at hpl
              rw [if_pos hn] at hpl
              exact HL1.out hpl.symm, HBL.out⟩)
            clear hpl HQ1 HQ2
            generalize (⟨(printL B).toArray⟩ : ByteArray) = pb at *
            go_wp2_with fail
            go_ret
            exact ⟨HB8.out, .inl ⟨B, HR.out, rfl⟩⟩
          · have hq := HQ2.out B hpl
            have hqn : ((⟨(printL B).toArray⟩ : ByteArray).toList != q.toList) = true := by rw [bne, hq]; rfl
            have HR := Lib.hid (show ∀ b, ¬ Reads l b from fun b hb => by
              have := HBE.out b hb
              rw [this] at hpl
              exact hpl hb.text)
            clear hpl HQ1 HQ2
            generalize (⟨(printL B).toArray⟩ : ByteArray) = pb at *
            go_wp2_with fail
            exact ⟨rfl, HB8.out, .inr ⟨HR.out, rfl⟩⟩

set_option maxRecDepth 100000 in
set_option maxHeartbeats 4000000 in
theorem parse_genP (l a e : List UInt8) (ok : Bool) (w : World) (hl : l.length ≤ 4294967280) (hg : Globs w) (h1 : l ≠ [110, 97, 110]) (h2 : l ≠ [105, 110, 102]) (h3 : l ≠ [48]) (h4 : Lib.hasPrefix l [45] = false)
    (hc : Lib.cut l [112] = (a, e, ok)) (hm : Lib.hasPrefix e [45] = false) (hal : a.length ≤ 4294967280) (hel : e.length ≤ 4294967280) :
    Calls Tryd.prog 27 #[.string (strL l)] w (ReadPost w l) := by
  have HPT := Lib.hid (fun b (h : Reads l b) => reads_parts h1 h2 h3 h4 hc h)
  have q1 : ((strL l).toList == [110, 97, 110]) = false := by rw [toList_strL]; simpa using h1
  have q2 : ((strL l).toList == [105, 110, 102]) = false := by rw [toList_strL]; simpa using h2
  have q3 : ((strL l).toList == [48]) = false := by rw [toList_strL]; simpa using h3
  have HM := Lib.hid (fun w => cutm_any l w)
  rw [h4] at HM
  have HME := Lib.hid (fun w => cutm_any e w)
  rw [hm] at HME
  have HCU := Lib.hid (fun w hg => cutp_any l a e ok w hl hg hc)
  have HG := Lib.hid hg
  have HTE := Lib.hid (show (Lib.trimPrefix e [45]).length ≤ 4294967280 by
    unfold Lib.trimPrefix
    by_cases hx : Lib.hasPrefix e [45] = true
    all_goals simp only [hx, if_true, if_false, Bool.false_eq_true]
    · rw [List.length_drop]; omega
    · exact hel)
  have HNE := Lib.hid (fun w hg => number_any (Lib.trimPrefix e [45]) 1100 w HTE.out hg)
  have HNA := Lib.hid (fun w hg => number_any a 9007199254740992 w hal hg)
  have HMI := Lib.hid hm
  have HNP := Lib.hid (show ∀ b, Reads l b → ok = true ∧ ∃ M Z, FinText b M Z ∧ b < infR ∧ numP (Lib.trimPrefix e [45]) 1100 = some (Z.natAbs : Int) ∧ numP a 9007199254740992 = some (M : Int) ∧ 0 ≤ Z by
    intro b hb
    obtain ⟨M, Z, hf, hi, h5, h6, h7⟩ := HPT.out b hb
    have hlo := hf.lo
    have hhi := hf.hi
    have hlt := hf.lt
    refine ⟨h5, M, Z, hf, hi, ?_, ?_, ?_⟩
    · rcases itoa_cases Z with ⟨hz, hz1, hz2⟩ | ⟨hz, hz1, hz2⟩
      · rw [h7, hz2, numP_dec (by omega) (by omega)]
      · rw [h7, hz2, numP_dec (by omega) (by omega)]
    · rw [h6, numP_dec (by omega) (by omega)]
    · rcases itoa_cases Z with ⟨hz, hz1, hz2⟩ | ⟨hz, hz1, hz2⟩
      · rw [h7] at HMI; rw [HMI.out] at hz1; cases hz1
      · exact hz)
  have HQ := Lib.hid (show ∀ b, printL b = l → ∃ q, (⟨(printL b).toArray⟩ : ByteArray) = q ∧ (q.toList == (strL l).toList) = true from fun b hb => ⟨_, rfl, by rw [hb]; exact beq_self_eq_true _⟩)
  have HQ2 := Lib.hid (show ∀ b, printL b ≠ l → ((⟨(printL b).toArray⟩ : ByteArray).toList == (strL l).toList) = false from fun b hb => by
    rw [ByteArray.toList_eq, toList_strL]
    simpa using hb)
  have HQ1 := Lib.hid (show ∀ b, printL b = l → ((⟨(printL b).toArray⟩ : ByteArray).toList == (strL l).toList) = true from fun b hb => by
    rw [ByteArray.toList_eq, toList_strL]
    simpa using hb)
  have HL1 := Lib.hid h1
  clear HQ hal hel hc hm h1 h2 h3 h4 hl hg HPT HTE
  generalize strL (Lib.trimPrefix l [45]) = lt at *
  generalize strL (Lib.trimPrefix e [45]) = te at *
  generalize hne : numP (Lib.trimPrefix e [45]) 1100 = ne at *
  have HNER := Lib.hid hne
  clear hne
  generalize hna : numP a 9007199254740992 = na at *
  have HNAR := Lib.hid hna
  clear hna
  generalize strL l = q at *
  generalize strL a = qa at *
  generalize strL e = qe at *
  go_enter Tryd.func27, Tryd.ntmps27
  go_wp2_with fail
  refine (HM.out _).mono ?_
  rintro x w2 ⟨rfl, rfl⟩
  go_wp2_with fail
  refine (HCU.out _ HG.out).mono ?_
  rintro x w3 ⟨rfl, hb3⟩
  have HB3 := Lib.hid hb3
  have HG3 := Lib.hid (HG.out.go hb3)
  clear hb3 HM HCU
  cases ok with
  | false =>
    go_wp2_with fail
    exact ⟨rfl, HB3.out, .inr ⟨fun b hb => by simpa using HNP.out b hb, rfl⟩⟩
  | true =>
    go_wp2_with fail
    refine (HME.out _).mono ?_
    rintro x w4 ⟨rfl, rfl⟩
    clear HME
    go_wp2_with fail
    refine (HNE.out _ HG3.out).mono ?_
    rintro x w5 hb5
    have HB5 := Lib.hid (HB3.out.trans (hb5.1.mono HB3.out.size))
    have HG5 := Lib.hid (HG3.out.go hb5.1)
    cases ne with
    | none =>
      have hx := hb5.2
      simp only [] at hx
      subst hx
      clear hb5
      go_wp2_with fail
      exact ⟨rfl, HB5.out, .inr ⟨fun b hb => by simpa using HNP.out b hb, rfl⟩⟩
    | some v =>
      have hx := hb5.2
      simp only [] at hx
      subst hx
      clear hb5 HNE HG3 HB3
      have hrg := numP_range HNER.out
      have hv0 := hrg.1
      have hv1 := hrg.2
      clear hrg HNER
      have HP := Lib.hid (show v = v from rfl)
      go_wp2_with fail
      refine (HNA.out _ HG5.out).mono ?_
      rintro x w6 hb6
      have HB6 := Lib.hid (HB5.out.trans (hb6.1.mono HB5.out.size))
      have HG6 := Lib.hid (HG5.out.go hb6.1)
      cases na with
      | none =>
        have hx := hb6.2
        simp only [] at hx
        subst hx
        clear hb6
        go_wp2_with fail
        exact ⟨rfl, HB6.out, .inr ⟨fun b hb => by simpa using HNP.out b hb, rfl⟩⟩
      | some n =>
        have hx := hb6.2
        simp only [] at hx
        subst hx
        clear hb6 HNA HG5 HB5
        have hrg := numP_range HNAR.out
        obtain ⟨N, rfl⟩ : ∃ N : Nat, n = (N : Int) := ⟨n.toNat, by omega⟩
        have hN : N ≤ 9007199254740992 := by omega
        clear hrg HNAR
        have HLD := Lib.hid (fun w => ldexp_any N v w hN (by omega) (by omega))
        have HEX := Lib.hid (show ∀ B, (1 ≤ N → -1074 ≤ v → ∀ R, R < infR → N * 2 ^ (v + 1074).toNat = V R → B = R) → ∀ b, Reads l b → B = b from fun B hB b hb => by
          obtain ⟨_, M, Z, hf, hi, h1, h2, h3⟩ := HNP.out b hb
          have e1 : v = (Z.natAbs : Int) := by simpa using h1
          have e2 : N = M := Int.ofNat.inj (show (N : Int) = (M : Int) by simpa using h2)
          have e3 : v = Z := by omega
          subst e2 e3
          exact hB (fin_lt hf) hf.lo b hi hf.val)
        clear hN
        go_wp2_with fail
        refine (HLD.out _).mono ?_
        rintro x w7 ⟨B, rfl, rfl, hB1, hB2⟩
        have HPR := Lib.hid (print_any B w7 hB1 HG6.out.pow)
        have HBE := Lib.hid (HEX.out B hB2)
        have HBL := Lib.hid hB1
        clear hB1 hB2 HEX HLD
        go_wp2_with fail
        refine HPR.out.mono ?_
        rintro x w8 ⟨rfl, hb8⟩
        have HB8 := Lib.hid (HB6.out.trans (hb8.mono HB6.out.size))
        clear hb8
        by_cases hpl : printL B = l
        · have hq := HQ1.out B hpl
          have hqn : ((⟨(printL B).toArray⟩ : ByteArray).toList != q.toList) = false := by rw [bne, hq]; rfl
          have HR := Lib.hid (show Reads l B from ⟨hpl, by
            unfold canonB
            rw [if_neg ?_]
            intro hn
            unfold printL at hpl
            rw [if_pos hn] at hpl
            exact HL1.out hpl.symm, HBL.out⟩)
          clear hpl HQ1 HQ2
          generalize (⟨(printL B).toArray⟩ : ByteArray) = pb at *
          go_wp2_with fail
          go_ret
          exact ⟨HB8.out, .inl ⟨B, HR.out, rfl⟩⟩
        · have hq := HQ2.out B hpl
          have hqn : ((⟨(printL B).toArray⟩ : ByteArray).toList != q.toList) = true := by rw [bne, hq]; rfl
          have HR := Lib.hid (show ∀ b, ¬ Reads l b from fun b hb => by
            have := HBE.out b hb
            rw [this] at hpl
            exact hpl hb.text)
          clear hpl HQ1 HQ2
          generalize (⟨(printL B).toArray⟩ : ByteArray) = pb at *
          go_wp2_with fail
          exact ⟨rfl, HB8.out, .inr ⟨HR.out, rfl⟩⟩
end Go.Proofs.YtehminpiejophaaDoor
