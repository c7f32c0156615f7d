/- The walk of the law WeaveMarks: in a text with a conflict each line ends, but perhaps the last. -/
import Derived.Test.YtbdlpigokahnoaaLawWeaveSides
import Derived.Test.YtbdlpigokahnoaaLinesSplit
set_option linter.unusedVariables false
namespace Go.Proofs.Ytbdlpigokahnoaa
open Go.RowKit

theorem split_fine : ∀ (f : Nat) (l : List UInt8), l.length ≤ f → LastOnly (splitG l) ∧ Full (splitG l) ∧ (splitG l).length ≤ l.length ∧ ∀ s ∈ splitG l, s.size ≤ l.length
  | 0, l, h => by
    have : l = [] := List.eq_nil_of_length_eq_zero (by omega)
    subst this
    rw [splitG_nil]
    exact ⟨AllEnd.nil.only, (fun s h => by cases h), Nat.le_refl _, (fun s h => by cases h)⟩
  | f + 1, l, h => by
    by_cases hl : l = []
    · subst hl
      rw [splitG_nil]
      exact ⟨AllEnd.nil.only, (fun s h => by cases h), Nat.le_refl _, (fun s h => by cases h)⟩
    · have hp := lineLen_pos hl
      have hle := lineLen_le l
      have hdl : (l.drop (lineLen l)).length ≤ f := by rw [List.length_drop]; omega
      obtain ⟨h1, h2, h3, h4⟩ := split_fine f (l.drop (lineLen l)) hdl
      have hsz : (⟨(l.take (lineLen l)).toArray⟩ : ByteArray).size = lineLen l := by
        show (l.take (lineLen l)).toArray.size = _
        rw [List.size_toArray, List.length_take]; omega
      rw [splitG_cons hl]
      rw [List.length_drop] at h3 h4
      refine ⟨?_, ?_, ?_, ?_⟩
      · by_cases hd : l.drop (lineLen l) = []
        · rw [hd, splitG_nil]
          intro s hs; cases hs
        · have hlt : lineLen l < l.length := by
            rcases Nat.lt_or_ge (lineLen l) l.length with h' | h'
            · exact h'
            · exact absurd (List.drop_eq_nil_of_le h') hd
          have hi : ¬ Lib.indexByte l 10 = -1 := fun e => by unfold lineLen at hlt; rw [if_pos e] at hlt; omega
          have hll : lineLen l = (Lib.indexByte l 10).toNat + 1 := by unfold lineLen; rw [if_neg hi]
          obtain ⟨i1, i2⟩ := indexByte_lt hi
          have hat := (Lib.indexByte_some (show Lib.indexByte l 10 = ((Lib.indexByte l 10).toNat : Int) by omega)).1
          have hend : AllEnd [(⟨(l.take (lineLen l)).toArray⟩ : ByteArray)] := fun s hs => by
            rw [List.mem_singleton.1 hs]
            unfold endsNl
            show ((l.take (lineLen l)).toArray.toList.getLast? == some 10) = true
            rw [hll, List.take_add_one, hat]
            simp
          exact hend.appOnly h1
      · intro s hs
        rcases List.mem_cons.1 hs with rfl | hs
        · rw [hsz]; omega
        · exact h2 s hs
      · rw [List.length_cons]; omega
      · intro s hs
        rcases List.mem_cons.1 hs with rfl | hs
        · rw [hsz]; omega
        · have := h4 s hs; omega
theorem conf_take {ps : List Pt} {K : Nat} {p : Pt} (h : ps[K]? = some p) : conflG (ps.take (K + 1)) = conflG (ps.take K) + (if p.1 = 4 then 1 else 0) := by
  rw [List.take_add_one, h]
  unfold conflG
  rw [List.filter_append, List.length_append]
  congr 1
  by_cases h4 : p.1 = 4
  · rw [Option.toList_some, List.filter_cons, if_pos (by simpa using h4), if_pos h4]; rfl
  · rw [Option.toList_some, List.filter_cons, if_neg (by simpa using h4), if_neg h4]; rfl
theorem marks_take {l : List ByteArray} {K : Nat} {s : ByteArray} (h : l[K]? = some s) : marksG (l.take (K + 1)) = marksG (l.take K) + (if s = mMid then 1 else 0) := by
  rw [List.take_add_one, h]
  unfold marksG
  rw [List.filter_append, List.length_append]
  congr 1
  by_cases h4 : s = mMid
  · rw [Option.toList_some, List.filter_cons, if_pos (by rw [h4]; exact mid_beq), if_pos h4]; rfl
  · rw [Option.toList_some, List.filter_cons, if_neg (by simpa using h4), if_neg h4]; rfl
theorem conf_le (ps : List Pt) (K : Nat) : conflG (ps.take K) ≤ ps.length := by
  unfold conflG
  have h1 := List.length_filter_le (fun p : Pt => p.1 == 4) (ps.take K)
  rw [List.length_take] at h1; omega
theorem marks_le (l : List ByteArray) (K : Nat) : marksG (l.take K) ≤ l.length := by
  unfold marksG
  have h1 := List.length_filter_le (fun s : ByteArray => decide (s = mMid)) (l.take K)
  rw [List.length_take] at h1; omega
/-- a line at a place: its last byte, and whether it may lack its end -/
theorem only_at {l : List ByteArray} (h : LastOnly l) {K : Nat} {s : ByteArray} (hs : l[K]? = some s) (he : ¬ endsNl s = true) : K + 1 = l.length := by
  have hlt := (List.getElem?_eq_some_iff.1 hs).1
  rcases Nat.lt_or_ge (K + 1) l.length with h1 | h1
  · refine absurd (h s ?_) he
    have : l.dropLast[K]? = some s := by rw [List.getElem?_dropLast, if_pos (by omega)]; exact hs
    exact List.mem_of_getElem? this
  · omega
theorem last_byte {s : ByteArray} (h : s.size ≠ 0) : ∃ (m : Nat) (y : UInt8), m + 1 = s.size ∧ (∀ h : m < s.size, s[m] = y) ∧ endsNl s = (y == 10) := by
  rcases bytes_cases s with h0 | ⟨xs, y, rfl, hsz⟩
  · exact absurd h0 h
  · refine ⟨xs.length, y, by omega, fun h => ?_, endsNl_snoc xs y⟩
    show (xs ++ [y]).toArray[xs.length]'_ = y
    simp

set_option maxHeartbeats 4000000 in
theorem weaveMarks_any (A : Option Addr) (na ca : Nat) (a : List UInt8) (B : Option Addr) (nb cb : Nat) (b : List UInt8) (C : Option Addr) (nc cc : Nat) (c : List UInt8) (w : World)
    (ha : Sl w 1 A na (bytesV a)) (hca : na ≤ ca) (hcm : ca ≤ maxLen) (hn : na ≤ 1048576) (hb : Sl w 1 B nb (bytesV b)) (hcb : nb ≤ cb) (hcbm : cb ≤ maxLen) (hm : nb ≤ 1048576) (hc : Sl w 1 C nc (bytesV c)) (hcc : nc ≤ cc) (hccm : cc ≤ maxLen) (hr : nc ≤ 1048576) :
    Calls Try.prog 11 #[.slice A na ca, .slice B nb cb, .slice C nc cc] w fun e w' => e = .returned (.bool true) ∧ Below w.heap.size w w' := by
  have hla : a.length = na := by have := ha.1; simpa [bytesV] using this
  have hlb : b.length = nb := by have := hb.1; simpa [bytesV] using this
  have hlc : c.length = nc := by have := hc.1; simpa [bytesV] using this
  obtain ⟨fa1, fa2, fa3, fa4⟩ := split_fine a.length a (Nat.le_refl _)
  obtain ⟨fb1, fb2, fb3, fb4⟩ := split_fine b.length b (Nat.le_refl _)
  obtain ⟨fc1, fc2, fc3, fc4⟩ := split_fine c.length c (Nat.le_refl _)
  have FA := Lib.hid (show LastOnly (splitG a) ∧ Full (splitG a) ∧ Short (splitG a) from ⟨fa1, fa2, fun s hs => by have := fa4 s hs; omega⟩)
  have FB := Lib.hid (show LastOnly (splitG b) ∧ Full (splitG b) ∧ Short (splitG b) from ⟨fb1, fb2, fun s hs => by have := fb4 s hs; omega⟩)
  have FC := Lib.hid (show LastOnly (splitG c) ∧ Full (splitG c) ∧ Short (splitG c) from ⟨fc1, fc2, fun s hs => by have := fc4 s hs; omega⟩)
  clear fa1 fa2 fa4 fb1 fb2 fb4 fc1 fc2 fc4
  have q1 : (splitG a).length ≤ 1048576 := by omega
  have q2 : (splitG b).length ≤ 1048576 := by omega
  have q3 : (splitG c).length ≤ 1048576 := by omega
  clear fa3 fb3 fc3 hla hlb hlc
  have HA := Lib.hid ha
  have HB := Lib.hid hb
  have HC := Lib.hid hc
  clear ha hb hc
  go_enter Try.func11, Try.ntmps11
  go_wp2_with fail
  refine (awake8_any _).mono ?_
  rintro e w1 ⟨rfl, hb1⟩
  have HB1 := Lib.hid hb1
  clear hb1
  go_wp2_with fail
  refine (split_any A na ca a w1 (HA.out.below HB1.out) hca hcm hn).mono ?_
  rintro e w2 ⟨A2, c2, rfl, ho2, r2, m2, hb2⟩
  have HB2 := Lib.hid (HB1.out.trans (hb2.mono HB1.out.size))
  have CA := Lib.hid (Came.mk (Sl.ofOwn ho2) r2 m2 FA.out.2.2)
  clear ho2 hb2 r2 m2
  generalize splitG a = x at *
  go_wp2_with fail
  refine (split_any B nb cb b w2 (HB.out.below HB2.out) hcb hcbm hm).mono ?_
  rintro e w3 ⟨A3, c3, rfl, ho3, r3, m3, hb3⟩
  have HB3 := Lib.hid (HB2.out.trans (hb3.mono HB2.out.size))
  have CA3 := Lib.hid (CA.out.below hb3)
  have CB := Lib.hid (Came.mk (Sl.ofOwn ho3) r3 m3 FB.out.2.2)
  clear ho3 hb3 r3 m3 CA
  generalize splitG b = y at *
  go_wp2_with fail
  refine (split_any C nc cc c w3 (HC.out.below HB3.out) hcc hccm hr).mono ?_
  rintro e w4 ⟨A4, c4, rfl, ho4, r4, m4, hb4⟩
  have HB4 := Lib.hid (HB3.out.trans (hb4.mono HB3.out.size))
  have CA4 := Lib.hid (CA3.out.below hb4)
  have CB4 := Lib.hid (CB.out.below hb4)
  have CC4 := Lib.hid (Came.mk (Sl.ofOwn ho4) r4 m4 FC.out.2.2)
  clear ho4 hb4 r4 m4 CA3 CB HA HB HC
  generalize splitG c = z at *
  have hT := merge_text_len x y z kl kr
  have hP := merge_length x y z
  have HCF := Lib.hid (clean_conf (merge_ok x y z))
  have HMC := Lib.hid (marks_conf (o := kl) (t := kr) (ps := mergeG x y z))
  obtain ⟨ef1, ef2, ef3⟩ := merge_flat x y z
  have HFU := Lib.hid (text_full (o := kl) (t := kr) (ps := mergeG x y z) (by rw [ef1]; exact FA.out.2.1) (by rw [ef2]; exact FB.out.2.1) (by rw [ef3]; exact FC.out.2.1))
  have HSZ := Lib.hid (text_size (o := kl) (t := kr) (k := 100000000) (by decide) (by decide) (merge_short FA.out.2.2 FB.out.2.2 FC.out.2.2))
  have HLO := Lib.hid (text_only (o := kl) (t := kr) (merge_fin FA.out.1 FB.out.1 FC.out.1))
  clear ef1 ef2 ef3
  generalize hX : x.length = n at *
  generalize hY : y.length = m at *
  generalize hZ : z.length = r at *
  clear hX hY hZ
  go_wp2_with fail
  refine (small_any A2 A3 A4 n m r c2 c3 c4 w4 (by omega) (by omega) (by omega)).mono ?_
  by_cases hs : n ≤ 200 ∧ m ≤ 200 ∧ r ≤ 200
  · rw [small_three hs]
    rintro e w' ⟨rfl, rfl⟩
    obtain ⟨hn2, hm2, hr2⟩ := hs
    go_wp2_with fail
    refine (mergeC_any CA4.out CB4.out CC4.out (by omega) (by omega) (by omega)).mono ?_
    rintro e w5 ⟨P, k, cP, rfl, ho, hb5⟩
    have HO := Lib.hid ho
    have HB5 := Lib.hid (HB4.out.trans (hb5.mono HB4.out.size))
    clear ho hb5
    go_wp2_with fail
    refine (textC_any (a := kl) (b := kr) HO.out CA4.out CB4.out CC4.out (by omega) (by omega) (by omega) (by decide) (by decide)).mono ?_
    rw [HCF.out]
    generalize textG kl kr (mergeG x y z) = T at *
    generalize mergeG x y z = ps at *
    rintro e w6 ⟨A6, c6, rfl, ho6, r6, m6, l6, hb6⟩
    have HB6 := Lib.hid (HB5.out.trans (hb6.mono HB5.out.size))
    have HO6 := Lib.hid (HO.out.below hb6)
    have HS6 := Lib.hid (Sl.ofOwn ho6)
    have hk : ps.length = k := HO.out.1
    subst hk
    clear ho6 hb6 HO CA4 CB4 CC4 HCF FA FB FC
    generalize hL : T.length = L at *
    have HL := Lib.hid hL
    clear hL
    go_wp2_with fail
    go_loopw [15, 49] (fun q i wr => ∃ K : Nat, i = .int .i64 K ∧ q = .int .i64 (conflG (ps.take K) : Nat) ∧ K ≤ ps.length ∧ Below w6.heap.size w6 wr) (fun _ i _ => ps.length - (intOf i).toNat)
    case atStart => exact ⟨0, rfl, rfl, Nat.zero_le _, Below.refl _ _⟩
    case round =>
      obtain ⟨K, rfl, rfl, hK, hbr⟩ := hrel
      by_cases hlt : K < ps.length
      · obtain ⟨bb, off, p1, p2, p3, p4, B1, B2, B3, n1, n2, n3, d1, d2, d3, rfl, hbb, hx, hwf, k0, k1, k2, k3, -⟩ := pt_look HO6.out.sl rfl hlt
        have k0 := (hbr.cell hbb).trans k0
        have k1 := (hbr.cell hbb).trans k1
        have k2 := (hbr.cell hbb).trans k2
        have k3 := (hbr.cell hbb).trans k3
        have HCT := Lib.hid (conf_take hx)
        have hcl := conf_le ps K
        have hbn := Lib.hid (hbr.alloc hbr.size (.cells #[.int .i64 p1, .slice B1 n1 d1, .slice B2 n2 d2, .slice B3 n3 d3] 38))
        clear hx hwf hbr
        have hlt' : (K : Int) < (ps.length : Int) := by omega
        generalize conflG (ps.take K) = q at *
        have hq : IntKind.i64.wrap ((q : Int) + 1) = (q : Int) + 1 := IntWalk.i64_in _ (by omega)
        have hk1 : IntKind.i64.wrap ((K : Int) + 1) = (K : Int) + 1 := IntWalk.i64_in _ (by omega)
        by_cases h4 : p1 = 4
        · subst h4
          go_wp2_with fail
          go_roundw
          case rel => exact ⟨K + 1, by go_num, by rw [HCT.out]; go_num, by omega, hbn.out⟩
          case measure => simp [intOf]; omega
        · have e4 : (p1 == 4) = false := by simpa using h4
          have HE : Hid (conflG (ps.take (K + 1)) = q) := Lib.hid (by rw [HCT.out]; simp [h4])
          clear h4
          go_wp2_with fail
          go_roundw
          case rel => exact ⟨K + 1, by go_num, by rw [HE.out], by omega, hbn.out⟩
          case measure => simp [intOf]; omega
      · obtain rfl : K = ps.length := by omega
        have hct : ps.take ps.length = ps := List.take_length
        rw [hct]
        have HBR := Lib.hid hbr
        clear hct hbr hlt
        go_wp2_with fail
        go_loopw [14, 61] (fun q i wr2 => ∃ K : Nat, i = .int .i64 K ∧ q = .int .i64 (marksG (T.take K) : Nat) ∧ K ≤ L ∧ wr2 = wr) (fun _ i _ => L - (intOf i).toNat)
        case atStart => exact ⟨0, rfl, rfl, Nat.zero_le _, rfl⟩
        case round =>
          obtain ⟨K, rfl, rfl, hK2, rfl⟩ := hrel
          by_cases hlt : K < L
          · obtain ⟨bt, ot, s, rfl, hbt, hcs, hx⟩ := strV_look (HS6.out.below HBR.out) hlt
            have hfs := HFU.out s (List.mem_of_getElem? hx)
            obtain ⟨mm, yb, hmm, hgy, hen⟩ := last_byte hfs
            have hmt := marks_take hx
            have hml := marks_le T K
            have hon : ¬ (yb == 10) = true → K + 1 = L := fun e => (only_at HLO.out hx (by rw [hen]; exact e)).trans HL.out
            have hms : mm < s.size := by omega
            have hgq := hgy hms
            have hss := HSZ.out s (List.mem_of_getElem? hx)
            have hs1 : IntKind.i64.wrap ((s.size : Int) - 1) = (mm : Int) := by rw [IntWalk.i64_in _ (by omega)]; omega
            have hne' : s.toList.isEmpty = false := by
              rw [ByteArray.toList_eq]
              cases h : s.data.toList with
              | nil => have : s.size = 0 := by show s.data.size = 0; rw [← Array.length_toList, h]; rfl
                       omega
              | cons a l => rfl
            have hLL : L ≤ 100000000 := by omega
            have hk1 : IntKind.i64.wrap ((K : Int) + 1) = (K : Int) + 1 := IntWalk.i64_in _ (by omega)
            have hLm : IntKind.i64.wrap ((L : Int) - 1) = (L : Int) - 1 := IntWalk.i64_in _ (by omega)
            have hlt' : (K : Int) < (L : Int) := by omega
            have HMT := Lib.hid hmt
            have HLq := HL.out
            have hqb : marksG (T.take K) ≤ 100000000 := by omega
            have HEN := Lib.hid hen
            clear hx hmt hgy hen hml hfs HLq
            generalize marksG (T.take K) = q at *
            have hq : IntKind.i64.wrap ((q : Int) + 1) = (q : Int) + 1 := IntWalk.i64_in _ (by omega)
            have HON := Lib.hid hon
            have hmid : ∀ r : ByteArray, s = r → (s.toList == r.toList) = true := fun r h => by rw [h]; exact str_eq r
            have hmidn : ∀ r : ByteArray, ¬ s = r → (s.toList == r.toList) = false := fun r h => str_ne h
            have HM1 := Lib.hid hmid
            have HM2 := Lib.hid hmidn
            have em : mMid.toList = [61, 61, 61, 61, 61, 61, 61, 10] := ByteArray.toList_mk [61, 61, 61, 61, 61, 61, 61, 10]
            have EM := Lib.hid em
            clear hon hmid hmidn em
            by_cases h10 : yb = 10
            · subst h10
              by_cases hsm : s = mMid
              · have t1 := HM1.out mMid hsm
                rw [EM.out] at t1
                have HE : Hid (marksG (T.take (K + 1)) = q + 1) := Lib.hid (by rw [HMT.out, if_pos hsm])
                clear hsm
                go_wp2_with fail
                go_roundw
                case rel => exact ⟨K + 1, by go_num, by rw [HE.out]; go_num, by omega, trivial⟩
                case measure => simp [intOf]; omega
              · have t1 := HM2.out mMid hsm
                rw [EM.out] at t1
                have HE : Hid (marksG (T.take (K + 1)) = q) := Lib.hid (by rw [HMT.out, if_neg hsm, Nat.add_zero])
                clear hsm
                go_wp2_with fail
                go_roundw
                case rel => exact ⟨K + 1, by go_num, by rw [HE.out], by omega, trivial⟩
                case measure => simp [intOf]; omega
            · have hy : ((yb.toNat : Int) != 10) = true := by
                rw [bne_iff_ne]; intro e
                exact h10 (UInt8.toNat_inj.1 (by have : (10 : UInt8).toNat = 10 := rfl; omega))
              have hKL := HON.out (by simpa using h10)
              have e5 : decide ((K : Int) < (L : Int) - 1) = false := by rw [decide_eq_false_iff_not]; omega
              have hsm : ¬ s = mMid := by
                intro hsm
                have := HEN.out
                rw [hsm] at this
                have h2 : endsNl mMid = true := by decide
                rw [h2] at this
                exact h10 (by simpa using this.symm)
              have t1 := HM2.out mMid hsm
              rw [EM.out] at t1
              have HE : Hid (marksG (T.take (K + 1)) = q) := Lib.hid (by rw [HMT.out, if_neg hsm, Nat.add_zero])
              clear hsm h10 hKL
              go_wp2_with fail
              go_roundw
              case rel => exact ⟨K + 1, by go_num, by rw [HE.out], by omega, trivial⟩
              case measure => simp [intOf]; omega
          · obtain rfl : K = L := by omega
            have hct : T.take K = T := List.take_of_length_le (by rw [HL.out]; exact Nat.le_refl _)
            rw [hct]
            have hmc := HMC.out
            have hm1 := marks_le T T.length
            rw [List.take_length, HL.out] at hm1
            clear hct HMC
            generalize marksG T = q at *
            generalize conflG ps = cf at *
            have e1 : decide ((cf : Int) ≤ (q : Int)) = true := by rw [decide_eq_true_iff]; omega
            have e1' : decide (cf ≤ q) = true := by rw [decide_eq_true_iff]; omega
            by_cases h0 : cf = 0
            · subst h0
              go_wp2_with fail
              go_ret
              exact ⟨rfl, HB6.out.trans (HBR.out.mono HB6.out.size)⟩
            · have e2 : decide (cf = 0) = false := by simpa using h0
              have e3 : ((cf : Int) == 0) = false := by rw [beq_eq_false_iff_ne]; omega
              have e4 : (cf == 0) = false := by simpa using h0
              have e5 : decide ((cf : Int) = 0) = false := by rw [decide_eq_false_iff_not]; omega
              clear h0
              go_wp2_with fail
              go_ret
              exact ⟨rfl, HB6.out.trans (HBR.out.mono HB6.out.size)⟩
  · rw [small_not hs]
    rintro e w' ⟨rfl, rfl⟩
    clear hs
    go_wp2_with fail
    go_ret
    exact ⟨rfl, HB4.out⟩
end Go.Proofs.Ytbdlpigokahnoaa
