/- The walk of the law LinesEnds: lines that both lists begin with stand in no hunk. -/
import Derived.Test.YtoeajlkmcokiiaaLinesAwake
import Derived.Test.YtoeajlkmcokiiaaLinesLaws
import Derived.Test.YtoeajlkmcokiiaaLinesBulk
import Derived.Deep.RegionWith
set_option linter.unusedVariables false
namespace Go.Proofs.Ytoeajlkmcokiiaa
open Go.RowKit

/-- two lists, one behind the other, in new memory -/
theorem lead_two (w : World) (H A : Option Addr) (nh n ch ca : Nat) (h a : List ByteArray) (hh : Sl w 1 H nh (strV h)) (ha : Sl w 1 A n (strV a)) (hn : nh + n ≤ 1000000) :
    ∃ A1 c1 w1 A2 c2 w2, (Builtin.append_ #[22, 22] 22 #[.slice (some ⟨w.heap.size, 0, none⟩) 0 0, .slice H nh ch]).run Try.prog (w.alloc (.cells #[] 9)) = .ok (.slice A1 nh c1) w1 ∧
      (Builtin.append_ #[22, 22] 22 #[.slice A1 nh c1, .slice A n ca]).run Try.prog w1 = .ok (.slice A2 (nh + n) c2) w2 ∧ Sl w2 1 A2 (nh + n) (strV (h ++ a)) ∧ nh + n ≤ c2 ∧ c2 ≤ maxLen ∧ Below w.heap.size w w2 := by
  obtain ⟨A1, c1, w1, hrun1, hap1, h11, h12⟩ := append_sl (P := Try.prog) elemStr (own_made w 9 1 (Nat.le_refl w.heap.size)) (hh.alloc _) (strV_one h) (by omega) (by simp only [maxLen]; omega) (by simp) 22 ch
  rw [Nat.zero_add] at hrun1 hap1
  have hb1 : Below w.heap.size w w1 := ((Below.refl _ _).alloc (Nat.le_refl _) _).trans hap1.below
  obtain ⟨A2, c2, w2, hrun2, hap2, h21, h22⟩ := append_sl (P := Try.prog) elemStr hap1.own (ha.below hb1) (strV_one a) (by omega) (by simp only [maxLen]; omega) hb1.size 22 ca
  have ho := Sl.ofOwn hap2.own
  rw [List.nil_append, strV_append] at ho
  exact ⟨A1, c1, w1, A2, c2, w2, hrun1, hrun2, ho, h21, h22, hb1.trans hap2.below⟩

set_option maxRecDepth 100000 in
set_option maxHeartbeats 4000000 in
theorem linesEnds_any (Hd : Option Addr) (chd : Nat) (h : List ByteArray) (A : Option Addr) (ca : Nat) (a : List ByteArray) (B : Option Addr) (cb : Nat) (b : List ByteArray) (w : World)
    (hch : h.length ≤ chd) (hchm : chd ≤ maxLen) (hh : SlOf strR w none Hd h) (bh : strB h ≤ 1048576) (hca : a.length ≤ ca) (hcm : ca ≤ maxLen) (ha : SlOf strR w none A a) (ba : strB a ≤ 1048576)
    (hcb : b.length ≤ cb) (hcbm : cb ≤ maxLen) (hb : SlOf strR w none B b) (bb : strB b ≤ 1048576) :
    Calls Try.prog 6 #[.slice Hd h.length chd, .slice A a.length ca, .slice B b.length cb] w fun e w' => e = .returned (.bool true) ∧ Below w.heap.size w w' := by
  have hhn : h.length ≤ 1048576 := Nat.le_trans (strB_length h) bh
  have hn : a.length ≤ 1048576 := Nat.le_trans (strB_length a) ba
  have hm : b.length ≤ 1048576 := Nat.le_trans (strB_length b) bb
  have hh := hh.str
  have ha := ha.str
  have hb := hb.str
  clear bh ba bb
  generalize hNH : h.length = nh at *
  generalize hN : a.length = n at *
  generalize hM : b.length = m at *
  have HNH := Lib.hid hNH
  have HN := Lib.hid hN
  have HM := Lib.hid hM
  clear hNH hN hM
  by_cases hsm : nh + n ≤ 900 ∧ nh + m ≤ 900
  · have d1 : decide ((900 : Int) < (nh : Int) + (n : Int)) = false := by rw [decide_eq_false_iff_not]; omega
    have d2 : decide ((900 : Int) < (nh : Int) + (m : Int)) = false := by rw [decide_eq_false_iff_not]; omega
    obtain ⟨s1, s2⟩ := hsm
    have hp1 : (nh + n) * (nh + m) ≤ 900 * 900 := Nat.mul_le_mul s1 s2
    have hp2 : n * m ≤ 900 * 900 := Nat.mul_le_mul (by omega) (by omega)
    have HP1 : Hid ((nh + n) * (nh + m) ≤ 1048576) := Lib.hid (by omega)
    have HP2 : Hid (n * m ≤ 1048576) := Lib.hid (by omega)
    have HDH := Lib.hid (diff_head h a b)
    rw [HNH.out] at HDH
    have hsz := diff_size a b
    rw [HN.out, HM.out] at hsz
    have hdl := hunksG_length a b (allPairs a b) 0 0
    rw [allPairs_length] at hdl
    have hpl := pairsAt_le a b 0 0
    rw [HN.out] at hpl
    have hdl : (diffG a b).length ≤ 1000 := by unfold diffG; omega
    have hdm : ∀ x ∈ diffG a b, x.2.1.length ≤ oldSum (diffG a b) ∧ x.2.2.length ≤ newSum (diffG a b) := by
      have : ∀ (l : List Hk) (x : Hk), x ∈ l → x.2.1.length ≤ oldSum l ∧ x.2.2.length ≤ newSum l := by
        intro l
        induction l with
        | nil => intro x hx; cases hx
        | cons y r ih =>
          intro x hx
          simp only [oldSum, newSum, List.map_cons, List.sum_cons] at *
          rcases List.mem_cons.1 hx with rfl | hx
          · omega
          · have := ih x hx; omega
      exact this _
    have PD := Lib.hid (fun (W : World) => diff_any A B n ca m cb a b W)
    generalize diffG a b = hs at *
    have hml : (hs.map (shiftH nh)).length = hs.length := List.length_map _
    generalize hL : hs.length = L at *
    have HL := Lib.hid hL
    have HML := Lib.hid hml
    have HSZ := Lib.hid hsz.2.2
    have HDM := Lib.hid hdm
    have hns := hsz.1
    have hos := hsz.2.1
    clear hp1 hp2 hL hml hsz hdm hpl
    go_enter Try.func6, Try.ntmps6
    go_wp2_with fail
    refine (awake_any _).mono ?_
    rintro e w1 ⟨rfl, hb1⟩
    have hh1 := hh.below hb1
    have ha1 := ha.below hb1
    have hbb1 := hb.below hb1
    obtain ⟨X1, x1, v1, X2, x2, v2, run1, run2, hX, hx2, hx2m, bx⟩ := lead_two w1 Hd A nh n chd ca h a hh1 ha1 (by omega)
    obtain ⟨Y1, y1, u1, Y2, y2, u2, run3, run4, hY, hy2, hy2m, byy⟩ := lead_two v2 Hd B nh m chd cb h b (hh1.below bx) (hbb1.below bx) (by omega)
    have bxy := bx.trans (byy.mono bx.size)
    have hX2 := hX.below byy
    have ha2 := ha1.below bxy
    have hbb2 := hbb1.below bxy
    have hb02 := hb1.trans (bxy.mono hb1.size)
    have R1 := Lib.hid run1
    have R2 := Lib.hid run2
    have R3 := Lib.hid run3
    have R4 := Lib.hid run4
    clear run1 run2 run3 run4 bx byy bxy hX hh1 ha1 hbb1 hb1 hh ha hb
    go_wp2_with (at_builtin; first | (refine wpList_run_append R1.out ?_ ?_ ?_; exact rfl; exact rfl) | (refine wpList_run_append R2.out ?_ ?_ ?_; exact rfl; exact rfl) | (refine wpList_run_append R3.out ?_ ?_ ?_; exact rfl; exact rfl) | (refine wpList_run_append R4.out ?_ ?_ ?_; exact rfl; exact rfl))
    refine (diff_any X2 Y2 (nh + n) x2 (nh + m) y2 (h ++ a) (h ++ b) _ hX2 hY hx2 hx2m hy2 hy2m (by omega) (by omega) HP1.out).mono ?_
    rw [HDH.out]
    rintro e w2 ⟨Ap, cp, rfl, hcp, hcpm, hP, hb2⟩
    rw [HML.out] at hcp ⊢
    have ha3 := ha2.below hb2
    have hbb3 := hbb2.below hb2
    have hb03 := hb02.trans (hb2.mono hb02.size)
    clear ha2 hbb2 hb02 hb2 hX2 hY
    go_wp2_with fail
    refine (PD.out _ ha3 hbb3 hca hcm hcb hcbm hn hm HP2.out).mono ?_
    rintro e w3 ⟨Aq, cq, rfl, hcq, hcqm, hQ, hb3⟩
    rw [HL.out] at hcq ⊢
    have hP3 := hP.below hb3
    have hb04 := hb03.trans (hb3.mono hb03.size)
    clear ha3 hbb3 hb03 hb3 hP PD
    go_wp2_with fail
    go_loopw [67] (fun i wr => ∃ k : Nat, k ≤ L ∧ i = .int .i64 k ∧ Same w3 wr) (fun i _ => L - (intOf i).toNat)
    case atStart => exact ⟨0, by omega, rfl, Same.refl _⟩
    case round =>
      obtain ⟨k, hk, rfl, hs'⟩ := hrel
      by_cases hlt : k < L
      · obtain ⟨b1, o1, z, l1, l2, A1, A2, c1, c2, rfl, hb1, hx, hwf, k0, k1, k2, hc1, hm1, hs1, hc2, hm2, hs2⟩ := hk_look (hP3.below (hs'.below _)) HML.out hlt
        obtain ⟨b2, o2, z', l1', l2', A3, A4, c3, c4, rfl, hb2, hx', hwf', j0, j1, j2, hc3, hm3, hs3, hc4, hm4, hs4⟩ := hk_look (hQ.below (hs'.below _)) HL.out hlt
        have hsz := HDM.out _ (List.mem_of_getElem? hx')
        have hzz := HSZ.out _ (List.mem_of_getElem? hx')
        rw [List.getElem?_map, hx'] at hx
        simp only [Option.map_some, shiftH, Option.some.injEq, Prod.mk.injEq] at hx
        obtain ⟨rfl, rfl, rfl⟩ := hx
        have hz1 := hsz.1
        have hz2 := hsz.2
        have hz3 := hzz.1
        have hz4 := hzz.2
        simp only at hz1 hz2 hz3 hz4
        have q1 := fun q => refSame_any A1 A3 l1'.length c1 l1'.length c3 l1' l1' (wr.drewN q) hs1.str hs3.str (by omega) (by omega)
        have q2 := fun q => refSame_any A2 A4 l2'.length c2 l2'.length c4 l2' l2' (wr.drewN q) hs2.str hs4.str (by omega) (by omega)
        rw [sameS_self] at q1 q2
        have Q1 := Lib.hid q1
        have Q2 := Lib.hid q2
        have hlt' : (k : Int) < (L : Int) := by omega
        have EM := IntWalk.i64_in (z' + (nh : Int)) (by omega)
        clear q1 q2 hx' hwf hwf' hs1 hs2 hs3 hs4 hP3 hQ hsz hzz
        go_wp2_with fail
        go_quiet (first | (go_at_call_of 18 (Value.slice A1 l1'.length c1); exact quiet_s (Q1.out _)) | (go_at_call_of 18 (Value.slice A2 l2'.length c2); exact quiet_s (Q2.out _)))
        go_wp2_with fail
        go_roundw
        case rel => clear EM; exact ⟨k + 1, by omega, by go_num, hs'.drewN _⟩
        case measure => clear EM; simp [intOf]; omega
      · have hlt' : ¬ (k : Int) < (L : Int) := by omega
        go_wp2_with fail
        go_ret
        exact ⟨rfl, hb04.trans (hs'.below _)⟩
  · have key : (decide ((900 : Int) < (nh : Int) + (n : Int)) = true) ∨ (decide ((900 : Int) < (nh : Int) + (n : Int)) = false ∧ decide ((900 : Int) < (nh : Int) + (m : Int)) = true) := by
      simp only [decide_eq_true_eq, decide_eq_false_iff_not]; omega
    clear hsm
    rcases key with d1 | ⟨d1, d2⟩
    all_goals
      go_enter Try.func6, Try.ntmps6
      go_wp2_with fail
      refine (awake_any _).mono ?_
      rintro e w1 ⟨rfl, hb1⟩
      go_wp2_with fail
      go_ret
      exact ⟨rfl, hb1⟩
end Go.Proofs.Ytoeajlkmcokiiaa
