/- towlineref06.set. -/
import Derived.Test.YtlddnghfjdjglaaDoorGlobRefRange
import Derived.Deep.CutBlock
import Derived.Laws.CopyOwn
import Derived.Deep.DeepCutAuto
set_option linter.unusedVariables false
set_option linter.unusedSimpArgs false
namespace Go.Proofs.YtlddnghfjdjglaaDoor
open Go.RowKit

theorem wpList_tab0 {P : Program} {ops : Array Oper} {rest : List Oper} {o : Oper} {a : Act} {w : World} {Q : Exit → Act → World → Prop} (hg : o.guard = none) (t : TypeId) (ho : o.op = .build t #[]) (K : Array Value) (hb : P.built t [] = some K)
    (h : wpList P ops Q rest (a.put o.dst (.agg K)) w) : wpList P ops Q (o :: rest) a w :=
  wpList_build hg t #[] ho (by simp [hb]) (by simpa [hb] using h)
theorem results_tab2 {fn : Func} {p u v : Tmp} (h : fn.results = #[.cell p 80, .tmp u, .tmp v]) (tmps : Array Value) (w : World) (g : Nat) (t : TypeId) (cs : Array Value) (x y : Value)
    (hp : tmps.getD p undef = .pointer (some ⟨g, 0, none⟩)) (hx : tmps.getD u undef = x) (hy : tmps.getD v undef = y) (hg : w.heap[g]? = some (.cells cs t (0, 0))) (hi : (Tryd.prog.info? 80).map (·.size) = some cs.size) :
    (results fn tmps).run Tryd.prog w = .ok (.tuple #[.agg cs, x, y]) w := by
  have hp' : tmps[p]?.getD undef = .pointer (some ⟨g, 0, none⟩) := by simpa using hp
  have hl := run_loadVar_row w g t 80 cs (0, 0) _ hg Tryd.underlying80 rfl hi
  subst hx hy
  simp [results, h, hp', asAddr, hl, Result.andThen]
def TabPost (l : List UInt8) (i : Nat) (w : World) (r : Option (Atm × List UInt8)) (e : Ending) (w' : World) : Prop :=
  Below w.heap.size w w' ∧ match r with
    | none => ∃ (z : Int) (f : Nat → Bool), e = .returned (.tuple #[.agg (celN false f), .int .i64 z, .bool false])
    | some (a, q) => ∃ k, l.drop k = q ∧ i < k ∧ k ≤ l.length ∧ e = .returned (.tuple #[.agg (celN false (tabA a)), .int .i64 (k : Int), .bool true])
/-- the two blocks of set -/
structure TabIn (W0 w : World) (g : Nat) (f : Nat → Bool) : Prop where
  below : Below g W0 w
  res : Blk w g 80 zTab
  tab : Blk w (g + 1) 80 (celN false f)
theorem TabIn.set {W0 w : World} {g : Nat} {f : Nat → Bool} (h : TabIn W0 w g f) (b : Nat) (v : Bool) {f' : Nat → Bool} (hf : (fun c => if c = b then v else f c) = f') : TabIn W0 (w.setCell ⟨g + 1, 1 + b, none⟩ (.bool v)) g f' :=
  ⟨h.below.setCell (p := ⟨g + 1, 1 + b, none⟩) (by show g ≤ g + 1; omega) _, h.res.other (by omega) _ _, by
    have := h.tab.set_ (1 + b) (.bool v)
    rwa [celN_set, hf] at this⟩
theorem TabIn.cell {W0 w : World} {g : Nat} {f : Nat → Bool} (h : TabIn W0 w g f) {b : Nat} (hb : b < 256) : w.cell? ⟨g + 1, 1 + b, none⟩ = some (.bool (f b)) := (h.tab.cell (1 + b)).trans (celN_get false f hb)
theorem TabIn.as {W0 w : World} {g : Nat} {f f' : Nat → Bool} (h : TabIn W0 w g f) (e : ∀ c, c < 256 → f c = f' c) : TabIn W0 w g f' := ⟨h.below, h.res, by rw [← celN_congr e]; exact h.tab⟩

set_option maxRecDepth 100000 in
set_option maxHeartbeats 4000000 in
theorem refSet_any (l : List UInt8) (i : Nat) (w : World) (hl : l.length ≤ 1000000) (hi : i ≤ l.length) :
    Calls Tryd.prog 44 #[.string (strL l), .int .i64 (i : Int)] w (TabPost l i w (setG (l.drop i))) := by
  obtain ⟨M, hM⟩ : ∃ M, M = l.length := ⟨_, rfl⟩
  have HM := Lib.hid hM
  rw [← hM] at hl hi
  obtain ⟨q, hq⟩ : ∃ q, q = strL l := ⟨_, rfl⟩
  rw [← hq]
  have hqM : q.size = M := by rw [hq, strL_size, hM]
  have HQ := Lib.hid hq
  obtain ⟨no, hno⟩ : ∃ no, no = begins [33] (l.drop i) := ⟨_, rfl⟩
  have HNO := Lib.hid hno
  obtain ⟨i1, hi1⟩ : ∃ i1, i1 = if no then i + 1 else i := ⟨_, rfl⟩
  have HI1 := Lib.hid hi1
  obtain ⟨R, hR⟩ : ∃ R, R = setG (l.drop i) := ⟨_, rfl⟩
  rw [← hR]
  have HR := Lib.hid (show R = match setL [] (l.drop i1) with | none => none | some (rs, r) => some (⟨false, false, no, rs⟩, r) by
    rw [hR]
    unfold setG
    rw [← hno, hi1]
    cases no with
    | true => rw [if_pos rfl, if_pos rfl, List.drop_drop]; rfl
    | false => rfl)
  clear hM hq hno hi1 hR
  obtain ⟨g, hg⟩ : ∃ g, w.heap.size = g := ⟨_, rfl⟩
  have HG := Lib.hid hg
  obtain ⟨KZ, hKZ⟩ : ∃ KZ, KZ = zTab := ⟨_, rfl⟩
  have HB0 := Lib.hid (show Tryd.prog.built 80 [] = some KZ by rw [hKZ]; exact tab0_built)
  have HI := Lib.hid (show (Tryd.prog.info? 80).map (·.size) = some KZ.size by rw [hKZ]; exact tab_info _ _)
  have HO := Lib.hid (show KZ.all (·.oneCell') = true by rw [hKZ]; exact celN_one _ _)
  have HZS := Lib.hid (show zTab.size = KZ.size by rw [hKZ])
  have HKZ := Lib.hid hKZ
  clear hKZ
  have HW1 := Lib.hid (show Blk (w.alloc (.cells zTab 80)) g 80 zTab by have := Blk.new w 80 zTab; rwa [hg] at this)
  have HW1B := Lib.hid (show Below g w (w.alloc (.cells zTab 80)) by rw [← hg]; exact (Below.refl _ _).alloc (Nat.le_refl _) _)
  have HW1S := Lib.hid (show (w.alloc (.cells zTab 80)).heap.size = g + 1 by simp [hg])
  go_enter Tryd.func44, Tryd.ntmps44
  go_upto_region 1 with fail
  rw [show w.alloc (.cells Tryd.zeroCells80 80) = w.alloc (.cells zTab 80) from rfl]
  clear hg
  generalize w.alloc (.cells zTab 80) = w1 at *
  have HBN := Lib.hid (Blk.new w1 80 zTab)
  go_upto_region 2 with (first | (refine wpList_tab0 rfl 80 rfl KZ HB0.out ?_) | (refine wpList_store_row rfl _ _ _ rfl w1.heap.size KZ rfl rfl 80 _ HBN.out HI.out HZS.out HO.out ?_) | fail)
  rw [show w1.alloc (.cells Tryd.zeroCells80 80) = w1.alloc (.cells zTab 80) from rfl, World.setRow_alloc_new]
  have hT2 : TabIn w (w1.alloc (.cells KZ 80)) g (gI []) := ⟨HW1B.out.alloc (by have := HW1S.out; omega) _, HW1.out.alloc _, by
    have := Blk.new w1 80 KZ
    rw [HW1S.out, HKZ.out] at this; rw [HKZ.out]; exact this⟩
  have HT2 := Lib.hid hT2
  rw [HW1S.out]
  clear HW1 HW1B HW1S HBN hT2 HB0 HI HO HZS HKZ
  generalize w1.alloc (.cells KZ 80) = w2 at *
  have hi1M : i ≤ i1 ∧ i1 ≤ M := by
    rw [HI1.out]
    cases hno : no with
    | true =>
      have := HNO.out
      rw [hno, begins_at] at this
      rcases Nat.lt_or_ge i l.length with h | h
      · rw [if_pos rfl]; have := HM.out; omega
      · rw [List.getElem?_eq_none h] at this; cases this
    | false => rw [if_neg (by decide)]; omega
  go_frame
  go_cut [8] (fun v wx => v = .bool no ∧ wx = w2)
  case first =>
    by_cases h1 : i < M
    · have h1I : (i : Int) < (M : Int) := by omega
      obtain ⟨x, hx⟩ : ∃ x, l[i]? = some x := ⟨_, List.getElem?_eq_getElem (by have := HM.out; omega)⟩
      have hiq : i < q.size := by omega
      have hqx : q[i] = x := strL_at hx HQ.out hiq
      have HV := Lib.hid (show no = (x == 33) by rw [HNO.out, begins_at, hx]; rfl)
      by_cases h33 : x = 33
      · have hx33 : ((x.toNat : Int) == 33) = true := by rw [h33]; rfl
        have HV2 := Lib.hid (show no = true by rw [HV.out, h33]; rfl)
        clear hx h33
        go_wp2_with fail
        go_meet
        case rel => exact ⟨by rw [HV2.out], rfl⟩
      · have hx33 : ((x.toNat : Int) == 33) = false := u8_ne (y := 33) h33
        have HV2 := Lib.hid (show no = false by rw [HV.out]; simpa using h33)
        clear hx h33
        go_wp2_with fail
        go_meet
        case rel => exact ⟨by rw [HV2.out], rfl⟩
    · have h1I : ¬ (i : Int) < (M : Int) := by omega
      have HV2 := Lib.hid (show no = false by rw [HNO.out, begins_at, List.getElem?_eq_none (by have := HM.out; omega)]; rfl)
      go_wp2_with fail
      go_meet
      case rel => exact ⟨by rw [HV2.out], rfl⟩
  case rest =>
    obtain ⟨rfl, hwr⟩ := hcut
    obtain rfl : w2 = _ := hwr.symm
    go_upto_if 27 with fail
    go_cut [1] (fun v wx => v = .int .i64 (i1 : Int) ∧ wx = w2)
    case first =>
      cases no with
      | true =>
        have HV := Lib.hid (show i1 = i + 1 by rw [HI1.out]; rfl)
        go_wp2_with fail
        go_meet
        case rel => exact ⟨by rw [HV.out]; go_num, rfl⟩
      | false =>
        have HV := Lib.hid (show i1 = i by rw [HI1.out]; rfl)
        go_wp2_with fail
        go_meet
        case rel => exact ⟨by rw [HV.out], rfl⟩
    case rest =>
      obtain ⟨rfl, hwr⟩ := hcut
      obtain rfl : w2 = _ := hwr.symm
      go_wp2_with fail
      go_loopw [1, 9] (fun s1 s9 wr => ∃ (j n : Nat) (rs : List (UInt8 × UInt8)), j ≤ M ∧ n ≤ j ∧ s1 = .int .i64 (j : Int) ∧ s9 = .int .i64 (n : Int) ∧ Hid (n = rs.length) ∧ Hid (i ≤ j) ∧ Hid (setL rs (l.drop j) = setL [] (l.drop i1)) ∧ Hid (TabIn w wr g (gI rs))) (fun s1 s9 wr => M - (intOf s1).toNat)
      case atStart => exact ⟨i1, 0, [], hi1M.2, Nat.zero_le _, rfl, rfl, Lib.hid rfl, Lib.hid hi1M.1, Lib.hid rfl, HT2⟩
      case round =>
        obtain ⟨j, n, rs, hj, hnj, rfl, rfl, HN, HIJ, HSL, HTB⟩ := hrel
        clear HT2
        obtain ⟨bb, hbb⟩ : ∃ bb, bb = (rs.isEmpty || !begins [93] (l.drop j)) := ⟨_, rfl⟩
        have HBB := Lib.hid hbb
        clear hbb
        go_upto_region 6 with fail
        go_cut [43] (fun v wx => v = .bool bb ∧ wx = wr)
        case first =>
          by_cases hn0 : n = 0
          · subst hn0
            have HV := Lib.hid (show bb = true by rw [HBB.out, List.eq_nil_of_length_eq_zero HN.out.symm]; rfl)
            go_wp2_with fail
            go_meet
            case rel => exact ⟨by rw [HV.out], rfl⟩
          · have hnI : ((n : Int) == 0) = false := by simp; omega
            have HV := Lib.hid (show bb = !begins [93] (l.drop j) by
              rw [HBB.out]
              cases hrs : rs with
              | nil => have := HN.out; rw [hrs] at this; exact absurd this hn0
              | cons p r => rfl)
            by_cases h1 : j < M
            · have h1I : ¬ (M : Int) ≤ (j : Int) := by omega
              obtain ⟨x, hx⟩ : ∃ x, l[j]? = some x := ⟨_, List.getElem?_eq_getElem (by have := HM.out; omega)⟩
              have hjq : j < q.size := by omega
              have hqx : q[j] = x := strL_at hx HQ.out hjq
              by_cases h93 : x = 93
              · have hx93 : ((x.toNat : Int) != 93) = false := by rw [h93]; rfl
                have HV2 := Lib.hid (show bb = false by rw [HV.out, begins_at, hx, h93]; rfl)
                clear hx h93
                go_wp2_with fail
                go_meet
                case rel => exact ⟨by rw [HV2.out], rfl⟩
              · have hx93 : ((x.toNat : Int) != 93) = true := by
                  have := u8_ne (y := 93) h93
                  simp only [bne, Bool.not_eq_true']; exact this
                have HV2 := Lib.hid (show bb = true by rw [HV.out, begins_at, hx]; simpa using h93)
                clear hx h93
                go_wp2_with fail
                go_meet
                case rel => exact ⟨by rw [HV2.out], rfl⟩
            · have h1I : (M : Int) ≤ (j : Int) := by omega
              have HV2 := Lib.hid (show bb = true by rw [HV.out, begins_at, List.getElem?_eq_none (by have := HM.out; omega)]; rfl)
              go_wp2_with fail
              go_meet
              case rel => exact ⟨by rw [HV2.out], rfl⟩
        case rest =>
          obtain ⟨rfl, hwr⟩ := hcut
          obtain rfl : wr = _ := hwr.symm
          cases bb with
          | false =>
            have hj1 : j < M := by
              apply Classical.byContradiction; intro h
              have := HBB.out
              rw [begins_at, List.getElem?_eq_none (by have := HM.out; omega)] at this
              cases rs <;> cases this
            have HRR := Lib.hid (show R = some (⟨false, false, no, rs⟩, l.drop (j + 1)) by
              rw [HR.out, ← HSL.out, setL_end HBB.out.symm, List.drop_drop])
            have HTS := Lib.hid (show TabIn w wr g (gT rs no 0) by rw [gT_start]; exact HTB.out)
            clear HTB HBB HSL HN
            go_wp2_with fail
            go_loopw [15] (fun s15 wr => ∃ b : Nat, b ≤ 256 ∧ s15 = .int .i64 (b : Int) ∧ Hid (TabIn w wr g (gT rs no b))) (fun s15 wr => 256 - (intOf s15).toNat)
            case atStart => exact ⟨0, by omega, rfl, HTS⟩
            case round =>
              obtain ⟨b, hb, rfl, HTB2⟩ := hrel
              clear HTS
              by_cases hlt : b < 256
              · have hltI : (b : Int) < 256 := by omega
                obtain ⟨vb, hvb⟩ : ∃ vb, vb = gT rs no b b := ⟨_, rfl⟩
                have cb : wr.cell? ⟨g + 1, 1 + b, none⟩ = some (.bool vb) := by rw [hvb]; exact HTB2.out.cell hlt
                have fb := HTB2.out.tab.frozen (1 + b)
                have HTN := Lib.hid (show TabIn w (wr.setCell ⟨g + 1, 1 + b, none⟩ (.bool (!(vb == no)))) g (gT rs no (b + 1)) from HTB2.out.set b (vb != no) (by have := gT_step rs no b; rw [← hvb] at this; exact this))
                clear HTB2 hvb
                go_wp2_with fail
                go_roundw
                case rel => exact ⟨b + 1, by omega, by go_num, HTN⟩
                case measure => simp [intOf]; omega
              · have hltI : ¬ (b : Int) < 256 := by omega
                obtain rfl : b = 256 := by omega
                obtain ⟨K1, hK1⟩ : ∃ K1, K1 = celN false (tabA ⟨false, false, no, rs⟩) := ⟨_, rfl⟩
                have HTA := Lib.hid (HTB2.out.as fun c hc => gT_end rs no hc)
                have HT1 := Lib.hid (show Blk wr (g + 1) 80 K1 by rw [hK1]; exact HTA.out.tab)
                have HS1 := Lib.hid (show zTab.size = K1.size by rw [hK1]; show (celN _ _).size = _; rw [celN_size, celN_size])
                have HJ1 := Lib.hid (show (Tryd.prog.info? 80).map (·.size) = some K1.size by rw [hK1]; exact tab_info _ _)
                have HU1 := Lib.hid (show K1.all (·.oneCell') = true by rw [hK1]; exact celN_one _ _)
                have HK1 := Lib.hid hK1
                clear hK1
                go_wp2_with (first
                  | (refine wpList_load_row rfl 80 (.tmp 7) rfl (g + 1) rfl 80 K1 (0, 0) _ HT1.out Tryd.underlying80 rfl HJ1.out ?_)
                  | (refine wpList_store_row rfl _ _ _ rfl g K1 rfl rfl 80 _ HTA.out.res HJ1.out HS1.out HU1.out ?_) | fail)
                refine bodyPost_ret (results_tab2 rfl _ _ g 80 K1 _ _ rfl rfl rfl (setRow_heap _ g _ _ _ _ HTA.out.res) HJ1.out) rfl ?_
                unfold TabPost
                rw [HG.out, HRR.out]
                exact ⟨below_setRow HTA.out.below (Nat.le_refl g) _, j + 1, rfl, by have := HIJ.out; omega, by have := HM.out; omega, by rw [HK1.out]; rfl⟩
          | true =>
            have HLT := Lib.hid (refLetter_any l j wr (by have := HM.out; omega) (by have := HM.out; omega))
            rw [← HQ.out] at HLT
            go_wp2_with fail
            refine HLT.out.mono ?_
            rintro e w5 ⟨rfl, hp⟩
            cases hlt : letAt l j with
            | none =>
              rw [hlt] at hp
              obtain ⟨z, rfl⟩ := hp
              have HRN := Lib.hid (show R = none by rw [HR.out, ← HSL.out, setL_bad HBB.out.symm (by rw [rangeAt_eq]; unfold rangeAt; rw [hlt]; rfl)])
              clear hlt HLT
              obtain ⟨K1, hK1⟩ : ∃ K1, K1 = celN false (gI rs) := ⟨_, rfl⟩
              have HT1 := Lib.hid (show Blk w5 (g + 1) 80 K1 by rw [hK1]; exact HTB.out.tab)
              have HS1 := Lib.hid (show zTab.size = K1.size by rw [hK1]; show (celN _ _).size = _; rw [celN_size, celN_size])
              have HJ1 := Lib.hid (show (Tryd.prog.info? 80).map (·.size) = some K1.size by rw [hK1]; exact tab_info _ _)
              have HU1 := Lib.hid (show K1.all (·.oneCell') = true by rw [hK1]; exact celN_one _ _)
              have HK1 := Lib.hid hK1
              clear hK1
              go_wp2_with (first
                | (refine wpList_load_row rfl 80 (.tmp 7) rfl (g + 1) rfl 80 K1 (0, 0) _ HT1.out Tryd.underlying80 rfl HJ1.out ?_)
                | (refine wpList_store_row rfl _ _ _ rfl g K1 rfl rfl 80 _ HTB.out.res HJ1.out HS1.out HU1.out ?_) | fail)
              refine bodyPost_ret (results_tab2 rfl _ _ g 80 K1 _ _ rfl rfl rfl (setRow_heap _ g _ _ _ _ HTB.out.res) HJ1.out) rfl ?_
              unfold TabPost
              rw [HG.out, HRN.out]
              exact ⟨below_setRow HTB.out.below (Nat.le_refl g) _, _, gI rs, by rw [HK1.out]; rfl⟩
            | some p =>
              obtain ⟨x, k⟩ := p
              rw [hlt] at hp
              obtain rfl : e = _ := hp
              have hkM := letAt_lt hlt
              rw [← HM.out] at hkM
              have HLK := Lib.hid hlt
              obtain ⟨dash, hdash⟩ : ∃ dash, dash = dashAt l k := ⟨_, rfl⟩
              have HDA := Lib.hid hdash
              clear hlt hdash HLT
              go_upto_region 12 with fail
              go_cut [75] (fun v wx => v = .bool dash ∧ wx = w5)
              case first =>
                by_cases hk1 : k + 1 < M
                · have hkI : (k : Int) + 1 < (M : Int) := by omega
                  obtain ⟨c, hc⟩ : ∃ c, l[k]? = some c := ⟨_, List.getElem?_eq_getElem (by have := HM.out; omega)⟩
                  obtain ⟨d, hd⟩ : ∃ d, l[k + 1]? = some d := ⟨_, List.getElem?_eq_getElem (by have := HM.out; omega)⟩
                  have hkq : k < q.size := by omega
                  have hqc : q[k] = c := strL_at hc HQ.out hkq
                  have hkq2 : k + 1 < q.size := by omega
                  have hqd : q[k + 1] = d := strL_at hd HQ.out hkq2
                  have h2K : (0 : Int) ≤ (k : Int) + 1 := by omega
                  have h2L : ((k : Int) + 1).toNat = k + 1 := by omega
                  by_cases h45 : c = 45
                  · have hc45 : ((c.toNat : Int) == 45) = true := by rw [h45]; rfl
                    by_cases h93 : d = 93
                    · have hd93 : ((d.toNat : Int) != 93) = false := by rw [h93]; rfl
                      have HV := Lib.hid (show dash = false by rw [HDA.out]; unfold dashAt; rw [hc, hd, h93]; simp)
                      clear hc hd h45 h93
                      go_wp2_with fail
                      go_meet
                      case rel => exact ⟨by rw [HV.out], rfl⟩
                    · have hd93 : ((d.toNat : Int) != 93) = true := by
                        have := u8_ne (y := 93) h93
                        simp only [bne, Bool.not_eq_true']; exact this
                      have HV := Lib.hid (show dash = true by rw [HDA.out]; unfold dashAt; rw [hc, hd, h45]; simpa using h93)
                      clear hc hd h45 h93
                      go_wp2_with fail
                      go_meet
                      case rel => exact ⟨by rw [HV.out], rfl⟩
                  · have hc45 : ((c.toNat : Int) == 45) = false := u8_ne (y := 45) h45
                    have HV := Lib.hid (show dash = false by
                      rw [HDA.out]; unfold dashAt; rw [hc]
                      have : (some c == some (45 : UInt8)) = false := by simpa using h45
                      rw [this]; rfl)
                    clear hc hd h45
                    go_wp2_with fail
                    go_meet
                    case rel => exact ⟨by rw [HV.out], rfl⟩
                · have hkI : ¬ (k : Int) + 1 < (M : Int) := by omega
                  have HV := Lib.hid (show dash = false by rw [HDA.out]; unfold dashAt; rw [List.getElem?_eq_none (show l.length ≤ k + 1 by have := HM.out; omega)]; simp)
                  go_wp2_with fail
                  go_meet
                  case rel => exact ⟨by rw [HV.out], rfl⟩
              case rest =>
                obtain ⟨rfl, hwr⟩ := hcut
                obtain rfl : w5 = _ := hwr.symm
                go_upto_if 75 with fail
                go_cut [11, 12, 13] (fun v11 v12 v13 wx => ∃ (y : UInt8) (z : Int) (ok : Bool), v11 = .int .i64 z ∧ v12 = .bool ok ∧ v13 = .int .u8 (y.toNat : Int) ∧ Hid (if ok && !decide (y < x) then ∃ m : Nat, z = (m : Int) ∧ rangeAt l j = some ((x, y), m) else rangeAt l j = none) ∧ wx = w5)
                case first =>
                  cases hd : dash with
                  | true =>
                    subst hd
                    have hk1 : k + 1 ≤ M := by
                      have := HDA.out
                      unfold dashAt at this
                      rcases Nat.lt_or_ge k l.length with h | h
                      · have := HM.out; omega
                      · rw [List.getElem?_eq_none h] at this; cases this
                    have HLT := Lib.hid (refLetter_any l (k + 1) w5 (by have := HM.out; omega) (by have := HM.out; omega))
                    rw [← HQ.out] at HLT
                    obtain ⟨k2, hk2⟩ : ∃ k2, k2 = k + 1 := ⟨_, rfl⟩
                    rw [← hk2] at HLT
                    have hk2I : (k : Int) + 1 = (k2 : Int) := by omega
                    have HK2 := Lib.hid hk2
                    clear hk2
                    go_wp2_with fail
                    refine HLT.out.mono ?_
                    rintro e w6 ⟨rfl, hp⟩
                    cases hlt : letAt l k2 with
                    | none =>
                      rw [hlt] at hp
                      obtain ⟨z, rfl⟩ := hp
                      have HRG := Lib.hid (show rangeAt l j = none by unfold rangeAt; rw [HLK.out]; simp only [← HDA.out, if_true, ← HK2.out, hlt])
                      clear hlt HLT
                      go_wp2_with fail
                      go_meet
                      case rel => exact ⟨0, z, false, rfl, rfl, rfl, Lib.hid (by simpa using HRG.out), rfl⟩
                    | some p =>
                      obtain ⟨y, m⟩ := p
                      rw [hlt] at hp
                      obtain rfl : e = _ := hp
                      have HRG := Lib.hid (show rangeAt l j = if y < x then none else some ((x, y), m) by unfold rangeAt; rw [HLK.out]; simp only [← HDA.out, if_true, ← HK2.out, hlt])
                      clear hlt HLT
                      go_wp2_with fail
                      go_meet
                      case rel =>
                        refine ⟨y, m, true, rfl, rfl, rfl, Lib.hid ?_, rfl⟩
                        rw [HRG.out]
                        by_cases hyx : y < x
                        · simp [hyx]
                        · simp [hyx]
                  | false =>
                    subst hd
                    by_cases hend : k + 1 = M ∧ l[k]? = some 45
                    · have HRN := Lib.hid (show R = none by
                        rw [HR.out, ← HSL.out, setL_bad HBB.out.symm (by
                          rw [rangeAt_eq]; unfold rangeAt; rw [HLK.out]
                          simp only [← HDA.out, ← HM.out, if_pos hend]
                          rfl)])
                      have hkq : k < q.size := by omega
                      have hqc : q[k] = 45 := strL_at hend.2 HQ.out hkq
                      have hk1 : ((k : Int) + 1 == (M : Int)) = true := by simp; omega
                      have hc45 : (((45 : UInt8).toNat : Int) == 45) = true := rfl
                      obtain ⟨c, hcc⟩ : ∃ c : UInt8, c = 45 := ⟨_, rfl⟩
                      rw [← hcc] at hqc hc45
                      clear hend hcc
                      obtain ⟨K1, hK1⟩ : ∃ K1, K1 = celN false (gI rs) := ⟨_, rfl⟩
                      have HT1 := Lib.hid (show Blk w5 (g + 1) 80 K1 by rw [hK1]; exact HTB.out.tab)
                      have HS1 := Lib.hid (show zTab.size = K1.size by rw [hK1]; show (celN _ _).size = _; rw [celN_size, celN_size])
                      have HJ1 := Lib.hid (show (Tryd.prog.info? 80).map (·.size) = some K1.size by rw [hK1]; exact tab_info _ _)
                      have HU1 := Lib.hid (show K1.all (·.oneCell') = true by rw [hK1]; exact celN_one _ _)
                      have HK1 := Lib.hid hK1
                      clear hK1
                      go_wp2_with (first
                        | (refine wpList_load_row rfl 80 (.tmp 7) rfl (g + 1) rfl 80 K1 (0, 0) _ HT1.out Tryd.underlying80 rfl HJ1.out ?_)
                        | (refine wpList_store_row rfl _ _ _ rfl g K1 rfl rfl 80 _ HTB.out.res HJ1.out HS1.out HU1.out ?_) | fail)
                      refine bodyPost_ret (results_tab2 rfl _ _ g 80 K1 _ _ rfl rfl rfl (setRow_heap _ g _ _ _ _ HTB.out.res) HJ1.out) rfl ?_
                      unfold TabPost
                      rw [HG.out, HRN.out]
                      exact ⟨below_setRow HTB.out.below (Nat.le_refl g) _, _, gI rs, by rw [HK1.out]; rfl⟩
                    · have HRG := Lib.hid (show rangeAt l j = some ((x, x), k) by
                        unfold rangeAt; rw [HLK.out]
                        simp only [← HDA.out, ← HM.out, if_neg hend]
                        rfl)
                      have hrel : Hid (if true && !decide (x < x) then ∃ m : Nat, ((k : Nat) : Int) = (m : Int) ∧ rangeAt l j = some ((x, x), m) else rangeAt l j = none) := Lib.hid (by
                        rw [if_pos (by simp)]
                        exact ⟨k, rfl, HRG.out⟩)
                      by_cases hk1 : k + 1 = M
                      · have hk1I : ((k : Int) + 1 == (M : Int)) = true := by simp; omega
                        obtain ⟨c, hc⟩ : ∃ c, l[k]? = some c := ⟨_, List.getElem?_eq_getElem (by have := HM.out; omega)⟩
                        have hkq : k < q.size := by omega
                        have hqc : q[k] = c := strL_at hc HQ.out hkq
                        have hc45 : ((c.toNat : Int) == 45) = false := u8_ne (y := 45) (fun e => hend ⟨hk1, by rw [hc, e]⟩)
                        clear hc hend HRG
                        go_wp2_with fail
                        go_meet
                        case rel => exact ⟨x, k, true, rfl, rfl, rfl, hrel, rfl⟩
                      · have hk1I : ((k : Int) + 1 == (M : Int)) = false := by simp; omega
                        clear hend HRG
                        go_wp2_with fail
                        go_meet
                        case rel => exact ⟨x, k, true, rfl, rfl, rfl, hrel, rfl⟩
                case rest =>
                  obtain ⟨y, z, ok, rfl, rfl, rfl, HRG, hwr⟩ := hcut
                  obtain rfl : w5 = _ := hwr.symm
                  cases ok with
                  | false =>
                    have HRN := Lib.hid (show R = none by
                      rw [HR.out, ← HSL.out, setL_bad HBB.out.symm (by
                        have := HRG.out
                        rw [if_neg (by simp)] at this
                        rw [rangeAt_eq, this]; rfl)])
                    clear HRG
                    obtain ⟨K1, hK1⟩ : ∃ K1, K1 = celN false (gI rs) := ⟨_, rfl⟩
                    have HT1 := Lib.hid (show Blk w5 (g + 1) 80 K1 by rw [hK1]; exact HTB.out.tab)
                    have HS1 := Lib.hid (show zTab.size = K1.size by rw [hK1]; show (celN _ _).size = _; rw [celN_size, celN_size])
                    have HJ1 := Lib.hid (show (Tryd.prog.info? 80).map (·.size) = some K1.size by rw [hK1]; exact tab_info _ _)
                    have HU1 := Lib.hid (show K1.all (·.oneCell') = true by rw [hK1]; exact celN_one _ _)
                    have HK1 := Lib.hid hK1
                    clear hK1
                    go_wp2_with (first
                      | (refine wpList_load_row rfl 80 (.tmp 7) rfl (g + 1) rfl 80 K1 (0, 0) _ HT1.out Tryd.underlying80 rfl HJ1.out ?_)
                      | (refine wpList_store_row rfl _ _ _ rfl g K1 rfl rfl 80 _ HTB.out.res HJ1.out HS1.out HU1.out ?_) | fail)
                    refine bodyPost_ret (results_tab2 rfl _ _ g 80 K1 _ _ rfl rfl rfl (setRow_heap _ g _ _ _ _ HTB.out.res) HJ1.out) rfl ?_
                    unfold TabPost
                    rw [HG.out, HRN.out]
                    exact ⟨below_setRow HTB.out.below (Nat.le_refl g) _, _, gI rs, by rw [HK1.out]; rfl⟩
                  | true =>
                    by_cases hyx : y < x
                    · have HRN := Lib.hid (show R = none by
                        rw [HR.out, ← HSL.out, setL_bad HBB.out.symm (by
                          have := HRG.out
                          rw [if_neg (by simp [hyx])] at this
                          rw [rangeAt_eq, this]; rfl)])
                      have hyxI : (y.toNat : Int) < (x.toNat : Int) := by have := UInt8.lt_iff_toNat_lt.1 hyx; omega
                      clear HRG hyx
                      obtain ⟨K1, hK1⟩ : ∃ K1, K1 = celN false (gI rs) := ⟨_, rfl⟩
                      have HT1 := Lib.hid (show Blk w5 (g + 1) 80 K1 by rw [hK1]; exact HTB.out.tab)
                      have HS1 := Lib.hid (show zTab.size = K1.size by rw [hK1]; show (celN _ _).size = _; rw [celN_size, celN_size])
                      have HJ1 := Lib.hid (show (Tryd.prog.info? 80).map (·.size) = some K1.size by rw [hK1]; exact tab_info _ _)
                      have HU1 := Lib.hid (show K1.all (·.oneCell') = true by rw [hK1]; exact celN_one _ _)
                      have HK1 := Lib.hid hK1
                      clear hK1
                      go_wp2_with (first
                        | (refine wpList_load_row rfl 80 (.tmp 7) rfl (g + 1) rfl 80 K1 (0, 0) _ HT1.out Tryd.underlying80 rfl HJ1.out ?_)
                        | (refine wpList_store_row rfl _ _ _ rfl g K1 rfl rfl 80 _ HTB.out.res HJ1.out HS1.out HU1.out ?_) | fail)
                      refine bodyPost_ret (results_tab2 rfl _ _ g 80 K1 _ _ rfl rfl rfl (setRow_heap _ g _ _ _ _ HTB.out.res) HJ1.out) rfl ?_
                      unfold TabPost
                      rw [HG.out, HRN.out]
                      exact ⟨below_setRow HTB.out.below (Nat.le_refl g) _, _, gI rs, by rw [HK1.out]; rfl⟩
                    · obtain ⟨m, rfl, hrg⟩ : ∃ m : Nat, z = (m : Int) ∧ rangeAt l j = some ((x, y), m) := by
                        have := HRG.out
                        rw [if_pos (by simp [hyx])] at this
                        exact this
                      have hyxI : ¬ (y.toNat : Int) < (x.toNat : Int) := by
                        intro h; exact hyx (UInt8.lt_iff_toNat_lt.2 (by omega))
                      have hxy : x.toNat ≤ y.toNat := by omega
                      have hy256 : y.toNat < 256 := y.toNat_lt
                      have hmM := rangeAt_lt hrg
                      rw [← HM.out] at hmM
                      have HSL2 := Lib.hid (show setL (rs ++ [(x, y)]) (l.drop m) = setL [] (l.drop i1) by
                        rw [← HSL.out]; exact (setL_step HBB.out.symm (by rw [rangeAt_eq, hrg]; rfl)).symm)
                      have HTS := Lib.hid (show TabIn w w5 g (gF rs x.toNat x.toNat) by rw [gF_start]; exact HTB.out)
                      obtain ⟨X, hX⟩ : ∃ X, X = x.toNat := ⟨_, rfl⟩
                      obtain ⟨Y, hY⟩ : ∃ Y, Y = y.toNat := ⟨_, rfl⟩
                      rw [← hX] at hyxI hxy HTS
                      rw [← hY] at hyxI hxy hy256
                      have HEND := Lib.hid (show ∀ c, c < 256 → gF rs X (Y + 1) c = gI (rs ++ [(x, y)]) c by rw [hX, hY]; exact fun c hc => gF_end rs x y hc)
                      rw [← hX, ← hY]
                      clear HRG hyx hrg HTB HBB HSL HDA HLK hX hY
                      go_wp2_with fail
                      go_loopw [14] (fun s14 wr => ∃ b : Nat, X ≤ b ∧ b ≤ Y + 1 ∧ s14 = .int .i64 (b : Int) ∧ Hid (TabIn w wr g (gF rs X b))) (fun s14 wr => 256 - (intOf s14).toNat)
                      case atStart => exact ⟨X, Nat.le_refl _, by omega, rfl, HTS⟩
                      case round =>
                        obtain ⟨b, hXb, hb, rfl, HTB2⟩ := hrel
                        clear HTS
                        by_cases hlt : b ≤ Y
                        · have hltI : (b : Int) ≤ (Y : Int) := by omega
                          obtain ⟨vb, hvb⟩ : ∃ vb, vb = gF rs X b b := ⟨_, rfl⟩
                          have hb256 : b < 256 := by omega
                          have hb256I : (b : Int) < 256 := by omega
                          have cb : wr.cell? ⟨g + 1, 1 + b, none⟩ = some (.bool vb) := by rw [hvb]; exact HTB2.out.cell hb256
                          have fb := HTB2.out.tab.frozen (1 + b)
                          have HTN := Lib.hid (show TabIn w (wr.setCell ⟨g + 1, 1 + b, none⟩ (.bool true)) g (gF rs X (b + 1)) from HTB2.out.set b true (gF_step rs hXb))
                          clear HTB2 hvb
                          go_wp2_with fail
                          go_roundw
                          case rel => exact ⟨b + 1, by omega, by omega, by go_num, HTN⟩
                          case measure => simp [intOf]; omega
                        · have hltI : ¬ (b : Int) ≤ (Y : Int) := by omega
                          obtain rfl : b = Y + 1 := by omega
                          have HTN := Lib.hid (show TabIn w wr g (gI (rs ++ [(x, y)])) from HTB2.out.as HEND.out)
                          have HN2 := Lib.hid (show n + 1 = (rs ++ [(x, y)]).length by rw [List.length_append, ← HN.out]; rfl)
                          have HIM := Lib.hid (show i ≤ m by have := HIJ.out; omega)
                          clear HTB2 HN
                          go_wp2_with fail
                          go_roundw
                          case rel => exact ⟨m, n + 1, rs ++ [(x, y)], by omega, by omega, rfl, by go_num, HN2, HIM, HSL2, HTN⟩
                          case measure => simp [intOf]; omega
end Go.Proofs.YtlddnghfjdjglaaDoor
