/- The walk of the law GrainCuts: bytes cut short, or with others behind, are refused. -/
import Derived.Test.YthpcanibahcghaaGrainUse
import Derived.Deep.DeepCutAuto
import Derived.Deep.CutBlock
set_option linter.unusedVariables false
namespace Go.Proofs.Ythpcanibahcghaa
open Go.RowKit
attribute [local go_sem ↓] cvt_eq cutA_eq

theorem cuts_short {v : Val} {o : List UInt8} {w : World} {cs : List Value} (hv : valR.R w no cs v) (h : enc v = .ok o) {p : Nat} (hp : p < o.length) : dec (o.take p) = .error 20 :=
  dec_cut (valR_fits 16 v w no cs hv) h (List.take_append_drop p o) (fun e => by have := congrArg List.length e; simp at this; omega)
theorem cuts_more {v : Val} {o : List UInt8} {w : World} {cs : List Value} (hv : valR.R w no cs v) (h : enc v = .ok o) (m : List UInt8) :
    (1048576 < o.length + m.length → okZ (dec (o ++ m)) = 2) ∧ (¬ 1048576 < o.length + m.length → okZ (dec (o ++ m)) = if m.length = 0 then 0 else 23) := by
  constructor
  · intro hl; unfold dec; rw [if_pos (by simp; omega)]; rfl
  · intro hl
    rw [dec_more (valR_fits 16 v w no cs hv) h (by omega)]
    cases m <;> simp [okZ]

set_option maxRecDepth 100000 in
set_option maxHeartbeats 4000000 in
theorem grainCuts_any (cs : List Value) (v : Val) (less : Int) (A : Option Addr) (n c : Nat) (l : List UInt8) (W0 : World) (hv : valR.R W0 no cs v) (hbk : bulkV v ≤ 1048576) (wf1 : (Lit.int .i64 less).wf = true) (hs : Sl W0 1 A n (bytesV l)) (hnc : n ≤ c) (hcm : c ≤ maxLen) (hn : n ≤ 1048576) :
    Calls Try.prog 6 #[.agg cs.toArray, .int .i64 less, .slice A n c] W0 fun e w' => e = .returned (.bool true) ∧ Below W0.heap.size W0 w' := by
  have HS := Lib.hid hs
  have HLN := Lib.hid (show l.length = n by have := hs.1; simpa [bytesV_length] using this)
  obtain ⟨KV, hKV, HK0, HI, -, -, -⟩ := keepNew W0 hv
  rw [← hKV]
  have HBK := Lib.hid hbk
  have HB0 := Lib.hid ((Below.refl W0.heap.size W0).alloc (Nat.le_refl _) (.cells KV 27))
  have HSH := Lib.hid (fun h p => cuts_short hv (o := okB (enc v)) (enc_zero h) (p := p))
  have HMO := Lib.hid (fun h => cuts_more hv (o := okB (enc v)) (enc_zero h) l)
  have HLE := Lib.hid (fun h => ((enc_iff v (okB (enc v))).1 (enc_zero h)).2)
  clear hs hcm hKV hbk hv
  go_enter Try.func6, Try.ntmps6
  go_wp2_with fail
  refine (awake_any _).mono ?_
  rintro e w1 ⟨rfl, hb1⟩
  have HK1 := Lib.hid (HK0.out.below hb1)
  have HB1 := Lib.hid (HB0.out.trans (hb1.mono HB0.out.size))
  clear hb1 HK0 HB0
  go_wp2_with (first | (refine wpList_load_row rfl 27 (.tmp 3) rfl W0.heap.size rfl 27 KV (0, 0) _ HK1.out.blk Try.underlying27 rfl HI.out ?_) | fail)
  refine (HK1.out.enc HBK.out).mono ?_
  intro e w2 hp
  obtain ⟨X, cx, rfl, hown, hb2⟩ := hp.use
  obtain ⟨E, hE⟩ : ∃ E, E = enc v := ⟨_, rfl⟩
  obtain ⟨o, ho⟩ : ∃ o, o = okB E := ⟨_, rfl⟩
  obtain ⟨z, hz⟩ : ∃ z, z = okZ E := ⟨_, rfl⟩
  rw [← hE] at HSH HMO HLE hown ⊢
  rw [← ho] at HSH HMO HLE hown ⊢
  rw [← hz] at HSH HMO HLE ⊢
  obtain ⟨m, hm⟩ : ∃ m, m = o.length := ⟨_, rfl⟩
  rw [← hm] at hown HMO HLE ⊢
  have HM := Lib.hid hm
  have HB2 := Lib.hid (HB1.out.trans (hb2.mono HB1.out.size))
  have HX2 := Lib.hid (Sl.ofOwn hown)
  obtain ⟨hmcx, hcxm⟩ := own_cap hown
  clear hp hE ho hz hm hb2 hown HK1 HB1 E HI HBK
  by_cases hz : z = 0
  · subst hz
    have hm20 := HLE.out rfl
    have HSA := Lib.hid (HSH.out rfl)
    have HMA := Lib.hid (HMO.out rfl)
    clear HLE HSH HMO
    go_upto_region 6 with fail
    go_cut [29] (fun s29 wx => s29 = .bool (decide (0 < less ∧ less ≤ (m : Int))) ∧ w2 = wx)
    case first =>
      by_cases h0 : 0 < less
      · have h0' : decide (0 < less) = true := by simpa using h0
        have h1 := Lib.hid (show decide (0 < less ∧ less ≤ (m : Int)) = decide (less ≤ (m : Int)) by simp [h0])
        go_wp2_with fail
        go_meet
        case rel => exact ⟨by rw [h1.out], rfl⟩
      · have h0' : decide (0 < less) = false := by simpa using h0
        have h1 := Lib.hid (show decide (0 < less ∧ less ≤ (m : Int)) = false by simp [h0])
        go_wp2_with fail
        go_meet
        case rel => exact ⟨by rw [h1.out], rfl⟩
    case rest =>
    obtain ⟨rfl, rfl⟩ := hcut
    go_upto_if 29 with fail
    go_cut [] (fun wx => Below w2.heap.size w2 wx)
    case first =>
      by_cases hl : 0 < less ∧ less ≤ (m : Int)
      · have hd : decide (0 < less ∧ less ≤ (m : Int)) = true := by simpa using hl
        rw [hd]
        obtain ⟨p, hp⟩ : ∃ p : Nat, (p : Int) = (m : Int) - less := ⟨((m : Int) - less).toNat, by omega⟩
        have hpm : p < m := by omega
        have hpI := hp.symm
        have h1 : (p : Int) ≤ (cx : Int) := by omega
        have hD := HSA.out p (by rw [← HM.out]; exact hpm)
        have HXP := Lib.hid (show Sl w2 1 X p (bytesV (o.take p)) by rw [← bytesV_take]; simpa using HX2.out.upto (Nat.le_of_lt hpm))
        have HDC := Lib.hid (decode_any X p cx (o.take p) w2 HXP.out (by omega) hcxm)
        rw [hD] at HDC
        clear hd hl hD hp
        go_wp2_with fail
        refine HDC.out.mono ?_
        intro e w3 hp
        obtain ⟨cs3, rfl, hv3, hb3⟩ := hp.use
        obtain ⟨KN, hKN, HKN, HIN, HON, HSN, HNN⟩ := keepNew w3 hv3
        rw [← hKN]
        have HB4 := Lib.hid (hb3.trans (((Below.refl w3.heap.size w3).alloc (Nat.le_refl _) (.cells KN 27)).mono hb3.size))
        clear hKN hb3 hp hv3
        unfold okZ
        go_wp2_with (first | (refine wpList_store_row rfl _ _ _ rfl w3.heap.size KN rfl rfl 27 _ HNN.out HIN.out HSN.out HON.out ?_; rw [World.setRow_alloc_new]) | fail)
        go_meet
        case rel => exact HB4.out
      · have hd : decide (0 < less ∧ less ≤ (m : Int)) = false := by simpa using hl
        rw [hd]
        go_wp2_with fail
        go_meet
        case rel => exact Below.refl _ _
    case rest =>
    rename World => w3
    have HB3 := Lib.hid (HB2.out.trans (hcut.mono HB2.out.size))
    have hX3 := HX2.out.below hcut
    have hbn : Below w3.heap.size w3 (w3.alloc (.cells #[] 5)) := (Below.refl _ _).alloc (Nat.le_refl _) _
    have hown := own_made (base := w3.heap.size) w3 5 1 (Nat.le_refl _)
    obtain ⟨A4, c4, w4, run4, ap4, hc4, hm4⟩ := append_sl elemByte hown (hX3.below hbn) (bytesV_one _) (by omega) (by simp only [maxLen]; omega) (by simp) 23 cx
    have hb4 := hbn.trans ap4.below
    obtain ⟨A5, c5, w5, run5, ap5, hc5, hm5⟩ := append_sl elemByte ap4.own ((HS.out.below (HB3.out.trans (hb4.mono HB3.out.size)))) (bytesV_one _) (by omega) (by simp only [maxLen]; omega) (by have := hb4.size; simpa using this) 23 c
    have hown5 := ap5.own
    simp only [Nat.zero_add, List.nil_append] at run4 run5 hown5 hc5
    have HB5 := Lib.hid (HB3.out.trans ((hb4.trans ap5.below).mono HB3.out.size))
    have HS5 := Lib.hid (Sl.ofOwn hown5)
    have hcat : bytesV o ++ bytesV l = bytesV (o ++ l) := by simp [bytesV]
    rw [hcat] at HS5
    have HDC := Lib.hid (decode_any A5 (m + n) c5 (o ++ l) w5 HS5.out hc5 hm5)
    have hD := HMA.out
    rw [HLN.out] at hD
    obtain ⟨D, hDD⟩ : ∃ D, D = dec (o ++ l) := ⟨_, rfl⟩
    rw [← hDD] at hD HDC
    have HD := Lib.hid hD
    clear hcut hX3 hbn hown ap4 ap5 hown5 hcat hD hDD hc4 hm4 hc5 hm5 hb4 HSA HMA HX2 HB2 HS HB3 HLN HM
    go_wp2_with (first | (at_builtin; refine wpList_run_append run4 ?_ ?_ ?_; exact rfl; exact rfl) | (at_builtin; refine wpList_run_append run5 ?_ ?_ ?_; exact rfl; exact rfl) | fail)
    refine HDC.out.mono ?_
    intro e w6 hp
    obtain ⟨cs6, rfl, hv6, hb6⟩ := hp.use
    obtain ⟨KN, hKN, HKN, HIN, HON, HSN, HNN⟩ := keepNew w6 hv6
    rw [← hKN]
    have hb7 := hb6.trans (((Below.refl w6.heap.size w6).alloc (Nat.le_refl _) (.cells KN 27)).mono hb6.size)
    have HB7 := Lib.hid (HB5.out.trans (hb7.mono HB5.out.size))
    have hD := HD.out
    obtain ⟨zd, hzd⟩ : ∃ zd, zd = okZ D := ⟨_, rfl⟩
    rw [← hzd] at hD ⊢
    clear hKN hb6 hb7 hp hv6 HD HDC hzd run4 run5
    by_cases hbig : 1048576 < m + n
    · have hz2 := hD.1 hbig
      subst hz2
      have hbI : (1048576 : Int) < (m : Int) + (n : Int) := by omega
      have hw : IntKind.i64.wrap ((m : Int) + (n : Int)) = (m : Int) + (n : Int) := IntWalk.i64_in _ (by omega)
      clear hD hbig
      go_wp2_with (first | (refine wpList_store_row rfl _ _ _ rfl w6.heap.size KN rfl rfl 27 _ HNN.out HIN.out HSN.out HON.out ?_; rw [World.setRow_alloc_new]) | fail)
      go_ret
      exact ⟨rfl, HB7.out⟩
    · have hz2 := hD.2 hbig
      have hbI : ¬ (1048576 : Int) < (m : Int) + (n : Int) := by omega
      have hw : IntKind.i64.wrap ((m : Int) + (n : Int)) = (m : Int) + (n : Int) := IntWalk.i64_in _ (by omega)
      by_cases hn0 : n = 0
      · rw [if_pos hn0] at hz2
        subst hz2
        have e0 : ((n : Int) == 0) = true := by simp [hn0]
        clear hD hbig hn0
        go_wp2_with (first | (refine wpList_store_row rfl _ _ _ rfl w6.heap.size KN rfl rfl 27 _ HNN.out HIN.out HSN.out HON.out ?_; rw [World.setRow_alloc_new]) | fail)
        go_ret
        exact ⟨rfl, HB7.out⟩
      · rw [if_neg hn0] at hz2
        subst hz2
        have e0 : ((n : Int) == 0) = false := by simp [hn0]
        clear hD hbig hn0
        go_wp2_with (first | (refine wpList_store_row rfl _ _ _ rfl w6.heap.size KN rfl rfl 27 _ HNN.out HIN.out HSN.out HON.out ?_; rw [World.setRow_alloc_new]) | fail)
        go_ret
        exact ⟨rfl, HB7.out⟩
  · have hzb : (z != 0) = true := by simp [hz]
    clear hz
    go_wp2_with fail
    go_ret
    exact ⟨rfl, HB2.out⟩
end Go.Proofs.Ythpcanibahcghaa
