/- StampLatest: the latest of some numbers. -/
import Derived.Test.YtehminpiejophaaDoorStampLast
import Derived.Test.YtehminpiejophaaDoorFltRd
set_option linter.unusedVariables false
set_option linter.unusedSimpArgs false
namespace Go.Proofs.YtehminpiejophaaDoor
open Go.RowKit

theorem elemFlt : ElemOf Tryd.prog 41 22 (.float .f64 0) 1 8 := ⟨Tryd.underlying41, by kernel_rfl, rfl, by decide⟩
/-- whether one of the last has been found -/
def fndB (l : List Nat) (o k : Nat) : Bool := decide (l.length = 0) || (l.drop k).any (fun f => decide (keyB f = keyB o))
theorem fnd_step {l : List Nat} {o m f : Nat} (h : l[m]? = some f) : fndB l o m = (fndB l o (m + 1) || decide (keyB f = keyB o)) := by
  have hm := (List.getElem?_eq_some_iff.1 h)
  obtain ⟨h1, h2⟩ := hm
  unfold fndB
  rw [List.drop_eq_getElem_cons h1, h2, List.any_cons, Bool.or_comm (decide (keyB f = keyB o)), Bool.or_assoc]

set_option maxRecDepth 100000 in
set_option maxHeartbeats 8000000 in
theorem latest_walk (A : Option Addr) (n c : Nat) (l : List Nat) (o : Nat) (W0 : World) (hs : Sl W0 1 A n (fltV l)) (hn : n ≤ 1048576) (hl : ∀ f ∈ l, f < 2 ^ 64) (ho : o = latB l) (hg : Globs W0) :
    Calls Tryd.prog 8 #[.slice A n c] W0 fun e w' => e = .returned (.bool true) ∧ Below W0.heap.size W0 w' := by
  have HA := Lib.hid (awake_any W0 hg)
  have hf := ext_bits
  have hln : l.length = n := by have := hs.1; rw [List.length_map] at this; omega
  have HLN := Lib.hid hln
  have HL := Lib.hid hl
  have HS := Lib.hid hs
  have HLA := Lib.hid (last_any l hl)
  rw [← ho] at HLA
  have HT := Lib.hid (fun w (h : Sl w 1 A n (fltV l)) => latest_any A n c l w h (by omega) hl)
  rw [← ho] at HT
  have HI := Lib.hid (fun w => isInfM_any o w HLA.out.lt)
  have HO := Lib.hid ho
  have hf0 : n = 0 → decide (o = infR + 9223372036854775808) = true := fun h => by
    have : l = [] := List.eq_nil_of_length_eq_zero (by omega)
    rw [ho, this]; rfl
  have HFB := Lib.hid (show decide (n = 0) = fndB l o n by
    unfold fndB
    rw [HLN.out, List.drop_of_length_le (by rw [HLN.out]; omega)]
    simp)
  clear hln hl hs ho hg
  rcases Nat.eq_zero_or_pos n with hn0 | hn0
  · subst hn0
    rw [hf0 rfl] at HI
    clear hf0
    go_enter Tryd.func8, Tryd.ntmps8
    go_wp2_with fail
    refine HA.out.mono ?_
    rintro e w1 ⟨rfl, h1⟩
    have HB1 := Lib.hid h1
    clear h1
    go_wp2_with fail
    refine (HT.out _ (HS.out.below HB1.out)).mono ?_
    rintro e w2 ⟨rfl, h1⟩
    have HB2 := Lib.hid (HB1.out.trans (h1.mono HB1.out.size))
    clear h1
    go_wp2_with fail
    refine (HI.out _).mono ?_
    rintro e w3 ⟨rfl, rfl⟩
    go_wp2_with fail
    go_loopw [4, 5, 6] (fun fo tu i wr => fo = .bool true ∧ tu = .slice none 0 0 ∧ i = .int .i64 (-1) ∧ wr = w3) (fun _ _ _ _ => 0)
    case atStart => exact ⟨rfl, rfl, rfl, rfl⟩
    case round =>
      obtain ⟨rfl, rfl, rfl, rfl⟩ := hrel
      have HE : Hid (Sl wr 1 none 0 (fltV [])) := Lib.hid Sl.nil
      have HT2 := Lib.hid (latest_any none 0 0 [] wr HE.out (by omega) (fun _ h => (nomatch h)))
      have hoo : latB [] = o := by rw [HO.out, List.eq_nil_of_length_eq_zero HLN.out]
      rw [hoo] at HT2
      clear hoo
      go_wp2_with fail
      refine HT2.out.mono ?_
      rintro e w4 ⟨rfl, h1⟩
      have HB4 := Lib.hid (HB2.out.trans (h1.mono HB2.out.size))
      clear h1
      go_wp2_with fail
      go_ret
      exact ⟨rfl, HB4.out⟩
  · have hne : ((n : Int) == 0) = false := by rw [beq_eq_false_iff_ne]; omega
    have hne2 : ¬ n = 0 := by omega
    rw [decide_eq_false hne2] at HFB
    clear hf0
    go_enter Tryd.func8, Tryd.ntmps8
    go_wp2_with fail
    refine HA.out.mono ?_
    rintro e w1 ⟨rfl, h1⟩
    have HB1 := Lib.hid h1
    clear h1
    go_wp2_with fail
    refine (HT.out _ (HS.out.below HB1.out)).mono ?_
    rintro e w2 ⟨rfl, h1⟩
    have HB2 := Lib.hid (HB1.out.trans (h1.mono HB1.out.size))
    clear h1
    go_wp2_with fail
    go_loopw [4, 5, 6] (fun fo tu i wr => ∃ (k : Nat) (fb : Bool) (Ao : Option Addr) (co : Nat), k ≤ n ∧ fo = .bool fb ∧ tu = .slice Ao (n - k) co ∧ i = .int .i64 ((k : Int) - 1) ∧ Hid (fb = fndB l o k) ∧ Hid (wr.ownsRow W0.heap.size 22 1 (.slice Ao (n - k) co) (n - k) (fltV (l.drop k).reverse)) ∧ Below W0.heap.size W0 wr) (fun _ _ i _ => (intOf i + 1).toNat)
    case atStart => exact ⟨n, false, none, 0, Nat.le_refl _, rfl, by rw [Nat.sub_self], by go_num, HFB, Lib.hid (by rw [Nat.sub_self, List.drop_of_length_le (by rw [HLN.out]; omega)]; exact World.ownsRow_nil _ _ _ _), HB2.out⟩
    case round =>
      obtain ⟨k, fb, Ao, co, hk, rfl, rfl, rfl, HF, HW, hbr⟩ := hrel
      have HBR := Lib.hid hbr
      clear hbr
      rcases Nat.eq_zero_or_pos k with hk0 | hk0
      · subst hk0
        have hfb : fb = true := by
          rw [HF.out]
          unfold fndB
          obtain ⟨f, h1, h2⟩ := HLA.out.found HL.out (fun h => by have := HLN.out; rw [h] at this; simp at this; omega)
          rw [List.drop_zero]
          have : l.any (fun f => decide (keyB f = keyB o)) = true := List.any_eq_true.2 ⟨f, h1, decide_eq_true h2⟩
          rw [this, Bool.or_true]
        subst hfb
        have HT2 := Lib.hid (latest_any Ao n co l.reverse wr (by
          have := Sl.ofOwn HW.out
          rw [Nat.sub_zero, List.drop_zero] at this
          exact this) (by omega) (fun f h => HL.out f (List.mem_reverse.1 h)))
        have hoo : latB l.reverse = o := by
          refine (last_any l.reverse (fun f h => HL.out f (List.mem_reverse.1 h))).same HLA.out fun f => List.mem_reverse
        rw [hoo] at HT2
        rw [Nat.sub_zero] at *
        clear hoo hk
        go_wp2_with fail
        refine HT2.out.mono ?_
        rintro e w4 ⟨rfl, h1⟩
        have HB4 := Lib.hid (HBR.out.trans (h1.mono HBR.out.size))
        clear h1
        go_wp2_with fail
        go_ret
        exact ⟨rfl, HB4.out⟩
      · obtain ⟨m, rfl⟩ : ∃ m, k = m + 1 := ⟨k - 1, by omega⟩
        have hi : ((m + 1 : Nat) : Int) - 1 = (m : Int) := by omega
        rw [hi]
        clear hi hk0
        obtain ⟨b, off, f, rfl, hb, hlk, hc⟩ := look_flt HS.out (show m < n by omega)
        have hcr := (HBR.out.cell (p := ⟨b, off + m, none⟩) hb).trans hc
        have hf64 := HL.out f (List.mem_of_getElem? hlk)
        have htop := HLA.out.top f (List.mem_of_getElem? hlk)
        have HST := Lib.hid (fnd_step (o := o) hlk)
        obtain ⟨A2, c2, w2, hrun, hap, hc1, hc2⟩ := append_sl elemFlt (HW.out.alloc (.cells #[.float .f64 f] 22)) (Sl.one wr (.float .f64 f) 22) (by simp; rfl) (by omega) (by simp only [maxLen]; omega) (by have := HBR.out.size; simp; omega) 41 1
        have hq : n - (m + 1) + 1 = n - m := by omega
        rw [hq] at hrun hap hc1
        have HW2 := Lib.hid (show w2.ownsRow W0.heap.size 22 1 (.slice A2 (n - m) c2) (n - m) (fltV (l.drop m).reverse) by
          have h := hap.own
          have e : fltV (l.drop m).reverse = fltV (l.drop (m + 1)).reverse ++ [.float .f64 f] := by
            have h1 := (List.getElem?_eq_some_iff.1 hlk)
            obtain ⟨h1, h2⟩ := h1
            rw [List.drop_eq_getElem_cons h1, h2, List.reverse_cons, fltV, List.map_append]; rfl
          rw [e]
          exact h)
        have HBW := Lib.hid ((HBR.out.alloc HBR.out.size (.cells #[.float .f64 f] 22)).trans hap.below)
        have HCE := Lib.hid hc
        have hcr2 := (HBW.out.cell (p := ⟨b, off + m, none⟩) hb).trans hc
        have HC := Lib.hid (fun w => compare_any f o w hf64 HLA.out.lt)
        have hz : (cmpB f o = -1 ∧ decide (keyB f = keyB o) = false) ∨ (cmpB f o = 0 ∧ decide (keyB f = keyB o) = true) := by
          unfold cmpB
          rcases Nat.lt_or_ge (keyB f) (keyB o) with h | h
          · left; rw [if_pos h]; exact ⟨rfl, decide_eq_false (by omega)⟩
          · right; rw [if_neg (by omega), if_neg (by omega)]; exact ⟨rfl, decide_eq_true (by omega)⟩
        generalize cmpB f o = z at *
        clear hlk hc hap hf64 htop hc1
        rcases hz with ⟨rfl, he⟩ | ⟨rfl, he⟩
        · rw [he] at HST
          clear he
          cases fb
          · have HFN := Lib.hid (show false = fndB l o m by rw [HST.out, ← HF.out]; rfl)
            clear HF HST
            go_wp2_with (at_builtin; refine wpList_run_append hrun ?_ ?_ ?_; exact rfl; exact rfl)
            refine (HC.out _).mono ?_
            rintro e w4 ⟨rfl, h1⟩
            have HB4 := Lib.hid (HBW.out.trans (h1.mono HBW.out.size))
            have HW3 := Lib.hid (own_below HW2.out h1)
            clear h1 HW2
            have hcr3 := (HB4.out.cell (p := ⟨b, off + m, none⟩) hb).trans HCE.out
            go_wp2_with fail
            refine (HC.out _).mono ?_
            rintro e w5 ⟨rfl, h1⟩
            have HB5 := Lib.hid (HB4.out.trans (h1.mono HB4.out.size))
            have HW4 := Lib.hid (own_below HW3.out h1)
            clear h1
            go_wp2_with fail
            go_roundw
            case rel => exact ⟨m, false, A2, c2, by omega, rfl, rfl, by go_num, HFN, HW4, HB5.out⟩
            case measure => simp [intOf]
          · have HFN := Lib.hid (show true = fndB l o m by rw [HST.out, ← HF.out]; rfl)
            clear HF HST
            go_wp2_with (at_builtin; refine wpList_run_append hrun ?_ ?_ ?_; exact rfl; exact rfl)
            refine (HC.out _).mono ?_
            rintro e w5 ⟨rfl, h1⟩
            have HB5 := Lib.hid (HBW.out.trans (h1.mono HBW.out.size))
            have HW4 := Lib.hid (own_below HW2.out h1)
            clear h1
            go_wp2_with fail
            go_roundw
            case rel => exact ⟨m, true, A2, c2, by omega, rfl, rfl, by go_num, HFN, HW4, HB5.out⟩
            case measure => simp [intOf]
        · rw [he] at HST
          clear he
          cases fb
          · have HFN := Lib.hid (show true = fndB l o m by rw [HST.out, ← HF.out]; rfl)
            clear HF HST
            go_wp2_with (at_builtin; refine wpList_run_append hrun ?_ ?_ ?_; exact rfl; exact rfl)
            refine (HC.out _).mono ?_
            rintro e w4 ⟨rfl, h1⟩
            have HB4 := Lib.hid (HBW.out.trans (h1.mono HBW.out.size))
            have HW3 := Lib.hid (own_below HW2.out h1)
            clear h1 HW2
            have hcr3 := (HB4.out.cell (p := ⟨b, off + m, none⟩) hb).trans HCE.out
            go_wp2_with fail
            refine (HC.out _).mono ?_
            rintro e w5 ⟨rfl, h1⟩
            have HB5 := Lib.hid (HB4.out.trans (h1.mono HB4.out.size))
            have HW4 := Lib.hid (own_below HW3.out h1)
            clear h1
            go_wp2_with fail
            go_roundw
            case rel => exact ⟨m, true, A2, c2, by omega, rfl, rfl, by go_num, HFN, HW4, HB5.out⟩
            case measure => simp [intOf]
          · have HFN := Lib.hid (show true = fndB l o m by rw [HST.out, ← HF.out]; rfl)
            clear HF HST
            go_wp2_with (at_builtin; refine wpList_run_append hrun ?_ ?_ ?_; exact rfl; exact rfl)
            refine (HC.out _).mono ?_
            rintro e w5 ⟨rfl, h1⟩
            have HB5 := Lib.hid (HBW.out.trans (h1.mono HBW.out.size))
            have HW4 := Lib.hid (own_below HW2.out h1)
            clear h1
            go_wp2_with fail
            go_roundw
            case rel => exact ⟨m, true, A2, c2, by omega, rfl, rfl, by go_num, HFN, HW4, HB5.out⟩
            case measure => simp [intOf]

theorem law_latest (A : Option Addr) (c : Nat) (l : List Nat) (W0 : World) (hc : l.length ≤ c) (hcm : c ≤ maxLen) (hs : SlOf fltR W0 no A l) (hb : bulkL (fun _ : Nat => 1) l + 1 ≤ 1048576) (hg : Globs W0) :
    Calls Tryd.prog 8 #[.slice A l.length c] W0 fun e w' => e = .returned (.bool true) ∧ Below W0.heap.size W0 w' := by
  obtain ⟨vs, h1, h2, _⟩ := hs
  obtain ⟨rfl, h3⟩ := flts_of h2
  have := bulk_ones l
  exact latest_walk A l.length c l _ W0 h1 (by omega) h3 rfl hg
end Go.Proofs.YtehminpiejophaaDoor
