/- glob.Skips: is a path, or a folder in which it lies, passed over? -/
import Derived.Test.YtlddnghfjdjglaaDoorGlobRules
set_option linter.unusedVariables false
set_option linter.unusedSimpArgs false
namespace Go.Proofs.YtlddnghfjdjglaaDoor
open Go.RowKit

/-! ### plain -/
theorem lastG_zero (qs : List Rul) (p : List UInt8) : lastG (qs.take 0) p = false := rfl
theorem lastG_step {qs : List Rul} {k : Nat} {q : Rul} (p : List UInt8) (h : qs[k]? = some q) : lastG (qs.take (k + 1)) p = if matchM q.pat p then !q.keep else lastG (qs.take k) p := by
  unfold lastG
  rw [List.take_add_one, h, List.reverse_append]
  simp only [Option.toList_some, List.reverse_cons, List.reverse_nil, List.nil_append, List.singleton_append, List.find?_cons]
  cases matchM q.pat p <;> simp
def lookG (l : List UInt8) (i : Nat) : Bool := match l[i]? with | none => true | some x => x == 47
/-- the beginnings from i on -/
def skipF (qs : List Rul) (l : List UInt8) (i : Nat) : Bool := ((List.range' i (l.length + 1 - i)).filter (lookG l)).any fun i => lastG qs (l.take i)
theorem skipF_zero (qs : List Rul) (l : List UInt8) : skipsG qs l = skipF qs l 0 := by
  unfold skipsG cutsG skipF
  rw [List.range_eq_range']
  rfl
theorem skipF_end (qs : List Rul) (l : List UInt8) : skipF qs l (l.length + 1) = false := by
  unfold skipF
  rw [Nat.sub_self]; rfl
theorem skipF_step (qs : List Rul) (l : List UInt8) {i : Nat} (h : i ≤ l.length) : skipF qs l i = (lookG l i && lastG qs (l.take i) || skipF qs l (i + 1)) := by
  unfold skipF
  rw [show l.length + 1 - i = (l.length + 1 - (i + 1)) + 1 by omega, List.range'_succ, List.filter_cons]
  cases lookG l i <;> simp
theorem strL_take (l : List UInt8) (i : Nat) : (strL l).extract 0 i = strL (l.take i) := by
  apply ByteArray.ext
  simp [strL, ByteArray.extract, ByteArray.copySlice]

theorem rul_look {w : World} {av : Av} {A : Option Addr} {l : List Rul} {n i : Nat} (h : SlOf rulR w av A l) (hl : l.length = n) (hi : i < n) :
    ∃ b off gq q, A = some ⟨b, off, none⟩ ∧ b < w.heap.size ∧ l[i]? = some q ∧ patR.R w av [.pointer (some ⟨gq, 0, none⟩)] q.pat ∧ PatOk q.pat ∧ w.cell? ⟨b, off + i * 2, none⟩ = some (.pointer (some ⟨gq, 0, none⟩)) ∧ w.cell? ⟨b, off + i * 2 + 1, none⟩ = some (.bool q.keep) := by
  obtain ⟨b, off, cs, q, e, hb, hx, hr, hc⟩ := h.at hl hi
  obtain ⟨v, rfl, hp, hok⟩ := hr
  obtain ⟨gq, rfl⟩ : ∃ gv, v = .pointer (some ⟨gv, 0, none⟩) := by
    obtain ⟨g', _, _, e, _⟩ := hp
    injection e with e; exact ⟨g', e⟩
  refine ⟨b, off, gq, q, e, hb, hx, hp, hok, ?_, ?_⟩
  · exact hc 0 _ rfl
  · exact hc 1 _ rfl

set_option maxRecDepth 100000 in
set_option maxHeartbeats 4000000 in
theorem skips_any (gp : Nat) (qs : List Rul) (l : List UInt8) (w : World) (h : rulesR.R w no [.pointer (some ⟨gp, 0, none⟩)] qs) (hl : l.length ≤ 1000000) :
    Calls Tryd.prog 16 #[.pointer (some ⟨gp, 0, none⟩), .string (strL l)] w fun e w' => e = .returned (.bool (skipsG qs l)) ∧ Below w.heap.size w w' := by
  obtain ⟨gp', P, c, hgp, hpb, _, hpc, hcm, hs⟩ := h
  obtain rfl : gp' = gp := by injection hgp with hgp; injection hgp with hgp; injection hgp with hgp; injection hgp with hgp; exact hgp.symm
  obtain ⟨R, hR⟩ : ∃ R, R = skipF qs l 0 := ⟨_, rfl⟩
  rw [skipF_zero, ← hR]
  have HR := Lib.hid hR
  obtain ⟨M, hM⟩ : ∃ M, M = l.length := ⟨_, rfl⟩
  obtain ⟨N, hN⟩ : ∃ N, N = qs.length := ⟨_, rfl⟩
  rw [← hN] at hpb hpc
  rw [← hM] at hl
  have hNm : N ≤ 9223372036854775807 := by have := Nat.le_trans hpc hcm; simp only [maxLen] at this; omega
  have HM := Lib.hid hM
  have HN := Lib.hid hN
  have HPB := Lib.hid hpb
  have HS := Lib.hid hs
  have HSZ := Lib.hid (show (strL l).size = M by rw [hM]; simp [strL, ByteArray.size])
  obtain ⟨q, hq⟩ : ∃ q, q = strL l := ⟨_, rfl⟩
  rw [← hq] at HSZ ⊢
  have HQ := Lib.hid hq
  clear hR hM hN hpb hs hpc hcm hgp hq
  have hqM : q.size = M := HSZ.out
  go_enter Tryd.func16, Tryd.ntmps16
  go_wp2_with fail
  go_loopw [10] (fun s10 wr => ∃ i : Nat, i ≤ M + 1 ∧ s10 = .int .i64 (i : Int) ∧ Hid (skipF qs l i = R) ∧ Hid (Below w.heap.size w wr)) (fun s10 wr => M + 1 - (intOf s10).toNat)
  case atStart => exact ⟨0, Nat.zero_le _, rfl, Lib.hid HR.out.symm, Lib.hid (Below.refl _ _)⟩
  case round =>
    obtain ⟨i, hi, rfl, HF, HB⟩ := hrel
    by_cases hlt : i < M + 1
    · have hltI : (i : Int) < (M : Int) + 1 := by omega
      by_cases hiM : i < M
      · have hiI : (i : Int) < (M : Int) := by omega
        obtain ⟨x, hx⟩ : ∃ x, l[i]? = some x := ⟨_, List.getElem?_eq_getElem (by have := HM.out; omega)⟩
        have hi2 : i < q.size := by omega
        have hqx : q[i] = x := by
          have h1 := HQ.out
          subst h1
          have h2 : l[i]? = some ((strL l)[i]) := by
            rw [List.getElem?_eq_getElem (show i < l.length by have := HM.out; omega)]; rfl
          rw [hx] at h2; exact (Option.some.inj h2).symm
        by_cases h47 : x = 47
        · have hx47 : ((x.toNat : Int) != 47) = false := by rw [h47]; rfl
          have HLK := Lib.hid (show lookG l i = true by unfold lookG; rw [hx, h47]; rfl)
          have HD := Lib.hid (skipF_step qs l (i := i) (by have := HM.out; omega))
          clear hx h47
          have cP0 : wr.cell? ⟨gp', 0, none⟩ = some (.slice P N c) := (HPB.out.below HB.out HPB.out.lt).cell 0
          go_wp2_with fail
          clear cP0
          obtain ⟨wL, hwL⟩ : ∃ wo : World, wo = wr := ⟨_, rfl⟩
          subst hwL
          go_loopw [6] (fun s6 wr => ∃ k : Nat, k ≤ N ∧ s6 = .int .i64 ((k : Int) - 1) ∧ Hid (lastG (qs.take k) (l.take i) = lastG qs (l.take i)) ∧ Hid (Below w.heap.size w wr)) (fun s6 wr => (intOf s6 + 1).toNat)
          case atStart => exact ⟨N, Nat.le_refl _, by go_num, Lib.hid (by rw [HN.out, List.take_length]), HB⟩
          case round =>
            obtain ⟨k, hk, rfl, HT, HB2⟩ := hrel
            cases k with
            | zero =>
              have HF2 := Lib.hid (show skipF qs l (i + 1) = R by
                rw [← HF.out, HD.out, ← HT.out, lastG_zero, Bool.and_false, Bool.false_or])
              go_wp2_with fail
              go_roundw
              case rel => exact ⟨i + 1, by omega, by go_num, HF2, HB2⟩
              case measure => simp [intOf]; omega
            | succ k =>
              have hz0 : ((0 : Int) ≤ ((k + 1 : Nat) : Int) - 1) := by omega
              have hkN : (((k + 1 : Nat) : Int) - 1 < (N : Int)) := by omega
              have hiM2 : i ≤ M := by omega
              have hkN2 : k < N := by omega
              have hkN3 : (k : Int) < (N : Int) := by omega
              have hk0 : (0 : Int) ≤ (k : Int) := by omega
              have cP : wr.cell? ⟨gp', 0, none⟩ = some (.slice P N c) := (HPB.out.below HB2.out HPB.out.lt).cell 0
              obtain ⟨b, off, gq, ru, hP, hb, hru, hpat, hok, c0, c1⟩ := rul_look (HS.out.below HB2.out) HN.out.symm (show k < N by omega)
              subst hP
              obtain ⟨mt, hmt⟩ : ∃ mt, mt = matchM ru.pat (l.take i) := ⟨_, rfl⟩
              have HMT := Lib.hid (fun w' (hb : Below wr.heap.size wr w') => pmatch_any gq ru.pat (l.take i) w' (patR.stable hpat (Moves.of_below hb)) hok.1 hok.2 (by rw [List.length_take]; have := HM.out; omega))
              rw [← hmt, ← strL_take, ← HQ.out] at HMT
              have HST := Lib.hid (lastG_step (l.take i) hru)
              rw [← hmt] at HST
              obtain ⟨kp, hkp⟩ : ∃ kp, kp = ru.keep := ⟨_, rfl⟩
              rw [← hkp] at c1 HST
              have hgl := HPB.out.lt
              have hw1 := HB2.out.size
              clear hpat hok hmt hru hkp
              go_upto_region 8 with fail
              have hcls : Below wr.heap.size wr wr.drew := Same.below ⟨1, rfl⟩ _
              refine wp_region_held (S := fun w' => Below wr.heap.size wr w') (by kernel_rfl) ?_
              change wpAnyH _ _ _ _ _ _ _ _ (World.drew _)
              refine held_take (i := 0) (v := ?_) (a' := ?_) rfl (by kernel_rfl) (by kernel_rfl) (by kernel_rfl) (fun _ _ _ h => h) (by rfl) hcls ?_ ?_ ?_
              rotate_left 2
              · (intro w hS; go_simp; try with_reducible rfl)
              · (go_simp; try with_reducible rfl)
              refine held_take (i := 1) (v := ?_) (a' := ?_) rfl (by kernel_rfl) (by kernel_rfl) (by kernel_rfl) (fun _ _ _ h => h) (by rfl) hcls ?_ ?_ ?_
              rotate_left 2
              · (intro w hS; go_simp; try with_reducible rfl)
              · (go_simp; try with_reducible rfl)
              refine held_take (i := 2) (v := ?_) (a' := ?_) rfl (by kernel_rfl) (by kernel_rfl) (by kernel_rfl) (fun _ _ _ h => h) (by rfl) hcls ?_ ?_ ?_
              rotate_left 2
              · (intro w hS; go_simp; try with_reducible rfl)
              · (go_simp; try with_reducible rfl)
              refine held_take (i := 3) (v := ?_) (a' := ?_) rfl (by kernel_rfl) (by kernel_rfl) (by kernel_rfl) (fun _ _ _ h => h) (by rfl) hcls ?_ ?_ ?_
              rotate_left 2
              · (intro w hS; have cP2 := (hS.cell (p := ⟨gp', 0, none⟩) (by show gp' < _; omega)).trans cP; go_simp; try with_reducible rfl)
              · (go_simp; try with_reducible rfl)
              refine held_take (i := 4) (v := ?_) (a' := ?_) rfl (by kernel_rfl) (by kernel_rfl) (by kernel_rfl) (fun _ _ _ h => h) (by rfl) hcls ?_ ?_ ?_
              rotate_left 2
              · (intro w hS; go_simp; try with_reducible rfl)
              · (go_simp; try with_reducible rfl)
              refine held_take (i := 5) (v := ?_) (a' := ?_) rfl (by kernel_rfl) (by kernel_rfl) (by kernel_rfl) (fun _ _ _ h => h) (by rfl) hcls ?_ ?_ ?_
              rotate_left 2
              · (intro w hS; go_simp; try with_reducible rfl)
              · (go_simp; try with_reducible rfl)
              refine held_take (i := 6) (v := ?_) (a' := ?_) rfl (by kernel_rfl) (by kernel_rfl) (by kernel_rfl) (fun _ _ _ h => h) (by rfl) hcls ?_ ?_ ?_
              rotate_left 2
              · (intro w hS; go_simp; try with_reducible rfl)
              · (go_simp; try with_reducible rfl)
              refine held_take (i := 7) (v := ?_) (a' := ?_) rfl (by kernel_rfl) (by kernel_rfl) (by kernel_rfl) (fun _ _ _ h => h) (by rfl) hcls ?_ ?_ ?_
              rotate_left 2
              · (intro w hS; have c02 := (hS.cell (p := ⟨b, off + k * 2, none⟩) hb).trans c0; go_simp; try with_reducible rfl)
              · (go_simp; try with_reducible rfl)
              refine held_take (i := 8) (v := ?_) (a' := ?_) rfl (by kernel_rfl) (by kernel_rfl) (by kernel_rfl) (fun _ _ _ h => h) (by rfl) hcls ?_ ?_ ?_
              rotate_left 2
              · (intro w hS; go_simp; try with_reducible rfl)
              · (go_simp; try with_reducible rfl)
              refine held_take (i := 9) (v := ?_) (a' := ?_) rfl (by kernel_rfl) (by kernel_rfl) (by kernel_rfl) (fun _ _ _ h => h) (by rfl) hcls ?_ ?_ ?_
              rotate_left 2
              · (intro w hS; go_simp; try with_reducible rfl)
              · (go_simp; try with_reducible rfl)
              refine held_take (i := 10) (v := ?_) (a' := ?_) rfl (by kernel_rfl) (by kernel_rfl) (by kernel_rfl) (fun _ _ _ h => h) (by rfl) hcls ?_ ?_ ?_
              rotate_left 2
              · (intro w hS; go_simp; try with_reducible rfl)
              · (go_simp; try with_reducible rfl)
              refine held_ready (rs := [11]) (by kernel_rfl) (by simp) ?_
              refine AllHeld.cons rfl (fun KR hKR => ?_) ?_
              · go_simp
                refine (HMT.out _ hcls).mono ?_
                rintro e w2 ⟨rfl, hb2⟩
                have hc2 := hcls.trans (hb2.mono hcls.size)
                refine hKR _ _ hc2 ?_
                clear hKR KR
                refine wpAnyH_done (by kernel_rfl) ?_ _
                have cP3 := (hc2.cell (p := ⟨gp', 0, none⟩) (by show gp' < _; omega)).trans cP
                have c13 := (hc2.cell (p := ⟨b, off + k * 2 + 1, none⟩) hb).trans c1
                have HB3 := Lib.hid (HB2.out.trans (hc2.mono HB2.out.size))
                clear cP c0 c1 hcls hb2 hc2
                cases mt with
                | false =>
                  have HT2 := Lib.hid (show lastG (qs.take k) (l.take i) = lastG qs (l.take i) by rw [← HT.out, HST.out]; rfl)
                  go_wp2_with fail
                  go_roundw
                  case rel => exact ⟨k, by omega, by go_num, HT2, HB3⟩
                  case measure => simp [intOf]
                | true =>
                  cases kp with
                  | true =>
                    have HF2 := Lib.hid (show skipF qs l (i + 1) = R by
                      rw [← HF.out, HD.out, ← HT.out, HST.out]; simp)
                    go_wp2_with fail
                    go_roundw
                    case rel => exact ⟨i + 1, by omega, by go_num, HF2, HB3⟩
                    case measure => simp [intOf]; omega
                  | false =>
                    have HRR := Lib.hid (show R = true by
                      rw [← HF.out, HD.out, HLK.out, ← HT.out, HST.out]; simp)
                    go_wp2_with fail
                    go_ret
                    rw [HRR.out]
                    exact ⟨rfl, HB3.out⟩
              exact AllHeld.nil
        · have hx47 : ((x.toNat : Int) != 47) = true := by
            simp
            intro e
            exact h47 (UInt8.toNat_inj.1 (by show x.toNat = 47; omega))
          have HF2 := Lib.hid (show skipF qs l (i + 1) = R by
            rw [← HF.out, skipF_step qs l (i := i) (by have := HM.out; omega)]
            have : lookG l i = false := by unfold lookG; rw [hx]; simpa using h47
            rw [this, Bool.false_and, Bool.false_or])
          clear hx h47
          go_wp2_with fail
          go_roundw
          case rel => exact ⟨i + 1, by omega, by go_num, HF2, HB⟩
          case measure => simp [intOf]; omega
      · have hiI : ¬ (i : Int) < (M : Int) := by omega
        have HLK := Lib.hid (show lookG l i = true by unfold lookG; rw [List.getElem?_eq_none (by have := HM.out; omega)])
        have HD := Lib.hid (skipF_step qs l (i := i) (by have := HM.out; omega))
        have cP0 : wr.cell? ⟨gp', 0, none⟩ = some (.slice P N c) := (HPB.out.below HB.out HPB.out.lt).cell 0
        go_wp2_with fail
        clear cP0
        obtain ⟨wL, hwL⟩ : ∃ wo : World, wo = wr := ⟨_, rfl⟩
        subst hwL
        go_loopw [6] (fun s6 wr => ∃ k : Nat, k ≤ N ∧ s6 = .int .i64 ((k : Int) - 1) ∧ Hid (lastG (qs.take k) (l.take i) = lastG qs (l.take i)) ∧ Hid (Below w.heap.size w wr)) (fun s6 wr => (intOf s6 + 1).toNat)
        case atStart => exact ⟨N, Nat.le_refl _, by go_num, Lib.hid (by rw [HN.out, List.take_length]), HB⟩
        case round =>
          obtain ⟨k, hk, rfl, HT, HB2⟩ := hrel
          cases k with
          | zero =>
            have HF2 := Lib.hid (show skipF qs l (i + 1) = R by
              rw [← HF.out, HD.out, ← HT.out, lastG_zero, Bool.and_false, Bool.false_or])
            go_wp2_with fail
            go_roundw
            case rel => exact ⟨i + 1, by omega, by go_num, HF2, HB2⟩
            case measure => simp [intOf]; omega
          | succ k =>
            have hz0 : ((0 : Int) ≤ ((k + 1 : Nat) : Int) - 1) := by omega
            have hkN : (((k + 1 : Nat) : Int) - 1 < (N : Int)) := by omega
            have hiM2 : i ≤ M := by omega
            have hkN2 : k < N := by omega
            have hkN3 : (k : Int) < (N : Int) := by omega
            have hk0 : (0 : Int) ≤ (k : Int) := by omega
            have cP : wr.cell? ⟨gp', 0, none⟩ = some (.slice P N c) := (HPB.out.below HB2.out HPB.out.lt).cell 0
            obtain ⟨b, off, gq, ru, hP, hb, hru, hpat, hok, c0, c1⟩ := rul_look (HS.out.below HB2.out) HN.out.symm (show k < N by omega)
            subst hP
            obtain ⟨mt, hmt⟩ : ∃ mt, mt = matchM ru.pat (l.take i) := ⟨_, rfl⟩
            have HMT := Lib.hid (fun w' (hb : Below wr.heap.size wr w') => pmatch_any gq ru.pat (l.take i) w' (patR.stable hpat (Moves.of_below hb)) hok.1 hok.2 (by rw [List.length_take]; have := HM.out; omega))
            rw [← hmt, ← strL_take, ← HQ.out] at HMT
            have HST := Lib.hid (lastG_step (l.take i) hru)
            rw [← hmt] at HST
            obtain ⟨kp, hkp⟩ : ∃ kp, kp = ru.keep := ⟨_, rfl⟩
            rw [← hkp] at c1 HST
            have hgl := HPB.out.lt
            have hw1 := HB2.out.size
            clear hpat hok hmt hru hkp
            go_upto_region 8 with fail
            have hcls : Below wr.heap.size wr wr.drew := Same.below ⟨1, rfl⟩ _
            refine wp_region_held (S := fun w' => Below wr.heap.size wr w') (by kernel_rfl) ?_
            change wpAnyH _ _ _ _ _ _ _ _ (World.drew _)
            refine held_take (i := 0) (v := ?_) (a' := ?_) rfl (by kernel_rfl) (by kernel_rfl) (by kernel_rfl) (fun _ _ _ h => h) (by rfl) hcls ?_ ?_ ?_
            rotate_left 2
            · (intro w hS; go_simp; try with_reducible rfl)
            · (go_simp; try with_reducible rfl)
            refine held_take (i := 1) (v := ?_) (a' := ?_) rfl (by kernel_rfl) (by kernel_rfl) (by kernel_rfl) (fun _ _ _ h => h) (by rfl) hcls ?_ ?_ ?_
            rotate_left 2
            · (intro w hS; go_simp; try with_reducible rfl)
            · (go_simp; try with_reducible rfl)
            refine held_take (i := 2) (v := ?_) (a' := ?_) rfl (by kernel_rfl) (by kernel_rfl) (by kernel_rfl) (fun _ _ _ h => h) (by rfl) hcls ?_ ?_ ?_
            rotate_left 2
            · (intro w hS; go_simp; try with_reducible rfl)
            · (go_simp; try with_reducible rfl)
            refine held_take (i := 3) (v := ?_) (a' := ?_) rfl (by kernel_rfl) (by kernel_rfl) (by kernel_rfl) (fun _ _ _ h => h) (by rfl) hcls ?_ ?_ ?_
            rotate_left 2
            · (intro w hS; have cP2 := (hS.cell (p := ⟨gp', 0, none⟩) (by show gp' < _; omega)).trans cP; go_simp; try with_reducible rfl)
            · (go_simp; try with_reducible rfl)
            refine held_take (i := 4) (v := ?_) (a' := ?_) rfl (by kernel_rfl) (by kernel_rfl) (by kernel_rfl) (fun _ _ _ h => h) (by rfl) hcls ?_ ?_ ?_
            rotate_left 2
            · (intro w hS; go_simp; try with_reducible rfl)
            · (go_simp; try with_reducible rfl)
            refine held_take (i := 5) (v := ?_) (a' := ?_) rfl (by kernel_rfl) (by kernel_rfl) (by kernel_rfl) (fun _ _ _ h => h) (by rfl) hcls ?_ ?_ ?_
            rotate_left 2
            · (intro w hS; go_simp; try with_reducible rfl)
            · (go_simp; try with_reducible rfl)
            refine held_take (i := 6) (v := ?_) (a' := ?_) rfl (by kernel_rfl) (by kernel_rfl) (by kernel_rfl) (fun _ _ _ h => h) (by rfl) hcls ?_ ?_ ?_
            rotate_left 2
            · (intro w hS; go_simp; try with_reducible rfl)
            · (go_simp; try with_reducible rfl)
            refine held_take (i := 7) (v := ?_) (a' := ?_) rfl (by kernel_rfl) (by kernel_rfl) (by kernel_rfl) (fun _ _ _ h => h) (by rfl) hcls ?_ ?_ ?_
            rotate_left 2
            · (intro w hS; have c02 := (hS.cell (p := ⟨b, off + k * 2, none⟩) hb).trans c0; go_simp; try with_reducible rfl)
            · (go_simp; try with_reducible rfl)
            refine held_take (i := 8) (v := ?_) (a' := ?_) rfl (by kernel_rfl) (by kernel_rfl) (by kernel_rfl) (fun _ _ _ h => h) (by rfl) hcls ?_ ?_ ?_
            rotate_left 2
            · (intro w hS; go_simp; try with_reducible rfl)
            · (go_simp; try with_reducible rfl)
            refine held_take (i := 9) (v := ?_) (a' := ?_) rfl (by kernel_rfl) (by kernel_rfl) (by kernel_rfl) (fun _ _ _ h => h) (by rfl) hcls ?_ ?_ ?_
            rotate_left 2
            · (intro w hS; go_simp; try with_reducible rfl)
            · (go_simp; try with_reducible rfl)
            refine held_take (i := 10) (v := ?_) (a' := ?_) rfl (by kernel_rfl) (by kernel_rfl) (by kernel_rfl) (fun _ _ _ h => h) (by rfl) hcls ?_ ?_ ?_
            rotate_left 2
            · (intro w hS; go_simp; try with_reducible rfl)
            · (go_simp; try with_reducible rfl)
            refine held_ready (rs := [11]) (by kernel_rfl) (by simp) ?_
            refine AllHeld.cons rfl (fun KR hKR => ?_) ?_
            · go_simp
              refine (HMT.out _ hcls).mono ?_
              rintro e w2 ⟨rfl, hb2⟩
              have hc2 := hcls.trans (hb2.mono hcls.size)
              refine hKR _ _ hc2 ?_
              clear hKR KR
              refine wpAnyH_done (by kernel_rfl) ?_ _
              have cP3 := (hc2.cell (p := ⟨gp', 0, none⟩) (by show gp' < _; omega)).trans cP
              have c13 := (hc2.cell (p := ⟨b, off + k * 2 + 1, none⟩) hb).trans c1
              have HB3 := Lib.hid (HB2.out.trans (hc2.mono HB2.out.size))
              clear cP c0 c1 hcls hb2 hc2
              cases mt with
              | false =>
                have HT2 := Lib.hid (show lastG (qs.take k) (l.take i) = lastG qs (l.take i) by rw [← HT.out, HST.out]; rfl)
                go_wp2_with fail
                go_roundw
                case rel => exact ⟨k, by omega, by go_num, HT2, HB3⟩
                case measure => simp [intOf]
              | true =>
                cases kp with
                | true =>
                  have HF2 := Lib.hid (show skipF qs l (i + 1) = R by
                    rw [← HF.out, HD.out, ← HT.out, HST.out]; simp)
                  go_wp2_with fail
                  go_roundw
                  case rel => exact ⟨i + 1, by omega, by go_num, HF2, HB3⟩
                  case measure => simp [intOf]; omega
                | false =>
                  have HRR := Lib.hid (show R = true by
                    rw [← HF.out, HD.out, HLK.out, ← HT.out, HST.out]; simp)
                  go_wp2_with fail
                  go_ret
                  rw [HRR.out]
                  exact ⟨rfl, HB3.out⟩
            exact AllHeld.nil
    · have hltI : ¬ (i : Int) < (M : Int) + 1 := by omega
      obtain rfl : i = M + 1 := by omega
      have HRR := Lib.hid (show R = false by rw [← HF.out, HM.out, skipF_end])
      go_wp2_with fail
      go_ret
      rw [HRR.out]
      exact ⟨rfl, HB.out⟩
end Go.Proofs.YtlddnghfjdjglaaDoor
