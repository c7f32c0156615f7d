/- lines.Pairs: the places of a longest common list. -/
import Derived.Test.YtbdlpigokahnoaaLinesTable
set_option linter.unusedVariables false
namespace Go.Proofs.Ytbdlpigokahnoaa
open Go.RowKit

theorem elemPair : ElemOf Try.prog 39 65 (.agg #[.int .i64 0, .int .i64 0]) 2 16 := ⟨Try.underlying39, by kernel_rfl, rfl, by decide⟩

theorem work_le {n m : Nat} (hm : 0 < m) (h : n * m ≤ 1048576) : decide ((1048576 : Int) / (m : Int) < (n : Int)) = false := by
  rw [decide_eq_false_iff_not]
  have h1 : n ≤ 1048576 / m := (Nat.le_div_iff_mul_le hm).2 h
  have h2 : ((1048576 : Int) / (m : Int)) = ((1048576 / m : Nat) : Int) := (Int.natCast_ediv _ _).symm
  rw [h2]; omega
theorem work_gt {n m : Nat} (hm : 0 < m) (h : 1048576 < n * m) : decide ((1048576 : Int) / (m : Int) < (n : Int)) = true := by
  rw [decide_eq_true_iff]
  have h1 : 1048576 / m < n := (Nat.div_lt_iff_lt_mul hm).2 h
  have h2 : ((1048576 : Int) / (m : Int)) = ((1048576 / m : Nat) : Int) := (Int.natCast_ediv _ _).symm
  rw [h2]; omega

theorem pairs_long (A B : Option Addr) (n ca m cb : Nat) (w : World) (hn : n ≤ 1048576) (hm : m ≤ 1048576) (hp : 1048576 < n * m) :
    Calls Try.prog 18 #[.slice A n ca, .slice B m cb] w fun e w' => e = .returned (.tuple #[.slice none 0 0, .int .i64 2]) ∧ w = w' := by
  have hm0 : 0 < m := by rcases Nat.eq_zero_or_pos m with h | h; (subst h; simp at hp); exact h
  have hq := work_gt hm0 hp
  have hm1 : decide (0 < m) = true := by simpa using hm0
  have hm2 : decide ((0 : Int) < (m : Int)) = true := by simpa using hm0
  go_enter Try.func18, Try.ntmps18
  go_wp2_with fail
  go_ret2
  exact ⟨rfl, rfl⟩

def PairsPost (W : World) (a b : List ByteArray) (e : Ending) (w' : World) : Prop :=
  ∃ A c, e = .returned (.tuple #[.slice A (pairsAt a b 0 0).length c, .int .i64 0]) ∧ w'.ownsRow W.heap.size 65 2 (.slice A (pairsAt a b 0 0).length c) (pairsAt a b 0 0).length (pairV (pairsAt a b 0 0)) ∧
    (pairsAt a b 0 0).length ≤ c ∧ c ≤ maxLen ∧ Below W.heap.size W w'

set_option maxHeartbeats 2000000 in
theorem pairs_any (A B : Option Addr) (n ca m cb : Nat) (a b : List ByteArray) (w : World) (ha : Sl w 1 A n (strV a)) (hb : Sl w 1 B m (strV b)) (hn : n ≤ 1048576) (hm : m ≤ 1048576) (hp : n * m ≤ 1048576) :
    Calls Try.prog 18 #[.slice A n ca, .slice B m cb] w (PairsPost w a b) := by
  have HLA := Lib.hid ha.strLen
  have HLB := Lib.hid hb.strLen
  have hS : (n + 1) * (m + 1) = n * m + n + m + 1 := by rw [Nat.add_mul, Nat.mul_add]; omega
  have hS3 : (n + 1) * (m + 1) ≤ 4000000 := by omega
  clear hS
  have key : (decide (0 < m) = false ∧ decide ((0 : Int) < (m : Int)) = false) ∨ (decide (0 < m) = true ∧ decide ((0 : Int) < (m : Int)) = true ∧ decide ((1048576 : Int) / (m : Int) < (n : Int)) = false ∧ 0 < m) := by
    rcases Nat.eq_zero_or_pos m with h | h
    · subst h; exact .inl ⟨rfl, rfl⟩
    · exact .inr ⟨by simpa using h, by simpa using h, work_le h hp, h⟩
  have HP := Lib.hid hp
  clear hp
  rcases key with ⟨d1, d2⟩ | ⟨d1, d2, d3, d4⟩
  all_goals
    go_enter Try.func18, Try.ntmps18
    go_wp2_with fail
    refine (fill_any A B n ca m cb a b w ha hb hn hm HP.out).mono ?_
    rintro e w1 ⟨T, C, rfl, hb1, hT⟩
    have ha1 := ha.below hb1
    have hbb1 := hb.below hb1
    have HT := Lib.hid hT
    clear hT ha hb d1 d2
    try clear d3
    go_wp2_with fail
    go_loopw [7, 8, 9] (fun o i k wr => ∃ (I K : Nat) (d : List (Nat × Nat)) (Ao : Option Addr) (co : Nat), o = .slice Ao d.length co ∧ i = .int .i64 I ∧ k = .int .i64 K ∧ I ≤ n ∧ K ≤ m ∧ d.length ≤ I ∧
      wr.ownsRow w1.heap.size 65 2 (.slice Ao d.length co) d.length (pairV d) ∧ Below w1.heap.size w1 wr ∧ Hid (d ++ pairsAt a b I K = pairsAt a b 0 0)) (fun _ i k _ => (n - (intOf i).toNat) + (m - (intOf k).toNat))
    case atStart => exact ⟨0, 0, [], none, 0, rfl, rfl, rfl, by omega, by omega, by simp, World.ownsRow_nil _ _ _ _, Below.refl _ _, Lib.hid rfl⟩
    case round =>
      obtain ⟨I, K, d, Ao, co, rfl, rfl, rfl, hI, hK, hd, hown, hbr, H⟩ := hrel
      by_cases hIn : I < n
      · by_cases hKm : K < m
        · obtain ⟨b1, o1, x, rfl, hb1', cx, gx⟩ := strV_look ha1 hIn
          obtain ⟨b2, o2, y, rfl, hb2', cy, gy⟩ := strV_look hbb1 hKm
          have cx' := (hbr.cell (p := ⟨b1, o1 + I, none⟩) hb1').trans cx
          have cy' := (hbr.cell (p := ⟨b2, o2 + K, none⟩) hb2').trans cy
          have HX := Lib.hid gx
          have HY := Lib.hid gy
          have hTr := HT.out.below hbr
          have p0 := hTr.c0
          have p1 := hTr.c1
          rw [HLA.out, HLB.out] at p0
          rw [HLB.out] at p1
          have Q2 := Lib.hid (hTr.at_ (I + 1) K (by rw [HLA.out]; omega) (by rw [HLB.out]; omega))
          have Q3 := Lib.hid (hTr.at_ I (K + 1) (by rw [HLA.out]; omega) (by rw [HLB.out]; omega))
          have HBR := Lib.hid hbr
          have HO := Lib.hid hown
          clear gx gy cx cy hTr ha1 hbb1 hbr hown
          have i1 : (I : Int) < (n : Int) := by omega
          have i2 : (K : Int) < (m : Int) := by omega
          by_cases hxy : x = y
          · subst hxy
            clear p0 p1 Q2 Q3
            go_wp2_with fail
            go_quiet (fail)
            have hs1 : Same wr (wr.drewN nq) := ⟨nq, rfl⟩
            generalize wr.drewN nq = w2 at *
            have hown2 := (hs1.own HO.out).alloc (.cells #[.int .i64 (I : Int), .int .i64 (K : Int)] 65)
            have hbr2 : Below w1.heap.size w1 (w2.alloc (.cells #[.int .i64 (I : Int), .int .i64 (K : Int)] 65)) := (HBR.out.trans (hs1.below _)).alloc (by have h1 := HBR.out.size; have h2 := hs1.size; omega) _
            have hs2 := Sl.fresh w2 #[.int .i64 (I : Int), .int .i64 (K : Int)] 65 (0, 0) 1 2 rfl
            obtain ⟨A', c', w3, hrun, hap, hc1, hc2⟩ := append_sl (P := Try.prog) elemPair hown2 hs2 (by simp; exact ⟨rfl, rfl⟩) (by omega) (by simp only [maxLen]; omega) hbr2.size 39 1
            have hbr3 := Lib.hid (hbr2.trans hap.below)
            have hown3 := Lib.hid hap.own
            clear hown2 hbr2 hs2 hap HBR HO cx' cy' hs1
            go_wp2_with (at_builtin; refine wpList_run_append hrun ?_ ?_ ?_; exact rfl; exact rfl)
            go_roundw
            case rel =>
              refine ⟨I + 1, K + 1, d ++ [(I, K)], A', c', by rw [List.length_append]; rfl, by go_num, by go_num, by omega, by omega, by simp; omega, ?_, hbr3.out, ?_⟩
              · rw [List.length_append, ← pairV_snoc]; exact hown3.out
              · have h1 := H.out
                rw [pairsAt_eq HX.out HY.out] at h1
                exact Lib.hid (by simpa using h1)
            case measure => simp [intOf]; omega
          · have hne := str_ne hxy
            have HN := Lib.hid hxy
            clear hxy
            go_wp2_with fail
            go_quiet (fail)
            have hs1 : Same wr (wr.drewN nq) := ⟨nq, rfl⟩
            have r0 := (hs1.cell _).trans p0
            have r1 := (hs1.cell _).trans p1
            have Q2' := Lib.hid ((hs1.cell _).trans Q2.out)
            have Q3' := Lib.hid ((hs1.cell _).trans Q3.out)
            generalize wr.drewN nq = w2 at *
            have hbr2 := Lib.hid (HBR.out.trans (hs1.below _))
            have hown2 := Lib.hid (hs1.own HO.out)
            clear HBR HO cx' cy' hs1 p0 p1 Q2 Q3
            obtain ⟨S, hSS⟩ : ∃ S, S = (n + 1) * (m + 1) := ⟨_, rfl⟩
            obtain ⟨j2, hj2⟩ : ∃ j, j = (I + 1) * (m + 1) + K := ⟨_, rfl⟩
            obtain ⟨j3, hj3⟩ : ∃ j, j = I * (m + 1) + (K + 1) := ⟨_, rfl⟩
            have q2 := Q2'.out
            have q3 := Q3'.out
            rw [HLB.out, ← hj2] at q2
            rw [HLB.out, ← hj3] at q3
            rw [← hSS] at r0 hS3
            have l2 : j2 < S := by rw [hj2, hSS]; exact idx_lt (by omega) (by omega)
            have l3 : j3 < S := by rw [hj3, hSS]; exact idx_lt (by omega) (by omega)
            have I2 : Hid (((I : Int) + 1) * ((m : Int) + 1) + (K : Int) = (j2 : Int)) := by rw [hj2]; push_cast; rfl
            have I3 : Hid ((I : Int) * ((m : Int) + 1) + ((K : Int) + 1) = (j3 : Int)) := by rw [hj3]; push_cast; rfl
            have EI := Lib.hid (IntWalk.i64_in ((I : Int) + 1) (by omega))
            have EK := Lib.hid (IntWalk.i64_in ((K : Int) + 1) (by omega))
            have hv2 := Lib.hid (show Lc a b (I + 1) K = Lc a b (I + 1) K from rfl)
            clear hj2 hj3 hSS Q2' Q3'
            by_cases hle : Lc a b I (K + 1) ≤ Lc a b (I + 1) K
            · have HA' := Lib.hid (pairsAt_a HX.out HY.out HN.out hle)
              clear hv2
              generalize Lc a b (I + 1) K = v2 at *
              generalize Lc a b I (K + 1) = v3 at *
              have hle1 : decide (v3 ≤ v2) = true := by simpa using hle
              have hle2 : decide ((v3 : Int) ≤ (v2 : Int)) = true := by simpa using hle
              clear hle
              have HS0 : Same w2 w2.drew := (Same.refl _).drew
              go_wp2_with fail
              refine wp_region_held (S := fun w' => Same w2 w') (by kernel_rfl) ?_
              change wpAnyH _ _ _ _ _ _ _ _ (World.drew _)
              refine held_take (i := 0) (v := ?_) (a' := ?_) rfl (by kernel_rfl) (by kernel_rfl) (by kernel_rfl) (fun _ _ _ h => h) (by rfl) HS0 ?_ ?_ ?_
              rotate_left 2
              · (intro w hS; go_simp; try with_reducible rfl)
              · (go_simp; try with_reducible rfl)
              refine held_take (i := 1) (v := ?_) (a' := ?_) rfl (by kernel_rfl) (by kernel_rfl) (by kernel_rfl) (fun _ _ _ h => h) (by rfl) HS0 ?_ ?_ ?_
              rotate_left 2
              · (intro w hS; go_simp; try with_reducible rfl)
              · (go_simp; try with_reducible rfl)
              refine held_take (i := 2) (v := ?_) (a' := ?_) rfl (by kernel_rfl) (by kernel_rfl) (by kernel_rfl) (fun _ _ _ h => h) (by rfl) HS0 ?_ ?_ ?_
              rotate_left 2
              · (intro w hS; have r := EI.out; go_simp; try with_reducible rfl)
              · (go_simp; try with_reducible rfl)
              refine held_take (i := 3) (v := ?_) (a' := ?_) rfl (by kernel_rfl) (by kernel_rfl) (by kernel_rfl) (fun _ _ _ h => h) (by rfl) HS0 ?_ ?_ ?_
              rotate_left 2
              · (intro w hS; go_simp; try with_reducible rfl)
              · (go_simp; try with_reducible rfl)
              refine held_take (i := 7) (v := ?_) (a' := ?_) rfl (by kernel_rfl) (by kernel_rfl) (by kernel_rfl) (fun _ _ _ h => h) (by rfl) HS0 ?_ ?_ ?_
              rotate_left 2
              · (intro w hS; go_simp; try with_reducible rfl)
              · (go_simp; try with_reducible rfl)
              refine held_take (i := 8) (v := ?_) (a' := ?_) rfl (by kernel_rfl) (by kernel_rfl) (by kernel_rfl) (fun _ _ _ h => h) (by rfl) HS0 ?_ ?_ ?_
              rotate_left 2
              · (intro w hS; go_simp; try with_reducible rfl)
              · (go_simp; try with_reducible rfl)
              refine held_take (i := 9) (v := ?_) (a' := ?_) rfl (by kernel_rfl) (by kernel_rfl) (by kernel_rfl) (fun _ _ _ h => h) (by rfl) HS0 ?_ ?_ ?_
              rotate_left 2
              · (intro w hS; go_simp; try with_reducible rfl)
              · (go_simp; try with_reducible rfl)
              refine held_take (i := 10) (v := ?_) (a' := ?_) rfl (by kernel_rfl) (by kernel_rfl) (by kernel_rfl) (fun _ _ _ h => h) (by rfl) HS0 ?_ ?_ ?_
              rotate_left 2
              · (intro w hS; have r := EK.out; go_simp; try with_reducible rfl)
              · (go_simp; try with_reducible rfl)
              refine held_ready (rs := [4]) (by kernel_rfl) (by simp) ?_
              refine AllHeld.cons rfl (fun KR hKR => ?_) ?_
              · go_simp
                refine (at_any _ _ S j2 _ _ _ _ ((HS0.cell _).trans r0) ((HS0.cell _).trans r1) (by omega) (by omega) (by omega) (by omega) (by omega) (by omega) I2.out l2 (by omega)).mono ?_
                rintro e w3 ⟨rfl, s3⟩
                have HS1 := HS0.trans s3
                refine hKR _ _ HS1 ?_
                clear hKR KR
                refine held_take (i := 5) (v := ?_) (a' := ?_) rfl (by kernel_rfl) (by kernel_rfl) (by kernel_rfl) (fun _ _ _ h => h) (by rfl) HS1 ?_ ?_ ?_
                rotate_left 2
                · (intro w hS; go_simp; try with_reducible rfl)
                · (go_simp; try with_reducible rfl)
                refine held_take (i := 6) (v := ?_) (a' := ?_) rfl (by kernel_rfl) (by kernel_rfl) (by kernel_rfl) (fun _ _ _ h => h) (by rfl) HS1 ?_ ?_ ?_
                rotate_left 2
                · (intro w hS; have r := (hS.cell _).trans q2; go_simp; try with_reducible rfl)
                · (go_simp; try with_reducible rfl)
                refine held_ready (rs := [11]) (by kernel_rfl) (by simp) ?_
                refine AllHeld.cons rfl (fun KR hKR => ?_) ?_
                · go_simp
                  refine (at_any _ _ S j3 _ _ _ _ ((HS1.cell _).trans r0) ((HS1.cell _).trans r1) (by omega) (by omega) (by omega) (by omega) (by omega) (by omega) I3.out l3 (by omega)).mono ?_
                  rintro e w4 ⟨rfl, s4⟩
                  have HS2 := HS1.trans s4
                  refine hKR _ _ HS2 ?_
                  clear hKR KR
                  refine held_take (i := 12) (v := ?_) (a' := ?_) rfl (by kernel_rfl) (by kernel_rfl) (by kernel_rfl) (fun _ _ _ h => h) (by rfl) HS2 ?_ ?_ ?_
                  rotate_left 2
                  · (intro w hS; go_simp; try with_reducible rfl)
                  · (go_simp; try with_reducible rfl)
                  refine held_take (i := 13) (v := ?_) (a' := ?_) rfl (by kernel_rfl) (by kernel_rfl) (by kernel_rfl) (fun _ _ _ h => h) (by rfl) HS2 ?_ ?_ ?_
                  rotate_left 2
                  · (intro w hS; have r := (hS.cell _).trans q3; go_simp; try with_reducible rfl)
                  · (go_simp; try with_reducible rfl)
                  refine held_take (i := 14) (v := ?_) (a' := ?_) rfl (by kernel_rfl) (by kernel_rfl) (by kernel_rfl) (fun _ _ _ h => h) (by rfl) HS2 ?_ ?_ ?_
                  rotate_left 2
                  · (intro w hS; go_simp; try with_reducible rfl)
                  · (go_simp; try with_reducible rfl)
                  refine held_take (i := 15) (v := ?_) (a' := ?_) rfl (by kernel_rfl) (by kernel_rfl) (by kernel_rfl) (fun _ _ _ h => h) (by rfl) HS2 ?_ ?_ ?_
                  rotate_left 2
                  · (intro w hS; go_simp; try with_reducible rfl)
                  · (go_simp; try with_reducible rfl)
                  refine wpAnyH_done (by kernel_rfl) ?_ _
                  go_wp2_with fail
                  go_roundw
                  case rel => exact ⟨I + 1, K, d, Ao, co, rfl, by go_num, rfl, by omega, by omega, by omega, HS2.own hown2.out, hbr2.out.trans (HS2.below _), Lib.hid (by rw [← HA'.out]; exact H.out)⟩
                  case measure => simp [intOf]; omega
                exact AllHeld.nil
              exact AllHeld.nil
            · have HA' := Lib.hid (pairsAt_b HX.out HY.out HN.out hle)
              clear hv2
              generalize Lc a b (I + 1) K = v2 at *
              generalize Lc a b I (K + 1) = v3 at *
              have hle1 : decide (v3 ≤ v2) = false := by simpa using hle
              have hle2 : decide ((v3 : Int) ≤ (v2 : Int)) = false := by simpa using hle
              clear hle
              have HS0 : Same w2 w2.drew := (Same.refl _).drew
              go_wp2_with fail
              refine wp_region_held (S := fun w' => Same w2 w') (by kernel_rfl) ?_
              change wpAnyH _ _ _ _ _ _ _ _ (World.drew _)
              refine held_take (i := 0) (v := ?_) (a' := ?_) rfl (by kernel_rfl) (by kernel_rfl) (by kernel_rfl) (fun _ _ _ h => h) (by rfl) HS0 ?_ ?_ ?_
              rotate_left 2
              · (intro w hS; go_simp; try with_reducible rfl)
              · (go_simp; try with_reducible rfl)
              refine held_take (i := 1) (v := ?_) (a' := ?_) rfl (by kernel_rfl) (by kernel_rfl) (by kernel_rfl) (fun _ _ _ h => h) (by rfl) HS0 ?_ ?_ ?_
              rotate_left 2
              · (intro w hS; go_simp; try with_reducible rfl)
              · (go_simp; try with_reducible rfl)
              refine held_take (i := 2) (v := ?_) (a' := ?_) rfl (by kernel_rfl) (by kernel_rfl) (by kernel_rfl) (fun _ _ _ h => h) (by rfl) HS0 ?_ ?_ ?_
              rotate_left 2
              · (intro w hS; have r := EI.out; go_simp; try with_reducible rfl)
              · (go_simp; try with_reducible rfl)
              refine held_take (i := 3) (v := ?_) (a' := ?_) rfl (by kernel_rfl) (by kernel_rfl) (by kernel_rfl) (fun _ _ _ h => h) (by rfl) HS0 ?_ ?_ ?_
              rotate_left 2
              · (intro w hS; go_simp; try with_reducible rfl)
              · (go_simp; try with_reducible rfl)
              refine held_take (i := 7) (v := ?_) (a' := ?_) rfl (by kernel_rfl) (by kernel_rfl) (by kernel_rfl) (fun _ _ _ h => h) (by rfl) HS0 ?_ ?_ ?_
              rotate_left 2
              · (intro w hS; go_simp; try with_reducible rfl)
              · (go_simp; try with_reducible rfl)
              refine held_take (i := 8) (v := ?_) (a' := ?_) rfl (by kernel_rfl) (by kernel_rfl) (by kernel_rfl) (fun _ _ _ h => h) (by rfl) HS0 ?_ ?_ ?_
              rotate_left 2
              · (intro w hS; go_simp; try with_reducible rfl)
              · (go_simp; try with_reducible rfl)
              refine held_take (i := 9) (v := ?_) (a' := ?_) rfl (by kernel_rfl) (by kernel_rfl) (by kernel_rfl) (fun _ _ _ h => h) (by rfl) HS0 ?_ ?_ ?_
              rotate_left 2
              · (intro w hS; go_simp; try with_reducible rfl)
              · (go_simp; try with_reducible rfl)
              refine held_take (i := 10) (v := ?_) (a' := ?_) rfl (by kernel_rfl) (by kernel_rfl) (by kernel_rfl) (fun _ _ _ h => h) (by rfl) HS0 ?_ ?_ ?_
              rotate_left 2
              · (intro w hS; have r := EK.out; go_simp; try with_reducible rfl)
              · (go_simp; try with_reducible rfl)
              refine held_ready (rs := [4]) (by kernel_rfl) (by simp) ?_
              refine AllHeld.cons rfl (fun KR hKR => ?_) ?_
              · go_simp
                refine (at_any _ _ S j2 _ _ _ _ ((HS0.cell _).trans r0) ((HS0.cell _).trans r1) (by omega) (by omega) (by omega) (by omega) (by omega) (by omega) I2.out l2 (by omega)).mono ?_
                rintro e w3 ⟨rfl, s3⟩
                have HS1 := HS0.trans s3
                refine hKR _ _ HS1 ?_
                clear hKR KR
                refine held_take (i := 5) (v := ?_) (a' := ?_) rfl (by kernel_rfl) (by kernel_rfl) (by kernel_rfl) (fun _ _ _ h => h) (by rfl) HS1 ?_ ?_ ?_
                rotate_left 2
                · (intro w hS; go_simp; try with_reducible rfl)
                · (go_simp; try with_reducible rfl)
                refine held_take (i := 6) (v := ?_) (a' := ?_) rfl (by kernel_rfl) (by kernel_rfl) (by kernel_rfl) (fun _ _ _ h => h) (by rfl) HS1 ?_ ?_ ?_
                rotate_left 2
                · (intro w hS; have r := (hS.cell _).trans q2; go_simp; try with_reducible rfl)
                · (go_simp; try with_reducible rfl)
                refine held_ready (rs := [11]) (by kernel_rfl) (by simp) ?_
                refine AllHeld.cons rfl (fun KR hKR => ?_) ?_
                · go_simp
                  refine (at_any _ _ S j3 _ _ _ _ ((HS1.cell _).trans r0) ((HS1.cell _).trans r1) (by omega) (by omega) (by omega) (by omega) (by omega) (by omega) I3.out l3 (by omega)).mono ?_
                  rintro e w4 ⟨rfl, s4⟩
                  have HS2 := HS1.trans s4
                  refine hKR _ _ HS2 ?_
                  clear hKR KR
                  refine held_take (i := 12) (v := ?_) (a' := ?_) rfl (by kernel_rfl) (by kernel_rfl) (by kernel_rfl) (fun _ _ _ h => h) (by rfl) HS2 ?_ ?_ ?_
                  rotate_left 2
                  · (intro w hS; go_simp; try with_reducible rfl)
                  · (go_simp; try with_reducible rfl)
                  refine held_take (i := 13) (v := ?_) (a' := ?_) rfl (by kernel_rfl) (by kernel_rfl) (by kernel_rfl) (fun _ _ _ h => h) (by rfl) HS2 ?_ ?_ ?_
                  rotate_left 2
                  · (intro w hS; have r := (hS.cell _).trans q3; go_simp; try with_reducible rfl)
                  · (go_simp; try with_reducible rfl)
                  refine held_take (i := 14) (v := ?_) (a' := ?_) rfl (by kernel_rfl) (by kernel_rfl) (by kernel_rfl) (fun _ _ _ h => h) (by rfl) HS2 ?_ ?_ ?_
                  rotate_left 2
                  · (intro w hS; go_simp; try with_reducible rfl)
                  · (go_simp; try with_reducible rfl)
                  refine held_take (i := 15) (v := ?_) (a' := ?_) rfl (by kernel_rfl) (by kernel_rfl) (by kernel_rfl) (fun _ _ _ h => h) (by rfl) HS2 ?_ ?_ ?_
                  rotate_left 2
                  · (intro w hS; go_simp; try with_reducible rfl)
                  · (go_simp; try with_reducible rfl)
                  refine wpAnyH_done (by kernel_rfl) ?_ _
                  go_wp2_with fail
                  go_roundw
                  case rel => exact ⟨I, K + 1, d, Ao, co, rfl, rfl, by go_num, by omega, by omega, by omega, HS2.own hown2.out, hbr2.out.trans (HS2.below _), Lib.hid (by rw [← HA'.out]; exact H.out)⟩
                  case measure => simp [intOf]; omega
                exact AllHeld.nil
              exact AllHeld.nil
        · have i1 : (I : Int) < (n : Int) := by omega
          have i2 : ¬ (K : Int) < (m : Int) := by omega
          have HE := Lib.hid (pairsAt_end (a := a) (b := b) (i := I) (k := K) (by rw [HLB.out]; omega))
          go_wp2_with fail
          go_ret2
          have h1 := H.out
          rw [HE.out, List.append_nil] at h1
          rw [PairsPost, ← h1]
          exact ⟨Ao, co, rfl, own_mono hown hb1.size, (own_cap hown).1, (own_cap hown).2, hb1.trans (hbr.mono hb1.size)⟩
      · have i1 : ¬ (I : Int) < (n : Int) := by omega
        have HE := Lib.hid (pairsAt_end (a := a) (b := b) (i := I) (k := K) (by rw [HLA.out]; omega))
        go_wp2_with fail
        go_ret2
        have h1 := H.out
        rw [HE.out, List.append_nil] at h1
        rw [PairsPost, ← h1]
        exact ⟨Ao, co, rfl, own_mono hown hb1.size, (own_cap hown).1, (own_cap hown).2, hb1.trans (hbr.mono hb1.size)⟩
end Go.Proofs.Ytbdlpigokahnoaa
