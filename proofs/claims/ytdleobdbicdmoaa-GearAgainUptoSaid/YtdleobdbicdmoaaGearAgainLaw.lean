/- The walk of the law GearAgain: what stands behind a place where a chunk ends is cut the same. -/
import Derived.Test.YtdleobdbicdmoaaGearAgain
import Derived.Test.YtdleobdbicdmoaaGearJoin
import Derived.Deep.DeepMust
set_option linter.unusedVariables false
namespace Go.Proofs.Ytdleobdbicdmoaa
open Go.RowKit
attribute [local go_sem ↓] Go.wp_at_zero Go.wp_at_succ

theorem whole_law {a : List UInt8} (h : wholeB a (cutL 4 64 3 a) 4 64 3 = true) (rest : List UInt8) : cutL 4 64 3 (a ++ rest) = cutL 4 64 3 a ++ cutL 4 64 3 rest := by
  refine cut_behind 4 64 3 [0, 1, 2, 3, 4, 5, 6, 7] (by simp) rest a.length a (Nat.le_refl _) ?_
  simp only [wholeB, sameB, Bool.or_eq_true, Bool.and_eq_true, beq_iff_eq, List.isEmpty_iff] at h
  rcases h with h | h
  · rw [h]; rfl
  · exact h.2

set_option maxHeartbeats 1000000 in
theorem again_any (A0 : Option Addr) (n0 c0 : Nat) (l0 : List UInt8) (A1 : Option Addr) (n1 c1 : Nat) (l1 : List UInt8) (A2 : Option Addr) (n2 c2 : Nat) (l2 : List UInt8) (w : World)
    (hs0 : Sl w 1 A0 n0 (bytesV l0)) (hc0 : n0 ≤ c0) (hm0 : c0 ≤ maxLen) (hn0 : n0 ≤ 1048576) (hs1 : Sl w 1 A1 n1 (bytesV l1)) (hc1 : n1 ≤ c1) (hm1 : c1 ≤ maxLen) (hn1 : n1 ≤ 1048576)
    (hs2 : Sl w 1 A2 n2 (bytesV l2)) (hc2 : n2 ≤ c2) (hm2 : c2 ≤ maxLen) (hn2 : n2 ≤ 1048576) :
    Calls Try.prog 4 #[.slice A0 n0 c0, .slice A1 n1 c1, .slice A2 n2 c2] w fun e w' => e = .returned (.bool true) ∧ Below w.heap.size w w' := by
  have hl0 : l0.length = n0 := by have := hs0.1; simpa [bytesV] using this
  have hl1 : l1.length = n1 := by have := hs1.1; simpa [bytesV] using this
  have hl2 : l2.length = n2 := by have := hs2.1; simpa [bytesV] using this
  have L0 := Lib.hid hl0
  have L1 := Lib.hid hl1
  have L2 := Lib.hid hl2
  have k0 := cutL_length 4 64 3 l0.length l0 (Nat.le_refl _)
  have k1 := cutL_length 4 64 3 l1.length l1 (Nat.le_refl _)
  have k2 := cutL_length 4 64 3 l2.length l2 (Nat.le_refl _)
  rw [hl0] at k0
  rw [hl1] at k1
  rw [hl2] at k2
  clear hl0 hl1 hl2
  go_enter Try.func4, Try.ntmps4
  go_wp2_with fail
  refine (awake_any _).mono ?_
  rintro e w1 ⟨rfl, hb1⟩
  have hbp : Below w.heap.size w (w1.alloc (.cells #[.int .i64 4, .int .i64 64, .int .i64 3] 25)) := hb1.alloc hb1.size _
  have hP : (w1.alloc (.cells #[.int .i64 4, .int .i64 64, .int .i64 3] 25)).cell? ⟨w1.heap.size, 0, none⟩ = some (.int .i64 4) ∧ (w1.alloc (.cells #[.int .i64 4, .int .i64 64, .int .i64 3] 25)).cell? ⟨w1.heap.size, 1, none⟩ = some (.int .i64 64) ∧ (w1.alloc (.cells #[.int .i64 4, .int .i64 64, .int .i64 3] 25)).cell? ⟨w1.heap.size, 2, none⟩ = some (.int .i64 3) := by
    refine ⟨?_, ?_, ?_⟩ <;> go_simp
  have hz : w1.heap.size < (w1.alloc (.cells #[.int .i64 4, .int .i64 64, .int .i64 3] 25)).heap.size := by simp
  have hw1 := hb1.size
  go_wp2_with fail
  refine (cut_any A0 n0 c0 l0 4 64 3 _ (hs0.below hbp) hc0 (by omega) (by decide)).mono ?_
  rintro e w2 ⟨AX, cX, rfl, hX, hXc, hXm, hb2⟩
  have hP2 := cells3_keep hb2 hz hP
  have hbp2 := hbp.trans (hb2.mono (by simp; omega))
  have hz2 := Nat.lt_of_lt_of_le hz hb2.size
  clear hP hz hbp hb1
  obtain ⟨p1, p2, p3⟩ := id hP2
  go_wp2_with fail
  refine (cut_any A1 n1 c1 l1 4 64 3 _ (hs1.below hbp2) hc1 (by omega) (by decide)).mono ?_
  rintro e w3 ⟨AY, cY, rfl, hY, hYc, hYm, hb3⟩
  clear p1 p2 p3
  have hP3 := cells3_keep hb3 hz2 hP2
  have hbp3 := hbp2.trans (hb3.mono (by omega))
  have hz3 := Nat.lt_of_lt_of_le hz2 hb3.size
  have hX3 := (Sl.ofOwn hX).below hb3
  have hY3 := Sl.ofOwn hY
  clear hP2 hz2 hbp2 hb2 hb3 hX hY hXm hYm
  obtain ⟨p1, p2, p3⟩ := id hP3
  have W0 := whole_any A0 n0 c0 l0 AX (cutL 4 64 3 l0).length cX (cutL 4 64 3 l0) 4 64 3 w3 (hs0.below hbp3) hX3 hc0 hn0 (by omega) (by decide)
  by_cases hw0 : wholeB l0 (cutL 4 64 3 l0) 4 64 3 = true
  · rw [hw0] at W0
    have E0 := Lib.hid (whole_law hw0 l2)
    have HW0 := Lib.hid W0
    clear hw0 W0
    go_wp2_with fail
    refine HW0.out.mono ?_
    rintro e w4 ⟨rfl, hb4⟩
    clear p1 p2 p3 HW0
    have hP4 := cells3_keep hb4 hz3 hP3
    have hbp4 := hbp3.trans (hb4.mono (by omega))
    have hz4 := Nat.lt_of_lt_of_le hz3 hb4.size
    have hX4 := hX3.below hb4
    have hY4 := hY3.below hb4
    clear hP3 hz3 hbp3 hb4 hX3 hY3
    obtain ⟨p1, p2, p3⟩ := id hP4
    have W1 := whole_any A1 n1 c1 l1 AY (cutL 4 64 3 l1).length cY (cutL 4 64 3 l1) 4 64 3 w4 (hs1.below hbp4) hY4 hc1 hn1 (by omega) (by decide)
    by_cases hw1 : wholeB l1 (cutL 4 64 3 l1) 4 64 3 = true
    · rw [hw1] at W1
      have E1 := Lib.hid (whole_law hw1 l2)
      have HW1 := Lib.hid W1
      clear hw1 W1
      go_wp2_with fail
      refine HW1.out.mono ?_
      rintro e w5 ⟨rfl, hb5⟩
      clear p1 p2 p3 HW1
      have hP5 := cells3_keep hb5 hz4 hP4
      have hbp5 := hbp4.trans (hb5.mono (by omega))
      have hz5 := Nat.lt_of_lt_of_le hz4 hb5.size
      have hX5 := hX4.below hb5
      have hY5 := hY4.below hb5
      clear hP4 hz4 hbp4 hb5 hX4 hY4
      obtain ⟨p1, p2, p3⟩ := id hP5
      go_wp2_with fail
      refine (cut_any A2 n2 c2 l2 4 64 3 _ (hs2.below hbp5) hc2 (by omega) (by decide)).mono ?_
      rintro e w6 ⟨AZ, cZ, rfl, hZ, hZc, hZm, hb6⟩
      clear p1 p2 p3
      have hP6 := cells3_keep hb6 hz5 hP5
      have hbp6 := hbp5.trans (hb6.mono (by omega))
      have hz6 := Nat.lt_of_lt_of_le hz5 hb6.size
      have hX6 := hX5.below hb6
      have hY6 := hY5.below hb6
      have hZ6 := Sl.ofOwn hZ
      have s60 := hs0.below hbp6
      have s61 := hs1.below hbp6
      have s62 := hs2.below hbp6
      clear hP5 hz5 hbp5 hb6 hX5 hY5 hZ hZm hs0 hs1 hs2
      obtain ⟨p1, p2, p3⟩ := id hP6
      go_wp2_with fail
      have d0 := SlB.of s60 hc0 hm0
      have d1 := SlB.of s61 hc1 hm1
      have d2 := SlB.of s62 hc2 hm2
      obtain ⟨r0, hr0⟩ : ∃ r0, r0 = l0 ++ l2 := ⟨_, rfl⟩
      obtain ⟨r1, hr1⟩ : ∃ r1, r1 = l1 ++ l2 := ⟨_, rfl⟩
      have f0 : [l0, l2].flatten = r0 := by rw [hr0]; simp
      have f1 : [l1, l2].flatten = r1 := by rw [hr1]; simp
      have b0 : r0.length = n0 + n2 := by rw [hr0, List.length_append, L0.out, L2.out]
      have b1 : r1.length = n1 + n2 := by rw [hr1, List.length_append, L1.out, L2.out]
      have b0' : r0.length ≤ 3000000 := by omega
      have b1' : r1.length ≤ 3000000 := by omega
      rw [← hr0] at E0
      rw [← hr1] at E1
      have R0 := Lib.hid b0
      have R1 := Lib.hid b1
      clear hr0 hr1 b0 b1
      have g0 : [l0, l2].flatten.length = n0 + n2 := by rw [f0, R0.out]
      have g1 : [l1, l2].flatten.length = n1 + n2 := by rw [f1, R1.out]
      have D0 := Lib.hid d0
      have D1 := Lib.hid d1
      have D2 := Lib.hid d2
      have F0 := Lib.hid f0
      have F1 := Lib.hid f1
      have G0 := Lib.hid g0
      have G1 := Lib.hid g1
      clear d0 d1 d2 f0 f1 g0 g1 s60 s61 s62 hP6
      have hlt6 := hz6
      have J0 := join_any (some ⟨w6.heap.size, 0, none⟩) 2 2 [.slice A0 n0 c0, .slice A2 n2 c2] [l0, l2] (w6.alloc (.cells #[.slice A0 n0 c0, .slice A2 n2 c2] 22)).drew (Sl.drew (Sl.fresh' rfl rfl)) (AllB.two (D0.out.below ((Below.refl _ _).alloc (Nat.le_refl _) _).drew) (D2.out.below ((Below.refl _ _).alloc (Nat.le_refl _) _).drew)) (by omega) (by rw [G0.out]; omega)
      rw [F0.out] at J0
      have HJ0 := Lib.hid J0
      clear J0
      go_region_held3 (fun w' => w'.cell? ⟨w1.heap.size, 0, none⟩ = some (.int .i64 4) ∧ w'.cell? ⟨w1.heap.size, 1, none⟩ = some (.int .i64 64) ∧ w'.cell? ⟨w1.heap.size, 2, none⟩ = some (.int .i64 3))
        (first | go_keep | (refine cells3_keep hb8 (by have := hb7.size; simp at this; omega) ?_; refine cells3_keep hb7 (by simp; omega) ?_; go_keep) | (refine cells3_keep hb7 (by simp; omega) ?_; go_keep))
        (first
          | (go_at_call 11; refine HJ0.out.mono ?_; rintro e w7 ⟨AJ, cJ, rfl, hJ, hb7⟩)
          | (go_at_call 9; refine (cut_any AJ r0.length cJ r0 4 64 3 _ (Sl.ofOwn hJ) (own_cap hJ).1 (by omega) (by decide)).mono ?_; rintro e w8 ⟨AV, cV, rfl, hV, hVc, hVm, hb8⟩))
      have q7 : Below w6.heap.size w6 w7 := ((Below.refl _ _).alloc (Nat.le_refl _) _).drew.trans (hb7.mono (by simp))
      have q8 : Below w6.heap.size w6 w8 := q7.trans (hb8.mono q7.size)
      have hP8 := cells3_keep q8 hlt6 ⟨p1, p2, p3⟩
      have hbp8 := hbp6.trans (q8.mono (by omega))
      have hz8 := Nat.lt_of_lt_of_le hz6 q8.size
      have hX8 := hX6.below q8
      have hY8 := hY6.below q8
      have hZ8 := hZ6.below q8
      have hV8 := Sl.ofOwn hV
      have D1' := Lib.hid (D1.out.below q8)
      have D2' := Lib.hid (D2.out.below q8)
      clear q7 q8 hX6 hY6 hZ6 hV hb7 hb8 hJ D0 D1 D2 HJ0 p1 p2 p3 hz6 hlt6 hbp6 hVm
      obtain ⟨p1, p2, p3⟩ := id hP8
      clear hP8
      have J1 := join_any (some ⟨w8.heap.size, 0, none⟩) 2 2 [.slice A1 n1 c1, .slice A2 n2 c2] [l1, l2] (w8.alloc (.cells #[.slice A1 n1 c1, .slice A2 n2 c2] 22)).drew (Sl.drew (Sl.fresh' rfl rfl)) (AllB.two (D1'.out.below ((Below.refl _ _).alloc (Nat.le_refl _) _).drew) (D2'.out.below ((Below.refl _ _).alloc (Nat.le_refl _) _).drew)) (by omega) (by rw [G1.out]; omega)
      rw [F1.out] at J1
      have HJ1 := Lib.hid J1
      clear J1
      have hlt8 := hz8
      go_wp2_with fail
      go_region_held3 (fun w' => w'.cell? ⟨w1.heap.size, 0, none⟩ = some (.int .i64 4) ∧ w'.cell? ⟨w1.heap.size, 1, none⟩ = some (.int .i64 64) ∧ w'.cell? ⟨w1.heap.size, 2, none⟩ = some (.int .i64 3))
        (first | go_keep | (refine cells3_keep hb10 (by have := hb9.size; simp at this; omega) ?_; refine cells3_keep hb9 (by simp; omega) ?_; go_keep) | (refine cells3_keep hb9 (by simp; omega) ?_; go_keep))
        (first
          | (go_at_call 11; refine HJ1.out.mono ?_; rintro e w9 ⟨AK, cK, rfl, hJ, hb9⟩)
          | (go_at_call 9; refine (cut_any AK r1.length cK r1 4 64 3 _ (Sl.ofOwn hJ) (own_cap hJ).1 (by omega) (by decide)).mono ?_; rintro e w10 ⟨AU, cU, rfl, hU, hUc, hUm, hb10⟩))
      have q9 : Below w8.heap.size w8 w9 := ((Below.refl _ _).alloc (Nat.le_refl _) _).drew.trans (hb9.mono (by simp))
      have q10 : Below w8.heap.size w8 w10 := q9.trans (hb10.mono q9.size)
      have hbp10 := hbp8.trans (q10.mono (by omega))
      have hX10 := hX8.below q10
      have hY10 := hY8.below q10
      have hZ10 := hZ8.below q10
      have hV10 := hV8.below q10
      have hU10 := Sl.ofOwn hU
      have v0 := cutL_length 4 64 3 r0.length r0 (Nat.le_refl _)
      have v1 := cutL_length 4 64 3 r1.length r1 (Nat.le_refl _)
      clear q9 q10 hX8 hY8 hZ8 hV8 hU hb9 hb10 hJ D1' D2' HJ1 p1 p2 p3 hz8 hlt8 hbp8 hUm F0 F1 G0 G1 R0 R1
      generalize cutL 4 64 3 l0 = X at *
      generalize cutL 4 64 3 l1 = Y at *
      generalize cutL 4 64 3 l2 = Z at *
      generalize cutL 4 64 3 r0 = V at *
      generalize cutL 4 64 3 r1 = U at *
      have S0 : Hid (sameB V (X ++ Z) = true) := Lib.hid (by rw [E0.out]; simp [sameB])
      have S1 : Hid (sameB U (Y ++ Z) = true) := Lib.hid (by rw [E1.out]; simp [sameB])
      -- the first sum
      have hz10 : w.heap.size ≤ w10.heap.size := hbp10.size
      have m0 := own_made (base := w10.heap.size) w10 3 1 (Nat.le_refl _)
      obtain ⟨B1, e1, w11, run1, ap1, _, _⟩ := append_sl elemInt m0 (hX10.alloc _) (natsV_one X) (by omega) (by simp only [maxLen]; omega) (by simp) 26 cX
      have z1 : Below w10.heap.size w10 w11 := ((Below.refl _ _).alloc (Nat.le_refl _) _).trans ap1.below
      obtain ⟨B2, e2, w12, run2, ap2, _, _⟩ := append_sl elemInt ap1.own (hZ10.below z1) (natsV_one Z) (by omega) (by simp only [maxLen]; omega) z1.size 26 cZ
      have z2 := z1.trans ap2.below
      have o2 := ap2.own
      have sl2 := Sl.ofOwn o2
      simp only [Nat.zero_add, List.nil_append] at run1 run2 sl2
      have sl2' : Sl w12 1 B2 (X.length + Z.length) (natsV (X ++ Z)) := by simpa [natsV] using sl2
      go_wp2_with (first | (at_builtin; refine wpList_run_append run1 ?_ ?_ ?_; exact rfl; exact rfl) | (at_builtin; refine wpList_run_append run2 ?_ ?_ ?_; exact rfl; exact rfl))
      refine (same_any AV B2 V.length cV (X.length + Z.length) e2 V (X ++ Z) _ (hV10.below z2) sl2' (by omega) (by omega)).mono ?_
      rw [S0.out]
      rintro e w13 ⟨rfl, q, rfl⟩
      have hb13 : Below w10.heap.size w10 (w12.drewN q) := below_drewN z2 q
      have hY13 := hY10.below hb13
      have hZ13 := hZ10.below hb13
      have hU13 := hU10.below hb13
      have hbp13 := hbp10.trans (hb13.mono hz10)
      clear run1 run2 ap1 ap2 z1 z2 o2 sl2 sl2' m0 hX10 hY10 hZ10 hV10 hU10 hb13 S0
      generalize w12.drewN q = w14 at *
      have m3 := own_made (base := w14.heap.size) w14 3 1 (Nat.le_refl _)
      obtain ⟨B3, e3, w15, run3, ap3, _, _⟩ := append_sl elemInt m3 (hY13.alloc _) (natsV_one Y) (by omega) (by simp only [maxLen]; omega) (by simp) 26 cY
      have z3 : Below w14.heap.size w14 w15 := ((Below.refl _ _).alloc (Nat.le_refl _) _).trans ap3.below
      obtain ⟨B4, e4, w16, run4, ap4, _, _⟩ := append_sl elemInt ap3.own (hZ13.below z3) (natsV_one Z) (by omega) (by simp only [maxLen]; omega) z3.size 26 cZ
      have z4 := z3.trans ap4.below
      have o4 := ap4.own
      have sl4 := Sl.ofOwn o4
      simp only [Nat.zero_add, List.nil_append] at run3 run4 sl4
      have sl4' : Sl w16 1 B4 (Y.length + Z.length) (natsV (Y ++ Z)) := by simpa [natsV] using sl4
      have hz14 := hbp13.size
      go_wp2_with (first | (at_builtin; refine wpList_run_append_g run3 ?_ ?_ ?_ ?_; exact rfl; exact rfl; exact rfl) | (at_builtin; refine wpList_run_append_g run4 ?_ ?_ ?_ ?_; exact rfl; exact rfl; exact rfl))
      refine (same_any AU B4 U.length cU (Y.length + Z.length) e4 U (Y ++ Z) _ (hU13.below z4) sl4' (by omega) (by omega)).mono ?_
      rw [S1.out]
      rintro e w17 ⟨rfl, q', rfl⟩
      go_wp2_with fail
      go_ret
      exact ⟨rfl, below_drewN (hbp13.trans (z4.mono hz14)) q'⟩
    · have hw1' : wholeB l1 (cutL 4 64 3 l1) 4 64 3 = false := by simpa using hw1
      rw [hw1'] at W1
      have HW1 := Lib.hid W1
      clear hw1 hw1' W1
      go_wp2_with fail
      refine HW1.out.mono ?_
      rintro e w5 ⟨rfl, hb5⟩
      go_wp2_with fail
      go_ret
      exact ⟨rfl, hbp4.trans (hb5.mono (by omega))⟩
  · have hw0' : wholeB l0 (cutL 4 64 3 l0) 4 64 3 = false := by simpa using hw0
    rw [hw0'] at W0
    have HW0 := Lib.hid W0
    clear hw0 hw0' W0
    go_wp2_with fail
    refine HW0.out.mono ?_
    rintro e w4 ⟨rfl, hb4⟩
    go_wp2_with fail
    go_ret
    exact ⟨rfl, hbp3.trans (hb4.mono (by omega))⟩
end Go.Proofs.Ytdleobdbicdmoaa
