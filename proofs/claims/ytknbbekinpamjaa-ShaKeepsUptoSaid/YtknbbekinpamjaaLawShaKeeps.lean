/- The walk of the law ShaKeeps: what is handed in is left as it was, its spare room too. -/
import Derived.Test.YtknbbekinpamjaaShaShort
set_option linter.unusedVariables false
namespace Go.Proofs.Ytknbbekinpamjaa
open Go.RowKit
attribute [local go_sem ↓] eqlId_eq cvt_eq

set_option maxRecDepth 100000 in
set_option maxHeartbeats 4000000 in
theorem shaKeeps_any (A : Option Addr) (n c : Nat) (l : List UInt8) (W0 : World) (hs : Sl W0 1 A n (bytesV l)) (hnc : n ≤ c) (hcm : c ≤ maxLen) (hn : n ≤ 1048576) :
    Calls Try.prog 8 #[.slice A n c] W0 fun e w' => e = .returned (.bool true) ∧ Below W0.heap.size W0 w' := by
  have HC0 := Lib.hid hcm
  have hl : l.length = n := by have := hs.1; simpa [bytesV] using this
  go_enter Try.func8, Try.ntmps8
  go_wp2_with fail
  refine (awake_sha _).mono ?_
  rintro e w1 ⟨rfl, hb1⟩
  have hs1 := hs.below hb1
  have m0 := own_made (base := w1.heap.size) w1 5 1 (Nat.le_refl _)
  obtain ⟨A1, c1, w2, run1, ap1, hc1, hm1⟩ := append_sl elemU8 m0 (hs1.alloc _) (bytesV_one l) (by omega) (by simp only [maxLen]; omega) (by simp) 22 c
  simp only [Nat.zero_add, List.nil_append] at run1 ap1 hc1
  have z1 : Below w1.heap.size w1 w2 := ((Below.refl _ _).alloc (Nat.le_refl _) _).trans ap1.below
  obtain ⟨A2, c2, w3, run2, ap2, hc2, hm2⟩ := append_sl elemU8 (ap1.own.alloc (.cells #[.int .u8 77] 5)) (Sl.one w2 (.int .u8 77) 5) (by simp; rfl) (by omega) (by simp only [maxLen]; omega) (by have := z1.size; simp; omega) 22 1
  have z2 : Below w1.heap.size w1 w3 := (z1.alloc z1.size _).trans ap2.below
  have HS3 := Lib.hid (hs1.below z2)
  have HB3 := Lib.hid (hb1.trans (z2.mono hb1.size))
  have HM3 := Lib.hid (show Sl w3 1 A2 (n + 1) (bytesV (l ++ [77])) by have := Sl.ofOwn ap2.own; rw [show bytesV (l ++ [77]) = bytesV l ++ [.int .u8 77] by simp [bytesV]]; exact this)
  have HT3 := Lib.hid (show Sl w3 1 A2 n (bytesV l) by
    have := HM3.out.upto (k := n) (by omega)
    rw [Nat.mul_one, bytesV_take] at this
    rwa [List.take_left' hl] at this)
  obtain ⟨g, hg⟩ := own_at ap2.own (by omega)
  obtain ⟨rfl, hg1, hg2⟩ := hg
  have hnc2 : (n : Int) ≤ (c2 : Int) := by omega
  have hnc3 : (n : Int) + 1 ≤ (c2 : Int) := by omega
  have hwn : IntKind.i64.wrap ((n : Int) + 1) = (n : Int) + 1 := IntWalk.i64_in _ (by omega)
  have h0n : (0 : Int) ≤ (n : Int) + 1 := by omega
  have hnn : (n : Int) < (n : Int) + 1 := by omega
  have HL := Lib.hid hl
  have HM2 := Lib.hid hm2
  clear ap1 ap2 m0 z1 z2 hs1 hs hb1 hm1 hm2 hl
  go_wp2_with (first | (at_builtin; refine wpList_run_append run1 ?_ ?_ ?_; exact rfl; exact rfl) | (at_builtin; refine wpList_run_append run2 ?_ ?_ ?_; exact rfl; exact rfl))
  clear run1 run2
  have ht : Sl (w3.alloc (.cells #[.slice (some ⟨g, 0, none⟩) n c2, .slice (some ⟨g, 0, none⟩) n c2] 22)) 1 (some ⟨w3.heap.size, 0, none⟩) 2 [.slice (some ⟨g, 0, none⟩) n c2, .slice (some ⟨g, 0, none⟩) n c2] := Sl.fresh w3 #[.slice (some ⟨g, 0, none⟩) n c2, .slice (some ⟨g, 0, none⟩) n c2] 22 (0, 0) 2 1 rfl
  have hsb := SlB.of (HT3.out.alloc (.cells #[.slice (some ⟨g, 0, none⟩) n c2, .slice (some ⟨g, 0, none⟩) n c2] 22)) (by omega) HM2.out
  refine (sum_any _ 2 2 _ [l, l] _ ht (AllB.two hsb hsb) (by omega) (by have := HL.out; simp; omega)).mono ?_
  rintro e w4 ⟨rfl, hb4⟩
  have HB4 := Lib.hid ((HB3.out.alloc HB3.out.size (.cells #[.slice (some ⟨g, 0, none⟩) n c2, .slice (some ⟨g, 0, none⟩) n c2] 22)).trans (hb4.mono (by have := HB3.out.size; simp; omega)))
  have z4 : Below w3.heap.size w3 w4 := ((Below.refl _ _).alloc (Nat.le_refl _) _).trans (hb4.mono (by simp))
  have HS4 := Lib.hid (HS3.out.below z4)
  have HM4 := Lib.hid (HM3.out.below z4)
  have HT4 := Lib.hid (HT3.out.below z4)
  have hg4 : g < w4.heap.size := by have := z4.size; omega
  clear ht hsb hb4 z4 HS3 HM3 HT3 HB3
  have hid32 : (shaG [l, l].flatten).length = 32 := shaG_length _
  rw [show [l, l].flatten = l ++ l by simp] at hid32 ⊢
  obtain ⟨SL, hSL⟩ : ∃ SL, SL = shaG (l ++ l) := ⟨_, rfl⟩
  rw [← hSL] at hid32 ⊢
  have HSL := Lib.hid hSL
  clear hSL
  obtain ⟨KV, hKV⟩ : ∃ KV, KV = (bytesV SL).toArray := ⟨_, rfl⟩
  rw [← hKV]
  have HKV := Lib.hid hKV
  have HKI := Lib.hid (show (Try.prog.info? 25).map (·.size) = some KV.size by rw [hKV]; exact id_size hid32)
  have HKO := Lib.hid (show KV.all (·.oneCell') = true by rw [hKV]; exact id_one _)
  have HKS := Lib.hid (show KV.size = 32 by rw [hKV]; simp [bytesV, hid32])
  have heq : ∀ w : World, eqlId w KV KV = .ok (.bool true) w := fun w => by
    have h := eqlId_of (x := SL) (y := SL) hid32 hid32 w
    rw [beq_self_eq_true] at h
    rw [hKV]; exact h
  clear hKV hid32
  go_upto_region 5 with (refine wpList_store_row rfl _ _ _ rfl w4.heap.size KV rfl rfl 25 _ (heap_alloc_new w4 _) HKI.out (by rw [HKS.out]; rfl) HKO.out ?_)
  rw [World.setRow_alloc_new]
  have HK5 := Lib.hid (Blk.new w4 25 KV)
  have HB5 := Lib.hid (HB4.out.alloc HB4.out.size (.cells KV 25))
  have HS5 := Lib.hid (HS4.out.alloc (.cells KV 25))
  have HM5 := Lib.hid (HM4.out.alloc (.cells KV 25))
  have HT5 := Lib.hid (HT4.out.alloc (.cells KV 25))
  have hg5 : g < (w4.alloc (.cells KV 25)).heap.size := by simp; omega
  have hg6 : w4.heap.size < (w4.alloc (.cells KV 25)).heap.size := by simp
  clear HS4 HM4 HT4 HB4
  change Code.wp _ _ _ _ (w4.alloc (.cells KV 25))
  generalize w4.alloc (.cells KV 25) = w5 at *
  generalize w4.heap.size = G4 at *
  have z5 : Below w5.heap.size w5 (w5.drew.alloc (.cells #[] 5)) := ((Below.refl _ w5).drew.alloc (by simp) _)
  obtain ⟨A3, c3, w6, run3, ap3, hc3, hm3⟩ := append_sl elemU8 (own_made (base := w5.heap.size) w5.drew 5 1 (Nat.le_refl _)) (HS5.out.below z5) (bytesV_one l) (by omega) (by simp only [maxLen]; omega) (by simp) 22 c
  simp only [Nat.zero_add, List.nil_append] at run3 ap3 hc3
  have z6 : Below w5.heap.size w5 w6 := z5.trans ap3.below
  obtain ⟨A4, c4, w7, run4, ap4, hc4, hm4⟩ := append_sl elemU8 ap3.own (HS5.out.below z6) (bytesV_one l) (by omega) (by simp only [maxLen]; omega) z6.size 22 c
  have z7 := Lib.hid (z6.trans ap4.below)
  have HO7 := Lib.hid (show SlB (w7.alloc (.cells #[.slice A4 (n + n) c4] 22)) (.slice A4 (n + n) c4) (l ++ l) from SlB.of (by rw [show bytesV (l ++ l) = bytesV l ++ bytesV l by simp [bytesV]]; exact (Sl.ofOwn ap4.own).alloc _) hc4 hm4)
  have hsu : ∀ gg, w7.heap.size = gg → Calls Try.prog 11 #[.slice (some ⟨gg, 0, none⟩) 1 1] (w7.alloc (.cells #[.slice A4 (n + n) c4] 22)) fun e w' => e = .returned (.agg KV) ∧ Below w5.heap.size w5 w' := by
    rintro gg rfl
    have ht : Sl (w7.alloc (.cells #[.slice A4 (n + n) c4] 22)) 1 (some ⟨w7.heap.size, 0, none⟩) 1 [.slice A4 (n + n) c4] := Sl.fresh w7 #[.slice A4 (n + n) c4] 22 (0, 0) 1 1 rfl
    refine (sum_any _ 1 1 _ [l ++ l] _ ht ((AllB.nil _).snoc HO7.out) (by omega) (by have := HL.out; simp; omega)).mono ?_
    rintro e w' ⟨rfl, hb⟩
    rw [show [l ++ l].flatten = l ++ l by simp, ← HSL.out, ← HKV.out]
    exact ⟨rfl, (z7.out.alloc z7.out.size _).trans (hb.mono (by have := z7.out.size; simp; omega))⟩
  have HSU := Lib.hid hsu
  have HL77 := Lib.hid (show (bytesV (l ++ [77]))[n]? = some (.int .u8 77) by rw [show bytesV (l ++ [77]) = bytesV l ++ [.int .u8 77] by simp [bytesV], List.getElem?_append_right (by rw [bytesV_length, HL.out]; omega), bytesV_length, HL.out, Nat.sub_self]; rfl)
  have z6' := z6
  clear hsu ap3 ap4 z5 z6 hm3 hm4 HO7
  refine wp_region_held (S := fun w => Below w5.heap.size w5 w) (by kernel_rfl) ?_
  change wpAnyH _ _ _ _ _ _ _ _ (World.drew _)
  refine held_take (i := 0) (v := ?_) (a' := ?_) rfl (by kernel_rfl) (by kernel_rfl) (by kernel_rfl) (fun _ _ _ h => h) (by rfl) (Same.below ⟨1, rfl⟩ _) ?_ ?_ ?_
  rotate_left 2
  · (intro w hS; go_simp; try with_reducible rfl)
  · (go_simp; try with_reducible rfl)
  refine held_take (i := 1) (v := ?_) (a' := ?_) rfl (by kernel_rfl) (by kernel_rfl) (by kernel_rfl) (fun _ _ _ h => h) (by rfl) (Same.below ⟨1, rfl⟩ _) ?_ ?_ ?_
  rotate_left 2
  · (intro w hS; have hcv := cvt_of (HT5.out.below hS) c2; go_simp; try with_reducible rfl)
  · (go_simp; try with_reducible rfl)
  refine held_take (i := 2) (v := ?_) (a' := ?_) rfl (by kernel_rfl) (by kernel_rfl) (by kernel_rfl) (fun _ _ _ h => h) (by rfl) (Same.below ⟨1, rfl⟩ _) ?_ ?_ ?_
  rotate_left 2
  · (intro w hS; go_simp; try with_reducible rfl)
  · (go_simp; try with_reducible rfl)
  refine held_take (i := 3) (v := ?_) (a' := ?_) rfl (by kernel_rfl) (by kernel_rfl) (by kernel_rfl) (fun _ _ _ h => h) (by rfl) (Same.below ⟨1, rfl⟩ _) ?_ ?_ ?_
  rotate_left 2
  · (intro w hS; have hcv := cvt_of (HS5.out.below hS) c; go_simp; try with_reducible rfl)
  · (go_simp; try with_reducible rfl)
  refine held_take (i := 4) (v := ?_) (a' := ?_) rfl (by kernel_rfl) (by kernel_rfl) (by kernel_rfl) (fun _ _ _ h => h) (by rfl) (Same.below ⟨1, rfl⟩ _) ?_ ?_ ?_
  rotate_left 2
  · (intro w hS; go_simp; try with_reducible rfl)
  · (go_simp; try with_reducible rfl)
  refine held_take (i := 5) (v := ?_) (a' := ?_) rfl (by kernel_rfl) (by kernel_rfl) (by kernel_rfl) (fun _ _ _ h => h) (by rfl) (Same.below ⟨1, rfl⟩ _) ?_ ?_ ?_
  rotate_left 2
  · (intro w hS; go_simp; try with_reducible rfl)
  · (go_simp; try with_reducible rfl)
  refine held_take (i := 6) (v := ?_) (a' := ?_) rfl (by kernel_rfl) (by kernel_rfl) (by kernel_rfl) (fun _ _ _ h => h) (by rfl) (Same.below ⟨1, rfl⟩ _) ?_ ?_ ?_
  rotate_left 2
  · (intro w hS; go_simp; try with_reducible rfl)
  · (go_simp; try with_reducible rfl)
  refine held_take (i := 7) (v := ?_) (a' := ?_) rfl (by kernel_rfl) (by kernel_rfl) (by kernel_rfl) (fun _ _ _ h => h) (by rfl) (Same.below ⟨1, rfl⟩ _) ?_ ?_ ?_
  rotate_left 2
  · (intro w hS; go_simp; try with_reducible rfl)
  · (go_simp; try with_reducible rfl)
  refine held_take (i := 8) (v := ?_) (a' := ?_) rfl (by kernel_rfl) (by kernel_rfl) (by kernel_rfl) (fun _ _ _ h => h) (by rfl) (Same.below ⟨1, rfl⟩ _) ?_ ?_ ?_
  rotate_left 2
  · (intro w hS; go_simp; try with_reducible rfl)
  · (go_simp; try with_reducible rfl)
  refine held_take (i := 9) (v := ?_) (a' := ?_) rfl (by kernel_rfl) (by kernel_rfl) (by kernel_rfl) (fun _ _ _ h => h) (by rfl) (Same.below ⟨1, rfl⟩ _) ?_ ?_ ?_
  rotate_left 2
  · (intro w hS; go_simp; try with_reducible rfl)
  · (go_simp; try with_reducible rfl)
  refine held_take (i := 10) (v := ?_) (a' := ?_) rfl (by kernel_rfl) (by kernel_rfl) (by kernel_rfl) (fun _ _ _ h => h) (by rfl) (Same.below ⟨1, rfl⟩ _) ?_ ?_ ?_
  rotate_left 2
  · (intro w hS; go_simp; try with_reducible rfl)
  · (go_simp; try with_reducible rfl)
  refine held_take (i := 11) (v := ?_) (a' := ?_) rfl (by kernel_rfl) (by kernel_rfl) (by kernel_rfl) (fun _ _ _ h => h) (by rfl) (Same.below ⟨1, rfl⟩ _) ?_ ?_ ?_
  rotate_left 2
  · (intro w hS; go_simp; try with_reducible rfl)
  · (go_simp; try with_reducible rfl)
  refine held_take (i := 12) (v := ?_) (a' := ?_) rfl (by kernel_rfl) (by kernel_rfl) (by kernel_rfl) (fun _ _ _ h => h) (by rfl) (Same.below ⟨1, rfl⟩ _) ?_ ?_ ?_
  rotate_left 2
  · (intro w hS; go_simp; try with_reducible rfl)
  · (go_simp; try with_reducible rfl)
  refine held_take (i := 13) (v := ?_) (a' := ?_) rfl (by kernel_rfl) (by kernel_rfl) (by kernel_rfl) (fun _ _ _ h => h) (by rfl) (Same.below ⟨1, rfl⟩ _) ?_ ?_ ?_
  rotate_left 2
  · (intro w hS; go_simp; try with_reducible rfl)
  · (go_simp; try with_reducible rfl)
  refine held_take (i := 14) (v := ?_) (a' := ?_) rfl (by kernel_rfl) (by kernel_rfl) (by kernel_rfl) (fun _ _ _ h => h) (by rfl) (Same.below ⟨1, rfl⟩ _) ?_ ?_ ?_
  rotate_left 2
  · (intro w hS; obtain ⟨b7, o7, e7, _, h7⟩ := (HM5.out.below hS).2 (by omega); injection e7 with e7; injection e7 with e7 e8; subst e7 e8; have h77 := h7 n _ HL77.out; rw [Nat.zero_add] at h77; go_simp; try with_reducible rfl)
  · (go_simp; try with_reducible rfl)
  refine held_take (i := 15) (v := ?_) (a' := ?_) rfl (by kernel_rfl) (by kernel_rfl) (by kernel_rfl) (fun _ _ _ h => h) (by rfl) (Same.below ⟨1, rfl⟩ _) ?_ ?_ ?_
  rotate_left 2
  · (intro w hS; go_simp; try with_reducible rfl)
  · (go_simp; try with_reducible rfl)
  refine held_take (i := 16) (v := ?_) (a' := ?_) rfl (by kernel_rfl) (by kernel_rfl) (by kernel_rfl) (fun _ _ _ h => h) (by rfl) (Same.below ⟨1, rfl⟩ _) ?_ ?_ ?_
  rotate_left 2
  · (intro w hS; go_simp; try with_reducible rfl)
  · (go_simp; try with_reducible rfl)
  refine held_take (i := 17) (v := ?_) (a' := ?_) rfl (by kernel_rfl) (by kernel_rfl) (by kernel_rfl) (fun _ _ _ h => h) (by rfl) (Same.below ⟨1, rfl⟩ _) ?_ ?_ ?_
  rotate_left 2
  · (intro w hS; go_simp; try with_reducible rfl)
  · (go_simp; try with_reducible rfl)
  refine held_take (i := 18) (v := ?_) (a' := ?_) rfl (by kernel_rfl) (by kernel_rfl) (by kernel_rfl) (fun _ _ _ h => h) (by rfl) (Same.below ⟨1, rfl⟩ _) ?_ ?_ ?_
  rotate_left 2
  · (intro w hS; refine exec_load_at 25 (.tmp 4) ?_ G4 0 ?_ KV _ ((At.of_row HK5.out).below hS hg6) Try.underlying25 rfl HKI.out; exact rfl; exact rfl)
  · (go_simp; try with_reducible rfl)
  refine held_take (i := 20) (v := ?_) (a' := ?_) rfl (by kernel_rfl) (by kernel_rfl) (by kernel_rfl) (fun _ _ _ h => h) (by rfl) (Same.below ⟨1, rfl⟩ _) ?_ ?_ ?_
  rotate_left 2
  · (intro w hS; go_simp; try with_reducible rfl)
  · (go_simp; try with_reducible rfl)
  refine held_take (i := 22) (v := ?_) (a' := ?_) rfl (by kernel_rfl) (by kernel_rfl) (by kernel_rfl) (fun _ _ _ h => h) (by rfl) (Same.below ⟨1, rfl⟩ _) ?_ ?_ ?_
  rotate_left 2
  · (intro w hS; go_simp; try with_reducible rfl)
  · (go_simp; try with_reducible rfl)
  refine held_ready (rs := [19]) (by kernel_rfl) (by simp) ?_
  refine AllHeld.cons rfl (fun KR hKR => ?_) ?_
  · go_simp
    skip
    refine hKR _ _ ((Below.refl _ w5).drew.alloc (by simp) _) ?_
    clear hKR KR
    refine held_ready (rs := [21]) (by kernel_rfl) (by simp) ?_
    refine AllHeld.cons rfl (fun KR hKR => ?_) ?_
    · refine step_run_append_g (gd := (17, true)) (by rfl) (by rfl) (.tmp 38) (.tmp 39) (by rfl) (by rfl) (by rfl) run3 ?_
      refine hKR _ _ z6' ?_
      clear hKR KR
      refine held_ready (rs := [23]) (by kernel_rfl) (by simp) ?_
      refine AllHeld.cons rfl (fun KR hKR => ?_) ?_
      · refine step_run_append_g (gd := (17, true)) (by rfl) (by rfl) (.tmp 40) (.tmp 41) (by rfl) (by rfl) (by rfl) run4 ?_
        refine hKR _ _ z7.out ?_
        clear hKR KR
        refine held_ready (rs := [24]) (by kernel_rfl) (by simp) ?_
        refine AllHeld.cons rfl (fun KR hKR => ?_) ?_
        · go_simp
          skip
          refine hKR _ _ (z7.out.alloc z7.out.size _) ?_
          clear hKR KR
          refine held_ready (rs := [25]) (by kernel_rfl) (by simp) ?_
          refine AllHeld.cons rfl (fun KR hKR => ?_) ?_
          · go_simp
            refine (HSU.out _ rfl).mono ?_
            rintro e w8 ⟨rfl, hb8⟩
            refine hKR _ _ hb8 ?_
            clear hKR KR
            refine held_take (i := 26) (v := ?_) (a' := ?_) rfl (by kernel_rfl) (by kernel_rfl) (by kernel_rfl) (fun _ _ _ h => h) (by rfl) hb8 ?_ ?_ ?_
            rotate_left 2
            · (intro w hS; go_simp; try with_reducible rfl)
            · (go_simp; try with_reducible rfl)
            refine held_take (i := 27) (v := ?_) (a' := ?_) rfl (by kernel_rfl) (by kernel_rfl) (by kernel_rfl) (fun _ _ _ h => h) (by rfl) hb8 ?_ ?_ ?_
            rotate_left 2
            · (intro w hS; go_simp; try with_reducible rfl)
            · (go_simp; try with_reducible rfl)
            refine held_take (i := 28) (v := ?_) (a' := ?_) rfl (by kernel_rfl) (by kernel_rfl) (by kernel_rfl) (fun _ _ _ h => h) (by rfl) hb8 ?_ ?_ ?_
            rotate_left 2
            · (intro w hS; go_simp; try with_reducible rfl)
            · (go_simp; try with_reducible rfl)
            refine wpAnyH_done (by kernel_rfl) ?_ _
            go_wp2_with fail
            go_ret
            exact ⟨rfl, HB5.out.trans (hb8.mono HB5.out.size)⟩
          exact AllHeld.nil
        exact AllHeld.nil
      exact AllHeld.nil
    exact AllHeld.nil
  exact AllHeld.nil
end Go.Proofs.Ytknbbekinpamjaa
