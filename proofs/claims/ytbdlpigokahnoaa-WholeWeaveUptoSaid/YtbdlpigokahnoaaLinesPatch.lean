/- lines.Patch. -/
import Derived.Test.YtbdlpigokahnoaaHunks
import Derived.Test.YtbdlpigokahnoaaLinesStr
import Derived.OpenShut
set_option linter.unusedVariables false
namespace Go.Proofs.Ytbdlpigokahnoaa
open Go.RowKit
attribute [local go_sem ↓] cutA_eq

theorem patchG_bad {a : List ByteArray} {i : Nat} {h : Hk} {r : List Hk} (hb : h.1 < (i : Int) ∨ (a.length : Int) < h.1 ∨ (a.length : Int) - h.1 < (h.2.1.length : Int) ∨ (a.drop h.1.toNat).take h.2.1.length ≠ h.2.1) : patchG a i (h :: r) = none := by
  rw [patchG, if_pos hb]
theorem patchG_ok {a : List ByteArray} {i T : Nat} {l1 l2 : List ByteArray} {r : List Hk} (h1 : ¬ (T : Int) < (i : Int)) (h2 : ¬ (a.length : Int) < (T : Int)) (h3 : ¬ (a.length : Int) - (T : Int) < (l1.length : Int)) (h4 : (a.drop T).take l1.length = l1) :
    patchG a i (((T : Int), l1, l2) :: r) = (patchG a (T + l1.length) r).map fun t => (a.drop i).take (T - i) ++ (l2 ++ t) := by
  rw [patchG, if_neg]
  · simp only [Int.toNat_natCast]
  · simp only [Int.toNat_natCast]
    rintro (h | h | h | h)
    · exact h1 h
    · exact h2 h
    · exact h3 h
    · exact h h4

/-- What Patch leaves. -/
def PatchPost (W : World) (r : Option (List ByteArray)) (e : Ending) (w' : World) : Prop :=
  (r = none ∧ e = .returned (.tuple #[.slice none 0 0, .int .i64 4]) ∧ Below W.heap.size W w') ∨
  (∃ l A c, r = some l ∧ e = .returned (.tuple #[.slice A l.length c, .int .i64 0]) ∧ w'.ownsRow W.heap.size 9 1 (.slice A l.length c) l.length (strV l) ∧ l.length ≤ c ∧ c ≤ maxLen ∧ l.length ≤ 3000000 ∧ Below W.heap.size W w')

set_option maxHeartbeats 4000000 in
theorem patch_any (A B : Option Addr) (n ca m cb : Nat) (a : List ByteArray) (hs : List Hk) (w : World) (ha : Sl w 1 A n (strV a)) (hca : n ≤ ca) (hcm : ca ≤ maxLen) (hb : SlOf hkR w no B hs) (hl : hs.length = m) (hn : n ≤ 1048576) (hm : m ≤ 2000000) (hsum : newSum hs ≤ 1048576) :
    Calls Try.prog 17 #[.slice A n ca, .slice B m cb] w (PatchPost w (patchG a 0 hs)) := by
  have HL := Lib.hid hl
  have HA := Lib.hid ha.strLen
  clear hl
  unfold maxLen at hcm
  go_enter Try.func17, Try.ntmps17
  go_wp2_with fail
  go_loopw [6, 7, 12] (fun o i k wr => ∃ (I K : Nat) (d : List ByteArray) (Ao : Option Addr) (co : Nat), o = .slice Ao d.length co ∧ i = .int .i64 I ∧ k = .int .i64 K ∧ I ≤ n ∧ K ≤ m ∧
      wr.ownsRow w.heap.size 9 1 (.slice Ao d.length co) d.length (strV d) ∧ Below w.heap.size w wr ∧ d.length ≤ I + newSum (hs.take K) ∧
      Hid (patchG a 0 hs = (patchG a I (hs.drop K)).map (fun t => d ++ t))) (fun _ i k _ => m - (intOf k).toNat)
  case atStart => exact ⟨0, 0, [], none, 0, rfl, rfl, rfl, by omega, by omega, World.ownsRow_nil _ _ _ _, Below.refl _ _, by simp, Lib.hid (by simp)⟩
  case round =>
    obtain ⟨I, K, d, Ao, co, rfl, rfl, rfl, hI, hK, hown, hbr, hd, H⟩ := hrel
    have hnt := newSum_take_le hs K
    by_cases hKm : K < m
    · obtain ⟨b1, o1, z, l1, l2, A1, A2, c1, c2, rfl, hb1, hx, hwf, k0, k1, k2, hc1, hm1, hs1, hc2, hm2, hs2⟩ := hk_look hb HL.out hKm
      have k0 := (hbr.cell hb1).trans k0
      have k1 := (hbr.cell hb1).trans k1
      have k2 := (hbr.cell hb1).trans k2
      have HX := Lib.hid hx
      have HS1 := Lib.hid (hs1.below hbr)
      have HS2 := Lib.hid (hs2.below hbr)
      have HS2W := Lib.hid hs2
      have HO := Lib.hid hown
      have HB := Lib.hid hbr
      have HD := Lib.hid (hdrop_cons hx)
      have HT := Lib.hid (newSum_take_succ hx)
      have hw1 : -9223372036854775808 ≤ z ∧ z ≤ 9223372036854775807 := bounds_i64 hwf
      have hlen1 : l1.length ≤ 9223372036854775807 := by unfold maxLen at hm1; omega
      clear hx hwf hs1 hs2 hown hbr hb
      have hbx : Below w.heap.size w (wr.alloc (.cells #[.int .i64 z, .slice A1 l1.length c1, .slice A2 l2.length c2] 69)) := HB.out.alloc HB.out.size _
      have HBX := Lib.hid hbx
      clear hbx
      by_cases g1 : z < (I : Int)
      · have HN := Lib.hid (patchG_bad (a := a) (i := I) (h := (z, l1, l2)) (r := hs.drop (K + 1)) (.inl g1))
        have d1 : decide (z < (I : Int)) = true := by simpa using g1
        have hlt' : (K : Int) < (m : Int) := by omega
        clear g1
        go_wp2_with fail
        go_quiet (fail)
        go_wp2_with fail
        go_ret2
        exact .inl ⟨by rw [H.out, HD.out, HN.out]; rfl, rfl, below_drewN HBX.out _⟩
      · obtain ⟨T, rfl⟩ : ∃ T : Nat, z = (T : Int) := ⟨z.toNat, by omega⟩
        have d1 : decide (T < I) = false := by rw [decide_eq_false_iff_not]; omega
        have d1' : decide ((T : Int) < (I : Int)) = false := by rw [decide_eq_false_iff_not]; omega
        by_cases g2 : (n : Int) < (T : Int)
        · have HN := Lib.hid (patchG_bad (a := a) (i := I) (h := ((T : Int), l1, l2)) (r := hs.drop (K + 1)) (.inr (.inl (by rw [HA.out]; exact g2))))
          have d2 : decide (n < T) = true := by rw [decide_eq_true_iff]; omega
          have hlt' : (K : Int) < (m : Int) := by omega
          clear g1 g2
          go_wp2_with fail
          go_quiet (fail)
          go_wp2_with fail
          go_ret2
          exact .inl ⟨by rw [H.out, HD.out, HN.out]; rfl, rfl, below_drewN HBX.out _⟩
        · have d2 : decide (n < T) = false := by rw [decide_eq_false_iff_not]; omega
          have hTn : T ≤ n := by omega
          by_cases g3 : (n : Int) - (T : Int) < (l1.length : Int)
          · have HN := Lib.hid (patchG_bad (a := a) (i := I) (h := ((T : Int), l1, l2)) (r := hs.drop (K + 1)) (.inr (.inr (.inl (by rw [HA.out]; exact g3)))))
            have d3 : decide ((n : Int) - (T : Int) < (l1.length : Int)) = true := by simpa using g3
            have hlt' : (K : Int) < (m : Int) := by omega
            have e1 := IntWalk.i64_in ((n : Int) - (T : Int)) (by omega)
            clear g1 g2 g3
            go_wp2_with fail
            go_quiet (fail)
            go_wp2_with fail
            go_ret2
            exact .inl ⟨by rw [H.out, HD.out, HN.out]; rfl, rfl, below_drewN HBX.out _⟩
          · have d3 : decide ((n : Int) - (T : Int) < (l1.length : Int)) = false := by rw [decide_eq_false_iff_not]; exact g3
            have hTl : T + l1.length ≤ n := by omega
            have hsa := ha.below HBX.out
            have hs1' := (HS1.out.str).alloc (.cells #[.int .i64 (T : Int), .slice A1 l1.length c1, .slice A2 l2.length c2] 69)
            have hsub := (hsa.cut hTn hca).upto (k := l1.length) (by omega)
            rw [Nat.mul_one, strV_drop, strV_take] at hsub
            have hlt' : (K : Int) < (m : Int) := by omega
            have e1 := Lib.hid (IntWalk.i64_in ((n : Int) - (T : Int)) (by omega))
            have e2 := Lib.hid (IntWalk.i64_in ((T : Int) + (l1.length : Int)) (by omega))
            have heq := fun q => equal_any _ _ l1.length (ca - T) l1.length c1 _ _ ((wr.alloc (.cells #[.int .i64 (T : Int), .slice A1 l1.length c1, .slice A2 l2.length c2] 69)).drewN q) hsub hs1' (by omega) (by omega)
            have HEQ := Lib.hid heq
            clear heq hsub hs1' hsa
            by_cases g4 : (a.drop T).take l1.length = l1
            · have HN := Lib.hid (patchG_ok (a := a) (i := I) (l2 := l2) (r := hs.drop (K + 1)) g1 (by rw [HA.out]; exact g2) (by rw [HA.out]; exact g3) g4)
              rw [g4] at HEQ
              rw [sameS_self] at HEQ
              have t1 : (T : Int) + (l1.length : Int) ≤ (ca : Int) := by omega
              have t2 : ((T : Int) + (l1.length : Int)).toNat = T + l1.length := by omega
              have e1 := e1.out
              have e2 := e2.out
              clear g4
              go_wp2_with fail
              go_quiet ((go_at_call 34; exact quiet_s (HEQ.out _)))
              go_wp2_with fail
              have HS2w := Lib.hid HS2W.out.str
              have hq : Same (wr.alloc (.cells #[.int .i64 (T : Int), .slice A1 l1.length c1, .slice A2 l2.length c2] 69)) ((wr.alloc (.cells #[.int .i64 (T : Int), .slice A1 l1.length c1, .slice A2 l2.length c2] 69)).drewN nq) := ⟨nq, rfl⟩
              have c0 : ((wr.alloc (.cells #[.int .i64 (T : Int), .slice A1 l1.length c1, .slice A2 l2.length c2] 69)).drewN nq).cell? ⟨wr.heap.size, 0, none⟩ = some (.int .i64 (T : Int)) ∧ ((wr.alloc (.cells #[.int .i64 (T : Int), .slice A1 l1.length c1, .slice A2 l2.length c2] 69)).drewN nq).cell? ⟨wr.heap.size, 1, none⟩ = some (.slice A1 l1.length c1) ∧ ((wr.alloc (.cells #[.int .i64 (T : Int), .slice A1 l1.length c1, .slice A2 l2.length c2] 69)).drewN nq).cell? ⟨wr.heap.size, 2, none⟩ = some (.slice A2 l2.length c2) := by
                refine ⟨?_, ?_, ?_⟩ <;> go_simp
              have hz : wr.heap.size < ((wr.alloc (.cells #[.int .i64 (T : Int), .slice A1 l1.length c1, .slice A2 l2.length c2] 69)).drewN nq).heap.size := by simp
              have hbx := HBX.out.trans (hq.below _)
              have hown2 := Lib.hid (hq.own (HO.out.alloc (.cells #[.int .i64 (T : Int), .slice A1 l1.length c1, .slice A2 l2.length c2] 69)))
              have hne := own_lt HO.out (Nat.le_refl wr.heap.size)
              have hsa := ((ha.below hbx).cut hI hca).upto (k := T - I) (by omega)
              rw [Nat.mul_one, strV_drop, strV_take] at hsa
              have HSA := Lib.hid hsa
              have hX : ((a.drop I).take (T - I)).length = T - I := by rw [List.length_take, List.length_drop, HA.out]; omega
              have HXL := Lib.hid hX
              have HBX2 := Lib.hid hbx
              generalize ((wr.alloc (.cells #[.int .i64 (T : Int), .slice A1 l1.length c1, .slice A2 l2.length c2] 69)).drewN nq) = w2 at *
              clear hq hbx hsa hX k0 k1 k2 hb1 HEQ HS1 HS2 HO HB HBX
              try clear e1
              try clear e2
              generalize wr.heap.size = g at *
              have hIT : (I : Int) ≤ (T : Int) := by omega
              have hTc : (T : Int) ≤ (ca : Int) := by omega
              have hb1 : d.length + (T - I) ≤ 5000000 := by omega
              have hl2 : l2.length ≤ 1048576 := by have h1 := newSum_take_le hs (K + 1); have h2 : newSum (hs.take (K + 1)) = newSum (hs.take K) + l2.length := HT.out; omega
              have HS0 := Same.drew (Same.refl w2)
              have C0 := Lib.hid c0
              clear c0
              refine wp_region_held (S := fun w' => w'.cell? ⟨g, 0, none⟩ = some (.int .i64 (T : Int)) ∧ w'.cell? ⟨g, 1, none⟩ = some (.slice A1 l1.length c1) ∧ w'.cell? ⟨g, 2, none⟩ = some (.slice A2 l2.length c2)) (by kernel_rfl) ?_
              change wpAnyH _ _ _ _ _ _ _ _ (World.drew _)
              refine held_take (i := 0) (v := ?_) (a' := ?_) rfl (by kernel_rfl) (by kernel_rfl) (by kernel_rfl) (fun _ _ _ h => h) (by rfl) C0.out ?_ ?_ ?_
              rotate_left 2
              · (intro w hS; go_simp; try with_reducible rfl)
              · (go_simp; try with_reducible rfl)
              refine held_take (i := 1) (v := ?_) (a' := ?_) rfl (by kernel_rfl) (by kernel_rfl) (by kernel_rfl) (fun _ _ _ h => h) (by rfl) C0.out ?_ ?_ ?_
              rotate_left 2
              · (intro w hS; go_simp; try with_reducible rfl)
              · (go_simp; try with_reducible rfl)
              refine held_take (i := 2) (v := ?_) (a' := ?_) rfl (by kernel_rfl) (by kernel_rfl) (by kernel_rfl) (fun _ _ _ h => h) (by rfl) C0.out ?_ ?_ ?_
              rotate_left 2
              · (intro w hS; go_simp; try with_reducible rfl)
              · (go_simp; try with_reducible rfl)
              refine held_take (i := 3) (v := ?_) (a' := ?_) rfl (by kernel_rfl) (by kernel_rfl) (by kernel_rfl) (fun _ _ _ h => h) (by rfl) C0.out ?_ ?_ ?_
              rotate_left 2
              · (intro w hS; go_simp; try with_reducible rfl)
              · (go_simp; try with_reducible rfl)
              refine held_take (i := 4) (v := ?_) (a' := ?_) rfl (by kernel_rfl) (by kernel_rfl) (by kernel_rfl) (fun _ _ _ h => h) (by rfl) C0.out ?_ ?_ ?_
              rotate_left 2
              · (intro w hS; obtain ⟨q0, q1, q2⟩ := hS; go_simp; try with_reducible rfl)
              · (go_simp; try with_reducible rfl)
              refine held_take (i := 5) (v := ?_) (a' := ?_) rfl (by kernel_rfl) (by kernel_rfl) (by kernel_rfl) (fun _ _ _ h => h) (by rfl) C0.out ?_ ?_ ?_
              rotate_left 2
              · (intro w hS; go_simp; try with_reducible rfl)
              · (go_simp; try with_reducible rfl)
              refine held_take (i := 7) (v := ?_) (a' := ?_) rfl (by kernel_rfl) (by kernel_rfl) (by kernel_rfl) (fun _ _ _ h => h) (by rfl) C0.out ?_ ?_ ?_
              rotate_left 2
              · (intro w hS; go_simp; try with_reducible rfl)
              · (go_simp; try with_reducible rfl)
              refine held_take (i := 8) (v := ?_) (a' := ?_) rfl (by kernel_rfl) (by kernel_rfl) (by kernel_rfl) (fun _ _ _ h => h) (by rfl) C0.out ?_ ?_ ?_
              rotate_left 2
              · (intro w hS; obtain ⟨q0, q1, q2⟩ := hS; go_simp; try with_reducible rfl)
              · (go_simp; try with_reducible rfl)
              refine held_ready (rs := [6]) (by kernel_rfl) (by simp) ?_
              refine AllHeld.cons rfl (fun KR hKR => ?_) ?_
              · refine step_append_sl (by rfl) (.tmp 54) (.tmp 59) (by rfl) elemStr w.heap.size d.length (strV d) (by rfl) (HS0.own hown2.out) (T - I) (strV ((a.drop I).take (T - I))) (by rfl) (HS0.sl HSA.out) (strV_one _) (d.length + (T - I)) rfl _ (strV_append _ _) (by omega) (by simp only [maxLen]; omega) HBX2.out.size (fun A5 c5 w5 hap5 hc5 hm5 => ?_)
                have C5 := Lib.hid (hap5.cells3 hz hne C0.out)
                have hz5 : g < w5.heap.size := Nat.lt_of_lt_of_le hz hap5.below.size
                have hne5 := hap5.ne hz hne
                have hb5 := Lib.hid ((HBX2.out.trans (HS0.below _)).trans hap5.below)
                refine hKR _ _ C5.out ?_
                clear hKR KR
                refine held_ready (rs := [9]) (by kernel_rfl) (by simp) ?_
                refine AllHeld.cons rfl (fun KR hKR => ?_) ?_
                · refine step_append_sl (by rfl) (.tmp 60) (.tmp 62) (by rfl) elemStr w.heap.size (d.length + (T - I)) _ (by rfl) hap5.own l2.length (strV l2) (by rfl) (HS2w.out.below hb5.out) (strV_one _) (d.length + (T - I) + l2.length) rfl _ (strV_append _ _) (by omega) (by simp only [maxLen]; omega) hb5.out.size (fun A6 c6 w6 hap6 hc6 hm6 => ?_)
                  have C6 := Lib.hid (hap6.cells3 hz5 hne5 C5.out)
                  have hb6 := Lib.hid (hb5.out.trans hap6.below)
                  have HO6 := Lib.hid hap6.own
                  refine hKR _ _ C6.out ?_
                  clear hKR KR
                  refine held_take (i := 10) (v := ?_) (a' := ?_) rfl (by kernel_rfl) (by kernel_rfl) (by kernel_rfl) (fun _ _ _ h => h) (by rfl) C6.out ?_ ?_ ?_
                  rotate_left 2
                  · (intro w hS; go_simp; try with_reducible rfl)
                  · (go_simp; try with_reducible rfl)
                  refine wpAnyH_done (by kernel_rfl) ?_ _
                  clear hap5 hap6 hne hne5
                  obtain ⟨q0, q1, q2⟩ := C6.out
                  go_wp2_with fail
                  go_roundw
                  case rel =>
                    refine ⟨T + l1.length, K + 1, (d ++ (a.drop I).take (T - I)) ++ l2, A6, c6, ?_, by go_num, by go_num, by omega, by omega, ?_, hb6.out, ?_, ?_⟩
                    · rw [List.length_append, List.length_append, HXL.out]
                    · rw [List.length_append, List.length_append, HXL.out]; exact HO6.out
                    · have h1 : newSum (hs.take (K + 1)) = newSum (hs.take K) + l2.length := HT.out
                      rw [List.length_append, List.length_append, HXL.out]; omega
                    · refine Lib.hid ?_
                      rw [H.out, HD.out, HN.out, Option.map_map]
                      congr 1
                      funext t
                      simp
                  case measure => simp [intOf]; omega
                exact AllHeld.nil
              exact AllHeld.nil
            · have HN := Lib.hid (patchG_bad (a := a) (i := I) (h := ((T : Int), l1, l2)) (r := hs.drop (K + 1)) (.inr (.inr (.inr g4))))
              have g5 : sameS ((a.drop T).take l1.length) l1 = false := by simpa [sameS] using g4
              rw [g5] at HEQ
              have t1 : (T : Int) + (l1.length : Int) ≤ (ca : Int) := by omega
              have t2 : ((T : Int) + (l1.length : Int)).toNat = T + l1.length := by omega
              have e1 := e1.out
              have e2 := e2.out
              clear g4 g5
              go_wp2_with fail
              go_quiet ((go_at_call 34; exact quiet_s (HEQ.out _)))
              go_wp2_with fail
              go_ret2
              exact .inl ⟨by rw [H.out, HD.out, HN.out]; rfl, rfl, below_drewN HBX.out _⟩
    · obtain rfl : K = m := by omega
      have hlt' : ¬ (K : Int) < (K : Int) := by omega
      have HE : Hid (hs.drop K = []) := Lib.hid (List.drop_eq_nil_of_le (by rw [HL.out]; exact Nat.le_refl _))
      have hsub := (ha.below hbr).cut hI hca
      rw [strV_drop] at hsub
      obtain ⟨A', c', w1, hrun, hap, h1, h2⟩ := append_sl (P := Try.prog) elemStr hown hsub (strV_one _) (by omega) (by simp only [maxLen]; omega) hbr.size 23 (ca - I)
      have HB := Lib.hid (hbr.trans hap.below)
      have HO := Lib.hid hap.own
      have hIc : I ≤ ca := by omega
      clear hap hsub hown hbr
      go_wp2_with (at_builtin; refine wpList_run_append hrun ?_ ?_ ?_; exact rfl; exact rfl)
      go_ret2
      refine .inr ⟨d ++ a.drop I, A', c', by rw [H.out, HE.out]; rfl, ?_, ?_, ?_, h2, by rw [List.length_append, List.length_drop, HA.out]; omega, HB.out⟩
      · rw [List.length_append, List.length_drop, HA.out]; rfl
      · rw [List.length_append, List.length_drop, HA.out, ← strV_append]; exact HO.out
      · rw [List.length_append, List.length_drop, HA.out]; exact h1
end Go.Proofs.Ytbdlpigokahnoaa
