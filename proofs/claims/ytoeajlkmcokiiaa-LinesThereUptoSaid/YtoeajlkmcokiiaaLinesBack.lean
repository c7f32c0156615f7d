/- lines.Back: the hunks that undo others. -/
import Derived.Test.YtoeajlkmcokiiaaLinesLaws
import Derived.Test.YtoeajlkmcokiiaaLinesPlainFn
set_option linter.unusedVariables false
namespace Go.Proofs.Ytoeajlkmcokiiaa
open Go.RowKit
attribute [local go_sem ↓] cutA_eq

theorem oldSum_take_le (hs : List Hk) (k : Nat) : oldSum (hs.take k) ≤ oldSum hs := by
  have h := congrArg oldSum (List.take_append_drop k hs)
  simp only [oldSum, List.map_append, List.sum_append] at h
  simp only [oldSum]; omega
theorem oldSum_take_succ {hs : List Hk} {k : Nat} {h : Hk} (hx : hs[k]? = some h) : oldSum (hs.take (k + 1)) = oldSum (hs.take k) + h.2.1.length := by
  rw [List.take_add_one, hx]
  simp [oldSum]
theorem wf_i64 {z : Int} (h1 : -1000000000 ≤ z) (h2 : z ≤ 1000000000) : (Lit.int .i64 z).wf = true := by
  simp only [Lit.wf, IntKind.min, IntKind.max, IntKind.signed, IntKind.bits, Bool.and_eq_true, decide_eq_true_eq]
  constructor <;> simp <;> omega

set_option maxHeartbeats 4000000 in
theorem back_any (B : Option Addr) (m cb : Nat) (hs : List Hk) (w : World) (hb : SlOf hkR w none B hs) (hl : hs.length = m) (hm : m ≤ 1048577) (hnew : newSum hs ≤ 1048576) (hold : oldSum hs ≤ 1048576) (hat : ∀ h ∈ hs, 0 ≤ h.1 ∧ h.1 ≤ (1048576 : Int)) :
    Calls Try.prog 19 #[.slice B m cb] w (HksPost 51 w (backG 0 hs)) := by
  have HL := Lib.hid hl
  have HAT := Lib.hid hat
  have HLEN := Lib.hid (backG_length 0 hs)
  clear hl hat
  go_enter Try.func19, Try.ntmps19
  go_wp2_with fail
  go_loopw [3, 4, 9] (fun o mv j wr => ∃ (J : Nat) (M : Int) (d : List Hk) (vs : List Value) (Ao : Option Addr) (co : Nat), o = .slice Ao d.length co ∧ mv = .int .i64 M ∧ j = .int .i64 J ∧ J ≤ m ∧ d.length = J ∧ M + (oldSum (hs.take J) : Int) = (newSum (hs.take J) : Int) ∧
      wr.ownsRow w.heap.size 51 3 (.slice Ao d.length co) d.length vs ∧ Each (hkR.R wr (Value.slice Ao d.length co).ownBlock) vs d ∧ Below w.heap.size w wr ∧ Hid (d ++ backG M (hs.drop J) = backG 0 hs)) (fun _ _ j _ => m - (intOf j).toNat)
  case atStart => exact ⟨0, 0, [], [], none, 0, rfl, rfl, rfl, by omega, rfl, by simp [oldSum, newSum], World.ownsRow_nil _ _ _ _, .nil, Below.refl _ _, Lib.hid rfl⟩
  case round =>
    obtain ⟨J, M, d, vs, Ao, co, rfl, rfl, rfl, hJ, hdJ, hM, hown, hE, hbr, H⟩ := hrel
    have hnt := newSum_take_le hs J
    have hot := oldSum_take_le hs J
    by_cases hJm : J < m
    · obtain ⟨b1, o1, z, l1, l2, A1, A2, c1, c2, rfl, hb1, hx, hwf, k0, k1, k2, hc1, hm1, hs1, hc2, hm2, hs2⟩ := hk_look hb HL.out hJm
      have k0 := (hbr.cell hb1).trans k0
      have k1 := (hbr.cell hb1).trans k1
      have k2 := (hbr.cell hb1).trans k2
      have hz := HAT.out _ (List.mem_of_getElem? hx)
      simp only at hz
      have hz0 := hz.1
      have hz1 := hz.2
      have ht1 : newSum (hs.take (J + 1)) = newSum (hs.take J) + l2.length := newSum_take_succ hx
      have ht2 : oldSum (hs.take (J + 1)) = oldSum (hs.take J) + l1.length := oldSum_take_succ hx
      have hl2 : l2.length ≤ 1048576 := by have := newSum_take_le hs (J + 1); omega
      have hl1 : l1.length ≤ 1048576 := by have := oldSum_take_le hs (J + 1); omega
      have HT1 := Lib.hid ht1
      have HT2 := Lib.hid ht2
      have HX := Lib.hid (hdrop_cons hx)
      have hM0 : -1048576 ≤ M := by omega
      have hM1 : M ≤ 1048576 := by omega
      have HM := Lib.hid hM
      have HDJ := Lib.hid hdJ
      have HO := Lib.hid hown
      have HE := Lib.hid hE
      have HBX := Lib.hid (hbr.alloc hbr.size (.cells #[.int .i64 z, .slice A1 l1.length c1, .slice A2 l2.length c2] 51))
      have HSW1 := Lib.hid hs1.str
      have HSW2 := Lib.hid hs2.str
      have EM := Lib.hid (IntWalk.i64_in (z + M) (by omega))
      have hdn : d.length ≤ 1048577 := by omega
      have hlt' : (J : Int) < (m : Int) := by omega
      clear hx hwf hz ht1 ht2 hM hown hE hbr hs1 hs2 hb hdJ
      have HE3 := Lib.hid (HE.out.mono (fun _ _ h => hkR.stable h (.of_below ((Below.refl _ _).alloc (Nat.le_refl _) (.cells #[.int .i64 z, .slice A1 l1.length c1, .slice A2 l2.length c2] 51)))))
      have HO3 := Lib.hid (HO.out.alloc (.cells #[.int .i64 z, .slice A1 l1.length c1, .slice A2 l2.length c2] 51))
      have hav : ∀ g, (Value.slice Ao d.length co).ownBlock = some g → g < wr.heap.size := fun g h => (HO.out.lt g h).2
      have HAV := Lib.hid hav
      have hne := own_lt HO.out (Nat.le_refl wr.heap.size)
      clear hav
      go_wp2_with fail
      have c0 : (wr.alloc (.cells #[.int .i64 z, .slice A1 l1.length c1, .slice A2 l2.length c2] 51)).cell? ⟨wr.heap.size, 0, none⟩ = some (.int .i64 z) ∧ (wr.alloc (.cells #[.int .i64 z, .slice A1 l1.length c1, .slice A2 l2.length c2] 51)).cell? ⟨wr.heap.size, 1, none⟩ = some (.slice A1 l1.length c1) ∧
          (wr.alloc (.cells #[.int .i64 z, .slice A1 l1.length c1, .slice A2 l2.length c2] 51)).cell? ⟨wr.heap.size, 2, none⟩ = some (.slice A2 l2.length c2) := by
        refine ⟨?_, ?_, ?_⟩ <;> go_simp
      have hz : wr.heap.size < (wr.alloc (.cells #[.int .i64 z, .slice A1 l1.length c1, .slice A2 l2.length c2] 51)).heap.size := by simp
      generalize wr.alloc (.cells #[.int .i64 z, .slice A1 l1.length c1, .slice A2 l2.length c2] 51) = w3 at *
      generalize wr.heap.size = g at *
      have C0 := Lib.hid c0
      have HS0 := Same.drew (Same.refl w3)
      clear c0 k0 k1 k2 HE HO hb1
      refine wp_region_held (S := fun w' => w'.cell? ⟨g, 0, none⟩ = some (.int .i64 z) ∧ w'.cell? ⟨g, 1, none⟩ = some (.slice A1 l1.length c1) ∧ w'.cell? ⟨g, 2, none⟩ = some (.slice A2 l2.length c2)) (by kernel_rfl) ?_
      change wpAnyH _ _ _ _ _ _ _ _ (World.drew _)
      refine held_take (i := 0) (v := ?_) (a' := ?_) rfl (by kernel_rfl) (by kernel_rfl) (by kernel_rfl) (fun _ _ _ h => h) (by rfl) C0.out ?_ ?_ ?_
      rotate_left 2
      · (intro w hS; go_simp; try with_reducible rfl)
      · (go_simp; try with_reducible rfl)
      refine held_take (i := 1) (v := ?_) (a' := ?_) rfl (by kernel_rfl) (by kernel_rfl) (by kernel_rfl) (fun _ _ _ h => h) (by rfl) C0.out ?_ ?_ ?_
      rotate_left 2
      · (intro w hS; go_simp; try with_reducible rfl)
      · (go_simp; try with_reducible rfl)
      refine held_take (i := 2) (v := ?_) (a' := ?_) rfl (by kernel_rfl) (by kernel_rfl) (by kernel_rfl) (fun _ _ _ h => h) (by rfl) C0.out ?_ ?_ ?_
      rotate_left 2
      · (intro w hS; obtain ⟨q0, q1, q2⟩ := hS; go_simp; try with_reducible rfl)
      · (go_simp; try with_reducible rfl)
      refine held_take (i := 3) (v := ?_) (a' := ?_) rfl (by kernel_rfl) (by kernel_rfl) (by kernel_rfl) (fun _ _ _ h => h) (by rfl) C0.out ?_ ?_ ?_
      rotate_left 2
      · (intro w hS; go_simp; try with_reducible rfl)
      · (go_simp; try with_reducible rfl)
      refine held_take (i := 4) (v := ?_) (a' := ?_) rfl (by kernel_rfl) (by kernel_rfl) (by kernel_rfl) (fun _ _ _ h => h) (by rfl) C0.out ?_ ?_ ?_
      rotate_left 2
      · (intro w hS; have r := EM.out; go_simp; try with_reducible rfl)
      · (go_simp; try with_reducible rfl)
      refine held_take (i := 5) (v := ?_) (a' := ?_) rfl (by kernel_rfl) (by kernel_rfl) (by kernel_rfl) (fun _ _ _ h => h) (by rfl) C0.out ?_ ?_ ?_
      rotate_left 2
      · (intro w hS; go_simp; try with_reducible rfl)
      · (go_simp; try with_reducible rfl)
      refine held_take (i := 6) (v := ?_) (a' := ?_) rfl (by kernel_rfl) (by kernel_rfl) (by kernel_rfl) (fun _ _ _ h => h) (by rfl) C0.out ?_ ?_ ?_
      rotate_left 2
      · (intro w hS; obtain ⟨q0, q1, q2⟩ := hS; go_simp; try with_reducible rfl)
      · (go_simp; try with_reducible rfl)
      refine held_take (i := 8) (v := ?_) (a' := ?_) rfl (by kernel_rfl) (by kernel_rfl) (by kernel_rfl) (fun _ _ _ h => h) (by rfl) C0.out ?_ ?_ ?_
      rotate_left 2
      · (intro w hS; go_simp; try with_reducible rfl)
      · (go_simp; try with_reducible rfl)
      refine held_take (i := 9) (v := ?_) (a' := ?_) rfl (by kernel_rfl) (by kernel_rfl) (by kernel_rfl) (fun _ _ _ h => h) (by rfl) C0.out ?_ ?_ ?_
      rotate_left 2
      · (intro w hS; obtain ⟨q0, q1, q2⟩ := hS; go_simp; try with_reducible rfl)
      · (go_simp; try with_reducible rfl)
      refine held_ready (rs := [7]) (by kernel_rfl) (by simp) ?_
      refine AllHeld.cons rfl (fun KR hKR => ?_) ?_
      · go_simp
        refine (clone_any _ l2.length c2 l2 _ (HSW2.out.below (HBX.out.trans (HS0.below _))) (by omega)).mono ?_
        rintro e w5 ⟨A5, c5, rfl, ho5, hc5, hm5, hb5⟩
        have C5 := Lib.hid (cells3_keep hb5 hz C0.out)
        have B5 := Lib.hid ((HS0.below w3.heap.size).trans hb5)
        have hz5 : g < w5.heap.size := Nat.lt_of_lt_of_le hz hb5.size
        have HO5 := Lib.hid ho5
        clear ho5 hb5
        refine hKR _ _ C5.out ?_
        clear hKR KR
        refine held_ready (rs := [10]) (by kernel_rfl) (by simp) ?_
        refine AllHeld.cons rfl (fun KR hKR => ?_) ?_
        · go_simp
          refine (clone_any _ l1.length c1 l1 _ (HSW1.out.below (HBX.out.trans (B5.out.mono HBX.out.size))) (by omega)).mono ?_
          rintro e w6 ⟨A6, c6, rfl, ho6, hc6, hm6, hb6⟩
          have C6 := Lib.hid (cells3_keep hb6 hz5 C5.out)
          have B56 := Lib.hid hb6
          have B6 := Lib.hid (B5.out.trans (hb6.mono B5.out.size))
          have hz6 : g < w6.heap.size := Nat.lt_of_lt_of_le hz5 hb6.size
          have HO6 := Lib.hid ho6
          clear ho6 hb6
          refine hKR _ _ C6.out ?_
          clear hKR KR
          refine held_take (i := 11) (v := ?_) (a' := ?_) rfl (by kernel_rfl) (by kernel_rfl) (by kernel_rfl) (fun _ _ _ h => h) (by rfl) C6.out ?_ ?_ ?_
          rotate_left 2
          · (intro w hS; go_simp; try with_reducible rfl)
          · (go_simp; try with_reducible rfl)
          refine held_ready (rs := [12]) (by kernel_rfl) (by simp) ?_
          refine AllHeld.cons rfl (fun KR hKR => ?_) ?_
          · go_simp
            have B67 := Lib.hid ((Below.refl w6.heap.size w6).alloc (Nat.le_refl _) (.cells #[.int .i64 (z + M), .slice A5 l2.length c5, .slice A6 l1.length c6] 51))
            have C7 := Lib.hid (cells3_keep B67.out hz6 C6.out)
            have hz7 : g < (w6.alloc (.cells #[.int .i64 (z + M), .slice A5 l2.length c5, .slice A6 l1.length c6] 51)).heap.size := by simp; omega
            refine hKR _ _ C7.out ?_
            clear hKR KR
            refine held_ready (rs := [13]) (by kernel_rfl) (by simp) ?_
            refine AllHeld.cons rfl (fun KR hKR => ?_) ?_
            · have B37 := Lib.hid (B6.out.trans (B67.out.mono B6.out.size))
              have hown7 := own_below HO3.out B37.out
              refine step_append_sl (by rfl) (.tmp 13) (.tmp 25) (by rfl) elemHk w.heap.size d.length vs (by rfl) hown7 1 #[.int .i64 (z + M), .slice A5 l2.length c5, .slice A6 l1.length c6].toList (by rfl) (Sl.fresh w6 _ _ _ 1 3 rfl) (by simp; exact ⟨rfl, rfl, rfl⟩) (d.length + 1) rfl _ rfl (by omega) (by simp only [maxLen]; omega) (Nat.le_trans HBX.out.size B37.out.size) (fun A8 c8 w8 hap8 hc8 hm8 => ?_)
              have C8 := Lib.hid (hap8.cells3 hz7 hne C7.out)
              have m1 : Moves w3 _ (Value.slice Ao d.length co).ownBlock (Value.slice Ao d.length co).ownBlock := .of_below B37.out
              have x1 := (SlOf.strOwn (av := (Value.slice Ao d.length co).ownBlock) HO5.out (fun g' h => by have := HAV.out g' h; have h2 : w3.drew.heap.size = w3.heap.size := rfl; omega)).stable (.of_below (B56.out.trans (B67.out.mono B56.out.size)))
              have y1 := (SlOf.strOwn (av := (Value.slice Ao d.length co).ownBlock) HO6.out (fun g' h => by have := HAV.out g' h; omega)).stable (.of_below B67.out)
              have r1 := hkR.stable (hk_mk (z := z + M) (wf_i64 (by omega) (by omega)) hc5 hm5 x1 hc6 hm6 y1) (.of_app hap8)
              have e1 := ((HE3.out.mono (fun _ _ h => hkR.stable h m1)).mono (fun _ _ h => hkR.stable h (.of_app hap8))).snoc r1
              have E8 := Lib.hid e1
              have O8 := Lib.hid hap8.own
              have B8 := Lib.hid ((HBX.out.trans (B37.out.mono HBX.out.size)).trans hap8.below)
              clear hap8 m1 x1 y1 r1 e1 hown7
              refine hKR _ _ C8.out ?_
              clear hKR KR
              refine held_take (i := 14) (v := ?_) (a' := ?_) rfl (by kernel_rfl) (by kernel_rfl) (by kernel_rfl) (fun _ _ _ h => h) (by rfl) C8.out ?_ ?_ ?_
              rotate_left 2
              · (intro w hS; go_simp; try with_reducible rfl)
              · (go_simp; try with_reducible rfl)
              refine wpAnyH_done (by kernel_rfl) ?_ _
              obtain ⟨q0, q1, q2⟩ := C8.out
              go_wp2_with fail
              go_roundw
              case rel =>
                refine ⟨J + 1, M + ((l2.length : Int) - (l1.length : Int)), d ++ [(z + M, l2, l1)], vs ++ #[.int .i64 (z + M), .slice A5 l2.length c5, .slice A6 l1.length c6].toList, A8, c8, by rw [List.length_append]; rfl, rfl, by go_num, by omega, by simp; exact HDJ.out, ?_, ?_, ?_, B8.out, ?_⟩
                · rw [HT1.out, HT2.out]; have := HM.out; omega
                · rw [List.length_append]; exact O8.out
                · rw [List.length_append]; exact E8.out
                · refine Lib.hid ?_
                  have h1 := H.out
                  rw [HX.out, backG] at h1
                  simpa using h1
              case measure => simp [intOf]; omega
            exact AllHeld.nil
          exact AllHeld.nil
        exact AllHeld.nil
      exact AllHeld.nil
    · obtain rfl : J = m := by omega
      have hE2 : Hid (hs.drop J = []) := Lib.hid (List.drop_eq_nil_of_le (by rw [HL.out]; exact Nat.le_refl _))
      have hlt' : ¬ (J : Int) < (J : Int) := by omega
      have hO := SlOf.ofOwn (r := hkR) (l := d) hown hE
      have HO := Lib.hid hO
      have HC := Lib.hid (own_cap hown)
      have H' := H.out
      rw [hE2.out, backG, List.append_nil] at H'
      have H' := Lib.hid H'
      clear hO hown hE
      go_wp2_with fail
      go_ret
      rw [← H'.out]
      exact ⟨Ao, co, rfl, HC.out.1, HC.out.2, HO.out, hbr⟩
end Go.Proofs.Ytoeajlkmcokiiaa
