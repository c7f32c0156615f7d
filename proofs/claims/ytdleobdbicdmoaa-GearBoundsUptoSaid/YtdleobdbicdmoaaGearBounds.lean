/- The walk of the law GearBounds. -/
import Derived.Test.YtdleobdbicdmoaaGearAwake
import Derived.Test.YtdleobdbicdmoaaGearSplit
import Derived.Test.YtdleobdbicdmoaaGearJoin
import Derived.Test.YtdleobdbicdmoaaRegion
import Derived.Deep.DrawnRows
set_option linter.unusedVariables false
namespace Go.Proofs.Ytdleobdbicdmoaa
open Go.RowKit
attribute [local go_sem ↓] Go.wp_at_zero Go.wp_at_succ

theorem nextL_bounds (mn mx bits : Int) (h1 : 1 ≤ mn) (h2 : mn ≤ mx) : ∀ (l : List UInt8) (h : Int) (k : Nat), (k : Int) < mx →
    (nextL mn mx bits h k l : Int) ≤ mx ∧ (mn ≤ (nextL mn mx bits h k l : Int) ∨ nextL mn mx bits h k l = k + l.length) := by
  intro l
  induction l with
  | nil => intro h k hk; simp [nextL]; omega
  | cons x r ih =>
    intro h k hk
    unfold nextL
    by_cases hs : stopB mn mx bits (hashI h x) ((k + 1 : Nat) : Int) = true
    · rw [if_pos hs]
      refine ⟨by omega, .inl ?_⟩
      simp [stopB] at hs
      omega
    · rw [if_neg hs]
      have hne : ((k + 1 : Nat) : Int) < mx := by
        simp [stopB] at hs
        omega
      have := ih (hashI h x) (k + 1) hne
      simp only [List.length_cons]
      refine ⟨this.1, this.2.imp id fun h => by omega⟩

theorem cut_bounds (mn mx bits : Int) (h1 : 1 ≤ mn) (h2 : mn ≤ mx) : ∀ (i : Nat) (b : List UInt8) (x : Nat), (cutL mn mx bits b)[i]? = some x →
    1 ≤ x ∧ (x : Int) ≤ mx ∧ (mn ≤ (x : Int) ∨ i + 1 = (cutL mn mx bits b).length) := by
  intro i
  induction i with
  | zero =>
    intro b x hx
    have hb : b ≠ [] := by intro h; subst h; simp [cutL_nil] at hx
    rw [cutL_cons mn mx bits hb] at hx ⊢
    simp at hx
    have p1 := nextL_pos mn mx bits b 0 hb
    have p2 := nextL_bounds mn mx bits h1 h2 b 0 0 (by omega)
    rw [hx] at p1 p2
    refine ⟨p1, p2.1, p2.2.imp id fun h => ?_⟩
    rw [hx, List.drop_eq_nil_of_le (by omega), cutL_nil]
    rfl
  | succ i ih =>
    intro b x hx
    have hb : b ≠ [] := by intro h; subst h; simp [cutL_nil] at hx
    rw [cutL_cons mn mx bits hb] at hx ⊢
    simp only [List.getElem?_cons_succ] at hx
    have := ih _ _ hx
    simp only [List.length_cons]
    omega

theorem chunksOf_get : ∀ (D : List Nat) (l : List UInt8) (i x : Nat) (c : List UInt8), D.sum = l.length → D[i]? = some x → (chunksOf D l)[i]? = some c → c.length = x
  | [], l, i, x, c, _, hx, _ => by simp at hx
  | n :: r, l, 0, x, c, hs, hx, hc => by
    simp at hx
    simp [chunksOf] at hc
    rw [List.sum_cons] at hs
    rw [← hc, List.length_take]
    omega
  | n :: r, l, i + 1, x, c, hs, hx, hc => by
    rw [List.sum_cons] at hs
    simp only [List.getElem?_cons_succ] at hx
    simp only [chunksOf, List.getElem?_cons_succ] at hc
    exact chunksOf_get r (l.drop n) i x c (by rw [List.length_drop]; omega) hx hc

/-- 'string(b)' behind a name, so that a walk through a region that draws its order does not open it -/
noncomputable def cvt (w : World) (A : Option Addr) (n c : Nat) : Result Value := (convert 22 9 (.slice A n c)).run Try.prog w
theorem cvt_eq (w : World) (A : Option Addr) (n c : Nat) : (convert 22 9 (.slice A n c)).run Try.prog w = cvt w A n c := rfl
theorem cvt_of {w : World} {A : Option Addr} {n : Nat} {l : List UInt8} (h : Sl w 1 A n (bytesV l)) (c : Nat) : cvt w A n c = .ok (.string ⟨l.toArray⟩) w :=
  Sl.toStr h c Try.underlying22 Try.underlying5 Try.underlying9
attribute [local go_sem ↓] cvt_eq

set_option maxHeartbeats 4000000 in
theorem bounds_any (A : Option Addr) (n c : Nat) (l : List UInt8) (mn mx b : Int) (w : World) (hs : Sl w 1 A n (bytesV l)) (hc : n ≤ c) (hm : c ≤ maxLen) (hn : n ≤ 1048576) (wf0 : (Lit.int .i64 mn).wf = true) (wf1 : (Lit.int .i64 mx).wf = true) (wf2 : (Lit.int .i64 b).wf = true) :
    Calls Try.prog 6 #[.slice A n c, .agg #[.int .i64 mn, .int .i64 mx, .int .i64 b]] w fun e w' => e = .returned (.bool true) ∧ Below w.heap.size w w' := by
  have hb0 : Below w.heap.size w (w.alloc (.cells #[.int .i64 mn, .int .i64 mx, .int .i64 b] 25)) := (Below.refl _ _).alloc (Nat.le_refl _) _
  have hP0 : (w.alloc (.cells #[.int .i64 mn, .int .i64 mx, .int .i64 b] 25)).cell? ⟨w.heap.size, 0, none⟩ = some (.int .i64 mn) ∧ (w.alloc (.cells #[.int .i64 mn, .int .i64 mx, .int .i64 b] 25)).cell? ⟨w.heap.size, 1, none⟩ = some (.int .i64 mx) ∧ (w.alloc (.cells #[.int .i64 mn, .int .i64 mx, .int .i64 b] 25)).cell? ⟨w.heap.size, 2, none⟩ = some (.int .i64 b) := by
    refine ⟨?_, ?_, ?_⟩ <;> go_simp
  by_cases hw : wrongB mn mx b = true
  · have HW := Lib.hid hw
    clear hw
    go_enter Try.func6, Try.ntmps6
    go_wp2_with fail
    refine (awake_any _).mono ?_
    rintro e w1 ⟨rfl, hb1⟩
    have hP1 := cells3_keep hb1 (by simp) hP0
    have hb01 := hb0.trans (hb1.mono (by simp))
    obtain ⟨p1, p2, p3⟩ := hP1
    go_wp2_with fail
    refine (split_wrong A n c mn mx b _ HW.out).mono ?_
    rintro e w2 ⟨rfl, hb2⟩
    go_wp2_with fail
    go_ret
    exact ⟨rfl, hb01.trans (hb2.mono hb01.size)⟩
  · have hw' : wrongB mn mx b = false := by simpa using hw
    obtain ⟨v1, v2, v3, v4, v5⟩ := wrongB_false hw'
    have HW := Lib.hid hw'
    have hl : l.length = n := by have := hs.1; simpa [bytesV] using this
    have hsum := cut_sum mn mx b l.length l (Nat.le_refl _)
    have hlen := cutL_length mn mx b l.length l (Nat.le_refl _)
    have hbd := fun i x h => cut_bounds mn mx b v1 v2 i l x h
    have hnil : l = [] → cutL mn mx b l = [] := by rintro rfl; rfl
    rw [hl] at hlen
    have HL := Lib.hid hl
    clear hw hw' hl
    go_enter Try.func6, Try.ntmps6
    go_wp2_with fail
    refine (awake_any _).mono ?_
    rintro e w1 ⟨rfl, hb1⟩
    have hP1 := cells3_keep hb1 (by simp) hP0
    have hb01 := hb0.trans (hb1.mono (by simp))
    have hz1 := hb1.size
    simp only [World.size_alloc] at hz1
    clear hP0 hb0 hb1
    obtain ⟨p1, p2, p3⟩ := id hP1
    go_wp2_with fail
    refine (split_any A n c l mn mx b _ (hs.below hb01) hc (by omega) HW.out).mono ?_
    rintro e w2 ⟨AC, cC, vs, rfl, hown, heach, hb2⟩
    have hP2 := cells3_keep hb2 (by omega) hP1
    have hb02 := hb01.trans (hb2.mono hb01.size)
    have hz2 := hb2.size
    have hall := heach.all
    have hsv := Sl.ofOwn hown
    have hcl := chunksOf_length (cutL mn mx b l) l
    have hfl := chunksOf_flat (cutL mn mx b l) l hsum
    have hget := fun i x c => chunksOf_get (cutL mn mx b l) l i x c hsum
    generalize chunksOf (cutL mn mx b l) l = C at *
    generalize cutL mn mx b l = D at *
    rw [hcl] at hown hsv ⊢
    have HB := Lib.hid hbd
    have HN := Lib.hid hnil
    have HC := Lib.hid hcl
    have HF := Lib.hid hfl
    have HG := Lib.hid hget
    clear hbd hnil hcl hfl hget hsum hown heach hP1 p1 p2 p3
    obtain ⟨p1, p2, p3⟩ := id hP2
    go_wp2_with fail
    go_loop [24] (fun i => ∃ k : Nat, k ≤ D.length ∧ i = .int .i64 k) (fun i => D.length - (intOf i).toNat)
    case atStart => exact ⟨0, by omega, rfl⟩
    case round =>
      obtain ⟨k, hk, rfl⟩ := hrel
      by_cases hlt : k < D.length
      · obtain ⟨b1, o1, A1, c1, ch, rfl, _, hc1, hch, _, _, _⟩ := hall.look hsv hlt
        obtain ⟨x, hx⟩ : ∃ x, D[k]? = some x := ⟨D[k], List.getElem?_eq_getElem hlt⟩
        have hxl := HG.out k x ch hx hch
        have hbx := HB.out k x hx
        rw [hxl] at hc1
        obtain ⟨g1, g2, g3⟩ := hbx
        have g1' : ¬ (x : Int) < 1 := by omega
        have g2' : ¬ mx < (x : Int) := by omega
        clear hch hx hxl g1 g2 hall
        rcases g3 with g3 | g3
        · have g3' : ¬ (x : Int) < mn := by omega
          clear g3
          go_wp2_with fail
          go_round
          case rel => exact ⟨k + 1, by omega, by go_num⟩
          case measure => simp [intOf]; omega
        · have g3' : ¬ (k : Int) < (D.length : Int) - 1 := by omega
          clear g3
          by_cases g4 : (x : Int) < mn
          all_goals
            go_wp2_with fail
            go_round
            case rel => exact ⟨k + 1, by omega, by go_num⟩
            case measure => simp [intOf]; omega
      · have J0 := join_any AC D.length cC vs C w2.drew hsv.drew ⟨hall.1, hall.2⟩ (by omega) (by rw [HF.out, HL.out]; omega)
        rw [HF.out] at J0
        have HJ0 := Lib.hid J0
        have hs2 := hs.below hb02
        have hz02 := hb02.size
        clear J0 hs hall
        have HS0 : Below w2.heap.size w2 w2.drew := (Below.refl _ _).drew
        have hD0 : ¬ 0 < n → D.length = 0 := fun hn0 => by
          have : l = [] := List.eq_nil_of_length_eq_zero (by rw [HL.out]; omega)
          rw [HN.out this]; rfl
        clear HB HN HC HF HG HL HW hP2 p1 p2 p3 hlen hsv hb2 v1 v2 v3 v4 v5 wf0 wf1 wf2 hb01 hz1 hm
        by_cases hn0 : 0 < n
        · have hg1 : decide ((0 : Int) < (n : Int)) = true := by simpa using hn0
          have hg1n : decide (0 < n) = true := by simpa using hn0
          clear hD0 hn0 hz2 hc hn
          go_wp2_with fail
          refine wp_region_held (S := fun w' => Below w2.heap.size w2 w') (by kernel_rfl) ?_
          change wpAnyH _ _ _ _ _ _ _ _ (World.drew _)
          refine held_take (i := 0) (v := ?_) rfl (by kernel_rfl) (by kernel_rfl) (by kernel_rfl) (fun _ _ _ h => h) (by rfl) HS0 ?_ ?_
          rotate_left
          · (intro w hS; go_simp; try with_reducible rfl)
          refine held_take (i := 3) (v := ?_) rfl (by kernel_rfl) (by kernel_rfl) (by kernel_rfl) (fun _ _ _ h => h) (by rfl) HS0 ?_ ?_
          rotate_left
          · (intro w hS; go_simp; try with_reducible rfl)
          refine held_take (i := 4) (v := ?_) rfl (by kernel_rfl) (by kernel_rfl) (by kernel_rfl) (fun _ _ _ h => h) (by rfl) HS0 ?_ ?_
          rotate_left
          · (intro w hS; have cvx := cvt_of (hs2.below hS) c; go_simp; try with_reducible rfl)
          refine held_ready (rs := [1]) (by kernel_rfl) (by simp) ?_
          refine AllHeld.cons rfl (fun K hK => ?_) ?_
          · go_simp
            refine HJ0.out.mono ?_
            rintro e w7 ⟨AJ, cJ, rfl, hJ, hb7⟩
            have cv := cvt_of (Sl.ofOwn hJ) cJ
            have HS1 : Below w2.heap.size w2 w7 := HS0.trans hb7
            refine hK _ _ HS1 ?_
            clear hK K
            refine held_ready (rs := [2]) (by kernel_rfl) (by simp) ?_
            refine AllHeld.cons rfl (fun K hK => ?_) ?_
            · go_simp
              refine hK _ _ HS1 ?_
              clear hK K
              refine held_take (i := 5) (v := ?_) rfl (by kernel_rfl) (by kernel_rfl) (by kernel_rfl) (fun _ _ _ h => h) (by rfl) HS1 ?_ ?_
              rotate_left
              · (intro w hS; go_simp; try with_reducible rfl)
              refine held_take (i := 6) (v := ?_) rfl (by kernel_rfl) (by kernel_rfl) (by kernel_rfl) (fun _ _ _ h => h) (by rfl) HS1 ?_ ?_
              rotate_left
              · (intro w hS; go_simp; try with_reducible rfl)
              refine held_take (i := 7) (v := ?_) rfl (by kernel_rfl) (by kernel_rfl) (by kernel_rfl) (fun _ _ _ h => h) (by rfl) HS1 ?_ ?_
              rotate_left
              · (intro w hS; go_simp; try with_reducible rfl)
              refine held_take (i := 8) (v := ?_) rfl (by kernel_rfl) (by kernel_rfl) (by kernel_rfl) (fun _ _ _ h => h) (by rfl) HS1 ?_ ?_
              rotate_left
              · (intro w hS; go_simp; try with_reducible rfl)
              refine held_take (i := 9) (v := ?_) rfl (by kernel_rfl) (by kernel_rfl) (by kernel_rfl) (fun _ _ _ h => h) (by rfl) HS1 ?_ ?_
              rotate_left
              · (intro w hS; go_simp; try with_reducible rfl)
              refine held_take (i := 10) (v := ?_) rfl (by kernel_rfl) (by kernel_rfl) (by kernel_rfl) (fun _ _ _ h => h) (by rfl) HS1 ?_ ?_
              rotate_left
              · (intro w hS; go_simp; try with_reducible rfl)
              refine held_ready (rs := [11]) (by kernel_rfl) (by simp) ?_
              refine AllHeld.cons rfl (fun K hK => ?_) ?_
              · go_simp
                refine hK _ _ HS1 ?_
                clear hK K
                refine held_ready (rs := [12]) (by kernel_rfl) (by simp) ?_
                refine AllHeld.cons rfl (fun K hK => ?_) ?_
                · go_simp
                  refine hK _ _ HS1 ?_
                  clear hK K
                  refine held_ready (rs := [13]) (by kernel_rfl) (by simp) ?_
                  refine AllHeld.cons rfl (fun K hK => ?_) ?_
                  · go_simp
                    refine hK _ _ HS1 ?_
                    clear hK K
                    refine held_take (i := 14) (v := ?_) rfl (by kernel_rfl) (by kernel_rfl) (by kernel_rfl) (fun _ _ _ h => h) (by rfl) HS1 ?_ ?_
                    rotate_left
                    · (intro w hS; go_simp; try with_reducible rfl)
                    refine held_take (i := 15) (v := ?_) rfl (by kernel_rfl) (by kernel_rfl) (by kernel_rfl) (fun _ _ _ h => h) (by rfl) HS1 ?_ ?_
                    rotate_left
                    · (intro w hS; go_simp; try with_reducible rfl)
                    refine held_take (i := 16) (v := ?_) rfl (by kernel_rfl) (by kernel_rfl) (by kernel_rfl) (fun _ _ _ h => h) (by rfl) HS1 ?_ ?_
                    rotate_left
                    · (intro w hS; go_simp; try with_reducible rfl)
                    refine wpAnyH_done (by kernel_rfl) ?_ _
                    go_wp2_with fail
                    go_ret
                    exact ⟨rfl, hb02.trans (HS1.mono hz02)⟩
                  exact AllHeld.nil
                exact AllHeld.nil
              exact AllHeld.nil
            exact AllHeld.nil
          exact AllHeld.nil
        · have hg1 : decide ((0 : Int) < (n : Int)) = false := by simpa using hn0
          have hg1n : decide (0 < n) = false := by simpa using hn0
          have hg2 : ((D.length : Int) == 0) = true := by rw [hD0 hn0]; rfl
          clear hD0 hn0 hz2 hc hn
          go_wp2_with fail
          refine wp_region_held (S := fun w' => Below w2.heap.size w2 w') (by kernel_rfl) ?_
          change wpAnyH _ _ _ _ _ _ _ _ (World.drew _)
          refine held_take (i := 0) (v := ?_) rfl (by kernel_rfl) (by kernel_rfl) (by kernel_rfl) (fun _ _ _ h => h) (by rfl) HS0 ?_ ?_
          rotate_left
          · (intro w hS; go_simp; try with_reducible rfl)
          refine held_take (i := 3) (v := ?_) rfl (by kernel_rfl) (by kernel_rfl) (by kernel_rfl) (fun _ _ _ h => h) (by rfl) HS0 ?_ ?_
          rotate_left
          · (intro w hS; go_simp; try with_reducible rfl)
          refine held_take (i := 4) (v := ?_) rfl (by kernel_rfl) (by kernel_rfl) (by kernel_rfl) (fun _ _ _ h => h) (by rfl) HS0 ?_ ?_
          rotate_left
          · (intro w hS; have cvx := cvt_of (hs2.below hS) c; go_simp; try with_reducible rfl)
          refine held_ready (rs := [1]) (by kernel_rfl) (by simp) ?_
          refine AllHeld.cons rfl (fun K hK => ?_) ?_
          · go_simp
            refine HJ0.out.mono ?_
            rintro e w7 ⟨AJ, cJ, rfl, hJ, hb7⟩
            have cv := cvt_of (Sl.ofOwn hJ) cJ
            have HS1 : Below w2.heap.size w2 w7 := HS0.trans hb7
            refine hK _ _ HS1 ?_
            clear hK K
            refine held_ready (rs := [2]) (by kernel_rfl) (by simp) ?_
            refine AllHeld.cons rfl (fun K hK => ?_) ?_
            · go_simp
              refine hK _ _ HS1 ?_
              clear hK K
              refine held_take (i := 5) (v := ?_) rfl (by kernel_rfl) (by kernel_rfl) (by kernel_rfl) (fun _ _ _ h => h) (by rfl) HS1 ?_ ?_
              rotate_left
              · (intro w hS; go_simp; try with_reducible rfl)
              refine held_take (i := 6) (v := ?_) rfl (by kernel_rfl) (by kernel_rfl) (by kernel_rfl) (fun _ _ _ h => h) (by rfl) HS1 ?_ ?_
              rotate_left
              · (intro w hS; go_simp; try with_reducible rfl)
              refine held_take (i := 7) (v := ?_) rfl (by kernel_rfl) (by kernel_rfl) (by kernel_rfl) (fun _ _ _ h => h) (by rfl) HS1 ?_ ?_
              rotate_left
              · (intro w hS; go_simp; try with_reducible rfl)
              refine held_take (i := 8) (v := ?_) rfl (by kernel_rfl) (by kernel_rfl) (by kernel_rfl) (fun _ _ _ h => h) (by rfl) HS1 ?_ ?_
              rotate_left
              · (intro w hS; go_simp; try with_reducible rfl)
              refine held_take (i := 9) (v := ?_) rfl (by kernel_rfl) (by kernel_rfl) (by kernel_rfl) (fun _ _ _ h => h) (by rfl) HS1 ?_ ?_
              rotate_left
              · (intro w hS; go_simp; try with_reducible rfl)
              refine held_take (i := 10) (v := ?_) rfl (by kernel_rfl) (by kernel_rfl) (by kernel_rfl) (fun _ _ _ h => h) (by rfl) HS1 ?_ ?_
              rotate_left
              · (intro w hS; go_simp; try with_reducible rfl)
              refine held_ready (rs := [11]) (by kernel_rfl) (by simp) ?_
              refine AllHeld.cons rfl (fun K hK => ?_) ?_
              · go_simp
                refine hK _ _ HS1 ?_
                clear hK K
                refine held_ready (rs := [12]) (by kernel_rfl) (by simp) ?_
                refine AllHeld.cons rfl (fun K hK => ?_) ?_
                · go_simp
                  refine hK _ _ HS1 ?_
                  clear hK K
                  refine held_ready (rs := [13]) (by kernel_rfl) (by simp) ?_
                  refine AllHeld.cons rfl (fun K hK => ?_) ?_
                  · go_simp
                    refine hK _ _ HS1 ?_
                    clear hK K
                    refine held_take (i := 14) (v := ?_) rfl (by kernel_rfl) (by kernel_rfl) (by kernel_rfl) (fun _ _ _ h => h) (by rfl) HS1 ?_ ?_
                    rotate_left
                    · (intro w hS; go_simp; try with_reducible rfl)
                    refine held_take (i := 15) (v := ?_) rfl (by kernel_rfl) (by kernel_rfl) (by kernel_rfl) (fun _ _ _ h => h) (by rfl) HS1 ?_ ?_
                    rotate_left
                    · (intro w hS; go_simp; try with_reducible rfl)
                    refine held_take (i := 16) (v := ?_) rfl (by kernel_rfl) (by kernel_rfl) (by kernel_rfl) (fun _ _ _ h => h) (by rfl) HS1 ?_ ?_
                    rotate_left
                    · (intro w hS; go_simp; try with_reducible rfl)
                    refine wpAnyH_done (by kernel_rfl) ?_ _
                    go_wp2_with fail
                    go_ret
                    exact ⟨rfl, hb02.trans (HS1.mono hz02)⟩
                  exact AllHeld.nil
                exact AllHeld.nil
              exact AllHeld.nil
            exact AllHeld.nil
          exact AllHeld.nil
end Go.Proofs.Ytdleobdbicdmoaa
