/- The walk of the law GearCuts: raw bytes are cut where the document says. -/
import Derived.Test.YtdleobdbicdmoaaGearAwake
import Derived.Test.YtdleobdbicdmoaaGearSame
import Derived.Test.YtdleobdbicdmoaaRegion
import Derived.Test.YtdleobdbicdmoaaGearJoin
import Derived.Test.YtdleobdbicdmoaaGearSplit
import Derived.Test.YtdleobdbicdmoaaGearLengths
import Derived.Deep.DeepCutAuto
import Derived.Deep.CutBlock
set_option linter.unusedVariables false
namespace Go.Proofs.Ytdleobdbicdmoaa
open Go.RowKit
attribute [local go_sem ↓] Go.wp_at_zero Go.wp_at_succ cvt_eq

theorem chunksOf_map : ∀ (D : List Nat) (l : List UInt8), D.sum = l.length → (chunksOf D l).map List.length = D
  | [], _, _ => rfl
  | n :: r, l, h => by
    rw [List.sum_cons] at h
    simp only [chunksOf, List.map_cons, List.length_take]
    rw [chunksOf_map r (l.drop n) (by rw [List.length_drop]; omega), Nat.min_eq_left (by omega)]

/-- The bytes that the law looks at. -/
def Looked (n : Nat) (l : List UInt8) (n' : Nat) (l' : List UInt8) : Prop := (n ≤ 3000 ∧ n' = n ∧ l' = l) ∨ (3000 < n ∧ n' = 3000 ∧ l' = l.take 3000)

theorem Looked.sl {w : World} {A : Option Addr} {n n' : Nat} {l l' : List UInt8} (h : Looked n l n' l') (hs : Sl w 1 A n (bytesV l)) : Sl w 1 A n' (bytesV l') ∧ n' ≤ 3000 ∧ n' ≤ n := by
  rcases h with ⟨h1, rfl, rfl⟩ | ⟨h1, rfl, rfl⟩
  · exact ⟨hs, h1, Nat.le_refl _⟩
  · have := hs.upto (k := 3000) (by omega)
    rw [Nat.mul_one, bytesV_take] at this
    exact ⟨this, Nat.le_refl _, by omega⟩

set_option maxRecDepth 100000 in
set_option maxHeartbeats 1000000 in
theorem cuts_wrong (A : Option Addr) (n c : Nat) (l : List UInt8) (mn mx b : Int) (w : World) (hs : Sl w 1 A n (bytesV l)) (hc : n ≤ c) (hn : n ≤ 1048576) (hw : wrongB mn mx b = true) :
    Calls Try.prog 5 #[.slice A n c, .agg #[.int .i64 mn, .int .i64 mx, .int .i64 b]] w fun e w' => e = .returned (.bool true) ∧ Below w.heap.size w w' := by
  have hb0 : Below w.heap.size w (w.alloc (.cells #[.int .i64 mn, .int .i64 mx, .int .i64 b] 25)) := (Below.refl _ _).alloc (Nat.le_refl _) _
  have hP0 : (w.alloc (.cells #[.int .i64 mn, .int .i64 mx, .int .i64 b] 25)).cell? ⟨w.heap.size, 0, none⟩ = some (.int .i64 mn) ∧ (w.alloc (.cells #[.int .i64 mn, .int .i64 mx, .int .i64 b] 25)).cell? ⟨w.heap.size, 1, none⟩ = some (.int .i64 mx) ∧ (w.alloc (.cells #[.int .i64 mn, .int .i64 mx, .int .i64 b] 25)).cell? ⟨w.heap.size, 2, none⟩ = some (.int .i64 b) := by
    refine ⟨?_, ?_, ?_⟩ <;> go_simp
  have HW := Lib.hid hw
  have hz0 : w.heap.size < (w.alloc (.cells #[.int .i64 mn, .int .i64 mx, .int .i64 b] 25)).heap.size := by simp
  clear hw
  by_cases h3 : (3000 : Int) < (n : Int)
  all_goals
    have hcap : (3000 : Int) < (n : Int) → (3000 : Int) ≤ (c : Int) := fun h => by omega
    go_enter Try.func5, Try.ntmps5
    go_wp2_with fail
    refine (awake_any _).mono ?_
    rintro e w1 ⟨rfl, hb1⟩
    have hP1 := cells3_keep hb1 hz0 hP0
    have hb01 := hb0.trans (hb1.mono (by simp))
    have hz1 := Nat.lt_of_lt_of_le hz0 hb1.size
    clear hP0 hb0 hb1 hz0
    obtain ⟨p1, p2, p3⟩ := id hP1
    try have hcap' := hcap h3
    clear hcap
    go_wp2_with fail
    refine (cut_wrong _ _ _ mn mx b _ HW.out).mono ?_
    rintro e w2 ⟨rfl, hb2⟩
    have hP2 := cells3_keep hb2 hz1 hP1
    have hb02 := hb01.trans (hb2.mono hb01.size)
    have hz2 := Nat.lt_of_lt_of_le hz1 hb2.size
    clear hP1 hb01 hb2 hz1 p1 p2 p3
    obtain ⟨p1, p2, p3⟩ := id hP2
    go_wp2_with fail
    refine (split_wrong _ _ _ mn mx b _ HW.out).mono ?_
    rintro e w3 ⟨rfl, hb3⟩
    have hP3 := cells3_keep hb3 hz2 hP2
    have hb03 := hb02.trans (hb3.mono hb02.size)
    have hz3 := Nat.lt_of_lt_of_le hz2 hb3.size
    clear hP2 hb02 hb3 hz2 p1 p2 p3
    obtain ⟨p1, p2, p3⟩ := id hP3
    have WR := wrong_any mn mx b w3
    rw [HW.out] at WR
    have HWR := Lib.hid WR
    clear WR
    go_wp2_with fail
    refine HWR.out.mono ?_
    rintro e w4 ⟨rfl, rfl⟩
    simp only [if_true]
    go_wp2_with fail
    refine (check_wrong mn mx b _ HW.out).mono ?_
    rintro e w5 ⟨rfl, hb5⟩
    go_wp2_with fail
    go_ret
    exact ⟨rfl, hb03.trans (hb5.mono hb03.size)⟩

set_option maxRecDepth 100000 in
set_option maxHeartbeats 8000000 in
theorem cuts_ok (A : Option Addr) (n c : Nat) (l : List UInt8) (n' : Nat) (l' : List UInt8) (mn mx b : Int) (w : World) (hs : Sl w 1 A n (bytesV l)) (hc : n ≤ c) (hn : n ≤ 1048576) (hk : Looked n l n' l') (hw : wrongB mn mx b = false) :
    Calls Try.prog 5 #[.slice A n c, .agg #[.int .i64 mn, .int .i64 mx, .int .i64 b]] w fun e w' => e = .returned (.bool true) ∧ Below w.heap.size w w' := by
  have hb0' : Below w.heap.size w (w.alloc (.cells #[.int .i64 mn, .int .i64 mx, .int .i64 b] 25)) := (Below.refl _ _).alloc (Nat.le_refl _) _
  have hP0 : (w.alloc (.cells #[.int .i64 mn, .int .i64 mx, .int .i64 b] 25)).cell? ⟨w.heap.size, 0, none⟩ = some (.int .i64 mn) ∧ (w.alloc (.cells #[.int .i64 mn, .int .i64 mx, .int .i64 b] 25)).cell? ⟨w.heap.size, 1, none⟩ = some (.int .i64 mx) ∧ (w.alloc (.cells #[.int .i64 mn, .int .i64 mx, .int .i64 b] 25)).cell? ⟨w.heap.size, 2, none⟩ = some (.int .i64 b) := by
    refine ⟨?_, ?_, ?_⟩ <;> go_simp
  have HW := Lib.hid hw
  obtain ⟨_, _, _, hb0, hb1⟩ := wrongB_false hw
  have hz0 : w.heap.size < (w.alloc (.cells #[.int .i64 mn, .int .i64 mx, .int .i64 b] 25)).heap.size := by simp
  obtain ⟨hs', hn3, hnn⟩ := hk.sl hs
  have hl' : l'.length = n' := by have := hs'.1; simpa [bytesV] using this
  have hlen := cutL_length mn mx b l'.length l' (Nat.le_refl _)
  have hsum := cut_sum mn mx b l'.length l' (Nat.le_refl _)
  have hmap := chunksOf_map (cutL mn mx b l') l' hsum
  have hflat := chunksOf_flat (cutL mn mx b l') l' hsum
  have hcl := chunksOf_length (cutL mn mx b l') l'
  rw [hl'] at hlen hsum
  have hcut : ∀ s : ByteArray, s.data.toList = l' → cutL mn mx b s.data.toList = cutL mn mx b l' := fun s h => by rw [h]
  have HL := Lib.hid hl'
  have HM := Lib.hid hmap
  have HF := Lib.hid hflat
  have HC := Lib.hid hcl
  clear hw hmap hflat hcl hl' hsum hs hcut
  have hnc : n' ≤ c := by omega
  go_enter Try.func5, Try.ntmps5
  go_wp2_with fail
  refine (awake_any _).mono ?_
  rintro e w1 ⟨rfl, hb1'⟩
  have hP1 := cells3_keep hb1' hz0 hP0
  have hb01 := hb0'.trans (hb1'.mono (by simp))
  have hz1 := Nat.lt_of_lt_of_le hz0 hb1'.size
  clear hP0 hb0' hb1' hz0
  go_upto_if 15 with fail
  go_cut [0] (fun s0 wx => s0 = .slice A n' c ∧ w1 = wx)
  case first =>
    rcases hk with ⟨h3, rfl, rfl⟩ | ⟨h3, rfl, rfl⟩
    · have h3' : ¬ (3000 : Int) < (n' : Int) := by omega
      go_wp2_with fail
      go_meet
      case rel => exact ⟨rfl, rfl⟩
    · have h3' : (3000 : Int) < (n : Int) := by omega
      have h3c : (3000 : Int) ≤ (c : Int) := by omega
      go_wp2_with fail
      go_meet
      case rel => exact ⟨rfl, rfl⟩
  case rest =>
    obtain ⟨rfl, hwc⟩ := hcut
    subst hwc
    clear hk
    obtain ⟨p1, p2, p3⟩ := id hP1
    go_wp2_with fail
    refine (cut_any A n' c l' mn mx b _ (hs'.below hb01) hnc (by omega) HW.out).mono ?_
    rintro e w2 ⟨AX, cX, rfl, hX, hXc, hXm, hb2⟩
    have hP2 := cells3_keep hb2 hz1 hP1
    have hb02 := hb01.trans (hb2.mono hb01.size)
    have hz2 := Nat.lt_of_lt_of_le hz1 hb2.size
    have hX2 := Sl.ofOwn hX
    clear hP1 hb01 hb2 hz1 p1 p2 p3 hX hXm
    obtain ⟨p1, p2, p3⟩ := id hP2
    go_wp2_with fail
    refine (split_any A n' c l' mn mx b _ (hs'.below hb02) hnc (by omega) HW.out).mono ?_
    rintro e w3 ⟨AC, cC, vs, rfl, hown, heach, hb3⟩
    have hP3 := cells3_keep hb3 hz2 hP2
    have hb03 := hb02.trans (hb3.mono hb02.size)
    have hz3 := Nat.lt_of_lt_of_le hz2 hb3.size
    have hX3 := hX2.below hb3
    have hall3 := heach.all
    have hsv3 := Sl.ofOwn hown
    have hs3 := hs'.below hb03
    clear hP2 hb02 hb3 hz2 p1 p2 p3 hX2 hown heach hs'
    have RC := fun (w : World) => refcut_any ⟨l'.toArray⟩ mn mx b w (by show l'.toArray.size ≤ _; rw [List.size_toArray, HL.out]; omega) hb0 hb1
    have hll : (⟨l'.toArray⟩ : ByteArray).data.toList = l' := rfl
    rw [hll] at RC
    generalize chunksOf (cutL mn mx b l') l' = C at *
    generalize cutL mn mx b l' = D at *
    rw [HC.out] at hsv3 ⊢
    have HRC := Lib.hid RC
    have SD : Hid (sameB D D = true) := Lib.hid (by simp [sameB])
    clear RC hll
    obtain ⟨p1, p2, p3⟩ := id hP3
    have WR := wrong_any mn mx b w3
    rw [HW.out] at WR
    have HWR := Lib.hid WR
    clear WR
    go_wp2_with fail
    refine HWR.out.mono ?_
    rintro e w4 ⟨rfl, rfl⟩
    simp only [Bool.false_eq_true, if_false]
    go_upto_block 0 with fail
    go_cut [10] (fun s10 wx => ∃ q, wx = w3.drewN q)
    case first =>
      go_wp2_with fail
      go_loopw [10] (fun i wr => ∃ k q : Nat, k ≤ 4 ∧ k ≤ n' ∧ i = .int .i64 k ∧ wr = w3.drewN q) (fun i _ => 4 - (intOf i).toNat)
      case atStart => exact ⟨0, 0, by omega, by omega, rfl, rfl⟩
      case round =>
        obtain ⟨k, q, hk4, hkn, rfl, rfl⟩ := hrel
        clear hX3 hall3 hsv3 HRC HWR hP3 p1 p2 p3 HM HF HC SD hlen hXc
        by_cases hlt : k < n'
        · have hlt' : (k : Int) < (n' : Int) := by omega
          by_cases h4 : k < 4
          · have h4' : (k : Int) < 4 := by omega
            obtain ⟨bl, off, x, rfl, hbl, hcu, hd⟩ := bytesV_look hs3 hlt
            have h0x : 0 ≤ (x.toNat : Int) := by omega
            have h1x : (x.toNat : Int) ≤ 255 := by have := x.toNat_lt; omega
            have HS0 : ∃ q', (w3.drewN q).drew = w3.drewN q' := ⟨q + 1, rfl⟩
            clear hs3 hd hbl
            go_wp2_with fail
            refine wp_region_held (S := fun w' => ∃ q', w' = w3.drewN q') (by kernel_rfl) ?_
            change wpAnyH _ _ _ _ _ _ _ _ (World.drew _)
            refine held_take (i := 0) (v := ?_) (a' := ?_) rfl (by kernel_rfl) (by kernel_rfl) (by kernel_rfl) (fun _ _ _ h => h) (by rfl) HS0 ?_ ?_ ?_
            rotate_left 2
            · (intro w hS; go_simp; try with_reducible rfl)
            · (go_simp; try with_reducible rfl)
            refine held_take (i := 1) (v := ?_) (a' := ?_) rfl (by kernel_rfl) (by kernel_rfl) (by kernel_rfl) (fun _ _ _ h => h) (by rfl) HS0 ?_ ?_ ?_
            rotate_left 2
            · (intro w hS; go_simp; try with_reducible rfl)
            · (go_simp; try with_reducible rfl)
            refine held_take (i := 2) (v := ?_) (a' := ?_) rfl (by kernel_rfl) (by kernel_rfl) (by kernel_rfl) (fun _ _ _ h => h) (by rfl) HS0 ?_ ?_ ?_
            rotate_left 2
            · (intro w hS; go_simp; try with_reducible rfl)
            · (go_simp; try with_reducible rfl)
            refine held_take (i := 3) (v := ?_) (a' := ?_) rfl (by kernel_rfl) (by kernel_rfl) (by kernel_rfl) (fun _ _ _ h => h) (by rfl) HS0 ?_ ?_ ?_
            rotate_left 2
            · (intro w hS; obtain ⟨q1, rfl⟩ := hS; go_simp; try with_reducible rfl)
            · (go_simp; try with_reducible rfl)
            refine held_take (i := 5) (v := ?_) (a' := ?_) rfl (by kernel_rfl) (by kernel_rfl) (by kernel_rfl) (fun _ _ _ h => h) (by rfl) HS0 ?_ ?_ ?_
            rotate_left 2
            · (intro w hS; go_simp; try with_reducible rfl)
            · (go_simp; try with_reducible rfl)
            refine held_take (i := 6) (v := ?_) (a' := ?_) rfl (by kernel_rfl) (by kernel_rfl) (by kernel_rfl) (fun _ _ _ h => h) (by rfl) HS0 ?_ ?_ ?_
            rotate_left 2
            · (intro w hS; go_simp; try with_reducible rfl)
            · (go_simp; try with_reducible rfl)
            refine held_take (i := 7) (v := ?_) (a' := ?_) rfl (by kernel_rfl) (by kernel_rfl) (by kernel_rfl) (fun _ _ _ h => h) (by rfl) HS0 ?_ ?_ ?_
            rotate_left 2
            · (intro w hS; go_simp; try with_reducible rfl)
            · (go_simp; try with_reducible rfl)
            refine held_take (i := 8) (v := ?_) (a' := ?_) rfl (by kernel_rfl) (by kernel_rfl) (by kernel_rfl) (fun _ _ _ h => h) (by rfl) HS0 ?_ ?_ ?_
            rotate_left 2
            · (intro w hS; obtain ⟨q1, rfl⟩ := hS; go_simp; try with_reducible rfl)
            · (go_simp; try with_reducible rfl)
            refine held_ready (rs := [4]) (by kernel_rfl) (by simp) ?_
            refine AllHeld.cons rfl (fun K hK => ?_) ?_
            · go_simp
              refine (gear_any _ _ h0x h1x).mono ?_
              rintro e w' ⟨rfl, rfl⟩
              refine hK _ _ HS0 ?_
              clear hK K
              refine held_ready (rs := [9]) (by kernel_rfl) (by simp) ?_
              refine AllHeld.cons rfl (fun K hK => ?_) ?_
              · go_simp
                refine (refgear_any _ _ h0x h1x).mono ?_
                rintro e w' ⟨rfl, rfl⟩
                refine hK _ _ HS0 ?_
                clear hK K
                refine held_take (i := 10) (v := ?_) (a' := ?_) rfl (by kernel_rfl) (by kernel_rfl) (by kernel_rfl) (fun _ _ _ h => h) (by rfl) HS0 ?_ ?_ ?_
                rotate_left 2
                · (intro w hS; go_simp; try with_reducible rfl)
                · (go_simp; try with_reducible rfl)
                refine wpAnyH_done (by kernel_rfl) ?_ _
                go_wp2_with fail
                go_roundw
                case rel => exact ⟨k + 1, q + 1, by omega, by omega, by go_num, rfl⟩
                case measure => simp [intOf]; omega
              exact AllHeld.nil
            exact AllHeld.nil
          · have h4' : ¬ (k : Int) < 4 := by omega
            go_wp2_with fail
            go_meet
            case rel => exact ⟨q, rfl⟩
        · have hlt' : ¬ (k : Int) < (n' : Int) := by omega
          go_wp2_with fail
          go_meet
          case rel => exact ⟨q, rfl⟩
    case rest =>
      obtain ⟨q, rfl⟩ := hcut
      have hq : Below w3.heap.size w3 (w3.drewN q) := below_drewN (Below.refl _ _) q
      have hbw4 := hb03.trans (hq.mono hb03.size)
      have hP4 := cells3_keep hq hz3 hP3
      have hX4 := hX3.below hq
      have hall4 := hall3.below hq
      have hsv4 := hsv3.below hq
      have hs4 := hs3.below hq
      have hlt4 : w.heap.size < (w3.drewN q).heap.size := hz3
      have hl3 : l'.length ≤ 3000 := by rw [HL.out]; exact hn3
      clear hq hb03 hP3 hX3 hall3 hsv3 hs3 hz3 p1 p2 p3 HWR HC hn hnn hc
      generalize w3.drewN q = w4 at *
      have HS0 : Below w4.heap.size w4 w4.drew := (Below.refl _ _).drew
      go_wp2_with fail
      refine wp_region_held (S := fun w' => Below w4.heap.size w4 w') (by kernel_rfl) ?_
      change wpAnyH _ _ _ _ _ _ _ _ (World.drew _)
      refine held_take (i := 0) (v := ?_) (a' := ?_) rfl (by kernel_rfl) (by kernel_rfl) (by kernel_rfl) (fun _ _ _ h => h) (by rfl) HS0 ?_ ?_ ?_
      rotate_left 2
      · (intro w hS; go_simp; try with_reducible rfl)
      · (go_simp; try with_reducible rfl)
      refine held_take (i := 1) (v := ?_) (a' := ?_) rfl (by kernel_rfl) (by kernel_rfl) (by kernel_rfl) (fun _ _ _ h => h) (by rfl) HS0 ?_ ?_ ?_
      rotate_left 2
      · (intro w hS; go_simp; try with_reducible rfl)
      · (go_simp; try with_reducible rfl)
      refine held_take (i := 2) (v := ?_) (a' := ?_) rfl (by kernel_rfl) (by kernel_rfl) (by kernel_rfl) (fun _ _ _ h => h) (by rfl) HS0 ?_ ?_ ?_
      rotate_left 2
      · (intro w hS; go_simp; try with_reducible rfl)
      · (go_simp; try with_reducible rfl)
      refine held_take (i := 3) (v := ?_) (a' := ?_) rfl (by kernel_rfl) (by kernel_rfl) (by kernel_rfl) (fun _ _ _ h => h) (by rfl) HS0 ?_ ?_ ?_
      rotate_left 2
      · (intro w hS; go_simp; try with_reducible rfl)
      · (go_simp; try with_reducible rfl)
      refine held_take (i := 4) (v := ?_) (a' := ?_) rfl (by kernel_rfl) (by kernel_rfl) (by kernel_rfl) (fun _ _ _ h => h) (by rfl) HS0 ?_ ?_ ?_
      rotate_left 2
      · (intro w hS; go_simp; try with_reducible rfl)
      · (go_simp; try with_reducible rfl)
      refine held_take (i := 5) (v := ?_) (a' := ?_) rfl (by kernel_rfl) (by kernel_rfl) (by kernel_rfl) (fun _ _ _ h => h) (by rfl) HS0 ?_ ?_ ?_
      rotate_left 2
      · (intro w hS; go_simp; try with_reducible rfl)
      · (go_simp; try with_reducible rfl)
      refine held_take (i := 6) (v := ?_) (a' := ?_) rfl (by kernel_rfl) (by kernel_rfl) (by kernel_rfl) (fun _ _ _ h => h) (by rfl) HS0 ?_ ?_ ?_
      rotate_left 2
      · (intro w hS; go_simp; try with_reducible rfl)
      · (go_simp; try with_reducible rfl)
      refine held_take (i := 7) (v := ?_) (a' := ?_) rfl (by kernel_rfl) (by kernel_rfl) (by kernel_rfl) (fun _ _ _ h => h) (by rfl) HS0 ?_ ?_ ?_
      rotate_left 2
      · (intro w hS; obtain ⟨q1, q2, q3⟩ := cells3_keep hS hlt4 hP4; go_simp; try with_reducible rfl)
      · (go_simp; try with_reducible rfl)
      refine held_ready (rs := [8]) (by kernel_rfl) (by simp) ?_
      refine AllHeld.cons rfl (fun K hK => ?_) ?_
      · go_simp
        refine (check_ok mn mx b _ HW.out).mono ?_
        rintro e w5 ⟨rfl, hb5⟩
        have HS1 : Below w4.heap.size w4 w5 := HS0.trans hb5
        refine hK _ _ HS1 ?_
        clear hK K
        refine held_take (i := 9) (v := ?_) (a' := ?_) rfl (by kernel_rfl) (by kernel_rfl) (by kernel_rfl) (fun _ _ _ h => h) (by rfl) HS1 ?_ ?_ ?_
        rotate_left 2
        · (intro w hS; go_simp; try with_reducible rfl)
        · (go_simp; try with_reducible rfl)
        refine held_take (i := 10) (v := ?_) (a' := ?_) rfl (by kernel_rfl) (by kernel_rfl) (by kernel_rfl) (fun _ _ _ h => h) (by rfl) HS1 ?_ ?_ ?_
        rotate_left 2
        · (intro w hS; go_simp; try with_reducible rfl)
        · (go_simp; try with_reducible rfl)
        refine held_take (i := 11) (v := ?_) (a' := ?_) rfl (by kernel_rfl) (by kernel_rfl) (by kernel_rfl) (fun _ _ _ h => h) (by rfl) HS1 ?_ ?_ ?_
        rotate_left 2
        · (intro w hS; go_simp; try with_reducible rfl)
        · (go_simp; try with_reducible rfl)
        refine held_take (i := 12) (v := ?_) (a' := ?_) rfl (by kernel_rfl) (by kernel_rfl) (by kernel_rfl) (fun _ _ _ h => h) (by rfl) HS1 ?_ ?_ ?_
        rotate_left 2
        · (intro w hS; go_simp; try with_reducible rfl)
        · (go_simp; try with_reducible rfl)
        refine held_take (i := 13) (v := ?_) (a' := ?_) rfl (by kernel_rfl) (by kernel_rfl) (by kernel_rfl) (fun _ _ _ h => h) (by rfl) HS1 ?_ ?_ ?_
        rotate_left 2
        · (intro w hS; go_simp; try with_reducible rfl)
        · (go_simp; try with_reducible rfl)
        refine held_take (i := 14) (v := ?_) (a' := ?_) rfl (by kernel_rfl) (by kernel_rfl) (by kernel_rfl) (fun _ _ _ h => h) (by rfl) HS1 ?_ ?_ ?_
        rotate_left 2
        · (intro w hS; have cvx := cvt_of (hs4.below hS) c; go_simp; try with_reducible rfl)
        · (go_simp; try with_reducible rfl)
        refine held_take (i := 15) (v := ?_) (a' := ?_) rfl (by kernel_rfl) (by kernel_rfl) (by kernel_rfl) (fun _ _ _ h => h) (by rfl) HS1 ?_ ?_ ?_
        rotate_left 2
        · (intro w hS; go_simp; try with_reducible rfl)
        · (go_simp; try with_reducible rfl)
        refine held_take (i := 16) (v := ?_) (a' := ?_) rfl (by kernel_rfl) (by kernel_rfl) (by kernel_rfl) (fun _ _ _ h => h) (by rfl) HS1 ?_ ?_ ?_
        rotate_left 2
        · (intro w hS; obtain ⟨q1, q2, q3⟩ := cells3_keep hS hlt4 hP4; go_simp; try with_reducible rfl)
        · (go_simp; try with_reducible rfl)
        refine held_take (i := 17) (v := ?_) (a' := ?_) rfl (by kernel_rfl) (by kernel_rfl) (by kernel_rfl) (fun _ _ _ h => h) (by rfl) HS1 ?_ ?_ ?_
        rotate_left 2
        · (intro w hS; go_simp; try with_reducible rfl)
        · (go_simp; try with_reducible rfl)
        refine held_take (i := 18) (v := ?_) (a' := ?_) rfl (by kernel_rfl) (by kernel_rfl) (by kernel_rfl) (fun _ _ _ h => h) (by rfl) HS1 ?_ ?_ ?_
        rotate_left 2
        · (intro w hS; obtain ⟨q1, q2, q3⟩ := cells3_keep hS hlt4 hP4; go_simp; try with_reducible rfl)
        · (go_simp; try with_reducible rfl)
        refine held_take (i := 19) (v := ?_) (a' := ?_) rfl (by kernel_rfl) (by kernel_rfl) (by kernel_rfl) (fun _ _ _ h => h) (by rfl) HS1 ?_ ?_ ?_
        rotate_left 2
        · (intro w hS; go_simp; try with_reducible rfl)
        · (go_simp; try with_reducible rfl)
        refine held_take (i := 20) (v := ?_) (a' := ?_) rfl (by kernel_rfl) (by kernel_rfl) (by kernel_rfl) (fun _ _ _ h => h) (by rfl) HS1 ?_ ?_ ?_
        rotate_left 2
        · (intro w hS; obtain ⟨q1, q2, q3⟩ := cells3_keep hS hlt4 hP4; go_simp; try with_reducible rfl)
        · (go_simp; try with_reducible rfl)
        refine held_ready (rs := [21]) (by kernel_rfl) (by simp) ?_
        refine AllHeld.cons rfl (fun K hK => ?_) ?_
        · go_simp
          refine (HRC.out _).mono ?_
          rintro e w6 hw6
          obtain ⟨A6, c6, rfl, hR, hb6⟩ := hw6
          have HS2 : Below w4.heap.size w4 w6 := HS1.trans (hb6.mono HS1.size)
          have hR6 := Sl.ofOwn hR
          refine hK _ _ HS2 ?_
          clear hK K
          refine held_ready (rs := [22]) (by kernel_rfl) (by simp) ?_
          refine AllHeld.cons rfl (fun K hK => ?_) ?_
          · go_simp
            refine (same_any AX A6 D.length cX D.length c6 D D _ (hX4.below HS2) hR6 (by omega) (by omega)).mono ?_
            rw [SD.out]
            rintro e w7 ⟨rfl, q7, rfl⟩
            have HS3 : Below w4.heap.size w4 (w6.drewN q7) := below_drewN HS2 q7
            refine hK _ _ HS3 ?_
            clear hK K
            refine held_take (i := 23) (v := ?_) (a' := ?_) rfl (by kernel_rfl) (by kernel_rfl) (by kernel_rfl) (fun _ _ _ h => h) (by rfl) HS3 ?_ ?_ ?_
            rotate_left 2
            · (intro w hS; go_simp; try with_reducible rfl)
            · (go_simp; try with_reducible rfl)
            refine held_take (i := 24) (v := ?_) (a' := ?_) rfl (by kernel_rfl) (by kernel_rfl) (by kernel_rfl) (fun _ _ _ h => h) (by rfl) HS3 ?_ ?_ ?_
            rotate_left 2
            · (intro w hS; go_simp; try with_reducible rfl)
            · (go_simp; try with_reducible rfl)
            refine held_take (i := 25) (v := ?_) (a' := ?_) rfl (by kernel_rfl) (by kernel_rfl) (by kernel_rfl) (fun _ _ _ h => h) (by rfl) HS3 ?_ ?_ ?_
            rotate_left 2
            · (intro w hS; go_simp; try with_reducible rfl)
            · (go_simp; try with_reducible rfl)
            refine held_take (i := 26) (v := ?_) (a' := ?_) rfl (by kernel_rfl) (by kernel_rfl) (by kernel_rfl) (fun _ _ _ h => h) (by rfl) HS3 ?_ ?_ ?_
            rotate_left 2
            · (intro w hS; go_simp; try with_reducible rfl)
            · (go_simp; try with_reducible rfl)
            refine held_ready (rs := [27]) (by kernel_rfl) (by simp) ?_
            refine AllHeld.cons rfl (fun K hK => ?_) ?_
            · go_simp
              refine (lengths_any AC D.length cC vs C _ (hsv4.below HS3) (hall4.below HS3) (by omega)).mono ?_
              rw [HM.out]
              rintro e w8 hw8
              obtain ⟨A8, c8, rfl, hL8, hb8⟩ := hw8
              have HS4 : Below w4.heap.size w4 w8 := HS3.trans (hb8.mono HS3.size)
              have hL8' := Sl.ofOwn hL8
              refine hK _ _ HS4 ?_
              clear hK K
              refine held_ready (rs := [28]) (by kernel_rfl) (by simp) ?_
              refine AllHeld.cons rfl (fun K hK => ?_) ?_
              · go_simp
                refine (same_any AX A8 D.length cX D.length c8 D D _ (hX4.below HS4) hL8' (by omega) (by omega)).mono ?_
                rw [SD.out]
                rintro e w9 ⟨rfl, q9, rfl⟩
                have HS5 : Below w4.heap.size w4 (w8.drewN q9) := below_drewN HS4 q9
                refine hK _ _ HS5 ?_
                clear hK K
                refine held_take (i := 29) (v := ?_) (a' := ?_) rfl (by kernel_rfl) (by kernel_rfl) (by kernel_rfl) (fun _ _ _ h => h) (by rfl) HS5 ?_ ?_ ?_
                rotate_left 2
                · (intro w hS; go_simp; try with_reducible rfl)
                · (go_simp; try with_reducible rfl)
                refine held_take (i := 30) (v := ?_) (a' := ?_) rfl (by kernel_rfl) (by kernel_rfl) (by kernel_rfl) (fun _ _ _ h => h) (by rfl) HS5 ?_ ?_ ?_
                rotate_left 2
                · (intro w hS; go_simp; try with_reducible rfl)
                · (go_simp; try with_reducible rfl)
                refine held_take (i := 31) (v := ?_) (a' := ?_) rfl (by kernel_rfl) (by kernel_rfl) (by kernel_rfl) (fun _ _ _ h => h) (by rfl) HS5 ?_ ?_ ?_
                rotate_left 2
                · (intro w hS; go_simp; try with_reducible rfl)
                · (go_simp; try with_reducible rfl)
                refine held_take (i := 34) (v := ?_) (a' := ?_) rfl (by kernel_rfl) (by kernel_rfl) (by kernel_rfl) (fun _ _ _ h => h) (by rfl) HS5 ?_ ?_ ?_
                rotate_left 2
                · (intro w hS; go_simp; try with_reducible rfl)
                · (go_simp; try with_reducible rfl)
                refine held_take (i := 35) (v := ?_) (a' := ?_) rfl (by kernel_rfl) (by kernel_rfl) (by kernel_rfl) (fun _ _ _ h => h) (by rfl) HS5 ?_ ?_ ?_
                rotate_left 2
                · (intro w hS; have cvx := cvt_of (hs4.below hS) c; go_simp; try with_reducible rfl)
                · (go_simp; try with_reducible rfl)
                refine held_ready (rs := [32]) (by kernel_rfl) (by simp) ?_
                refine AllHeld.cons rfl (fun K hK => ?_) ?_
                · go_simp
                  refine (join_any AC D.length cC vs C _ (hsv4.below HS5) (hall4.below HS5) (by omega) (by rw [HF.out]; omega)).mono ?_
                  rw [HF.out]
                  rintro e w10 hw10
                  obtain ⟨AJ, cJ, rfl, hJ, hb10⟩ := hw10
                  have HS6 : Below w4.heap.size w4 w10 := HS5.trans (hb10.mono HS5.size)
                  have cvj := cvt_of (Sl.ofOwn hJ) cJ
                  refine hK _ _ HS6 ?_
                  clear hK K
                  refine held_ready (rs := [33]) (by kernel_rfl) (by simp) ?_
                  refine AllHeld.cons rfl (fun K hK => ?_) ?_
                  · go_simp
                    refine hK _ _ HS6 ?_
                    clear hK K
                    refine held_take (i := 36) (v := ?_) (a' := ?_) rfl (by kernel_rfl) (by kernel_rfl) (by kernel_rfl) (fun _ _ _ h => h) (by rfl) HS6 ?_ ?_ ?_
                    rotate_left 2
                    · (intro w hS; go_simp; try with_reducible rfl)
                    · (go_simp; try with_reducible rfl)
                    refine held_take (i := 37) (v := ?_) (a' := ?_) rfl (by kernel_rfl) (by kernel_rfl) (by kernel_rfl) (fun _ _ _ h => h) (by rfl) HS6 ?_ ?_ ?_
                    rotate_left 2
                    · (intro w hS; go_simp; try with_reducible rfl)
                    · (go_simp; try with_reducible rfl)
                    refine held_take (i := 38) (v := ?_) (a' := ?_) rfl (by kernel_rfl) (by kernel_rfl) (by kernel_rfl) (fun _ _ _ h => h) (by rfl) HS6 ?_ ?_ ?_
                    rotate_left 2
                    · (intro w hS; go_simp; try with_reducible rfl)
                    · (go_simp; try with_reducible rfl)
                    refine wpAnyH_done (by kernel_rfl) ?_ _
                    go_wp2_with fail
                    go_ret
                    exact ⟨rfl, hbw4.trans (HS6.mono hbw4.size)⟩
                  exact AllHeld.nil
                exact AllHeld.nil
              exact AllHeld.nil
            exact AllHeld.nil
          exact AllHeld.nil
        exact AllHeld.nil
      exact AllHeld.nil

theorem cuts_any (A : Option Addr) (n c : Nat) (l : List UInt8) (mn mx b : Int) (w : World) (hs : Sl w 1 A n (bytesV l)) (hc : n ≤ c) (hm : c ≤ maxLen) (hn : n ≤ 1048576) (wf0 : (Lit.int .i64 mn).wf = true) (wf1 : (Lit.int .i64 mx).wf = true) (wf2 : (Lit.int .i64 b).wf = true) :
    Calls Try.prog 5 #[.slice A n c, .agg #[.int .i64 mn, .int .i64 mx, .int .i64 b]] w fun e w' => e = .returned (.bool true) ∧ Below w.heap.size w w' := by
  by_cases hw : wrongB mn mx b = true
  · exact cuts_wrong A n c l mn mx b w hs hc hn hw
  · have hw' : wrongB mn mx b = false := by simpa using hw
    by_cases h : n ≤ 3000
    · exact cuts_ok A n c l n l mn mx b w hs hc hn (.inl ⟨h, rfl, rfl⟩) hw'
    · exact cuts_ok A n c l 3000 (l.take 3000) mn mx b w hs hc hn (.inr ⟨by omega, rfl, rfl⟩) hw'
end Go.Proofs.Ytdleobdbicdmoaa
