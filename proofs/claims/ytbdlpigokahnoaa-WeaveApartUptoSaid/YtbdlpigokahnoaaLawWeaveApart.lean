/- The walk of the law WeaveApart: changes on either side of a line that nobody touched are both made. -/
import Derived.Test.YtbdlpigokahnoaaLawWeaveSides
import Derived.Test.YtbdlpigokahnoaaWeaveThree
import Derived.Test.YtbdlpigokahnoaaRegionLate
import Derived.Deep.DeepCutAuto
import Derived.Deep.CutBlock
set_option linter.unusedVariables false
namespace Go.Proofs.Ytbdlpigokahnoaa
open Go.RowKit

theorem arr_two {w : World} {cs : List Value} {x : List (List ByteArray)} (h : (arrR 2 (slR strR)).R w no cs x) (hb : bulkL strB x + 1 ≤ 1048576) :
    ∃ (A B : Option Addr) (c d : Nat) (a b : List ByteArray), cs = [.slice A a.length c, .slice B b.length d] ∧ x = [a, b] ∧ Came w A a.length c a ∧ Came w B b.length d b ∧ a.length ≤ 1048576 ∧ b.length ≤ 1048576 := by
  obtain ⟨hl, he⟩ := h
  match x, hl with
  | [a, b], _ =>
    cases he with
    | @cons cs1 vs _ _ h1 h2 =>
      cases h2 with
      | @cons cs2 vs2 _ _ h3 h4 =>
        cases h4
        obtain ⟨A, c, rfl, a1, a2, a3⟩ := h1
        obtain ⟨B, d, rfl, b1, b2, b3⟩ := h3
        simp only [bulkL] at hb
        have l1 := strB_length a
        have l2 := strB_length b
        exact ⟨A, B, c, d, a, b, rfl, rfl, ⟨a3.str, a1, a2, strB_short (k := 1048576) (by omega) (by omega)⟩, ⟨b3.str, b1, b2, strB_short (k := 1048576) (by omega) (by omega)⟩, by omega, by omega⟩
theorem short_three {a b : List ByteArray} {s : ByteArray} (ha : Short a) (hb : Short b) (hs : s.size ≤ 100000000) : Short (a ++ s :: b) := fun x hx => by
  rcases List.mem_append.1 hx with h | h
  · exact ha x h
  · rcases List.mem_cons.1 h with rfl | h
    · exact hs
    · exact hb x h
theorem len_three (a b : List ByteArray) (s : ByteArray) : (a ++ s :: b).length = a.length + b.length + 1 := by simp; omega
/-- the three lists of this law: of a size, short -/
theorem Came.three {w : World} {base : Nat} {A : Option Addr} {c : Nat} {a b : List ByteArray} {s : ByteArray} {A1 A2 : Option Addr} {n1 c1 n2 c2 : Nat} {w1 w2 : World} (h : w.ownsRow base 9 1 (.slice A (a ++ s :: b).length c) (a ++ s :: b).length (strV (a ++ s :: b))) (hc : (a ++ s :: b).length ≤ c) (hm : c ≤ maxLen)
    (ha : Came w1 A1 n1 c1 a) (hb : Came w2 A2 n2 c2 b) (hs : s.size ≤ 100000000) : Came w A (a ++ s :: b).length c (a ++ s :: b) := ⟨Sl.ofOwn h, hc, hm, short_three ha.short hb.short hs⟩

set_option maxRecDepth 100000 in
set_option maxHeartbeats 4000000 in
theorem weaveApart_any (cs0 : List Value) (x0 : List (List ByteArray)) (cs1 : List Value) (x1 : List (List ByteArray)) (s : ByteArray) (w : World) (h0 : (arrR 2 (slR strR)).R w no cs0 x0) (b0 : bulkL strB x0 + 1 ≤ 1048576) (h1 : (arrR 2 (slR strR)).R w no cs1 x1) (b1 : bulkL strB x1 + 1 ≤ 1048576) (ms : s.size ≤ maxLen) (bs : s.size ≤ 1048576) :
    Calls Try.prog 8 #[.agg cs0.toArray, .agg cs1.toArray, .string s] w fun e w' => e = .returned (.bool true) ∧ Below w.heap.size w w' := by
  obtain ⟨A0, A1, d0, d1, a0, a1, rfl, rfl, ca0, ca1, la0, la1⟩ := arr_two h0 b0
  obtain ⟨B0, B1, f0, f1, e0, e1, rfl, rfl, cb0, cb1, lb0, lb1⟩ := arr_two h1 b1
  have CA0 := Lib.hid ca0
  have CA1 := Lib.hid ca1
  have CB0 := Lib.hid cb0
  have CB1 := Lib.hid cb1
  clear h0 h1 b0 b1 ms ca0 ca1 cb0 cb1
  generalize hN0 : a0.length = n0 at *
  generalize hN1 : a1.length = n1 at *
  generalize hM0 : e0.length = m0 at *
  generalize hM1 : e1.length = m1 at *
  have HN0 := Lib.hid hN0
  have HN1 := Lib.hid hN1
  have HM0 := Lib.hid hM0
  have HM1 := Lib.hid hM1
  clear hN0 hN1 hM0 hM1
  go_enter Try.func8, Try.ntmps8
  go_wp2_with fail
  refine (awake8_any _).mono ?_
  rintro e w1 ⟨rfl, hb1⟩
  have hbx : Below w.heap.size w ((w.alloc (.cells #[.slice A0 n0 d0, .slice A1 n1 d1] 56)).alloc (.cells #[.slice B0 m0 f0, .slice B1 m1 f1] 56)) := ((Below.refl _ _).alloc (Nat.le_refl _) _).alloc (by simp) _
  have k0 := ((Blk.new w 56 #[.slice A0 n0 d0, .slice A1 n1 d1]).alloc (.cells #[.slice B0 m0 f0, .slice B1 m1 f1] 56))
  have k1 := Blk.new (w.alloc (.cells #[.slice A0 n0 d0, .slice A1 n1 d1] 56)) 56 #[.slice B0 m0 f0, .slice B1 m1 f1]
  have k0 := k0.below hb1 k0.lt
  have k1 := k1.below hb1 k1.lt
  have HB1 := Lib.hid (hbx.trans (hb1.mono hbx.size))
  have hg1 : (w.alloc (.cells #[.slice A0 n0 d0, .slice A1 n1 d1] 56)).heap.size = w.heap.size + 1 := by simp
  rw [hg1] at k1
  clear hb1 hbx hg1
  have hgw0 := k0.lt
  have hgw1 := k1.lt
  have hgw : Hid (w.heap.size ≤ w1.heap.size) := Lib.hid HB1.out.size
  have q00 := k0.cell 0
  have q01 := k0.cell 1
  have q10 := k1.cell 0
  have q11 := k1.cell 1
  have K0 := Lib.hid k0
  have K1 := Lib.hid k1
  have HW0 := Lib.hid (CA0.out.below HB1.out)
  have HW1 := Lib.hid (CA1.out.below HB1.out)
  have HV0 := Lib.hid (CB0.out.below HB1.out)
  have HV1 := Lib.hid (CB1.out.below HB1.out)
  clear k0 k1 CA0 CA1 CB0 CB1
  -- the four appends
  have hw := own_made w1 9 1 (Nat.le_refl w1.heap.size)
  have hw := (Same.drew (Same.refl (w1.alloc (.cells #[] 9)))).own hw
  have bx : Below w1.heap.size w1 (w1.alloc (.cells #[] 9)).drew := below_d1 _ _
  obtain ⟨R1, r1, w2, hrun1, hap1, p1, z1⟩ := append_sl (P := Try.prog) elemStr hw (HW0.out.sl.below bx) (strV_one a0) (by omega) (by simp only [maxLen]; omega) bx.size 23 d0
  have bx2 := bx.trans hap1.below
  obtain ⟨R2, r2, w3, hrun2, hap2, p2, z2⟩ := append_sl (P := Try.prog) elemStr hap1.own (HW1.out.sl.below bx2) (strV_one a1) (by omega) (by simp only [maxLen]; omega) bx2.size 23 d1
  have bx3 := bx2.trans hap2.below
  obtain ⟨R3, r3, w4, hrun3, hap3, p3, z3⟩ := append_sl (P := Try.prog) elemStr hap2.own (HV0.out.sl.below bx3) (strV_one e0) (by omega) (by simp only [maxLen]; omega) bx3.size 23 f0
  have bx4 := bx3.trans hap3.below
  obtain ⟨R4, r4, w5, hrun4, hap4, p4, z4⟩ := append_sl (P := Try.prog) elemStr hap3.own (HV1.out.sl.below bx4) (strV_one e1) (by omega) (by simp only [maxLen]; omega) bx4.size 23 f1
  have HB5 := Lib.hid (bx4.trans hap4.below)
  have BX1 := Lib.hid bx
  have BX2 := Lib.hid bx2
  have BX3 := Lib.hid bx3
  have BX4 := Lib.hid bx4
  rw [Nat.zero_add] at hrun1 hrun2 hrun3 hrun4
  have hall : [] ++ strV a0 ++ strV a1 ++ strV e0 ++ strV e1 = strV (a0 ++ a1 ++ e0 ++ e1) := by simp [strV]
  have hs5 := Sl.ofOwn hap4.own
  rw [hall, Nat.zero_add] at hs5
  have HS5 := Lib.hid hs5
  have HR1 := Lib.hid hrun1
  have HR2 := Lib.hid hrun2
  have HR3 := Lib.hid hrun3
  have HR4 := Lib.hid hrun4
  clear hw bx bx2 bx3 bx4 hap1 hap2 hap3 hap4 hrun1 hrun2 hrun3 hrun4 hall hs5 p1 p2 p3 z1 z2 z3
  generalize hgg : w.heap.size = g at *
  have HG := Lib.hid hgg
  clear hgg
  go_upto_region 3 with fail
  go_cut [7] (fun v wx => v = .slice R4 (n0 + n1 + m0 + m1) r4 ∧ wx = w5)
  case first =>
    refine wp_region_held (S := fun W => Below w1.heap.size w1 W) (by kernel_rfl) ?_
    change wpAnyH _ _ _ _ _ _ _ _ (World.drew _)
    refine held_take (i := 1) (v := ?_) (a' := ?_) rfl (by kernel_rfl) (by kernel_rfl) (by kernel_rfl) (fun _ _ _ h => h) (by rfl) (below_d0 _) ?_ ?_ ?_
    rotate_left 2
    · (intro w hS; go_simp; try with_reducible rfl)
    · (go_simp; try with_reducible rfl)
    refine held_take (i := 2) (v := ?_) (a' := ?_) rfl (by kernel_rfl) (by kernel_rfl) (by kernel_rfl) (fun _ _ _ h => h) (by rfl) (below_d0 _) ?_ ?_ ?_
    rotate_left 2
    · (intro w hS; have t := (hS.cell (p := ⟨g, 0, none⟩) hgw0).trans q00; go_simp; try with_reducible rfl)
    · (go_simp; try with_reducible rfl)
    refine held_take (i := 4) (v := ?_) (a' := ?_) rfl (by kernel_rfl) (by kernel_rfl) (by kernel_rfl) (fun _ _ _ h => h) (by rfl) (below_d0 _) ?_ ?_ ?_
    rotate_left 2
    · (intro w hS; go_simp; try with_reducible rfl)
    · (go_simp; try with_reducible rfl)
    refine held_take (i := 5) (v := ?_) (a' := ?_) rfl (by kernel_rfl) (by kernel_rfl) (by kernel_rfl) (fun _ _ _ h => h) (by rfl) (below_d0 _) ?_ ?_ ?_
    rotate_left 2
    · (intro w hS; have t := (hS.cell (p := ⟨g, 1, none⟩) hgw0).trans q01; go_simp; try with_reducible rfl)
    · (go_simp; try with_reducible rfl)
    refine held_take (i := 7) (v := ?_) (a' := ?_) rfl (by kernel_rfl) (by kernel_rfl) (by kernel_rfl) (fun _ _ _ h => h) (by rfl) (below_d0 _) ?_ ?_ ?_
    rotate_left 2
    · (intro w hS; go_simp; try with_reducible rfl)
    · (go_simp; try with_reducible rfl)
    refine held_take (i := 8) (v := ?_) (a' := ?_) rfl (by kernel_rfl) (by kernel_rfl) (by kernel_rfl) (fun _ _ _ h => h) (by rfl) (below_d0 _) ?_ ?_ ?_
    rotate_left 2
    · (intro w hS; have t := (hS.cell (p := ⟨g + 1, 0, none⟩) hgw1).trans q10; go_simp; try with_reducible rfl)
    · (go_simp; try with_reducible rfl)
    refine held_take (i := 10) (v := ?_) (a' := ?_) rfl (by kernel_rfl) (by kernel_rfl) (by kernel_rfl) (fun _ _ _ h => h) (by rfl) (below_d0 _) ?_ ?_ ?_
    rotate_left 2
    · (intro w hS; go_simp; try with_reducible rfl)
    · (go_simp; try with_reducible rfl)
    refine held_take (i := 11) (v := ?_) (a' := ?_) rfl (by kernel_rfl) (by kernel_rfl) (by kernel_rfl) (fun _ _ _ h => h) (by rfl) (below_d0 _) ?_ ?_ ?_
    rotate_left 2
    · (intro w hS; have t := (hS.cell (p := ⟨g + 1, 1, none⟩) hgw1).trans q11; go_simp; try with_reducible rfl)
    · (go_simp; try with_reducible rfl)
    refine held_ready (rs := [0]) (by kernel_rfl) (by simp) ?_
    refine AllHeld.cons rfl (fun KR hKR => ?_) ?_
    · go_simp
      skip
      refine hKR _ _ BX1.out ?_
      clear hKR KR
      refine held_ready (rs := [3]) (by kernel_rfl) (by simp) ?_
      refine AllHeld.cons rfl (fun KR hKR => ?_) ?_
      · refine step_run_append (by rfl) (.tmp 16) (.tmp 18) (by rfl) (by rfl) (by rfl) HR1.out ?_
        refine hKR _ _ BX2.out ?_
        clear hKR KR
        refine held_ready (rs := [6]) (by kernel_rfl) (by simp) ?_
        refine AllHeld.cons rfl (fun KR hKR => ?_) ?_
        · refine step_run_append (by rfl) (.tmp 19) (.tmp 21) (by rfl) (by rfl) (by rfl) HR2.out ?_
          refine hKR _ _ BX3.out ?_
          clear hKR KR
          refine held_ready (rs := [9]) (by kernel_rfl) (by simp) ?_
          refine AllHeld.cons rfl (fun KR hKR => ?_) ?_
          · refine step_run_append (by rfl) (.tmp 22) (.tmp 24) (by rfl) (by rfl) (by rfl) HR3.out ?_
            refine hKR _ _ BX4.out ?_
            clear hKR KR
            refine held_ready (rs := [12]) (by kernel_rfl) (by simp) ?_
            refine AllHeld.cons rfl (fun KR hKR => ?_) ?_
            · refine step_run_append (by rfl) (.tmp 25) (.tmp 27) (by rfl) (by rfl) (by rfl) HR4.out ?_
              refine hKR _ _ HB5.out ?_
              clear hKR KR
              refine held_take (i := 13) (v := ?_) (a' := ?_) rfl (by kernel_rfl) (by kernel_rfl) (by kernel_rfl) (fun _ _ _ h => h) (by rfl) HB5.out ?_ ?_ ?_
              rotate_left 2
              · (intro w hS; go_simp; try with_reducible rfl)
              · (go_simp; try with_reducible rfl)
              refine wpAnyH_done (by kernel_rfl) ?_ _
              go_wp2_with fail
              go_meet
              case rel => exact ⟨rfl, rfl⟩
            exact AllHeld.nil
          exact AllHeld.nil
        exact AllHeld.nil
      exact AllHeld.nil
    exact AllHeld.nil
  case rest =>
    obtain ⟨rfl, rfl⟩ := hcut
    have hlen : (a0 ++ a1 ++ e0 ++ e1).length = n0 + n1 + m0 + m1 := by
      rw [List.length_append, List.length_append, List.length_append, HN0.out, HN1.out, HM0.out, HM1.out]
    have HLEN := Lib.hid hlen
    have HMEM := Lib.hid (show ∀ x : ByteArray, x ∉ a0 ++ a1 ++ e0 ++ e1 → x ∉ a0 ∧ x ∉ a1 from fun x h => ⟨fun h' => h (by simp [h']), fun h' => h (by simp [h'])⟩)
    have hN : n0 + n1 + m0 + m1 ≤ 4194304 := by omega
    clear hlen q00 q01 q10 q11 HR1 HR2 HR3 HR4 BX1 BX2 BX3 BX4
    have HW0 := Lib.hid (HW0.out.below HB5.out)
    have HW1 := Lib.hid (HW1.out.below HB5.out)
    have HV0 := Lib.hid (HV0.out.below HB5.out)
    have HV1 := Lib.hid (HV1.out.below HB5.out)
    have k0 := K0.out.below HB5.out K0.out.lt
    have k1 := K1.out.below HB5.out K1.out.lt
    have q00 := k0.cell 0
    have q01 := k0.cell 1
    have q10 := k1.cell 0
    have q11 := k1.cell 1
    have hg0 := k0.lt
    have hg1 := k1.lt
    have HBW := Lib.hid (HB1.out.trans (HB5.out.mono hgw.out))
    clear k0 k1 K0 K1 HB1 HB5 hgw hgw0 hgw1
    generalize hall : a0 ++ a1 ++ e0 ++ e1 = all at *
    have HALL := Lib.hid hall
    clear hall
    generalize hL : n0 + n1 + m0 + m1 = L at *
    have HL := Lib.hid hL
    clear hL
    go_wp2_with fail
    go_loopw [31] (fun i wr => ∃ K : Nat, i = .int .i64 K ∧ K ≤ L ∧ wr = wc ∧ Hid (s ∉ all.take K)) (fun i _ => L - (intOf i).toNat)
    case atStart => exact ⟨0, rfl, Nat.zero_le _, rfl, Lib.hid (by simp)⟩
    case round =>
      obtain ⟨K, rfl, hK, rfl, HNO⟩ := hrel
      by_cases hlt : K < L
      · obtain ⟨bt, ot, x, rfl, hbt, hcs, hx⟩ := strV_look HS5.out hlt
        have hlt' : (K : Int) < (L : Int) := by omega
        have hk1 : IntKind.i64.wrap ((K : Int) + 1) = (K : Int) + 1 := IntWalk.i64_in _ (by omega)
        by_cases he : x = s
        · subst he
          have t1 : (x.toList == x.toList) = true := str_eq x
          clear hx q00 q01 q10 q11
          go_wp2_with fail
          go_ret
          exact ⟨rfl, by rw [HG.out]; exact HBW.out⟩
        · have t1 := str_ne he
          have HX := Lib.hid (show s ∉ all.take (K + 1) by
            rw [List.take_add_one, hx]
            intro h
            rcases List.mem_append.1 h with h | h
            · exact HNO.out h
            · simp at h; exact he h.symm)
          clear hx he q00 q01 q10 q11
          go_wp2_with fail
          go_roundw
          case rel => exact ⟨K + 1, by go_num, by omega, trivial, HX⟩
          case measure => simp [intOf]; omega
      · obtain rfl : K = L := by omega
        have hno := HNO.out
        rw [List.take_of_length_le (by rw [HLEN.out]; exact Nat.le_refl _)] at hno
        obtain ⟨hno0, hno1⟩ := HMEM.out s hno
        have HAP := Lib.hid (merge_apart (b0 := e0) (b1 := e1) hno0 hno1 kl kr)
        clear hno hno0 hno1 HMEM HNO HALL
        by_cases h300 : 300 < K
        · have h3' : (300 : Int) < (K : Int) := by omega
          clear q00 q01 q10 q11
          go_wp2_with fail
          go_ret
          exact ⟨rfl, by rw [HG.out]; exact HBW.out⟩
        · have h3' : ¬ (300 : Int) < (K : Int) := by omega
          have l0 : n0 ≤ 300 := by have := HL.out; omega
          have l1 : n1 ≤ 300 := by have := HL.out; omega
          have l2 : m0 ≤ 300 := by have := HL.out; omega
          have l3 : m1 ≤ 300 := by have := HL.out; omega
          have z1 := len_three a0 e0 s
          have z2 := len_three a1 e0 s
          have z3 := len_three a0 e1 s
          have z4 := len_three a1 e1 s
          rw [HN0.out, HM0.out] at z1
          rw [HN1.out, HM0.out] at z2
          rw [HN0.out, HM1.out] at z3
          rw [HN1.out, HM1.out] at z4
          go_upto_region 12 with fail
          go_cut [10, 11] (fun v u wx => ∃ (P : Option Addr) (k cP : Nat) (base : Nat), v = .slice P k cP ∧ u = .int .i64 0 ∧ Hid (OwnPts wx base 38 P k cP (mergeG (a0 ++ s :: e0) (a1 ++ s :: e0) (a0 ++ s :: e1))) ∧ Below wr.heap.size wr wx)
          case first =>
            clear z4 HAP
            refine wp_region_held (S := fun W => Below wr.heap.size wr W) (by kernel_rfl) ?_
            change wpAnyH _ _ _ _ _ _ _ _ (World.drew _)
            refine held_take (i := 0) (v := ?_) (a' := ?_) rfl (by kernel_rfl) (by kernel_rfl) (by kernel_rfl) (fun _ _ _ h => h) (by rfl) (below_d0 _) ?_ ?_ ?_
            rotate_left 2
            · (intro w hS; go_simp; try with_reducible rfl)
            · (go_simp; try with_reducible rfl)
            refine held_take (i := 1) (v := ?_) (a' := ?_) rfl (by kernel_rfl) (by kernel_rfl) (by kernel_rfl) (fun _ _ _ h => h) (by rfl) (below_d0 _) ?_ ?_ ?_
            rotate_left 2
            · (intro w hS; have t := (hS.cell (p := ⟨g, 0, none⟩) hg0).trans q00; go_simp; try with_reducible rfl)
            · (go_simp; try with_reducible rfl)
            refine held_take (i := 2) (v := ?_) (a' := ?_) rfl (by kernel_rfl) (by kernel_rfl) (by kernel_rfl) (fun _ _ _ h => h) (by rfl) (below_d0 _) ?_ ?_ ?_
            rotate_left 2
            · (intro w hS; go_simp; try with_reducible rfl)
            · (go_simp; try with_reducible rfl)
            refine held_take (i := 3) (v := ?_) (a' := ?_) rfl (by kernel_rfl) (by kernel_rfl) (by kernel_rfl) (fun _ _ _ h => h) (by rfl) (below_d0 _) ?_ ?_ ?_
            rotate_left 2
            · (intro w hS; go_simp; try with_reducible rfl)
            · (go_simp; try with_reducible rfl)
            refine held_take (i := 4) (v := ?_) (a' := ?_) rfl (by kernel_rfl) (by kernel_rfl) (by kernel_rfl) (fun _ _ _ h => h) (by rfl) (below_d0 _) ?_ ?_ ?_
            rotate_left 2
            · (intro w hS; have t := (hS.cell (p := ⟨g + 1, 0, none⟩) hg1).trans q10; go_simp; try with_reducible rfl)
            · (go_simp; try with_reducible rfl)
            refine held_take (i := 6) (v := ?_) (a' := ?_) rfl (by kernel_rfl) (by kernel_rfl) (by kernel_rfl) (fun _ _ _ h => h) (by rfl) (below_d0 _) ?_ ?_ ?_
            rotate_left 2
            · (intro w hS; go_simp; try with_reducible rfl)
            · (go_simp; try with_reducible rfl)
            refine held_take (i := 7) (v := ?_) (a' := ?_) rfl (by kernel_rfl) (by kernel_rfl) (by kernel_rfl) (fun _ _ _ h => h) (by rfl) (below_d0 _) ?_ ?_ ?_
            rotate_left 2
            · (intro w hS; have t := (hS.cell (p := ⟨g, 1, none⟩) hg0).trans q01; go_simp; try with_reducible rfl)
            · (go_simp; try with_reducible rfl)
            refine held_take (i := 8) (v := ?_) (a' := ?_) rfl (by kernel_rfl) (by kernel_rfl) (by kernel_rfl) (fun _ _ _ h => h) (by rfl) (below_d0 _) ?_ ?_ ?_
            rotate_left 2
            · (intro w hS; go_simp; try with_reducible rfl)
            · (go_simp; try with_reducible rfl)
            refine held_take (i := 9) (v := ?_) (a' := ?_) rfl (by kernel_rfl) (by kernel_rfl) (by kernel_rfl) (fun _ _ _ h => h) (by rfl) (below_d0 _) ?_ ?_ ?_
            rotate_left 2
            · (intro w hS; go_simp; try with_reducible rfl)
            · (go_simp; try with_reducible rfl)
            refine held_take (i := 10) (v := ?_) (a' := ?_) rfl (by kernel_rfl) (by kernel_rfl) (by kernel_rfl) (fun _ _ _ h => h) (by rfl) (below_d0 _) ?_ ?_ ?_
            rotate_left 2
            · (intro w hS; have t := (hS.cell (p := ⟨g + 1, 0, none⟩) hg1).trans q10; go_simp; try with_reducible rfl)
            · (go_simp; try with_reducible rfl)
            refine held_take (i := 12) (v := ?_) (a' := ?_) rfl (by kernel_rfl) (by kernel_rfl) (by kernel_rfl) (fun _ _ _ h => h) (by rfl) (below_d0 _) ?_ ?_ ?_
            rotate_left 2
            · (intro w hS; go_simp; try with_reducible rfl)
            · (go_simp; try with_reducible rfl)
            refine held_take (i := 13) (v := ?_) (a' := ?_) rfl (by kernel_rfl) (by kernel_rfl) (by kernel_rfl) (fun _ _ _ h => h) (by rfl) (below_d0 _) ?_ ?_ ?_
            rotate_left 2
            · (intro w hS; have t := (hS.cell (p := ⟨g, 0, none⟩) hg0).trans q00; go_simp; try with_reducible rfl)
            · (go_simp; try with_reducible rfl)
            refine held_take (i := 14) (v := ?_) (a' := ?_) rfl (by kernel_rfl) (by kernel_rfl) (by kernel_rfl) (fun _ _ _ h => h) (by rfl) (below_d0 _) ?_ ?_ ?_
            rotate_left 2
            · (intro w hS; go_simp; try with_reducible rfl)
            · (go_simp; try with_reducible rfl)
            refine held_take (i := 15) (v := ?_) (a' := ?_) rfl (by kernel_rfl) (by kernel_rfl) (by kernel_rfl) (fun _ _ _ h => h) (by rfl) (below_d0 _) ?_ ?_ ?_
            rotate_left 2
            · (intro w hS; go_simp; try with_reducible rfl)
            · (go_simp; try with_reducible rfl)
            refine held_take (i := 16) (v := ?_) (a' := ?_) rfl (by kernel_rfl) (by kernel_rfl) (by kernel_rfl) (fun _ _ _ h => h) (by rfl) (below_d0 _) ?_ ?_ ?_
            rotate_left 2
            · (intro w hS; have t := (hS.cell (p := ⟨g + 1, 1, none⟩) hg1).trans q11; go_simp; try with_reducible rfl)
            · (go_simp; try with_reducible rfl)
            refine held_ready (rs := [5]) (by kernel_rfl) (by simp) ?_
            refine AllHeld.cons rfl (fun KR hKR => ?_) ?_
            · go_simp
              refine (three_any A0 B0 n0 d0 m0 f0 a0 e0 s _ (HW0.out.sl.below (below_d0 _)) (HV0.out.sl.below (below_d0 _)) (by omega) (by omega)).mono ?_
              rintro e w6 ⟨Q6, c6, rfl, ho, u6, v6, hb⟩
              have B6 := Lib.hid ((below_d0 wr).trans hb)
              have D6 := Lib.hid (Came.three ho u6 v6 HW0.out HV0.out (by omega))
              clear ho hb u6 v6
              rw [z1] at D6 ⊢
              refine hKR _ _ B6.out ?_
              clear hKR KR
              refine held_ready (rs := [11]) (by kernel_rfl) (by simp) ?_
              refine AllHeld.cons rfl (fun KR hKR => ?_) ?_
              · go_simp
                refine (three_any A1 B0 n1 d1 m0 f0 a1 e0 s _ (HW1.out.sl.below B6.out) (HV0.out.sl.below B6.out) (by omega) (by omega)).mono ?_
                rintro e w7 ⟨Q7, c7, rfl, ho, u7, v7, hb⟩
                have B7 := Lib.hid (B6.out.trans (hb.mono B6.out.size))
                have E7 := Lib.hid (D6.out.below hb)
                have D7 := Lib.hid (Came.three ho u7 v7 HW1.out HV0.out (by omega))
                clear ho hb u7 v7
                rw [z2] at D7 ⊢
                refine hKR _ _ B7.out ?_
                clear hKR KR
                refine held_ready (rs := [17]) (by kernel_rfl) (by simp) ?_
                refine AllHeld.cons rfl (fun KR hKR => ?_) ?_
                · go_simp
                  refine (three_any A0 B1 n0 d0 m1 f1 a0 e1 s _ (HW0.out.sl.below B7.out) (HV1.out.sl.below B7.out) (by omega) (by omega)).mono ?_
                  rintro e w8 ⟨Q8, c8, rfl, ho, u8, v8, hb⟩
                  have B8 := Lib.hid (B7.out.trans (hb.mono B7.out.size))
                  have E8 := Lib.hid (E7.out.below hb)
                  have F8 := Lib.hid (D7.out.below hb)
                  have D8 := Lib.hid (Came.three ho u8 v8 HW0.out HV1.out (by omega))
                  clear ho hb u8 v8
                  rw [z3] at D8 ⊢
                  refine hKR _ _ B8.out ?_
                  clear hKR KR
                  refine held_ready (rs := [18]) (by kernel_rfl) (by simp) ?_
                  refine AllHeld.cons rfl (fun KR hKR => ?_) ?_
                  · go_simp
                    refine (mergeC_any E8.out F8.out D8.out (by omega) (by omega) (by omega)).mono ?_
                    rintro e w9 ⟨P, k, cP, rfl, ho, hb⟩
                    have B9 := Lib.hid (B8.out.trans (hb.mono B8.out.size))
                    have HO9 := Lib.hid ho
                    clear ho hb
                    refine hKR _ _ B9.out ?_
                    clear hKR KR
                    refine held_take (i := 19) (v := ?_) (a' := ?_) rfl (by kernel_rfl) (by kernel_rfl) (by kernel_rfl) (fun _ _ _ h => h) (by rfl) B9.out ?_ ?_ ?_
                    rotate_left 2
                    · (intro w hS; go_simp; try with_reducible rfl)
                    · (go_simp; try with_reducible rfl)
                    refine held_take (i := 20) (v := ?_) (a' := ?_) rfl (by kernel_rfl) (by kernel_rfl) (by kernel_rfl) (fun _ _ _ h => h) (by rfl) B9.out ?_ ?_ ?_
                    rotate_left 2
                    · (intro w hS; go_simp; try with_reducible rfl)
                    · (go_simp; try with_reducible rfl)
                    refine held_take (i := 21) (v := ?_) (a' := ?_) rfl (by kernel_rfl) (by kernel_rfl) (by kernel_rfl) (fun _ _ _ h => h) (by rfl) B9.out ?_ ?_ ?_
                    rotate_left 2
                    · (intro w hS; go_simp; try with_reducible rfl)
                    · (go_simp; try with_reducible rfl)
                    refine held_take (i := 22) (v := ?_) (a' := ?_) rfl (by kernel_rfl) (by kernel_rfl) (by kernel_rfl) (fun _ _ _ h => h) (by rfl) B9.out ?_ ?_ ?_
                    rotate_left 2
                    · (intro w hS; go_simp; try with_reducible rfl)
                    · (go_simp; try with_reducible rfl)
                    refine held_take (i := 23) (v := ?_) (a' := ?_) rfl (by kernel_rfl) (by kernel_rfl) (by kernel_rfl) (fun _ _ _ h => h) (by rfl) B9.out ?_ ?_ ?_
                    rotate_left 2
                    · (intro w hS; go_simp; try with_reducible rfl)
                    · (go_simp; try with_reducible rfl)
                    refine wpAnyH_done (by kernel_rfl) ?_ _
                    go_wp2_with fail
                    go_meet
                    case rel => exact ⟨P, k, cP, _, rfl, rfl, HO9, B9.out⟩
                  exact AllHeld.nil
                exact AllHeld.nil
              exact AllHeld.nil
            exact AllHeld.nil
          case rest =>
            obtain ⟨P, k, cP, base, rfl, rfl, HO, hbx⟩ := hcut
            have HBX := Lib.hid hbx
            clear hbx
            go_wp2_with fail
            refine (textOf_any P k cP base _ _ _ kl kr _ HO.out (by omega) (by omega) (by omega) (short_three HW0.out.short HV0.out.short (by omega)) (short_three HW1.out.short HV0.out.short (by omega)) (short_three HW0.out.short HV1.out.short (by omega)) (by decide) (by decide)).mono ?_
            rw [HAP.out.1, HAP.out.2]
            rintro e w6 ⟨A6, c6, rfl, ho6, t1, t2, t3, hb6⟩
            have HB6 := Lib.hid (HBX.out.trans (hb6.mono HBX.out.size))
            have HS6 := Lib.hid (Sl.ofOwn ho6)
            rw [z4] at HS6 t1
            rw [z4]
            have y01 := (HB6.out.cell (p := ⟨g, 1, none⟩) hg0).trans q01
            have y11 := (HB6.out.cell (p := ⟨g + 1, 1, none⟩) hg1).trans q11
            clear ho6 hb6 HO q00 q01 q10 q11 HAP
            go_wp2_with fail
            refine (three_any A1 B1 n1 d1 m1 f1 a1 e1 s _ (HW1.out.sl.below HB6.out) (HV1.out.sl.below HB6.out) (by omega) (by omega)).mono ?_
            rintro e w7 ⟨Q7, c7, rfl, ho, u7, v7, hb⟩
            have B7 := Lib.hid (HB6.out.trans (hb.mono HB6.out.size))
            have HS7 := Lib.hid (HS6.out.below hb)
            have HT7 := Lib.hid (Sl.ofOwn ho)
            rw [z4] at HT7
            rw [z4]
            clear ho hb
            go_wp2_with fail
            refine (refSame_any A6 Q7 _ c6 _ c7 _ _ w7 HS7.out HT7.out (by omega) (by omega)).mono ?_
            rintro e w8 ⟨rfl, s8⟩
            rw [sameS_self]
            go_wp2_with fail
            go_ret
            exact ⟨rfl, by rw [HG.out]; exact HBW.out.trans ((B7.out.trans (s8.below _)).mono (by rw [← HG.out]; exact HBW.out.size))⟩
end Go.Proofs.Ytbdlpigokahnoaa
