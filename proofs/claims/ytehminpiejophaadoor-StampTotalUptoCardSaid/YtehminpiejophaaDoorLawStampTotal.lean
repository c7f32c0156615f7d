/- StampTotal: the order is one of all numbers. -/
import Derived.Test.YtehminpiejophaaDoorStampAwake
set_option linter.unusedVariables false
set_option linter.unusedSimpArgs false
namespace Go.Proofs.YtehminpiejophaaDoor
open Go.RowKit

theorem cmp_cases (a b : Nat) : (keyB a < keyB b ∧ cmpB a b = -1) ∨ (keyB a = keyB b ∧ cmpB a b = 0) ∨ (keyB b < keyB a ∧ cmpB a b = 1) := by
  unfold cmpB
  rcases Nat.lt_trichotomy (keyB a) (keyB b) with h | h | h
  · left; exact ⟨h, if_pos h⟩
  · right; left; exact ⟨h, by rw [if_neg (by omega), if_neg (by omega)]⟩
  · right; right; exact ⟨h, by rw [if_neg (by omega), if_pos h]⟩

set_option maxRecDepth 100000 in
set_option maxHeartbeats 4000000 in
theorem total_walk (a b c ca cb ka kb : Nat) (x y z nx : Int) (q1 q2 : Bool) (W0 : World) (HA : Calls Tryd.prog 9 #[] W0 fun e w' => e = .returned (.bool true) ∧ Below W0.heap.size W0 w')
    (H1 : ∀ w, Calls Tryd.prog 13 #[.float .f64 a, .float .f64 b] w fun e w' => e = .returned (.int .i64 x) ∧ Below w.heap.size w w')
    (H2 : ∀ w, Calls Tryd.prog 13 #[.float .f64 b, .float .f64 c] w fun e w' => e = .returned (.int .i64 y) ∧ Below w.heap.size w w')
    (H3 : ∀ w, Calls Tryd.prog 13 #[.float .f64 a, .float .f64 c] w fun e w' => e = .returned (.int .i64 z) ∧ Below w.heap.size w w')
    (H4 : ∀ w, Calls Tryd.prog 13 #[.float .f64 b, .float .f64 a] w fun e w' => e = .returned (.int .i64 nx) ∧ Below w.heap.size w w')
    (H5 : ∀ w, Calls Tryd.prog 15 #[.float .f64 a] w fun e w' => e = .returned (.float .f64 ca) ∧ Below w.heap.size w w')
    (H6 : ∀ w, Calls Tryd.prog 15 #[.float .f64 b] w fun e w' => e = .returned (.float .f64 cb) ∧ Below w.heap.size w w')
    (H7 : ∀ w, Calls Tryd.prog 11 #[.float .f64 a] w fun e w' => e = .returned (.int .u64 (ka : Int)) ∧ Below w.heap.size w w')
    (H8 : ∀ w, Calls Tryd.prog 11 #[.float .f64 b] w fun e w' => e = .returned (.int .u64 (kb : Int)) ∧ Below w.heap.size w w')
    (hq1 : (FloatKind.f64.format.order a b == some .lt) = q1) (hq2 : (FloatKind.f64.format.order a b == some .gt) = q2) (hnx : nx = -x)
    (hxyz : (x = -1 ∧ y = -1 ∧ z = -1) ∨ (x = -1 ∧ y = 0 ∧ z = -1) ∨ (x = -1 ∧ y = 1 ∧ z = -1) ∨ (x = -1 ∧ y = 1 ∧ z = 0) ∨ (x = -1 ∧ y = 1 ∧ z = 1) ∨ (x = 0 ∧ y = -1 ∧ z = -1) ∨ (x = 0 ∧ y = 0 ∧ z = 0) ∨ (x = 0 ∧ y = 1 ∧ z = 1) ∨
      (x = 1 ∧ y = -1 ∧ z = -1) ∨ (x = 1 ∧ y = -1 ∧ z = 0) ∨ (x = 1 ∧ y = -1 ∧ z = 1) ∨ (x = 1 ∧ y = 0 ∧ z = 1) ∨ (x = 1 ∧ y = 1 ∧ z = 1))
    (hl : q1 = true → x = -1) (hg : q2 = true → x = 1) (he : x = 0 → ca = cb ∧ ka = kb) (hn : x ≠ 0 → ca ≠ cb ∧ ka ≠ kb) :
    Calls Tryd.prog 6 #[.float .f64 a, .float .f64 b, .float .f64 c] W0 fun e w' => e = .returned (.bool true) ∧ Below W0.heap.size W0 w' := by
  have hf := ext_bits
  have HA := Lib.hid HA
  have H1 := Lib.hid H1
  have H2 := Lib.hid H2
  have H3 := Lib.hid H3
  have H4 := Lib.hid H4
  have H5 := Lib.hid H5
  have H6 := Lib.hid H6
  have H7 := Lib.hid H7
  have H8 := Lib.hid H8
  have hshape : (x = -1 ∧ q2 = false ∧ ca ≠ cb ∧ ka ≠ kb ∧ nx = 1) ∨ (x = 0 ∧ q1 = false ∧ q2 = false ∧ ca = cb ∧ ka = kb ∧ nx = 0) ∨ (x = 1 ∧ q1 = false ∧ ca ≠ cb ∧ ka ≠ kb ∧ nx = -1) := by
    have hx : x = -1 ∨ x = 0 ∨ x = 1 := by omega
    rcases hx with h | h | h
    · left
      refine ⟨h, ?_, (hn (by omega)).1, (hn (by omega)).2, by omega⟩
      cases q2 with
      | false => rfl
      | true => have := hg rfl; omega
    · right; left
      refine ⟨h, ?_, ?_, (he h).1, (he h).2, by omega⟩
      · cases q1 with
        | false => rfl
        | true => have := hl rfl; omega
      · cases q2 with
        | false => rfl
        | true => have := hg rfl; omega
    · right; right
      refine ⟨h, ?_, (hn (by omega)).1, (hn (by omega)).2, by omega⟩
      cases q1 with
      | false => rfl
      | true => have := hl rfl; omega
  clear hl hg he hn hnx
  rcases hshape with ⟨rfl, rfl, hc, hk, rfl⟩ | ⟨rfl, rfl, rfl, rfl, rfl, rfl⟩ | ⟨rfl, rfl, hc, hk, rfl⟩
  · have hci : ((ca : Int) == (cb : Int)) = false := by rw [beq_eq_false_iff_ne]; omega
    have hki : ((ka : Int) == (kb : Int)) = false := by rw [beq_eq_false_iff_ne]; omega
    clear hc hk
    cases q1
    all_goals (rcases hxyz with ⟨h1, rfl, rfl⟩ | ⟨h1, rfl, rfl⟩ | ⟨h1, rfl, rfl⟩ | ⟨h1, rfl, rfl⟩ | ⟨h1, rfl, rfl⟩ | ⟨h1, rfl, rfl⟩ | ⟨h1, rfl, rfl⟩ | ⟨h1, rfl, rfl⟩ | ⟨h1, rfl, rfl⟩ | ⟨h1, rfl, rfl⟩ | ⟨h1, rfl, rfl⟩ | ⟨h1, rfl, rfl⟩ | ⟨h1, rfl, rfl⟩)
    all_goals (first | (exact absurd h1 (by decide)) | skip)
    all_goals clear h1
    all_goals
      go_enter Tryd.func6, Tryd.ntmps6
      go_wp2_with fail
      refine HA.out.mono ?_
      rintro e w1 ⟨rfl, h1⟩
      have HB1 := Lib.hid h1
      clear h1
      go_wp2_with fail
      refine (H1.out _).mono ?_
      rintro e w2 ⟨rfl, h1⟩
      have HB2 := Lib.hid (HB1.out.trans (h1.mono HB1.out.size))
      clear h1
      go_wp2_with fail
      refine (H2.out _).mono ?_
      rintro e w3 ⟨rfl, h1⟩
      have HB3 := Lib.hid (HB2.out.trans (h1.mono HB2.out.size))
      clear h1
      go_wp2_with fail
      refine (H3.out _).mono ?_
      rintro e w4 ⟨rfl, h1⟩
      have HB4 := Lib.hid (HB3.out.trans (h1.mono HB3.out.size))
      clear h1
      go_wp2_with fail
      refine (H4.out _).mono ?_
      rintro e w5 ⟨rfl, h1⟩
      have HB5 := Lib.hid (HB4.out.trans (h1.mono HB4.out.size))
      clear h1
      go_wp2_with fail
      refine (H5.out _).mono ?_
      rintro e w6 ⟨rfl, h1⟩
      have HB6 := Lib.hid (HB5.out.trans (h1.mono HB5.out.size))
      clear h1
      go_wp2_with fail
      refine (H6.out _).mono ?_
      rintro e w7 ⟨rfl, h1⟩
      have HB7 := Lib.hid (HB6.out.trans (h1.mono HB6.out.size))
      clear h1
      go_wp2_with fail
      refine (H7.out _).mono ?_
      rintro e w8 ⟨rfl, h1⟩
      have HB8 := Lib.hid (HB7.out.trans (h1.mono HB7.out.size))
      clear h1
      go_wp2_with fail
      refine (H8.out _).mono ?_
      rintro e w9 ⟨rfl, h1⟩
      have HB9 := Lib.hid (HB8.out.trans (h1.mono HB8.out.size))
      clear h1
      go_wp2_with fail
      go_ret
      exact ⟨rfl, HB9.out⟩
  · all_goals (rcases hxyz with ⟨h1, rfl, rfl⟩ | ⟨h1, rfl, rfl⟩ | ⟨h1, rfl, rfl⟩ | ⟨h1, rfl, rfl⟩ | ⟨h1, rfl, rfl⟩ | ⟨h1, rfl, rfl⟩ | ⟨h1, rfl, rfl⟩ | ⟨h1, rfl, rfl⟩ | ⟨h1, rfl, rfl⟩ | ⟨h1, rfl, rfl⟩ | ⟨h1, rfl, rfl⟩ | ⟨h1, rfl, rfl⟩ | ⟨h1, rfl, rfl⟩)
    all_goals (first | (exact absurd h1 (by decide)) | skip)
    all_goals clear h1
    all_goals
      go_enter Tryd.func6, Tryd.ntmps6
      go_wp2_with fail
      refine HA.out.mono ?_
      rintro e w1 ⟨rfl, h1⟩
      have HB1 := Lib.hid h1
      clear h1
      go_wp2_with fail
      refine (H1.out _).mono ?_
      rintro e w2 ⟨rfl, h1⟩
      have HB2 := Lib.hid (HB1.out.trans (h1.mono HB1.out.size))
      clear h1
      go_wp2_with fail
      refine (H2.out _).mono ?_
      rintro e w3 ⟨rfl, h1⟩
      have HB3 := Lib.hid (HB2.out.trans (h1.mono HB2.out.size))
      clear h1
      go_wp2_with fail
      refine (H3.out _).mono ?_
      rintro e w4 ⟨rfl, h1⟩
      have HB4 := Lib.hid (HB3.out.trans (h1.mono HB3.out.size))
      clear h1
      go_wp2_with fail
      refine (H4.out _).mono ?_
      rintro e w5 ⟨rfl, h1⟩
      have HB5 := Lib.hid (HB4.out.trans (h1.mono HB4.out.size))
      clear h1
      go_wp2_with fail
      refine (H5.out _).mono ?_
      rintro e w6 ⟨rfl, h1⟩
      have HB6 := Lib.hid (HB5.out.trans (h1.mono HB5.out.size))
      clear h1
      go_wp2_with fail
      refine (H6.out _).mono ?_
      rintro e w7 ⟨rfl, h1⟩
      have HB7 := Lib.hid (HB6.out.trans (h1.mono HB6.out.size))
      clear h1
      go_wp2_with fail
      refine (H7.out _).mono ?_
      rintro e w8 ⟨rfl, h1⟩
      have HB8 := Lib.hid (HB7.out.trans (h1.mono HB7.out.size))
      clear h1
      go_wp2_with fail
      refine (H8.out _).mono ?_
      rintro e w9 ⟨rfl, h1⟩
      have HB9 := Lib.hid (HB8.out.trans (h1.mono HB8.out.size))
      clear h1
      go_wp2_with fail
      go_ret
      exact ⟨rfl, HB9.out⟩
  · have hci : ((ca : Int) == (cb : Int)) = false := by rw [beq_eq_false_iff_ne]; omega
    have hki : ((ka : Int) == (kb : Int)) = false := by rw [beq_eq_false_iff_ne]; omega
    clear hc hk
    cases q2
    all_goals (rcases hxyz with ⟨h1, rfl, rfl⟩ | ⟨h1, rfl, rfl⟩ | ⟨h1, rfl, rfl⟩ | ⟨h1, rfl, rfl⟩ | ⟨h1, rfl, rfl⟩ | ⟨h1, rfl, rfl⟩ | ⟨h1, rfl, rfl⟩ | ⟨h1, rfl, rfl⟩ | ⟨h1, rfl, rfl⟩ | ⟨h1, rfl, rfl⟩ | ⟨h1, rfl, rfl⟩ | ⟨h1, rfl, rfl⟩ | ⟨h1, rfl, rfl⟩)
    all_goals (first | (exact absurd h1 (by decide)) | skip)
    all_goals clear h1
    all_goals
      go_enter Tryd.func6, Tryd.ntmps6
      go_wp2_with fail
      refine HA.out.mono ?_
      rintro e w1 ⟨rfl, h1⟩
      have HB1 := Lib.hid h1
      clear h1
      go_wp2_with fail
      refine (H1.out _).mono ?_
      rintro e w2 ⟨rfl, h1⟩
      have HB2 := Lib.hid (HB1.out.trans (h1.mono HB1.out.size))
      clear h1
      go_wp2_with fail
      refine (H2.out _).mono ?_
      rintro e w3 ⟨rfl, h1⟩
      have HB3 := Lib.hid (HB2.out.trans (h1.mono HB2.out.size))
      clear h1
      go_wp2_with fail
      refine (H3.out _).mono ?_
      rintro e w4 ⟨rfl, h1⟩
      have HB4 := Lib.hid (HB3.out.trans (h1.mono HB3.out.size))
      clear h1
      go_wp2_with fail
      refine (H4.out _).mono ?_
      rintro e w5 ⟨rfl, h1⟩
      have HB5 := Lib.hid (HB4.out.trans (h1.mono HB4.out.size))
      clear h1
      go_wp2_with fail
      refine (H5.out _).mono ?_
      rintro e w6 ⟨rfl, h1⟩
      have HB6 := Lib.hid (HB5.out.trans (h1.mono HB5.out.size))
      clear h1
      go_wp2_with fail
      refine (H6.out _).mono ?_
      rintro e w7 ⟨rfl, h1⟩
      have HB7 := Lib.hid (HB6.out.trans (h1.mono HB6.out.size))
      clear h1
      go_wp2_with fail
      refine (H7.out _).mono ?_
      rintro e w8 ⟨rfl, h1⟩
      have HB8 := Lib.hid (HB7.out.trans (h1.mono HB7.out.size))
      clear h1
      go_wp2_with fail
      refine (H8.out _).mono ?_
      rintro e w9 ⟨rfl, h1⟩
      have HB9 := Lib.hid (HB8.out.trans (h1.mono HB8.out.size))
      clear h1
      go_wp2_with fail
      go_ret
      exact ⟨rfl, HB9.out⟩

theorem three {x y z : Int} {ka kb kc : Nat} (h1 : (ka < kb ∧ x = -1) ∨ (ka = kb ∧ x = 0) ∨ (kb < ka ∧ x = 1)) (h2 : (kb < kc ∧ y = -1) ∨ (kb = kc ∧ y = 0) ∨ (kc < kb ∧ y = 1)) (h3 : (ka < kc ∧ z = -1) ∨ (ka = kc ∧ z = 0) ∨ (kc < ka ∧ z = 1)) :
    (x = -1 ∧ y = -1 ∧ z = -1) ∨ (x = -1 ∧ y = 0 ∧ z = -1) ∨ (x = -1 ∧ y = 1 ∧ z = -1) ∨ (x = -1 ∧ y = 1 ∧ z = 0) ∨ (x = -1 ∧ y = 1 ∧ z = 1) ∨ (x = 0 ∧ y = -1 ∧ z = -1) ∨ (x = 0 ∧ y = 0 ∧ z = 0) ∨ (x = 0 ∧ y = 1 ∧ z = 1) ∨
      (x = 1 ∧ y = -1 ∧ z = -1) ∨ (x = 1 ∧ y = -1 ∧ z = 0) ∨ (x = 1 ∧ y = -1 ∧ z = 1) ∨ (x = 1 ∧ y = 0 ∧ z = 1) ∨ (x = 1 ∧ y = 1 ∧ z = 1) := by
  rcases h1 with ⟨a1, rfl⟩ | ⟨a1, rfl⟩ | ⟨a1, rfl⟩ <;> rcases h2 with ⟨a2, rfl⟩ | ⟨a2, rfl⟩ | ⟨a2, rfl⟩ <;> rcases h3 with ⟨a3, rfl⟩ | ⟨a3, rfl⟩ | ⟨a3, rfl⟩ <;> first | decide | (exfalso; omega)
theorem total_any (a b c : Nat) (W0 : World) (ha : a < 2 ^ 64) (hb : b < 2 ^ 64) (hc : c < 2 ^ 64) (hg : Globs W0) : Calls Tryd.prog 6 #[.float .f64 a, .float .f64 b, .float .f64 c] W0 fun e w' => e = .returned (.bool true) ∧ Below W0.heap.size W0 w' := by
  have h1 := cmp_cases a b
  have h2 := cmp_cases b c
  have h3 := cmp_cases a c
  have h4 := cmp_cases b a
  refine total_walk a b c (canonB a) (canonB b) (keyB a) (keyB b) (cmpB a b) (cmpB b c) (cmpB a c) (cmpB b a) _ _ W0 (awake_any W0 hg) (fun w => compare_any a b w ha hb) (fun w => compare_any b c w hb hc) (fun w => compare_any a c w ha hc) (fun w => compare_any b a w hb ha)
    (fun w => canon_any a w) (fun w => canon_any b w) (fun w => key_any a w ha) (fun w => key_any b w hb) rfl rfl (by omega) (three h1 h2 h3) (fun h => ?_) (fun h => ?_) (fun h => ?_) (fun h => ?_)
  · have := lt_key ha hb (by simpa using h)
    omega
  · have := lt_key hb ha ((order_swap a b).1 (by simpa using h))
    omega
  · have hk : keyB a = keyB b := by omega
    exact ⟨key_inj ha hb hk, hk⟩
  · refine ⟨fun hcc => ?_, by omega⟩
    have : keyB a = keyB b := by rw [← key_canon a, hcc, key_canon]
    omega
end Go.Proofs.YtehminpiejophaaDoor
