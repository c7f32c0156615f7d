/- StampOrder: every number has the document's place in the order. -/
import Derived.Test.YtehminpiejophaaDoorStampAwake
set_option linter.unusedVariables false
set_option linter.unusedSimpArgs false
namespace Go.Proofs.YtehminpiejophaaDoor
open Go.RowKit

set_option maxRecDepth 100000 in
set_option maxHeartbeats 4000000 in
theorem order_any (a b : Nat) (W0 : World) (ha : a < 2 ^ 64) (hb : b < 2 ^ 64) (hg : Globs W0) : Calls Tryd.prog 3 #[.float .f64 a, .float .f64 b] W0 fun e w' => e = .returned (.bool true) ∧ Below W0.heap.size W0 w' := by
  have HA := Lib.hid (awake_any W0 hg)
  have HF1 := Lib.hid (fun w => before_any a b w ha hb)
  have HF2 := Lib.hid (fun w => before_any b a w hb ha)
  have HK := Lib.hid (fun w => key_any a w ha)
  have HR := Lib.hid (fun w => refKey_any a w ha)
  have HC := Lib.hid (fun w => compare_any a b w ha hb)
  have HN := Lib.hid (fun w => canon_any a w)
  have HT := Lib.hid (fun w => refBits_any a w)
  have hf := ext_bits
  have HZ := Lib.hid (show cmpB a b = if keyB a < keyB b then -1 else if keyB b < keyB a then 1 else 0 from rfl)
  generalize cmpB a b = z at *
  generalize keyB a = x at *
  generalize keyB b = y at *
  generalize canonB a = c at *
  clear ha hb hg
  rcases Nat.lt_trichotomy x y with h | h | h
  · have hz : z = -1 := by rw [HZ.out, if_pos h]
    rw [decide_eq_true h] at HF1
    rw [decide_eq_false (by omega)] at HF2
    clear h HZ
    rw [hz] at HC
    go_enter Tryd.func3, Tryd.ntmps3
    go_wp2_with fail
    refine HA.out.mono ?_
    rintro e w1 ⟨rfl, h1⟩
    have HB1 := Lib.hid h1
    clear h1
    go_wp2_with fail
    refine (HF1.out _).mono ?_
    rintro e w2 ⟨rfl, h1⟩
    have HB2 := Lib.hid (HB1.out.trans (h1.mono HB1.out.size))
    clear h1
    go_wp2_with fail
    refine (HF2.out _).mono ?_
    rintro e w3 ⟨rfl, h1⟩
    have HB3 := Lib.hid (HB2.out.trans (h1.mono HB2.out.size))
    clear h1
    go_wp2_with fail
    refine (HK.out _).mono ?_
    rintro e w4 ⟨rfl, h1⟩
    have HB4 := Lib.hid (HB3.out.trans (h1.mono HB3.out.size))
    clear h1
    go_wp2_with fail
    refine (HR.out _).mono ?_
    rintro e w5 ⟨rfl, h1⟩
    have HB5 := Lib.hid (HB4.out.trans (h1.mono HB4.out.size))
    clear h1
    go_wp2_with fail
    refine (HC.out _).mono ?_
    rintro e w6 ⟨rfl, h1⟩
    have HB6 := Lib.hid (HB5.out.trans (h1.mono HB5.out.size))
    clear h1
    go_wp2_with fail
    refine (HN.out _).mono ?_
    rintro e w7 ⟨rfl, h1⟩
    have HB7 := Lib.hid (HB6.out.trans (h1.mono HB6.out.size))
    clear h1
    go_wp2_with fail
    refine (HT.out _).mono ?_
    rintro e w8 ⟨rfl, h1⟩
    have HB8 := Lib.hid (HB7.out.trans (h1.mono HB7.out.size))
    clear h1
    go_wp2_with fail
    go_ret
    exact ⟨rfl, HB8.out⟩
  · have hz : z = 0 := by rw [HZ.out, if_neg (by omega), if_neg (by omega)]
    rw [decide_eq_false (by omega)] at HF1
    rw [decide_eq_false (by omega)] at HF2
    clear h HZ
    rw [hz] at HC
    go_enter Tryd.func3, Tryd.ntmps3
    go_wp2_with fail
    refine HA.out.mono ?_
    rintro e w1 ⟨rfl, h1⟩
    have HB1 := Lib.hid h1
    clear h1
    go_wp2_with fail
    refine (HF1.out _).mono ?_
    rintro e w2 ⟨rfl, h1⟩
    have HB2 := Lib.hid (HB1.out.trans (h1.mono HB1.out.size))
    clear h1
    go_wp2_with fail
    refine (HF2.out _).mono ?_
    rintro e w3 ⟨rfl, h1⟩
    have HB3 := Lib.hid (HB2.out.trans (h1.mono HB2.out.size))
    clear h1
    go_wp2_with fail
    refine (HK.out _).mono ?_
    rintro e w4 ⟨rfl, h1⟩
    have HB4 := Lib.hid (HB3.out.trans (h1.mono HB3.out.size))
    clear h1
    go_wp2_with fail
    refine (HR.out _).mono ?_
    rintro e w5 ⟨rfl, h1⟩
    have HB5 := Lib.hid (HB4.out.trans (h1.mono HB4.out.size))
    clear h1
    go_wp2_with fail
    refine (HC.out _).mono ?_
    rintro e w6 ⟨rfl, h1⟩
    have HB6 := Lib.hid (HB5.out.trans (h1.mono HB5.out.size))
    clear h1
    go_wp2_with fail
    refine (HN.out _).mono ?_
    rintro e w7 ⟨rfl, h1⟩
    have HB7 := Lib.hid (HB6.out.trans (h1.mono HB6.out.size))
    clear h1
    go_wp2_with fail
    refine (HT.out _).mono ?_
    rintro e w8 ⟨rfl, h1⟩
    have HB8 := Lib.hid (HB7.out.trans (h1.mono HB7.out.size))
    clear h1
    go_wp2_with fail
    go_ret
    exact ⟨rfl, HB8.out⟩
  · have hz : z = 1 := by rw [HZ.out, if_neg (by omega), if_pos h]
    rw [decide_eq_false (by omega)] at HF1
    rw [decide_eq_true h] at HF2
    clear h HZ
    rw [hz] at HC
    go_enter Tryd.func3, Tryd.ntmps3
    go_wp2_with fail
    refine HA.out.mono ?_
    rintro e w1 ⟨rfl, h1⟩
    have HB1 := Lib.hid h1
    clear h1
    go_wp2_with fail
    refine (HF1.out _).mono ?_
    rintro e w2 ⟨rfl, h1⟩
    have HB2 := Lib.hid (HB1.out.trans (h1.mono HB1.out.size))
    clear h1
    go_wp2_with fail
    refine (HF2.out _).mono ?_
    rintro e w3 ⟨rfl, h1⟩
    have HB3 := Lib.hid (HB2.out.trans (h1.mono HB2.out.size))
    clear h1
    go_wp2_with fail
    refine (HK.out _).mono ?_
    rintro e w4 ⟨rfl, h1⟩
    have HB4 := Lib.hid (HB3.out.trans (h1.mono HB3.out.size))
    clear h1
    go_wp2_with fail
    refine (HR.out _).mono ?_
    rintro e w5 ⟨rfl, h1⟩
    have HB5 := Lib.hid (HB4.out.trans (h1.mono HB4.out.size))
    clear h1
    go_wp2_with fail
    refine (HC.out _).mono ?_
    rintro e w6 ⟨rfl, h1⟩
    have HB6 := Lib.hid (HB5.out.trans (h1.mono HB5.out.size))
    clear h1
    go_wp2_with fail
    refine (HN.out _).mono ?_
    rintro e w7 ⟨rfl, h1⟩
    have HB7 := Lib.hid (HB6.out.trans (h1.mono HB6.out.size))
    clear h1
    go_wp2_with fail
    refine (HT.out _).mono ?_
    rintro e w8 ⟨rfl, h1⟩
    have HB8 := Lib.hid (HB7.out.trans (h1.mono HB7.out.size))
    clear h1
    go_wp2_with fail
    go_ret
    exact ⟨rfl, HB8.out⟩
end Go.Proofs.YtehminpiejophaaDoor
