/- StampBack: what is written is read again. -/
import Derived.Test.YtehminpiejophaaDoorStampUse
set_option linter.unusedVariables false
set_option linter.unusedSimpArgs false
namespace Go.Proofs.YtehminpiejophaaDoor
open Go.RowKit

set_option maxRecDepth 100000 in
set_option maxHeartbeats 4000000 in
theorem back_any (a : Nat) (s : ByteArray) (W0 : World) (ha : a < 2 ^ 64) (hm : s.size ≤ maxLen) (hs : s.size ≤ 1048576) (hg : Globs W0) : Calls Tryd.prog 5 #[.float .f64 a, .string s] W0 fun e w' => e = .returned (.bool true) ∧ Below W0.heap.size W0 w' := by
  have HG := Lib.hid hg
  have HA := Lib.hid (awake_any W0 hg)
  have HP := Lib.hid (fun w (hg : Globs w) => print_any a w ha hg.pow)
  have HR := Lib.hid (fun w (hg : Globs w) => parse_reads (reads_print ha) (by have := print_len ha; omega) w hg)
  have HC := Lib.hid (fun w => canon_any a w)
  have hf := ext_bits
  rw [show (⟨(printL a).toArray⟩ : ByteArray) = strL (printL a) from rfl] at HP
  generalize strL (printL a) = q at *
  generalize canonB a = c at *
  obtain ⟨l, hl⟩ : ∃ l, l = s.data.toList := ⟨_, rfl⟩
  have hsl : s = strL l := by rw [hl, strL_data]
  have hll : l.length ≤ 4294967280 := by rw [hl]; exact s_len hs
  clear ha hg hm hs hl
  by_cases hx : ∃ b, Reads l b
  · obtain ⟨b, hb⟩ := hx
    have HS := Lib.hid (parse_reads hb hll)
    have HT := Lib.hid (fun w (hg : Globs w) => (show Calls Tryd.prog 19 #[.float .f64 b] w fun e w' => e = .returned (.string (strL l)) ∧ Below w.heap.size w w' by
      have := print_any b w hb.lt hg.pow
      rw [hb.text] at this
      exact this))
    rw [← hsl] at HS HT
    clear hsl hll hb
    go_enter Tryd.func5, Tryd.ntmps5
    go_wp2_with fail
    refine HA.out.mono ?_
    rintro e w1 ⟨rfl, h1⟩
    have HB1 := Lib.hid h1
    clear h1
    go_wp2_with fail
    refine (HP.out _ (HG.out.go HB1.out)).mono ?_
    rintro e w2 ⟨rfl, h1⟩
    have HB2 := Lib.hid (HB1.out.trans (h1.mono HB1.out.size))
    clear h1
    go_wp2_with fail
    refine (HR.out _ (HG.out.go HB2.out)).mono ?_
    rintro e w3 ⟨rfl, h1⟩
    have HB3 := Lib.hid (HB2.out.trans (h1.mono HB2.out.size))
    clear h1
    go_wp2_with fail
    refine (HC.out _).mono ?_
    rintro e w4 ⟨rfl, h1⟩
    have HB4 := Lib.hid (HB3.out.trans (h1.mono HB3.out.size))
    clear h1
    go_wp2_with fail
    refine (HS.out _ (HG.out.go HB4.out)).mono ?_
    rintro e w5 ⟨rfl, h1⟩
    have HB5 := Lib.hid (HB4.out.trans (h1.mono HB4.out.size))
    clear h1
    go_wp2_with fail
    refine (HT.out _ (HG.out.go HB5.out)).mono ?_
    rintro e w6 ⟨rfl, h1⟩
    have HB6 := Lib.hid (HB5.out.trans (h1.mono HB5.out.size))
    clear h1
    go_wp2_with fail
    go_ret
    exact ⟨rfl, HB6.out⟩
  · have HS := Lib.hid (parse_none (fun b hb => hx ⟨b, hb⟩) hll)
    rw [← hsl] at HS
    clear hsl hll hx
    go_enter Tryd.func5, Tryd.ntmps5
    go_wp2_with fail
    refine HA.out.mono ?_
    rintro e w1 ⟨rfl, h1⟩
    have HB1 := Lib.hid h1
    clear h1
    go_wp2_with fail
    refine (HP.out _ (HG.out.go HB1.out)).mono ?_
    rintro e w2 ⟨rfl, h1⟩
    have HB2 := Lib.hid (HB1.out.trans (h1.mono HB1.out.size))
    clear h1
    go_wp2_with fail
    refine (HR.out _ (HG.out.go HB2.out)).mono ?_
    rintro e w3 ⟨rfl, h1⟩
    have HB3 := Lib.hid (HB2.out.trans (h1.mono HB2.out.size))
    clear h1
    go_wp2_with fail
    refine (HC.out _).mono ?_
    rintro e w4 ⟨rfl, h1⟩
    have HB4 := Lib.hid (HB3.out.trans (h1.mono HB3.out.size))
    clear h1
    go_wp2_with fail
    refine (HS.out _ (HG.out.go HB4.out)).mono ?_
    rintro e w5 ⟨rfl, h1⟩
    have HB5 := Lib.hid (HB4.out.trans (h1.mono HB4.out.size))
    clear h1
    go_wp2_with fail
    go_ret
    exact ⟨rfl, HB5.out⟩
end Go.Proofs.YtehminpiejophaaDoor
