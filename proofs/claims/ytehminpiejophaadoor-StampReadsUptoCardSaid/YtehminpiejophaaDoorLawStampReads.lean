/- StampReads: what is written, and what is read, as the document says. -/
import Derived.Test.YtehminpiejophaaDoorStampUse
import Derived.Test.YtehminpiejophaaDoorStampRefPrint
import Derived.Test.YtehminpiejophaaDoorStampRefParseA
set_option linter.unusedVariables false
set_option linter.unusedSimpArgs false
namespace Go.Proofs.YtehminpiejophaaDoor
open Go.RowKit

theorem refParse_reads {l : List UInt8} {b : Nat} (h : Reads l b) (hl : l.length ≤ 4294967200) (w : World) : Calls Tryd.prog 18 #[.string (strL l)] w fun e w' => e = .returned (.tuple #[.float .f64 b, .int .i64 0]) ∧ w' = w := by
  refine (refParse_any l w hl).mono ?_
  rintro e w' ⟨hb, ⟨c, hr, rfl⟩ | ⟨hr, _⟩⟩
  · rw [reads_inj hr h]; exact ⟨rfl, hb⟩
  · exact absurd h (hr _)
theorem refParse_none {l : List UInt8} (h : ∀ b, ¬ Reads l b) (hl : l.length ≤ 4294967200) (w : World) : Calls Tryd.prog 18 #[.string (strL l)] w fun e w' => e = .returned (.tuple #[.float .f64 0, .int .i64 10]) ∧ w' = w := by
  refine (refParse_any l w hl).mono ?_
  rintro e w' ⟨hb, ⟨c, hr, _⟩ | ⟨_, he⟩⟩
  · exact absurd hr (h _)
  · exact ⟨he, hb⟩

set_option maxRecDepth 100000 in
set_option maxHeartbeats 4000000 in
theorem readsl_any (a : Nat) (s : ByteArray) (W0 : World) (ha : a < 2 ^ 64) (hm : s.size ≤ maxLen) (hs : s.size ≤ 1048576) (hg : Globs W0) : Calls Tryd.prog 4 #[.float .f64 a, .string s] W0 fun e w' => e = .returned (.bool true) ∧ Below W0.heap.size W0 w' := by
  have HG := Lib.hid hg
  have HA := Lib.hid (awake_any W0 hg)
  have HP := Lib.hid (fun w (hg : Globs w) => print_any a w ha hg.pow)
  have HR := Lib.hid (fun w => refPrint_any a w ha)
  have hf := ext_bits
  generalize (⟨(printL a).toArray⟩ : ByteArray) = q at *
  obtain ⟨l, hl⟩ : ∃ l, l = s.data.toList := ⟨_, rfl⟩
  have hsl : s = strL l := by rw [hl, strL_data]
  have hll : l.length ≤ 4294967200 := by
    have : l.length = s.size := by rw [hl]; exact Array.length_toList
    omega
  clear ha hg hm hs hl
  by_cases hx : ∃ b, Reads l b
  · obtain ⟨b, hb⟩ := hx
    have HS := Lib.hid (parse_reads hb (by omega))
    have HT := Lib.hid (refParse_reads hb hll)
    rw [← hsl] at HS HT
    clear hsl hll hb
    go_enter Tryd.func4, Tryd.ntmps4
    go_wp2_with fail
    refine (HA.out).mono ?_
    rintro e w1 ⟨rfl, h1⟩
    have HB1 := Lib.hid h1
    clear h1
    go_wp2_with fail
    refine (HS.out _ (HG.out.go HB1.out)).mono ?_
    rintro e w2 ⟨rfl, h1⟩
    have HB2 := Lib.hid (HB1.out.trans (h1.mono HB1.out.size))
    clear h1
    go_wp2_with fail
    refine (HT.out _).mono ?_
    rintro e w3 ⟨rfl, rfl⟩
    go_wp2_with fail
    refine (HP.out _ (HG.out.go HB2.out)).mono ?_
    rintro e w4 ⟨rfl, h1⟩
    have HB4 := Lib.hid (HB2.out.trans (h1.mono HB2.out.size))
    clear h1
    go_wp2_with fail
    refine (HR.out _).mono ?_
    rintro e w5 ⟨rfl, h1⟩
    have HB5 := Lib.hid (HB4.out.trans (h1.mono HB4.out.size))
    clear h1
    go_wp2_with fail
    go_ret
    exact ⟨rfl, HB5.out⟩
  · have HS := Lib.hid (parse_none (fun b hb => hx ⟨b, hb⟩) (by omega))
    have HT := Lib.hid (refParse_none (fun b hb => hx ⟨b, hb⟩) hll)
    rw [← hsl] at HS HT
    clear hsl hll hx
    go_enter Tryd.func4, Tryd.ntmps4
    go_wp2_with fail
    refine (HA.out).mono ?_
    rintro e w1 ⟨rfl, h1⟩
    have HB1 := Lib.hid h1
    clear h1
    go_wp2_with fail
    refine (HS.out _ (HG.out.go HB1.out)).mono ?_
    rintro e w2 ⟨rfl, h1⟩
    have HB2 := Lib.hid (HB1.out.trans (h1.mono HB1.out.size))
    clear h1
    go_wp2_with fail
    refine (HT.out _).mono ?_
    rintro e w3 ⟨rfl, rfl⟩
    go_wp2_with fail
    refine (HP.out _ (HG.out.go HB2.out)).mono ?_
    rintro e w4 ⟨rfl, h1⟩
    have HB4 := Lib.hid (HB2.out.trans (h1.mono HB2.out.size))
    clear h1
    go_wp2_with fail
    refine (HR.out _).mono ?_
    rintro e w5 ⟨rfl, h1⟩
    have HB5 := Lib.hid (HB4.out.trans (h1.mono HB4.out.size))
    clear h1
    go_wp2_with fail
    go_ret
    exact ⟨rfl, HB5.out⟩
end Go.Proofs.YtehminpiejophaaDoor
