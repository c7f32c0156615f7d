/- the statements' guard of stamp: awake. -/
import Derived.Test.YtehminpiejophaaDoorStampInj
import Derived.Test.YtehminpiejophaaDoorStampRead
set_option linter.unusedVariables false
set_option linter.unusedSimpArgs false
namespace Go.Proofs.YtehminpiejophaaDoor
open Go.RowKit

set_option maxRecDepth 100000 in
set_option maxHeartbeats 4000000 in
theorem awake_any (W0 : World) (hg : Globs W0) : Calls Tryd.prog 9 #[] W0 fun e w' => e = .returned (.bool true) ∧ Below W0.heap.size W0 w' := by
  have HG := Lib.hid hg
  have HP1 := Lib.hid (show Calls Tryd.prog 17 #[.string ⟨#[49, 112, 45, 49]⟩] W0 fun e w' => e = .returned (.tuple #[.float .f64 4602678819172646912, .int .i64 0]) ∧ Below W0.heap.size W0 w' by
    refine (pparse_any [49, 112, 45, 49] W0 (by decide) hg).mono ?_
    rintro e w' ⟨hb, ⟨b, hr, rfl⟩ | ⟨hr, _⟩⟩
    · rw [reads_inj hr reads_half]; exact ⟨rfl, hb⟩
    · exact absurd reads_half (hr _))
  have HP2 := Lib.hid (fun w hg => show Calls Tryd.prog 17 #[.string ⟨#[50, 112, 45, 50]⟩] w fun e w' => e = .returned (.tuple #[.float .f64 0, .int .i64 10]) ∧ Below w.heap.size w w' by
    refine (pparse_any [50, 112, 45, 50] w (by decide) hg).mono ?_
    rintro e w' ⟨hb, ⟨b, hr, rfl⟩ | ⟨hr, he⟩⟩
    · exact absurd hr (no_two b)
    · exact ⟨he, hb⟩)
  have HPR := Lib.hid (fun w (hg : Globs w) => show Calls Tryd.prog 19 #[.float .f64 4602678819172646912] w fun e w' => e = .returned (.string ⟨#[49, 112, 45, 49]⟩) ∧ Below w.heap.size w w' by
    refine (print_any 4602678819172646912 w (by decide) hg.pow).mono ?_
    rintro e w' ⟨he, hb⟩
    rw [show printL 4602678819172646912 = [49, 112, 45, 49] from print_half] at he
    exact ⟨he, hb⟩)
  have HK := Lib.hid (fun w => show Calls Tryd.prog 11 #[.float .f64 0] w fun e w' => e = .returned (.int .u64 9223372036854775808) ∧ Below w.heap.size w w' by
    refine (key_any 0 w (by decide)).mono ?_
    rintro e w' ⟨he, hb⟩
    rw [key_zero] at he
    exact ⟨he, hb⟩)
  have HC := Lib.hid (fun w => show Calls Tryd.prog 13 #[.float .f64 13830554455654793216, .float .f64 4607182418800017408] w fun e w' => e = .returned (.int .i64 (-1)) ∧ Below w.heap.size w w' by
    refine (compare_any 13830554455654793216 4607182418800017408 w (by decide) (by decide)).mono ?_
    rintro e w' ⟨he, hb⟩
    rw [cmp_ones] at he
    exact ⟨he, hb⟩)
  have hq : (FloatKind.f64.format.order 4602678819172646912 4602678819172646912 == some .eq) = true := by
    rw [order_num (by decide) (by decide)]; simp
  have hs : ((⟨#[49, 112, 45, 49]⟩ : ByteArray).toList == [49, 112, 45, 49]) = true := by rw [ByteArray.toList_eq]; rfl
  clear hg
  go_enter Tryd.func9, Tryd.ntmps9
  go_wp2_with fail
  refine HP1.out.mono ?_
  rintro e w1 ⟨rfl, h1⟩
  have HB1 := Lib.hid h1
  have HG1 := Lib.hid (HG.out.go h1)
  clear h1
  go_wp2_with fail
  refine (HP2.out _ HG1.out).mono ?_
  rintro e w2 ⟨rfl, h1⟩
  have HB2 := Lib.hid (HB1.out.trans (h1.mono HB1.out.size))
  have HG2 := Lib.hid (HG1.out.go h1)
  clear h1
  go_wp2_with fail
  refine (HPR.out _ HG2.out).mono ?_
  rintro e w3 ⟨rfl, h1⟩
  have HB3 := Lib.hid (HB2.out.trans (h1.mono HB2.out.size))
  clear h1
  go_wp2_with fail
  refine (HK.out _).mono ?_
  rintro e w4 ⟨rfl, h1⟩
  have HB4 := Lib.hid (HB3.out.trans (h1.mono HB3.out.size))
  clear h1
  go_wp2_with fail
  refine (HC.out _).mono ?_
  rintro e w5 ⟨rfl, h1⟩
  have HB5 := Lib.hid (HB4.out.trans (h1.mono HB4.out.size))
  clear h1
  go_wp2_with fail
  go_ret
  exact ⟨rfl, HB5.out⟩
end Go.Proofs.YtehminpiejophaaDoor
