/- towlineref01.Parse: texts with a p, and all. -/
import Derived.Test.YtehminpiejophaaDoorStampRefParseN
import Derived.Test.YtehminpiejophaaDoorStampRefParseP
set_option linter.unusedVariables false
set_option linter.unusedSimpArgs false
namespace Go.Proofs.YtehminpiejophaaDoor
open Go.RowKit
theorem refParse_any (l : List UInt8) (w : World) (hl : l.length ≤ 4294967200) : Calls Tryd.prog 18 #[.string (strL l)] w (RefPost w l) := by
  have hsplit : ∀ t : List UInt8, (112 : UInt8) ∈ t → ∃ a r, t = a ++ 112 :: r ∧ (112 : UInt8) ∉ a := fun t ht => List.eq_append_cons_of_mem ht
  by_cases h45 : ∃ t, l = 45 :: t
  · obtain ⟨t, rfl⟩ := h45
    have hl : t.length ≤ 4294967200 := by simp at hl; omega
    by_cases h3 : t = [105, 110, 102]
    · exact refp_inf_neg t h3 w hl
    by_cases h4 : t = [48]
    · exact refp_zero_neg t h4 w hl
    by_cases h5 : (112 : UInt8) ∈ t
    · obtain ⟨a, r, h6, h7⟩ := hsplit t h5
      exact refp_p_neg t a r h3 h4 h6 h7 w hl
    · exact refp_nop_neg t h3 h4 h5 w hl
  · by_cases h1 : l = [110, 97, 110]
    · rw [h1]; exact refp_nan w
    have h2 : ∀ r, l ≠ 45 :: r := fun r e => h45 ⟨r, e⟩
    by_cases h3 : l = [105, 110, 102]
    · exact refp_inf_pos l h1 h2 h3 w hl
    by_cases h4 : l = [48]
    · exact refp_zero_pos l h1 h2 h4 w hl
    by_cases h5 : (112 : UInt8) ∈ l
    · obtain ⟨a, r, h6, h7⟩ := hsplit l h5
      exact refp_p_pos l h1 h2 a r h3 h4 h6 h7 w hl
    · exact refp_nop_pos l h1 h2 h3 h4 h5 w hl
end Go.Proofs.YtehminpiejophaaDoor
