/- stamp's Parse and Print in the forms that the statements' walks take. -/
import Derived.Test.YtehminpiejophaaDoorStampAwake
set_option linter.unusedVariables false
set_option linter.unusedSimpArgs false
namespace Go.Proofs.YtehminpiejophaaDoor
open Go.RowKit

theorem parse_reads {l : List UInt8} {b : Nat} (h : Reads l b) (hl : l.length ≤ 4294967280) (w : World) (hg : Globs w) : Calls Tryd.prog 17 #[.string (strL l)] w fun e w' => e = .returned (.tuple #[.float .f64 b, .int .i64 0]) ∧ Below w.heap.size w w' := by
  refine (pparse_any l w hl hg).mono ?_
  rintro e w' ⟨hb, ⟨c, hr, rfl⟩ | ⟨hr, _⟩⟩
  · rw [reads_inj hr h]; exact ⟨rfl, hb⟩
  · exact absurd h (hr _)
theorem parse_none {l : List UInt8} (h : ∀ b, ¬ Reads l b) (hl : l.length ≤ 4294967280) (w : World) (hg : Globs w) : Calls Tryd.prog 17 #[.string (strL l)] w fun e w' => e = .returned (.tuple #[.float .f64 0, .int .i64 10]) ∧ Below w.heap.size w w' := by
  refine (pparse_any l w hl hg).mono ?_
  rintro e w' ⟨hb, ⟨c, hr, _⟩ | ⟨_, he⟩⟩
  · exact absurd hr (h _)
  · exact ⟨he, hb⟩
theorem print_len {b : Nat} (hb : b < 2 ^ 64) : (printL b).length ≤ 100 := by
  have hd : ∀ m, m < 18446744073709551616 → (Lib.decDigits m).length ≤ 20 := fun m hm => by
    have := dec_size hm
    have e : (⟨(Lib.decDigits m).toArray⟩ : ByteArray).size = (Lib.decDigits m).length := by show (Lib.decDigits m).toArray.size = _; rw [List.size_toArray]
    omega
  have hi : ∀ n : Int, -9223372036854775808 ≤ n → n ≤ 9223372036854775807 → (Lib.itoa n).length ≤ 21 := fun n h1 h2 => by
    have := itoa_size h1 h2
    have e : (⟨(Lib.itoa n).toArray⟩ : ByteArray).size = (Lib.itoa n).length := by show (Lib.itoa n).toArray.size = _; rw [List.size_toArray]
    omega
  rcases print_cases b with ⟨_, h⟩ | ⟨_, hr, h⟩
  · rw [h]; simp
  · rw [h, List.length_append]
    have hs : (signL b).length ≤ 1 := by unfold signL; split <;> simp
    have hbd : (bodyL (rungB b)).length ≤ 50 := by
      unfold bodyL
      split
      · simp
      · rcases Nat.eq_zero_or_pos (rungB b) with h0 | h0
        · rw [h0, show finL 0 = [48] from rfl]; simp
        · obtain ⟨M, Z, hf⟩ := fin_text h0 (by omega)
          rw [hf.text, List.length_append, List.length_cons]
          have := hd M (by have := hf.lt; omega)
          have := hi Z (by have := hf.lo; omega) (by have := hf.hi; omega)
          omega
    omega
theorem strL_data (s : ByteArray) : strL s.data.toList = s := by apply ByteArray.ext; simp [strL]
theorem s_len {s : ByteArray} (h : s.size ≤ 1048576) : s.data.toList.length ≤ 4294967280 := by
  have : s.data.toList.length = s.size := Array.length_toList
  omega
end Go.Proofs.YtehminpiejophaaDoor
