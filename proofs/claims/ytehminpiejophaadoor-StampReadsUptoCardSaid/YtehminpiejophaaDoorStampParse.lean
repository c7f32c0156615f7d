/- stamp.parse. -/
import Derived.Test.YtehminpiejophaaDoorStampText
set_option linter.unusedVariables false
set_option linter.unusedSimpArgs false
namespace Go.Proofs.YtehminpiejophaaDoor
open Go.RowKit

def ReadPost (w : World) (l : List UInt8) (e : Ending) (w' : World) : Prop :=
  Below w.heap.size w w' ∧ ((∃ b, Reads l b ∧ e = .returned (.float .f64 b)) ∨ ((∀ b, ¬ Reads l b) ∧ e = .panicked brokE))
theorem toList_strL (l : List UInt8) : (strL l).toList = l := by rw [ByteArray.toList_eq]; simp [strL]
theorem data_strL (l : List UInt8) : (strL l).data.toList = l := by simp [strL]

theorem cutp_any (l a b : List UInt8) (ok : Bool) (w : World) (hl : l.length ≤ 4294967280) (hg : Globs w) (hc : Lib.cut l [112] = (a, b, ok)) : Calls Tryd.prog 38 #[.string (strL l), .string ⟨#[112]⟩] w fun e w' => e = .returned (.tuple #[.string (strL a), .string (strL b), .bool ok]) ∧ Below w.heap.size w w' := by
  obtain ⟨m, hm⟩ := hg.max
  refine (Tryd.strings_Cut (strL l) ⟨#[112]⟩ m w (by rw [strL_size]; omega) hm).mono ?_
  rintro e w' ⟨he, n, rfl⟩
  rw [data_strL, show (⟨#[112]⟩ : ByteArray).data.toList = [112] from rfl, hc] at he
  exact ⟨he, ⟨rfl, rfl, rfl, Nat.le_refl _, fun _ _ => rfl⟩⟩
theorem cutm_any (l : List UInt8) (w : World) : Calls Tryd.prog 36 #[.string (strL l), .string ⟨#[45]⟩] w fun e w' => e = .returned (.tuple #[.string (strL (Lib.trimPrefix l [45])), .bool (Lib.hasPrefix l [45])]) ∧ w' = w := by
  refine (Tryd.strings_CutPrefix (strL l) ⟨#[45]⟩ w).mono ?_
  rintro e w' ⟨he, rfl⟩
  rw [data_strL, show (⟨#[45]⟩ : ByteArray).data.toList = [45] from rfl] at he
  exact ⟨he, rfl⟩

theorem reads_nan : Reads [110, 97, 110] nanB := by
  have hn : isNan nanB = true := by rw [nan_iff]; decide
  exact ⟨by unfold printL; rw [if_pos hn], by unfold canonB; rw [if_pos hn], by decide⟩
theorem nan_no {b : Nat} (h : rungB b ≤ infR) : isNan b = false := by rw [nan_iff, decide_eq_false_iff_not]; omega
theorem reads_pos {r : Nat} (h : r ≤ infR) : Reads (bodyL r) r := by
  have hi := inf_lt
  have hr : rungB r = r := Nat.mod_eq_of_lt (by omega)
  have hn := nan_no (b := r) (by rw [hr]; exact h)
  refine ⟨?_, by unfold canonB; rw [if_neg (by rw [hn]; decide)], by show r < 18446744073709551616; omega⟩
  unfold printL signL
  rw [if_neg (by rw [hn]; decide), if_neg (by omega), hr]; rfl
theorem reads_inf : Reads [105, 110, 102] infR := by
  have := reads_pos (Nat.le_refl infR)
  unfold bodyL at this
  rwa [if_pos rfl] at this
theorem reads_zero : Reads [48] 0 := by
  have := reads_pos (r := 0) (by unfold infR; omega)
  exact this
/-- a text that is none of the special ones -/
theorem reads_shape {l : List UInt8} {b : Nat} (h : Reads l b) (h1 : l ≠ [110, 97, 110]) (h2 : l ≠ [105, 110, 102]) (h3 : l ≠ [48]) (h4 : Lib.hasPrefix l [45] = false) : ∃ M Z, FinText b M Z ∧ l = Lib.decDigits M ++ 112 :: Lib.itoa Z ∧ 0 < b ∧ b < infR := by
  obtain ⟨ht, hc, hb⟩ := h
  have hb : b < 18446744073709551616 := hb
  unfold printL at ht
  cases hn : isNan b with
  | true => rw [if_pos hn] at ht; exact absurd ht.symm h1
  | false =>
    rw [if_neg (by rw [hn]; decide)] at ht
    by_cases hs : 9223372036854775808 ≤ b
    · unfold signL at ht
      rw [if_pos hs] at ht
      rw [← ht] at h4
      simp [Lib.hasPrefix, List.isPrefixOf] at h4
    · unfold signL at ht
      rw [if_neg hs, List.nil_append] at ht
      have hr : rungB b = b := Nat.mod_eq_of_lt (by omega)
      rw [nan_iff, decide_eq_false_iff_not] at hn
      rw [hr] at ht hn
      unfold bodyL at ht
      by_cases hi : b = infR
      · rw [if_pos hi] at ht; exact absurd ht.symm h2
      · rw [if_neg hi] at ht
        rcases Nat.eq_zero_or_pos b with h0 | h0
        · rw [h0] at ht; exact absurd ht.symm h3
        · obtain ⟨M, Z, hf⟩ := fin_text h0 (show b < infR by omega)
          exact ⟨M, Z, hf, by rw [← ht, hf.text], h0, by omega⟩
theorem numP_range {l : List UInt8} {most v : Int} (h : numP l most = some v) : 0 ≤ v ∧ v ≤ most := by
  unfold numP at h
  cases l with
  | nil =>
    have : Lib.parseIntB 64 [] = .«syntax» := rfl
    rw [this] at h; cases h
  | cons c r =>
    cases hp : Lib.parseIntB 64 (c :: r) with
    | «syntax» => rw [hp] at h; cases h
    | range => rw [hp] at h; cases h
    | ok u =>
      rw [hp] at h
      simp only [] at h
      split at h
      · cases h
      · split at h
        · cases h
        · split at h
          · cases h
          · split at h
            · cases h
            · injection h with h
              subst h
              refine ⟨?_, by omega⟩
              rw [Lib.parseIntB_plain 64 c r (by omega) (by omega)] at hp
              cases hu : Lib.parseUintB 64 (c :: r) with
              | «syntax» => rw [hu] at hp; cases hp
              | range => rw [hu] at hp; cases hp
              | ok z =>
                rw [hu] at hp
                have hp : (if 2 ^ (64 - 1) ≤ z then Lib.NumEnd.range else Lib.NumEnd.ok (z : Int)) = .ok u := hp
                split at hp
                · cases hp
                · injection hp with hp; omega
end Go.Proofs.YtehminpiejophaaDoor
