/- lines.Join, and what Split cuts put together again. -/
import Derived.Test.YtbdlpigokahnoaaLinesSplit
import Derived.Test.YtbdlpigokahnoaaShelf
import Derived.Lib.Join
set_option linter.unusedVariables false
namespace Go.Proofs.Ytbdlpigokahnoaa
open Go.RowKit
attribute [local go_sem ↓] cutA_eq cvt_eq cvs_eq

theorem join_nosep : ∀ xs : List (List UInt8), Lib.join xs [] = xs.flatten
  | [] => rfl
  | x :: r => by rw [Lib.join_cons, Lib.joinTail]; simp
theorem splitG_flat : ∀ (f : Nat) (l : List UInt8), l.length ≤ f → ((splitG l).map (·.data.toList)).flatten = l
  | 0, l, h => by
    have : l = [] := List.eq_nil_of_length_eq_zero (by omega)
    subst this; rw [splitG_nil]; rfl
  | f + 1, l, h => by
    by_cases hl : l = []
    · subst hl; rw [splitG_nil]; rfl
    · rw [splitG_cons hl, List.map_cons, List.flatten_cons]
      have h1 := lineLen_pos hl
      have h2 := List.length_pos_iff.2 hl
      rw [splitG_flat f (l.drop (lineLen l)) (by rw [List.length_drop]; omega)]
      simp
theorem splitG_length : ∀ (f : Nat) (l : List UInt8), l.length ≤ f → (splitG l).length ≤ l.length
  | 0, l, h => by
    have : l = [] := List.eq_nil_of_length_eq_zero (by omega)
    subst this; rw [splitG_nil]; simp
  | f + 1, l, h => by
    by_cases hl : l = []
    · subst hl; rw [splitG_nil]; simp
    · rw [splitG_cons hl, List.length_cons]
      have h1 := lineLen_pos hl
      have h2 := List.length_pos_iff.2 hl
      have h3 := splitG_length f (l.drop (lineLen l)) (by rw [List.length_drop]; omega)
      rw [List.length_drop] at h3
      omega

/-- bytes in new memory -/
theorem join_any (A : Option Addr) (n c : Nat) (xs : List ByteArray) (w : World) (hs : Sl w 1 A n (strV xs)) (hc : n ≤ c) (hn : n ≤ 1048576) (hlen : (xs.map (·.data.toList)).flatten.length ≤ 100000000) :
    Calls Try.prog 16 #[.slice A n c] w fun e w' => ∃ A' c', e = .returned (.slice A' (xs.map (·.data.toList)).flatten.length c') ∧ Sl w' 1 A' (xs.map (·.data.toList)).flatten.length (bytesV (xs.map (·.data.toList)).flatten) ∧ Below w.heap.size w w' := by
  have hl := hs.strLen
  subst hl
  have hj : Calls Try.prog 33 #[.slice A xs.length c, .string ⟨#[]⟩] w fun e w' => e = .returned (.string ⟨(xs.map (·.data.toList)).flatten.toArray⟩) ∧ Below w.heap.size w w' := by
    rcases Nat.eq_zero_or_pos xs.length with hz | hz
    · have : xs = [] := List.eq_nil_of_length_eq_zero hz
      subst this
      exact (Try.strings_Join_none A c ⟨#[]⟩ w).mono fun e w' ⟨h1, h2⟩ => ⟨h1, h2 ▸ Below.refl _ _⟩
    · obtain ⟨b, off, rfl, hb, hcl⟩ := hs.2 hz
      have h := Try.strings_Join b off c xs ⟨#[]⟩ w (fun j x hx => hcl j (.string x) (by simp [strV, hx])) hb (by omega) hc (by rw [join_nosep]; omega)
      rw [join_nosep] at h
      exact h
  have HJ := Lib.hid hj
  have HLN := Lib.hid hlen
  generalize (xs.map (·.data.toList)).flatten = l at *
  clear hj hlen
  go_enter Try.func16, Try.ntmps16
  go_wp2_with fail
  refine HJ.out.mono ?_
  rintro e w1 ⟨rfl, hb1⟩
  have hz : (⟨l.toArray⟩ : ByteArray).size = l.length := by simp [ByteArray.size]
  obtain ⟨A', c', w2, hrun, hsl, _, _, hb2, _⟩ := toBytes w1 ⟨l.toArray⟩ (by rw [hz, maxLen]; have := HLN.out; omega)
  rw [hz] at hrun hsl
  have hrun' : cvs w1 ⟨l.toArray⟩ = .ok (.slice A' l.length c') w2 := hrun
  have HB := Lib.hid (hb1.trans (hb2.mono hb1.size))
  have HS := Lib.hid hsl
  clear hb1 hb2 hsl hrun hs hz
  go_wp2_with fail
  go_ret
  exact ⟨A', c', rfl, HS.out, HB.out⟩

end Go.Proofs.Ytbdlpigokahnoaa
