/- path.Split. -/
import Derived.Test.YtlddnghfjdjglaaDoorGlobSplit
set_option linter.unusedVariables false
set_option linter.unusedSimpArgs false
namespace Go.Proofs.YtlddnghfjdjglaaDoor
open Go.RowKit

theorem psplit_any (l : List UInt8) (w : World) (hl : l.length ≤ 4294967280) : Calls Tryd.prog 29 #[.string (strL l)] w fun e w' =>
    (∃ A c, e = .returned (.slice A (namesG l).length c) ∧ SlOf strR w' (fun b => b < w.heap.size) A ((namesG l).map strL) ∧ (namesG l).length ≤ c ∧ c ≤ maxLen) ∧ Below w.heap.size w w' := by
  by_cases h0 : l = []
  · have hq : (strL l).toList.isEmpty = true := by rw [h0, ByteArray.toList_eq]; rfl
    have HN := Lib.hid (show namesG l = [] by unfold namesG; rw [if_pos h0])
    clear h0
    go_enter Tryd.func29, Tryd.ntmps29
    go_wp2_with fail
    go_ret
    rw [HN.out]
    exact ⟨⟨none, 0, rfl, SlOf.nil, Nat.le_refl _, Nat.zero_le _⟩, Below.refl _ _⟩
  · have hq : (strL l).toList.isEmpty = false := by
      rw [ByteArray.toList_eq]
      cases l with
      | nil => exact absurd rfl h0
      | cons a b => rfl
    have HN := Lib.hid (show namesG l = splitG l by unfold namesG; rw [if_neg h0])
    have HSP := Lib.hid (split_any l w hl)
    have HL := Lib.hid (show (splitG l).length ≤ maxLen by
      rw [splitG_len]
      have := List.count_le_length (a := (47 : UInt8)) (l := l)
      simp only [maxLen]; omega)
    clear h0 hl
    go_enter Tryd.func29, Tryd.ntmps29
    go_wp2_with fail
    refine HSP.out.mono ?_
    rintro e w2 ⟨rfl, hw⟩
    have HB := Lib.hid (show Below w.heap.size w w2 by rw [hw]; exact (Below.refl _ _).alloc (Nat.le_refl _) _)
    have HSL := Lib.hid (show Sl w2 1 (some ⟨w.heap.size, 0, none⟩) (splitG l).length ((splitG l).map fun p => Value.string (strL p)) by
      have := Sl.fresh w ((splitG l).map fun p => Value.string (strL p)).toArray 9 (0, 0) (splitG l).length 1 (by simp)
      rw [hw]; simpa using this)
    clear hw
    go_wp2_with fail
    go_ret
    rw [HN.out]
    refine ⟨⟨some ⟨w.heap.size, 0, none⟩, (splitG l).length, rfl, ⟨((splitG l).map strL).map Value.string, ?_, each_str_mk _, fun _ b off e => ?_⟩, Nat.le_refl _, HL.out⟩, HB.out⟩
    · rw [List.length_map, List.map_map]; exact HSL.out
    · injection e with e; injection e with e1 _; omega
end Go.Proofs.YtlddnghfjdjglaaDoor
