/- strings.Split at /. -/
import Derived.Test.YtlddnghfjdjglaaDoorGlobPlain
import Derived.Test.YtlddnghfjdjglaaDoorRd
import Derived.Test.YtlddnghfjdjglaaDoorShelf
set_option linter.unusedVariables false
set_option linter.unusedSimpArgs false
namespace Go.Proofs.YtlddnghfjdjglaaDoor
open Go.RowKit

theorem splitG_cut (r : List UInt8) : ∃ p q, splitG r = p :: q := by
  cases h : splitG r with
  | nil => exact absurd h (splitG_ne r)
  | cons p q => exact ⟨p, q, rfl⟩
theorem split_one : ∀ (l : List UInt8), Lib.splitK [47] 0 (l.count 47) l = splitG l
  | [] => rfl
  | x :: r => by
    have ih := split_one r
    have hge := Lib.indexByte_ge r 47
    by_cases hx : x = 47
    · subst hx
      have h0 : Lib.index ((47 : UInt8) :: r) [47] = 0 := by rw [Lib.index_one]; simp [Lib.indexByte]
      rw [List.count_cons_self, Lib.splitK, h0, if_neg (by decide)]
      show [] :: Lib.splitK [47] 0 (r.count 47) r = _
      rw [ih]
      show _ = if (47 : UInt8) = 47 then [] :: splitG r else _
      rw [if_pos rfl]
    · have hb : (x == 47) = false := by simpa using hx
      have hc : (x :: r).count 47 = r.count 47 := List.count_cons_of_ne (by simpa using hx)
      have hi : Lib.index (x :: r) [47] = if Lib.index r [47] == -1 then -1 else Lib.index r [47] + 1 := by rw [Lib.index_one, Lib.index_one, Lib.indexByte, hb]; rfl
      have hs : splitG (x :: r) = match splitG r with | [] => [[x]] | p :: q => (x :: p) :: q := by
        show (if x = 47 then [] :: splitG r else match splitG r with | [] => [[x]] | p :: q => (x :: p) :: q) = _
        rw [if_neg hx]
      rw [hc, hs]
      rw [Lib.index_one] at hi
      cases hk : r.count 47 with
      | zero =>
        rw [hk] at ih
        rw [← ih]; rfl
      | succ k =>
        rw [hk] at ih
        rw [Lib.index_one] at hi
        have hm : ¬ (Lib.indexByte r 47 == -1) = true := by
          intro h
          have hn : Lib.splitK [47] 0 (k + 1) r = [r] := by rw [Lib.splitK, Lib.index_one, if_pos h]
          have hmem : (47 : UInt8) ∈ r := List.count_pos_iff.1 (by omega)
          have : ∀ (t : List UInt8), (47 : UInt8) ∈ t → Lib.indexByte t 47 ≠ -1 := by
            intro t
            induction t with
            | nil => intro h; cases h
            | cons b t iht =>
              intro h
              unfold Lib.indexByte
              split
              · decide
              · rename_i hb
                have : (47 : UInt8) ∈ t := by
                  rcases List.mem_cons.1 h with h | h
                  · subst h; simp at hb
                  · exact h
                have := iht this
                have hg := Lib.indexByte_ge t 47
                split
                · rename_i h2; exact absurd (beq_iff_eq.1 h2) this
                · omega
          exact this r hmem (beq_iff_eq.1 h)
        rw [if_neg hm] at hi
        obtain ⟨j, hj⟩ : ∃ j : Nat, Lib.indexByte r 47 = j := ⟨(Lib.indexByte r 47).toNat, by have : Lib.indexByte r 47 ≠ -1 := fun h => hm (beq_iff_eq.2 h); omega⟩
        rw [hj] at hi hm
        rw [← ih, Lib.splitK, Lib.index_one, hi, if_neg (by rw [beq_iff_eq]; omega), Lib.splitK, Lib.index_one, hj, if_neg hm]
        have e1 : ((j : Int) + 1).toNat = j + 1 := by omega
        have e2 : ((j : Int)).toNat = j := by omega
        rw [e1, e2]
        simp only [Nat.add_zero, List.take_succ_cons, List.length_singleton, List.drop_succ_cons]
theorem splitG_len (l : List UInt8) : (splitG l).length = l.count 47 + 1 := by
  induction l with
  | nil => rfl
  | cons x r ih =>
    show (if x = 47 then [] :: splitG r else match splitG r with | [] => [[x]] | p :: q => (x :: p) :: q).length = _
    by_cases hx : x = 47
    · subst hx; rw [if_pos rfl, List.length_cons, ih, List.count_cons_self]
    · rw [if_neg hx, List.count_cons_of_ne (by simpa using hx)]
      obtain ⟨p, q, h⟩ := splitG_cut r
      rw [h] at ih ⊢
      simpa using ih
/-- strings.Split at / -/
theorem split_any (l : List UInt8) (w : World) (hl : l.length ≤ 4294967280) : Calls Tryd.prog 25 #[.string (strL l), .string ⟨#[47]⟩] w fun e w' =>
    e = .returned (.slice (some ⟨w.heap.size, 0, none⟩) (splitG l).length (splitG l).length) ∧ w' = w.alloc (.cells ((splitG l).map fun p => Value.string (strL p)).toArray 9) := by
  have hsz : (strL l).size = l.length := by simp [strL, ByteArray.size]
  have hd : (strL l).data.toList = l := by simp [strL]
  have hcb : Lib.countB (strL l) ⟨#[47]⟩ = l.count 47 := by
    show Lib.count (strL l).data.toList [47] = _
    rw [Lib.count_one, hd]
  have h1 : 1 ≤ (⟨#[47]⟩ : ByteArray).size := by decide
  have hle := Lib.countB_le ⟨#[47]⟩ h1 (strL l).size (strL l) (Nat.le_refl _)
  have hlen := Lib.splitB_all ⟨#[47]⟩ h1 0 _ (strL l) rfl
  have c := Any.strings_genSplit_core Tryd.lays221 (by kernel_rfl) (strL l) ⟨#[47]⟩ 0 (-1) (Lib.countB (strL l) ⟨#[47]⟩ + 1) w (by omega) h1 (Nat.zero_le _)
    (fun x c hx => (Any.strings_Index_one { Tryd.lays221 with } x 47 _).mono fun e w' ⟨he, hw⟩ => ⟨by rw [he]; show _ = Ending.returned (Value.int .i64 (Lib.index x.data.toList [47])); rw [Lib.index_one], hw⟩)
    ((Any.strings_Count_one { Tryd.lays221 with } (strL l) 47 w).mono fun e w' ⟨he, hw⟩ => ⟨by rw [he, hcb]; show Ending.returned (Value.int .i64 ((Lib.countByte (strL l).data.toList 47 : Nat) : Int)) = _; rw [hd]; rfl, hw⟩)
    (by decide) (by decide) (by rw [if_pos (by decide)]; omega)
  rw [Nat.add_sub_cancel, hlen] at c
  have e2 : Lib.cellsOf (Lib.splitB ⟨#[47]⟩ 0 (Lib.countB (strL l) ⟨#[47]⟩) (strL l)) (Lib.countB (strL l) ⟨#[47]⟩ + 1) = ((splitG l).map fun p => Value.string (strL p)).toArray := by
    rw [← hlen, Lib.cellsOf_full]
    have h3 := Lib.splitB_data ⟨#[47]⟩ 0 (Lib.countB (strL l) ⟨#[47]⟩) (strL l)
    rw [hd, hcb] at h3
    have h4 : Lib.splitK (⟨#[47]⟩ : ByteArray).data.toList 0 (l.count 47) l = splitG l := split_one l
    rw [h4] at h3
    rw [← h3, List.map_map, hcb]
    congr 1
  rw [e2] at c
  have e3 : Lib.countB (strL l) ⟨#[47]⟩ + 1 = (splitG l).length := by rw [hcb, splitG_len]
  rw [e3] at c
  have c : Calls Tryd.prog 41 #[.string (strL l), .string ⟨#[47]⟩, .int .i64 0, .int .i64 (-1)] w _ := c
  have HC := Lib.hid c
  clear c e2 e3 hle hlen hcb hsz hd h1 hl
  go_enter Tryd.func25, Tryd.ntmps25
  go_wp2_with fail
  refine HC.out.mono ?_
  rintro e w' ⟨rfl, hw⟩
  have HW := Lib.hid hw
  clear hw
  go_wp2_with fail
  go_ret
  exact ⟨rfl, HW.out⟩
end Go.Proofs.YtlddnghfjdjglaaDoor
