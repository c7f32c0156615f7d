/- towlineref06.letter. -/
import Derived.Test.YtlddnghfjdjglaaDoorGlobPlain
import Derived.Test.YtlddnghfjdjglaaDoorRegion
import Derived.OwnWalk
set_option linter.unusedVariables false
set_option linter.unusedSimpArgs false
namespace Go.Proofs.YtlddnghfjdjglaaDoor
open Go.RowKit

/-- a byte of a text -/
theorem strL_at {l : List UInt8} {i : Nat} {x : UInt8} (h : l[i]? = some x) {q : ByteArray} (hq : q = strL l) (hi : i < q.size) : q[i] = x := by
  subst hq
  have h2 : l[i]? = some ((strL l)[i]) := by
    obtain ⟨h3, _⟩ := List.getElem?_eq_some_iff.1 h
    rw [List.getElem?_eq_getElem h3]; rfl
  rw [h] at h2; exact (Option.some.inj h2).symm
theorem strL_size (l : List UInt8) : (strL l).size = l.length := by simp [strL, ByteArray.size]
theorem u8_eq {x y : UInt8} (h : x = y) : ((x.toNat : Int) == (y.toNat : Int)) = true := by rw [h]; simp
theorem u8_ne {x y : UInt8} (h : x ≠ y) : ((x.toNat : Int) == (y.toNat : Int)) = false := by
  simp
  intro e
  exact h (UInt8.toNat_inj.1 (by omega))
/-- where a letter stands -/
def letAt (l : List UInt8) (at_ : Nat) : Option (UInt8 × Nat) := match l[at_]? with
  | none => none
  | some x => if x = 92 then (match l[at_ + 1]? with | none => none | some y => some (y, at_ + 2)) else some (x, at_ + 1)
theorem letAt_eq (l : List UInt8) (i : Nat) : letterG (l.drop i) = (letAt l i).map fun p => (p.1, l.drop p.2) := by
  unfold letAt
  cases h : l[i]? with
  | none =>
    have : l.drop i = [] := List.drop_eq_nil_of_le (List.getElem?_eq_none_iff.1 h)
    rw [this]; rfl
  | some x =>
    rw [drop_cons h]
    show (if x = 92 then nextG (l.drop (i + 1)) else some (x, l.drop (i + 1))) = _
    by_cases h92 : x = 92
    · rw [if_pos h92]
      simp only [h92, if_true]
      cases h2 : l[i + 1]? with
      | none =>
        have : l.drop (i + 1) = [] := List.drop_eq_nil_of_le (List.getElem?_eq_none_iff.1 h2)
        rw [this]; rfl
      | some y => rw [drop_cons h2]; rfl
    · rw [if_neg h92]
      simp only [if_neg h92]; rfl
theorem letAt_lt {l : List UInt8} {i k : Nat} {x : UInt8} (h : letAt l i = some (x, k)) : i < k ∧ k ≤ l.length := by
  unfold letAt at h
  cases h1 : l[i]? with
  | none => rw [h1] at h; cases h
  | some y =>
    obtain ⟨h3, _⟩ := List.getElem?_eq_some_iff.1 h1
    rw [h1] at h
    simp only [] at h
    split at h
    · cases h2 : l[i + 1]? with
      | none => rw [h2] at h; cases h
      | some z =>
        obtain ⟨h4, _⟩ := List.getElem?_eq_some_iff.1 h2
        rw [h2] at h
        injection h with h; injection h with _ h; omega
    · injection h with h; injection h with _ h; omega
def LetPost (l : List UInt8) (i : Nat) (w : World) (e : Ending) (w' : World) : Prop := w' = w ∧ match letAt l i with
  | none => ∃ z : Int, e = .returned (.tuple #[.int .u8 0, .int .i64 z, .bool false])
  | some (x, k) => e = .returned (.tuple #[.int .u8 (x.toNat : Int), .int .i64 (k : Int), .bool true])

set_option maxRecDepth 100000 in
set_option maxHeartbeats 1000000 in
theorem refLetter_any (l : List UInt8) (i : Nat) (w : World) (hl : l.length ≤ 4294967280) (hi : i ≤ l.length) :
    Calls Tryd.prog 45 #[.string (strL l), .int .i64 (i : Int)] w (LetPost l i w) := by
  obtain ⟨M, hM⟩ : ∃ M, M = l.length := ⟨_, rfl⟩
  rw [← hM] at hl hi
  obtain ⟨q, hq⟩ : ∃ q, q = strL l := ⟨_, rfl⟩
  rw [← hq]
  have hqM : q.size = M := by rw [hq, strL_size, hM]
  by_cases h1 : i < M
  · have h1I : (i : Int) < (M : Int) := by omega
    obtain ⟨x, hx⟩ : ∃ x, l[i]? = some x := ⟨_, List.getElem?_eq_getElem (by omega)⟩
    have hiq : i < q.size := by omega
    have hqx : q[i] = x := strL_at hx hq hiq
    by_cases h92 : x = 92
    · have hx92 : ((x.toNat : Int) == 92) = true := by rw [h92]; rfl
      by_cases h2 : i + 1 < M
      · obtain ⟨y, hy⟩ : ∃ y, l[i + 1]? = some y := ⟨_, List.getElem?_eq_getElem (by omega)⟩
        have hiq2 : i + 1 < q.size := by omega
        have hqy : q[i + 1] = y := strL_at hy hq hiq2
        have HP := Lib.hid (show letAt l i = some (y, i + 2) by unfold letAt; rw [hx]; simp only [h92, if_true, hy])
        have h2I : ¬ (M : Int) ≤ (i : Int) + 1 := by omega
        have h2J : (i : Int) + 1 < (M : Int) := by omega
        have h2K : (0 : Int) ≤ (i : Int) + 1 := by omega
        have h2L : ((i : Int) + 1).toNat = i + 1 := by omega
        clear hx hy hq hM h92
        go_enter Tryd.func45, Tryd.ntmps45
        go_wp2_with fail
        go_ret3
        unfold LetPost
        rw [HP.out]
        refine ⟨rfl, ?_⟩
        show _ = Ending.returned (.tuple #[.int .u8 (y.toNat : Int), .int .i64 ((i + 2 : Nat) : Int), .bool true])
        congr 3
      · have HP := Lib.hid (show letAt l i = none by
          unfold letAt; rw [hx]; simp only [h92, if_true]; rw [List.getElem?_eq_none (by omega)])
        have h2I : (M : Int) ≤ (i : Int) + 1 := by omega
        clear hx hq hM h92
        go_enter Tryd.func45, Tryd.ntmps45
        go_wp2_with fail
        go_ret3
        unfold LetPost
        rw [HP.out]
        exact ⟨rfl, _, rfl⟩
    · have hx92 : ((x.toNat : Int) == 92) = false := u8_ne (y := 92) h92
      have HP := Lib.hid (show letAt l i = some (x, i + 1) by unfold letAt; rw [hx]; simp only [if_neg h92])
      have h2I : ¬ (M : Int) ≤ (i : Int) := by omega
      clear hx hq hM h92
      go_enter Tryd.func45, Tryd.ntmps45
      go_wp2_with fail
      go_ret3
      unfold LetPost
      rw [HP.out]
      refine ⟨rfl, ?_⟩
      show _ = Ending.returned (.tuple #[.int .u8 (x.toNat : Int), .int .i64 ((i + 1 : Nat) : Int), .bool true])
      congr 3
  · have h1I : ¬ (i : Int) < (M : Int) := by omega
    have h2I : (M : Int) ≤ (i : Int) := by omega
    have HP := Lib.hid (show letAt l i = none by unfold letAt; rw [List.getElem?_eq_none (by omega)])
    clear hq hM
    go_enter Tryd.func45, Tryd.ntmps45
    go_wp2_with fail
    go_ret3
    unfold LetPost
    rw [HP.out]
    exact ⟨rfl, _, rfl⟩
end Go.Proofs.YtlddnghfjdjglaaDoor
