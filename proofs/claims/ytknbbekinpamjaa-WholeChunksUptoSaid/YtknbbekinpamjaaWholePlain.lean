/- WholeChunks, the plain law: behind a place at which both end a chunk the chunks are the same; and what the map of ends holds. -/
import Derived.Test.YtknbbekinpamjaaGearSplit
import Derived.Maps.OwnOps
import Derived.Maps.Views
set_option linter.unusedVariables false
namespace Go.Proofs.Ytknbbekinpamjaa
open Go.RowKit Go.Maps

/-- behind i chunks the rest is cut as if it stood alone -/
theorem cut_from (mn mx bits : Int) : ∀ (i : Nat) (l : List UInt8), i ≤ (cutL mn mx bits l).length → cutL mn mx bits (l.drop ((cutL mn mx bits l).take i).sum) = (cutL mn mx bits l).drop i
  | 0, l, _ => by simp
  | i + 1, l, h => by
    have hl : l ≠ [] := by rintro rfl; simp [cutL_nil] at h
    rw [cutL_cons mn mx bits hl] at h ⊢
    simp only [List.length_cons] at h
    simp only [List.take_succ_cons, List.sum_cons, List.drop_succ_cons]
    rw [← List.drop_drop]
    exact cut_from mn mx bits i _ (by omega)

theorem chunks_from : ∀ (D : List Nat) (l : List UInt8) (i : Nat), (chunksOf D l).drop i = chunksOf (D.drop i) (l.drop (D.take i).sum)
  | D, l, 0 => by simp
  | [], l, i + 1 => by simp [chunksOf]
  | n :: r, l, i + 1 => by
    simp only [chunksOf, List.drop_succ_cons, List.take_succ_cons, List.sum_cons]
    rw [chunks_from r (l.drop n) i, List.drop_drop]

/-- the bytes in the first i chunks -/
def lenTo (C : List (List UInt8)) (i : Nat) : Nat := (C.take i).flatten.length
theorem lenTo_zero (C : List (List UInt8)) : lenTo C 0 = 0 := by simp [lenTo]
theorem lenTo_succ {C : List (List UInt8)} {i : Nat} {c : List UInt8} (h : C[i]? = some c) : lenTo C (i + 1) = lenTo C i + c.length := by
  obtain ⟨hi, hc⟩ := List.getElem?_eq_some_iff.1 h
  unfold lenTo
  rw [List.take_add_one, h]
  simp
theorem lenTo_le (C : List (List UInt8)) (i : Nat) : lenTo C i ≤ C.flatten.length := by
  have h := congrArg (fun x => (List.flatten x).length) (List.take_append_drop i C)
  simp only [List.flatten_append, List.length_append] at h
  unfold lenTo
  omega

theorem lenTo_chunks : ∀ (D : List Nat) (l : List UInt8) (i : Nat), D.sum = l.length → i ≤ D.length → lenTo (chunksOf D l) i = (D.take i).sum
  | D, l, 0, _, _ => by simp [lenTo]
  | [], l, i + 1, _, h => by simp at h
  | n :: r, l, i + 1, hs, h => by
    simp only [List.length_cons] at h
    simp only [List.sum_cons] at hs
    have := lenTo_chunks r (l.drop n) i (by rw [List.length_drop]; omega) (by omega)
    unfold lenTo at this ⊢
    simp only [chunksOf, List.take_succ_cons, List.flatten_cons, List.length_append, List.length_take, List.sum_cons, this]
    omega

/-- the chunks of bytes -/
def chunkL (mn mx bits : Int) (l : List UInt8) : List (List UInt8) := chunksOf (cutL mn mx bits l) l

theorem chunkL_flat (mn mx bits : Int) (l : List UInt8) : (chunkL mn mx bits l).flatten = l := chunksOf_flat _ _ (cut_sum mn mx bits l.length l (Nat.le_refl _))

theorem chunkL_from (mn mx bits : Int) (l : List UInt8) (i : Nat) (hi : i ≤ (chunkL mn mx bits l).length) :
    (chunkL mn mx bits l).drop i = chunkL mn mx bits (l.drop (lenTo (chunkL mn mx bits l) i)) := by
  have hi' : i ≤ (cutL mn mx bits l).length := by simpa [chunkL, chunksOf_length] using hi
  unfold chunkL
  rw [chunks_from, lenTo_chunks _ _ _ (cut_sum mn mx bits l.length l (Nat.le_refl _)) hi', cut_from mn mx bits i l hi']

/-- THE LAW -/
theorem behind_same (mn mx bits : Int) (a b rest : List UInt8) (i k : Nat) (hi : i ≤ (chunkL mn mx bits (a ++ rest)).length) (hk : k ≤ (chunkL mn mx bits (b ++ rest)).length)
    (hat : (lenTo (chunkL mn mx bits (a ++ rest)) i : Int) - a.length = lenTo (chunkL mn mx bits (b ++ rest)) k - b.length) (h0 : (b.length : Int) ≤ lenTo (chunkL mn mx bits (b ++ rest)) k) :
    (chunkL mn mx bits (a ++ rest)).drop i = (chunkL mn mx bits (b ++ rest)).drop k := by
  rw [chunkL_from mn mx bits _ i hi, chunkL_from mn mx bits _ k hk]
  have e1 : (a ++ rest).drop (lenTo (chunkL mn mx bits (a ++ rest)) i) = rest.drop (lenTo (chunkL mn mx bits (a ++ rest)) i - a.length) := by
    rw [List.drop_append, List.drop_eq_nil_of_le (by omega), List.nil_append]
  have e2 : (b ++ rest).drop (lenTo (chunkL mn mx bits (b ++ rest)) k) = rest.drop (lenTo (chunkL mn mx bits (b ++ rest)) k - b.length) := by
    rw [List.drop_append, List.drop_eq_nil_of_le (by omega), List.nil_append]
  rw [e1, e2]
  congr 2
  omega

/-- the same, chunk by chunk -/
theorem behind_get {C D : List (List UInt8)} {i k : Nat} (h : C.drop i = D.drop k) : (C.length : Int) - i = D.length - k ∨ C.length < i ∨ D.length < k := by
  have := congrArg List.length h
  simp only [List.length_drop] at this
  omega
theorem behind_at {C D : List (List UInt8)} {i k : Nat} (h : C.drop i = D.drop k) (n : Nat) : C[i + n]? = D[k + n]? := by
  have := congrArg (fun l => l[n]?) h
  simpa using this

/-! ### the map of ends -/
/-- what the map says: 0, or how many chunks end at that place -/
def EndsD (C : List (List UInt8)) (n0 : Int) (k : Nat) (D : DataW Unit) : Prop :=
  ∀ z c : Int, D.atKey (.int .i64 z) (.lit (.int .i64 0)) = .lit (.int .i64 c) → c = 0 ∨ ∃ i : Nat, c = i ∧ 1 ≤ i ∧ i ≤ k ∧ (lenTo C i : Int) - n0 = z

theorem ends_nil (C : List (List UInt8)) (n0 : Int) : EndsD C n0 0 (.map []) := by
  intro z c h
  left
  have : (DataW.map [] : DataW Unit).atKey (.int .i64 z) (.lit (.int .i64 0)) = .lit (.int .i64 0) := rfl
  rw [this] at h
  injection h with h
  injection h with _ h
  exact h.symm

theorem ends_put {C : List (List UInt8)} {n0 : Int} {k : Nat} {D : DataW Unit} (hD : IsMap D) (h : EndsD C n0 k D) {z v : Int} (hz : (lenTo C (k + 1) : Int) - n0 = z) (hv : v = ((k + 1 : Nat) : Int)) (hwf : WideAt.IsKeyLit (.int .i64 z)) :
    EndsD C n0 (k + 1) (D.put (.int .i64 z) (.lit (.int .i64 v))) := by
  intro z' c hc
  by_cases hzz : z' = z
  · subst hzz
    rw [atKey_put_same hD hwf] at hc
    injection hc with hc
    injection hc with _ hc
    exact .inr ⟨k + 1, by rw [← hc, hv], by omega, Nat.le_refl _, hz⟩
  · rw [atKey_put_other (by intro e; injection e with _ e; exact hzz e)] at hc
    rcases h z' c hc with h | ⟨i, h1, h2, h3, h4⟩
    · exact .inl h
    · exact .inr ⟨i, h1, h2, by omega, h4⟩
end Go.Proofs.Ytknbbekinpamjaa
