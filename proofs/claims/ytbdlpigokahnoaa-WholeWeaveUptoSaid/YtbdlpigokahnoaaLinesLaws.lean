/- Plain laws on differences of lists: there and back, what both begin with, the longest list. -/
import Derived.Test.YtbdlpigokahnoaaLinesDiff
import Derived.Test.YtbdlpigokahnoaaLinesPatch
set_option linter.unusedVariables false
namespace Go.Proofs.Ytbdlpigokahnoaa
open Go.RowKit

/-- pairs of like lines in the order of both lists, the two ends behind them -/
def Good (a b : List ByteArray) : Nat → Nat → List (Nat × Nat) → Prop
  | _, _, [] => False
  | i, k, [p] => p = (a.length, b.length) ∧ i ≤ a.length ∧ k ≤ b.length
  | i, k, p :: q :: r => i ≤ p.1 ∧ k ≤ p.2 ∧ p.1 < a.length ∧ p.2 < b.length ∧ a[p.1]? = b[p.2]? ∧ Good a b (p.1 + 1) (p.2 + 1) (q :: r)

theorem Rising.good {a b : List ByteArray} : ∀ {l : List (Nat × Nat)} {i k : Nat}, Rising a b i k l → i ≤ a.length → k ≤ b.length → Good a b i k (l ++ [(a.length, b.length)])
  | [], i, k, _, hi, hk => ⟨rfl, hi, hk⟩
  | [p], i, k, ⟨h1, h2, h3, h4, h5, h6⟩, hi, hk => ⟨h1, h2, h3, h4, h5, h6.good (by omega) (by omega)⟩
  | p :: q :: r, i, k, ⟨h1, h2, h3, h4, h5, h6⟩, hi, hk => ⟨h1, h2, h3, h4, h5, h6.good (by omega) (by omega)⟩
theorem allPairs_good (a b : List ByteArray) : Good a b 0 0 (allPairs a b) := (pairsAt_rising a b 0 0).good (Nat.zero_le _) (Nat.zero_le _)

theorem take_more (a : List ByteArray) {i' i : Nat} {x : ByteArray} (h : i' ≤ i) (hx : a[i]? = some x) : (a.drop i').take (i + 1 - i') = (a.drop i').take (i - i') ++ [x] := by
  rw [show i + 1 - i' = (i - i') + 1 from by omega, List.take_add_one, List.getElem?_drop, show i' + (i - i') = i from by omega, hx]; rfl

theorem patch_there {a b : List ByteArray} : ∀ (l : List (Nat × Nat)) (i' i k : Nat), i' ≤ i → Good a b i k l → patchG a i' (hunksG a b i k l) = some ((a.drop i').take (i - i') ++ b.drop k)
  | [], _, _, _, _, h => h.elim
  | [p], i', i, k, hi, ⟨hp, h1, h2⟩ => by
    subst hp
    have hlen : ((a.drop i).take (a.length - i)).length = a.length - i := by rw [List.length_take, List.length_drop]; omega
    by_cases h : i < a.length ∨ k < b.length
    · rw [hunksG_yes h, patchG_ok (by omega) (by omega) (by rw [hlen]; omega) (by rw [hlen]), hlen]
      simp only [hunksG, patchG, Option.map_some]
      rw [show i + (a.length - i) = a.length from by omega, List.drop_length, List.append_nil, List.take_of_length_le (l := b.drop k) (by rw [List.length_drop]; omega)]
    · rw [hunksG_no h]
      simp only [hunksG, patchG]
      rw [show b.drop k = [] from List.drop_eq_nil_of_le (by omega), List.append_nil, List.take_of_length_le (by rw [List.length_drop]; omega)]
  | p :: q :: r, i', i, k, hi, ⟨h1, h2, h3, h4, h5, h6⟩ => by
    obtain ⟨p1, p2⟩ := p
    simp only at h1 h2 h3 h4 h5 h6
    have hx : a[p1]? = some (a[p1]) := List.getElem?_eq_getElem h3
    have hy : b[p2]? = some (a[p1]) := by rw [← h5]; exact hx
    have hb : ∀ j, j ≤ p2 → b.drop j = (b.drop j).take (p2 - j) ++ (a[p1] :: b.drop (p2 + 1)) := fun j hj => by
      have : b.drop p2 = a[p1] :: b.drop (p2 + 1) := drop_cons hy
      have h := List.take_append_drop (p2 - j) (b.drop j)
      rw [List.drop_drop, show j + (p2 - j) = p2 from by omega, this] at h
      exact h.symm
    by_cases h : i < p1 ∨ k < p2
    · have hlen : ((a.drop i).take (p1 - i)).length = p1 - i := by rw [List.length_take, List.length_drop]; omega
      rw [hunksG_yes h, patchG_ok (by omega) (by omega) (by rw [hlen]; omega) (by rw [hlen]), hlen, show i + (p1 - i) = p1 from by omega]
      rw [patch_there (q :: r) p1 (p1 + 1) (p2 + 1) (by omega) h6, Option.map_some, take_more a (Nat.le_refl p1) hx, Nat.sub_self, List.take_zero, List.nil_append]
      conv => rhs; rw [hb k h2]
      simp
    · obtain rfl : i = p1 := by omega
      obtain rfl : k = p2 := by omega
      rw [hunksG_no h, patch_there (q :: r) i' (i + 1) (k + 1) (by omega) h6, take_more a hi hx, hb k (Nat.le_refl _)]
      simp

theorem diff_there (a b : List ByteArray) : patchG a 0 (diffG a b) = some b := by
  have := patch_there (a := a) (b := b) (allPairs a b) 0 0 0 (Nat.le_refl _) (allPairs_good a b)
  simpa [diffG] using this

/-! ### back -/
def backG : Int → List Hk → List Hk
  | _, [] => []
  | mv, h :: r => (h.1 + mv, h.2.2, h.2.1) :: backG (mv + ((h.2.2.length : Int) - (h.2.1.length : Int))) r

theorem Good.swap {a b : List ByteArray} : ∀ (l : List (Nat × Nat)) (i k : Nat), Good a b i k l → Good b a k i (l.map Prod.swap)
  | [], _, _, h => h.elim
  | [p], i, k, ⟨hp, h1, h2⟩ => by subst hp; exact ⟨rfl, h2, h1⟩
  | p :: q :: r, i, k, ⟨h1, h2, h3, h4, h5, h6⟩ => ⟨h2, h1, h4, h3, h5.symm, Good.swap (q :: r) _ _ h6⟩

theorem Good.step {a b : List ByteArray} {i k : Nat} {p : Nat × Nat} {r : List (Nat × Nat)} (h : Good a b i k (p :: r)) : i ≤ p.1 ∧ k ≤ p.2 ∧ p.1 ≤ a.length ∧ p.2 ≤ b.length ∧ (r = [] ∨ Good a b (p.1 + 1) (p.2 + 1) r) := by
  cases r with
  | nil => obtain ⟨rfl, h1, h2⟩ := h; exact ⟨h1, h2, Nat.le_refl _, Nat.le_refl _, .inl rfl⟩
  | cons q r => obtain ⟨h1, h2, h3, h4, _, h6⟩ := h; exact ⟨h1, h2, by omega, by omega, .inr h6⟩

theorem back_hunks {a b : List ByteArray} : ∀ (l : List (Nat × Nat)) (i k : Nat), Good a b i k l → backG ((k : Int) - (i : Int)) (hunksG a b i k l) = hunksG b a k i (l.map Prod.swap)
  | [], _, _, h => h.elim
  | p :: r, i, k, hg => by
    obtain ⟨p1, p2⟩ := p
    obtain ⟨h1, h2, h3, h4, h5⟩ := hg.step
    simp only at h1 h2 h3 h4 h5
    have hrest : backG (((p2 + 1 : Nat) : Int) - ((p1 + 1 : Nat) : Int)) (hunksG a b (p1 + 1) (p2 + 1) r) = hunksG b a (p2 + 1) (p1 + 1) (r.map Prod.swap) := by
      rcases h5 with rfl | h5
      · rfl
      · exact back_hunks r _ _ h5
    have la : ((a.drop i).take (p1 - i)).length = p1 - i := by rw [List.length_take, List.length_drop]; omega
    have lb : ((b.drop k).take (p2 - k)).length = p2 - k := by rw [List.length_take, List.length_drop]; omega
    simp only [List.map_cons, Prod.swap]
    by_cases h : i < p1 ∨ k < p2
    · rw [hunksG_yes h, hunksG_yes (show k < p2 ∨ i < p1 from h.symm), backG]
      simp only
      rw [la, lb, show (k : Int) - (i : Int) + (((p2 - k : Nat) : Int) - ((p1 - i : Nat) : Int)) = ((p2 + 1 : Nat) : Int) - ((p1 + 1 : Nat) : Int) from by omega, hrest, show (i : Int) + ((k : Int) - (i : Int)) = (k : Int) from by omega]
    · rw [hunksG_no h, hunksG_no (show ¬ (k < p2 ∨ i < p1) from fun e => h e.symm), ← hrest, show (k : Int) - (i : Int) = ((p2 + 1 : Nat) : Int) - ((p1 + 1 : Nat) : Int) from by omega]

theorem diff_back (a b : List ByteArray) : patchG b 0 (backG 0 (diffG a b)) = some a := by
  have h1 := back_hunks (a := a) (b := b) (allPairs a b) 0 0 (allPairs_good a b)
  have h2 := patch_there (a := b) (b := a) ((allPairs a b).map Prod.swap) 0 0 0 (Nat.le_refl _) (Good.swap _ _ _ (allPairs_good a b))
  rw [← h1] at h2
  simpa [diffG] using h2

/-! ### no difference -/
theorem pairsAt_self (a : List ByteArray) : ∀ (f i : Nat), a.length - i ≤ f → i ≤ a.length → hunksG a a i i (pairsAt a a i i ++ [(a.length, a.length)]) = []
  | 0, i, hf, hi => by
    obtain rfl : i = a.length := by omega
    rw [pairsAt_end (by omega), List.nil_append, hunksG_no (by omega)]; rfl
  | f + 1, i, hf, hi => by
    by_cases h : i < a.length
    · have hx : a[i]? = some a[i] := List.getElem?_eq_getElem h
      rw [pairsAt_eq hx hx, List.cons_append, hunksG_no (by omega)]
      exact pairsAt_self a f (i + 1) (by omega) (by omega)
    · rw [pairsAt_end (by omega), List.nil_append, hunksG_no (by omega)]; rfl
theorem diff_self (a : List ByteArray) : diffG a a = [] := pairsAt_self a a.length 0 (by omega) (by omega)
theorem diff_nil {a b : List ByteArray} (h : diffG a b = []) : a = b := by
  have h1 := diff_there a b
  rw [h] at h1
  simpa [patchG] using h1

/-! ### how great a difference is -/
def oldSum (hs : List Hk) : Nat := (hs.map fun h => h.2.1.length).sum
theorem hunks_size {a b : List ByteArray} : ∀ (l : List (Nat × Nat)) (i k : Nat), Good a b i k l → newSum (hunksG a b i k l) + k ≤ b.length ∧ oldSum (hunksG a b i k l) + i ≤ a.length ∧ ∀ h ∈ hunksG a b i k l, 0 ≤ h.1 ∧ h.1 ≤ (a.length : Int)
  | [], _, _, h => h.elim
  | p :: r, i, k, hg => by
    obtain ⟨p1, p2⟩ := p
    obtain ⟨h1, h2, h3, h4, h5⟩ := hg.step
    simp only at h1 h2 h3 h4 h5
    have hrest : newSum (hunksG a b (p1 + 1) (p2 + 1) r) + p2 ≤ b.length ∧ oldSum (hunksG a b (p1 + 1) (p2 + 1) r) + p1 ≤ a.length ∧ ∀ h ∈ hunksG a b (p1 + 1) (p2 + 1) r, 0 ≤ h.1 ∧ h.1 ≤ (a.length : Int) := by
      rcases h5 with rfl | h5
      · simp [hunksG, newSum, oldSum]; omega
      · obtain ⟨q1, q2, q3⟩ := hunks_size r _ _ h5
        exact ⟨by omega, by omega, q3⟩
    obtain ⟨q1, q2, q3⟩ := hrest
    have la : ((a.drop i).take (p1 - i)).length = p1 - i := by rw [List.length_take, List.length_drop]; omega
    have lb : ((b.drop k).take (p2 - k)).length = p2 - k := by rw [List.length_take, List.length_drop]; omega
    by_cases h : i < p1 ∨ k < p2
    · rw [hunksG_yes h]
      refine ⟨?_, ?_, fun x hx => ?_⟩
      · simp only [newSum, List.map_cons, List.sum_cons, lb] at *; omega
      · simp only [oldSum, List.map_cons, List.sum_cons, la] at *; omega
      · rcases List.mem_cons.1 hx with rfl | hx
        · simp only; omega
        · exact q3 x hx
    · rw [hunksG_no h]
      exact ⟨by omega, by omega, q3⟩
theorem diff_size (a b : List ByteArray) : newSum (diffG a b) ≤ b.length ∧ oldSum (diffG a b) ≤ a.length ∧ ∀ h ∈ diffG a b, 0 ≤ h.1 ∧ h.1 ≤ (a.length : Int) := hunks_size _ 0 0 (allPairs_good a b)
theorem backG_length : ∀ (mv : Int) (l : List Hk), (backG mv l).length = l.length
  | _, [] => rfl
  | mv, h :: r => by simp [backG, backG_length]
theorem backG_new : ∀ (mv : Int) (l : List Hk), newSum (backG mv l) = oldSum l
  | _, [] => rfl
  | mv, h :: r => by
    have := backG_new (mv + ((h.2.2.length : Int) - (h.2.1.length : Int))) r
    simp only [backG, newSum, oldSum, List.map_cons, List.sum_cons] at *
    omega

/-! ### what both begin with -/
theorem drop_head (h a : List ByteArray) (i : Nat) : (h ++ a).drop (h.length + i) = a.drop i := by
  rw [← List.drop_drop, List.drop_left]
theorem get_head (h a : List ByteArray) (i : Nat) : (h ++ a)[h.length + i]? = a[i]? := by
  rw [List.getElem?_append_right (by omega)]; congr 1; omega
theorem Lc_head (h a b : List ByteArray) (i k : Nat) : Lc (h ++ a) (h ++ b) (h.length + i) (h.length + k) = Lc a b i k := by
  unfold Lc; rw [drop_head, drop_head]
def shiftP (n : Nat) (p : Nat × Nat) : Nat × Nat := (n + p.1, n + p.2)
theorem pairs_head (h a b : List ByteArray) (i k : Nat) : pairsAt (h ++ a) (h ++ b) (h.length + i) (h.length + k) = (pairsAt a b i k).map (shiftP h.length) := by
  fun_induction pairsAt a b i k with
  | case1 i k hh he ih =>
    have hx : a[i]? = some a[i] := List.getElem?_eq_getElem hh.1
    have hy : b[k]? = some a[i] := by rw [List.getElem?_eq_getElem hh.2, he]
    rw [pairsAt_eq (x := a[i]) (by rw [get_head]; exact hx) (by rw [get_head]; exact hy), List.map_cons, ← ih]
    rfl
  | case2 i k hh he hc ih =>
    have hx : a[i]? = some a[i] := List.getElem?_eq_getElem hh.1
    have hy : b[k]? = some b[k] := List.getElem?_eq_getElem hh.2
    rw [pairsAt_a (by rw [get_head]; exact hx) (by rw [get_head]; exact hy) he (by rw [show h.length + k + 1 = h.length + (k + 1) from by omega, show h.length + i + 1 = h.length + (i + 1) from by omega, Lc_head, Lc_head]; exact hc), ← ih]
    rfl
  | case3 i k hh he hc ih =>
    have hx : a[i]? = some a[i] := List.getElem?_eq_getElem hh.1
    have hy : b[k]? = some b[k] := List.getElem?_eq_getElem hh.2
    rw [pairsAt_b (by rw [get_head]; exact hx) (by rw [get_head]; exact hy) he (by rw [show h.length + k + 1 = h.length + (k + 1) from by omega, show h.length + i + 1 = h.length + (i + 1) from by omega, Lc_head, Lc_head]; exact hc), ← ih]
    rfl
  | case4 i k hh => rw [pairsAt_end (by simp only [List.length_append]; omega)]; rfl
def shiftH (n : Nat) (x : Hk) : Hk := (x.1 + (n : Int), x.2.1, x.2.2)
theorem hunks_head (h a b : List ByteArray) : ∀ (l : List (Nat × Nat)) (i k : Nat), hunksG (h ++ a) (h ++ b) (h.length + i) (h.length + k) (l.map (shiftP h.length)) = (hunksG a b i k l).map (shiftH h.length)
  | [], i, k => rfl
  | p :: r, i, k => by
    have ih := hunks_head h a b r (p.1 + 1) (p.2 + 1)
    simp only [List.map_cons, shiftP]
    by_cases hc : i < p.1 ∨ k < p.2
    · rw [hunksG_yes (show h.length + i < h.length + p.1 ∨ h.length + k < h.length + p.2 from by omega)]
      obtain ⟨p1, p2⟩ := p
      rw [hunksG_yes hc, List.map_cons, drop_head, drop_head, show h.length + p1 - (h.length + i) = p1 - i from by omega, show h.length + p2 - (h.length + k) = p2 - k from by omega]
      simp only at ih
      rw [show h.length + p1 + 1 = h.length + (p1 + 1) from by omega, show h.length + p2 + 1 = h.length + (p2 + 1) from by omega, ih]
      congr 1
      simp only [shiftH, Prod.mk.injEq, and_true]
      omega
    · rw [hunksG_no (show ¬ (h.length + i < h.length + p.1 ∨ h.length + k < h.length + p.2) from by omega)]
      obtain ⟨p1, p2⟩ := p
      rw [hunksG_no hc]
      exact ih
theorem hunks_lead (h a b : List ByteArray) : ∀ (f i : Nat), h.length - i ≤ f → i ≤ h.length → ∀ t, hunksG (h ++ a) (h ++ b) i i (pairsAt (h ++ a) (h ++ b) i i ++ t) = hunksG (h ++ a) (h ++ b) h.length h.length (pairsAt (h ++ a) (h ++ b) h.length h.length ++ t)
  | 0, i, hf, hi, t => by obtain rfl : i = h.length := by omega
                          rfl
  | f + 1, i, hf, hi, t => by
    by_cases hlt : i < h.length
    · have hx : ∀ l : List ByteArray, (h ++ l)[i]? = some h[i] := fun l => by rw [List.getElem?_append_left hlt]; exact List.getElem?_eq_getElem hlt
      rw [pairsAt_eq (hx a) (hx b), List.cons_append, hunksG_no (by omega)]
      exact hunks_lead h a b f (i + 1) (by omega) (by omega) t
    · obtain rfl : i = h.length := by omega
      rfl
theorem diff_head (h a b : List ByteArray) : diffG (h ++ a) (h ++ b) = (diffG a b).map (shiftH h.length) := by
  unfold diffG allPairs
  rw [hunks_lead h a b h.length 0 (by omega) (by omega)]
  have h1 := pairs_head h a b 0 0
  have h2 := hunks_head h a b (pairsAt a b 0 0 ++ [(a.length, b.length)]) 0 0
  simp only [Nat.add_zero] at h1 h2
  rw [h1, ← h2]
  simp [shiftP]

/-! ### no longer one -/
theorem Lc_mono (a b : List ByteArray) (i k : Nat) : Lc a b (i + 1) k ≤ Lc a b i k ∧ Lc a b i (k + 1) ≤ Lc a b i k := by
  by_cases hi : i < a.length
  · have hx : a[i]? = some a[i] := List.getElem?_eq_getElem hi
    by_cases hk : k < b.length
    · have hy : b[k]? = some b[k] := List.getElem?_eq_getElem hk
      exact ⟨(Lc_near hx hy).2.2.1, (Lc_near hx hy).2.2.2⟩
    · rw [Lc_right (by omega), Lc_right (by omega : b.length ≤ k + 1)]; omega
  · rw [Lc_left (by omega : a.length ≤ i + 1), Lc_left (by omega : a.length ≤ i)]
    exact ⟨Nat.zero_le _, by rw [Lc_left (by omega)]; exact Nat.le_refl _⟩
theorem Lc_took {a b : List ByteArray} {i k : Nat} {x : ByteArray} (h : a[i]? = some x) (h' : b[k]? = some x) : Lc a b (i + 1) (k + 1) + 1 = Lc a b i k := (Lc_eq h h').symm
end Go.Proofs.Ytbdlpigokahnoaa
