/- Plain laws of cutting: the first chunk hangs on its own bytes alone, where it does not end because all ends. -/
import Derived.Test.YtknbbekinpamjaaGearPlain
namespace Go.Proofs.Ytknbbekinpamjaa
open Go.RowKit

theorem nextL_local (mn mx bits : Int) : ∀ (l l' : List UInt8) (h : Int) (k : Nat), nextL mn mx bits h k l < k + l.length →
    l'.take (nextL mn mx bits h k l - k) = l.take (nextL mn mx bits h k l - k) → nextL mn mx bits h k l' = nextL mn mx bits h k l := by
  intro l
  induction l with
  | nil => intro l' h k hlt _; simp [nextL] at hlt
  | cons x r ih =>
    intro l' h k hlt ht
    by_cases hs : stopB mn mx bits (hashI h x) ((k + 1 : Nat) : Int) = true
    · have e : nextL mn mx bits h k (x :: r) = k + 1 := by unfold nextL; rw [if_pos hs]
      rw [e] at ht ⊢
      rw [show k + 1 - k = 1 by omega] at ht
      cases l' with
      | nil => simp at ht
      | cons y r' =>
        simp at ht
        subst ht
        unfold nextL; rw [if_pos hs]
    · have e : nextL mn mx bits h k (x :: r) = nextL mn mx bits (hashI h x) (k + 1) r := by conv => lhs; unfold nextL
                                                                                            rw [if_neg hs]
      rw [e] at hlt ht ⊢
      have hge := nextL_ge mn mx bits r (hashI h x) (k + 1)
      rw [show nextL mn mx bits (hashI h x) (k + 1) r - k = (nextL mn mx bits (hashI h x) (k + 1) r - (k + 1)) + 1 by omega] at ht
      cases l' with
      | nil => simp at ht
      | cons y r' =>
        simp only [List.take_succ_cons, List.cons.injEq] at ht
        obtain ⟨rfl, ht⟩ := ht
        have := ih r' (hashI h y) (k + 1) (by simp only [List.length_cons] at hlt; omega) ht
        conv => lhs; unfold nextL
        rw [if_neg hs, this]

/-- Chunks that end within a common beginning are the same. -/
theorem cut_common (mn mx bits : Int) : ∀ (i : Nat) (b c : List UInt8) (p : Nat), b.take p = c.take p → p < b.length →
    i < (cutL mn mx bits b).length → ((cutL mn mx bits b).take (i + 1)).sum ≤ p → (cutL mn mx bits c)[i]? = (cutL mn mx bits b)[i]? := by
  intro i
  induction i with
  | zero =>
    intro b c p ht hp hi hsum
    have hb : b ≠ [] := by intro h; subst h; simp at hp
    rw [cutL_cons mn mx bits hb] at hsum ⊢
    simp at hsum
    have h0 := nextL_pos mn mx bits b 0 hb
    have hloc := nextL_local mn mx bits b c 0 0 (by omega) (by
      have := congrArg (List.take (nextL mn mx bits 0 0 b)) ht
      simp only [List.take_take, Nat.min_eq_left hsum] at this
      simpa using this.symm)
    have hc : c ≠ [] := by
      intro h; rw [h] at ht
      have := congrArg List.length ht
      simp only [List.length_take, List.length_nil] at this
      omega
    rw [cutL_cons mn mx bits hc, hloc]
    simp
  | succ i ih =>
    intro b c p ht hp hi hsum
    have hb : b ≠ [] := by intro h; subst h; simp at hp
    rw [cutL_cons mn mx bits hb] at hsum hi ⊢
    simp only [List.take_succ_cons, List.sum_cons] at hsum
    have h0 := nextL_pos mn mx bits b 0 hb
    have hloc := nextL_local mn mx bits b c 0 0 (by omega) (by
      have := congrArg (List.take (nextL mn mx bits 0 0 b)) ht
      simp only [List.take_take, Nat.min_eq_left (show nextL mn mx bits 0 0 b ≤ p by omega)] at this
      simpa using this.symm)
    have hc : c ≠ [] := by
      intro h; rw [h] at ht
      have := congrArg List.length ht
      simp only [List.length_take, List.length_nil] at this
      omega
    rw [cutL_cons mn mx bits hc, hloc]
    simp only [List.getElem?_cons_succ]
    refine ih (b.drop _) (c.drop _) (p - nextL mn mx bits 0 0 b) ?_ (by rw [List.length_drop]; omega) (by simpa using hi) (by omega)
    rw [← List.drop_take, ← List.drop_take, ht]

theorem cut_sum (mn mx bits : Int) : ∀ (m : Nat) (b : List UInt8), b.length ≤ m → (cutL mn mx bits b).sum = b.length := by
  intro m
  induction m with
  | zero =>
    intro b hb
    have : b = [] := List.eq_nil_of_length_eq_zero (by omega)
    subst this
    rfl
  | succ m ih =>
    intro b hb
    by_cases hb0 : b = []
    · subst hb0; rfl
    · rw [cutL_cons mn mx bits hb0]
      have h0 := nextL_pos mn mx bits b 0 hb0
      have h1 := nextL_le mn mx bits b 0 0
      have := ih (b.drop (nextL mn mx bits 0 0 b)) (by rw [List.length_drop]; omega)
      rw [List.sum_cons, this, List.length_drop]
      omega

/-- Where bytes end at a chunk's end by their content, what stands behind is cut by itself. -/
theorem cut_behind (mn mx bits : Int) (T : List UInt8) (hT : T ≠ []) (rest : List UInt8) : ∀ (m : Nat) (a : List UInt8), a.length ≤ m →
    (cutL mn mx bits (a ++ T)).take (cutL mn mx bits a).length = cutL mn mx bits a → cutL mn mx bits (a ++ rest) = cutL mn mx bits a ++ cutL mn mx bits rest := by
  have hTl : 0 < T.length := List.length_pos_iff.2 hT
  intro m
  induction m with
  | zero =>
    intro a ha _
    have : a = [] := List.eq_nil_of_length_eq_zero (by omega)
    subst this
    simp [cutL_nil]
  | succ m ih =>
    intro a ha h
    by_cases ha0 : a = []
    · subst ha0; simp [cutL_nil]
    · have hat : a ++ T ≠ [] := by simp [ha0]
      have har : a ++ rest ≠ [] := by simp [ha0]
      rw [cutL_cons mn mx bits ha0, cutL_cons mn mx bits hat, List.length_cons, List.take_succ_cons] at h
      injection h with h1 h2
      have p1 := nextL_pos mn mx bits a 0 ha0
      have p2 := nextL_le mn mx bits a 0 0
      have hloc := nextL_local mn mx bits (a ++ T) (a ++ rest) 0 0 (by rw [h1, List.length_append]; omega) (by
        rw [h1, Nat.sub_zero, List.take_append_of_le_length (by omega), List.take_append_of_le_length (by omega)])
      rw [cutL_cons mn mx bits har, cutL_cons mn mx bits ha0, hloc, h1, List.cons_append]
      rw [h1, List.drop_append_of_le_length (by omega)] at h2
      rw [List.drop_append_of_le_length (by omega), ih _ (by rw [List.length_drop]; omega) h2]

theorem sum_take_le (L : List Nat) (i : Nat) : (L.take i).sum ≤ L.sum := by
  have h := congrArg List.sum (List.take_append_drop i L)
  rw [List.sum_append] at h
  omega

theorem sum_take_succ {L : List Nat} {i x : Nat} (h : L[i]? = some x) : (L.take (i + 1)).sum = (L.take i).sum + x := by
  rw [List.take_add_one, h, List.sum_append]
  simp
end Go.Proofs.Ytknbbekinpamjaa
