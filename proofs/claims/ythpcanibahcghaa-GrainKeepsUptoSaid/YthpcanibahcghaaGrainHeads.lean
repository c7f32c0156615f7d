/- grain, plain: heads written are read again, and the other way round. -/
import Derived.Test.YthpcanibahcghaaGrainPlain
set_option linter.unusedVariables false
namespace Go.Proofs.Ythpcanibahcghaa
open Go.RowKit

theorem u8_ofNat {n : Nat} (h : n < 256) : (UInt8.ofNat n).toNat = n := by simp [UInt8.toNat_ofNat']; omega
theorem u8_lt (x : UInt8) : x.toNat < 256 := x.toNat_lt
theorem u8_ext {x y : UInt8} (h : x.toNat = y.toNat) : x = y := UInt8.toNat_inj.1 h

theorem rdT_end {s n : Nat} {x : UInt8} {l : List UInt8} (hx : x.toNat < 128) : rdT s n x l = .ok (n, l) := by
  have : x < 128 := by rw [UInt8.lt_iff_toNat_lt]; exact hx
  cases l <;> simp [rdT, this]
theorem rdT_short {s n : Nat} {x : UInt8} (hx : ¬ x.toNat < 128) : rdT s n x [] = .error 20 := by
  have : ¬ x < 128 := by rw [UInt8.lt_iff_toNat_lt]; exact hx
  simp [rdT, this]
theorem rdT_more {s n : Nat} {x y : UInt8} {l : List UInt8} (hx : ¬ x.toNat < 128) : rdT s n x (y :: l) = if y.toNat = 0 ∨ (s = 61 ∧ 7 < y.toNat) then .error 21 else rdT (s + 7) (n + y.toNat % 128 * 2 ^ s) y l := by
  have h1 : ¬ x < 128 := by rw [UInt8.lt_iff_toNat_lt]; exact hx
  have h2 : y = 0 ↔ y.toNat = 0 := ⟨fun h => by rw [h]; rfl, fun h => u8_ext h⟩
  have h3 : 7 < y ↔ 7 < y.toNat := by rw [UInt8.lt_iff_toNat_lt]; rfl
  rw [rdT, if_neg h1]
  simp only [h2, h3]

theorem tailL_zero (x : Nat) : tailL x 0 = [UInt8.ofNat x] := by rw [tailL]; simp
theorem tailL_pos (x : Nat) {n : Nat} (h : n ≠ 0) : tailL x n = UInt8.ofNat (x + 128) :: tailL (n % 128) (n / 128) := by rw [tailL, if_neg h]
theorem tailL_ne (x n : Nat) : tailL x n ≠ [] := by
  by_cases h : n = 0
  · subst h; rw [tailL_zero]; simp
  · rw [tailL_pos x h]; simp

theorem rdT_tail : ∀ (m s a x : Nat) (r : List UInt8), x < 128 → m * 2 ^ s < 2 ^ 64 → ∃ b t, tailL x m = b :: t ∧ b.toNat % 128 = x ∧ (b.toNat = 0 → m = 0 ∧ x = 0) ∧ (m = 0 → b.toNat = x) ∧ rdT s a b (t ++ r) = .ok (a + m * 2 ^ s, r) := by
  intro m
  induction m using Nat.strongRecOn with
  | _ m ih =>
    intro s a x r hx hm
    by_cases h0 : m = 0
    · subst h0
      refine ⟨UInt8.ofNat x, [], tailL_zero x, ?_, ?_, ?_, ?_⟩
      · rw [u8_ofNat (by omega)]; omega
      · rw [u8_ofNat (by omega)]; exact fun h => ⟨rfl, h⟩
      · rw [u8_ofNat (by omega)]; exact fun _ => rfl
      · rw [rdT_end (by rw [u8_ofNat (by omega)]; omega)]; simp
    · have hq : m / 128 * 2 ^ (s + 7) ≤ m * 2 ^ s := by
        rw [Nat.pow_add, Nat.mul_comm (2 ^ s), ← Nat.mul_assoc]
        exact Nat.mul_le_mul_right _ (Nat.div_mul_le_self m 128)
      obtain ⟨b, t, e1, e2, e3, e4, e5⟩ := ih (m / 128) (by omega) (s + 7) (a + m % 128 * 2 ^ s) (m % 128) r (by omega) (by omega)
      refine ⟨UInt8.ofNat (x + 128), tailL (m % 128) (m / 128), tailL_pos x h0, ?_, ?_, fun h => absurd h h0, ?_⟩
      · rw [u8_ofNat (by omega)]; omega
      · rw [u8_ofNat (by omega)]; omega
      · rw [e1, List.cons_append, rdT_more (by rw [u8_ofNat (by omega)]; omega), if_neg, e2, e5]
        · congr 2
          have : m * 2 ^ s = m % 128 * 2 ^ s + m / 128 * 2 ^ (s + 7) := by
            rw [Nat.pow_add, Nat.mul_comm (2 ^ s), ← Nat.mul_assoc, ← Nat.add_mul]
            congr 1
            omega
          omega
        · rintro (h | ⟨rfl, h⟩)
          · have := e3 h; omega
          · have h8 : m < 8 := by
              apply Nat.lt_of_not_le
              intro hc
              have := Nat.mul_le_mul_right (2 ^ 61) hc
              omega
            have := e4 (by omega)
            omega

theorem headL_read {k n : Nat} (r : List UInt8) (hk : k < 4) (hn : n < 2 ^ 64) : rdH (headL k n ++ r) = .ok (k, n, r) := by
  unfold headL
  obtain ⟨b, t, e1, e2, e3, e4, e5⟩ := rdT_tail (n / 32) 5 (n % 32) (n % 32 * 4 + k) r (by omega) (by omega)
  rw [e1, List.cons_append]
  have hb : b.toNat / 4 % 32 = n % 32 := by omega
  have hb2 : b.toNat % 4 = k := by omega
  rw [rdH, hb, e5, hb2]
  have : n % 32 + n / 32 * 2 ^ 5 = n := by omega
  simp [this]

theorem rdT_back : ∀ (l : List UInt8) (s n : Nat) (x : UInt8) (n' : Nat) (r : List UInt8), rdT s n x l = .ok (n', r) → s % 7 = 5 → s ≤ 61 ∨ x.toNat < 128 → (s ≤ 61 → n < 2 ^ s) → (¬ s ≤ 61 → n < 2 ^ 64) →
    ∃ m, n' = n + m * 2 ^ s ∧ x :: l = tailL (x.toNat % 128) m ++ r ∧ n' < 2 ^ 64 := by
  intro l
  induction l with
  | nil =>
    intro s n x n' r h hs h61 hn hn2
    by_cases hx : x.toNat < 128
    · rw [rdT_end hx] at h
      injection h with h
      injection h with h1 h2
      subst h1 h2
      refine ⟨0, by omega, ?_, ?_⟩
      · rw [tailL_zero]
        have : UInt8.ofNat (x.toNat % 128) = x := u8_ext (by rw [u8_ofNat (by omega)]; omega)
        simp [this]
      · by_cases h6 : s ≤ 61
        · exact Nat.lt_of_lt_of_le (hn h6) (Nat.pow_le_pow_right (by omega) (by omega))
        · exact hn2 h6
    · rw [rdT_short hx] at h; cases h
  | cons y l ih =>
    intro s n x n' r h hs h61 hn hn2
    by_cases hx : x.toNat < 128
    · rw [rdT_end hx] at h
      injection h with h
      injection h with h1 h2
      subst h1 h2
      refine ⟨0, by omega, ?_, ?_⟩
      · rw [tailL_zero]
        have : UInt8.ofNat (x.toNat % 128) = x := u8_ext (by rw [u8_ofNat (by omega)]; omega)
        simp [this]
      · by_cases h6 : s ≤ 61
        · exact Nat.lt_of_lt_of_le (hn h6) (Nat.pow_le_pow_right (by omega) (by omega))
        · exact hn2 h6
    · rw [rdT_more hx] at h
      split at h
      · cases h
      · rename_i hy
        have h6 : s ≤ 61 := by omega
        have hns := hn h6
        have hlt : n + y.toNat % 128 * 2 ^ s < 2 ^ (s + 7) := by
          have h1 : y.toNat % 128 * 2 ^ s ≤ 127 * 2 ^ s := Nat.mul_le_mul_right _ (by omega)
          rw [Nat.pow_add]
          omega
        have hlt64 : ¬ s + 7 ≤ 61 → n + y.toNat % 128 * 2 ^ s < 2 ^ 64 := by
          intro h
          have h61' : s = 61 := by omega
          subst h61'
          have h7 : y.toNat ≤ 7 := by omega
          have h1 : y.toNat % 128 * 2 ^ 61 ≤ 7 * 2 ^ 61 := Nat.mul_le_mul_right _ (by omega)
          omega
        obtain ⟨m, e1, e2, e3⟩ := ih (s + 7) _ y n' r h (by omega) (by by_cases h : s + 7 ≤ 61; exact .inl h; right; omega) (fun _ => hlt) hlt64
        have hm0 : y.toNat % 128 + 128 * m ≠ 0 := by
          intro h0
          have hm : m = 0 := by omega
          subst hm
          rw [tailL_zero, List.cons_append] at e2
          injection e2 with e2 _
          have := congrArg UInt8.toNat e2
          rw [u8_ofNat (by omega)] at this
          omega
        refine ⟨y.toNat % 128 + 128 * m, ?_, ?_, e3⟩
        · rw [e1, Nat.add_mul, Nat.pow_add, Nat.mul_comm 128 m, Nat.mul_assoc m, Nat.mul_comm 128, Nat.add_assoc]
        · rw [tailL_pos _ hm0, List.cons_append]
          have h1 : (y.toNat % 128 + 128 * m) % 128 = y.toNat % 128 := by omega
          have h2 : (y.toNat % 128 + 128 * m) / 128 = m := by omega
          have h3 : UInt8.ofNat (x.toNat % 128 + 128) = x := u8_ext (by have := u8_lt x; rw [u8_ofNat (by omega)]; omega)
          rw [h1, h2, h3, e2]

theorem rdH_back {l : List UInt8} {k n : Nat} {r : List UInt8} (h : rdH l = .ok (k, n, r)) : l = headL k n ++ r ∧ k < 4 ∧ n < 2 ^ 64 := by
  cases l with
  | nil => cases h
  | cons x l =>
    rw [rdH] at h
    split at h
    · rename_i n0 q hq
      injection h with h
      injection h with h1 h
      injection h with h2 h3
      subst h1 h2 h3
      obtain ⟨m, e1, e2, e3⟩ := rdT_back l 5 (x.toNat / 4 % 32) x n0 q hq (by omega) (.inl (by omega)) (fun _ => by omega) (fun h => absurd (by omega) h)
      refine ⟨?_, by omega, e3⟩
      rw [e2]
      unfold headL
      have h1 : n0 % 32 * 4 + x.toNat % 4 = x.toNat % 128 := by omega
      have h2 : n0 / 32 = m := by omega
      rw [h1, h2]
    · cases h

/-- cut within a head -/
theorem headL_cut {k n : Nat} {p q : List UInt8} (hk : k < 4) (hn : n < 2 ^ 64) (h : p ++ q = headL k n) (hq : q ≠ []) : rdH p = .error 20 := by
  have key : ∀ (m s a x : Nat) (b : UInt8) (t p q : List UInt8), x < 128 → m * 2 ^ s < 2 ^ 64 → tailL x m = b :: t → p ++ q = t → q ≠ [] → rdT s a b p = .error 20 := by
    intro m
    induction m using Nat.strongRecOn with
    | _ m ih =>
      intro s a x b t p q hx hm ht hp hq
      by_cases h0 : m = 0
      · subst h0
        rw [tailL_zero] at ht
        injection ht with _ ht
        subst ht
        simp at hp
        exact absurd hp.2 hq
      · rw [tailL_pos x h0] at ht
        injection ht with h1 h2
        subst h1
        cases p with
        | nil => exact rdT_short (by rw [u8_ofNat (by omega)]; omega)
        | cons y p =>
          have hq' : m / 128 * 2 ^ (s + 7) ≤ m * 2 ^ s := by
            rw [Nat.pow_add, Nat.mul_comm (2 ^ s), ← Nat.mul_assoc]
            exact Nat.mul_le_mul_right _ (Nat.div_mul_le_self m 128)
          rw [← hp] at h2
          have hi := ih (m / 128) (by omega) (s + 7) (a + y.toNat % 128 * 2 ^ s) (m % 128) y (p ++ q) p q (by omega) (by omega) (by rw [h2]; rfl) rfl hq
          obtain ⟨b, t', e1, e2, e3, e4, _⟩ := rdT_tail (m / 128) (s + 7) 0 (m % 128) [] (by omega) (by omega)
          rw [h2] at e1
          injection e1 with e1 _
          subst e1
          rw [rdT_more (by rw [u8_ofNat (by omega)]; omega), if_neg, hi]
          rintro (h | ⟨rfl, h⟩)
          · have := e3 h; omega
          · have h8 : m < 8 := by
              apply Nat.lt_of_not_le
              intro hc
              have := Nat.mul_le_mul_right (2 ^ 61) hc
              omega
            have := e4 (by omega)
            omega
  cases p with
  | nil => rfl
  | cons b p =>
    rw [rdH, key (n / 32) 5 _ (n % 32 * 4 + k) b (p ++ q) p q (by omega) (by omega) h.symm rfl hq]
end Go.Proofs.Ythpcanibahcghaa
