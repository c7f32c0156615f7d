/- Ids written and read: there and back, in plain Lean. -/
import Derived.Test.YtknbbekinpamjaaShaParse
set_option linter.unusedVariables false
namespace Go.Proofs.Ytknbbekinpamjaa
open Go.RowKit

set_option maxRecDepth 100000 in
theorem digit_back (x : UInt8) : mix4 (mix4 0 (digU (digits.getD (x.toNat / 16) 0))) (digU (digits.getD (x.toNat % 16) 0)) = x ∧ badD (digits.getD (x.toNat / 16) 0) = false ∧ badD (digits.getD (x.toNat % 16) 0) = false := by
  have h : ∀ n : Fin 256, mix4 (mix4 0 (digU (digits.getD (n.val / 16) 0))) (digU (digits.getD (n.val % 16) 0)) = UInt8.ofNat n.val ∧ badD (digits.getD (n.val / 16) 0) = false ∧ badD (digits.getD (n.val % 16) 0) = false := by decide +kernel
  have h2 := h ⟨x.toNat, x.toNat_lt⟩
  simpa using h2
theorem hexS_get : ∀ {l : List UInt8} {k : Nat} {x : UInt8}, l[k]? = some x → (hexS l)[2 * k]? = some (digits.getD (x.toNat / 16) 0) ∧ (hexS l)[2 * k + 1]? = some (digits.getD (x.toNat % 16) 0)
  | [], k, x, h => by simp at h
  | y :: l, 0, x, h => by
    simp at h; subst h
    unfold hexS
    rw [List.flatMap_cons]
    exact ⟨rfl, rfl⟩
  | y :: l, k + 1, x, h => by
    have h2 := hexS_get (l := l) (k := k) (x := x) (by simpa using h)
    unfold hexS at h2 ⊢
    rw [List.flatMap_cons]
    exact h2
theorem parT_hex {l : List UInt8} (h : l.length = 32) : ∀ k, k ≤ 32 → parT (hexS l) (2 * k) = fill l k
  | 0, _ => by show List.replicate 32 0 = _; unfold fill; rw [h]; rfl
  | k + 1, hk => by
    have ih := parT_hex h k (by omega)
    have hx : l[k]? = some (l[k]'(by omega)) := List.getElem?_eq_getElem _
    generalize l[k]'(by omega) = x at hx
    obtain ⟨g1, g2⟩ := hexS_get hx
    have d1 : (hexS l).getD (2 * k) 0 = digits.getD (x.toNat / 16) 0 := by rw [List.getD_eq_getElem?_getD, g1]; rfl
    have d2 : (hexS l).getD (2 * k + 1) 0 = digits.getD (x.toNat % 16) 0 := by rw [List.getD_eq_getElem?_getD, g2]; rfl
    have f0 : (fill l k).getD k 0 = 0 := by rw [List.getD_eq_getElem?_getD, fill_hole (by omega)]; rfl
    have fl : (fill l k).length = 32 := by rw [fill_length (by omega), h]
    rw [show 2 * (k + 1) = 2 * k + 1 + 1 from rfl, parT, parT, ih, d1, d2, show 2 * k / 2 = k from by omega, show (2 * k + 1) / 2 = k from by omega, f0]
    have fs : ∀ v : UInt8, ((fill l k).set k v).getD k 0 = v := fun v => by rw [List.getD_eq_getElem?_getD, List.getElem?_set_self (by omega)]; rfl
    rw [fs, (digit_back x).1, List.set_set, fill_put hx]
theorem parR_hex {l : List UInt8} (h : l.length = 32) : parR (hexS l) = (l, 0) := by
  rw [parR_ok (by rw [hexS_length, h]) ?_, show (64 : Nat) = 2 * 32 from rfl, parT_hex h 32 (Nat.le_refl _), ← h, fill_all]
  intro j hj
  have hx : l[j / 2]? = some (l[j / 2]'(by omega)) := List.getElem?_eq_getElem _
  generalize l[j / 2]'(by omega) = x at hx
  obtain ⟨g1, g2⟩ := hexS_get hx
  rcases Nat.mod_two_eq_zero_or_one j with h0 | h0
  · rw [List.getD_eq_getElem?_getD, show j = 2 * (j / 2) from by omega, g1]; exact (digit_back x).2.1
  · rw [List.getD_eq_getElem?_getD, show j = 2 * (j / 2) + 1 from by omega, g2]; exact (digit_back x).2.2
set_option maxRecDepth 100000 in
theorem digit_of (c : UInt8) (h : badD c = false) : (digU c).toNat < 16 ∧ digits.getD (digU c).toNat 0 = c := by
  have h2 : ∀ n : Fin 256, badD (UInt8.ofNat n.val) = false → (digU (UInt8.ofNat n.val)).toNat < 16 ∧ digits.getD (digU (UInt8.ofNat n.val)).toNat 0 = UInt8.ofNat n.val := by decide +kernel
  have h3 := h2 ⟨c.toNat, c.toNat_lt⟩
  simp only [UInt8.ofNat_toNat] at h3
  exact h3 h
set_option maxRecDepth 100000 in
theorem hexB_mix (c d : UInt8) (hc : c.toNat < 16) (hd : d.toNat < 16) : (mix4 (mix4 0 c) d).toNat / 16 = c.toNat ∧ (mix4 (mix4 0 c) d).toNat % 16 = d.toNat := by
  have h2 : ∀ n m : Fin 16, (mix4 (mix4 0 (UInt8.ofNat n.val)) (UInt8.ofNat m.val)).toNat / 16 = n.val ∧ (mix4 (mix4 0 (UInt8.ofNat n.val)) (UInt8.ofNat m.val)).toNat % 16 = m.val := by decide +kernel
  have h3 := h2 ⟨c.toNat, hc⟩ ⟨d.toNat, hd⟩
  simpa only [UInt8.ofNat_toNat] using h3
/-- every text of good digits is the text of an id -/
theorem hex_surj : ∀ (n : Nat) (s : List UInt8), s.length = 2 * n → (∀ x ∈ s, badD x = false) → ∃ l : List UInt8, l.length = n ∧ hexS l = s
  | 0, s, hl, _ => ⟨[], rfl, by rw [List.eq_nil_of_length_eq_zero (l := s) (by omega)]; rfl⟩
  | n + 1, [], hl, _ => by simp at hl
  | n + 1, [_], hl, _ => by simp at hl; omega
  | n + 1, c :: d :: s, hl, hb => by
    obtain ⟨l, h1, h2⟩ := hex_surj n s (by simp at hl; omega) (fun x hx => hb x (by simp [hx]))
    obtain ⟨c1, c2⟩ := digit_of c (hb c (by simp))
    obtain ⟨d1, d2⟩ := digit_of d (hb d (by simp))
    obtain ⟨m1, m2⟩ := hexB_mix _ _ c1 d1
    refine ⟨mix4 (mix4 0 (digU c)) (digU d) :: l, by simp [h1], ?_⟩
    unfold hexS at h2 ⊢
    rw [List.flatMap_cons, h2]
    unfold hexB
    rw [m1, m2, c2, d2]
    rfl
/-- a text is an id's, and read so, or refused -/
theorem par_cases (s : List UInt8) : (∃ l : List UInt8, l.length = 32 ∧ hexS l = s ∧ parR s = (l, 0)) ∨ parR s = (List.replicate 32 0, 30) := by
  by_cases h : parOk s = true
  · unfold parOk at h
    rw [Bool.and_eq_true, List.all_eq_true] at h
    obtain ⟨l, h1, h2⟩ := hex_surj 32 s (by simpa using h.1) (fun x hx => by have := h.2 x hx; simpa using this)
    exact .inl ⟨l, h1, h2, by rw [← h2, parR_hex h1]⟩
  · right
    unfold parR
    rw [if_neg h]
end Go.Proofs.Ytknbbekinpamjaa
