/- the reference's Parse, plain: which texts are read. -/
import Derived.Test.YtehminpiejophaaDoorStampRefDig
import Derived.Test.YtehminpiejophaaDoorStampRefBits
import Derived.Test.YtehminpiejophaaDoorStampParse3
set_option linter.unusedVariables false
set_option linter.unusedSimpArgs false
set_option exponentiation.threshold 4000
namespace Go.Proofs.YtehminpiejophaaDoor

/-- the text of a number without a sign -/
def UT (t : List UInt8) (r : Nat) : Prop := r ≤ infR ∧ bodyL r = t
theorem body_no45 {t : List UInt8} {r : Nat} (h : UT t r) : t ≠ [110, 97, 110] ∧ Lib.hasPrefix t [45] = false := by
  obtain ⟨c, x, hb, h45, h110⟩ := body_head r h.1
  rw [h.2] at hb
  subst hb
  refine ⟨fun e => ?_, ?_⟩
  · injection e with e1; rw [e1] at h110; exact h110 rfl
  · have : ¬ (45 : UInt8) = c := fun e => h45 (by rw [← e]; rfl)
    simp [Lib.hasPrefix, List.isPrefixOf, this]
theorem ut_neg {t : List UInt8} {r : Nat} (h : UT t r) : Reads (45 :: t) (9223372036854775808 + r) := by
  have hi := inf_lt
  have h1 := reads_pos h.1
  rw [h.2] at h1
  have := reads_neg h1 (body_no45 h).1 (body_no45 h).2
  rw [neg_eq h1.lt, if_pos (by have := h.1; omega)] at this
  rwa [Nat.add_comm]
theorem ut_pos {t : List UInt8} {r : Nat} (h : UT t r) : Reads t r := by
  have h1 := reads_pos h.1
  rwa [h.2] at h1
theorem neg_ut {t : List UInt8} (h : ∀ r, ¬ UT t r) : ∀ b, ¬ Reads (45 :: t) b := fun b hb => by
  obtain ⟨x, hx, h1, _⟩ := neg_reads hb
  exact h x ⟨hx, h1.symm⟩
theorem pos_ut {t : List UInt8} (h1 : t ≠ [110, 97, 110]) (h2 : ∀ r, t ≠ 45 :: r) (h : ∀ r, ¬ UT t r) : ∀ b, ¬ Reads t b := fun b hb => by
  obtain ⟨ht, hc, hb⟩ := hb
  unfold printL at ht
  cases hn : isNan b with
  | true => rw [if_pos hn] at ht; exact h1 ht.symm
  | false =>
    rw [if_neg (by rw [hn]; decide)] at ht
    rw [nan_iff, decide_eq_false_iff_not] at hn
    unfold signL at ht
    by_cases hs : 9223372036854775808 ≤ b
    · rw [if_pos hs] at ht; exact h2 _ ht.symm
    · rw [if_neg hs, List.nil_append] at ht
      exact h (rungB b) ⟨by omega, ht⟩
theorem ut_inf : UT [105, 110, 102] infR := ⟨Nat.le_refl _, by unfold bodyL; rw [if_pos rfl]⟩
theorem ut_zero : UT [48] 0 := ⟨Nat.zero_le _, rfl⟩
theorem odd_unique {M N a b : Nat} (hM : M % 2 = 1) (hN : N % 2 = 1) (h : M * 2 ^ a = N * 2 ^ b) : M = N ∧ a = b := by
  have key : ∀ {M N a c : Nat}, M % 2 = 1 → N % 2 = 1 → M * 2 ^ a = N * 2 ^ (a + c) → c = 0 := by
    intro M N a c hM hN h
    rw [Nat.pow_add, Nat.mul_comm (2 ^ a), ← Nat.mul_assoc] at h
    have h := Nat.eq_of_mul_eq_mul_right (Nat.two_pow_pos a) h
    cases c with
    | zero => rfl
    | succ c =>
      rw [Nat.pow_succ, ← Nat.mul_assoc] at h
      omega
  rcases Nat.le_total a b with h1 | h1
  · obtain ⟨c, rfl⟩ := Nat.exists_eq_add_of_le h1
    have hc := key hM hN h
    subst hc
    rw [Nat.add_zero] at h ⊢
    exact ⟨Nat.eq_of_mul_eq_mul_right (Nat.two_pow_pos a) h, rfl⟩
  · obtain ⟨c, rfl⟩ := Nat.exists_eq_add_of_le h1
    have hc := key hN hM h.symm
    subst hc
    rw [Nat.add_zero] at h ⊢
    exact ⟨Nat.eq_of_mul_eq_mul_right (Nat.two_pow_pos b) h, rfl⟩
theorem finB_text {M r : Nat} {Z : Int} (h : FinB M Z r) : UT (Lib.decDigits M ++ 112 :: Lib.itoa Z) r := by
  have h0 : 0 < r := by
    rcases Nat.eq_zero_or_pos r with h1 | h1
    · have hv := h.val
      rw [h1, V_zero] at hv
      have := Nat.mul_pos (show 0 < M by have := h.odd; omega) (Nat.two_pow_pos (Z + 1074).toNat)
      omega
    · exact h1
  obtain ⟨M', Z', hf⟩ := fin_text h0 h.inf
  have hu := odd_unique h.odd hf.odd (h.val.trans hf.val.symm)
  have hZ : Z = Z' := by have := h.lo; have := hf.lo; have := hu.2; omega
  obtain rfl := hu.1
  subst hZ
  refine ⟨Nat.le_of_lt h.inf, ?_⟩
  unfold bodyL
  rw [if_neg (Nat.ne_of_lt h.inf), hf.text]
theorem text_finB {t : List UInt8} {r : Nat} (h : UT t r) (h1 : t ≠ [105, 110, 102]) (h2 : t ≠ [48]) : ∃ M Z, FinB M Z r ∧ t = Lib.decDigits M ++ 112 :: Lib.itoa Z := by
  obtain ⟨hr, hb⟩ := h
  unfold bodyL at hb
  by_cases hi : r = infR
  · rw [if_pos hi] at hb; exact absurd hb.symm h1
  · rw [if_neg hi] at hb
    rcases Nat.eq_zero_or_pos r with h0 | h0
    · rw [h0] at hb; exact absurd hb.symm h2
    · obtain ⟨M, Z, hf⟩ := fin_text h0 (by omega)
      exact ⟨M, Z, ⟨hf.odd, hf.lt, hf.lo, hf.hi, by omega, hf.val⟩, by rw [← hb, hf.text]⟩
/-- digits are a number's -/
theorem dec_of : ∀ (n : Nat) (l : List UInt8), l.length = n → l ≠ [] → Digs l → (l.length = 1 ∨ ∃ c r, l = c :: r ∧ c.toNat ≠ 48) → Lib.decDigits (valD 0 l) = l := by
  intro n
  induction n with
  | zero => intro l hl hn; exact absurd (List.eq_nil_of_length_eq_zero hl) hn
  | succ n ih =>
    intro l hl hn hd h0
    have hsn : l = l.dropLast ++ [l.getLast hn] := (List.dropLast_concat_getLast hn).symm
    obtain ⟨s, c, hs⟩ : ∃ s c, l = s ++ [c] := ⟨_, _, hsn⟩
    have hc := hd c (by rw [hs]; simp)
    have hcc : UInt8.ofNat (48 + (c.toNat - 48)) = c := by
      rw [show 48 + (c.toNat - 48) = c.toNat by omega]; simp
    by_cases hse : s = []
    · subst hse
      rw [List.nil_append] at hs
      subst hs
      have hv : valD 0 [c] = c.toNat - 48 := by show 0 * 10 + (c.toNat - 48) = _; omega
      rw [hv, dec_small (by omega), hcc]
    · have hlen : s.length = n := by rw [hs, List.length_append] at hl; simpa using hl
      obtain ⟨d, r, hdr, hd48⟩ : ∃ d r, s = d :: r ∧ d.toNat ≠ 48 := by
        cases s with
        | nil => exact absurd rfl hse
        | cons d r =>
          refine ⟨d, r, rfl, ?_⟩
          rcases h0 with h0 | ⟨c', r', e, h3⟩
          · rw [hs] at h0; simp at h0
          · rw [hs] at e
            injection e with e1 _
            rw [e1]; exact h3
      have hds : Digs s := fun x hx => hd x (by rw [hs]; simp [hx])
      have hI := ih s hlen hse hds (.inr ⟨d, r, hdr, hd48⟩)
      have hpos : 0 < valD 0 s := by
        rw [hdr]
        have h1 := valD_ge r (0 * 10 + (d.toNat - 48))
        have h2 := hds d (by rw [hdr]; simp)
        show 0 < valD (0 * 10 + (d.toNat - 48)) r
        omega
      rw [hs, valD_snoc]
      have e1 : (valD 0 s * 10 + (c.toNat - 48)) / 10 = valD 0 s := by omega
      have e2 : (valD 0 s * 10 + (c.toNat - 48)) % 10 = c.toNat - 48 := by omega
      rw [dec_great (by omega), e1, e2, hI, hcc]
theorem dig_some {l : List UInt8} {k m : Nat} (h : digP l k = some m) : l = Lib.decDigits m := by
  unfold digP at h
  split at h
  · cases h
  · rename_i hc
    split at h
    · rename_i ha
      injection h with h
      rw [← h]
      have h1 : l ≠ [] := fun e => hc (.inl e)
      refine (dec_of l.length l rfl h1 (all_digs ha) ?_).symm
      cases l with
      | nil => exact absurd rfl h1
      | cons c r =>
        by_cases hr : r = []
        · left; rw [hr]; rfl
        · right
          refine ⟨c, r, rfl, fun e => hc (.inr (.inr ⟨?_, ?_⟩))⟩
          · cases r with
            | nil => exact absurd rfl hr
            | cons d r => simp
          · have : c = 48 := UInt8.toNat_inj.1 (e.trans rfl)
            rw [this]; rfl
    · cases h
theorem dec_len : ∀ (k M : Nat), M < 10 ^ (k + 1) → (Lib.decDigits M).length ≤ k + 1 := by
  intro k
  induction k with
  | zero => intro M h; rw [dec_small (by omega)]; simp
  | succ k ih =>
    intro M h
    by_cases h9 : 9 < M
    · rw [dec_great h9, List.length_append]
      have := ih (M / 10) (by rw [Nat.pow_succ] at h; omega)
      simp; omega
    · rw [dec_small (by omega)]; simp
theorem dig_dec {M k : Nat} (h : M < 10 ^ (k + 1)) : digP (Lib.decDigits M) (k + 1) = some M := by
  unfold digP
  rw [if_neg, if_pos (digs_all (dec_digs M)), dec_val]
  rintro (h1 | h1 | ⟨h1, h2⟩)
  · exact dec_ne M h1
  · have := dec_len k M h; omega
  · rcases Nat.eq_zero_or_pos M with h0 | h0
    · rw [h0, dec_small (by omega)] at h1; simp at h1
    · obtain ⟨c, r, e, hc⟩ := dec_head M h0
      rw [e] at h2
      injection h2 with h2
      rw [h2] at hc; exact hc rfl
/-- the first p -/
theorem first_p {a r a' r' : List UInt8} (h : a ++ 112 :: r = a' ++ 112 :: r') (h1 : (112 : UInt8) ∉ a) (h2 : (112 : UInt8) ∉ a') : a = a' ∧ r = r' := by
  have e1 := cut_at a r 112 h1
  rw [h, cut_at a' r' 112 h2] at e1
  injection e1 with e1 e2
  injection e2 with e2 _
  exact ⟨e1.symm, e2.symm⟩
theorem ut_parts {t a rest : List UInt8} {r : Nat} (h : UT t r) (h1 : t ≠ [105, 110, 102]) (h2 : t ≠ [48]) (ht : t = a ++ 112 :: rest) (ha : (112 : UInt8) ∉ a) : ∃ M Z, FinB M Z r ∧ a = Lib.decDigits M ∧ rest = Lib.itoa Z := by
  obtain ⟨M, Z, hf, hx⟩ := text_finB h h1 h2
  obtain ⟨h3, h4⟩ := first_p (ht.symm.trans hx) ha (digs_no (dec_digs M) (by decide))
  exact ⟨M, Z, hf, h3, h4⟩
theorem ut_none {t : List UInt8} (h1 : t ≠ [105, 110, 102]) (h2 : t ≠ [48]) (h : (112 : UInt8) ∉ t) : ∀ r, ¬ UT t r := fun r hr => by
  obtain ⟨M, Z, _, hx⟩ := text_finB hr h1 h2
  exact h (by rw [hx]; simp)
theorem itoa_forms {Z : Int} : (∃ P : Nat, 0 < P ∧ Z = -(P : Int) ∧ Lib.itoa Z = 45 :: Lib.decDigits P) ∨ (∃ P : Nat, Z = (P : Int) ∧ Lib.itoa Z = Lib.decDigits P) := by
  by_cases h : Z < 0
  · left
    refine ⟨Z.natAbs, by omega, by omega, ?_⟩
    unfold Lib.itoa; rw [if_pos h]
  · right
    refine ⟨Z.toNat, by omega, ?_⟩
    unfold Lib.itoa; rw [if_neg h]
theorem dec_no45 (M : Nat) (r : List UInt8) : Lib.decDigits M ≠ 45 :: r := fun h => by
  have := dec_digs M 45 (by rw [h]; simp)
  revert this; decide
/-- with the sign of the power -/
theorem parts_neg {a rest : List UInt8} {r M : Nat} {Z : Int} (hf : FinB M Z r) (ha : a = Lib.decDigits M) (hr : 45 :: rest = Lib.itoa Z) : ∃ P : Nat, 0 < P ∧ Z = -(P : Int) ∧ digP a 16 = some M ∧ digP rest 4 = some P := by
  rcases itoa_forms (Z := Z) with ⟨P, h0, h1, h2⟩ | ⟨P, h1, h2⟩
  · rw [h2] at hr
    injection hr with _ hr
    refine ⟨P, h0, h1, by rw [ha]; exact dig_dec (k := 15) (by have := hf.lt; omega), by rw [hr]; exact dig_dec (k := 3) (by have := hf.lo; omega)⟩
  · rw [h2] at hr; exact absurd hr.symm (dec_no45 P rest)
theorem parts_pos {a rest : List UInt8} {r M : Nat} {Z : Int} (hn : ∀ x, rest ≠ 45 :: x) (hf : FinB M Z r) (ha : a = Lib.decDigits M) (hr : rest = Lib.itoa Z) : ∃ P : Nat, Z = (P : Int) ∧ digP a 16 = some M ∧ digP rest 4 = some P := by
  rcases itoa_forms (Z := Z) with ⟨P, h0, h1, h2⟩ | ⟨P, h1, h2⟩
  · rw [h2] at hr; exact absurd hr (hn _)
  · refine ⟨P, h1, by rw [ha]; exact dig_dec (k := 15) (by have := hf.lt; omega), by rw [hr, h2]; exact dig_dec (k := 3) (by have := hf.hi; omega)⟩
theorem neg_text {a rest : List UInt8} {r M P : Nat} (h1 : digP a 16 = some M) (h2 : digP rest 4 = some P) (h0 : 0 < P) (hf : FinB M (-(P : Int)) r) : UT (a ++ 112 :: 45 :: rest) r := by
  have := finB_text hf
  rw [dig_some h1, dig_some h2]
  have e : Lib.itoa (-(P : Int)) = 45 :: Lib.decDigits P := by unfold Lib.itoa; rw [if_pos (by omega)]; congr 2; omega
  rwa [e] at this
theorem pos_text {a rest : List UInt8} {r M P : Nat} (h1 : digP a 16 = some M) (h2 : digP rest 4 = some P) (hf : FinB M (P : Int) r) : UT (a ++ 112 :: rest) r := by
  have := finB_text hf
  rw [dig_some h1, dig_some h2]
  have e : Lib.itoa (P : Int) = Lib.decDigits P := by unfold Lib.itoa; rw [if_neg (by omega), Int.toNat_natCast]
  rwa [e] at this
theorem dig_lt {l : List UInt8} {k m : Nat} (h : digP l k = some m) : m < 10 ^ k := by
  unfold digP at h
  split at h
  · cases h
  · rename_i hc
    split at h
    · rename_i ha
      injection h with h
      rw [← h]
      exact valD_lt (all_digs ha) (by rcases Nat.lt_or_ge k l.length with h1 | h1; exact absurd (.inr (.inl h1)) hc; exact h1)
    · cases h
end Go.Proofs.YtehminpiejophaaDoor
