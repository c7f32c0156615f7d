/- stamp, plain: a text is one number's alone. -/
import Derived.Test.YtehminpiejophaaDoorStampParse3
set_option linter.unusedVariables false
set_option linter.unusedSimpArgs false
namespace Go.Proofs.YtehminpiejophaaDoor

theorem itoa_inj {a b : Int} (h : Lib.itoa a = Lib.itoa b) : a = b := by
  rcases itoa_cases a with ⟨h1, h2, h3⟩ | ⟨h1, h2, h3⟩ <;> rcases itoa_cases b with ⟨k1, k2, k3⟩ | ⟨k1, k2, k3⟩
  · rw [h, k3] at h3; have := dec_inj h3; omega
  · rw [h, k2] at h2; cases h2
  · rw [h, k2] at h2; cases h2
  · rw [h, k3] at h3; have := dec_inj h3; omega
theorem text_inj {M M' : Nat} {Z Z' : Int} (h : Lib.decDigits M ++ 112 :: Lib.itoa Z = Lib.decDigits M' ++ 112 :: Lib.itoa Z') : M = M' ∧ Z = Z' := by
  have a := cut_at (Lib.decDigits M) (Lib.itoa Z) 112 (digs_no (dec_digs M) (by decide))
  have b := cut_at (Lib.decDigits M') (Lib.itoa Z') 112 (digs_no (dec_digs M') (by decide))
  rw [h, b] at a
  injection a with a1 a2
  injection a2 with a2 a3
  exact ⟨dec_inj a1.symm, itoa_inj a2.symm⟩
theorem fin_inj {r r' : Nat} (hr : r < infR) (hr' : r' < infR) (h : finL r = finL r') : r = r' := by
  have hp : ∀ x, finL x ≠ [48] → 0 < x := fun x hx => by
    rcases Nat.eq_zero_or_pos x with h0 | h0
    · rw [h0] at hx; exact absurd rfl hx
    · exact h0
  have hq : ∀ x, 0 < x → x < infR → (112 : UInt8) ∈ finL x := fun x h0 h1 => by
    obtain ⟨M, Z, hf⟩ := fin_text h0 h1
    rw [hf.text]; simp
  rcases Nat.eq_zero_or_pos r with h0 | h0
  · rcases Nat.eq_zero_or_pos r' with k0 | k0
    · omega
    · have := hq r' k0 hr'
      rw [← h, h0] at this
      exact absurd this (by show (112 : UInt8) ∉ [48]; decide)
  · rcases Nat.eq_zero_or_pos r' with k0 | k0
    · have := hq r h0 hr
      rw [h, k0] at this
      exact absurd this (by show (112 : UInt8) ∉ [48]; decide)
    · obtain ⟨M, Z, hf⟩ := fin_text h0 hr
      obtain ⟨M', Z', hf'⟩ := fin_text k0 hr'
      rw [hf.text, hf'.text] at h
      obtain ⟨rfl, rfl⟩ := text_inj h
      exact V_inj (hf.val.symm.trans hf'.val)
theorem fin_head (x : Nat) : ∃ c t, finL x = c :: t ∧ c.toNat ≤ 57 := by
  unfold finL
  split
  · exact ⟨_, _, rfl, by decide⟩
  · have hd := dec_digs (strip 64 (manB x)).1
    cases hx : Lib.decDigits (strip 64 (manB x)).1 with
    | nil => exact absurd hx (dec_ne _)
    | cons c t =>
      rw [hx] at hd
      exact ⟨c, _, rfl, (hd c (List.mem_cons_self ..)).2⟩
theorem body_inj {r r' : Nat} (hr : r ≤ infR) (hr' : r' ≤ infR) (h : bodyL r = bodyL r') : r = r' := by
  unfold bodyL at h
  by_cases h1 : r = infR <;> by_cases h2 : r' = infR
  · omega
  · rw [if_pos h1, if_neg h2] at h
    obtain ⟨c, t, e, hc⟩ := fin_head r'
    rw [e] at h; injection h with h; rw [← h] at hc; exact absurd hc (by decide)
  · rw [if_neg h1, if_pos h2] at h
    obtain ⟨c, t, e, hc⟩ := fin_head r
    rw [e] at h; injection h with h; rw [h] at hc; exact absurd hc (by decide)
  · rw [if_neg h1, if_neg h2] at h
    exact fin_inj (by omega) (by omega) h
theorem print_cases (b : Nat) : (isNan b = true ∧ printL b = [110, 97, 110]) ∨ (isNan b = false ∧ rungB b ≤ infR ∧ printL b = signL b ++ bodyL (rungB b)) := by
  cases hn : isNan b with
  | true => left; exact ⟨rfl, by unfold printL; rw [if_pos hn]⟩
  | false =>
    right
    refine ⟨rfl, ?_, by unfold printL; rw [if_neg (by rw [hn]; decide)]⟩
    rw [nan_iff, decide_eq_false_iff_not] at hn; omega
theorem sign_body_ne {b : Nat} (h : rungB b ≤ infR) : signL b ++ bodyL (rungB b) ≠ [110, 97, 110] := by
  obtain ⟨c, t, e, h45, h110⟩ := body_head (rungB b) h
  unfold signL
  rw [e]
  split
  · intro h; injection h with h; exact absurd h (by decide)
  · intro h; injection h with h; rw [h] at h110; exact absurd rfl h110
theorem print_inj {a b : Nat} (ha : a < 2 ^ 64) (hb : b < 2 ^ 64) (h : printL a = printL b) : canonB a = canonB b := by
  rcases print_cases a with ⟨h1, h2⟩ | ⟨h1, h2, h3⟩ <;> rcases print_cases b with ⟨k1, k2⟩ | ⟨k1, k2, k3⟩
  · unfold canonB; rw [if_pos h1, if_pos k1]
  · rw [h2, k3] at h; exact absurd h.symm (sign_body_ne k2)
  · rw [h3, k2] at h; exact absurd h (sign_body_ne h2)
  · unfold canonB
    rw [if_neg (by rw [h1]; decide), if_neg (by rw [k1]; decide)]
    rw [h3, k3] at h
    have la := rung_lt a
    have lb := rung_lt b
    obtain ⟨c, t, e, h45, _⟩ := body_head (rungB a) h2
    obtain ⟨c', t', e', k45, _⟩ := body_head (rungB b) k2
    unfold signL at h
    rcases sgn_iff ha with ⟨_, e1⟩ | ⟨_, e1⟩ <;> rcases sgn_iff hb with ⟨_, e2⟩ | ⟨_, e2⟩
    · rw [if_pos (by omega), if_pos (by omega)] at h
      injection h with _ h
      have := body_inj h2 k2 h
      omega
    · rw [if_pos (by omega), if_neg (by omega), e'] at h
      injection h with h; rw [← h] at k45; exact absurd rfl k45
    · rw [if_neg (by omega), if_pos (by omega), e] at h
      injection h with h; rw [h] at h45; exact absurd rfl h45
    · rw [if_neg (by omega), if_neg (by omega), List.nil_append, List.nil_append] at h
      have := body_inj h2 k2 h
      omega
theorem reads_inj {l : List UInt8} {a b : Nat} (ha : Reads l a) (hb : Reads l b) : a = b := by
  have := print_inj ha.lt hb.lt (ha.text.trans hb.text.symm)
  rwa [ha.canon, hb.canon] at this
theorem print_canon (b : Nat) : printL (canonB b) = printL b := by
  by_cases h : isNan b = true
  · have e : canonB b = nanB := by unfold canonB; rw [if_pos h]
    rw [e, reads_nan.text]
    unfold printL; rw [if_pos h]
  · unfold canonB; rw [if_neg h]
theorem reads_print {b : Nat} (hb : b < 2 ^ 64) : Reads (printL b) (canonB b) := ⟨print_canon b, canonB_canonB b, canonB_lt hb⟩

def halfB : Nat := 4602678819172646912
theorem print_half : printL halfB = [49, 112, 45, 49] := by
  have hr : rungB halfB = halfB := by decide
  have hi : halfB < infR := by unfold halfB infR; omega
  have hn := nan_no (b := halfB) (by rw [hr]; omega)
  unfold printL signL bodyL
  rw [if_neg (by rw [hn]; decide), if_neg (by unfold halfB; omega), hr, if_neg (by omega)]
  have e1 : manB halfB = 4503599627370496 := by decide
  have e2 : expB halfB = 1022 := by decide
  have e3 : strip 64 4503599627370496 = (1, 52) := by decide +kernel
  unfold finL
  rw [e1, if_neg (by decide), e2, e3]
  show [] ++ (Lib.decDigits 1 ++ 112 :: Lib.itoa (((1022 : Nat) : Int) - 1075 + ((52 : Nat) : Int))) = _
  rw [show ((1022 : Nat) : Int) - 1075 + ((52 : Nat) : Int) = -((1 : Nat) : Int) by decide, Lib.itoa_neg 1 (by decide), Lib.decDigits_one (by decide)]
  rfl
theorem reads_half : Reads [49, 112, 45, 49] halfB := by
  have hb : halfB < 2 ^ 64 := by decide
  have := reads_print hb
  rw [print_half] at this
  have hc : canonB halfB = halfB := by
    unfold canonB
    rw [if_neg]
    rw [nan_no (by decide)]; decide
  rwa [hc] at this
theorem no_two : ∀ b, ¬ Reads [50, 112, 45, 50] b := fun b hb => by
  have hc : Lib.cut [50, 112, 45, 50] [112] = ([50], [45, 50], true) := cut_at [50] [45, 50] 112 (by decide)
  obtain ⟨M, Z, hf, _, _, h1, _⟩ := reads_parts (by decide) (by decide) (by decide) (by decide) hc hb
  have := hf.odd
  have h2 := dec_val M
  rw [← h1] at h2
  have h3 : valD 0 [50] = 2 := by decide
  omega
theorem key_zero : keyB 0 = 9223372036854775808 := by
  have hn := nan_no (b := 0) (by decide)
  unfold keyB canonB
  rw [if_neg (by rw [hn]; decide)]
  decide
theorem canon_of {b : Nat} (h : isNan b = false) : canonB b = b := by unfold canonB; rw [if_neg (by rw [h]; decide)]
theorem cmp_ones : cmpB 13830554455654793216 4607182418800017408 = -1 := by
  have h1 := nan_no (b := 13830554455654793216) (by decide)
  have h2 := nan_no (b := 4607182418800017408) (by decide)
  have k1 : keyB 13830554455654793216 = 4616189618054758399 := by
    unfold keyB
    rw [canon_of h1]
    decide
  have k2 : keyB 4607182418800017408 = 13830554455654793216 := by
    unfold keyB
    rw [canon_of h2]
    decide
  unfold cmpB
  rw [k1, k2]
  decide
end Go.Proofs.YtehminpiejophaaDoor
