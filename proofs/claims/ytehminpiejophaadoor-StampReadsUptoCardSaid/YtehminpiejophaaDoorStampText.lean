/- stamp, plain: digits; a text's parts. -/
import Derived.Test.YtehminpiejophaaDoorStampNum
import Derived.Lib.ParseIntBCases
import Derived.Lib.Index
set_option linter.unusedVariables false
set_option linter.unusedSimpArgs false
namespace Go.Proofs.YtehminpiejophaaDoor

def valD : Nat → List UInt8 → Nat
  | acc, [] => acc
  | acc, c :: r => valD (acc * 10 + (c.toNat - 48)) r
theorem valD_snoc (l : List UInt8) (c : UInt8) : ∀ acc, valD acc (l ++ [c]) = valD acc l * 10 + (c.toNat - 48) := by
  induction l with
  | nil => intro acc; rfl
  | cons x r ih => intro acc; exact ih _
theorem valD_ge (l : List UInt8) : ∀ acc, acc ≤ valD acc l := by
  induction l with
  | nil => intro acc; exact Nat.le_refl _
  | cons x r ih => intro acc; exact Nat.le_trans (by omega) (ih _)
def Digs (l : List UInt8) : Prop := ∀ c ∈ l, 48 ≤ c.toNat ∧ c.toNat ≤ 57
theorem dig_toNat {k : Nat} (h : k < 10) : (UInt8.ofNat (48 + k)).toNat = 48 + k := by
  rw [UInt8.toNat_ofNat']
  exact Nat.mod_eq_of_lt (by show 48 + k < 256; omega)
theorem dec_digs (n : Nat) : Digs (Lib.decDigits n) := by
  induction n using Nat.strongRecOn with
  | _ n ih =>
    rw [Lib.decDigits]
    split
    · rename_i h
      intro c hc
      rw [List.mem_singleton] at hc
      rw [hc, dig_toNat h]; omega
    · intro c hc
      rcases List.mem_append.1 hc with h | h
      · exact ih (n / 10) (by omega) c h
      · rw [List.mem_singleton] at h
        rw [h, dig_toNat (Nat.mod_lt _ (by decide))]
        have := Nat.mod_lt n (show 0 < 10 by decide)
        omega
theorem dec_val (n : Nat) : valD 0 (Lib.decDigits n) = n := by
  induction n using Nat.strongRecOn with
  | _ n ih =>
    rw [Lib.decDigits]
    split
    · rename_i h
      show 0 * 10 + ((UInt8.ofNat (48 + n)).toNat - 48) = n
      rw [dig_toNat h]; omega
    · rw [valD_snoc, ih (n / 10) (by omega), dig_toNat (Nat.mod_lt _ (by decide))]
      omega
theorem dec_ne (n : Nat) : Lib.decDigits n ≠ [] := by
  rw [Lib.decDigits]
  split <;> simp
theorem dec_head (n : Nat) (h : 0 < n) : ∃ c r, Lib.decDigits n = c :: r ∧ c.toNat ≠ 48 := by
  induction n using Nat.strongRecOn with
  | _ n ih =>
    rw [Lib.decDigits]
    split
    · rename_i h1
      exact ⟨_, _, rfl, by rw [dig_toNat h1]; omega⟩
    · obtain ⟨c, r, e, hc⟩ := ih (n / 10) (by omega) (by omega)
      rw [e]
      exact ⟨c, _, rfl, hc⟩
theorem dec_inj {a b : Nat} (h : Lib.decDigits a = Lib.decDigits b) : a = b := by rw [← dec_val a, h, dec_val]
theorem parseM_digs {M : Nat} (hM : M < 18446744073709551616) : ∀ (l : List UInt8) (acc : Nat), Digs l → valD acc l ≤ M → Lib.parseUintM M acc l = .ok (valD acc l) := by
  intro l
  induction l with
  | nil => intro acc _ _; rfl
  | cons c r ih =>
    intro acc hd hv
    have hc := hd c (List.mem_cons_self ..)
    have hv : valD (acc * 10 + (c.toNat - 48)) r ≤ M := hv
    have hge := valD_ge r (acc * 10 + (c.toNat - 48))
    unfold Lib.parseUintM
    rw [if_pos hc, if_neg (by omega), if_neg (by omega)]
    exact ih _ (fun x hx => hd x (List.mem_cons_of_mem _ hx)) hv
theorem parse_digs {l : List UInt8} (hn : l ≠ []) (hd : Digs l) (hv : valD 0 l < 9223372036854775808) : Lib.parseIntB 64 l = .ok (valD 0 l : Int) := by
  cases l with
  | nil => exact absurd rfl hn
  | cons c r =>
    have hc := hd c (List.mem_cons_self ..)
    rw [Lib.parseIntB_plain 64 c r (by omega) (by omega)]
    unfold Lib.parseUintB
    rw [if_neg (by simp), parseM_digs (by decide) _ _ hd (by omega)]
    unfold Lib.signlessC
    simp only []
    rw [if_neg (by show ¬ 9223372036854775808 ≤ _; omega)]
theorem numP_digs {l : List UInt8} {most : Int} (hn : l ≠ []) (hd : Digs l) (h0 : l = [48] ∨ ∃ c r, l = c :: r ∧ c.toNat ≠ 48) (hv : valD 0 l < 9223372036854775808) (hm : (valD 0 l : Int) ≤ most) : numP l most = some (valD 0 l : Int) := by
  unfold numP
  rw [parse_digs hn hd hv]
  cases l with
  | nil => exact absurd rfl hn
  | cons c r =>
    have hc := hd c (List.mem_cons_self ..)
    simp only []
    rw [if_neg (by omega), if_neg (by omega), if_neg ?_, if_neg (by omega)]
    rintro ⟨h1, h2⟩
    rcases h0 with h0 | ⟨c', r', h0, h3⟩
    · injection h0 with h4 h5; exact h2 h5
    · injection h0 with h4 h5; rw [h4] at h1; exact h3 h1
theorem numP_dec {n : Nat} {most : Int} (hv : n < 9223372036854775808) (hm : (n : Int) ≤ most) : numP (Lib.decDigits n) most = some (n : Int) := by
  have := numP_digs (most := most) (dec_ne n) (dec_digs n) (by
    rcases Nat.eq_zero_or_pos n with h | h
    · left; rw [h, Lib.decDigits, dif_pos (by decide)]; rfl
    · right; exact dec_head n h) (by rw [dec_val]; exact hv) (by rw [dec_val]; exact hm)
  rwa [dec_val] at this
/-- a text of digits has no p, no - -/
theorem digs_no {l : List UInt8} (h : Digs l) {x : UInt8} (hx : x.toNat < 48 ∨ 57 < x.toNat) : x ∉ l := fun hm => by have := h x hm; omega
theorem index_at (a b : List UInt8) (x : UInt8) (h : x ∉ a) : Lib.index (a ++ x :: b) [x] = (a.length : Int) := by
  refine Lib.index_first (by simp) (by simp [Lib.occAt]) fun j hj => ?_
  unfold Lib.occAt
  have hj2 : (a ++ x :: b).drop j = a.drop j ++ x :: b := by rw [List.drop_append_of_le_length (by omega)]
  rw [hj2]
  cases e : a.drop j with
  | nil => have := congrArg List.length e; rw [List.length_drop] at this; simp at this; omega
  | cons y t =>
    have hy : y ∈ a := List.mem_of_mem_drop (by rw [e]; exact List.mem_cons_self ..)
    have : x ≠ y := fun e => h (e ▸ hy)
    simp [List.isPrefixOf, this]
theorem cut_at (a b : List UInt8) (x : UInt8) (h : x ∉ a) : Lib.cut (a ++ x :: b) [x] = (a, b, true) := by
  unfold Lib.cut
  rw [index_at a b x h, if_pos (by omega)]
  simp
theorem strL_inj {a b : List UInt8} (h : strL a = strL b) : a = b := by
  have := congrArg (fun x : ByteArray => x.data.toList) h
  simpa [strL] using this
/-- the text of what can be read, and the number -/
structure Reads (l : List UInt8) (b : Nat) : Prop where
  text : printL b = l
  canon : canonB b = b
  lt : b < 2 ^ 64

theorem strip_val (f m : Nat) (h0 : 0 < m) (h : m < 2 ^ f) : m = (strip f m).1 * 2 ^ (strip f m).2 ∧ (strip f m).1 % 2 = 1 ∧ (strip f m).1 ≤ m := by
  induction f generalizing m with
  | zero => simp at h; omega
  | succ f ih =>
    by_cases hp : m % 2 = 0
    · rw [strip_even hp h0 h]
      have h2 : m / 2 < 2 ^ f := by rw [Nat.pow_succ] at h; omega
      obtain ⟨a, b, c⟩ := ih (m / 2) (by omega) h2
      refine ⟨?_, b, by show (strip f (m / 2)).1 ≤ m; omega⟩
      show m = (strip f (m / 2)).1 * 2 ^ ((strip f (m / 2)).2 + 1)
      rw [Nat.pow_succ, ← Nat.mul_assoc, ← a]; omega
    · rw [strip_odd (f + 1) m (by omega)]
      exact ⟨by simp, by omega, Nat.le_refl _⟩
theorem man_V {r : Nat} : manB r * 2 ^ (expB r - 1) = V r := by
  unfold manB expB V
  by_cases h : r < 4503599627370496
  · have e : r / 4503599627370496 = 0 := Nat.div_eq_of_lt h
    rw [if_pos e, if_pos e, if_pos h]
    rw [Nat.mod_eq_of_lt h]; simp
  · have e : r / 4503599627370496 ≠ 0 := by omega
    rw [if_neg e, if_neg e, if_neg h]
/-- what the text of a number says -/
structure FinText (r M : Nat) (Z : Int) : Prop where
  text : finL r = Lib.decDigits M ++ 112 :: Lib.itoa Z
  odd : M % 2 = 1
  lt : M < 9007199254740992
  lo : -1074 ≤ Z
  hi : Z ≤ 1023
  val : M * 2 ^ (Z + 1074).toNat = V r
theorem fin_text {r : Nat} (h0 : 0 < r) (hr : r < infR) : ∃ M Z, FinText r M Z := by
  have hm0 : 0 < manB r := by unfold manB; split <;> omega
  have hm1 : manB r < 9007199254740992 := by unfold manB; split <;> omega
  have he0 : 1 ≤ expB r := by unfold expB; split <;> omega
  have he1 : expB r ≤ 2046 := by unfold expB; unfold infR at hr; split <;> omega
  obtain ⟨a, b, c⟩ := strip_val 64 (manB r) hm0 (Nat.lt_of_lt_of_le hm1 (by decide))
  have hV := man_V (r := r)
  have hval : (strip 64 (manB r)).1 * 2 ^ ((strip 64 (manB r)).2 + (expB r - 1)) = V r := by rw [← hV, Nat.pow_add, ← Nat.mul_assoc, ← a]
  have hk : (strip 64 (manB r)).2 ≤ 52 := by
    rcases Nat.lt_or_ge 52 (strip 64 (manB r)).2 with h1 | h1
    · have : (strip 64 (manB r)).1 * 2 ^ (strip 64 (manB r)).2 ≥ 1 * 2 ^ 53 := Nat.mul_le_mul (by omega) (Nat.pow_le_pow_right (by decide) h1)
      have e : (2 : Nat) ^ 53 = 9007199254740992 := by decide
      omega
    · exact h1
  refine ⟨(strip 64 (manB r)).1, (expB r : Int) - 1075 + ((strip 64 (manB r)).2 : Int), ?_, b, by omega, by omega, by omega, ?_⟩
  · unfold finL; rw [if_neg (by omega)]
  · rw [← hval]
    congr 2
    omega
theorem fin_lt {r M : Nat} {Z : Int} (h : FinText r M Z) : 0 < M := by have := h.odd; omega
end Go.Proofs.YtehminpiejophaaDoor
