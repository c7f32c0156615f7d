/- grain, plain: what is written is read again, and the other way round; cut short it is too short. -/
import Derived.Test.YthpcanibahcghaaGrainHeads
set_option linter.unusedVariables false
namespace Go.Proofs.Ythpcanibahcghaa
open Go.RowKit

/-! ### eight bytes -/
theorem be64_length (b : Nat) : (be64 b).length = 8 := rfl
theorem ofBe_be64 {b : Nat} (hb : b < 2 ^ 64) : ofBe (be64 b) = b := by
  have h : ∀ i, (UInt8.ofNat i).toNat = i % 256 := fun i => by simp [UInt8.toNat_ofNat']
  simp only [ofBe, be64, List.map_cons, List.map_nil, List.foldl_cons, List.foldl_nil, h]
  omega
theorem be64_ofBe {l : List UInt8} (hl : l.length = 8) : be64 (ofBe l) = l ∧ ofBe l < 2 ^ 64 := by
  match l, hl with
  | [a, b, c, d, e, f, g, h], _ =>
    have ha := u8_lt a; have hb := u8_lt b; have hc := u8_lt c; have hd := u8_lt d; have he := u8_lt e; have hf := u8_lt f; have hg := u8_lt g; have hh := u8_lt h
    simp only [ofBe, be64, List.map_cons, List.map_nil, List.foldl_cons, List.foldl_nil]
    refine ⟨?_, by omega⟩
    congr 1
    · exact u8_ext (by rw [u8_ofNat (by omega)]; omega)
    have key : ∀ (n : Nat) (x : UInt8), n % 256 = x.toNat → UInt8.ofNat n = x := fun n x h => u8_ext (by rw [show (UInt8.ofNat n).toNat = n % 256 from by simp [UInt8.toNat_ofNat']]; exact h)
    congr 1
    · exact key _ _ (by omega)
    congr 1
    · exact key _ _ (by omega)
    congr 1
    · exact key _ _ (by omega)
    congr 1
    · exact key _ _ (by omega)
    congr 1
    · exact key _ _ (by omega)
    congr 1
    · exact key _ _ (by omega)
    congr 1
    · exact key _ _ (by omega)
theorem isNan_nanB : isNan nanB = true := by decide +kernel
theorem canonB_canonB (b : Nat) : canonB (canonB b) = canonB b := by
  unfold canonB
  by_cases h : isNan b = true
  · simp [h, isNan_nanB]
  · simp [h]
theorem canonB_lt {b : Nat} (h : b < 2 ^ 64) : canonB b < 2 ^ 64 := by
  unfold canonB nanB
  split <;> omega

/-! ### writing without a limit -/
def wrpL (f : Val → Res (List UInt8)) : List Val → Res (List UInt8)
  | [] => .ok []
  | v :: r => match f v with | .ok e => (match wrpL f r with | .ok e' => .ok (e ++ e') | .error c => .error c) | .error c => .error c
def wrp : Nat → Val → Res (List UInt8)
  | 0, _ => .error 24
  | d + 1, v =>
    if v.kind = 0 then .ok (headL 0 v.num)
    else if v.kind = 1 then .ok (headL 1 v.bytes.length ++ v.bytes)
    else if v.kind = 2 then .ok (headL 2 0 ++ be64 (canonB v.flt))
    else if v.kind = 3 then match wrpL (wrp d) v.list with | .ok o => .ok (headL 3 v.list.length ++ o) | .error e => .error e
    else .error 22

theorem fin_ok {o x : List UInt8} : fin o = .ok x ↔ o = x ∧ o.length ≤ 1048576 := by
  unfold fin
  split
  · constructor
    · intro h; cases h
    · rintro ⟨_, h⟩; omega
  · constructor
    · intro h; injection h with h; exact ⟨h, by omega⟩
    · rintro ⟨rfl, _⟩; rfl

theorem wr_iff : ∀ (d : Nat) (out : List UInt8) (v : Val) (o : List UInt8), wrV d out v = .ok o ↔ ∃ e, wrp d v = .ok e ∧ o = out ++ e ∧ o.length ≤ 1048576 := by
  intro d
  induction d with
  | zero => intro out v o; simp [wrV, wrp]
  | succ d ih =>
    have hl : ∀ (l : List Val) (out o : List UInt8), o.length ≤ 1048576 → (wrL (wrV d) out l = .ok o ↔ ∃ e, wrpL (wrp d) l = .ok e ∧ o = out ++ e) := by
      intro l
      induction l with
      | nil =>
        intro out o ho
        simp [wrL, wrpL]
        exact eq_comm
      | cons v r ihl =>
        intro out o ho
        rw [wrL, wrpL]
        constructor
        · intro h
          split at h
          · rename_i o1 h1
            obtain ⟨e1, h2, rfl, h3⟩ := (ih out v o1).1 h1
            obtain ⟨e2, h4, h5⟩ := (ihl _ o ho).1 h
            exact ⟨e1 ++ e2, by rw [h2, h4], by rw [h5, List.append_assoc]⟩
          · cases h
        · rintro ⟨e, he, rfl⟩
          split at he
          · rename_i e1 h1
            split at he
            · rename_i e2 h2
              injection he with he
              subst he
              rw [(ih out v (out ++ e1)).2 ⟨e1, h1, rfl, by simp at ho ⊢; omega⟩]
              exact (ihl _ _ ho).2 ⟨e2, h2, by simp⟩
            · cases he
          · cases he
    intro out v o
    unfold wrV wrp
    split
    · rw [fin_ok]
      constructor
      · rintro ⟨rfl, h⟩; exact ⟨_, rfl, rfl, h⟩
      · rintro ⟨e, he, rfl, h⟩; injection he with he; subst he; exact ⟨rfl, h⟩
    split
    · rw [fin_ok]
      constructor
      · rintro ⟨rfl, h⟩; exact ⟨_, rfl, by simp, h⟩
      · rintro ⟨e, he, rfl, h⟩; injection he with he; subst he; exact ⟨by simp, by simpa using h⟩
    split
    · rw [fin_ok]
      constructor
      · rintro ⟨rfl, h⟩; exact ⟨_, rfl, by simp, h⟩
      · rintro ⟨e, he, rfl, h⟩; injection he with he; subst he; exact ⟨by simp, by simpa using h⟩
    split
    · constructor
      · intro h
        split at h
        · rename_i o1 h1
          obtain ⟨rfl, h2⟩ := fin_ok.1 h
          obtain ⟨e, h3, h4⟩ := (hl _ _ _ h2).1 h1
          exact ⟨headL 3 v.list.length ++ e, by rw [h3], by rw [h4, List.append_assoc], h2⟩
        · cases h
      · rintro ⟨e, he, rfl, h⟩
        split at he
        · rename_i e1 h1
          injection he with he
          subst he
          rw [(hl v.list _ (out ++ (headL 3 v.list.length ++ e1)) h).2 ⟨e1, h1, by simp⟩]
          exact fin_ok.2 ⟨rfl, h⟩
        · cases he
    · simp

/-! ### what is written is read -/
/-- what of a value counts -/
def norm : Nat → Val → Val
  | 0, v => v
  | d + 1, v =>
    if v.kind = 0 then .mk 0 v.num [] 0 []
    else if v.kind = 1 then .mk 1 0 v.bytes 0 []
    else if v.kind = 2 then .mk 2 0 [] (canonB v.flt) []
    else .mk 3 0 [] 0 (v.list.map (norm d))
/-- numbers that fit their fields, all the way down -/
def Fits : Nat → Val → Prop
  | 0, _ => True
  | d + 1, v => v.num < 2 ^ 64 ∧ v.flt < 2 ^ 64 ∧ v.bytes.length < 2 ^ 64 ∧ v.list.length < 2 ^ 64 ∧ ∀ x ∈ v.list, Fits d x

theorem rdN_wrpL {f : Val → Res (List UInt8)} {g : List UInt8 → Res (Val × List UInt8)} {h : Val → Val} : ∀ (l : List Val) (e r : List UInt8), (∀ v ∈ l, ∀ e r, f v = .ok e → g (e ++ r) = .ok (h v, r)) → wrpL f l = .ok e → rdN g l.length (e ++ r) = .ok (l.map h, r)
  | [], e, r, _, he => by injection he with he; subst he; rfl
  | v :: l, e, r, hf, he => by
    rw [wrpL] at he
    split at he
    · rename_i e1 h1
      split at he
      · rename_i e2 h2
        injection he with he
        subst he
        rw [List.length_cons, rdN, List.append_assoc, hf v (by simp) e1 (e2 ++ r) h1]
        simp only []
        rw [rdN_wrpL l e2 r (fun v hv => hf v (by simp [hv])) h2]
        rfl
      · cases he
    · cases he

theorem rd_wrp : ∀ (d : Nat) (v : Val) (e r : List UInt8), Fits d v → wrp d v = .ok e → rd d (e ++ r) = .ok (norm d v, r) := by
  intro d
  induction d with
  | zero => intro v e r _ h; cases h
  | succ d ih =>
    intro v e r hf h
    obtain ⟨f1, f2, f3, f4, f5⟩ := hf
    unfold wrp at h
    unfold rd norm
    split at h
    · injection h with h
      subst h
      rename_i hk
      rw [headL_read r (by omega) f1]
      simp [hk]
    split at h
    · injection h with h
      subst h
      rename_i hk0 hk
      rw [List.append_assoc, headL_read _ (by omega) f3]
      simp [hk]
    split at h
    · injection h with h
      subst h
      rename_i hk0 hk1 hk
      rw [List.append_assoc, headL_read _ (by omega) (by omega)]
      have e1 : (be64 (canonB v.flt) ++ r).take 8 = be64 (canonB v.flt) := by rw [List.take_append_of_le_length (by simp [be64_length]), List.take_of_length_le (by simp [be64_length])]
      have e2 : (be64 (canonB v.flt) ++ r).drop 8 = r := by rw [List.drop_append_of_le_length (by simp [be64_length]), List.drop_of_length_le (by simp [be64_length])]; rfl
      simp only [e1, e2, ofBe_be64 (canonB_lt f2), canonB_canonB]
      simp [hk, be64_length]
    split at h
    · rename_i hk0 hk1 hk2 hk
      split at h
      · rename_i e1 h1
        injection h with h
        subst h
        rw [List.append_assoc, headL_read _ (by omega) f4]
        simp only []
        rw [rdN_wrpL (h := norm d) v.list e1 r (fun x hx e r he => ih x e r (f5 x hx) he) h1]
        simp [hk]
      · cases h
    · cases h

/-- what is read is what its value is written as -/
theorem rdN_back {f : Val → Res (List UInt8)} {g : List UInt8 → Res (Val × List UInt8)} {h : Val → Val} {p : Val → Prop} (hg : ∀ l v r, g l = .ok (v, r) → ∃ e, l = e ++ r ∧ f v = .ok e ∧ h v = v ∧ p v) : ∀ (n : Nat) (l : List UInt8) (vs : List Val) (r : List UInt8), rdN g n l = .ok (vs, r) →
    ∃ e, l = e ++ r ∧ wrpL f vs = .ok e ∧ vs.map h = vs ∧ vs.length = n ∧ ∀ v ∈ vs, p v
  | 0, l, vs, r, h => by injection h with h; injection h with h1 h2; subst h1 h2; exact ⟨[], rfl, rfl, rfl, rfl, by simp⟩
  | n + 1, l, vs, r, hn => by
    rw [rdN] at hn
    split at hn
    · rename_i v q h1
      split at hn
      · rename_i vs' q' h2
        injection hn with hn
        injection hn with e1 e2
        subst e1 e2
        obtain ⟨a, rfl, a2, a3, a4⟩ := hg _ _ _ h1
        obtain ⟨b, rfl, b2, b3, b4, b5⟩ := rdN_back hg n _ _ _ h2
        refine ⟨a ++ b, by simp, ?_, by simp [a3, b3], by simp [b4], by simp [a4]; exact b5⟩
        rw [wrpL, a2]
        simp only []
        rw [b2]
      · cases hn
    · cases hn

theorem rd_back : ∀ (d : Nat) (l : List UInt8) (v : Val) (r : List UInt8), rd d l = .ok (v, r) → ∃ e, l = e ++ r ∧ wrp d v = .ok e ∧ norm d v = v ∧ Fits d v := by
  intro d
  induction d with
  | zero => intro l v r h; cases h
  | succ d ih =>
    intro l v r h
    unfold rd at h
    split at h
    · cases h
    rename_i k n q hq
    obtain ⟨rfl, hk4, hn⟩ := rdH_back hq
    split at h
    · rename_i hk
      subst hk
      injection h with h
      injection h with h1 h2
      subst h1 h2
      exact ⟨headL 0 n, rfl, by simp [wrp, Val.kind, Val.num], by simp [norm, Val.kind, Val.num], by simpa [Fits, Val.num, Val.flt, Val.bytes, Val.list] using hn⟩
    split at h
    · rename_i hk
      subst hk
      split at h
      · cases h
      · rename_i hlen
        injection h with h
        injection h with h1 h2
        subst h1 h2
        have hl : (q.take n).length = n := by rw [List.length_take]; omega
        refine ⟨headL 1 n ++ q.take n, by simp, ?_, by simp [norm, Val.kind, Val.bytes], by simp [Fits, Val.num, Val.flt, Val.bytes, Val.list]; omega⟩
        simp [wrp, Val.kind, Val.bytes]
        rw [Nat.min_eq_left (by omega)]
    split at h
    · rename_i hk
      subst hk
      split at h
      · cases h
      · rename_i hlen
        split at h
        · cases h
        · rename_i hc
          injection h with h
          injection h with h1 h2
          subst h1 h2
          have hn0 : n = 0 := by apply Classical.byContradiction; intro h; exact hc (.inl h)
          have hcb : canonB (ofBe (q.take 8)) = ofBe (q.take 8) := by apply Classical.byContradiction; intro h; exact hc (.inr h)
          subst hn0
          obtain ⟨e1, e2⟩ := be64_ofBe (l := q.take 8) (by rw [List.length_take]; omega)
          refine ⟨headL 2 0 ++ q.take 8, by simp, ?_, by simp [norm, Val.kind, Val.flt, hcb], by simp only [Fits, Val.num, Val.flt, Val.bytes, Val.list]; exact ⟨by omega, e2, by simp, by simp, by simp⟩⟩
          simp [wrp, Val.kind, Val.flt, hcb, e1]
    · rename_i hk0 hk1 hk2
      have hk3 : k = 3 := by omega
      subst hk3
      split at h
      · rename_i vs q' h1
        injection h with h
        injection h with e1 e2
        subst e1 e2
        obtain ⟨e, rfl, h2, h3, h4, h5⟩ := rdN_back (f := wrp d) (h := norm d) (p := Fits d) ih n q vs q' h1
        refine ⟨headL 3 n ++ e, by simp, ?_, by simp [norm, Val.kind, Val.list, h3], by simp only [Fits, Val.num, Val.flt, Val.bytes, Val.list]; exact ⟨by omega, by omega, by simp, by omega, h5⟩⟩
        simp [wrp, Val.kind, Val.list, h2, h4]
      · cases h

/-! ### cut short -/
theorem app_cut {α : Type} {p q a b : List α} (h : p ++ q = a ++ b) : (∃ s, a = p ++ s ∧ q = s ++ b ∧ s ≠ []) ∨ ∃ s, p = a ++ s ∧ b = s ++ q := by
  rcases List.append_eq_append_iff.1 h with ⟨s, h1, h2⟩ | ⟨s, h1, h2⟩
  · by_cases hs : s = []
    · subst hs
      exact .inr ⟨[], by simpa using h1.symm, by simpa using h2.symm⟩
    · exact .inl ⟨s, h1, h2, hs⟩
  · exact .inr ⟨s, h1, h2⟩

theorem rdN_cut {f : Val → Res (List UInt8)} {g : List UInt8 → Res (Val × List UInt8)} {h : Val → Val} : ∀ (l : List Val) (e p q : List UInt8), (∀ v ∈ l, ∀ e, f v = .ok e → (∀ r, g (e ++ r) = .ok (h v, r)) ∧ ∀ p q, p ++ q = e → q ≠ [] → g p = .error 20) →
    wrpL f l = .ok e → p ++ q = e → q ≠ [] → rdN g l.length p = .error 20
  | [], e, p, q, _, he, hp, hq => by injection he with he; subst he; simp at hp; exact absurd hp.2 hq
  | v :: l, e, p, q, hf, he, hp, hq => by
    rw [wrpL] at he
    split at he
    · rename_i e1 h1
      split at he
      · rename_i e2 h2
        injection he with he
        subst he
        obtain ⟨a1, a2⟩ := hf v (by simp) e1 h1
        rw [List.length_cons, rdN]
        rcases app_cut hp with ⟨s, rfl, rfl, hs⟩ | ⟨s, rfl, h3⟩
        · rw [a2 p s rfl hs]
        · rw [a1 s]
          simp only []
          rw [rdN_cut l e2 s q (fun v hv => hf v (by simp [hv])) h2 h3.symm hq]
      · cases he
    · cases he

theorem rd_cut : ∀ (d : Nat) (v : Val) (e p q : List UInt8), Fits d v → wrp d v = .ok e → p ++ q = e → q ≠ [] → rd d p = .error 20 := by
  intro d
  induction d with
  | zero => intro v e p q _ h; cases h
  | succ d ih =>
    intro v e p q hf h hp hq
    obtain ⟨f1, f2, f3, f4, f5⟩ := hf
    unfold wrp at h
    unfold rd
    split at h
    · injection h with h
      rw [headL_cut (k := 0) (by omega) f1 (hp.trans h.symm) hq]
    split at h
    · injection h with h
      rw [← h] at hp
      rcases app_cut hp with ⟨s, h1, rfl, hs⟩ | ⟨s, rfl, h3⟩
      · rw [headL_cut (k := 1) (by omega) f3 h1.symm hs]
      · rw [headL_read _ (by omega) f3]
        have : s.length < v.bytes.length := by rw [h3, List.length_append]; have := List.length_pos_iff.2 hq; omega
        simp [this]
    split at h
    · injection h with h
      rw [← h] at hp
      rcases app_cut hp with ⟨s, h1, rfl, hs⟩ | ⟨s, rfl, h3⟩
      · rw [headL_cut (k := 2) (n := 0) (by omega) (by omega) h1.symm hs]
      · rw [headL_read _ (by omega) (by omega)]
        have : s.length < 8 := by
          have h8 := congrArg List.length h3
          rw [be64_length, List.length_append] at h8
          have := List.length_pos_iff.2 hq; omega
        simp [this]
    split at h
    · split at h
      · rename_i e1 h1
        injection h with h
        rw [← h] at hp
        rcases app_cut hp with ⟨s, h2, rfl, hs⟩ | ⟨s, rfl, h3⟩
        · rw [headL_cut (k := 3) (by omega) f4 h2.symm hs]
        · rw [headL_read _ (by omega) f4]
          simp only []
          rw [rdN_cut (h := norm d) v.list e1 s q (fun x hx e he => ⟨fun r => rd_wrp d x e r (f5 x hx) he, fun p q hp hq => ih x e p q (f5 x hx) he hp hq⟩) h1 h3.symm hq]
          simp
      · cases h
    · cases h

/-! ### Encode and Decode -/
theorem enc_iff (v : Val) (o : List UInt8) : enc v = .ok o ↔ wrp 16 v = .ok o ∧ o.length ≤ 1048576 := by
  unfold enc
  rw [wr_iff]
  constructor
  · rintro ⟨e, h, rfl, h2⟩; exact ⟨by simpa using h, h2⟩
  · rintro ⟨h, h2⟩; exact ⟨o, h, rfl, h2⟩
theorem dec_enc {v : Val} {o : List UInt8} (hf : Fits 16 v) (h : enc v = .ok o) : dec o = .ok (norm 16 v) := by
  obtain ⟨h1, h2⟩ := (enc_iff v o).1 h
  have := rd_wrp 16 v o [] hf h1
  rw [List.append_nil] at this
  unfold dec
  rw [if_neg (by omega), this]
theorem dec_back {l : List UInt8} {v : Val} (h : dec l = .ok v) : enc v = .ok l ∧ norm 16 v = v ∧ Fits 16 v ∧ l.length ≤ 1048576 := by
  unfold dec at h
  split at h
  · cases h
  rename_i hl
  split at h
  · cases h
  · rename_i v' hv
    injection h with h
    subst h
    obtain ⟨e, h1, h2, h3, h4⟩ := rd_back 16 l v' [] hv
    rw [List.append_nil] at h1
    subst h1
    exact ⟨(enc_iff _ _).2 ⟨h2, by omega⟩, h3, h4, by omega⟩
  · cases h
theorem norm_kind {d : Nat} {v : Val} {e : List UInt8} (h : wrp (d + 1) v = .ok e) : (norm (d + 1) v).kind = v.kind := by
  unfold wrp at h
  unfold norm
  split
  · simp_all [Val.kind]
  split
  · simp_all [Val.kind]
  split
  · simp_all [Val.kind]
  rename_i h0 h1 h2
  by_cases h3 : v.kind = 3
  · rw [h3]; rfl
  · rw [if_neg h0, if_neg h1, if_neg h2, if_neg h3] at h
    cases h
theorem dec_cut {v : Val} {o p q : List UInt8} (hf : Fits 16 v) (h : enc v = .ok o) (hp : p ++ q = o) (hq : q ≠ []) : dec p = .error 20 := by
  obtain ⟨h1, h2⟩ := (enc_iff v o).1 h
  have hpl : p.length ≤ 1048576 := by rw [← hp, List.length_append] at h2; omega
  unfold dec
  rw [if_neg (by omega), rd_cut 16 v o p q hf h1 hp hq]
theorem dec_more {v : Val} {o m : List UInt8} (hf : Fits 16 v) (h : enc v = .ok o) (hl : o.length + m.length ≤ 1048576) : dec (o ++ m) = if m = [] then .ok (norm 16 v) else .error 23 := by
  obtain ⟨h1, h2⟩ := (enc_iff v o).1 h
  unfold dec
  rw [if_neg (by simp; omega), rd_wrp 16 v o m hf h1]
  cases m <;> simp
end Go.Proofs.Ythpcanibahcghaa
