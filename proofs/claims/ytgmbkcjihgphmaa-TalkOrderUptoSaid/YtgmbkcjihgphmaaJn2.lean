/- Contracts and laws for what the statement reaches, joined: GrainLaws, ObjPlain, Region, BytesList. -/
import Derived.Test.YtgmbkcjihgphmaaJn1
import Derived.Deep.DrawnRows
import Derived.Laws.AppendOwn
import Derived.Laws.IdiomStrings
import Derived.OrdersHeld
import Derived.RegionTactic
/- grain, plain: what is written is read again, and the other way round; cut short it is too short. -/
set_option linter.unusedVariables false
namespace Go.Proofs.Ytgmbkcjihgphmaa
open Go.RowKit

/-! ### eight bytes -/
theorem be64_length (b : Nat) : (be64 b).length = 8 := rfl
theorem ofBe_be64 {b : Nat} (hb : b < 2 ^ 64) : ofBe (be64 b) = b := by
  have h : ∀ i, (UInt8.ofNat i).toNat = i % 256 := fun i => by simp [UInt8.toNat_ofNat']
  simp only [ofBe, be64, List.map_cons, List.map_nil, List.foldl_cons, List.foldl_nil, h]
  omega
theorem be64_ofBe {l : List UInt8} (hl : l.length = 8) : be64 (ofBe l) = l ∧ ofBe l < 2 ^ 64 := by
  match l, hl with
  | [a, b, c, d, e, f, g, h], _ =>
    have ha := u8_lt a; have hb := u8_lt b; have hc := u8_lt c; have hd := u8_lt d; have he := u8_lt e; have hf := u8_lt f; have hg := u8_lt g; have hh := u8_lt h
    simp only [ofBe, be64, List.map_cons, List.map_nil, List.foldl_cons, List.foldl_nil]
    refine ⟨?_, by omega⟩
    congr 1
    · exact u8_ext (by rw [u8_ofNat (by omega)]; omega)
    have key : ∀ (n : Nat) (x : UInt8), n % 256 = x.toNat → UInt8.ofNat n = x := fun n x h => u8_ext (by rw [show (UInt8.ofNat n).toNat = n % 256 from by simp [UInt8.toNat_ofNat']]; exact h)
    congr 1
    · exact key _ _ (by omega)
    congr 1
    · exact key _ _ (by omega)
    congr 1
    · exact key _ _ (by omega)
    congr 1
    · exact key _ _ (by omega)
    congr 1
    · exact key _ _ (by omega)
    congr 1
    · exact key _ _ (by omega)
    congr 1
    · exact key _ _ (by omega)
theorem isNan_nanB : isNan nanB = true := by decide +kernel
theorem canonB_canonB (b : Nat) : canonB (canonB b) = canonB b := by
  unfold canonB
  by_cases h : isNan b = true
  · simp [h, isNan_nanB]
  · simp [h]
theorem canonB_lt {b : Nat} (h : b < 2 ^ 64) : canonB b < 2 ^ 64 := by
  unfold canonB nanB
  split <;> omega

/-! ### writing without a limit -/
def wrpL (f : Val → Res (List UInt8)) : List Val → Res (List UInt8)
  | [] => .ok []
  | v :: r => match f v with | .ok e => (match wrpL f r with | .ok e' => .ok (e ++ e') | .error c => .error c) | .error c => .error c
def wrp : Nat → Val → Res (List UInt8)
  | 0, _ => .error 24
  | d + 1, v =>
    if v.kind = 0 then .ok (headL 0 v.num)
    else if v.kind = 1 then .ok (headL 1 v.bytes.length ++ v.bytes)
    else if v.kind = 2 then .ok (headL 2 0 ++ be64 (canonB v.flt))
    else if v.kind = 3 then match wrpL (wrp d) v.list with | .ok o => .ok (headL 3 v.list.length ++ o) | .error e => .error e
    else .error 22

theorem fin_ok {o x : List UInt8} : fin o = .ok x ↔ o = x ∧ o.length ≤ 1048576 := by
  unfold fin
  split
  · constructor
    · intro h; cases h
    · rintro ⟨_, h⟩; omega
  · constructor
    · intro h; injection h with h; exact ⟨h, by omega⟩
    · rintro ⟨rfl, _⟩; rfl

theorem wr_iff : ∀ (d : Nat) (out : List UInt8) (v : Val) (o : List UInt8), wrV d out v = .ok o ↔ ∃ e, wrp d v = .ok e ∧ o = out ++ e ∧ o.length ≤ 1048576 := by
  intro d
  induction d with
  | zero => intro out v o; simp [wrV, wrp]
  | succ d ih =>
    have hl : ∀ (l : List Val) (out o : List UInt8), o.length ≤ 1048576 → (wrL (wrV d) out l = .ok o ↔ ∃ e, wrpL (wrp d) l = .ok e ∧ o = out ++ e) := by
      intro l
      induction l with
      | nil =>
        intro out o ho
        simp [wrL, wrpL]
        exact eq_comm
      | cons v r ihl =>
        intro out o ho
        rw [wrL, wrpL]
        constructor
        · intro h
          split at h
          · rename_i o1 h1
            obtain ⟨e1, h2, rfl, h3⟩ := (ih out v o1).1 h1
            obtain ⟨e2, h4, h5⟩ := (ihl _ o ho).1 h
            exact ⟨e1 ++ e2, by rw [h2, h4], by rw [h5, List.append_assoc]⟩
          · cases h
        · rintro ⟨e, he, rfl⟩
          split at he
          · rename_i e1 h1
            split at he
            · rename_i e2 h2
              injection he with he
              subst he
              rw [(ih out v (out ++ e1)).2 ⟨e1, h1, rfl, by simp at ho ⊢; omega⟩]
              exact (ihl _ _ ho).2 ⟨e2, h2, by simp⟩
            · cases he
          · cases he
    intro out v o
    unfold wrV wrp
    split
    · rw [fin_ok]
      constructor
      · rintro ⟨rfl, h⟩; exact ⟨_, rfl, rfl, h⟩
      · rintro ⟨e, he, rfl, h⟩; injection he with he; subst he; exact ⟨rfl, h⟩
    split
    · rw [fin_ok]
      constructor
      · rintro ⟨rfl, h⟩; exact ⟨_, rfl, by simp, h⟩
      · rintro ⟨e, he, rfl, h⟩; injection he with he; subst he; exact ⟨by simp, by simpa using h⟩
    split
    · rw [fin_ok]
      constructor
      · rintro ⟨rfl, h⟩; exact ⟨_, rfl, by simp, h⟩
      · rintro ⟨e, he, rfl, h⟩; injection he with he; subst he; exact ⟨by simp, by simpa using h⟩
    split
    · constructor
      · intro h
        split at h
        · rename_i o1 h1
          obtain ⟨rfl, h2⟩ := fin_ok.1 h
          obtain ⟨e, h3, h4⟩ := (hl _ _ _ h2).1 h1
          exact ⟨headL 3 v.list.length ++ e, by rw [h3], by rw [h4, List.append_assoc], h2⟩
        · cases h
      · rintro ⟨e, he, rfl, h⟩
        split at he
        · rename_i e1 h1
          injection he with he
          subst he
          rw [(hl v.list _ (out ++ (headL 3 v.list.length ++ e1)) h).2 ⟨e1, h1, by simp⟩]
          exact fin_ok.2 ⟨rfl, h⟩
        · cases he
    · simp

/-! ### what is written is read -/
/-- what of a value counts -/
def norm : Nat → Val → Val
  | 0, v => v
  | d + 1, v =>
    if v.kind = 0 then .mk 0 v.num [] 0 []
    else if v.kind = 1 then .mk 1 0 v.bytes 0 []
    else if v.kind = 2 then .mk 2 0 [] (canonB v.flt) []
    else .mk 3 0 [] 0 (v.list.map (norm d))
/-- numbers that fit their fields, all the way down -/
def Fits : Nat → Val → Prop
  | 0, _ => True
  | d + 1, v => v.num < 2 ^ 64 ∧ v.flt < 2 ^ 64 ∧ v.bytes.length < 2 ^ 64 ∧ v.list.length < 2 ^ 64 ∧ ∀ x ∈ v.list, Fits d x

theorem rdN_wrpL {f : Val → Res (List UInt8)} {g : List UInt8 → Res (Val × List UInt8)} {h : Val → Val} : ∀ (l : List Val) (e r : List UInt8), (∀ v ∈ l, ∀ e r, f v = .ok e → g (e ++ r) = .ok (h v, r)) → wrpL f l = .ok e → rdN g l.length (e ++ r) = .ok (l.map h, r)
  | [], e, r, _, he => by injection he with he; subst he; rfl
  | v :: l, e, r, hf, he => by
    rw [wrpL] at he
    split at he
    · rename_i e1 h1
      split at he
      · rename_i e2 h2
        injection he with he
        subst he
        rw [List.length_cons, rdN, List.append_assoc, hf v (by simp) e1 (e2 ++ r) h1]
        simp only []
        rw [rdN_wrpL l e2 r (fun v hv => hf v (by simp [hv])) h2]
        rfl
      · cases he
    · cases he

theorem rd_wrp : ∀ (d : Nat) (v : Val) (e r : List UInt8), Fits d v → wrp d v = .ok e → rd d (e ++ r) = .ok (norm d v, r) := by
  intro d
  induction d with
  | zero => intro v e r _ h; cases h
  | succ d ih =>
    intro v e r hf h
    obtain ⟨f1, f2, f3, f4, f5⟩ := hf
    unfold wrp at h
    unfold rd norm
    split at h
    · injection h with h
      subst h
      rename_i hk
      rw [headL_read r (by omega) f1]
      simp [hk]
    split at h
    · injection h with h
      subst h
      rename_i hk0 hk
      rw [List.append_assoc, headL_read _ (by omega) f3]
      simp [hk]
    split at h
    · injection h with h
      subst h
      rename_i hk0 hk1 hk
      rw [List.append_assoc, headL_read _ (by omega) (by omega)]
      have e1 : (be64 (canonB v.flt) ++ r).take 8 = be64 (canonB v.flt) := by rw [List.take_append_of_le_length (by simp [be64_length]), List.take_of_length_le (by simp [be64_length])]
      have e2 : (be64 (canonB v.flt) ++ r).drop 8 = r := by rw [List.drop_append_of_le_length (by simp [be64_length]), List.drop_of_length_le (by simp [be64_length])]; rfl
      simp only [e1, e2, ofBe_be64 (canonB_lt f2), canonB_canonB]
      simp [hk, be64_length]
    split at h
    · rename_i hk0 hk1 hk2 hk
      split at h
      · rename_i e1 h1
        injection h with h
        subst h
        rw [List.append_assoc, headL_read _ (by omega) f4]
        simp only []
        rw [rdN_wrpL (h := norm d) v.list e1 r (fun x hx e r he => ih x e r (f5 x hx) he) h1]
        simp [hk]
      · cases h
    · cases h

/-- what is read is what its value is written as -/
theorem rdN_back {f : Val → Res (List UInt8)} {g : List UInt8 → Res (Val × List UInt8)} {h : Val → Val} {p : Val → Prop} (hg : ∀ l v r, g l = .ok (v, r) → ∃ e, l = e ++ r ∧ f v = .ok e ∧ h v = v ∧ p v) : ∀ (n : Nat) (l : List UInt8) (vs : List Val) (r : List UInt8), rdN g n l = .ok (vs, r) →
    ∃ e, l = e ++ r ∧ wrpL f vs = .ok e ∧ vs.map h = vs ∧ vs.length = n ∧ ∀ v ∈ vs, p v
  | 0, l, vs, r, h => by injection h with h; injection h with h1 h2; subst h1 h2; exact ⟨[], rfl, rfl, rfl, rfl, by simp⟩
  | n + 1, l, vs, r, hn => by
    rw [rdN] at hn
    split at hn
    · rename_i v q h1
      split at hn
      · rename_i vs' q' h2
        injection hn with hn
        injection hn with e1 e2
        subst e1 e2
        obtain ⟨a, rfl, a2, a3, a4⟩ := hg _ _ _ h1
        obtain ⟨b, rfl, b2, b3, b4, b5⟩ := rdN_back hg n _ _ _ h2
        refine ⟨a ++ b, by simp, ?_, by simp [a3, b3], by simp [b4], by simp [a4]; exact b5⟩
        rw [wrpL, a2]
        simp only []
        rw [b2]
      · cases hn
    · cases hn

theorem rd_back : ∀ (d : Nat) (l : List UInt8) (v : Val) (r : List UInt8), rd d l = .ok (v, r) → ∃ e, l = e ++ r ∧ wrp d v = .ok e ∧ norm d v = v ∧ Fits d v := by
  intro d
  induction d with
  | zero => intro l v r h; cases h
  | succ d ih =>
    intro l v r h
    unfold rd at h
    split at h
    · cases h
    rename_i k n q hq
    obtain ⟨rfl, hk4, hn⟩ := rdH_back hq
    split at h
    · rename_i hk
      subst hk
      injection h with h
      injection h with h1 h2
      subst h1 h2
      exact ⟨headL 0 n, rfl, by simp [wrp, Val.kind, Val.num], by simp [norm, Val.kind, Val.num], by simpa [Fits, Val.num, Val.flt, Val.bytes, Val.list] using hn⟩
    split at h
    · rename_i hk
      subst hk
      split at h
      · cases h
      · rename_i hlen
        injection h with h
        injection h with h1 h2
        subst h1 h2
        have hl : (q.take n).length = n := by rw [List.length_take]; omega
        refine ⟨headL 1 n ++ q.take n, by simp, ?_, by simp [norm, Val.kind, Val.bytes], by simp [Fits, Val.num, Val.flt, Val.bytes, Val.list]; omega⟩
        simp [wrp, Val.kind, Val.bytes]
        rw [Nat.min_eq_left (by omega)]
    split at h
    · rename_i hk
      subst hk
      split at h
      · cases h
      · rename_i hlen
        split at h
        · cases h
        · rename_i hc
          injection h with h
          injection h with h1 h2
          subst h1 h2
          have hn0 : n = 0 := by apply Classical.byContradiction; intro h; exact hc (.inl h)
          have hcb : canonB (ofBe (q.take 8)) = ofBe (q.take 8) := by apply Classical.byContradiction; intro h; exact hc (.inr h)
          subst hn0
          obtain ⟨e1, e2⟩ := be64_ofBe (l := q.take 8) (by rw [List.length_take]; omega)
          refine ⟨headL 2 0 ++ q.take 8, by simp, ?_, by simp [norm, Val.kind, Val.flt, hcb], by simp only [Fits, Val.num, Val.flt, Val.bytes, Val.list]; exact ⟨by omega, e2, by simp, by simp, by simp⟩⟩
          simp [wrp, Val.kind, Val.flt, hcb, e1]
    · rename_i hk0 hk1 hk2
      have hk3 : k = 3 := by omega
      subst hk3
      split at h
      · rename_i vs q' h1
        injection h with h
        injection h with e1 e2
        subst e1 e2
        obtain ⟨e, rfl, h2, h3, h4, h5⟩ := rdN_back (f := wrp d) (h := norm d) (p := Fits d) ih n q vs q' h1
        refine ⟨headL 3 n ++ e, by simp, ?_, by simp [norm, Val.kind, Val.list, h3], by simp only [Fits, Val.num, Val.flt, Val.bytes, Val.list]; exact ⟨by omega, by omega, by simp, by omega, h5⟩⟩
        simp [wrp, Val.kind, Val.list, h2, h4]
      · cases h

/-! ### cut short -/
theorem app_cut {α : Type} {p q a b : List α} (h : p ++ q = a ++ b) : (∃ s, a = p ++ s ∧ q = s ++ b ∧ s ≠ []) ∨ ∃ s, p = a ++ s ∧ b = s ++ q := by
  rcases List.append_eq_append_iff.1 h with ⟨s, h1, h2⟩ | ⟨s, h1, h2⟩
  · by_cases hs : s = []
    · subst hs
      exact .inr ⟨[], by simpa using h1.symm, by simpa using h2.symm⟩
    · exact .inl ⟨s, h1, h2, hs⟩
  · exact .inr ⟨s, h1, h2⟩

theorem rdN_cut {f : Val → Res (List UInt8)} {g : List UInt8 → Res (Val × List UInt8)} {h : Val → Val} : ∀ (l : List Val) (e p q : List UInt8), (∀ v ∈ l, ∀ e, f v = .ok e → (∀ r, g (e ++ r) = .ok (h v, r)) ∧ ∀ p q, p ++ q = e → q ≠ [] → g p = .error 20) →
    wrpL f l = .ok e → p ++ q = e → q ≠ [] → rdN g l.length p = .error 20
  | [], e, p, q, _, he, hp, hq => by injection he with he; subst he; simp at hp; exact absurd hp.2 hq
  | v :: l, e, p, q, hf, he, hp, hq => by
    rw [wrpL] at he
    split at he
    · rename_i e1 h1
      split at he
      · rename_i e2 h2
        injection he with he
        subst he
        obtain ⟨a1, a2⟩ := hf v (by simp) e1 h1
        rw [List.length_cons, rdN]
        rcases app_cut hp with ⟨s, rfl, rfl, hs⟩ | ⟨s, rfl, h3⟩
        · rw [a2 p s rfl hs]
        · rw [a1 s]
          simp only []
          rw [rdN_cut l e2 s q (fun v hv => hf v (by simp [hv])) h2 h3.symm hq]
      · cases he
    · cases he

theorem rd_cut : ∀ (d : Nat) (v : Val) (e p q : List UInt8), Fits d v → wrp d v = .ok e → p ++ q = e → q ≠ [] → rd d p = .error 20 := by
  intro d
  induction d with
  | zero => intro v e p q _ h; cases h
  | succ d ih =>
    intro v e p q hf h hp hq
    obtain ⟨f1, f2, f3, f4, f5⟩ := hf
    unfold wrp at h
    unfold rd
    split at h
    · injection h with h
      rw [headL_cut (k := 0) (by omega) f1 (hp.trans h.symm) hq]
    split at h
    · injection h with h
      rw [← h] at hp
      rcases app_cut hp with ⟨s, h1, rfl, hs⟩ | ⟨s, rfl, h3⟩
      · rw [headL_cut (k := 1) (by omega) f3 h1.symm hs]
      · rw [headL_read _ (by omega) f3]
        have : s.length < v.bytes.length := by rw [h3, List.length_append]; have := List.length_pos_iff.2 hq; omega
        simp [this]
    split at h
    · injection h with h
      rw [← h] at hp
      rcases app_cut hp with ⟨s, h1, rfl, hs⟩ | ⟨s, rfl, h3⟩
      · rw [headL_cut (k := 2) (n := 0) (by omega) (by omega) h1.symm hs]
      · rw [headL_read _ (by omega) (by omega)]
        have : s.length < 8 := by
          have h8 := congrArg List.length h3
          rw [be64_length, List.length_append] at h8
          have := List.length_pos_iff.2 hq; omega
        simp [this]
    split at h
    · split at h
      · rename_i e1 h1
        injection h with h
        rw [← h] at hp
        rcases app_cut hp with ⟨s, h2, rfl, hs⟩ | ⟨s, rfl, h3⟩
        · rw [headL_cut (k := 3) (by omega) f4 h2.symm hs]
        · rw [headL_read _ (by omega) f4]
          simp only []
          rw [rdN_cut (h := norm d) v.list e1 s q (fun x hx e he => ⟨fun r => rd_wrp d x e r (f5 x hx) he, fun p q hp hq => ih x e p q (f5 x hx) he hp hq⟩) h1 h3.symm hq]
          simp
      · cases h
    · cases h

/-! ### Encode and Decode -/
theorem enc_iff (v : Val) (o : List UInt8) : enc v = .ok o ↔ wrp 16 v = .ok o ∧ o.length ≤ 1048576 := by
  unfold enc
  rw [wr_iff]
  constructor
  · rintro ⟨e, h, rfl, h2⟩; exact ⟨by simpa using h, h2⟩
  · rintro ⟨h, h2⟩; exact ⟨o, h, rfl, h2⟩
theorem dec_enc {v : Val} {o : List UInt8} (hf : Fits 16 v) (h : enc v = .ok o) : dec o = .ok (norm 16 v) := by
  obtain ⟨h1, h2⟩ := (enc_iff v o).1 h
  have := rd_wrp 16 v o [] hf h1
  rw [List.append_nil] at this
  unfold dec
  rw [if_neg (by omega), this]
theorem dec_back {l : List UInt8} {v : Val} (h : dec l = .ok v) : enc v = .ok l ∧ norm 16 v = v ∧ Fits 16 v ∧ l.length ≤ 1048576 := by
  unfold dec at h
  split at h
  · cases h
  rename_i hl
  split at h
  · cases h
  · rename_i v' hv
    injection h with h
    subst h
    obtain ⟨e, h1, h2, h3, h4⟩ := rd_back 16 l v' [] hv
    rw [List.append_nil] at h1
    subst h1
    exact ⟨(enc_iff _ _).2 ⟨h2, by omega⟩, h3, h4, by omega⟩
  · cases h
theorem norm_kind {d : Nat} {v : Val} {e : List UInt8} (h : wrp (d + 1) v = .ok e) : (norm (d + 1) v).kind = v.kind := by
  unfold wrp at h
  unfold norm
  split
  · simp_all [Val.kind]
  split
  · simp_all [Val.kind]
  split
  · simp_all [Val.kind]
  rename_i h0 h1 h2
  by_cases h3 : v.kind = 3
  · rw [h3]; rfl
  · rw [if_neg h0, if_neg h1, if_neg h2, if_neg h3] at h
    cases h
theorem dec_cut {v : Val} {o p q : List UInt8} (hf : Fits 16 v) (h : enc v = .ok o) (hp : p ++ q = o) (hq : q ≠ []) : dec p = .error 20 := by
  obtain ⟨h1, h2⟩ := (enc_iff v o).1 h
  have hpl : p.length ≤ 1048576 := by rw [← hp, List.length_append] at h2; omega
  unfold dec
  rw [if_neg (by omega), rd_cut 16 v o p q hf h1 hp hq]
theorem dec_more {v : Val} {o m : List UInt8} (hf : Fits 16 v) (h : enc v = .ok o) (hl : o.length + m.length ≤ 1048576) : dec (o ++ m) = if m = [] then .ok (norm 16 v) else .error 23 := by
  obtain ⟨h1, h2⟩ := (enc_iff v o).1 h
  unfold dec
  rw [if_neg (by simp; omega), rd_wrp 16 v o m hf h1]
  cases m <;> simp
end Go.Proofs.Ytgmbkcjihgphmaa

/- object, plain: blobs, trees, commits as values, and how they are read out of bytes. -/
set_option linter.unusedVariables false
namespace Go.Proofs.Ytgmbkcjihgphmaa
open Go.RowKit

abbrev BlobT := List (List UInt8) × Int
abbrev EntT := ByteArray × Bool × List UInt8 × Nat
abbrev ComT := List UInt8 × List (List UInt8) × Nat × ByteArray × ByteArray

def sB (s : ByteArray) : List UInt8 := s.data.toList
def txtV (b : List UInt8) : Val := .mk 1 0 b 0 []
def numV (n : Nat) : Val := .mk 0 n [] 0 []
def fltV (f : Nat) : Val := .mk 2 0 [] f []
def lstV (l : List Val) : Val := .mk 3 0 [] 0 l
def sealG (kind : Nat) (vs : List Val) : Res (List UInt8) := enc (lstV (numV kind :: vs))

/-! ### names, order -/
def badB (x : UInt8) : Bool := x < 32 || x == 127 || x == 47
def nameG (l : List UInt8) : Bool := l != [] && l != [46] && l != [46, 46] && decide (l.length ≤ 64) && l.all (fun x => !badB x)
/-- the error's number of a tree's names, behind a name p -/
def ordG : Option (List UInt8) → List EntT → Int
  | _, [] => 0
  | p, x :: r => if nameG (sB x.1) = false then 50 else if (match p with | none => false | some q => !(Op.bytesLess q (sB x.1))) = true then 92 else ordG (some (sB x.1)) r
def orderedG (l : List EntT) : Int := if 1024 < l.length then 2 else ordG none l
def riseG : Option (List UInt8) → List (List UInt8) → Bool
  | _, [] => true
  | none, x :: r => riseG (some x) r
  | some p, x :: r => Op.bytesLess p x && riseG (some x) r
def risingG (l : List (List UInt8)) : Bool := riseG none l

/-! ### writing -/
def putChunk (b : List UInt8) : Res (List UInt8) := if 262144 < b.length then .error 2 else sealG 1 [txtV b]
def putBlob (x : BlobT) : Res (List UInt8) := if 4096 < x.1.length ∨ 262144 < x.2 then .error 2 else if x.2 < 0 then .error 1 else sealG 2 [lstV (x.1.map txtV), numV x.2.toNat]
def entV (x : EntT) : Val := if x.2.1 then lstV [txtV (sB x.1), txtV x.2.2.1] else lstV [txtV (sB x.1), txtV x.2.2.1, fltV (canonB x.2.2.2)]
def putTree (l : List EntT) : Res (List UInt8) := if orderedG l ≠ 0 then .error (orderedG l) else sealG 3 [lstV (l.map entV)]
def putCommit (x : ComT) : Res (List UInt8) := if 8 < x.2.1.length ∨ 64 < (sB x.2.2.2.1).length ∨ 1024 < (sB x.2.2.2.2).length then .error 2 else if risingG x.2.1 = false then .error 92 else
  sealG 4 [txtV x.1, lstV (x.2.1.map txtV), fltV (canonB x.2.2.1), txtV (sB x.2.2.2.1), txtV (sB x.2.2.2.2)]

/-! ### reading -/
def bindR {α β : Type} : Res α → (α → Res β) → Res β
  | .error z, _ => .error z
  | .ok x, f => f x
def openV (v : Val) (kind count : Nat) : Res (List Val) := if v.kind ≠ 3 ∨ v.list.length ≠ count + 1 then .error 91 else match v.list with
    | [] => .error 91
    | h :: t => if h.kind ≠ 0 then .error 91 else if h.num ≠ kind then .error 90 else .ok t
def openG (l : List UInt8) (kind count : Nat) : Res (List Val) := bindR (dec l) fun v => openV v kind count
def textG (v : Val) (most : Nat) : Res (List UInt8) := if v.kind ≠ 1 then .error 91 else if most < v.bytes.length then .error 2 else .ok v.bytes
def idG (v : Val) : Res (List UInt8) := if v.kind ≠ 1 ∨ v.bytes.length ≠ 32 then .error 91 else .ok v.bytes
def listG (v : Val) (most : Nat) : Res (List Val) := if v.kind ≠ 3 then .error 91 else if most < v.list.length then .error 2 else .ok v.list
/-- each of a list -/
def eachG {α : Type} (f : Val → Res α) : List Val → Res (List α)
  | [] => .ok []
  | v :: r => bindR (f v) fun x => bindR (eachG f r) fun xs => .ok (x :: xs)
/-- the i-th of a record's values -/
def nthV (vs : List Val) (i : Nat) : Val := vs.getD i Val.zero
def getChunk (l : List UInt8) : Res (List UInt8) := bindR (openG l 1 1) fun vs => textG (nthV vs 0) 262144
def idsG (v : Val) (most : Nat) : Res (List (List UInt8)) := bindR (listG v most) (eachG idG)
def blobEnd (is : List (List UInt8)) (v : Val) : Res BlobT := if v.kind ≠ 0 then .error 91 else if 262144 < v.num then .error 2 else .ok (is, (v.num : Int))
def getBlob (l : List UInt8) : Res BlobT := bindR (openG l 2 2) fun vs => bindR (idsG (nthV vs 0) 4096) fun is => blobEnd is (nthV vs 1)
def entEnd (row : List Val) (s i : List UInt8) : Res EntT := if row.length = 2 then .ok (⟨s.toArray⟩, true, i, 0) else if (nthV row 2).kind ≠ 2 then .error 91 else .ok (⟨s.toArray⟩, false, i, (nthV row 2).flt)
def entRow (row : List Val) : Res EntT := if row.length < 2 then .error 91 else bindR (textG (nthV row 0) 64) fun s => bindR (idG (nthV row 1)) fun i => entEnd row s i
def entG (v : Val) : Res EntT := bindR (listG v 3) entRow
def treeEnd (es : List EntT) : Res (List EntT) := if orderedG es ≠ 0 then .error (orderedG es) else .ok es
def getTree (l : List UInt8) : Res (List EntT) := bindR (openG l 3 1) fun vs => bindR (listG (nthV vs 0) 1024) fun us => bindR (eachG entG us) treeEnd
def comEnd (vs : List Val) (t : List UInt8) (ps : List (List UInt8)) : Res ComT := if risingG ps = false then .error 92 else if (nthV vs 2).kind ≠ 2 then .error 91 else
  bindR (textG (nthV vs 3) 64) fun a => bindR (textG (nthV vs 4) 1024) fun n => .ok (t, ps, (nthV vs 2).flt, ⟨a.toArray⟩, ⟨n.toArray⟩)
def getCommit (l : List UInt8) : Res ComT := bindR (openG l 4 5) fun vs => bindR (idG (nthV vs 0)) fun t => bindR (idsG (nthV vs 1) 8) fun ps => comEnd vs t ps
def kindV (v : Val) : Res Nat := if v.kind ≠ 3 then .error 91 else match v.list with
    | [] => .error 91
    | h :: _ => if h.kind ≠ 0 then .error 91 else if 1 ≤ h.num ∧ h.num ≤ 4 then .ok h.num else .error 90
def kindG (l : List UInt8) : Res Nat := bindR (dec l) kindV
def linksG (l : List UInt8) : Res (List (List UInt8)) := bindR (kindG l) fun k =>
  if k = 2 then bindR (getBlob l) fun x => .ok x.1
  else if k = 3 then bindR (getTree l) fun x => .ok (x.map (·.2.2.1))
  else if k = 4 then bindR (getCommit l) fun x => .ok (x.1 :: x.2.1)
  else bindR (getChunk l) fun _ => .ok []
end Go.Proofs.Ytgmbkcjihgphmaa

/- Steps through a region that draws its order, under a class S of worlds: what reads memory is taken first where S fixes what it reads. -/
set_option linter.unusedVariables false
namespace Go.Proofs.Ytgmbkcjihgphmaa
open Go.RowKit

section
variable {P : Program} {ops : Array Oper} {Q : Exit → Act → World → Prop} {md : Region.Mode} {S : World → Prop}

def AllHeld (P : Program) (md : Region.Mode) (ops : Array Oper) (Q : Exit → Act → World → Prop) (S : World → Prop) (fuel : Nat) (listed : Array Bool) (a : Act) (w : World) (rs : List Nat) : Prop :=
  ∀ i ∈ rs, wpOp P ops Q i (fun a' w' => S w' ∧ wpAnyH P md ops Q S fuel (listed.setIfInBounds i true) a' w') a w

theorem AllHeld.nil {fuel : Nat} {listed : Array Bool} {a : Act} {w : World} : AllHeld P md ops Q S fuel listed a w [] := fun _ h => by cases h

theorem AllHeld.cons {fuel : Nat} {listed : Array Bool} {a : Act} {w : World} {i : Nat} {o : Oper} {rs : List Nat} (ho : ops[i]? = some o)
    (h : ∀ K' : Act → World → Prop, (∀ a w, S w → wpAnyH P md ops Q S fuel (listed.setIfInBounds i true) a w → K' a w) → if Region.wanted o (yielded ops a.tmps) = true then Oper.wp P o a w K' Q else K' (a.put o.dst undef) w)
    (hs : AllHeld P md ops Q S fuel listed a w rs) : AllHeld P md ops Q S fuel listed a w (i :: rs) := fun j hj => by
  rcases List.mem_cons.1 hj with rfl | hj
  · exact wpOp_step ho fun K' hK => h K' fun a w h1 h2 => hK a w ⟨h1, h2⟩
  · exact hs j hj

theorem held_ready {rs : List Nat} {fuel : Nat} {listed : Array Bool} {a : Act} {w : World} (hr : Region.ready md ops listed = rs) (hne : rs ≠ [])
    (h : AllHeld P md ops Q S fuel listed a w rs) : wpAnyH P md ops Q S (fuel + 1) listed a w := wpAnyH_all hr hne h

/-- An operation whose guard says no. -/
theorem held_skip {i : Nat} {oi : Oper} {fuel : Nat} {listed : Array Bool} {a : Act} {w : World} (hi : ops[i]? = some oi)
    (hs : Region.noSelect ops = true) (hf : Region.free md ops listed i = true) (hr : (Region.ready md ops listed).contains i = true)
    (hQ : ∀ c a w, Q (.panic c) (a.put oi.dst undef) w → Q (.panic c) a w) (hw : Region.wanted oi (yielded ops a.tmps) = false) (hS : S w)
    (h : wpAnyH P md ops Q S fuel (listed.setIfInBounds i true) (a.put oi.dst undef) w) : wpAnyH P md ops Q S (fuel + 1) listed a w :=
  wpAnyH_take hi hs hf hr hQ (.inr ⟨hw, rfl⟩) hS h

/-- An operation that yields v in every world of the class; a' is the frame behind it, written out. -/
theorem held_take {i : Nat} {oi : Oper} {v : Value} {a' : Act} {fuel : Nat} {listed : Array Bool} {a : Act} {w : World} (hi : ops[i]? = some oi)
    (hs : Region.noSelect ops = true) (hf : Region.free md ops listed i = true) (hr : (Region.ready md ops listed).contains i = true)
    (hQ : ∀ c a w, Q (.panic c) (a.put oi.dst v) w → Q (.panic c) a w) (hw : Region.wanted oi (yielded ops a.tmps) = true) (hS : S w)
    (hy : ∀ w, S w → (execOp a.eval oi).run P w = .ok (.value v) w) (ha : a.put oi.dst v = a')
    (h : wpAnyH P md ops Q S fuel (listed.setIfInBounds i true) a' w) : wpAnyH P md ops Q S (fuel + 1) listed a w := by
  subst ha
  exact wpAnyH_take hi hs hf hr hQ (.inl ⟨hw, hy⟩) hS h
end

/-- the address of a cut 's[k:]' of capacity c, under one name: so that a walk does not part on it ('attribute [local go_sem ↓] cutA_eq') -/
def cutA (A : Option Addr) (c k : Nat) : Option Addr := if c = k then A else A.map (fun x => x.add k)
theorem cutA_eq (A : Option Addr) (c k : Nat) : (if c = k then A else Option.map (fun x => x.add k) A) = cutA A c k := rfl
theorem Sl.cut {w : World} {n k c : Nat} {A : Option Addr} {xs : List Value} (h : Sl w 1 A n xs) (hk : k ≤ n) (hc : n ≤ c) : Sl w 1 (cutA A c k) (n - k) (xs.drop k) := h.from1 hk hc

/-- A world that differs from another by draws alone. -/
def Same (w w' : World) : Prop := ∃ q, w.drewN q = w'
section
variable {w w' w'' : World}
theorem Same.refl (w : World) : Same w w := ⟨0, rfl⟩
theorem Same.trans (h : Same w w') (k : Same w' w'') : Same w w'' := by
  obtain ⟨a, rfl⟩ := h; obtain ⟨b, rfl⟩ := k; exact ⟨a + b, (World.drewN_drewN _ _ _).symm⟩
theorem Same.drew (h : Same w w') : Same w w'.drew := h.trans ⟨1, rfl⟩
theorem Same.drewN (h : Same w w') (n : Nat) : Same w (w'.drewN n) := h.trans ⟨n, rfl⟩
theorem Same.cell (h : Same w w') (p : Addr) : w'.cell? p = w.cell? p := by obtain ⟨a, rfl⟩ := h; rfl
theorem Same.frozen (h : Same w w') (p : Addr) : w'.frozen? p = w.frozen? p := by obtain ⟨a, rfl⟩ := h; rfl
theorem Same.size (h : Same w w') : w'.heap.size = w.heap.size := by obtain ⟨a, rfl⟩ := h; rfl
theorem Same.heap (h : Same w w') : w'.heap = w.heap := by obtain ⟨a, rfl⟩ := h; rfl
theorem Same.below (h : Same w w') (B : Nat) : Below B w w' := by
  obtain ⟨a, rfl⟩ := h
  have r := Below.refl B w
  exact ⟨r.os, r.tape, r.output, r.size, r.block⟩
theorem Same.sl {sz n : Nat} {A : Option Addr} {xs : List Value} (h : Same w w') (hs : Sl w sz A n xs) : Sl w' sz A n xs := hs.below (h.below _)
theorem Same.own {base : Nat} {e : TypeId} {sz : Nat} {v : Value} {n : Nat} {xs : List Value} (h : Same w w') (hs : w.ownsRow base e sz v n xs) : w'.ownsRow base e sz v n xs := by obtain ⟨a, rfl⟩ := h; exact hs
/-- A world that differs from another by draws and one cell alone. -/
def Off (w : World) (q : Addr) (w' : World) : Prop := ∀ p, p ≠ q → w'.cell? p = w.cell? p
theorem Same.off (h : Same w w') (q : Addr) : Off w q w' := fun p _ => h.cell p
theorem Same.offStore (h : Same w w') (q : Addr) (v : Value) : Off w q (w'.setCell q v) := fun p hp => (World.cell?_setCell_other _ _ _ _ (fun e => hp e.symm)).trans (h.cell p)
theorem addr_ne {b i j : Nat} (h : i ≠ j) : (⟨b, i, none⟩ : Addr) ≠ ⟨b, j, none⟩ := fun e => h (by injection e)
/-- a contract that reads alone, in a quiet region -/
theorem quiet_s {P : Program} {f : FuncId} {args : Array Value} {w : World} {n : Nat} {v : Value}
    (h : Calls P f args (w.drewN n) fun e w' => e = .returned v ∧ Same (w.drewN n) w') : Calls P f args (w.drewN n) fun e w'' => e = .returned v ∧ ∃ m, w'' = w.drewN m :=
  h.mono fun _ _ ⟨he, q, hm⟩ => ⟨he, n + q, by rw [← hm, World.drewN_drewN]⟩
theorem quiet_s2 {P : Program} {f : FuncId} {args : Array Value} {w : World} {a n : Nat} {v : Value}
    (h : Calls P f args (w.drewN (a + n)) fun e w' => e = .returned v ∧ Same (w.drewN (a + n)) w') : Calls P f args (w.drewN (a + n)) fun e w'' => e = .returned v ∧ ∃ m, w'' = w.drewN (a + m) :=
  h.mono fun _ _ ⟨he, q, hm⟩ => ⟨he, n + q, by rw [← hm, World.drewN_drewN, Nat.add_assoc]⟩
end
end Go.Proofs.Ytgmbkcjihgphmaa

/- Lists of byte slices in memory. -/
set_option linter.unusedVariables false
namespace Go.Proofs.Ytgmbkcjihgphmaa
open Go.RowKit

/-- a slice of bytes that reads as l -/
def SlB (w : World) (v : Value) (l : List UInt8) : Prop := ∃ A c, v = .slice A l.length c ∧ Sl w 1 A l.length (bytesV l) ∧ l.length ≤ c ∧ c ≤ maxLen
/-- values that read as byte lists, one by one -/
def AllB (w : World) (vs : List Value) (ls : List (List UInt8)) : Prop := vs.length = ls.length ∧ ∀ (i : Nat) (v : Value) (l : List UInt8), vs[i]? = some v → ls[i]? = some l → SlB w v l

theorem SlB.below {w w' : World} {v : Value} {l : List UInt8} (h : SlB w v l) (hb : Below w.heap.size w w') : SlB w' v l := by
  obtain ⟨A, c, e, h1, h2⟩ := h
  exact ⟨A, c, e, h1.below hb, h2⟩
theorem AllB.below {w w' : World} {vs : List Value} {ls : List (List UInt8)} (h : AllB w vs ls) (hb : Below w.heap.size w w') : AllB w' vs ls :=
  ⟨h.1, fun i v l hv hl => (h.2 i v l hv hl).below hb⟩
theorem AllB.nil (w : World) : AllB w [] [] := ⟨rfl, fun i v l hv _ => by simp at hv⟩
theorem AllB.snoc {w : World} {vs : List Value} {ls : List (List UInt8)} {v : Value} {l : List UInt8} (h : AllB w vs ls) (hv : SlB w v l) : AllB w (vs ++ [v]) (ls ++ [l]) := by
  refine ⟨by simp [h.1], fun i u k hu hk => ?_⟩
  rcases Nat.lt_or_ge i vs.length with hi | hi
  · rw [List.getElem?_append_left hi] at hu
    rw [List.getElem?_append_left (by rw [← h.1]; exact hi)] at hk
    exact h.2 i u k hu hk
  · rw [List.getElem?_append_right hi] at hu
    rw [List.getElem?_append_right (by rw [← h.1]; exact hi), ← h.1] at hk
    rcases Nat.eq_zero_or_pos (i - vs.length) with h0 | h0
    · rw [h0] at hu hk
      simp at hu hk
      subst hu hk
      exact hv
    · rw [List.getElem?_eq_none (by simp; omega)] at hu
      cases hu

theorem SlB.of {w : World} {A : Option Addr} {n c : Nat} {l : List UInt8} (h : Sl w 1 A n (bytesV l)) (hc : n ≤ c) (hm : c ≤ maxLen) : SlB w (.slice A n c) l := by
  have hl : l.length = n := by have := h.1; simpa [bytesV] using this
  subst hl
  exact ⟨A, c, rfl, h, hc, hm⟩
theorem AllB.two {w : World} {u v : Value} {k l : List UInt8} (hu : SlB w u k) (hv : SlB w v l) : AllB w [u, v] [k, l] := (AllB.nil w |>.snoc hu).snoc hv

theorem AllB.look {w : World} {A : Option Addr} {n k : Nat} {vs : List Value} {ls : List (List UInt8)} (hs : Sl w 1 A n vs) (h : AllB w vs ls) (hk : k < n) :
    ∃ (b off : Nat) (A' : Option Addr) (c' : Nat) (l : List UInt8), A = some ⟨b, off, none⟩ ∧ b < w.heap.size ∧ w.cell? ⟨b, off + k, none⟩ = some (.slice A' l.length c') ∧ ls[k]? = some l ∧ Sl w 1 A' l.length (bytesV l) ∧ l.length ≤ c' ∧ c' ≤ maxLen := by
  obtain ⟨b, off, u, e, hb, hu, hc⟩ := hs.look hk
  have hkl : k < ls.length := by rw [← h.1, hs.1]; omega
  obtain ⟨A', c', rfl, h1, h2, h3⟩ := h.2 k u ls[k] hu (List.getElem?_eq_getElem hkl)
  exact ⟨b, off, A', c', ls[k], e, hb, hc, List.getElem?_eq_getElem hkl, h1, h2, h3⟩

theorem flat_take_succ {ls : List (List UInt8)} {k : Nat} {l : List UInt8} (h : ls[k]? = some l) : (ls.take (k + 1)).flatten = (ls.take k).flatten ++ l := by
  rw [List.take_add_one, h, List.flatten_append]
  simp
theorem flat_take_le (ls : List (List UInt8)) (k : Nat) : (ls.take k).flatten.length ≤ ls.flatten.length := by
  have h := congrArg (fun x => (List.flatten x).length) (List.take_append_drop k ls)
  simp only [List.flatten_append, List.length_append] at h
  omega

/-- 'string(b)' behind a name, so that a walk through a region that draws its order does not open it -/
noncomputable def cvt (w : World) (A : Option Addr) (n c : Nat) : Result Value := (convert 28 9 (.slice A n c)).run Try.prog w
theorem cvt_eq (w : World) (A : Option Addr) (n c : Nat) : (convert 28 9 (.slice A n c)).run Try.prog w = cvt w A n c := rfl
theorem cvt_of {w : World} {A : Option Addr} {n : Nat} {l : List UInt8} (h : Sl w 1 A n (bytesV l)) (c : Nat) : cvt w A n c = .ok (.string ⟨l.toArray⟩) w :=
  Sl.toStr h c Try.underlying28 Try.underlying5 Try.underlying9

/-- '[]byte(s)': new memory that reads as the string's bytes. -/
theorem toBytes (w : World) (s : ByteArray) (hs : s.size ≤ maxLen) : ∃ A c w', (convert 9 28 (.string s)).run Try.prog w = .ok (.slice A s.size c) w' ∧ Sl w' 1 A s.size (bytesV s.data.toList) ∧ s.size ≤ c ∧ c ≤ maxLen ∧ Below w.heap.size w w' ∧ (∃ b, A = some ⟨b, 0, none⟩ ∧ w.heap.size ≤ b) := by
  have hr := run_bytes_of_string (P := Try.prog) w 9 28 5 s Try.underlying9 Try.underlying28 Try.underlying5
  refine ⟨_, _, _, hr, ⟨?_, fun h0 => ⟨w.heap.size, 0, rfl, by simp, fun j u hu => ?_⟩⟩, grownCap_ge _ _ _ _, grownCap_le_maxLen _ _ _ _ hs, ((Below.refl _ _).drew).alloc (Nat.le_refl _) _, ⟨_, rfl, Nat.le_refl _⟩⟩
  · rw [bytesV_length, Nat.mul_one]; exact Array.length_toList
  · have hj := (List.getElem?_eq_some_iff.1 hu).1
    rw [bytesV_length] at hj
    have hl : s.data.toList.length = s.data.size := Array.length_toList
    rw [Nat.zero_add]
    have := cell_of_row (w.drew.alloc (.cells (bytesRow s (grownCap w s.size 0 5)) 5 ((bytesRow s (grownCap w s.size 0 5)).size, (bytesRow s (grownCap w s.size 0 5)).size + 1))) w.heap.size j _ 5 _ (heap_alloc_new w.drew _)
    rw [this, ← hu]
    unfold bytesRow bytesV
    rw [Array.getElem?_append_left (by rw [Array.size_map]; omega)]
    simp
/-- the same behind a name -/
noncomputable def cvs (w : World) (s : ByteArray) : Result Value := (convert 9 28 (.string s)).run Try.prog w
theorem cvs_eq (w : World) (s : ByteArray) : (convert 9 28 (.string s)).run Try.prog w = cvs w s := rfl

/-- What a call leaves that hands back bytes in new memory. -/
def BytesPost (E : TypeId) (W : World) (r : List UInt8) (e : Ending) (w' : World) : Prop :=
  ∃ A c, e = .returned (.slice A r.length c) ∧ w'.ownsRow W.heap.size E 1 (.slice A r.length c) r.length (bytesV r) ∧ Below W.heap.size W w'
end Go.Proofs.Ytgmbkcjihgphmaa
