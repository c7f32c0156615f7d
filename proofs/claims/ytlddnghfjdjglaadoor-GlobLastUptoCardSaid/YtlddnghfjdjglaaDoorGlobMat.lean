/- glob, plain: what a row of signs means, of which some are stars; the greedy way with one star remembered, and the way by rows. -/
import Derived.Test.YtlddnghfjdjglaaDoorMem
set_option linter.unusedVariables false
namespace Go.Proofs.YtlddnghfjdjglaaDoor

section
variable {α β : Type} (star : α → Bool) (takes : α → β → Bool)

/-- do the signs mean the text? -/
def mat : List α → List β → Bool
  | [], [] => true
  | [], _ :: _ => false
  | a :: r, [] => star a && mat r []
  | a :: r, y :: t => if star a then mat r (y :: t) || mat (a :: r) t else takes a y && mat r t
termination_by l s => (l.length + s.length)

theorem mat_star_nil {a : α} {r : List α} (h : star a = true) : mat star takes (a :: r) [] = mat star takes r [] := by rw [mat, h, Bool.true_and]
theorem mat_star_cons {a : α} {r : List α} {y : β} {t : List β} (h : star a = true) : mat star takes (a :: r) (y :: t) = (mat star takes r (y :: t) || mat star takes (a :: r) t) := by rw [mat, if_pos h]
theorem mat_sign_nil {a : α} {r : List α} (h : star a = false) : mat star takes (a :: r) [] = false := by rw [mat, h, Bool.false_and]
theorem mat_sign_cons {a : α} {r : List α} {y : β} {t : List β} (h : star a = false) : mat star takes (a :: r) (y :: t) = (takes a y && mat star takes r t) := by rw [mat, if_neg (by simp [h])]
theorem mat_nil (s : List β) : mat star takes [] s = s.isEmpty := by cases s <;> simp [mat]

/-- a star means some beginning -/
theorem mat_star_iff {a : α} {r : List α} (h : star a = true) : ∀ (s : List β), mat star takes (a :: r) s = true ↔ ∃ n, n ≤ s.length ∧ mat star takes r (s.drop n) = true
  | [] => by
    rw [mat_star_nil star takes h]
    exact ⟨fun h => ⟨0, Nat.le_refl _, h⟩, fun ⟨n, hn, h⟩ => by simpa using h⟩
  | y :: t => by
    rw [mat_star_cons star takes h, Bool.or_eq_true, mat_star_iff h t]
    constructor
    · rintro (h | ⟨n, hn, h⟩)
      · exact ⟨0, by simp, h⟩
      · exact ⟨n + 1, by simp; omega, h⟩
    · rintro ⟨n, hn, h⟩
      cases n with
      | zero => exact .inl h
      | succ n => exact .inr ⟨n, by simp at hn; omega, h⟩
/-- a star that has found a place may as well begin later -/
theorem mat_star_drop {a : α} {r : List α} (h : star a = true) {s : List β} {n : Nat} (hn : n ≤ s.length) (hm : mat star takes (a :: r) (s.drop n) = true) : mat star takes (a :: r) s = true := by
  obtain ⟨m, h1, h2⟩ := (mat_star_iff star takes h _).1 hm
  rw [List.length_drop] at h1
  rw [List.drop_drop] at h2
  exact (mat_star_iff star takes h _).2 ⟨n + m, by omega, h2⟩

/-- signs without a star take a text of their own length -/
def takeAll : List α → List β → Bool
  | [], [] => true
  | a :: r, y :: t => !star a && takes a y && takeAll r t
  | _, _ => false
theorem takeAll_len : ∀ {u : List α} {v : List β}, takeAll star takes u v = true → u.length = v.length
  | [], [], _ => rfl
  | [], _ :: _, h => by cases h
  | _ :: _, [], h => by cases h
  | a :: r, y :: t, h => by
    simp only [takeAll, Bool.and_eq_true] at h
    rw [List.length_cons, List.length_cons, takeAll_len h.2]
theorem mat_takeAll : ∀ {u : List α} {v : List β} (r : List α) (t : List β), takeAll star takes u v = true → mat star takes (u ++ r) (v ++ t) = mat star takes r t
  | [], [], _, _, _ => rfl
  | [], _ :: _, _, _, h => by cases h
  | _ :: _, [], _, _, h => by cases h
  | a :: u, y :: v, r, t, h => by
    simp only [takeAll, Bool.and_eq_true, Bool.not_eq_true'] at h
    rw [List.cons_append, List.cons_append, mat_sign_cons star takes h.1.1, h.1.2, Bool.true_and]
    exact mat_takeAll r t h.2
/-- where signs without a star ahead mean a text, the rest means what is left -/
theorem mat_signs : ∀ (u : List α) (r : List α) (s : List β), (∀ a ∈ u, star a = false) → mat star takes (u ++ r) s = true → u.length ≤ s.length ∧ mat star takes r (s.drop u.length) = true
  | [], r, s, _, h => ⟨Nat.zero_le _, h⟩
  | a :: u, r, [], hu, h => by
    rw [List.cons_append, mat_sign_nil star takes (hu a (by simp))] at h; cases h
  | a :: u, r, y :: t, hu, h => by
    rw [List.cons_append, mat_sign_cons star takes (hu a (by simp)), Bool.and_eq_true] at h
    obtain ⟨h1, h2⟩ := mat_signs u r t (fun b hb => hu b (by simp [hb])) h.2
    exact ⟨by simp; omega, by simpa using h2⟩
theorem takeAll_signs : ∀ {u : List α} {v : List β}, takeAll star takes u v = true → ∀ a ∈ u, star a = false
  | [], [], _, a, h => by cases h
  | [], _ :: _, h, _, _ => by cases h
  | _ :: _, [], h, _, _ => by cases h
  | b :: r, y :: t, h, a, ha => by
    simp only [takeAll, Bool.and_eq_true, Bool.not_eq_true'] at h
    rcases List.mem_cons.1 ha with rfl | ha
    · exact h.1.1
    · exact takeAll_signs h.2 a ha
theorem takeAll_snoc : ∀ {u : List α} {v : List β} {a : α} {y : β}, takeAll star takes u v = true → star a = false → takes a y = true → takeAll star takes (u ++ [a]) (v ++ [y]) = true
  | [], [], a, y, _, h1, h2 => by simp [takeAll, h1, h2]
  | [], _ :: _, _, _, h, _, _ => by cases h
  | _ :: _, [], _, _, h, _, _ => by cases h
  | b :: r, z :: t, a, y, h, h1, h2 => by
    simp only [takeAll, Bool.and_eq_true, Bool.not_eq_true'] at h
    simp only [List.cons_append, takeAll, Bool.and_eq_true, Bool.not_eq_true']
    exact ⟨h.1, takeAll_snoc h.2 h1 h2⟩

/-! ### the greedy way: at sign i and place k; the last star, if any, at j, begun at place m -/
/-- what the state knows -/
def Gr (l : List α) (s : List β) (i k : Nat) : Option (Nat × Nat) → Prop
  | none => mat star takes l s = mat star takes (l.drop i) (s.drop k)
  | some (j, m) => ∃ a u v, star a = true ∧ l.drop j = a :: (u ++ l.drop i) ∧ s.drop m = v ++ s.drop k ∧ takeAll star takes u v = true ∧ i = j + 1 + u.length ∧ k = m + v.length ∧ mat star takes l s = mat star takes (a :: (u ++ l.drop i)) (s.drop m)
variable {star takes}
theorem Gr.start (l : List α) (s : List β) : Gr star takes l s 0 0 none := rfl
theorem drop_cons {γ : Type} {l : List γ} {i : Nat} {a : γ} (h : l[i]? = some a) : l.drop i = a :: l.drop (i + 1) := by
  obtain ⟨h1, h2⟩ := List.getElem?_eq_some_iff.1 h
  rw [List.drop_eq_getElem_cons h1, h2]
/-- a star -/
theorem Gr.starred {l : List α} {s : List β} {i k : Nat} {o : Option (Nat × Nat)} {a : α} (h : Gr star takes l s i k o) (ha : l[i]? = some a) (hs : star a = true) (hk : k ≤ s.length) : Gr star takes l s (i + 1) k (some (i, k)) := by
  have hd := drop_cons ha
  have key : mat star takes l s = mat star takes (l.drop i) (s.drop k) := by
    cases o with
    | none => exact h
    | some jm =>
      obtain ⟨j, m⟩ := jm
      obtain ⟨b, u, v, hb, h1, h2, h3, h4, h5, h6⟩ := h
      rw [h6]
      have hlen : v.length + (s.drop k).length = (s.drop m).length := by rw [h2, List.length_append]
      have hul := takeAll_len star takes h3
      have hdv : s.drop k = (s.drop m).drop v.length := by rw [h2, List.drop_left]
      apply Bool.eq_iff_iff.2
      constructor
      · intro h7
        obtain ⟨n, h8, h9⟩ := (mat_star_iff star takes hb _).1 h7
        obtain ⟨h10, h11⟩ := mat_signs star takes u _ _ (takeAll_signs star takes h3) h9
        rw [hd] at h11 ⊢
        rw [List.length_drop] at h10
        rw [List.drop_drop] at h11
        rw [hdv]
        refine mat_star_drop star takes hs (n := n) (by rw [List.length_drop]; omega) ?_
        rw [List.drop_drop, ← hul, Nat.add_comm u.length n]; exact h11
      · intro h7
        refine (mat_star_iff star takes hb _).2 ⟨0, Nat.zero_le _, ?_⟩
        rw [List.drop_zero, h2, mat_takeAll star takes _ _ h3]
        exact h7
  refine ⟨a, [], [], hs, by simpa using hd, rfl, rfl, rfl, rfl, ?_⟩
  rw [key, hd]; rfl
/-- a sign that takes the byte -/
theorem Gr.take {l : List α} {s : List β} {i k : Nat} {o : Option (Nat × Nat)} {a : α} {y : β} (h : Gr star takes l s i k o) (ha : l[i]? = some a) (hy : s[k]? = some y) (hs : star a = false) (ht : takes a y = true) : Gr star takes l s (i + 1) (k + 1) o := by
  have hd := drop_cons ha
  have he := drop_cons hy
  cases o with
  | none =>
    have h : mat star takes l s = _ := h
    show mat star takes l s = _
    rw [h, hd, he, mat_sign_cons star takes hs, ht, Bool.true_and]
  | some jm =>
    obtain ⟨j, m⟩ := jm
    obtain ⟨b, u, v, hb, h1, h2, h3, h4, h5, h6⟩ := h
    refine ⟨b, u ++ [a], v ++ [y], hb, ?_, ?_, takeAll_snoc star takes h3 hs ht, ?_, ?_, ?_⟩
    · rw [h1, hd, List.append_assoc]; rfl
    · rw [h2, he, List.append_assoc]; rfl
    · rw [List.length_append, List.length_singleton]; omega
    · rw [List.length_append, List.length_singleton]; omega
    · rw [h6, hd, List.append_assoc]; rfl
/-- back to the star -/
theorem Gr.back {l : List α} {s : List β} {i k j m : Nat} (h : Gr star takes l s i k (some (j, m))) (hk : k < s.length) (hno : ∀ a, l[i]? = some a → star a = false ∧ ∀ y, s[k]? = some y → takes a y = false) : Gr star takes l s (j + 1) (m + 1) (some (j, m + 1)) ∧ m < s.length := by
  obtain ⟨b, u, v, hb, h1, h2, h3, h4, h5, h6⟩ := h
  have hm : m < s.length := by omega
  obtain ⟨y, hy⟩ : ∃ y, s[k]? = some y := ⟨_, List.getElem?_eq_getElem hk⟩
  obtain ⟨z, hz⟩ : ∃ z, s[m]? = some z := ⟨_, List.getElem?_eq_getElem hm⟩
  have hf : mat star takes (l.drop i) (s.drop k) = false := by
    rw [drop_cons hy]
    cases hi : l[i]? with
    | none => rw [List.drop_eq_nil_of_le (List.getElem?_eq_none_iff.1 hi)]; simp [mat]
    | some a =>
      obtain ⟨h7, h8⟩ := hno a hi
      rw [drop_cons hi, mat_sign_cons star takes h7, h8 y hy, Bool.false_and]
  have hj : l.drop (j + 1) = u ++ l.drop i := by rw [← List.drop_drop, h1]; rfl
  refine ⟨⟨b, [], [], hb, by rw [h1, hj]; rfl, rfl, rfl, rfl, rfl, ?_⟩, hm⟩
  rw [h6, hj, drop_cons hz, mat_star_cons star takes hb, ← drop_cons hz, h2, mat_takeAll star takes _ _ h3, hf, Bool.false_or]
  rfl
/-- no star to go back to -/
theorem Gr.fail {l : List α} {s : List β} {i k : Nat} (h : Gr star takes l s i k none) (hk : k < s.length) (hno : ∀ a, l[i]? = some a → star a = false ∧ ∀ y, s[k]? = some y → takes a y = false) : mat star takes l s = false := by
  have h : mat star takes l s = _ := h
  obtain ⟨y, hy⟩ : ∃ y, s[k]? = some y := ⟨_, List.getElem?_eq_getElem hk⟩
  rw [h, drop_cons hy]
  cases hi : l[i]? with
  | none => rw [List.drop_eq_nil_of_le (List.getElem?_eq_none_iff.1 hi)]; simp [mat]
  | some a =>
    obtain ⟨h7, h8⟩ := hno a hi
    rw [drop_cons hi, mat_sign_cons star takes h7, h8 y hy, Bool.false_and]
/-- the text's end -/
theorem Gr.last {l : List α} {s : List β} {i k : Nat} {o : Option (Nat × Nat)} (h : Gr star takes l s i k o) (hk : k = s.length) : mat star takes l s = mat star takes (l.drop i) [] := by
  have hn : s.drop k = [] := List.drop_eq_nil_of_le (by omega)
  cases o with
  | none => have h : mat star takes l s = _ := h; rw [h, hn]
  | some jm =>
    obtain ⟨j, m⟩ := jm
    obtain ⟨b, u, v, hb, h1, h2, h3, h4, h5, h6⟩ := h
    rw [hn, List.append_nil] at h2
    have hul := takeAll_len star takes h3
    rw [h6]
    apply Bool.eq_iff_iff.2
    constructor
    · intro h7
      obtain ⟨n, h8, h9⟩ := (mat_star_iff star takes hb _).1 h7
      obtain ⟨h10, h11⟩ := mat_signs star takes u _ _ (takeAll_signs star takes h3) h9
      rw [List.length_drop] at h10
      have hvl : (s.drop m).length = v.length := by rw [h2]
      have e : ((s.drop m).drop n).drop u.length = [] := List.drop_eq_nil_of_le (by rw [List.length_drop]; omega)
      rw [e] at h11
      exact h11
    · intro h7
      refine (mat_star_iff star takes hb _).2 ⟨0, Nat.zero_le _, ?_⟩
      rw [List.drop_zero, h2, ← List.append_nil v, mat_takeAll star takes _ _ h3]
      exact h7
theorem mat_stars_end : ∀ (l : List α), mat star takes l ([] : List β) = l.all star
  | [] => by simp [mat]
  | a :: r => by rw [mat, List.all_cons, mat_stars_end r]

/-! ### the way by rows -/
theorem mat_snoc_nil (l : List α) (a : α) : mat star takes (l ++ [a]) ([] : List β) = (star a && mat star takes l []) := by
  rw [mat_stars_end, mat_stars_end, List.all_append, Bool.and_comm]
  simp
/-- a last sign that is no star takes the last byte -/
theorem mat_snoc_sign {a : α} (ha : star a = false) : ∀ (l : List α) (s : List β) (y : β), mat star takes (l ++ [a]) (s ++ [y]) = (mat star takes l s && takes a y)
  | [], [], y => by simp [mat, ha]
  | [], x :: s, y => by
    rw [List.nil_append, List.cons_append, mat_sign_cons star takes ha, mat_nil, mat_nil]
    simp
  | b :: l, [], y => by
    cases hb : star b with
    | true =>
      rw [List.cons_append, List.nil_append, mat_star_cons star takes hb, mat_star_nil star takes hb, mat_snoc_nil, ha, Bool.false_and, Bool.or_false, mat_star_nil star takes hb]
      exact mat_snoc_sign ha l [] y
    | false =>
      rw [List.cons_append, List.nil_append, mat_sign_cons star takes hb, mat_sign_nil star takes hb, mat_snoc_nil, ha, Bool.false_and, Bool.and_false, Bool.false_and]
  | b :: l, x :: s, y => by
    cases hb : star b with
    | true =>
      rw [List.cons_append, List.cons_append, mat_star_cons star takes hb, mat_star_cons star takes hb, ← List.cons_append, ← List.cons_append, mat_snoc_sign ha (b :: l) s y]
      have h2 := mat_snoc_sign ha l (x :: s) y
      rw [h2, ← Bool.and_or_distrib_right]
    | false =>
      rw [List.cons_append, List.cons_append, mat_sign_cons star takes hb, mat_sign_cons star takes hb, mat_snoc_sign ha l s y, Bool.and_assoc]
termination_by l s => l.length + s.length
/-- a last star means some end -/
theorem mat_snoc_star {a : α} (ha : star a = true) : ∀ (l : List α) (s : List β) (y : β), mat star takes (l ++ [a]) (s ++ [y]) = (mat star takes l (s ++ [y]) || mat star takes (l ++ [a]) s)
  | [], [], y => by simp [mat, ha]
  | [], x :: s, y => by
    have h := mat_snoc_star ha [] s y
    rw [List.nil_append] at h ⊢
    rw [List.cons_append, mat_star_cons star takes ha, h, mat_star_cons star takes ha]
    simp [mat_nil]
  | b :: l, [], y => by
    cases hb : star b with
    | true =>
      rw [List.cons_append, List.nil_append, mat_star_cons star takes hb, mat_star_cons star takes hb, mat_star_nil star takes hb, mat_snoc_nil, ha, Bool.true_and, mat_star_nil star takes hb]
      have := mat_snoc_star ha l [] y
      rw [List.nil_append, mat_snoc_nil, ha, Bool.true_and] at this
      rw [this]
    | false =>
      rw [List.cons_append, List.nil_append, mat_sign_cons star takes hb, mat_sign_cons star takes hb, mat_sign_nil star takes hb, Bool.or_false, mat_snoc_nil, ha, Bool.true_and]
  | b :: l, x :: s, y => by
    cases hb : star b with
    | true =>
      have h1 := mat_snoc_star ha (b :: l) s y
      have h2 := mat_snoc_star ha l (x :: s) y
      rw [List.cons_append] at h1
      rw [List.cons_append, List.cons_append, mat_star_cons star takes hb, mat_star_cons star takes hb, h1, ← List.cons_append, h2, mat_star_cons star takes hb]
      simp only [List.cons_append]
      generalize mat star takes l (x :: (s ++ [y])) = p1
      generalize mat star takes (l ++ [a]) (x :: s) = p2
      generalize mat star takes (b :: l) (s ++ [y]) = p3
      generalize mat star takes (b :: (l ++ [a])) s = p4
      cases p1 <;> cases p2 <;> cases p3 <;> cases p4 <;> rfl
    | false =>
      rw [List.cons_append, List.cons_append, mat_sign_cons star takes hb, mat_sign_cons star takes hb, mat_snoc_star ha l s y, mat_sign_cons star takes hb, Bool.and_or_distrib_left]
termination_by l s => l.length + s.length
/-- one row out of the one before -/
theorem mat_row {l : List α} {s : List β} {i k : Nat} {a : α} (hi : l[i]? = some a) (hk : k ≤ s.length) :
    mat star takes (l.take (i + 1)) (s.take k) = if star a then mat star takes (l.take i) (s.take k) || (decide (0 < k) && mat star takes (l.take (i + 1)) (s.take (k - 1))) else decide (0 < k) && mat star takes (l.take i) (s.take (k - 1)) && (match s[k - 1]? with | some y => takes a y | none => false) := by
  have hl : l.take (i + 1) = l.take i ++ [a] := by rw [List.take_add_one, hi]; rfl
  cases k with
  | zero =>
    rw [List.take_zero, hl, mat_snoc_nil]
    cases star a <;> simp
  | succ k =>
    obtain ⟨y, hy⟩ : ∃ y, s[k]? = some y := ⟨_, List.getElem?_eq_getElem (by omega)⟩
    have hs : s.take (k + 1) = s.take k ++ [y] := by rw [List.take_add_one, hy]; rfl
    rw [hl, hs, Nat.add_sub_cancel, hy]
    cases ha : star a with
    | true => rw [mat_snoc_star ha, if_pos rfl]; simp
    | false => rw [mat_snoc_sign ha, if_neg (by simp)]; simp
end
end Go.Proofs.YtlddnghfjdjglaaDoor
