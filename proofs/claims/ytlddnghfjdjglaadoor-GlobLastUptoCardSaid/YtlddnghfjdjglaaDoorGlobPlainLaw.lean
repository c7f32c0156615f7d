/- glob, plain: a path quoted is a pattern that means it alone. -/
import Derived.Test.YtlddnghfjdjglaaDoorGlobPath
import Derived.Test.YtlddnghfjdjglaaDoorGlobRulesLaw
set_option linter.unusedVariables false
namespace Go.Proofs.YtlddnghfjdjglaaDoor

/-! ### cut and joined -/
theorem split_cons {x : UInt8} {r : List UInt8} (h : x ≠ 47) {a : List UInt8} {b : List (List UInt8)} (hab : splitG r = a :: b) : splitG (x :: r) = (x :: a) :: b := by
  show (if x = 47 then _ else match splitG r with | [] => [[x]] | p :: q => (x :: p) :: q) = _; rw [if_neg h, hab]
theorem split_slash (r : List UInt8) : splitG (47 :: r) = [] :: splitG r := by show (if (47 : UInt8) = 47 then _ else _) = _; rw [if_pos rfl]
theorem join_split : ∀ (p : List UInt8), joinG (splitG p) = p
  | [] => rfl
  | x :: r => by
    have ih := join_split r
    obtain ⟨a, b, hab⟩ := splitG_cut r
    by_cases hx : x = 47
    · subst hx
      rw [split_slash]
      rw [hab] at ih ⊢
      show 47 :: joinG (a :: b) = _
      rw [ih]
    · rw [split_cons hx hab]
      rw [hab] at ih
      rw [← ih]
      cases b <;> rfl
theorem split_inj {p q : List UInt8} (h : splitG p = splitG q) : p = q := by rw [← join_split p, h, join_split]
theorem split_mid : ∀ (a b : List UInt8), splitG (a ++ 47 :: b) = splitG a ++ splitG b
  | [], b => split_slash b
  | x :: r, b => by
    have ih := split_mid r b
    obtain ⟨c, d, hcd⟩ := splitG_cut r
    by_cases hx : x = 47
    · subst hx
      show splitG (47 :: (r ++ 47 :: b)) = _
      rw [split_slash, split_slash, ih]; rfl
    · show splitG (x :: (r ++ 47 :: b)) = _
      rw [hcd] at ih
      rw [split_cons hx ih, split_cons hx hcd]; rfl
theorem join_append : ∀ {s t : List (List UInt8)}, s ≠ [] → t ≠ [] → joinG (s ++ t) = joinG s ++ 47 :: joinG t
  | [], t, h, _ => absurd rfl h
  | [a], t, _, ht => by
    obtain ⟨b, r, rfl⟩ := List.exists_cons_of_ne_nil ht
    rfl
  | a :: b :: r, t, _, ht => by
    have ih := join_append (s := b :: r) (t := t) (by simp) ht
    show a ++ 47 :: joinG ((b :: r) ++ t) = (a ++ 47 :: joinG (b :: r)) ++ 47 :: joinG t
    rw [ih]; simp
theorem split_prefix (p q : List UInt8) : (splitG p <+: splitG q) ↔ (q = p ∨ ∃ r, q = p ++ 47 :: r) := by
  constructor
  · rintro ⟨t, ht⟩
    by_cases h0 : t = []
    · subst h0
      rw [List.append_nil] at ht
      exact .inl (split_inj ht).symm
    · refine .inr ⟨joinG t, ?_⟩
      rw [← join_split q, ← ht, join_append (splitG_ne p) h0, join_split]
  · rintro (rfl | ⟨r, rfl⟩)
    · exact List.prefix_refl _
    · exact ⟨splitG r, (split_mid p r).symm⟩
theorem split_suffix (p q : List UInt8) : (splitG p <:+ splitG q) ↔ (q = p ∨ ∃ r, q = r ++ 47 :: p) := by
  constructor
  · rintro ⟨t, ht⟩
    by_cases h0 : t = []
    · subst h0
      rw [List.nil_append] at ht
      exact .inl (split_inj ht).symm
    · refine .inr ⟨joinG t, ?_⟩
      rw [← join_split q, ← ht, join_append h0 (splitG_ne p), join_split]
  · rintro (rfl | ⟨r, rfl⟩)
    · exact List.suffix_refl _
    · exact ⟨splitG r, (split_mid r p).symm⟩

/-! ### the patterns -/
def litP (p : List UInt8) : List Pc := (splitG p).map fun n => some (n.map litA)
theorem split_quo : ∀ (p : List UInt8), splitG (quoG p) = (splitG p).map quoG
  | [] => rfl
  | x :: r => by
    have ih := split_quo r
    obtain ⟨a, b, hab⟩ := splitG_cut r
    by_cases hx : x = 47
    · subst hx
      show splitG (47 :: quoG r) = _
      rw [split_slash, split_slash, ih]; rfl
    · have e : quoG (x :: r) = 92 :: x :: quoG r := by show (if x = 47 then 47 :: quoG r else _) = _; rw [if_neg hx]
      rw [hab] at ih
      rw [e, split_cons (by decide) (split_cons hx ih), split_cons hx hab]
      show (92 :: x :: quoG a) :: List.map quoG b = quoG (x :: a) :: List.map quoG b
      congr 1
      show _ = if x = 47 then 47 :: quoG a else 92 :: x :: quoG a
      rw [if_neg hx]
theorem piece_quo {n : List UInt8} (hf : flat n) (h0 : n ≠ []) : pieceG (quoG n) = some (some (n.map litA)) := by
  obtain ⟨x, r, rfl⟩ := List.exists_cons_of_ne_nil h0
  have e : quoG (x :: r) = 92 :: x :: quoG r := by show (if x = 47 then 47 :: quoG r else _) = _; rw [if_neg (hf x (by simp))]
  have h := atoms_quo [] [] hf
  rw [List.append_nil, atomsL_nil, List.nil_append] at h
  rw [piece_atoms (by rw [e]; simp) (by rw [e]; simp), h]; rfl
theorem pieces_quo : ∀ {ns : List (List UInt8)}, (∀ n ∈ ns, flat n ∧ n ≠ []) → ∀ r : List (List UInt8), piecesG (ns.map quoG ++ r) = (piecesG r).map (ns.map (fun n => some (n.map litA)) ++ ·)
  | [], _, r => by cases h : piecesG r <;> simp [h]
  | n :: ns, h, r => by
    have ih := pieces_quo (ns := ns) (fun m hm => h m (by simp [hm])) r
    obtain ⟨h1, h2⟩ := h n (by simp)
    show piecesG (quoG n :: (ns.map quoG ++ r)) = _
    rw [pieces_step, piece_quo h1 h2, ih]
    cases piecesG r <;> rfl
theorem path_names {p : List UInt8} (h : pathOk p) : (∀ n ∈ splitG p, flat n ∧ n ≠ []) ∧ p ≠ [] := by
  have h1 : ∀ n ∈ splitG p, flat n ∧ n ≠ [] := fun n hn => by
    have := name_flat ((List.all_eq_true.1 h.2) n hn)
    exact ⟨this.1, this.2.1⟩
  refine ⟨h1, ?_⟩
  rintro rfl
  exact (h1 [] (by show [] ∈ [[]]; simp)).2 rfl
theorem quo_x {p : List UInt8} (h : pathOk p) (hl : (quoG p).length ≤ 255) : parseG (quoG p) = .ok (litP p) := by
  unfold parseG
  rw [if_neg (by omega), split_quo]
  have := pieces_quo (path_names h).1 []
  rw [List.append_nil] at this
  rw [this, show piecesG [] = some [] from rfl]
  simp [litP]
theorem quo_y {p : List UInt8} (h : pathOk p) (hl : (quoG p ++ [47, 42, 42]).length ≤ 255) : parseG (quoG p ++ [47, 42, 42]) = .ok (litP p ++ [none]) := by
  unfold parseG
  rw [if_neg (by omega), split_mid, split_quo, pieces_quo (path_names h).1, show piecesG (splitG [42, 42]) = some [none] from rfl]
  rfl
theorem quo_z {p : List UInt8} (h : pathOk p) (hl : ([42, 42, 47] ++ quoG p).length ≤ 255) : parseG ([42, 42, 47] ++ quoG p) = .ok (none :: litP p) := by
  unfold parseG
  have e : [42, 42, 47] ++ quoG p = [42, 42] ++ 47 :: quoG p := rfl
  rw [if_neg (by omega), e, split_mid, split_quo, show splitG [42, 42] = [[42, 42]] from rfl, List.singleton_append, pieces_step, piece_any]
  have := pieces_quo (path_names h).1 []
  rw [List.append_nil] at this
  rw [this, show piecesG [] = some [] from rfl]
  simp [litP]

/-! ### what they mean -/
theorem lit_pieces : ∀ (ns s : List (List UInt8)) (r : List Pc), mat Option.isNone pcTakes (ns.map (fun n => some (n.map litA)) ++ r) s = (decide (ns <+: s) && mat Option.isNone pcTakes r (s.drop ns.length))
  | [], s, r => by simp
  | n :: ns, [], r => by
    show mat Option.isNone pcTakes (some (n.map litA) :: (ns.map _ ++ r)) [] = _
    rw [mat_sign_nil _ _ rfl]; simp
  | n :: ns, m :: s, r => by
    have ih := lit_pieces ns s r
    show mat Option.isNone pcTakes (some (n.map litA) :: (ns.map _ ++ r)) (m :: s) = _
    rw [mat_sign_cons _ _ rfl, ih]
    show (nameM (n.map litA) m && _) = _
    rw [lits_only, List.length_cons, List.drop_succ_cons, ← Bool.and_assoc]
    congr 1
    rw [Bool.eq_iff_iff]
    simp only [Bool.and_eq_true, beq_iff_eq, decide_eq_true_eq, List.cons_prefix_cons]
    exact ⟨fun h => ⟨h.1.symm, h.2⟩, fun h => ⟨h.1.symm, h.2⟩⟩
theorem names_ne {q : List UInt8} (h : q ≠ []) : namesG q = splitG q := by unfold namesG; rw [if_neg h]
theorem mean_x {p q : List UInt8} (hq : q ≠ []) : matchM (litP p) q = (p == q) := by
  unfold matchM litP
  rw [names_ne hq, ← List.append_nil ((splitG p).map _), lit_pieces, mat_nil]
  rw [Bool.eq_iff_iff]
  simp only [Bool.and_eq_true, decide_eq_true_eq, List.isEmpty_iff, beq_iff_eq]
  constructor
  · rintro ⟨⟨t, ht⟩, h2⟩
    rw [← ht, List.drop_left] at h2
    subst h2
    rw [List.append_nil] at ht
    exact split_inj ht
  · rintro rfl
    exact ⟨List.prefix_refl _, List.drop_length⟩
theorem stars_mean (s : List (List UInt8)) : mat Option.isNone pcTakes [none] s = true := (mat_star_iff _ _ rfl _).2 ⟨s.length, Nat.le_refl _, by rw [List.drop_length]; simp [mat]⟩
theorem begins_iff (a q : List UInt8) : begins a q = true ↔ ∃ r, q = a ++ r := by
  unfold begins
  rw [List.isPrefixOf_iff_prefix]
  exact ⟨fun ⟨r, h⟩ => ⟨r, h.symm⟩, fun ⟨r, h⟩ => ⟨r, h.symm⟩⟩
theorem mean_y {p q : List UInt8} (hp : p ≠ []) (hq : q ≠ []) : matchM (litP p ++ [none]) q = (p == q || underG q p) := by
  unfold matchM litP underG
  rw [names_ne hq, lit_pieces, stars_mean, Bool.and_true]
  have he : p.isEmpty = false := by cases p with | nil => exact absurd rfl hp | cons a b => rfl
  rw [he, Bool.eq_iff_iff]
  simp only [Bool.or_eq_true, decide_eq_true_eq, beq_iff_eq, Bool.false_and, Bool.not_false, Bool.and_true, Bool.false_eq_true, false_or]
  rw [split_prefix, begins_iff]
  constructor
  · rintro (h | ⟨r, h⟩)
    · exact .inl h.symm
    · exact .inr ⟨r, by rw [h]; simp⟩
  · rintro (h | ⟨r, h⟩)
    · exact .inl h.symm
    · exact .inr ⟨r, by rw [h]; simp⟩
/-- the law's own reckoning: does a path end so? -/
def endsF (p q : List UInt8) (i : Nat) : Bool := (p == q) || (List.range i).any fun k => (q[k]? == some 47) && (q.drop (k + 1) == p)
theorem endsF_step (p q : List UInt8) (i : Nat) : endsF p q (i + 1) = (endsF p q i || ((q[i]? == some 47) && (q.drop (i + 1) == p))) := by
  unfold endsF
  rw [List.range_succ, List.any_append, Bool.or_assoc]
  simp
theorem mean_z {p q : List UInt8} (hq : q ≠ []) : matchM (none :: litP p) q = endsF p q q.length := by
  unfold matchM litP
  rw [names_ne hq, Bool.eq_iff_iff, mat_star_iff _ _ rfl]
  have h1 : (∃ n, n ≤ (splitG q).length ∧ mat Option.isNone pcTakes ((splitG p).map fun n => some (n.map litA)) ((splitG q).drop n) = true) ↔ (splitG p <:+ splitG q) := by
    constructor
    · rintro ⟨n, _, h⟩
      rw [← List.append_nil ((splitG p).map _), lit_pieces, mat_nil] at h
      simp only [Bool.and_eq_true, decide_eq_true_eq, List.isEmpty_iff] at h
      obtain ⟨⟨t, ht⟩, h2⟩ := h
      rw [← ht, List.drop_left] at h2
      subst h2
      rw [List.append_nil] at ht
      rw [ht]; exact List.drop_suffix _ _
    · rintro ⟨t, ht⟩
      refine ⟨t.length, by rw [← ht]; simp, ?_⟩
      rw [← ht, List.drop_left, ← List.append_nil ((splitG p).map _), lit_pieces, mat_nil]
      simp
  rw [h1, split_suffix]
  unfold endsF
  simp only [Bool.or_eq_true, beq_iff_eq, List.any_eq_true, List.mem_range, Bool.and_eq_true]
  constructor
  · rintro (h | ⟨r, h⟩)
    · exact .inl h.symm
    · refine .inr ⟨r.length, by rw [h]; simp, by rw [h]; simp, by rw [h]; simp⟩
  · rintro (h | ⟨k, hk, h2, h3⟩)
    · exact .inl h.symm
    · refine .inr ⟨q.take k, ?_⟩
      have := (List.take_append_drop k q).symm
      rw [drop_cons h2, h3] at this
      exact this
theorem litP_ok {p : List UInt8} (h : p.length ≤ 1000) : PatOk (litP p ++ [none]) ∧ PatOk (none :: litP p) ∧ PatOk (litP p) := by
  have h1 : (litP p).length ≤ 1001 := by
    unfold litP; rw [List.length_map, splitG_len]
    have := List.count_le_length (a := (47 : UInt8)) (l := p); omega
  have h2 : ∀ x ∈ litP p, ∀ az, x = some az → az.length ≤ 1000000 := fun x hx az e => by
    unfold litP at hx
    obtain ⟨n, hn, rfl⟩ := List.mem_map.1 hx
    injection e with e; subst e
    rw [List.length_map]
    have := mem_split hn; omega
  refine ⟨⟨by simp; omega, fun x hx az e => ?_⟩, ⟨by simp; omega, fun x hx az e => ?_⟩, ⟨by omega, h2⟩⟩
  · rcases List.mem_append.1 hx with hx | hx
    · exact h2 x hx az e
    · simp at hx; subst hx; cases e
  · rcases List.mem_cons.1 hx with hx | hx
    · subst hx; cases e
    · exact h2 x hx az e
end Go.Proofs.YtlddnghfjdjglaaDoor
