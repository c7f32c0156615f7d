/- rules, plain: as the reference goes through them. -/
import Derived.Test.YtlddnghfjdjglaaDoorGlobSkips
set_option linter.unusedVariables false
namespace Go.Proofs.YtlddnghfjdjglaaDoor

def ruleOpt (l : List UInt8) : Option Rul := match lineG l with | .ok o => o | .error _ => none
theorem rules_rest : ∀ {i : Nat} {l : List UInt8} {r : List (List UInt8)} {qs : List Rul}, rulesG i (l :: r) = .ok qs → ∃ o q2, lineG l = .ok o ∧ rulesG (i + 1) r = .ok q2 ∧ qs = o.toList ++ q2
  | i, l, r, qs, h => by
    rw [rulesG] at h
    cases hl : lineG l with
    | error e => rw [hl] at h; cases h
    | ok o =>
      rw [hl] at h
      cases o with
      | none => exact ⟨none, qs, rfl, h, rfl⟩
      | some q =>
        simp only [] at h
        cases hr : rulesG (i + 1) r with
        | error e => rw [hr] at h; cases h
        | ok q2 => rw [hr] at h; injection h with h; subst h; exact ⟨some q, q2, rfl, rfl, rfl⟩
/-- all lines are right, and the rules are those of the lines -/
theorem rules_ok : ∀ {i : Nat} {ls : List (List UInt8)} {qs : List Rul}, rulesG i ls = .ok qs → qs = ls.filterMap ruleOpt ∧ ∀ l ∈ ls, ∃ o, lineG l = .ok o
  | i, [], qs, h => by
    rw [rulesG] at h
    injection h with h; subst h; exact ⟨rfl, fun l h => by cases h⟩
  | i, l :: r, qs, h => by
    obtain ⟨o, q2, h1, h2, rfl⟩ := rules_rest h
    obtain ⟨h3, h4⟩ := rules_ok h2
    have ho : ruleOpt l = o := by unfold ruleOpt; rw [h1]
    refine ⟨?_, fun x hx => ?_⟩
    · rw [List.filterMap_cons, ho, h3]
      cases o <;> rfl
    · rcases List.mem_cons.1 hx with rfl | hx
      · exact ⟨o, h1⟩
      · exact h4 x hx
theorem rules_len {i : Nat} {ls : List (List UInt8)} {qs : List Rul} (h : rulesG i ls = .ok qs) : qs.length ≤ ls.length := by
  rw [(rules_ok h).1]; exact List.length_filterMap_le _ _
theorem lastG_nil (p : List UInt8) : lastG [] p = false := rfl
theorem lastG_snoc (qs : List Rul) (q : Rul) (p : List UInt8) : lastG (qs ++ [q]) p = if matchM q.pat p then !q.keep else lastG qs p := by
  have h := lastG_step (qs := qs ++ [q]) (k := qs.length) (q := q) p (by simp)
  rw [List.take_of_length_le (by simp)] at h
  rw [h]
  rw [List.take_left]
/-- after the first lines -/
theorem take_rule {ls : List (List UInt8)} {k : Nat} {l : List UInt8} (h : ls[k]? = some l) : (ls.take (k + 1)).filterMap ruleOpt = (ls.take k).filterMap ruleOpt ++ (ruleOpt l).toList := by
  rw [List.take_add_one, h, List.filterMap_append]
  refine congrArg _ ?_
  show List.filterMap ruleOpt [l] = _
  rw [List.filterMap_cons]
  cases ruleOpt l <;> rfl
theorem ruleOpt_nil : ruleOpt [] = none := rfl
theorem ruleOpt_hash (r : List UInt8) : ruleOpt (35 :: r) = none := rfl
theorem ruleOpt_rule {x : UInt8} {r : List UInt8} (h : x ≠ 35) {o : Option Rul} (ho : lineG (x :: r) = .ok o) : ∃ ps, parseG (cutG (x :: r)) = .ok ps ∧ ruleOpt (x :: r) = some ⟨ps, x == 33⟩ := by
  have hl := lineG_rule (r := r) h
  unfold ruleOf at hl
  have hb : begins [33] (x :: r) = (x == 33) := by
    show ((33 : UInt8) == x && List.isPrefixOf [] r) = _
    rw [show List.isPrefixOf [] r = true by simp, Bool.and_true, Bool.eq_iff_iff]
    simp; exact ⟨fun h => h.symm, fun h => h.symm⟩
  cases hp : parseG (cutG (x :: r)) with
  | error e => rw [hp] at hl; rw [ho] at hl; cases hl
  | ok ps =>
    rw [hp] at hl
    refine ⟨ps, rfl, ?_⟩
    unfold ruleOpt
    rw [hl, hb]
theorem cutG_mark (r : List UInt8) : cutG (33 :: r) = r := by
  unfold cutG
  rw [if_pos (by show ((33 : UInt8) == 33 && List.isPrefixOf [] r) = true; simp)]; rfl
theorem cutG_plain {x : UInt8} {r : List UInt8} (h : x ≠ 33) : cutG (x :: r) = x :: r := by
  unfold cutG
  have : begins [33] (x :: r) = false := by
    show ((33 : UInt8) == x && List.isPrefixOf [] r) = false
    have : ((33 : UInt8) == x) = false := by simp; exact fun e => h e.symm
    rw [this]; rfl
  rw [this]; rfl

/-! ### names joined -/
def joinG : List (List UInt8) → List UInt8
  | [] => []
  | [p] => p
  | p :: q :: r => p ++ 47 :: joinG (q :: r)
def anyCut (f : List UInt8 → Bool) : List UInt8 → Bool
  | [] => f []
  | x :: r => (x == 47 && f []) || anyCut (fun t => f (x :: t)) r
theorem any_cuts (f : List UInt8 → Bool) : ∀ (p : List UInt8), ((cutsG p).any fun i => f (p.take i)) = anyCut f p
  | [] => by
    have h : cutsG ([] : List UInt8) = [0] := rfl
    rw [h]
    simp [anyCut]
  | x :: r => by
    have h := any_cuts (fun t => f (x :: t)) r
    unfold anyCut
    rw [← h]
    show ((List.range ((x :: r).length + 1)).filter (lookG (x :: r))).any _ = (x == 47 && f [] || ((List.range (r.length + 1)).filter (lookG r)).any fun i => f (x :: r.take i))
    rw [List.length_cons, List.range_succ_eq_map, List.filter_cons, List.filter_map]
    have e : lookG (x :: r) ∘ Nat.succ = lookG r := rfl
    have e0 : lookG (x :: r) 0 = (x == 47) := rfl
    rw [e, e0]
    cases x == 47
    · rw [if_neg (by decide), List.any_map]; simp
    · rw [if_pos rfl, List.any_cons, List.any_map]; simp
theorem any_names (f : List UInt8 → Bool) : ∀ (p : List UInt8), anyCut f p = (List.range (splitG p).length).any fun i => f (joinG ((splitG p).take (i + 1)))
  | [] => by
    have h : splitG ([] : List UInt8) = [[]] := rfl
    rw [h]
    simp [anyCut, List.range_succ, joinG]
  | x :: r => by
    unfold anyCut
    rw [any_names (fun t => f (x :: t)) r]
    obtain ⟨a, b, hab⟩ := splitG_cut r
    by_cases hx : x = 47
    · subst hx
      have hs : splitG (47 :: r) = [] :: splitG r := by show (if (47 : UInt8) = 47 then _ else _) = _; rw [if_pos rfl]
      rw [hs, List.length_cons, List.range_succ_eq_map, List.any_cons, List.any_map]
      simp only [beq_self_eq_true, Bool.true_and]
      congr 1
      refine congrArg (fun g => List.any _ g) (funext fun i => ?_)
      congr 1
      show 47 :: joinG ((splitG r).take (i + 1)) = joinG ([] :: (splitG r).take (i + 1))
      rw [hab]; rfl
    · have : (x == 47) = false := by simpa using hx
      have hs : splitG (x :: r) = (x :: a) :: b := by show (if x = 47 then _ else match splitG r with | [] => [[x]] | p :: q => (x :: p) :: q) = _; rw [if_neg hx, hab]
      rw [this, hs, hab, Bool.false_and, Bool.false_or, List.length_cons, List.length_cons]
      refine congrArg (fun g => List.any _ g) (funext fun i => ?_)
      congr 1
      show x :: joinG (a :: b.take i) = joinG ((x :: a) :: b.take i)
      cases b.take i <;> rfl
/-- the reference's way: from place i of the names on -/
def skipN (qs : List Rul) (p : List UInt8) (i : Nat) : Bool := (List.range' i ((namesG p).length + 1 - i)).any fun i => lastG qs (joinG ((namesG p).take i)) && (decide (0 < i) || p.isEmpty || p.head? == some 47)
theorem skipN_step (qs : List Rul) (p : List UInt8) {i : Nat} (h : i ≤ (namesG p).length) : skipN qs p i = (lastG qs (joinG ((namesG p).take i)) && (decide (0 < i) || p.isEmpty || p.head? == some 47) || skipN qs p (i + 1)) := by
  unfold skipN
  rw [show (namesG p).length + 1 - i = ((namesG p).length + 1 - (i + 1)) + 1 by omega, List.range'_succ, List.any_cons]
theorem skipN_end (qs : List Rul) (p : List UInt8) : skipN qs p ((namesG p).length + 1) = false := by
  unfold skipN; rw [Nat.sub_self]; rfl
theorem skipN_pos (qs : List Rul) (p : List UInt8) : skipN qs p 1 = (List.range (namesG p).length).any fun i => lastG qs (joinG ((namesG p).take (i + 1))) := by
  unfold skipN
  rw [show (namesG p).length + 1 - 1 = (namesG p).length by omega, List.range'_eq_map_range, List.any_map]
  refine congrArg (fun g => List.any _ g) (funext fun i => ?_)
  simp [Nat.add_comm]
theorem skipN_eq (qs : List Rul) (p : List UInt8) : skipN qs p 0 = skipsG qs p := by
  unfold skipsG
  rw [any_cuts (fun t => lastG qs t), skipN_step qs p (Nat.zero_le _), skipN_pos]
  by_cases h0 : p = []
  · subst h0
    have h : namesG ([] : List UInt8) = [] := rfl
    rw [h]
    simp [anyCut, joinG]
  · have h : namesG p = splitG p := by unfold namesG; rw [if_neg h0]
    rw [h, any_names]
    cases p with
    | nil => exact absurd rfl h0
    | cons x r =>
      have e0 : joinG ((splitG (x :: r)).take 0) = [] := rfl
      rw [e0]
      simp only [Nat.lt_irrefl, decide_false, Bool.false_or, List.isEmpty_cons, List.head?_cons]
      by_cases hx : x = 47
      · subst hx
        have hs : splitG (47 :: r) = [] :: splitG r := by show (if (47 : UInt8) = 47 then _ else _) = _; rw [if_pos rfl]
        rw [hs, List.length_cons, List.range_succ_eq_map, List.any_cons]
        have e1 : joinG (([] :: splitG r).take (0 + 1)) = [] := rfl
        rw [e1]
        simp
      · have : (some x == some (47 : UInt8)) = false := by simpa using hx
        rw [this, Bool.and_false, Bool.false_or]
end Go.Proofs.YtlddnghfjdjglaaDoor
