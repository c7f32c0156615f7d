/- towlineref06.set, plain: a set's pairs by places. -/
import Derived.Test.YtlddnghfjdjglaaDoorGlobTab
import Derived.Test.YtlddnghfjdjglaaDoorGlobSet
set_option linter.unusedVariables false
namespace Go.Proofs.YtlddnghfjdjglaaDoor

def dashAt (l : List UInt8) (n : Nat) : Bool := l[n]? == some 45 && (match l[n + 1]? with | none => false | some z => z != 93)
def rangeAt (l : List UInt8) (i : Nat) : Option ((UInt8 × UInt8) × Nat) :=
  match letAt l i with
  | none => none
  | some (x, n) => if dashAt l n then (match letAt l (n + 1) with | none => none | some (y, m) => if y < x then none else some ((x, y), m)) else if n + 1 = l.length ∧ l[n]? = some 45 then none else some ((x, x), n)
theorem begins_at (l : List UInt8) (n : Nat) (c : UInt8) : begins [c] (l.drop n) = (l[n]? == some c) := by
  cases h : l[n]? with
  | none =>
    rw [List.drop_eq_nil_of_le (List.getElem?_eq_none_iff.1 h)]; rfl
  | some x =>
    rw [drop_cons h]
    show (c == x && List.isPrefixOf [] (l.drop (n + 1))) = (x == c)
    rw [Bool.eq_iff_iff]; simp; exact ⟨fun h => h.symm, fun h => h.symm⟩
theorem begins_two (l : List UInt8) (n : Nat) (c d : UInt8) : begins [c, d] (l.drop n) = (l[n]? == some c && l[n + 1]? == some d) := by
  cases h : l[n]? with
  | none =>
    rw [List.drop_eq_nil_of_le (List.getElem?_eq_none_iff.1 h)]; rfl
  | some x =>
    rw [drop_cons h, ← begins_at l (n + 1) d]
    show (c == x && begins [d] (l.drop (n + 1))) = (x == c && _)
    congr 1
    rw [Bool.eq_iff_iff]; simp; exact ⟨fun h => h.symm, fun h => h.symm⟩
theorem dash_eq (l : List UInt8) (n : Nat) (h : ¬ (n + 1 = l.length ∧ l[n]? = some 45)) : (begins [45] (l.drop n) && !begins [45, 93] (l.drop n)) = dashAt l n := by
  rw [begins_at, begins_two]
  unfold dashAt
  cases h1 : l[n]? with
  | none => rfl
  | some x =>
    by_cases hx : x = 45
    · subst hx
      obtain ⟨h3, _⟩ := List.getElem?_eq_some_iff.1 h1
      cases h2 : l[n + 1]? with
      | none =>
        have := List.getElem?_eq_none_iff.1 h2
        exact absurd ⟨by omega, h1⟩ h
      | some z => simp [bne]
    · have : (some x == some (45 : UInt8)) = false := by simpa using hx
      rw [this]; rfl
theorem rangeAt_eq (l : List UInt8) (i : Nat) : rangeG (l.drop i) = (rangeAt l i).map fun p => (p.1, l.drop p.2) := by
  have hle := letAt_eq l i
  unfold rangeAt
  cases h : letAt l i with
  | none => rw [h] at hle; exact range_bad hle
  | some p =>
    obtain ⟨x, n⟩ := p
    rw [h] at hle
    simp only [Option.map_some] at hle
    by_cases hend : n + 1 = l.length ∧ l[n]? = some 45
    · have hd : dashAt l n = false := by unfold dashAt; rw [List.getElem?_eq_none (show l.length ≤ n + 1 by omega)]; simp
      show _ = (if dashAt l n = true then _ else if n + 1 = l.length ∧ l[n]? = some 45 then none else some ((x, x), n)).map fun p => (p.1, l.drop p.2)
      rw [hd, if_neg (by decide), if_pos hend, Option.map_none]
      have h45 : begins [45] (l.drop n) = true := by rw [begins_at, hend.2]; rfl
      have h93 : begins [45, 93] (l.drop n) = false := by rw [begins_two, List.getElem?_eq_none (show l.length ≤ n + 1 by omega)]; simp
      rw [range_two hle (by rw [h45, h93]; rfl), List.drop_drop, List.drop_eq_nil_of_le (by omega)]
      rfl
    · have hd := dash_eq l n hend
      show _ = (if dashAt l n = true then (match letAt l (n + 1) with | none => none | some (y, m) => if y < x then none else some ((x, y), m)) else if n + 1 = l.length ∧ l[n]? = some 45 then none else some ((x, x), n)).map fun p => (p.1, l.drop p.2)
      cases hda : dashAt l n with
      | false =>
        rw [hda] at hd
        rw [range_one hle hd]
        rw [if_neg (by decide), if_neg hend]; rfl
      | true =>
        rw [hda] at hd
        rw [range_two hle hd, List.drop_drop, letAt_eq]
        rw [if_pos rfl]
        cases h2 : letAt l (n + 1) with
        | none => rfl
        | some q =>
          obtain ⟨y, m⟩ := q
          simp only [Option.map_some]
          split <;> rfl
theorem rangeAt_lt {l : List UInt8} {i k : Nat} {p : UInt8 × UInt8} (h : rangeAt l i = some (p, k)) : i < k ∧ k ≤ l.length := by
  unfold rangeAt at h
  cases h1 : letAt l i with
  | none => rw [h1] at h; cases h
  | some q =>
    obtain ⟨x, n⟩ := q
    have h2 := letAt_lt h1
    rw [h1] at h
    simp only [] at h
    split at h
    · cases h3 : letAt l (n + 1) with
      | none => rw [h3] at h; cases h
      | some q =>
        obtain ⟨y, m⟩ := q
        have h4 := letAt_lt h3
        rw [h3] at h
        simp only [] at h
        split at h
        · cases h
        · injection h with h; injection h with _ h; omega
    · split at h
      · cases h
      · injection h with h; injection h with _ h; omega

/-- the table of some pairs -/
def gI (rs : List (UInt8 × UInt8)) (c : Nat) : Bool := inRs rs (UInt8.ofNat c)
/-- a pair is being filled in -/
def gF (rs : List (UInt8 × UInt8)) (X b c : Nat) : Bool := gI rs c || (decide (X ≤ c) && decide (c < b))
theorem gF_start (rs : List (UInt8 × UInt8)) (X : Nat) : gF rs X X = gI rs := by
  funext c
  unfold gF
  by_cases h : X ≤ c
  · simp [h, Nat.not_lt.2 h]
  · simp [h]
theorem gF_step (rs : List (UInt8 × UInt8)) {X b : Nat} (h : X ≤ b) : (fun c => if c = b then true else gF rs X b c) = gF rs X (b + 1) := by
  funext c
  unfold gF
  by_cases hc : c = b
  · subst hc; simp [h]
  · rw [if_neg hc]
    by_cases h1 : c < b
    · have : c < b + 1 := by omega
      simp [h1, this]
    · have : ¬ c < b + 1 := by omega
      simp [h1, this]
theorem gF_end (rs : List (UInt8 × UInt8)) (x y : UInt8) {c : Nat} (hc : c < 256) : gF rs x.toNat (y.toNat + 1) c = gI (rs ++ [(x, y)]) c := by
  unfold gF gI inRs
  rw [List.any_append]
  congr 1
  simp only [List.any_cons, List.any_nil, Bool.or_false]
  have h1 : (UInt8.ofNat c).toNat = c := by rw [UInt8.toNat_ofNat']; exact Nat.mod_eq_of_lt hc
  have e1 : (x ≤ UInt8.ofNat c) = (x.toNat ≤ c) := by rw [UInt8.le_iff_toNat_le, h1]
  have e2 : (UInt8.ofNat c ≤ y) = (c < y.toNat + 1) := by rw [UInt8.le_iff_toNat_le, h1]; exact propext ⟨fun h => by omega, fun h => by omega⟩
  simp only [e1, e2]
/-- the table is being turned about -/
def gT (rs : List (UInt8 × UInt8)) (no : Bool) (b c : Nat) : Bool := if c < b then (gI rs c != no) else gI rs c
theorem gT_start (rs : List (UInt8 × UInt8)) (no : Bool) : gT rs no 0 = gI rs := by
  funext c; simp [gT]
theorem gT_step (rs : List (UInt8 × UInt8)) (no : Bool) (b : Nat) : (fun c => if c = b then (gT rs no b b != no) else gT rs no b c) = gT rs no (b + 1) := by
  funext c
  unfold gT
  by_cases hc : c = b
  · subst hc; simp
  · rw [if_neg hc]
    by_cases h1 : c < b
    · rw [if_pos h1, if_pos (by omega)]
    · rw [if_neg h1, if_neg (by omega)]
/-- the table of a sign -/
def tabA (a : Atm) (c : Nat) : Bool := a.takes (UInt8.ofNat c)
theorem gT_end (rs : List (UInt8 × UInt8)) (no : Bool) {c : Nat} (h : c < 256) : gT rs no 256 c = tabA ⟨false, false, no, rs⟩ c := by
  unfold gT tabA Atm.takes gI
  rw [if_pos h]
  cases inRs rs (UInt8.ofNat c) <;> cases no <;> rfl
end Go.Proofs.YtlddnghfjdjglaaDoor
