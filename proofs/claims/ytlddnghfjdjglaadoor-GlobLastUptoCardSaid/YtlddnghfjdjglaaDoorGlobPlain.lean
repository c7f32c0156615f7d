/- glob, plain: patterns read, and which paths they mean. -/
import Derived.Test.YtlddnghfjdjglaaDoorGlobMat
import Derived.Test.YtlddnghfjdjglaaDoorNamePlain
set_option linter.unusedVariables false
namespace Go.Proofs.YtlddnghfjdjglaaDoor

/-- one sign of a piece -/
structure Atm where
  star : Bool
  one : Bool
  no : Bool
  rs : List (UInt8 × UInt8)
def zAtm : Atm := ⟨false, false, false, []⟩
def inRs (rs : List (UInt8 × UInt8)) (x : UInt8) : Bool := rs.any fun r => decide (r.1 ≤ x) && decide (x ≤ r.2)
def Atm.takes (a : Atm) (x : UInt8) : Bool := if a.one then true else if inRs a.rs x then !a.no else a.no
def litA (x : UInt8) : Atm := ⟨false, false, false, [(x, x)]⟩
def starA : Atm := ⟨true, false, false, []⟩
def oneA : Atm := ⟨false, true, false, []⟩

def nextG : List UInt8 → Option (UInt8 × List UInt8)
  | [] => none
  | x :: r => some (x, r)
def letterG : List UInt8 → Option (UInt8 × List UInt8)
  | [] => none
  | x :: r => if x = 92 then nextG r else some (x, r)
theorem nextG_len {l : List UInt8} {x : UInt8} {r : List UInt8} (h : nextG l = some (x, r)) : r.length < l.length := by
  cases l with
  | nil => cases h
  | cons y t => injection h with h; injection h with h1 h2; subst h2; simp
theorem letterG_len {l : List UInt8} {x : UInt8} {r : List UInt8} (h : letterG l = some (x, r)) : r.length < l.length := by
  cases l with
  | nil => cases h
  | cons y t =>
    have h : (if y = 92 then nextG t else some (y, t)) = some (x, r) := h
    split at h
    · have := nextG_len h; simp; omega
    · injection h with h; injection h with h1 h2; subst h2; simp
/-- does a text begin so? -/
def begins (p l : List UInt8) : Bool := p.isPrefixOf l
/-- a pair of a set: its first byte, its last, what is left -/
def rangeG (l : List UInt8) : Option ((UInt8 × UInt8) × List UInt8) :=
  match letterG l with
  | none => none
  | some (x, r) =>
    if begins [45] r && !begins [45, 93] r then
      match letterG (r.drop 1) with
      | none => none
      | some (y, r') => if y < x then none else some ((x, y), r')
    else some ((x, x), r)
theorem rangeG_len {l : List UInt8} {p : UInt8 × UInt8} {r : List UInt8} (h : rangeG l = some (p, r)) : r.length < l.length := by
  unfold rangeG at h
  split at h
  · cases h
  · rename_i x r1 h1
    have := letterG_len h1
    split at h
    · split at h
      · cases h
      · rename_i y r2 h2
        have h3 := letterG_len h2
        rw [List.length_drop] at h3
        split at h
        · cases h
        · injection h with h; injection h with h4 h5; subst h5; omega
    · injection h with h; injection h with h4 h5; subst h5; exact this
/-- a set's pairs -/
def setL (rs : List (UInt8 × UInt8)) (l : List UInt8) : Option (List (UInt8 × UInt8) × List UInt8) :=
  if !rs.isEmpty && begins [93] l then some (rs, l.drop 1)
  else match h : rangeG l with
    | none => none
    | some (p, r) => setL (rs ++ [p]) r
termination_by l.length
decreasing_by exact rangeG_len h
theorem setL_len (n : Nat) : ∀ {rs : List (UInt8 × UInt8)} {l : List UInt8} {q : List (UInt8 × UInt8)} {r : List UInt8}, l.length ≤ n → setL rs l = some (q, r) → r.length ≤ l.length := by
  induction n with
  | zero =>
    intro rs l q r hl h
    obtain rfl : l = [] := List.eq_nil_of_length_eq_zero (by omega)
    rw [setL] at h
    split at h
    · injection h with h; injection h with h1 h2; subst h2; simp
    · split at h
      · cases h
      · rename_i p r' h1; have := rangeG_len h1; simp at this
  | succ n ih =>
    intro rs l q r hl h
    rw [setL] at h
    split at h
    · injection h with h; injection h with h1 h2; subst h2; simp
    · split at h
      · cases h
      · rename_i p r' h1
        have := rangeG_len h1
        have := ih (by omega) h
        omega
def setG (l : List UInt8) : Option (Atm × List UInt8) :=
  match setL [] (if begins [33] l then l.drop 1 else l) with
  | none => none
  | some (rs, r) => some (⟨false, false, begins [33] l, rs⟩, r)
theorem setG_len {l : List UInt8} {a : Atm} {r : List UInt8} (h : setG l = some (a, r)) : r.length ≤ l.length := by
  unfold setG at h
  split at h
  · cases h
  · rename_i rs r' h1
    injection h with h; injection h with h2 h3; subst h3
    have := setL_len _ (Nat.le_refl _) h1
    split at this
    · rw [List.length_drop] at this; omega
    · exact this
/-- the sign ahead, and what is left -/
def atomG : List UInt8 → Option (Atm × List UInt8)
  | [] => none
  | x :: r => if x = 42 then some (starA, r) else if x = 63 then some (oneA, r) else if x = 91 then setG r else if x = 92 then (match nextG r with | none => none | some (y, r') => some (litA y, r')) else some (litA x, r)
theorem atomG_len {l : List UInt8} {a : Atm} {r : List UInt8} (h : atomG l = some (a, r)) : r.length < l.length := by
  cases l with
  | nil => cases h
  | cons x t =>
    have h : (if x = 42 then some (starA, t) else if x = 63 then some (oneA, t) else if x = 91 then setG t else if x = 92 then (match nextG t with | none => none | some (y, r') => some (litA y, r')) else some (litA x, t)) = some (a, r) := h
    rw [List.length_cons]
    split at h
    · injection h with h; injection h with h1 h2; subst h2; omega
    · split at h
      · injection h with h; injection h with h1 h2; subst h2; omega
      · split at h
        · have := setG_len h; omega
        · split at h
          · split at h
            · cases h
            · rename_i y r' h1
              injection h with h; injection h with h2 h3; subst h3
              have := nextG_len h1; omega
          · injection h with h; injection h with h1 h2; subst h2; omega
/-- the signs behind some -/
def atomsL (az : List Atm) (l : List UInt8) : Option (List Atm) :=
  if l = [] then some az
  else match h : atomG l with
    | none => none
    | some (a, r) => atomsL (az ++ [a]) r
termination_by l.length
decreasing_by exact atomG_len h
theorem atomsL_ne (n : Nat) : ∀ {az : List Atm} {l : List UInt8} {q : List Atm}, l.length ≤ n → atomsL az l = some q → az.length ≤ q.length ∧ (l ≠ [] → az.length < q.length) := by
  induction n with
  | zero =>
    intro az l q hl h
    obtain rfl : l = [] := List.eq_nil_of_length_eq_zero (by omega)
    rw [atomsL, if_pos rfl] at h
    injection h with h; subst h
    exact ⟨Nat.le_refl _, fun h => absurd rfl h⟩
  | succ n ih =>
    intro az l q hl h
    rw [atomsL] at h
    split at h
    · injection h with h; subst h; rename_i h0; exact ⟨Nat.le_refl _, fun h => absurd h0 h⟩
    · split at h
      · cases h
      · rename_i a r h1
        have := atomG_len h1
        have := (ih (by omega) h).1
        rw [List.length_append, List.length_singleton] at this
        exact ⟨by omega, fun _ => by omega⟩
/-- none: any number of names -/
abbrev Pc := Option (List Atm)
def pieceG (l : List UInt8) : Option Pc := if l = [42, 42] then some none else if l = [] then none else (atomsL [] l).map some
def piecesG : List (List UInt8) → Option (List Pc)
  | [] => some []
  | l :: r => match pieceG l with
    | none => none
    | some p => (piecesG r).map (p :: ·)
/-- a text cut at each / -/
def splitG : List UInt8 → List (List UInt8)
  | [] => [[]]
  | x :: r => if x = 47 then [] :: splitG r else match splitG r with
    | [] => [[x]]
    | p :: q => (x :: p) :: q
theorem splitG_ne (l : List UInt8) : splitG l ≠ [] := by
  cases l with
  | nil => simp [splitG]
  | cons x r =>
    unfold splitG
    split
    · simp
    · split <;> simp
def namesG (l : List UInt8) : List (List UInt8) := if l = [] then [] else splitG l
abbrev Rz (α : Type) := Except Int α
def parseG (l : List UInt8) : Rz (List Pc) := if 255 < l.length then .error 2 else match piecesG (splitG l) with
  | none => .error 60
  | some ps => .ok ps
def nameM (az : List Atm) (l : List UInt8) : Bool := mat Atm.star Atm.takes az l
def pcTakes : Pc → List UInt8 → Bool
  | none, _ => false
  | some az, l => nameM az l
def matchM (ps : List Pc) (l : List UInt8) : Bool := mat Option.isNone pcTakes ps (namesG l)

/-! ### rules -/
structure Rul where
  pat : List Pc
  keep : Bool
/-- a line: nothing, or what it says -/
def lineG (l : List UInt8) : Rz (Option Rul) := match l with
  | [] => .ok none
  | x :: r => if x = 35 then .ok none else if x = 33 then (match parseG r with | .ok p => .ok (some ⟨p, true⟩) | .error e => .error e) else match parseG l with | .ok p => .ok (some ⟨p, false⟩) | .error e => .error e
/-- the rules of some lines, the first of them at i; or an error and its line -/
def rulesG : Nat → List (List UInt8) → Except (Int × Nat) (List Rul)
  | _, [] => .ok []
  | i, l :: r => match lineG l with
    | .error e => .error (e, i)
    | .ok none => rulesG (i + 1) r
    | .ok (some q) => match rulesG (i + 1) r with
      | .error e => .error e
      | .ok qs => .ok (q :: qs)
/-- the last rule that means a path: is it passed over? -/
def lastG (qs : List Rul) (l : List UInt8) : Bool := match qs.reverse.find? (fun q => matchM q.pat l) with
  | none => false
  | some q => !q.keep
/-- the beginnings of a path that are looked at -/
def cutsG (l : List UInt8) : List Nat := (List.range (l.length + 1)).filter fun i => match l[i]? with | none => true | some x => x == 47
def skipsG (qs : List Rul) (l : List UInt8) : Bool := (cutsG l).any fun i => lastG qs (l.take i)
end Go.Proofs.YtlddnghfjdjglaaDoor
