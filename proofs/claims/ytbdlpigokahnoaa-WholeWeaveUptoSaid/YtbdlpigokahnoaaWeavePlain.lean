/- Plain laws of layer 8: the parts of a merge, and the text that they make. -/
import Derived.Test.YtbdlpigokahnoaaLinesLaws
set_option linter.unusedVariables false
namespace Go.Proofs.Ytbdlpigokahnoaa
open Go.RowKit

abbrev Pt := Int × List ByteArray × List ByteArray × List ByteArray
abbrev Seg := List ByteArray × List ByteArray × List ByteArray

/-- which kind of part three lists are -/
def kindG (b o t : List ByteArray) : Int := if o = b ∧ t = b then 0 else if t = b then 1 else if o = b then 2 else if o = t then 3 else 4
theorem kindG_zero {b o t : List ByteArray} : kindG b o t = 0 ↔ o = b ∧ t = b := by
  unfold kindG
  by_cases h1 : o = b ∧ t = b
  · simp [h1]
  · rw [if_neg h1]; constructor
    · intro h; split at h
      · cases h
      · split at h
        · cases h
        · split at h <;> cases h
    · intro h; exact absurd h h1
theorem kindG_range (b o t : List ByteArray) : 0 ≤ kindG b o t ∧ kindG b o t ≤ 4 := by
  unfold kindG; repeat' split
  all_goals omega

/-- a part behind others; parts without a change are put together -/
def pushG (ps : List Pt) (s : Seg) : List Pt :=
  if s.1.length + s.2.1.length + s.2.2.length = 0 then ps
  else if kindG s.1 s.2.1 s.2.2 = 0 then
    match ps.getLast? with
    | some (0, lb, lo, lt) => ps.dropLast ++ [(0, lb ++ s.1, lo ++ s.2.1, lt ++ s.2.2)]
    | _ => ps ++ [(0, s.1, s.2.1, s.2.2)]
  else ps ++ [(kindG s.1 s.2.1 s.2.2, s.1, s.2.1, s.2.2)]

theorem pushG_empty {ps : List Pt} {b o t : List ByteArray} (h : b.length + o.length + t.length = 0) : pushG ps (b, o, t) = ps := by
  unfold pushG; rw [if_pos h]
theorem pushG_join {ps : List Pt} {b o t lb lo lt : List ByteArray} (h : ¬ b.length + o.length + t.length = 0) (hk : kindG b o t = 0) : pushG (ps ++ [(0, lb, lo, lt)]) (b, o, t) = ps ++ [(0, lb ++ b, lo ++ o, lt ++ t)] := by
  unfold pushG; rw [if_neg h, if_pos hk]; simp
theorem pushG_new {ps : List Pt} {b o t : List ByteArray} (h : ¬ b.length + o.length + t.length = 0) (hk : kindG b o t ≠ 0 ∨ ∀ init x, ps = init ++ [x] → x.1 ≠ 0) : pushG ps (b, o, t) = ps ++ [(kindG b o t, b, o, t)] := by
  unfold pushG; rw [if_neg h]
  by_cases h0 : kindG b o t = 0
  · rw [if_pos h0]
    rcases hk with hk | hk
    · exact absurd h0 hk
    · split
      · rename_i lb lo lt e
        have hne : ps ≠ [] := by rintro rfl; simp at e
        rw [List.getLast?_eq_some_getLast hne] at e
        injection e with e
        exact absurd (by rw [e]) (hk ps.dropLast (ps.getLast hne) (List.dropLast_concat_getLast hne).symm)
      · rw [h0]
  · rw [if_neg h0]

/-- the places that are paired in both lists -/
def commons : List (Nat × Nat) → List (Nat × Nat) → List (Nat × Nat × Nat)
  | [], _ => []
  | _ :: _, [] => []
  | x :: a, y :: b => if x.1 = y.1 then (x.1, x.2, y.2) :: commons a b else if x.1 < y.1 then commons a (y :: b) else commons (x :: a) b
termination_by a b => a.length + b.length
theorem commons_nil_left (b : List (Nat × Nat)) : commons [] b = [] := by rw [commons]
theorem commons_nil_right (a : List (Nat × Nat)) : commons a [] = [] := by cases a <;> rw [commons]
theorem commons_eq {x y : Nat × Nat} {a b : List (Nat × Nat)} (h : x.1 = y.1) : commons (x :: a) (y :: b) = (x.1, x.2, y.2) :: commons a b := by rw [commons, if_pos h]
theorem commons_lt {x y : Nat × Nat} {a b : List (Nat × Nat)} (h : x.1 < y.1) : commons (x :: a) (y :: b) = commons a (y :: b) := by rw [commons, if_neg (by omega), if_pos h]
theorem commons_gt {x y : Nat × Nat} {a b : List (Nat × Nat)} (h : y.1 < x.1) : commons (x :: a) (y :: b) = commons (x :: a) b := by rw [commons, if_neg (by omega), if_neg (by omega)]

/-- the pieces between and at such places -/
def segsG (base ours theirs : List ByteArray) : Nat → Nat → Nat → List (Nat × Nat × Nat) → List Seg
  | i, j, k, [] => [(base.drop i, ours.drop j, theirs.drop k)]
  | i, j, k, c :: r => ((base.drop i).take (c.1 - i), (ours.drop j).take (c.2.1 - j), (theirs.drop k).take (c.2.2 - k)) :: ((base.drop c.1).take 1, (ours.drop c.2.1).take 1, (theirs.drop c.2.2).take 1) :: segsG base ours theirs (c.1 + 1) (c.2.1 + 1) (c.2.2 + 1) r
def mergeG (base ours theirs : List ByteArray) : List Pt := (segsG base ours theirs 0 0 0 (commons (pairsAt base ours 0 0) (pairsAt base theirs 0 0))).foldl pushG []

/-! ### the text -/
def nl : ByteArray := ⟨#[10]⟩
def endsNl (s : ByteArray) : Bool := s.data.toList.getLast? == some 10
/-- lines of which the last one has an end -/
def closedG (l : List ByteArray) : List ByteArray :=
  match l.getLast? with
  | none => l
  | some s => if endsNl s then l else l.dropLast ++ [s ++ nl]
def mOurs (ours : ByteArray) : ByteArray := (⟨#[60, 60, 60, 60, 60, 60, 60, 32]⟩ ++ ours) ++ nl
def mBase : ByteArray := ⟨#[124, 124, 124, 124, 124, 124, 124, 32, 98, 97, 115, 101, 10]⟩
def mMid : ByteArray := ⟨#[61, 61, 61, 61, 61, 61, 61, 10]⟩
def mTheirs (theirs : ByteArray) : ByteArray := (⟨#[62, 62, 62, 62, 62, 62, 62, 32]⟩ ++ theirs) ++ nl
def chunkG (ours theirs : ByteArray) (p : Pt) : List ByteArray :=
  if p.1 = 0 ∨ p.1 = 1 ∨ p.1 = 3 then p.2.2.1 else if p.1 = 2 then p.2.2.2
  else mOurs ours :: closedG p.2.2.1 ++ (mBase :: closedG p.2.1 ++ (mMid :: closedG p.2.2.2 ++ [mTheirs theirs]))
def cleanP (p : Pt) : Bool := decide (p.1 = 0 ∨ p.1 = 1 ∨ p.1 = 3 ∨ p.1 = 2)
def textG (ours theirs : ByteArray) (ps : List Pt) : List ByteArray := ps.flatMap (chunkG ours theirs)
def cleanG (ps : List Pt) : Bool := ps.all cleanP

/-! ### the sides turned about -/
def swapK (k : Int) : Int := if k = 1 then 2 else if k = 2 then 1 else k
def swapP (p : Pt) : Pt := (swapK p.1, p.2.1, p.2.2.2, p.2.2.1)
end Go.Proofs.Ytbdlpigokahnoaa
