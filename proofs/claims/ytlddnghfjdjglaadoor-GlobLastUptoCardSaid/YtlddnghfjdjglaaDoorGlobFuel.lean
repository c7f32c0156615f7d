/- glob, plain: patterns reckoned with fuel, for literals. -/
import Derived.Test.YtlddnghfjdjglaaDoorGlobSkips
set_option linter.unusedVariables false
namespace Go.Proofs.YtlddnghfjdjglaaDoor

def setF : Nat → List (UInt8 × UInt8) → List UInt8 → Option (List (UInt8 × UInt8) × List UInt8)
  | 0, _, _ => none
  | n + 1, rs, l => if !rs.isEmpty && begins [93] l then some (rs, l.drop 1) else match rangeG l with
    | none => none
    | some (p, r) => setF n (rs ++ [p]) r
theorem setF_eq : ∀ (n : Nat) (rs : List (UInt8 × UInt8)) (l : List UInt8), l.length < n → setL rs l = setF n rs l
  | 0, _, _, h => absurd h (by omega)
  | n + 1, rs, l, h => by
    rw [setL, setF]
    split
    · rfl
    · split
      · rename_i h1; rw [h1]
      · rename_i p r h1
        rw [h1]
        have := rangeG_len h1
        exact setF_eq n _ _ (by omega)
def setGF (l : List UInt8) : Option (Atm × List UInt8) :=
  match setF 300 [] (if begins [33] l then l.drop 1 else l) with
  | none => none
  | some (rs, r) => some (⟨false, false, begins [33] l, rs⟩, r)
theorem setGF_eq {l : List UInt8} (h : l.length < 300) : setG l = setGF l := by
  unfold setG setGF
  rw [setF_eq 300]
  · cases setF 300 [] (if begins [33] l = true then List.drop 1 l else l) <;> rfl
  · split
    · rw [List.length_drop]; omega
    · exact h
def atomF : List UInt8 → Option (Atm × List UInt8)
  | [] => none
  | x :: r => if x = 42 then some (starA, r) else if x = 63 then some (oneA, r) else if x = 91 then setGF r else if x = 92 then (match nextG r with | none => none | some (y, r') => some (litA y, r')) else some (litA x, r)
theorem atomF_eq : ∀ {l : List UInt8}, l.length < 300 → atomG l = atomF l
  | [], _ => rfl
  | x :: r, h => by
    show (if x = 42 then some (starA, r) else if x = 63 then some (oneA, r) else if x = 91 then setG r else if x = 92 then (match nextG r with | none => none | some (y, r') => some (litA y, r')) else some (litA x, r)) = _
    rw [setGF_eq (by simp at h; omega)]; rfl
def atomsF : Nat → List Atm → List UInt8 → Option (List Atm)
  | 0, _, _ => none
  | n + 1, az, l => match l with
    | [] => some az
    | x :: t => match atomF (x :: t) with
      | none => none
      | some (a, r) => atomsF n (az ++ [a]) r
theorem atomsF_eq : ∀ (n : Nat) (az : List Atm) (l : List UInt8), n ≤ 300 → l.length < n → atomsL az l = atomsF n az l
  | 0, _, _, _, h => absurd h (by omega)
  | n + 1, az, [], _, _ => by rw [atomsL_nil]; rfl
  | n + 1, az, x :: t, h0, h => by
    unfold atomsF
    simp only []
    cases ha : atomG (x :: t) with
    | none => rw [atomsL_bad (by simp) ha, ← atomF_eq (by omega), ha]
    | some p =>
      obtain ⟨a, r⟩ := p
      rw [atomsL_step (by simp) ha, ← atomF_eq (by omega), ha]
      have := atomG_len ha
      exact atomsF_eq n _ _ (by omega) (by omega)
def pieceF (l : List UInt8) : Option Pc := if l = [42, 42] then some none else if l = [] then none else (atomsF 300 [] l).map some
def piecesF : List (List UInt8) → Option (List Pc)
  | [] => some []
  | l :: r => match pieceF l with
    | none => none
    | some p => (piecesF r).map (p :: ·)
theorem piecesF_eq : ∀ {ls : List (List UInt8)}, (∀ l ∈ ls, l.length < 300) → piecesG ls = piecesF ls
  | [], _ => rfl
  | l :: r, h => by
    rw [pieces_step]
    have h1 : pieceG l = pieceF l := by unfold pieceG pieceF; rw [atomsF_eq 300 _ _ (Nat.le_refl _) (h l (by simp))]
    rw [h1, piecesF_eq (fun x hx => h x (by simp [hx]))]; rfl
def parseF (l : List UInt8) : Rz (List Pc) := if 255 < l.length then .error 2 else match piecesF (splitG l) with
  | none => .error 60
  | some ps => .ok ps
theorem parseF_eq (l : List UInt8) : parseG l = parseF l := by
  unfold parseG parseF
  split
  · rfl
  · rw [piecesF_eq (fun p hp => by have := mem_split hp; omega)]
    cases piecesF (splitG l) <;> rfl

section
variable {α β : Type}
def matF (star : α → Bool) (takes : α → β → Bool) : Nat → List α → List β → Bool
  | 0, _, _ => true
  | n + 1, l, s => match l, s with
    | [], [] => true
    | [], _ :: _ => false
    | a :: r, [] => star a && matF star takes n r []
    | a :: r, y :: t => if star a then matF star takes n r (y :: t) || matF star takes n (a :: r) t else takes a y && matF star takes n r t
theorem matF_eq (star : α → Bool) (takes takes' : α → β → Bool) : ∀ (n : Nat) (l : List α) (s : List β), l.length + s.length < n → (∀ a ∈ l, ∀ y ∈ s, takes a y = takes' a y) → mat star takes l s = matF star takes' n l s
  | 0, _, _, h, _ => absurd h (by omega)
  | n + 1, [], [], _, _ => by rw [mat_nil]; rfl
  | n + 1, [], _ :: _, _, _ => by rw [mat_nil]; rfl
  | n + 1, a :: r, [], h, ht => by
    rw [mat, matF_eq star takes takes' n r [] (by simp at h ⊢; omega) (fun _ _ y hy => by cases hy)]; rfl
  | n + 1, a :: r, y :: t, h, ht => by
    rw [mat, matF_eq star takes takes' n r (y :: t) (by simp at h ⊢; omega) (fun b hb z hz => ht b (by simp [hb]) z hz), matF_eq star takes takes' n (a :: r) t (by simp at h ⊢; omega) (fun b hb z hz => ht b hb z (by simp [hz])),
      matF_eq star takes takes' n r t (by simp at h ⊢; omega) (fun b hb z hz => ht b (by simp [hb]) z (by simp [hz])), ht a (by simp) y (by simp)]
    rfl
end
def takesF (n : Nat) : Pc → List UInt8 → Bool
  | none, _ => false
  | some az, l => matF Atm.star Atm.takes n az l
def sizeP (ps : List Pc) : Nat := ps.foldr (fun p m => (match p with | none => 0 | some az => az.length) + m) 0
theorem sizeP_mem : ∀ {ps : List Pc} {az : List Atm}, some az ∈ ps → az.length ≤ sizeP ps
  | [], _, h => by cases h
  | p :: r, az, h => by
    rcases List.mem_cons.1 h with h | h
    · subst h; show az.length ≤ az.length + sizeP r; omega
    · have := sizeP_mem h
      show az.length ≤ _ + sizeP r; omega
/-- a match reckoned -/
theorem match_eval (n : Nat) (ps : List Pc) (l : List UInt8) (b : Bool) (h : ps.length + (namesG l).length < n ∧ sizeP ps + l.length < n) (hb : matF Option.isNone (takesF n) n ps (namesG l) = b) : matchM ps l = b := by
  unfold matchM
  rw [matF_eq Option.isNone pcTakes (takesF n) n ps (namesG l) h.1 (fun p hp x hx => ?_), hb]
  cases p with
  | none => rfl
  | some az =>
    have h1 := sizeP_mem hp
    have h2 : x.length ≤ l.length := by
      unfold namesG at hx
      split at hx
      · cases hx
      · exact mem_split hx
    exact matF_eq Atm.star Atm.takes Atm.takes n az x (by omega) (fun _ _ _ _ => rfl)
end Go.Proofs.YtlddnghfjdjglaaDoor
