/- What package gear computes, in plain words: a byte's number, a chunk's hash, the chunk with which bytes begin, and all chunks' lengths. -/
import Derived.Test.YtknbbekinpamjaaBytesV
namespace Go.Proofs.Ytknbbekinpamjaa
open Go.RowKit

def mixI (s c z : Int) : Int := IntKind.u64.wrap (bits BinOp.xor IntKind.u64 z (z / s) * c)
def gearI (x : Int) : Int :=
  let z := mixI 134217728 10723151780598845931 (mixI 1073741824 13787848793156543929 (IntKind.u64.wrap ((x + 1) * 11400714819323198485)))
  bits BinOp.xor IntKind.u64 z (z / 2147483648)
def hashI (h : Int) (x : UInt8) : Int := IntKind.u64.wrap (IntKind.u64.wrap (h * 2) + gearI x.toNat)
def endsB (bits h : Int) : Bool := h / 2 ^ (64 - bits).toNat == 0
def stopB (mn mx bits h n : Int) : Bool := n == mx || (decide (mn ≤ n) && (bits == 0 || endsB bits h))

/-- The length of the chunk with which bytes begin, where k bytes with the hash h have gone by. -/
def nextL (mn mx bits : Int) : Int → Nat → List UInt8 → Nat
  | _, k, [] => k
  | h, k, x :: r => if stopB mn mx bits (hashI h x) ((k + 1 : Nat) : Int) then k + 1 else nextL mn mx bits (hashI h x) (k + 1) r

theorem nextL_ge (mn mx bits : Int) (l : List UInt8) : ∀ h k, k ≤ nextL mn mx bits h k l := by
  induction l with
  | nil => intro h k; exact Nat.le_refl _
  | cons x r ih =>
    intro h k
    unfold nextL
    split
    · omega
    · have := ih (hashI h x) (k + 1); omega

theorem nextL_le (mn mx bits : Int) (l : List UInt8) : ∀ h k, nextL mn mx bits h k l ≤ k + l.length := by
  induction l with
  | nil => intro h k; exact Nat.le_refl _
  | cons x r ih =>
    intro h k
    unfold nextL
    simp only [List.length_cons]
    split
    · omega
    · have := ih (hashI h x) (k + 1); omega

theorem nextL_pos (mn mx bits : Int) (l : List UInt8) (h : Int) (hl : l ≠ []) : 0 < nextL mn mx bits h 0 l := by
  cases l with
  | nil => exact absurd rfl hl
  | cons x r =>
    unfold nextL
    split
    · omega
    · have := nextL_ge mn mx bits r (hashI h x) (0 + 1); omega

theorem next_stop {mn mx bits h : Int} {k R : Nat} {x : UInt8} {l r : List UInt8} (hd : l = x :: r) (H : nextL mn mx bits h k l = R)
    (hs : stopB mn mx bits (hashI h x) ((k : Int) + 1) = true) : (R : Int) = (k : Int) + 1 := by
  subst hd
  unfold nextL at H
  rw [show ((k + 1 : Nat) : Int) = (k : Int) + 1 by omega, if_pos hs] at H
  omega
theorem next_go {mn mx bits h : Int} {k R : Nat} {x : UInt8} {l r : List UInt8} (hd : l = x :: r) (H : nextL mn mx bits h k l = R)
    (hs : stopB mn mx bits (hashI h x) ((k : Int) + 1) = false) : nextL mn mx bits (hashI h x) (k + 1) r = R := by
  subst hd
  unfold nextL at H
  rw [show ((k + 1 : Nat) : Int) = (k : Int) + 1 by omega, if_neg (by simp [hs])] at H
  exact H

theorem next_end {mn mx bits h : Int} {k n R : Nat} {l : List UInt8} (H : nextL mn mx bits h k (l.drop k) = R) (hl : l.length = n) (hk : k = n) : n = R := by
  rw [List.drop_eq_nil_of_le (by omega)] at H
  unfold nextL at H
  omega

/-- All chunks' lengths; the first number is fuel, at least as great as the bytes are many. -/
def cutF (mn mx bits : Int) : Nat → List UInt8 → List Nat
  | 0, _ => []
  | f + 1, b => if b = [] then [] else nextL mn mx bits 0 0 b :: cutF mn mx bits f (b.drop (nextL mn mx bits 0 0 b))

theorem cutF_more (mn mx bits : Int) : ∀ (f g : Nat) (b : List UInt8), b.length ≤ f → f ≤ g → cutF mn mx bits f b = cutF mn mx bits g b := by
  intro f
  induction f with
  | zero =>
    intro g b hb _
    have : b = [] := List.eq_nil_of_length_eq_zero (by omega)
    subst this
    cases g <;> simp [cutF]
  | succ f ih =>
    intro g b hb hg
    obtain ⟨g, rfl⟩ : ∃ g', g = g' + 1 := ⟨g - 1, by omega⟩
    unfold cutF
    by_cases hb0 : b = []
    · simp [hb0]
    · rw [if_neg hb0, if_neg hb0]
      have := nextL_pos mn mx bits b 0 hb0
      rw [ih g _ (by rw [List.length_drop]; omega) (by omega)]

/-- All chunks' lengths. -/
def cutL (mn mx bits : Int) (b : List UInt8) : List Nat := cutF mn mx bits b.length b

theorem cutL_nil (mn mx bits : Int) : cutL mn mx bits [] = [] := rfl

theorem cutL_cons (mn mx bits : Int) {b : List UInt8} (hb : b ≠ []) :
    cutL mn mx bits b = nextL mn mx bits 0 0 b :: cutL mn mx bits (b.drop (nextL mn mx bits 0 0 b)) := by
  unfold cutL
  have hl : 0 < b.length := List.length_pos_iff.2 hb
  obtain ⟨f, hf⟩ : ∃ f, b.length = f + 1 := ⟨b.length - 1, by omega⟩
  rw [hf]
  conv => lhs; unfold cutF
  rw [if_neg hb]
  have := nextL_pos mn mx bits b 0 hb
  rw [cutF_more mn mx bits (b.drop (nextL mn mx bits 0 0 b)).length f _ (Nat.le_refl _) (by rw [List.length_drop]; omega)]

theorem cutL_length (mn mx bits : Int) : ∀ (n : Nat) (b : List UInt8), b.length ≤ n → (cutL mn mx bits b).length ≤ b.length := by
  intro n
  induction n with
  | zero =>
    intro b hb
    have : b = [] := List.eq_nil_of_length_eq_zero (by omega)
    subst this
    simp [cutL_nil]
  | succ n ih =>
    intro b hb
    by_cases hb0 : b = []
    · subst hb0; simp [cutL_nil]
    · rw [cutL_cons _ _ _ hb0]
      have h1 := nextL_pos mn mx bits b 0 hb0
      have h2 := ih (b.drop (nextL mn mx bits 0 0 b)) (by rw [List.length_drop]; omega)
      have h3 := List.length_pos_iff.2 hb0
      rw [List.length_drop] at h2
      simp only [List.length_cons]
      omega

/-- bytes, as cells -/
def wrongB (mn mx b : Int) : Bool := decide (mn < 1) || decide (mx < mn) || decide (1048576 < mx) || decide (b < 0) || decide (20 < b)
theorem wrongB_false {mn mx b : Int} (h : wrongB mn mx b = false) : 1 ≤ mn ∧ mn ≤ mx ∧ mx ≤ 1048576 ∧ 0 ≤ b ∧ b ≤ 20 := by
  simp [wrongB] at h; omega
theorem wrongB_true {mn mx b : Int} (h : wrongB mn mx b = true) : mn < 1 ∨ mx < mn ∨ 1048576 < mx ∨ b < 0 ∨ 20 < b := by
  simp [wrongB] at h; omega

/-- What Cut leaves where the measures are right: all lengths in new memory. -/
def CutPost (E : TypeId) (W : World) (r : List Nat) (e : Ending) (w' : World) : Prop :=
  ∃ A c, e = .returned (.tuple #[.slice A r.length c, .int .i64 0]) ∧ w'.ownsRow W.heap.size E 1 (.slice A r.length c) r.length (natsV r) ∧ r.length ≤ c ∧ c ≤ maxLen ∧ Below W.heap.size W w'
end Go.Proofs.Ytknbbekinpamjaa
