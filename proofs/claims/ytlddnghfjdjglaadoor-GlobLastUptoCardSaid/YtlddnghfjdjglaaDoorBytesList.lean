/- Lists of byte slices in memory. -/
import Derived.Test.YtlddnghfjdjglaaDoorBytesV
import Derived.Laws.IdiomStrings
import Derived.Laws.AppendOwn
set_option linter.unusedVariables false
namespace Go.Proofs.YtlddnghfjdjglaaDoor
open Go.RowKit

/-- a slice of bytes that reads as l -/
def SlB (w : World) (v : Value) (l : List UInt8) : Prop := ∃ A c, v = .slice A l.length c ∧ Sl w 1 A l.length (bytesV l) ∧ l.length ≤ c ∧ c ≤ maxLen
/-- values that read as byte lists, one by one -/
def AllB (w : World) (vs : List Value) (ls : List (List UInt8)) : Prop := vs.length = ls.length ∧ ∀ (i : Nat) (v : Value) (l : List UInt8), vs[i]? = some v → ls[i]? = some l → SlB w v l

theorem SlB.below {w w' : World} {v : Value} {l : List UInt8} (h : SlB w v l) (hb : Below w.heap.size w w') : SlB w' v l := by
  obtain ⟨A, c, e, h1, h2⟩ := h
  exact ⟨A, c, e, h1.below hb, h2⟩
theorem AllB.below {w w' : World} {vs : List Value} {ls : List (List UInt8)} (h : AllB w vs ls) (hb : Below w.heap.size w w') : AllB w' vs ls :=
  ⟨h.1, fun i v l hv hl => (h.2 i v l hv hl).below hb⟩
theorem AllB.nil (w : World) : AllB w [] [] := ⟨rfl, fun i v l hv _ => by simp at hv⟩
theorem AllB.snoc {w : World} {vs : List Value} {ls : List (List UInt8)} {v : Value} {l : List UInt8} (h : AllB w vs ls) (hv : SlB w v l) : AllB w (vs ++ [v]) (ls ++ [l]) := by
  refine ⟨by simp [h.1], fun i u k hu hk => ?_⟩
  rcases Nat.lt_or_ge i vs.length with hi | hi
  · rw [List.getElem?_append_left hi] at hu
    rw [List.getElem?_append_left (by rw [← h.1]; exact hi)] at hk
    exact h.2 i u k hu hk
  · rw [List.getElem?_append_right hi] at hu
    rw [List.getElem?_append_right (by rw [← h.1]; exact hi), ← h.1] at hk
    rcases Nat.eq_zero_or_pos (i - vs.length) with h0 | h0
    · rw [h0] at hu hk
      simp at hu hk
      subst hu hk
      exact hv
    · rw [List.getElem?_eq_none (by simp; omega)] at hu
      cases hu

theorem SlB.of {w : World} {A : Option Addr} {n c : Nat} {l : List UInt8} (h : Sl w 1 A n (bytesV l)) (hc : n ≤ c) (hm : c ≤ maxLen) : SlB w (.slice A n c) l := by
  have hl : l.length = n := by have := h.1; simpa [bytesV] using this
  subst hl
  exact ⟨A, c, rfl, h, hc, hm⟩
theorem AllB.two {w : World} {u v : Value} {k l : List UInt8} (hu : SlB w u k) (hv : SlB w v l) : AllB w [u, v] [k, l] := (AllB.nil w |>.snoc hu).snoc hv

theorem AllB.look {w : World} {A : Option Addr} {n k : Nat} {vs : List Value} {ls : List (List UInt8)} (hs : Sl w 1 A n vs) (h : AllB w vs ls) (hk : k < n) :
    ∃ (b off : Nat) (A' : Option Addr) (c' : Nat) (l : List UInt8), A = some ⟨b, off, none⟩ ∧ b < w.heap.size ∧ w.cell? ⟨b, off + k, none⟩ = some (.slice A' l.length c') ∧ ls[k]? = some l ∧ Sl w 1 A' l.length (bytesV l) ∧ l.length ≤ c' ∧ c' ≤ maxLen := by
  obtain ⟨b, off, u, e, hb, hu, hc⟩ := hs.look hk
  have hkl : k < ls.length := by rw [← h.1, hs.1]; omega
  obtain ⟨A', c', rfl, h1, h2, h3⟩ := h.2 k u ls[k] hu (List.getElem?_eq_getElem hkl)
  exact ⟨b, off, A', c', ls[k], e, hb, hc, List.getElem?_eq_getElem hkl, h1, h2, h3⟩

theorem flat_take_succ {ls : List (List UInt8)} {k : Nat} {l : List UInt8} (h : ls[k]? = some l) : (ls.take (k + 1)).flatten = (ls.take k).flatten ++ l := by
  rw [List.take_add_one, h, List.flatten_append]
  simp
theorem flat_take_le (ls : List (List UInt8)) (k : Nat) : (ls.take k).flatten.length ≤ ls.flatten.length := by
  have h := congrArg (fun x => (List.flatten x).length) (List.take_append_drop k ls)
  simp only [List.flatten_append, List.length_append] at h
  omega

/-- 'string(b)' behind a name, so that a walk through a region that draws its order does not open it -/
noncomputable def cvt (w : World) (A : Option Addr) (n c : Nat) : Result Value := (convert 40 9 (.slice A n c)).run Tryd.prog w
theorem cvt_eq (w : World) (A : Option Addr) (n c : Nat) : (convert 40 9 (.slice A n c)).run Tryd.prog w = cvt w A n c := rfl
theorem cvt_of {w : World} {A : Option Addr} {n : Nat} {l : List UInt8} (h : Sl w 1 A n (bytesV l)) (c : Nat) : cvt w A n c = .ok (.string ⟨l.toArray⟩) w :=
  Sl.toStr h c Tryd.underlying40 Tryd.underlying5 Tryd.underlying9

/-- '[]byte(s)': new memory that reads as the string's bytes. -/
theorem toBytes (w : World) (s : ByteArray) (hs : s.size ≤ maxLen) : ∃ A c w', (convert 9 40 (.string s)).run Tryd.prog w = .ok (.slice A s.size c) w' ∧ Sl w' 1 A s.size (bytesV s.data.toList) ∧ s.size ≤ c ∧ c ≤ maxLen ∧ Below w.heap.size w w' ∧ (∃ b, A = some ⟨b, 0, none⟩ ∧ w.heap.size ≤ b) := by
  have hr := run_bytes_of_string (P := Tryd.prog) w 9 40 5 s Tryd.underlying9 Tryd.underlying40 Tryd.underlying5
  refine ⟨_, _, _, hr, ⟨?_, fun h0 => ⟨w.heap.size, 0, rfl, by simp, fun j u hu => ?_⟩⟩, grownCap_ge _ _ _ _, grownCap_le_maxLen _ _ _ _ hs, ((Below.refl _ _).drew).alloc (Nat.le_refl _) _, ⟨_, rfl, Nat.le_refl _⟩⟩
  · rw [bytesV_length, Nat.mul_one]; exact Array.length_toList
  · have hj := (List.getElem?_eq_some_iff.1 hu).1
    rw [bytesV_length] at hj
    have hl : s.data.toList.length = s.data.size := Array.length_toList
    rw [Nat.zero_add]
    have := cell_of_row (w.drew.alloc (.cells (bytesRow s (grownCap w s.size 0 5)) 5 ((bytesRow s (grownCap w s.size 0 5)).size, (bytesRow s (grownCap w s.size 0 5)).size + 1))) w.heap.size j _ 5 _ (heap_alloc_new w.drew _)
    rw [this, ← hu]
    unfold bytesRow bytesV
    rw [Array.getElem?_append_left (by rw [Array.size_map]; omega)]
    simp
/-- the same behind a name -/
noncomputable def cvs (w : World) (s : ByteArray) : Result Value := (convert 9 40 (.string s)).run Tryd.prog w
theorem cvs_eq (w : World) (s : ByteArray) : (convert 9 40 (.string s)).run Tryd.prog w = cvs w s := rfl

/-- What a call leaves that hands back bytes in new memory. -/
def BytesPost (E : TypeId) (W : World) (r : List UInt8) (e : Ending) (w' : World) : Prop :=
  ∃ A c, e = .returned (.slice A r.length c) ∧ w'.ownsRow W.heap.size E 1 (.slice A r.length c) r.length (bytesV r) ∧ Below W.heap.size W w'
end Go.Proofs.YtlddnghfjdjglaaDoor
