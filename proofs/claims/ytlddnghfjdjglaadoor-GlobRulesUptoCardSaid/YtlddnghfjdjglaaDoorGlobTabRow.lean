/- rows of towlineref06.Atom. -/
import Derived.Test.YtlddnghfjdjglaaDoorGlobRefSet
import Derived.Test.YtlddnghfjdjglaaDoorRowR
set_option linter.unusedVariables false
set_option linter.unusedSimpArgs false
namespace Go.Proofs.YtlddnghfjdjglaaDoor
open Go.RowKit

theorem fillT_get : ∀ (K : List Value) (n off : Nat) (cells : Array Value) (i : Nat), off + n + K.length ≤ cells.size → ((K.zipIdx n).foldl (fun cs (p : Value × Nat) => cs.setIfInBounds (off + p.2) p.1) cells)[i]? = if off + n ≤ i ∧ i < off + n + K.length then K[i - (off + n)]? else cells[i]?
  | [], n, off, cells, i, h => by
    have : ¬ (off + n ≤ i ∧ i < off + n + ([] : List Value).length) := by simp only [List.length_nil]; omega
    rw [if_neg this]
    rfl
  | x :: K, n, off, cells, i, h => by
    rw [List.zipIdx_cons, List.foldl_cons, fillT_get K (n + 1) off _ i (by simp at h ⊢; omega)]
    simp at h
    by_cases h1 : off + (n + 1) ≤ i ∧ i < off + (n + 1) + K.length
    · rw [if_pos h1, if_pos (by simp only [List.length_cons]; omega)]
      have : i - (off + n) = (i - (off + (n + 1))) + 1 := by omega
      rw [this, List.getElem?_cons_succ]
    · rw [if_neg h1]
      by_cases h2 : i = off + n
      · subst h2
        rw [if_pos (by simp only [List.length_cons]; omega), Array.getElem?_setIfInBounds_self_of_lt (by omega)]
        try simp
      · rw [if_neg (by simp only [List.length_cons]; omega), Array.getElem?_setIfInBounds_ne (by omega)]
theorem fillT_all (K cells : Array Value) (h : K.size = cells.size) : (K.zipIdx.foldl (fun cs (p : Value × Nat) => cs.setIfInBounds (0 + p.2) p.1) cells) = K := by
  have h1 : K.zipIdx.foldl (fun cs (p : Value × Nat) => cs.setIfInBounds (0 + p.2) p.1) cells = (K.toList.zipIdx 0).foldl (fun cs (p : Value × Nat) => cs.setIfInBounds (0 + p.2) p.1) cells := by
    rw [← Array.foldl_toList, Array.toList_zipIdx]
  rw [h1]
  apply Array.ext_getElem?
  intro i
  rw [fillT_get K.toList 0 0 cells i (by simp; omega)]
  by_cases hi : i < K.size
  · rw [if_pos (by simp only [Array.length_toList]; omega)]; simp
  · rw [if_neg (by simp only [Array.length_toList]; omega)]
    rw [Array.getElem?_eq_none (by omega), Array.getElem?_eq_none (by omega)]


theorem tab_sizeOf (w : World) : (sizeOf 80).run Tryd.prog w = .ok 257 w := by
  have h := tab_info false (fun _ => false)
  rw [celN_size] at h
  cases hq : Tryd.prog.info? 80 with
  | none => rw [hq] at h; simp at h
  | some i =>
    rw [hq] at h
    have h1 : i.size = 257 := by simpa using h
    simp [sizeOf, typeInfo, hq, h1]
theorem tab_zero (w : World) : (zeroValue 80).run Tryd.prog w = .ok (.agg zTab) w := by kernel_rfl
theorem bsTab_of (w : World) (K : Array Value) (hK : K.size = 257) : (Instr.buildSlice 56 1 #[(0, .agg K)]).run Tryd.prog w = .ok (.slice (some ⟨w.heap.size, 0, none⟩) 1 1) (w.alloc (.cells K 80)) := by
  unfold Instr.buildSlice
  have hf : ∀ cells : Array Value, cells.size = 257 → Instr.fill (fun i => some (i * 257, 257)) cells [(0, .agg K)] = some K := by
    intro cells hc
    have hK2 : (Value.agg K).cells = K := rfl
    have h := fillT_all K cells (by omega)
    unfold Instr.fill
    simp only [hK2]
    have hc1 : (decide (K.size ≠ 257) || decide (0 * 257 + K.size > cells.size)) = false := by simp [hK, hc]
    simp only [Nat.zero_mul] at hc1 ⊢
    rw [if_neg (by rw [hc1]; decide)]
    unfold Instr.fill
    rw [h]
  simp [run_underlying Tryd.underlying56, Sem.run_bind, tab_sizeOf, tab_zero, Value.cells]
  rw [hf _ (by simp)]
  simp [newRow, Sem.run_bind]
theorem wpList_bs1 {P : Program} {ops : Array Oper} {rest : List Oper} {o : Oper} {a : Act} {w w' : World} {Q : Exit → Act → World → Prop} (hgd : o.guard = none) (x : Operand) {t : TypeId} (ho : o.op = .buildSlice t 1 #[(0, x)]) (y v' : Value) (hx : a.eval x = y)
    (hrun : (Instr.buildSlice t 1 #[(0, y)]).run P w = .ok v' w') (h : wpList P ops Q rest (a.put o.dst v') w') : wpList P ops Q (o :: rest) a w := by
  refine wpList_plain hgd fun _ hK => ?_
  unfold Oper.wp execOp
  simp only [ho, List.map_toArray, List.map_cons, List.map_nil, hx, Sem.run_bind, hrun, Result.andThen_ok, Sem.run_pure]
  exact hK _ _ h
/-- a sign as the reference keeps it -/
def ratmR : Rd Atm where
  k := 257
  R := fun _ _ cs a => cs = (celN a.star (tabA a)).toList
  len := fun h => by subst h; simp [celN_size]
  one := fun h u hu => by
    subst h
    exact (Array.all_eq_true_iff_forall_mem.1 (celN_one _ _)) u (by simpa using hu)
  stable := fun h _ => h
theorem zTab_one : (Value.agg zTab).cells.size = 257 := celN_size _ _
theorem elemTab : ElemOf Tryd.prog 56 80 (.agg zTab) 257 257 := ⟨Tryd.underlying56, by kernel_rfl, zTab_one, by decide⟩
theorem tabA_star : celN starA.star (tabA starA) = celN true (fun _ => false) := celN_congr fun c _ => rfl
theorem tabA_one : celN oneA.star (tabA oneA) = celN false (fun _ => true) := celN_congr fun c _ => rfl
theorem tabA_lit (x : UInt8) : celN (litA x).star (tabA (litA x)) = celN false (fun c => if c = x.toNat then true else false) := celN_congr fun c hc => by
  have h1 : (UInt8.ofNat c).toNat = c := by rw [UInt8.toNat_ofNat']; exact Nat.mod_eq_of_lt hc
  have h2 : (litA x).takes (UInt8.ofNat c) = (decide (x ≤ UInt8.ofNat c) && decide (UInt8.ofNat c ≤ x)) := by
    simp only [Atm.takes, litA, inRs, List.any_cons, List.any_nil, Bool.or_false]
    cases decide (x ≤ UInt8.ofNat c) && decide (UInt8.ofNat c ≤ x) <;> rfl
  unfold tabA
  rw [h2]
  have e1 : (x ≤ UInt8.ofNat c) = (x.toNat ≤ c) := by rw [UInt8.le_iff_toNat_le, h1]
  have e2 : (UInt8.ofNat c ≤ x) = (c ≤ x.toNat) := by rw [UInt8.le_iff_toNat_le, h1]
  simp only [e1, e2]
  by_cases h : c = x.toNat
  · rw [if_pos h]; simp [h]
  · rw [if_neg h]
    by_cases h3 : x.toNat ≤ c
    · have : ¬ c ≤ x.toNat := by omega
      simp [this]
    · simp [h3]
end Go.Proofs.YtlddnghfjdjglaaDoor
