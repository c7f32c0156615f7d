/- grain, plain: numbers that fit; how much memory a value that was read takes. -/
import Derived.Test.YthpcanibahcghaaGrainVal
import Derived.Test.YthpcanibahcghaaGrainLaws
set_option linter.unusedVariables false
namespace Go.Proofs.Ythpcanibahcghaa
open Go.RowKit

theorem Each.mem {α : Type} {R : List Value → α → Prop} {vs : List Value} {xs : List α} (h : Each R vs xs) : ∀ x ∈ xs, ∃ cs, R cs x := by
  induction h with
  | nil => intro x hx; cases hx
  | cons h1 _ ih =>
    intro x hx
    rcases List.mem_cons.1 hx with rfl | hx
    · exact ⟨_, h1⟩
    · exact ih x hx

theorem valR_fits : ∀ (d : Nat) (v : Val) (w : World) (av : Av) (cs : List Value), valR.R w av cs v → Fits d v := by
  intro d
  induction d with
  | zero => intro v w av cs h; trivial
  | succ d ih =>
    intro v w av cs h
    obtain ⟨k, u, b, f, l⟩ := v
    obtain ⟨A, cA, L, cL, _, _, hu, hf, ⟨h4, h5, _⟩, h7, h8, vs, _, he, _⟩ := valR_iff.1 h
    refine ⟨hu, hf, ?_, ?_, fun x hx => ?_⟩
    · show b.length < 2 ^ 64; simp only [maxLen] at h5; omega
    · show l.length < 2 ^ 64; simp only [maxLen] at h8; omega
    · obtain ⟨cs', hc⟩ := he.mem x hx
      exact ih x w av cs' hc

theorem headL_pos (k n : Nat) : 1 ≤ (headL k n).length := List.length_pos_iff.2 (tailL_ne _ _)

theorem bulk_wrp : ∀ (d : Nat) (v : Val) (e : List UInt8), wrp d v = .ok e → bulkV (norm d v) ≤ e.length := by
  intro d
  induction d with
  | zero => intro v e h; cases h
  | succ d ih =>
    have hl : ∀ (l : List Val) (e : List UInt8), wrpL (wrp d) l = .ok e → bulkVs (l.map (norm d)) ≤ e.length := by
      intro l
      induction l with
      | nil => intro e h; simp [bulkVs]
      | cons v r ihl =>
        intro e h
        rw [wrpL] at h
        split at h
        · rename_i e1 h1
          split at h
          · rename_i e2 h2
            injection h with h
            subst h
            have a := ih v e1 h1
            have b := ihl e2 h2
            rw [List.map_cons, bulkVs, List.length_append]
            omega
          · cases h
        · cases h
    intro v e h
    unfold wrp at h
    unfold norm
    split at h
    · rename_i hk
      injection h with h
      subst h
      rw [if_pos hk]
      have := headL_pos 0 v.num
      simp [bulkV, bulkVs]; omega
    rename_i hk0
    rw [if_neg hk0]
    split at h
    · rename_i hk
      injection h with h
      subst h
      rw [if_pos hk]
      have := headL_pos 1 v.bytes.length
      simp [bulkV, bulkVs]; omega
    rename_i hk1
    rw [if_neg hk1]
    split at h
    · rename_i hk
      injection h with h
      subst h
      rw [if_pos hk]
      have := headL_pos 2 0
      simp [bulkV, bulkVs]; omega
    rename_i hk2
    rw [if_neg hk2]
    split at h
    · split at h
      · rename_i e1 h1
        injection h with h
        subst h
        have := hl _ _ h1
        have := headL_pos 3 v.list.length
        simp [bulkV]; omega
      · cases h
    · cases h

/-- what was read is small -/
theorem bulk_dec {l : List UInt8} {v : Val} (h : dec l = .ok v) : bulkV v ≤ 1048576 ∧ enc v = .ok l := by
  obtain ⟨h1, h2, _, h4⟩ := dec_back h
  obtain ⟨h5, _⟩ := (enc_iff v l).1 h1
  have := bulk_wrp 16 v l h5
  rw [h2] at this
  exact ⟨by omega, h1⟩
/-- what was written is read as what of it counts, and that is written alike -/
theorem dec_norm {v : Val} {o : List UInt8} {w : World} {av : Av} {cs : List Value} (hv : valR.R w av cs v) (h : enc v = .ok o) : dec o = .ok (norm 16 v) ∧ bulkV (norm 16 v) ≤ 1048576 ∧ enc (norm 16 v) = .ok o ∧ (norm 16 v).kind = v.kind := by
  have hd := dec_enc (valR_fits 16 v w av cs hv) h
  obtain ⟨h1, h2⟩ := bulk_dec hd
  obtain ⟨h5, _⟩ := (enc_iff v o).1 h
  exact ⟨hd, h1, h2, norm_kind h5⟩
end Go.Proofs.Ythpcanibahcghaa
