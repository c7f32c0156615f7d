/- api.Value in memory: how it reads, and how one is opened that came in. -/
import Derived.Test.YthpcanibahcghaaOpenB
import Derived.Test.YthpcanibahcghaaGrainPlain
import Derived.Test.YthpcanibahcghaaAgg
set_option linter.unusedVariables false
namespace Go.Proofs.Ythpcanibahcghaa
open Go.ChangeShapes Go.WideShapes Go.ChangeAt Go.RowKit Go.Deep

theorem Val.ind {p : Val → Prop} (h : ∀ k u b f l, (∀ x ∈ l, p x) → p (.mk k u b f l)) (v : Val) : p v :=
  match v with
  | .mk k u b f l => h k u b f l (fun x hx => Val.ind h x)
termination_by SizeOf.sizeOf v
decreasing_by
  have := List.sizeOf_lt_of_mem hx
  simp only [Val.mk.sizeOf_spec]
  omega

/-- the reading, so deep -/
def valRR : Nat → World → Av → List Value → Val → Prop
  | 0, _, _, _, _ => False
  | d + 1, w, av, cs, .mk k u b f l => ∃ A cA L cL, cs = [.int .i64 k, .int .u64 (u : Int), .slice A b.length cA, .float .f64 f, .slice L l.length cL] ∧ (Lit.int .i64 k).wf = true ∧ u < 2 ^ 64 ∧ f < 2 ^ 64 ∧
      (b.length ≤ cA ∧ cA ≤ maxLen ∧ SlOf byteR w av A b) ∧ l.length ≤ cL ∧ cL ≤ maxLen ∧
      ∃ vs, Sl w 5 L l.length vs ∧ Each (valRR d w av) vs l ∧ (0 < l.length → ∀ b off, L = some ⟨b, off, none⟩ → ¬ av b)

theorem valRR_len {d : Nat} {w : World} {av : Av} {cs : List Value} {v : Val} (h : valRR d w av cs v) : cs.length = 5 := by
  cases d with
  | zero => exact absurd h id
  | succ d => cases v; obtain ⟨A, cA, L, cL, rfl, _⟩ := h; rfl
theorem valRR_one {d : Nat} {w : World} {av : Av} {cs : List Value} {v : Val} (h : valRR d w av cs v) : ∀ u ∈ cs, u.oneCell' = true := by
  cases d with
  | zero => exact absurd h id
  | succ d =>
    cases v; obtain ⟨A, cA, L, cL, rfl, _⟩ := h
    intro u hu
    simp at hu
    rcases hu with rfl | rfl | rfl | rfl | rfl <;> rfl
theorem valRR_stable : ∀ (d : Nat) {w w' : World} {av av' : Av} {cs : List Value} {v : Val}, valRR d w av cs v → Moves w w' av av' → valRR d w' av' cs v
  | 0, _, _, _, _, _, _, h, _ => h
  | d + 1, w, w', av, av', cs, .mk k u b f l, h, m => by
    obtain ⟨A, cA, L, cL, rfl, h1, h2, h3, ⟨h4, h5, h6⟩, h7, h8, h9⟩ := h
    have r : SlOf ⟨5, valRR d, valRR_len, valRR_one, fun h m => valRR_stable d h m⟩ w av L l := h9
    exact ⟨A, cA, L, cL, rfl, h1, h2, h3, ⟨h4, h5, h6.stable m⟩, h7, h8, r.stable m⟩
theorem valRR_mono : ∀ (d : Nat) {w : World} {av : Av} {cs : List Value} {v : Val}, valRR d w av cs v → valRR (d + 1) w av cs v
  | 0, _, _, _, _, h => absurd h id
  | d + 1, w, av, cs, .mk k u b f l, h => by
    obtain ⟨A, cA, L, cL, rfl, h1, h2, h3, h4, h7, h8, vs, h9, h10, h11⟩ := h
    exact ⟨A, cA, L, cL, rfl, h1, h2, h3, h4, h7, h8, vs, h9, h10.mono fun _ _ h => valRR_mono d h, h11⟩
theorem valRR_le {d e : Nat} (hde : d ≤ e) {w : World} {av : Av} {cs : List Value} {v : Val} (h : valRR d w av cs v) : valRR e w av cs v := by
  induction hde with
  | refl => exact h
  | step _ ih => exact valRR_mono _ ih

/-- a value -/
def valR : Rd Val where
  k := 5
  R := fun w av cs v => ∃ d, valRR d w av cs v
  len := fun ⟨_, h⟩ => valRR_len h
  one := fun ⟨_, h⟩ => valRR_one h
  stable := fun ⟨d, h⟩ m => ⟨d, valRR_stable d h m⟩

theorem each_depth {w : World} {av : Av} {vs : List Value} {l : List Val} (h : Each (valR.R w av) vs l) : ∃ d, Each (valRR d w av) vs l := by
  induction h with
  | nil => exact ⟨0, .nil⟩
  | cons h1 _ ih =>
    obtain ⟨d1, h1⟩ := h1
    obtain ⟨d2, h2⟩ := ih
    exact ⟨max d1 d2, .cons (valRR_le (Nat.le_max_left _ _) h1) (h2.mono fun _ _ h => valRR_le (Nat.le_max_right _ _) h)⟩

theorem valR_iff {w : World} {av : Av} {cs : List Value} {k : Int} {u : Nat} {b : List UInt8} {f : Nat} {l : List Val} : valR.R w av cs (.mk k u b f l) ↔
    ∃ A cA L cL, cs = [.int .i64 k, .int .u64 (u : Int), .slice A b.length cA, .float .f64 f, .slice L l.length cL] ∧ (Lit.int .i64 k).wf = true ∧ u < 2 ^ 64 ∧ f < 2 ^ 64 ∧
      (b.length ≤ cA ∧ cA ≤ maxLen ∧ SlOf byteR w av A b) ∧ l.length ≤ cL ∧ cL ≤ maxLen ∧ SlOf valR w av L l := by
  constructor
  · rintro ⟨d, h⟩
    cases d with
    | zero => exact absurd h id
    | succ d =>
      obtain ⟨A, cA, L, cL, rfl, h1, h2, h3, h4, h7, h8, vs, h9, h10, h11⟩ := h
      exact ⟨A, cA, L, cL, rfl, h1, h2, h3, h4, h7, h8, vs, h9, h10.mono fun _ _ h => ⟨d, h⟩, h11⟩
  · rintro ⟨A, cA, L, cL, rfl, h1, h2, h3, h4, h7, h8, vs, h9, h10, h11⟩
    obtain ⟨d, h10⟩ := each_depth h10
    exact ⟨d + 1, A, cA, L, cL, rfl, h1, h2, h3, h4, h7, h8, vs, h9, h10, h11⟩

/-! ### bulk -/
mutual
def bulkV : Val → Nat
  | .mk _ _ b _ l => b.length + bulkVs l + 1
def bulkVs : List Val → Nat
  | [] => 0
  | v :: r => bulkV v + bulkVs r
end
theorem bulkVs_eq : ∀ l, bulkVs l = bulkL bulkV l
  | [] => by simp [bulkVs, bulkL]
  | v :: r => by simp [bulkVs, bulkL, bulkVs_eq r]
theorem bulkVs_mem : ∀ {l : List Val} {x : Val}, x ∈ l → bulkV x ≤ bulkVs l
  | [], x, h => by cases h
  | v :: r, x, h => by
    rw [bulkVs]
    rcases List.mem_cons.1 h with rfl | h
    · omega
    · have := bulkVs_mem h; omega
theorem bulkVs_len : ∀ (l : List Val), l.length ≤ bulkVs l
  | [] => by simp
  | v :: r => by
    have := bulkVs_len r
    have hv : 1 ≤ bulkV v := by cases v; simp only [bulkV]; omega
    rw [bulkVs, List.length_cons]; omega

/-! ### opening -/
def u64R : Rd Nat where
  k := 1
  R := fun _ _ cs n => cs = [.int .u64 (n : Int)] ∧ n < 2 ^ 64
  len := fun h => by obtain ⟨rfl, _⟩ := h; rfl
  one := fun h u hu => by obtain ⟨rfl, _⟩ := h; simp at hu; subst hu; rfl
  stable := fun h _ => h
def fltR : Rd Nat where
  k := 1
  R := fun _ _ cs n => cs = [.float .f64 n] ∧ n < 2 ^ 64
  len := fun h => by obtain ⟨rfl, _⟩ := h; rfl
  one := fun h u hu => by obtain ⟨rfl, _⟩ := h; simp at hu; subst hu; rfl
  stable := fun h _ => h

section
variable {P : Program} {t : TypeId}
theorem opens_u64 (ht : P.underlying t = some (.int .u64)) (hk : P.cellsOf t = 1) : Opens P t u64R (fun _ => 1) := by
  refine ⟨hk.symm, fun enc W spare held fuel cs y h => ?_⟩
  obtain ⟨z, rfl, rfl, hw⟩ := DataW.trod_int ht h
  have hz : 0 ≤ z ∧ z < 18446744073709551616 := by
    simp [Lit.wf] at hw
    have e1 : IntKind.u64.min = 0 := rfl
    have e2 : IntKind.u64.max = 18446744073709551615 := rfl
    omega
  exact ⟨z.toNat, ⟨by rw [Int.toNat_of_nonneg hz.1], by omega⟩, bulk_one _⟩
theorem opens_flt (ht : P.underlying t = some (.float .f64)) (hk : P.cellsOf t = 1) : Opens P t fltR (fun _ => 1) := by
  refine ⟨hk.symm, fun enc W spare held fuel cs y h => ?_⟩
  cases fuel with
  | zero => simp [DataW.trod] at h
  | succ n =>
    unfold DataW.trod at h
    rw [ht] at h
    split at h
    all_goals first
      | (cases h; done)
      | (simp_all; done)
      | skip
    rename_i k1 k2 b e
    injection e with e
    injection e with e
    subst e
    split at h
    · rename_i hc
      obtain ⟨rfl, hw⟩ := hc
      injection h with h
      subst h
      exact ⟨b, ⟨rfl, by simpa [Lit.wf] using hw⟩, bulk_one _⟩
    · cases h
end

theorem opens_val : Opens Try.prog 27 valR bulkV := by
  have hk5 : valR.k = Try.prog.cellsOf 27 := by rfl
  refine Opens.ofB fun F => ?_
  induction F using Nat.strongRecOn with
  | _ F ih =>
    cases F with
    | zero => exact OpensB.zero hk5
    | succ F =>
      have hb : OpensB F Try.prog 23 (slR byteR) (fun l => bulkL (fun _ => 1) l + 1) := OpensB.of (opens_slice Try.underlying23 rfl (by decide) (opens_byte Try.underlying5 rfl))
      have hl : OpensB F Try.prog 25 (slR valR) (fun l => bulkL bulkV l + 1) := by
        cases F with
        | zero => exact OpensB.zero rfl
        | succ F => exact opensB_slice Try.underlying25 rfl (by decide) (ih F (by omega))
      have hs := opensB_struct (t := 27) (r := prodR (intR .i64) (prodR u64R (prodR (slR byteR) (prodR fltR (slR valR))))) Try.underlying27 rfl
        (opensFsB_cons (OpensB.of (opens_int Try.underlying3 rfl)) (opensFsB_cons (OpensB.of (opens_u64 Try.underlying22 rfl)) (opensFsB_cons hb (opensFsB_cons (OpensB.of (opens_flt Try.underlying24 rfl)) (opensFsB_one hl) rfl rfl) rfl rfl) rfl rfl) rfl rfl)
      refine ⟨hk5, fun enc W spare held fuel cs y hf h => ?_⟩
      obtain ⟨⟨k, u, b, f, l⟩, hx, hbk⟩ := hs.2 enc W spare held fuel cs y hf h
      refine ⟨.mk k u b f l, ?_, ?_⟩
      · obtain ⟨c1, c2, rfl, ⟨rfl, h1⟩, d1, d2, rfl, ⟨rfl, h2⟩, e1, e2, rfl, ⟨A, cA, rfl, h3⟩, f1, f2, rfl, ⟨rfl, h4⟩, ⟨L, cL, rfl, h5⟩⟩ := hx
        exact valR_iff.2 ⟨A, cA, L, cL, rfl, h1, h2, h4, h3, h5⟩
      · refine Nat.le_trans ?_ hbk
        simp only [bulkV, bulkVs_eq]
        have : ∀ l : List UInt8, bulkL (fun _ => 1) l = l.length := fun l => by
          induction l with
          | nil => rfl
          | cons x r ih => simp only [bulkL, List.length_cons, ih]; omega
        simp only [this]
        omega
end Go.Proofs.Ythpcanibahcghaa
