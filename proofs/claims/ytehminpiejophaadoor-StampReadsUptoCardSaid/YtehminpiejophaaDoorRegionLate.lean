/- A region that draws its order and stores, at its end, where it loaded: the class S of worlds is asked only while the store s has not come up. -/
import Derived.Test.YtehminpiejophaaDoorRegion
set_option linter.unusedVariables false
namespace Go.Proofs.YtehminpiejophaaDoor
open Go.RowKit

section
variable {P : Program} {ops : Array Oper} {Q : Exit → Act → World → Prop} {md : Region.Mode} {S : World → Prop} {s : Nat}

/-- every order from here on; S behind each operation ahead of s -/
def wpAnyL (P : Program) (md : Region.Mode) (ops : Array Oper) (Q : Exit → Act → World → Prop) (S : World → Prop) (s : Nat) : Nat → Array Bool → Act → World → Prop
  | 0, L, a, w => Region.ready md ops L = [] ∧ Q .normal a w
  | fuel + 1, L, a, w => (Region.ready md ops L = [] → Q .normal a w) ∧
      ∀ i ∈ Region.ready md ops L, wpOp P ops Q i (fun a' w' => ((L.setIfInBounds i true).getD s true = false → S w') ∧ wpAnyL P md ops Q S s fuel (L.setIfInBounds i true) a' w') a w

theorem wpAny_of_late : ∀ (fuel : Nat) (L : Array Bool) (a : Act) (w : World), wpAnyL P md ops Q S s fuel L a w → wpAny P md ops Q fuel L a w
  | 0, _, _, _, h => h
  | fuel + 1, _, _, _, h => ⟨h.1, fun i hi => wpOp_mono (fun a' w' h' => wpAny_of_late fuel _ a' w' h'.2) (h.2 i hi)⟩

/-- taking i first: T is what its value leans on, J what is known of the operations that have come up -/
theorem late_first {i : Nat} {oi : Oper} {v : Value} {T : World → Prop} {J : Array Bool → Prop} (hi : ops[i]? = some oi) (hsel : ∀ (j : Nat) (o : Oper) cs b, ops[j]? = some o → o.op ≠ .select cs b)
    (hQ : ∀ c a w, Q (.panic c) (a.put oi.dst v) w → Q (.panic c) a w) (his : i ≠ s)
    (hJ : ∀ L j, J L → j ∈ Region.ready md ops L → i ∈ Region.ready md ops L → j ≠ i → J (L.setIfInBounds j true))
    (hT : ∀ L w, J L → (L.getD s true = false → S w) → T w) :
    ∀ (fuel : Nat) (L : Array Bool) (a : Act) (w : World),
      (∀ j oj, ops[j]? = some oj → j ≠ i → L.getD j true = false → (∀ e ∈ oj.after, Region.binds md e = true → e.on ≠ i) → oi.apart ops oj = true) →
      i ∈ Region.ready md ops L → YieldsIf P ops T oi v a → (L.getD s true = false → S w) → J L →
      wpAnyL P md ops Q S s fuel (L.setIfInBounds i true) (a.put oi.dst v) w → wpAnyL P md ops Q S s (fuel + 1) L a w := by
  intro fuel
  induction fuel with
  | zero =>
    intro L a w hfree hr hy hS hJL H
    refine ⟨fun h0 => (by rw [h0] at hr; cases hr), fun j hj => ?_⟩
    rcases Nat.decEq j i with hji | hji
    · have := ready_mono hj hji
      rw [H.1] at this; cases this
    · subst hji
      exact hy.wpOp hi (hT L w hJL hS) ⟨fun h0 => hS (by rwa [getD_set_ne true his] at h0), H⟩
  | succ fuel ih =>
    intro L a w hfree hr hy hS hJL H
    refine ⟨fun h0 => (by rw [h0] at hr; cases hr), fun j hj => ?_⟩
    rcases Nat.decEq j i with hji | hji
    · have h1 := H.2 j (ready_mono hj hji)
      obtain ⟨hjun, oj, hoj, hall⟩ := mem_ready.1 hj
      have hiun := (mem_ready.1 hr).1
      have hnot : ∀ e ∈ oj.after, Region.binds md e = true → e.on ≠ i := fun e he hb heq => by
        have h2 := hall e he hb
        rw [heq] at h2
        rcases Nat.lt_or_ge i L.size with h' | h'
        · simp [h'] at hiun h2; rw [hiun] at h2; cases h2
        · simp [Array.getElem?_eq_none h'] at h2
      have h2 := wpOp_putIf hoj (hfree j oj hoj hji hjun hnot) (fun cs b => hsel i oi cs b hi) (fun cs b => hsel j oj cs b hoj) hQ hy h1
      refine wpOp_mono (fun a' w' h3 => ?_) h2
      obtain ⟨hy', hS', hA⟩ := h3
      rw [Array.setIfInBounds_comm _ _ (Ne.symm hji)] at hS' hA
      have hSj : (L.setIfInBounds j true).getD s true = false → S w' := fun h0 => hS' (by rw [getD_set_ne true his]; exact h0)
      refine ⟨hSj, ih _ a' w' (fun k ok hk hki hun hno => ?_) (ready_mono hr (Ne.symm hji)) hy' hSj (hJ L j hJL hj hr hji) hA⟩
      refine hfree k ok hk hki ?_ hno
      rcases Nat.decEq j k with hjk | hjk
      · rw [getD_set_ne true hjk] at hun; exact hun
      · subst hjk; exact hjun
    · subst hji
      exact hy.wpOp hi (hT L w hJL hS) ⟨fun h0 => hS (by rwa [getD_set_ne true his] at h0), H⟩

/-- s waits for m, and m is i or waits for i; neither s nor m has come up -/
def lateOk (md : Region.Mode) (ops : Array Oper) (s m i : Nat) (L : Array Bool) : Bool :=
  (match ops[s]? with | some o => o.after.any (fun e => Region.binds md e && e.on == m) | none => false) &&
  (m == i || match ops[m]? with | some o => o.after.any (fun e => Region.binds md e && e.on == i) | none => false) && !(L.getD m true) && !(L.getD s true)

/-- what has come up is marked -/
theorem late_done {L : Array Bool} {j k : Nat} {oj : Oper} (hj : j ∈ Region.ready md ops L) (hoj : ops[j]? = some oj) (h : oj.after.any (fun e => Region.binds md e && e.on == k) = true) : L.getD k true = true := by
  obtain ⟨_, oj', hoj', hall⟩ := mem_ready.1 hj
  rw [hoj] at hoj'
  injection hoj' with e
  subst e
  rw [Array.any_eq_true] at h
  obtain ⟨q, hq, he⟩ := h
  simp only [Bool.and_eq_true, beq_iff_eq] at he
  have := hall _ (Array.getElem_mem hq) he.1
  rw [he.2] at this
  rcases Nat.lt_or_ge k L.size with h' | h'
  · simp [h'] at this ⊢; exact this
  · simp [Array.getElem?_eq_none h'] at this

theorem late_load {i m : Nat} {oi : Oper} {v : Value} {a' : Act} {fuel : Nat} {L : Array Bool} {a : Act} {w : World} (hi : ops[i]? = some oi)
    (hs : Region.noSelect ops = true) (hf : Region.free md ops L i = true) (hr : (Region.ready md ops L).contains i = true) (hm : lateOk md ops s m i L = true) (his : (i == s) = false)
    (hQ : ∀ c a w, Q (.panic c) (a.put oi.dst v) w → Q (.panic c) a w) (hw : Region.wanted oi (yielded ops a.tmps) = true) (hS : S w)
    (hy : ∀ w, S w → (execOp a.eval oi).run P w = .ok (.value v) w) (ha : a.put oi.dst v = a')
    (h : wpAnyL P md ops Q S s fuel (L.setIfInBounds i true) a' w) : wpAnyL P md ops Q S s (fuel + 1) L a w := by
  subst ha
  refine late_first (T := S) (J := fun L => lateOk md ops s m i L = true) hi (Region.noSelect_spec hs) hQ (by simpa using his) (fun L j hL hj hir hji => ?_) (fun L w hL h0 => ?_) fuel L a w (Region.free_spec hi hf) (by simpa using hr) (.inl ⟨hw, hy⟩) (fun _ => hS) hm h
  · simp only [lateOk, Bool.and_eq_true, Bool.not_eq_true', Bool.or_eq_true, beq_iff_eq] at hL ⊢
    obtain ⟨⟨⟨h1, h2⟩, h3⟩, h4⟩ := hL
    have iun : L.getD i true = false := (mem_ready.1 hir).1
    have js : j ≠ s := by
      rintro rfl
      cases ho : ops[j]? with
      | none => rw [ho] at h1; cases h1
      | some o => rw [ho] at h1; have := late_done hj ho h1; rw [h3] at this; cases this
    have jm : j ≠ m := by
      rintro rfl
      rcases h2 with h2 | h2
      · exact hji h2
      · cases ho : ops[j]? with
        | none => rw [ho] at h2; cases h2
        | some o => rw [ho] at h2; have := late_done hj ho h2; rw [iun] at this; cases this
    exact ⟨⟨⟨h1, h2⟩, by rw [getD_set_ne true jm]; exact h3⟩, by rw [getD_set_ne true js]; exact h4⟩
  · simp only [lateOk, Bool.and_eq_true, Bool.not_eq_true'] at hL
    exact h0 hL.2

/-- m waits for k -/
def waits (md : Region.Mode) (ops : Array Oper) (m k : Nat) : Bool := match ops[m]? with | some o => o.after.any (fun e => Region.binds md e && e.on == k) | none => false
/-- a chain of operations that wait, each for the next, the last for i; none of them has come up -/
def chainOk (md : Region.Mode) (ops : Array Oper) (i : Nat) (L : Array Bool) : List Nat → Bool
  | [] => true
  | m :: c => waits md ops m (c.headD i) && !(L.getD m true) && chainOk md ops i L c
theorem chain_step {i j : Nat} {L : Array Bool} (hi : L.getD i true = false) (hj : j ∈ Region.ready md ops L) : ∀ c : List Nat, chainOk md ops i L c = true → chainOk md ops i (L.setIfInBounds j true) c = true
  | [], _ => rfl
  | m :: c, h => by
    simp only [chainOk, Bool.and_eq_true, Bool.not_eq_true'] at h ⊢
    obtain ⟨⟨h1, h2⟩, h3⟩ := h
    have hn : L.getD (c.headD i) true = false := by
      cases c with
      | nil => exact hi
      | cons m' c' =>
        simp only [chainOk, Bool.and_eq_true, Bool.not_eq_true'] at h3
        exact h3.1.2
    have hm : j ≠ m := by
      rintro rfl
      unfold waits at h1
      cases ho : ops[j]? with
      | none => rw [ho] at h1; cases h1
      | some o => rw [ho] at h1; have := late_done hj ho h1; rw [hn] at this; cases this
    exact ⟨⟨h1, by rw [getD_set_ne true hm]; exact h2⟩, chain_step hi hj c h3⟩
theorem late_loadc {i : Nat} (c : List Nat) {oi : Oper} {v : Value} {a' : Act} {fuel : Nat} {L : Array Bool} {a : Act} {w : World} (hi : ops[i]? = some oi)
    (hs : Region.noSelect ops = true) (hf : Region.free md ops L i = true) (hr : (Region.ready md ops L).contains i = true) (hm : chainOk md ops i L (s :: c) = true) (his : (i == s) = false)
    (hQ : ∀ c a w, Q (.panic c) (a.put oi.dst v) w → Q (.panic c) a w) (hw : Region.wanted oi (yielded ops a.tmps) = true) (hS : S w)
    (hy : ∀ w, S w → (execOp a.eval oi).run P w = .ok (.value v) w) (ha : a.put oi.dst v = a')
    (h : wpAnyL P md ops Q S s fuel (L.setIfInBounds i true) a' w) : wpAnyL P md ops Q S s (fuel + 1) L a w := by
  subst ha
  refine late_first (T := S) (J := fun L => chainOk md ops i L (s :: c) = true) hi (Region.noSelect_spec hs) hQ (by simpa using his) (fun L j hL hj hir hji => ?_) (fun L w hL h0 => ?_) fuel L a w (Region.free_spec hi hf) (by simpa using hr) (.inl ⟨hw, hy⟩) (fun _ => hS) hm h
  · exact chain_step (mem_ready.1 hir).1 hj _ hL
  · simp only [chainOk, Bool.and_eq_true, Bool.not_eq_true'] at hL
    exact h0 hL.1.2

theorem late_pure {i : Nat} {oi : Oper} {v : Value} {a' : Act} {fuel : Nat} {L : Array Bool} {a : Act} {w : World} (hi : ops[i]? = some oi)
    (hs : Region.noSelect ops = true) (hf : Region.free md ops L i = true) (hr : (Region.ready md ops L).contains i = true) (his : (i == s) = false)
    (hQ : ∀ c a w, Q (.panic c) (a.put oi.dst v) w → Q (.panic c) a w) (hw : Region.wanted oi (yielded ops a.tmps) = true) (hS : L.getD s true = false → S w)
    (hy : ∀ w, (execOp a.eval oi).run P w = .ok (.value v) w) (ha : a.put oi.dst v = a')
    (h : wpAnyL P md ops Q S s fuel (L.setIfInBounds i true) a' w) : wpAnyL P md ops Q S s (fuel + 1) L a w := by
  subst ha
  exact late_first (T := fun _ => True) (J := fun _ => True) hi (Region.noSelect_spec hs) hQ (by simpa using his) (fun _ _ _ _ _ _ => trivial) (fun _ _ _ _ => trivial) fuel L a w (Region.free_spec hi hf) (by simpa using hr) (.inl ⟨hw, fun w _ => hy w⟩) hS trivial h

/-- several operations may come up -/
def AllLate (P : Program) (md : Region.Mode) (ops : Array Oper) (Q : Exit → Act → World → Prop) (S : World → Prop) (s fuel : Nat) (L : Array Bool) (a : Act) (w : World) (rs : List Nat) : Prop :=
  ∀ i ∈ rs, wpOp P ops Q i (fun a' w' => ((L.setIfInBounds i true).getD s true = false → S w') ∧ wpAnyL P md ops Q S s fuel (L.setIfInBounds i true) a' w') a w
theorem AllLate.nil {fuel : Nat} {L : Array Bool} {a : Act} {w : World} : AllLate P md ops Q S s fuel L a w [] := fun _ h => by cases h
theorem AllLate.cons {fuel : Nat} {L : Array Bool} {a : Act} {w : World} {i : Nat} {o : Oper} {rs : List Nat} (ho : ops[i]? = some o)
    (h : ∀ K' : Act → World → Prop, (∀ a w, ((L.setIfInBounds i true).getD s true = false → S w) → wpAnyL P md ops Q S s fuel (L.setIfInBounds i true) a w → K' a w) → if Region.wanted o (yielded ops a.tmps) = true then Oper.wp P o a w K' Q else K' (a.put o.dst undef) w)
    (hs : AllLate P md ops Q S s fuel L a w rs) : AllLate P md ops Q S s fuel L a w (i :: rs) := fun j hj => by
  rcases List.mem_cons.1 hj with rfl | hj
  · exact wpOp_step ho fun K' hK => h K' fun a w h1 h2 => hK a w ⟨h1, h2⟩
  · exact hs j hj
theorem late_ready {rs : List Nat} {fuel : Nat} {L : Array Bool} {a : Act} {w : World} (hr : Region.ready md ops L = rs) (hne : rs ≠ []) (h : AllLate P md ops Q S s fuel L a w rs) : wpAnyL P md ops Q S s (fuel + 1) L a w :=
  ⟨fun h0 => absurd (hr.symm.trans h0) hne, fun i hi => h i (hr ▸ hi)⟩
/-- one operation alone may come up -/
theorem late_one {i : Nat} {o : Oper} {fuel : Nat} {L : Array Bool} {a : Act} {w : World} (hr : Region.ready md ops L = [i]) (ho : ops[i]? = some o)
    (h : ∀ K' : Act → World → Prop, (∀ a w, ((L.setIfInBounds i true).getD s true = false → S w) → wpAnyL P md ops Q S s fuel (L.setIfInBounds i true) a w → K' a w) → if Region.wanted o (yielded ops a.tmps) = true then Oper.wp P o a w K' Q else K' (a.put o.dst undef) w) :
    wpAnyL P md ops Q S s (fuel + 1) L a w :=
  ⟨fun h0 => (by rw [hr] at h0; cases h0), fun j hj => by
    rw [hr] at hj
    simp only [List.mem_cons, List.not_mem_nil, or_false] at hj
    subst hj
    exact wpOp_step ho fun K' hK => h K' fun a w h1 h2 => hK a w ⟨h1, h2⟩⟩
theorem late_done' {L : Array Bool} {a : Act} {w : World} (hr : Region.ready md ops L = []) (h : Q .normal a w) : ∀ fuel, wpAnyL P md ops Q S s fuel L a w
  | 0 => ⟨hr, h⟩
  | _ + 1 => ⟨fun _ => h, fun i hi => by rw [hr] at hi; cases hi⟩
theorem wp_region_late {id : Nat} {a : Act} {w : World} (hm : P.follows .mixedOrders = true)
    (h : wpAnyL P .any ops Q S s ops.size (Array.replicate ops.size false) a w.drew) : (Code.region id ops true).wp P Q a w :=
  wp_region_any hm (wpAny_of_late _ _ _ _ h)

/-- a step whose run is known -/
theorem step_run_append {o : Oper} {a : Act} {w w' : World} {K : Act → World → Prop} {E : Prop} (hgd : o.guard = none) (x y : Operand) {t t' : TypeId}
    (ho : o.op = .call { callee := .builtin .append, args := #[x, y], argTypes := #[t, t'] }) {v y' v' : Value} (hx : a.eval x = v) (hy : a.eval y = y')
    (hrun : (Builtin.append_ #[t, t'] o.type #[v, y']).run P w = .ok v' w') (h : K (a.put o.dst v') w') :
    if Region.wanted o (yielded ops a.tmps) = true then Oper.wp P o a w K Q else E := by
  have hw : Region.wanted o (yielded ops a.tmps) = true := by simp [Region.wanted, hgd]
  rw [if_pos hw]
  unfold Oper.wp execOp
  simp only [ho, resolve, invoke, builtin, Sem.run_bind, Sem.run_pure, Result.andThen_ok, List.map_toArray, List.map_cons, List.map_nil, hx, hy, hrun]
  exact h
end
end Go.Proofs.YtehminpiejophaaDoor
