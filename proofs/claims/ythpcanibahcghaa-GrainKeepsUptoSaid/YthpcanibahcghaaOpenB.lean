/- How an argument of a type that holds itself is opened: the readings of XOpenRd, for so much fuel. -/
import Derived.Test.YthpcanibahcghaaOpenRd
import Derived.Test.YthpcanibahcghaaOpenAgg
import Derived.Laws.Cover2
set_option linter.unusedVariables false
namespace Go.Proofs.Ythpcanibahcghaa
open Go.ChangeShapes Go.WideShapes Go.ChangeAt Go.RowKit Go.Deep
open Go.ChangeMaps (open_string shut_string)

def OpensB (F : Nat) (P : Program) (t : TypeId) {α : Type} (r : Rd α) (bulk : α → Nat) : Prop :=
  r.k = P.cellsOf t ∧ ∀ {H : Type} (enc : TypeId × Value → H) (W : World) (spare : Nat → Bool) (held : Bool) (fuel : Nat) (cs : List Value) (y : DataW H × List MemPlace), fuel < F →
    DataW.trod enc P W 0 spare held fuel t cs = some y → ∃ x, r.R W no cs x ∧ bulk x ≤ Rows.uptoBulk y.1

section
variable {P : Program} {t : TypeId} {F : Nat}
theorem OpensB.of {α : Type} {r : Rd α} {b : α → Nat} (h : Opens P t r b) : OpensB F P t r b := ⟨h.1, fun enc W spare held fuel cs y _ => h.2 enc W spare held fuel cs y⟩
theorem OpensB.zero {α : Type} {r : Rd α} {b : α → Nat} (h : r.k = P.cellsOf t) : OpensB 0 P t r b := ⟨h, fun enc W spare held fuel cs y hf => absurd hf (by omega)⟩
theorem Opens.ofB {α : Type} {r : Rd α} {b : α → Nat} (h : ∀ F, OpensB F P t r b) : Opens P t r b := ⟨(h 0).1, fun enc W spare held fuel cs y => (h (fuel + 1)).2 enc W spare held fuel cs y (by omega)⟩

theorem open_sliceB {H : Type} {enc : TypeId × Value → H} {w : World} {base : Nat} {spare : Nat → Bool} {held : Bool} {e : TypeId} {fuel : Nat} {cs : List Value} {x : DataW H × List MemPlace} (ht : P.underlying t = some (.slice e)) (h : DataW.trod enc P w base spare held fuel t cs = some x) :
    (cs = [.slice none 0 0] ∧ x = (.nil, [])) ∨
    ∃ (a : Addr) (len cap n : Nat) (D : Nat → DataW H) (Pl : Nat → List MemPlace) (rest : List (DataW H)), cs = [.slice (some a) len cap] ∧ fuel = n + 1 ∧ len ≤ cap ∧ cap ≤ maxLen ∧ x.1 = .slice ((List.range len).map D) rest ∧
      ∀ i, i < len → ∃ cs', w.cells? base (a.add (i * P.cellsOf e)) (P.cellsOf e) = some cs' ∧ DataW.trod enc P w base spare held n e cs' = some (D i, Pl i) := by
  rcases DataW.trod_slice ht h with h0 | ⟨a, len, cap, elems, rest, n, hf, rfl, rfl, hb, hl, hm, hlen, hel, hsp, hns⟩
  · exact .inl h0
  · refine .inr ⟨a, len, cap, n, fun i => (elems.getD i (.nil, [])).1, fun i => (elems.getD i (.nil, [])).2, rest.map (·.1), rfl, hf, hl, hm, ?_, fun i hi => ?_⟩
    · show DataW.slice (elems.map (·.1)) (rest.map (·.1)) = _
      congr 1
      refine List.ext_getElem? fun i => ?_
      rw [List.getElem?_map, List.getElem?_map]
      rcases Nat.lt_or_ge i len with h1 | h1
      · rw [List.getElem?_range h1, List.getElem?_eq_getElem (by omega)]; simp [List.getD, List.getElem?_eq_getElem (show i < elems.length by omega)]
      · rw [List.getElem?_eq_none (show elems.length ≤ i by omega), List.getElem?_eq_none (by simpa using h1)]; rfl
    · have key := hel i hi
      rw [List.getElem?_eq_getElem (by omega)] at key
      obtain ⟨cs', h1, h2⟩ := Option.bind_eq_some_iff.1 key
      exact ⟨cs', h1, by rw [h2]; simp [List.getD, List.getElem?_eq_getElem (show i < elems.length by omega)]⟩

theorem opensB_slice {e : TypeId} {α : Type} {r : Rd α} {b : α → Nat} (ht : P.underlying t = some (.slice e)) (hk : P.cellsOf t = 1) (hpos : 0 < r.k) (he : OpensB F P e r b) : OpensB (F + 1) P t (slR r) (fun l => bulkL b l + 1) := by
  refine ⟨hk.symm, fun enc W spare held fuel cs y hfl h => ?_⟩
  rcases open_sliceB ht h with ⟨rfl, rfl⟩ | ⟨a, len, cap, n, D, Pl, rest, rfl, hfn, hlc, hcm, hx, hel⟩
  · exact ⟨[], ⟨none, 0, rfl, Nat.le_refl _, Nat.zero_le _, SlOf.nil⟩, by simp [bulkL, Rows.uptoBulk]⟩
  · skip
    have hchoose : ∀ i, ∃ c : List Value, i < len → (W.cells? 0 (a.add (i * P.cellsOf e)) (P.cellsOf e) = some c ∧ DataW.trod enc P W 0 spare held n e c = some (D i, Pl i)) := fun i => by
      by_cases hi : i < len
      · obtain ⟨c, h1, h2⟩ := hel i hi
        exact ⟨c, fun _ => ⟨h1, h2⟩⟩
      · exact ⟨[], fun h => absurd h hi⟩
    let cs : Nat → List Value := fun i => (hchoose i).choose
    have hcs : ∀ i, i < len → (W.cells? 0 (a.add (i * P.cellsOf e)) (P.cellsOf e) = some (cs i) ∧ DataW.trod enc P W 0 spare held n e (cs i) = some (D i, Pl i)) := fun i hi => (hchoose i).choose_spec hi
    clear_value cs
    obtain ⟨l, hl, hE, hB⟩ := each_of (r := r) (b := b) (W := W) len cs D (fun i hi => he.2 enc W spare held n (cs i) _ (by omega) (hcs i hi).2)
    refine ⟨l, ⟨some a, cap, by rw [hl], by omega, hcm, (List.range len).flatMap cs, ?_, hE, fun _ _ _ _ h => h⟩, ?_⟩
    · have hlen := hE.length (fun _ _ => r.len)
      refine ⟨hlen, fun h0 => ?_⟩
      rw [hl] at h0
      have key : ∀ i j, i < len → j < r.k → ∃ u, W.cell? (a.add (i * r.k + j)) = some u ∧ (cs i)[j]? = some u := fun i j hi hj => by
        obtain ⟨h1, _⟩ := hcs i hi
        rw [← he.1] at h1
        obtain ⟨_, h2, h3⟩ := World.cells?_some h1
        have h4 := h3 j hj
        rw [Go.Deep.add_add] at h4
        exact ⟨(cs i)[j]'(by omega), by rw [h4]; exact List.getElem?_eq_getElem (by omega), List.getElem?_eq_getElem (by omega)⟩
      obtain ⟨u0, h1, _⟩ := key 0 0 h0 hpos
      simp only [Nat.zero_mul, Nat.zero_add] at h1
      obtain ⟨bl, off, spot⟩ := a
      have hspot : spot = none := by simpa [Addr.add] using World.cell?_spot h1
      subst hspot
      have hbl : bl < W.heap.size := by
        have := World.block_lt_of_cell? _ _ h1
        rwa [addr_add] at this
      refine ⟨bl, off, rfl, hbl, fun j u hu => ?_⟩
      have hj := (List.getElem?_eq_some_iff.1 hu).1
      rw [hlen, hl] at hj
      have hd : j / r.k < len := by rw [Nat.div_lt_iff_lt_mul hpos]; exact hj
      have hmod := Nat.mod_lt j hpos
      obtain ⟨v, hv, hcv⟩ := key (j / r.k) (j % r.k) hd hmod
      have hj2 : j / r.k * r.k + j % r.k = j := by rw [Nat.mul_comm]; exact Nat.div_add_mod j r.k
      rw [hj2, addr_add] at hv
      rw [hv, ← hu]
      have hflat : ∀ (m : Nat) (f : Nat → List Value), (∀ i, i < m → (f i).length = r.k) → ∀ i q, i < m → q < r.k → ((List.range m).flatMap f)[i * r.k + q]? = (f i)[q]? := by
        intro m
        induction m with
        | zero => intro f _ i q hi; omega
        | succ m ih =>
          intro f hf i q hi hq
          rw [List.range_succ_eq_map, List.flatMap_cons, List.flatMap_map]
          cases i with
          | zero => rw [Nat.zero_mul, Nat.zero_add, List.getElem?_append_left (by rw [hf 0 (by omega)]; exact hq)]
          | succ i =>
            rw [List.getElem?_append_right (by rw [hf 0 (by omega), Nat.add_mul]; omega), hf 0 (by omega), show (i + 1) * r.k + q - r.k = i * r.k + q from by rw [Nat.add_mul]; omega]
            exact ih (fun i => f (i + 1)) (fun i hi => hf (i + 1) (by omega)) i q (by omega) hq
      have hlens : ∀ i, i < len → (cs i).length = r.k := fun i hi => by
        have h1 := (hcs i hi).1
        rw [← he.1] at h1
        exact (World.cells?_some h1).2.1
      rw [← hcv]
      have := hflat len cs hlens (j / r.k) (j % r.k) hd hmod
      rw [hj2] at this
      exact this.symm
    · rw [hx]; simp only [Rows.uptoBulk]
      omega

/-- Fields one after another, from the offset off on. -/
def OpensFsB (F : Nat) (P : Program) (fs : List Field) (off : Nat) {α : Type} (r : Rd α) (bulk : α → Nat) : Prop :=
  ∀ {H : Type} (enc : TypeId × Value → H) (W : World) (spare : Nat → Bool) (held : Bool) (n : Nat) (cs : List Value) (ys : List (DataW H × List MemPlace)), n < F →
    cs.length = r.k → ys.length = fs.length → (∀ (i : Nat) (f : Field), fs[i]? = some f → DataW.trod enc P W 0 spare held n f.type ((cs.drop (f.offset - off)).take (P.cellsOf f.type)) = ys[i]?) →
    ∃ x, r.R W no cs x ∧ bulk x ≤ Rows.uptoBulkAll (ys.map (·.1))

theorem opensFsB_one {f : Field} {α : Type} {r : Rd α} {b : α → Nat} (ho : OpensB F P f.type r b) : OpensFsB F P [f] f.offset r b := by
  intro H enc W spare held n cs ys hnF hl hy h
  match ys, hy with
  | [y], _ =>
    have h0 := h 0 f rfl
    rw [Nat.sub_self, List.drop_zero, List.take_of_length_le (by rw [hl, ho.1]; exact Nat.le_refl _)] at h0
    obtain ⟨x, h1, h2⟩ := ho.2 enc W spare held n cs y hnF h0
    exact ⟨x, h1, by simp only [List.map_cons, List.map_nil, Rows.uptoBulkAll]; omega⟩

theorem opensFsB_cons {f : Field} {fs : List Field} {off : Nat} {α β : Type} {r : Rd α} {s : Rd β} {b : α → Nat} {c : β → Nat} (ho : OpensB F P f.type r b) (hf : OpensFsB F P fs off s c)
    (hoff : off = f.offset + r.k) (hmono : fs.all (fun g => decide (off ≤ g.offset)) = true) : OpensFsB F P (f :: fs) f.offset (prodR r s) (fun x => b x.1 + c x.2) := by
  intro H enc W spare held n cs ys hnF hl hy h
  match ys, hy with
  | y :: ys, hy =>
    have hl' : cs.length = r.k + s.k := hl
    have h0 := h 0 f rfl
    rw [Nat.sub_self, List.drop_zero, ← ho.1] at h0
    obtain ⟨x, h1, h2⟩ := ho.2 enc W spare held n _ y hnF h0
    obtain ⟨z, h3, h4⟩ := hf enc W spare held n (cs.drop r.k) ys hnF (by rw [List.length_drop]; omega) (by simpa using hy) (fun i g hg => by
      have := h (i + 1) g hg
      have hge : off ≤ g.offset := by
        have := List.all_eq_true.1 hmono g (List.mem_of_getElem? hg)
        simpa using this
      rw [List.drop_drop, show r.k + (g.offset - off) = g.offset - f.offset from by omega]
      simpa using this)
    refine ⟨(x, z), ⟨cs.take r.k, cs.drop r.k, (List.take_append_drop _ _).symm, h1, h3⟩, ?_⟩
    simp only [List.map_cons, Rows.uptoBulkAll]
    omega

theorem opensB_struct {fs : Array Field} {α : Type} {r : Rd α} {b : α → Nat} (ht : P.underlying t = some (.struct fs)) (hk : r.k = P.cellsOf t) (hf : OpensFsB F P fs.toList 0 r b) : OpensB (F + 1) P t r (fun x => b x + 1) := by
  refine ⟨hk, fun enc W spare held fuel cs y hfl h => ?_⟩
  obtain ⟨ys, n, hfn, rfl, hl, hyl, hi⟩ := DataW.trod_struct ht h
  obtain ⟨x, h1, h2⟩ := hf enc W spare held n cs ys (by omega) (by rw [hl, hk]) (by rw [hyl]; simp) (fun i f hfi => by
    have := hi i f (by simpa using hfi)
    rw [Nat.sub_zero]; exact this)
  exact ⟨x, h1, by simp only [Rows.uptoBulk]; omega⟩

end
end Go.Proofs.Ythpcanibahcghaa
