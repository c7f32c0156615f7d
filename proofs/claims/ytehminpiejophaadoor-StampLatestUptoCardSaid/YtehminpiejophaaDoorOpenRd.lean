/- How an argument of any shape is opened: as the reading that its type has. -/
import Derived.Test.YtehminpiejophaaDoorRd
import Derived.Test.YtehminpiejophaaDoorOpen
import Derived.Deep.Slices
import Derived.Deep.Fields
set_option linter.unusedVariables false
namespace Go.Proofs.YtehminpiejophaaDoor
open Go.ChangeShapes Go.WideShapes Go.ChangeAt Go.RowKit Go.Deep
open Go.ChangeMaps (open_string shut_string)

/-- Cells of type t that were let in read as an x by r, of bulk at most the datum's. -/
def Opens (P : Program) (t : TypeId) {α : Type} (r : Rd α) (bulk : α → Nat) : Prop :=
  r.k = P.cellsOf t ∧ ∀ {H : Type} (enc : TypeId × Value → H) (W : World) (spare : Nat → Bool) (held : Bool) (fuel : Nat) (cs : List Value) (y : DataW H × List MemPlace),
    DataW.trod enc P W 0 spare held fuel t cs = some y → ∃ x, r.R W no cs x ∧ bulk x ≤ Rows.uptoBulk y.1

section
variable {P : Program} {t : TypeId}
theorem opens_str (ht : P.underlying t = some .string) (hk : P.cellsOf t = 1) : Opens P t strR (fun s => s.size + 1) := by
  refine ⟨hk.symm, fun enc W spare held fuel cs y h => ?_⟩
  obtain ⟨s, rfl, rfl, _⟩ := DataW.trod_string ht h
  exact ⟨s, rfl, by rw [bulk_string]; exact Nat.le_refl _⟩
theorem opens_int {kd : IntKind} (ht : P.underlying t = some (.int kd)) (hk : P.cellsOf t = 1) : Opens P t (intR kd) (fun _ => 1) := by
  refine ⟨hk.symm, fun enc W spare held fuel cs y h => ?_⟩
  obtain ⟨z, rfl, rfl, hw⟩ := DataW.trod_int ht h
  exact ⟨z, ⟨rfl, hw⟩, bulk_one _⟩
theorem opens_byte (ht : P.underlying t = some (.int .u8)) (hk : P.cellsOf t = 1) : Opens P t byteR (fun _ => 1) := by
  refine ⟨hk.symm, fun enc W spare held fuel cs y h => ?_⟩
  obtain ⟨z, rfl, rfl, hw⟩ := DataW.trod_int ht h
  obtain ⟨b, rfl⟩ := byte_of_wf hw
  exact ⟨b, rfl, bulk_one _⟩
theorem opens_bool (ht : P.underlying t = some .bool) (hk : P.cellsOf t = 1) : Opens P t boolR (fun _ => 1) := by
  refine ⟨hk.symm, fun enc W spare held fuel cs y h => ?_⟩
  obtain ⟨z, rfl, rfl⟩ := DataW.trod_bool ht h
  exact ⟨z, rfl, bulk_one _⟩

/-- the bulk of a list -/
def bulkL {α : Type} (b : α → Nat) : List α → Nat
  | [] => 0
  | x :: r => b x + bulkL b r

/-- a choice of readings, one by one, put together -/
theorem each_of {α : Type} {r : Rd α} {b : α → Nat} {W : World} {H : Type} : ∀ (n : Nat) (cs : Nat → List Value) (D : Nat → DataW H),
    (∀ i, i < n → ∃ x, r.R W no (cs i) x ∧ b x ≤ Rows.uptoBulk (D i)) →
    ∃ l : List α, l.length = n ∧ Each (r.R W no) ((List.range n).flatMap cs) l ∧ bulkL b l ≤ Rows.uptoBulkAll ((List.range n).map D)
  | 0, cs, D, _ => ⟨[], rfl, by simp; exact .nil, by simp [bulkL]⟩
  | n + 1, cs, D, h => by
    obtain ⟨x, hx, hb⟩ := h 0 (by omega)
    obtain ⟨l, hl, he, hbl⟩ := each_of n (fun i => cs (i + 1)) (fun i => D (i + 1)) (fun i hi => h (i + 1) (by omega))
    refine ⟨x :: l, by simp [hl], ?_, ?_⟩
    · rw [List.range_succ_eq_map, List.flatMap_cons, List.flatMap_map]
      exact .cons hx he
    · rw [List.range_succ_eq_map, List.map_cons, List.map_map]
      simp only [bulkL, Rows.uptoBulkAll]
      exact Nat.add_le_add hb hbl

theorem opens_slice {e : TypeId} {α : Type} {r : Rd α} {b : α → Nat} (ht : P.underlying t = some (.slice e)) (hk : P.cellsOf t = 1) (hpos : 0 < r.k) (he : Opens P e r b) : Opens P t (slR r) (fun l => bulkL b l + 1) := by
  refine ⟨hk.symm, fun enc W spare held fuel cs y h => ?_⟩
  rcases Go.Deep.open_slice ht h with ⟨rfl, rfl⟩ | ⟨a, len, cap, m, n, D, Pl, rfl, _, hlc, hcm, hm, rfl, hel⟩
  · exact ⟨[], ⟨none, 0, rfl, Nat.le_refl _, Nat.zero_le _, SlOf.nil⟩, by simp [bulkL, Rows.uptoBulk]⟩
  · have hlm : len ≤ m := by rw [hm]; split <;> omega
    have hchoose : ∀ i, ∃ c : List Value, i < len → (W.cells? 0 (a.add (i * P.cellsOf e)) (P.cellsOf e) = some c ∧ DataW.trod enc P W 0 spare held n e c = some (D i, Pl i)) := fun i => by
      by_cases hi : i < len
      · obtain ⟨c, h1, h2⟩ := hel i (by omega)
        exact ⟨c, fun _ => ⟨h1, h2⟩⟩
      · exact ⟨[], fun h => absurd h hi⟩
    let cs : Nat → List Value := fun i => (hchoose i).choose
    have hcs : ∀ i, i < len → (W.cells? 0 (a.add (i * P.cellsOf e)) (P.cellsOf e) = some (cs i) ∧ DataW.trod enc P W 0 spare held n e (cs i) = some (D i, Pl i)) := fun i hi => (hchoose i).choose_spec hi
    clear_value cs
    obtain ⟨l, hl, hE, hB⟩ := each_of (r := r) (b := b) (W := W) len cs D (fun i hi => he.2 enc W spare held n (cs i) _ (hcs i hi).2)
    refine ⟨l, ⟨some a, cap, by rw [hl], by omega, hcm, (List.range len).flatMap cs, ?_, hE, fun _ _ _ _ h => h⟩, ?_⟩
    · have hlen := hE.length (fun _ _ => r.len)
      refine ⟨hlen, fun h0 => ?_⟩
      rw [hl] at h0
      have key : ∀ i j, i < len → j < r.k → ∃ u, W.cell? (a.add (i * r.k + j)) = some u ∧ (cs i)[j]? = some u := fun i j hi hj => by
        obtain ⟨h1, _⟩ := hcs i hi
        rw [← he.1] at h1
        obtain ⟨_, h2, h3⟩ := World.cells?_some h1
        have h4 := h3 j hj
        rw [Go.Deep.add_add] at h4
        exact ⟨(cs i)[j]'(by omega), by rw [h4]; exact List.getElem?_eq_getElem (by omega), List.getElem?_eq_getElem (by omega)⟩
      obtain ⟨u0, h1, _⟩ := key 0 0 h0 hpos
      simp only [Nat.zero_mul, Nat.zero_add] at h1
      obtain ⟨bl, off, spot⟩ := a
      have hspot : spot = none := by simpa [Addr.add] using World.cell?_spot h1
      subst hspot
      have hbl : bl < W.heap.size := by
        have := World.block_lt_of_cell? _ _ h1
        rwa [addr_add] at this
      refine ⟨bl, off, rfl, hbl, fun j u hu => ?_⟩
      have hj := (List.getElem?_eq_some_iff.1 hu).1
      rw [hlen, hl] at hj
      have hd : j / r.k < len := by rw [Nat.div_lt_iff_lt_mul hpos]; exact hj
      have hmod := Nat.mod_lt j hpos
      obtain ⟨v, hv, hcv⟩ := key (j / r.k) (j % r.k) hd hmod
      have hj2 : j / r.k * r.k + j % r.k = j := by rw [Nat.mul_comm]; exact Nat.div_add_mod j r.k
      rw [hj2, addr_add] at hv
      rw [hv, ← hu]
      have hflat : ∀ (m : Nat) (f : Nat → List Value), (∀ i, i < m → (f i).length = r.k) → ∀ i q, i < m → q < r.k → ((List.range m).flatMap f)[i * r.k + q]? = (f i)[q]? := by
        intro m
        induction m with
        | zero => intro f _ i q hi; omega
        | succ m ih =>
          intro f hf i q hi hq
          rw [List.range_succ_eq_map, List.flatMap_cons, List.flatMap_map]
          cases i with
          | zero => rw [Nat.zero_mul, Nat.zero_add, List.getElem?_append_left (by rw [hf 0 (by omega)]; exact hq)]
          | succ i =>
            rw [List.getElem?_append_right (by rw [hf 0 (by omega), Nat.add_mul]; omega), hf 0 (by omega), show (i + 1) * r.k + q - r.k = i * r.k + q from by rw [Nat.add_mul]; omega]
            exact ih (fun i => f (i + 1)) (fun i hi => hf (i + 1) (by omega)) i q (by omega) hq
      have hlens : ∀ i, i < len → (cs i).length = r.k := fun i hi => by
        have h1 := (hcs i hi).1
        rw [← he.1] at h1
        exact (World.cells?_some h1).2.1
      rw [← hcv]
      have := hflat len cs hlens (j / r.k) (j % r.k) hd hmod
      rw [hj2] at this
      exact this.symm
    · simp only [Rows.uptoBulk]
      omega

/-- Fields one after another, from the offset off on. -/
def OpensFs (P : Program) (fs : List Field) (off : Nat) {α : Type} (r : Rd α) (bulk : α → Nat) : Prop :=
  ∀ {H : Type} (enc : TypeId × Value → H) (W : World) (spare : Nat → Bool) (held : Bool) (n : Nat) (cs : List Value) (ys : List (DataW H × List MemPlace)),
    cs.length = r.k → ys.length = fs.length → (∀ (i : Nat) (f : Field), fs[i]? = some f → DataW.trod enc P W 0 spare held n f.type ((cs.drop (f.offset - off)).take (P.cellsOf f.type)) = ys[i]?) →
    ∃ x, r.R W no cs x ∧ bulk x ≤ Rows.uptoBulkAll (ys.map (·.1))

theorem opensFs_one {f : Field} {α : Type} {r : Rd α} {b : α → Nat} (ho : Opens P f.type r b) : OpensFs P [f] f.offset r b := by
  intro H enc W spare held n cs ys hl hy h
  match ys, hy with
  | [y], _ =>
    have h0 := h 0 f rfl
    rw [Nat.sub_self, List.drop_zero, List.take_of_length_le (by rw [hl, ho.1]; exact Nat.le_refl _)] at h0
    obtain ⟨x, h1, h2⟩ := ho.2 enc W spare held n cs y h0
    exact ⟨x, h1, by simp only [List.map_cons, List.map_nil, Rows.uptoBulkAll]; omega⟩

theorem opensFs_cons {f : Field} {fs : List Field} {off : Nat} {α β : Type} {r : Rd α} {s : Rd β} {b : α → Nat} {c : β → Nat} (ho : Opens P f.type r b) (hf : OpensFs P fs off s c)
    (hoff : off = f.offset + r.k) (hmono : fs.all (fun g => decide (off ≤ g.offset)) = true) : OpensFs P (f :: fs) f.offset (prodR r s) (fun x => b x.1 + c x.2) := by
  intro H enc W spare held n cs ys hl hy h
  match ys, hy with
  | y :: ys, hy =>
    have hl' : cs.length = r.k + s.k := hl
    have h0 := h 0 f rfl
    rw [Nat.sub_self, List.drop_zero, ← ho.1] at h0
    obtain ⟨x, h1, h2⟩ := ho.2 enc W spare held n _ y h0
    obtain ⟨z, h3, h4⟩ := hf enc W spare held n (cs.drop r.k) ys (by rw [List.length_drop]; omega) (by simpa using hy) (fun i g hg => by
      have := h (i + 1) g hg
      have hge : off ≤ g.offset := by
        have := List.all_eq_true.1 hmono g (List.mem_of_getElem? hg)
        simpa using this
      rw [List.drop_drop, show r.k + (g.offset - off) = g.offset - f.offset from by omega]
      simpa using this)
    refine ⟨(x, z), ⟨cs.take r.k, cs.drop r.k, (List.take_append_drop _ _).symm, h1, h3⟩, ?_⟩
    simp only [List.map_cons, Rows.uptoBulkAll]
    omega

theorem opens_struct {fs : Array Field} {α : Type} {r : Rd α} {b : α → Nat} (ht : P.underlying t = some (.struct fs)) (hk : r.k = P.cellsOf t) (hf : OpensFs P fs.toList 0 r b) : Opens P t r (fun x => b x + 1) := by
  refine ⟨hk, fun enc W spare held fuel cs y h => ?_⟩
  obtain ⟨ys, n, _, rfl, hl, hyl, hi⟩ := DataW.trod_struct ht h
  obtain ⟨x, h1, h2⟩ := hf enc W spare held n cs ys (by rw [hl, hk]) (by rw [hyl]; simp) (fun i f hfi => by
    have := hi i f (by simpa using hfi)
    rw [Nat.sub_zero]; exact this)
  exact ⟨x, h1, by simp only [Rows.uptoBulk]; omega⟩

theorem opens_array {e : TypeId} {m : Nat} {α : Type} {r : Rd α} {b : α → Nat} (ht : P.underlying t = some (.array m e)) (hk : m * r.k = P.cellsOf t) (he : Opens P e r b) : Opens P t (arrR m r) (fun l => bulkL b l + 1) := by
  refine ⟨hk, fun enc W spare held fuel cs y h => ?_⟩
  obtain ⟨ys, n, _, rfl, hl, hyl, hi⟩ := DataW.trod_array ht h
  obtain ⟨l, h1, h2, h3⟩ := each_of (r := r) (b := b) (W := W) m (fun i => (cs.drop (i * r.k)).take r.k) (fun i => (ys.getD i (.nil, [])).1) (fun i him => by
    have := hi i him
    have hy : ys[i]? = some (ys[i]'(by omega)) := List.getElem?_eq_getElem (by omega)
    rw [hy, ← he.1] at this
    obtain ⟨x, q1, q2⟩ := he.2 enc W spare held n _ _ this
    exact ⟨x, q1, by simp only [List.getD, hy, Option.getD_some]; exact q2⟩)
  have hcs : (List.range m).flatMap (fun i => (cs.drop (i * r.k)).take r.k) = cs := by
    have : ∀ (m : Nat) (cs : List Value), cs.length = m * r.k → (List.range m).flatMap (fun i => (cs.drop (i * r.k)).take r.k) = cs := by
      intro m
      induction m with
      | zero => intro cs h; simp at h; simp [h]
      | succ m ih =>
        intro cs h
        rw [List.range_succ_eq_map, List.flatMap_cons, List.flatMap_map, Nat.zero_mul, List.drop_zero]
        have h2 := ih (cs.drop r.k) (by rw [List.length_drop, h, Nat.add_mul]; omega)
        simp only [List.drop_drop] at h2
        have h3 : (fun i => (cs.drop ((i + 1) * r.k)).take r.k) = (fun i => (cs.drop (r.k + i * r.k)).take r.k) := by funext i; rw [Nat.add_mul, Nat.one_mul, Nat.add_comm]
        rw [h3, h2, List.take_append_drop]
    exact this m cs (by rw [hl, hk])
  rw [hcs] at h2
  have hys : (List.range m).map (fun i => (ys.getD i (.nil, [])).1) = ys.map (·.1) := by
    refine List.ext_getElem? fun i => ?_
    rw [List.getElem?_map, List.getElem?_map]
    rcases Nat.lt_or_ge i m with hi | hi
    · rw [List.getElem?_range hi, List.getElem?_eq_getElem (by omega)]; simp [List.getD, List.getElem?_eq_getElem (show i < ys.length by omega)]
    · rw [List.getElem?_eq_none (by simpa using hi), List.getElem?_eq_none (by omega)]; rfl
  rw [hys] at h3
  exact ⟨l, ⟨h1, h2⟩, by simp only [Rows.uptoBulk]; omega⟩
end

/-- An argument of one cell that came in. -/
theorem open_rd {H : Type} {enc : TypeId × Value → H} {P : Program} {W : World} {spare : Nat → Bool} {held : Bool} {t : TypeId} {v : Value} {d : DataW H} {p : List MemPlace} {α : Type} {r : Rd α} {b : α → Nat}
    (ho : Opens P t r b) (h : DataW.Trod enc P W 0 spare held t v d p) : ∃ x, r.R W no v.cells.toList x ∧ b x ≤ Rows.uptoBulk d := by
  obtain ⟨fuel, hf⟩ := h
  exact ho.2 enc W spare held fuel _ _ hf

theorem open_slice_rd {H : Type} {enc : TypeId × Value → H} {P : Program} {W : World} {spare : Nat → Bool} {held : Bool} {rc : Reach} {base : Nat} {t e : TypeId} {v : Value} {d : DataW H} {p : List MemPlace} {α : Type} {r : Rd α} {b : List α → Nat}
    (ht : P.underlying t = some (.slice e)) (hv : Value.okWide P W rc base t v) (ho : Opens P t (slR r) b) (h : DataW.Trod enc P W 0 spare held t v d p) :
    ∃ A c l, v = .slice A l.length c ∧ l.length ≤ c ∧ c ≤ maxLen ∧ SlOf r W no A l ∧ b l ≤ Rows.uptoBulk d := by
  obtain ⟨A, n, c, rfl⟩ := okWide_slice ht hv
  obtain ⟨l, ⟨A', c', e1, h1, h2, h3⟩, h4⟩ := open_rd ho h
  simp [Value.cells] at e1
  obtain ⟨rfl, rfl, rfl⟩ := e1
  exact ⟨_, _, l, rfl, h1, h2, h3, h4⟩
end Go.Proofs.YtehminpiejophaaDoor
