/- records come in, in whatever order, plain: once all have come often enough nothing more is taken; then the same is aside. -/
import Derived.Test.YtgmbkcjihgphmaaJn31
set_option linter.unusedVariables false
set_option linter.unusedSimpArgs false
namespace Go.Proofs.Ytgmbkcjihgphmaa
open Go.RowKit

theorem filter_le {α : Type} {p q : α → Bool} (h : ∀ x, q x = true → p x = true) : ∀ l : List α, (l.filter q).length ≤ (l.filter p).length
  | [] => Nat.le_refl _
  | x :: l => by
    have ih := filter_le h l
    rw [List.filter_cons, List.filter_cons]
    by_cases hq : q x = true
    · rw [if_pos hq, if_pos (h x hq)]; simp; omega
    · rw [if_neg hq]
      split
      · simp; omega
      · exact ih
theorem filter_lt {α : Type} {p q : α → Bool} (h : ∀ x, q x = true → p x = true) : ∀ {l : List α} {y : α}, y ∈ l → p y = true → q y = false → (l.filter q).length < (l.filter p).length
  | x :: l, y, hy, h1, h2 => by
    rw [List.filter_cons, List.filter_cons]
    rcases List.mem_cons.1 hy with rfl | hy
    · rw [if_pos h1, if_neg (by rw [h2]; decide)]
      have := filter_le h l
      simp; omega
    · have ih := filter_lt h hy h1 h2
      by_cases hq : q x = true
      · rw [if_pos hq, if_pos (h x hq)]; simp; omega
      · rw [if_neg hq]
        split
        · simp; omega
        · exact ih
/-- how many of the records are not aside -/
def phiA (rs : List RecT) (ad : AsT) : Nat := (rs.filter fun r => (getA ad r.1).isNone).length
noncomputable abbrev lackO (bs : List RecT) (root : List UInt8) : AsT → List (List UInt8) := fun ad => lackL (srcF (getB bs) ad) root
def condA (L : AsT → List (List UInt8)) (ad : AsT) (r : RecT) : Bool := lkB (linksG (dB r.2)) && (L ad).contains (shaG (dB r.2))
structure OA (rs bs : List RecT) (ad : AsT) : Prop where
  fits : ∀ x b, getA ad x = some b → getB rs x = some b ∧ lkB (linksG b) = true ∧ getB bs x = none
  len : ad.length + phiA rs ad ≤ rs.length
theorem OA.nil (rs bs : List RecT) : OA rs bs [] := ⟨fun x b h => by simp [getA] at h, by have := List.length_filter_le (fun r => (getA [] r.1).isNone) rs; simp [phiA]; exact this⟩
section
variable {rs bs : List RecT} {root : List UInt8} {ad : AsT} {r : RecT}
theorem cond_none (h : condA (lackO bs root) ad r = true) : srcF (getB bs) ad (shaG (dB r.2)) = none := by
  have h1 := (Bool.and_eq_true_iff.1 h).2
  have h1 : shaG (dB r.2) ∈ lackL (srcF (getB bs) ad) root := by simpa using h1
  exact ((srcF_fin (getB_fin bs) ad).re h1).2
theorem src_none {x : List UInt8} {S : SrcT} (h : srcF S ad x = none) : getA ad x = none ∧ S x = none := by
  unfold srcF at h
  cases hg : getA ad x with
  | none => rw [hg] at h; exact ⟨rfl, h⟩
  | some b => rw [hg] at h; cases h
theorem phi_cons (k b : List UInt8) : phiA rs ((k, b) :: ad) ≤ phiA rs ad := filter_le (fun x h => by
  rw [getA_cons] at h
  split at h
  · simp at h
  · exact h) rs
theorem take1_cond (L : AsT → List (List UInt8)) : take1 L ad (dB r.2) = if condA L ad r = true then ((shaG (dB r.2), dB r.2) :: ad, 1) else (ad, 0) := rfl
theorem OA.take (h : OA rs bs ad) (hl : Lone rs) (hr : r ∈ rs) (hg : r.1 = shaG (dB r.2)) :
    OA rs bs (take1 (lackO bs root) ad (dB r.2)).1 ∧ phiA rs (take1 (lackO bs root) ad (dB r.2)).1 ≤ phiA rs ad ∧ (condA (lackO bs root) ad r = true → phiA rs (take1 (lackO bs root) ad (dB r.2)).1 < phiA rs ad) ∧ (condA (lackO bs root) ad r = false → (take1 (lackO bs root) ad (dB r.2)).1 = ad) := by
  rw [take1_cond]
  by_cases hc : condA (lackO bs root) ad r = true
  · rw [if_pos hc]
    obtain ⟨h1, h2⟩ := src_none (cond_none hc)
    have hlt : phiA rs ((shaG (dB r.2), dB r.2) :: ad) < phiA rs ad := filter_lt (fun x h => by
      rw [getA_cons] at h
      split at h
      · simp at h
      · exact h) hr (by rw [hg, h1]; rfl) (by rw [getA_cons, ← hg]; simp)
    refine ⟨⟨fun x b hx => ?_, ?_⟩, Nat.le_of_lt hlt, fun _ => hlt, fun e => by rw [hc] at e; cases e⟩
    · rw [getA_cons] at hx
      split at hx
      · rename_i he
        have he : shaG (dB r.2) = x := by simpa using he
        cases hx
        refine ⟨by rw [← he, ← hg]; exact getB_of hl hr, (Bool.and_eq_true_iff.1 hc).1, by rw [← he]; exact h2⟩
      · exact h.fits x b hx
    · have := h.len
      simp only [List.length_cons]
      omega
  · rw [if_neg hc]
    exact ⟨h, Nat.le_refl _, fun e => absurd e hc, fun _ => rfl⟩
/-- nothing more is taken -/
def QuietA (rs : List RecT) (L : AsT → List (List UInt8)) (ad : AsT) : Prop := ∀ r ∈ rs, condA L ad r = false
def GA (rs : List RecT) (L : AsT → List (List UInt8)) (k : Nat) (ad : AsT) : Prop := QuietA rs L ad ∨ phiA rs ad + k ≤ rs.length
def PA (rs : List RecT) (L : AsT → List (List UInt8)) (k j : Nat) (ad : AsT) : Prop := QuietA rs L ad ∨ phiA rs ad + k + 1 ≤ rs.length ∨ (phiA rs ad + k ≤ rs.length ∧ ∀ i r, i < j → rs[i]? = some r → condA L ad r = false)
theorem GA.start (rs : List RecT) (L : AsT → List (List UInt8)) : GA rs L 0 [] := .inr (List.length_filter_le _ _)
theorem GA.pass {L : AsT → List (List UInt8)} {k : Nat} (h : GA rs L k ad) : PA rs L k 0 ad := by
  rcases h with h | h
  · exact .inl h
  · exact .inr (.inr ⟨h, fun i r hi => absurd hi (Nat.not_lt_zero _)⟩)
theorem PA.whole {L : AsT → List (List UInt8)} {k : Nat} (h : PA rs L k rs.length ad) : GA rs L (k + 1) ad := by
  rcases h with h | h | ⟨_, h⟩
  · exact .inl h
  · exact .inr h
  · refine .inl fun r hr => ?_
    obtain ⟨i, hi⟩ := List.getElem?_of_mem hr
    exact h i r (List.getElem?_eq_some_iff.1 hi).1 hi
theorem GA.take {k : Nat} (h : GA rs (lackO bs root) k ad) (ho : OA rs bs ad) (hl : Lone rs) (hr : r ∈ rs) (hg : r.1 = shaG (dB r.2)) : GA rs (lackO bs root) k (take1 (lackO bs root) ad (dB r.2)).1 := by
  obtain ⟨_, h2, _, h4⟩ := ho.take (root := root) hl hr hg
  rcases h with h | h
  · rw [h4 (h r hr)]; exact .inl h
  · exact .inr (by omega)
theorem PA.take {k j : Nat} (h : PA rs (lackO bs root) k j ad) (ho : OA rs bs ad) (hl : Lone rs) (hj : rs[j]? = some r) (hg : r.1 = shaG (dB r.2)) : PA rs (lackO bs root) k (j + 1) (take1 (lackO bs root) ad (dB r.2)).1 := by
  have hr := List.mem_of_getElem? hj
  obtain ⟨_, h2, h3, h4⟩ := ho.take (root := root) hl hr hg
  rcases h with h | h | ⟨h, h'⟩
  · rw [h4 (h r hr)]; exact .inl h
  · exact .inr (.inl (by omega))
  · cases hc : condA (lackO bs root) ad r with
    | true => have := h3 hc; exact .inr (.inl (by omega))
    | false =>
      rw [h4 hc]
      refine .inr (.inr ⟨h, fun i s hi hs => ?_⟩)
      rcases Nat.lt_or_ge i j with h5 | h5
      · exact h' i s h5 hs
      · have : i = j := by omega
        subst this
        rw [hj] at hs
        cases hs
        exact hc
theorem GA.quiet (hg : ∀ r ∈ rs, r.1 = shaG (dB r.2)) (h : GA rs (lackO bs root) rs.length ad) : QuietA rs (lackO bs root) ad := by
  rcases h with h | h
  · exact h
  · intro r hr
    have h0 : phiA rs ad = 0 := by omega
    cases hc : condA (lackO bs root) ad r with
    | false => rfl
    | true =>
      obtain ⟨h1, _⟩ := src_none (cond_none hc)
      have h2 : rs.filter (fun r => (getA ad r.1).isNone) = [] := List.eq_nil_of_length_eq_zero h0
      have h3 : r ∈ rs.filter (fun r => (getA ad r.1).isNone) := List.mem_filter.2 ⟨hr, by rw [hg r hr, h1]; rfl⟩
      rw [h2] at h3; cases h3
/-- where nothing more is taken the same is aside -/
theorem quiet_one {ad' : AsT} (hg : ∀ r ∈ rs, r.1 = shaG (dB r.2)) (h : OA rs bs ad) (h' : OA rs bs ad') (q' : QuietA rs (lackO bs root) ad') {x : List UInt8} (hx : Re (srcF (getB bs) ad') root x) {b : List UInt8} (hb : getA ad x = some b) : getA ad' x = some b := by
  obtain ⟨h1, h2, h3⟩ := h.fits x b hb
  cases hc : getA ad' x with
  | some b' =>
    have := (h'.fits x b' hc).1
    rw [h1] at this
    exact this.symm
  | none =>
    exfalso
    have hn : srcF (getB bs) ad' x = none := by unfold srcF; rw [hc]; exact h3
    have hm := (srcF_fin (getB_fin bs) ad').lacks hx hn
    obtain ⟨r, hr, e1, e2⟩ := getB_mem h1
    have := q' r hr
    unfold condA at this
    rw [e2, h2] at this
    have hsx : shaG b = x := by rw [← e2, ← hg r hr, e1]
    rw [hsx] at this
    have hm2 : (lackO bs root ad').contains x = true := by simpa using hm
    rw [hm2] at this
    cases this
theorem quiet_alike {ad' : AsT} (hg : ∀ r ∈ rs, r.1 = shaG (dB r.2)) (h : OA rs bs ad) (h' : OA rs bs ad') (q : QuietA rs (lackO bs root) ad) (q' : QuietA rs (lackO bs root) ad') {x : List UInt8} (hx : Re (srcF (getB bs) ad) root x) :
    Re (srcF (getB bs) ad') root x ∧ getA ad x = getA ad' x := by
  have key : ∀ {x}, Re (srcF (getB bs) ad) root x → Re (srcF (getB bs) ad') root x → getA ad x = getA ad' x := fun {x} h1 h2 => by
    cases ha : getA ad x with
    | some b => exact (quiet_one hg h h' q' h2 ha).symm
    | none =>
      cases hb : getA ad' x with
      | none => rfl
      | some b =>
        have := quiet_one hg h' h q h1 hb
        rw [ha] at this; cases this
  induction hx with
  | root => exact ⟨.root, key .root .root⟩
  | step h1 h2 h3 ih =>
    rename_i x y b
    have hs : srcF (getB bs) ad' x = some b := by
      rw [← h2]
      unfold srcF
      rw [ih.2]
    have hy := Re.step ih.1 hs h3
    exact ⟨hy, key (.step h1 h2 h3) hy⟩
end
/-- what is marked can be reached -/
theorem reachP_sound {S : SrcT} {P : List UInt8 → Prop} (hP : ∀ x b y, P x → S x = some b → y ∈ lkL (linksG b) → P y) : ∀ {n : Nat} {B : Ids} {st : List PlcT} {out R : Ids}, reachP S n B st out = some (.ok R) → (∀ p ∈ st, P p.1 ∧ ∀ y ∈ p.2, P y) → (∀ x ∈ out, P x) → ∀ x ∈ R, P x
  | 0, _, _, _, _, h, _, _ => by simp [reachP] at h
  | n + 1, B, [], out, R, h, _, ho => by
    simp only [reachP] at h
    have h := Option.some.inj h
    injection h with h
    subst h; exact ho
  | n + 1, B, (id, []) :: st, out, R, h, hs, ho => by
    simp only [reachP] at h
    refine reachP_sound hP h (fun p hp => hs p (by simp [hp])) fun x hx => ?_
    rcases List.mem_append.1 hx with h1 | h1
    · exact ho x h1
    · have h1 : x = id := by simpa using h1
      subst h1
      exact (hs (x, []) (by simp)).1
  | n + 1, B, (id, x :: l) :: st, out, R, h, hs, ho => by
    simp only [reachP] at h
    have h0 := hs (id, x :: l) (by simp)
    have h1 : ∀ p ∈ (id, l) :: st, P p.1 ∧ ∀ y ∈ p.2, P y := fun p hp => by
      rcases List.mem_cons.1 hp with rfl | hp
      · exact ⟨h0.1, fun y hy => h0.2 y (by simp [hy])⟩
      · exact hs p (by simp [hp])
    cases hp : pushP S x B ((id, l) :: st) with
    | error z => rw [hp] at h; simp at h
    | ok y =>
      rw [hp] at h
      rcases pushP_ok hp with ⟨_, rfl⟩ | ⟨_, b, l', hb, hl, rfl⟩
      · exact reachP_sound hP h h1 ho
      · refine reachP_sound hP h (fun p hp => ?_) ho
        rcases List.mem_cons.1 hp with rfl | hp
        · exact ⟨h0.2 x (by simp), fun y hy => hP x b y (h0.2 x (by simp)) hb (by rw [hl]; exact hy)⟩
        · exact h1 p hp
theorem markP_sound {S : SrcT} {n : Nat} {root : List UInt8} {R : Ids} (h : markP S n root = some (.ok R)) : ∀ x ∈ R, Re S root x := by
  unfold markP at h
  cases hp : pushP S root [] [] with
  | error z => rw [hp] at h; simp at h
  | ok y =>
    rw [hp] at h
    rcases pushP_ok hp with ⟨hx, _⟩ | ⟨_, b, l, hb, hl, rfl⟩
    · cases hx
    · refine reachP_sound (P := Re S root) (fun _ _ _ h1 h2 h3 => .step h1 h2 h3) h (fun p hp => ?_) (fun _ h => nomatch h)
      have hp : p = (root, l) := by simpa using hp
      subst hp
      exact ⟨.root, fun y hy => .step .root hb (by rw [hl]; exact hy)⟩
theorem filterMap_same {α β : Type} {f g : α → Option β} : ∀ {l : List α}, (∀ x ∈ l, f x = g x) → l.filterMap f = l.filterMap g
  | [], _ => rfl
  | x :: l, h => by rw [List.filterMap_cons, List.filterMap_cons, h x (by simp), filterMap_same fun y hy => h y (by simp [hy])]
theorem quiet_same {rs bs : List RecT} {root : List UInt8} {ad ad' : AsT} (hg : ∀ r ∈ rs, r.1 = shaG (dB r.2)) (h : OA rs bs ad) (h' : OA rs bs ad') (q : QuietA rs (lackO bs root) ad) (q' : QuietA rs (lackO bs root) ad') :
    lackO bs root ad = lackO bs root ad' ∧ recsF (getB bs) ad root = recsF (getB bs) ad' root := by
  have hs : ∀ x, Re (srcF (getB bs) ad) root x → srcF (getB bs) ad x = srcF (getB bs) ad' x := fun x hx => by
    have := (quiet_alike hg h h' q q' hx).2
    unfold srcF
    rw [this]
  have hf := srcF_fin (getB_fin bs) ad
  refine ⟨lackL_congr hf hs, ?_⟩
  unfold recsF
  rw [← markL_congr hf hs]
  cases hm : markL (srcF (getB bs) ad) root with
  | error z => rfl
  | ok R =>
    have h1 := hf.markL root
    rw [hm] at h1
    exact filterMap_same fun x hx => (quiet_alike hg h h' q q' (markP_sound h1 x hx)).2
/-- another fetch's map turns -/
theorem FT.other {w w' : World} {B g mb mb2 : Nat} {T : TypeId} {V : Value} {root : List UInt8} {m m2 : IM} {ad : AsT} (h : FT w B g T V root mb m ad) (h2 : MapW w mb2 m2) (hne : mb ≠ mb2) (hg : w.grownBy w' (some mb2)) : FT w' B g T V root mb m ad := by
  refine ⟨h.blk.grown hg (fun e => blk_map h.blk h2 (Option.some.inj e)), h.map.same (hg.block mb h.map.lt (fun e => hne (Option.some.inj e))), fun x => ?_, h.baseg, h.basem, h.r32⟩
  have he := h.els x
  cases hv : m.get x with
  | none => rw [hv] at he; exact he
  | some v =>
    rw [hv] at he
    obtain ⟨b', A', c', e1, e2, e3, e4⟩ := he
    exact ⟨b', A', c', e1, e2, ((apart_map e3 h2).stable (Moves.grown hg rfl)).forget, e4⟩
theorem FT.lower {w : World} {B B' g mb : Nat} {T : TypeId} {V : Value} {root : List UInt8} {m : IM} {ad : AsT} (h : FT w B g T V root mb m ad) (hb : B' ≤ B) : FT w B' g T V root mb m ad := ⟨h.blk, h.map, h.els, Nat.le_trans hb h.baseg, Nat.le_trans hb h.basem, h.r32⟩
end Go.Proofs.Ytgmbkcjihgphmaa
