/- Contracts and laws for what the statement reaches, joined: TalkPlain, TalkPlainM, TalkMark, TalkRecords. -/
import Derived.Test.YtgmbkcjihgphmaaGreatJn12
import Derived.Test.YtgmbkcjihgphmaaGreatJn18
/- fetch and marks, plain: what is lacking, level by level; what can be reached. -/
set_option linter.unusedVariables false
set_option linter.unusedSimpArgs false
namespace Go.Proofs.YtgmbkcjihgphmaaGreat
open Go.RowKit
abbrev SrcT := List UInt8 → Option (List UInt8)
/-- one by one, what is not there yet -/
def addIds (l : Ids) : Ids → Ids
 | [] => l
 | x :: r => addIds (if l.contains x = true then l else l ++ [x]) r
theorem addIds_mem : ∀ (r l : Ids) (x : List UInt8), x ∈ addIds l r ↔ x ∈ l ∨ x ∈ r
 | [], l, x => by simp [addIds]
 | y :: r, l, x => by
  unfold addIds
  rw [addIds_mem r]
  split
  ·rename_i h
   have h : y ∈ l := by simpa using h
   constructor
   ·rintro (h1 | h1)
    ·exact .inl h1
    ·exact .inr (by simp [h1])
   ·rintro (h1 | h1)
    ·exact .inl h1
    ·rcases List.mem_cons.1 h1 with rfl | h1
     ·exact .inl h
     ·exact .inr h1
  ·simp [or_assoc]
theorem addIds_pre : ∀ (r l : Ids), ∃ t, addIds l r = l ++ t
 | [], l => ⟨[], by simp [addIds]⟩
 | y :: r, l => by
  unfold addIds
  obtain ⟨t, ht⟩ := addIds_pre r (if l.contains y = true then l else l ++ [y])
  rw [ht]
  split
  ·exact ⟨t, rfl⟩
  ·exact ⟨y :: t, by simp⟩
theorem addIds_nodup : ∀ (r l : Ids), l.Nodup → (addIds l r).Nodup
 | [], l, h => h
 | y :: r, l, h => by
  unfold addIds
  refine addIds_nodup r _ ?_
  split
  ·exact h
  ·rename_i hc
   have hc : ¬ y ∈ l := by simpa using hc
   rw [List.nodup_append]
   refine ⟨h, by simp, fun a ha b hb e => ?_⟩
   have : b = y := by simpa using hb
   subst this; subst e
   exact hc ha
/-- what is lacking: n rounds at most -/
def lackP (S : SrcT) : Nat → Ids → Nat → Ids → Option Ids
 | 0, _, _, _ => none
 | n + 1, l, i, out => match l[i]? with
  | none => some out
  | some id => match S id with
   | none => lackP S n l (i + 1) (out ++ [id])
   | some b => lackP S n (addIds l (lkL (linksG b))) (i + 1) out
/-- what can be reached -/
inductive Re (S : SrcT) (root : List UInt8) : List UInt8 → Prop
 | root : Re S root root
 | step {x y b : List UInt8} : Re S root x → S x = some b → y ∈ lkL (linksG b) → Re S root y
section
variable {S : SrcT}
theorem lackP_mono : ∀ {n : Nat} {l : Ids} {i : Nat} {out R : Ids} (k : Nat), lackP S n l i out = some R → lackP S (n + k) l i out = some R
 | 0, _, _, _, _, _, h => by simp [lackP] at h
 | n + 1, l, i, out, R, k, h => by
  rw [show n + 1 + k = (n + k) + 1 by omega]
  unfold lackP at h ⊢
  cases hl : l[i]? with
  | none => rw [hl] at h; exact h
  | some id =>
   rw [hl] at h
   simp only at h ⊢
   cases hs : S id with
   | none => rw [hs] at h; exact lackP_mono k h
   | some b => rw [hs] at h; exact lackP_mono k h
theorem lackP_det {n m : Nat} {l : Ids} {i : Nat} {out R R' : Ids} (h : lackP S n l i out = some R) (h' : lackP S m l i out = some R') : R = R' := by
 have h1 := lackP_mono m h
 have h2 := lackP_mono n h'
 rw [show m + n = n + m by omega, h1] at h2
 exact Option.some.inj h2
/-- what is lacking is not there, and can be reached -/
theorem lackP_sound {P : List UInt8 → Prop} (hP : ∀ x b y, P x → S x = some b → y ∈ lkL (linksG b) → P y) : ∀ {n : Nat} {l : Ids} {i : Nat} {out R : Ids}, lackP S n l i out = some R → (∀ x ∈ l, P x) → (∀ x ∈ out, P x ∧ S x = none) → ∀ x ∈ R, P x ∧ S x = none
 | 0, _, _, _, _, h, _, _ => by simp [lackP] at h
 | n + 1, l, i, out, R, h, hl, ho => by
  unfold lackP at h
  cases hli : l[i]? with
  | none =>
   rw [hli] at h
   have h := Option.some.inj h
   subst h
   exact ho
  | some id =>
   rw [hli] at h
   simp only at h
   have hid := hl id (List.mem_of_getElem? hli)
   cases hs : S id with
   | none =>
    rw [hs] at h
    refine lackP_sound hP h hl fun x hx => ?_
    rcases List.mem_append.1 hx with h1 | h1
    ·exact ho x h1
    ·have h1 : x = id := by simpa using h1
     subst h1
     exact ⟨hid, hs⟩
   | some b =>
    rw [hs] at h
    refine lackP_sound hP h (fun x hx => ?_) ho
    rcases (addIds_mem _ _ _).1 hx with h1 | h1
    ·exact hl x h1
    ·exact hP id b x hid hs h1
/-- it ends -/
theorem lackP_ends {U : Ids} (hU : ∀ x ∈ U, ∀ b, S x = some b → ∀ y ∈ lkL (linksG b), y ∈ U) : ∀ {n : Nat} {l : Ids} {i : Nat} {out : Ids}, l.Nodup → (∀ x ∈ l, x ∈ U) → i ≤ l.length → U.length - i < n → ∃ R, lackP S n l i out = some R
 | 0, _, _, _, _, _, _, h => by omega
 | n + 1, l, i, out, hn, hl, hi, hf => by
  unfold lackP
  cases hli : l[i]? with
  | none => exact ⟨_, rfl⟩
  | some id =>
   have hid := hl id (List.mem_of_getElem? hli)
   have hlt : i < l.length := (List.getElem?_eq_some_iff.1 hli).1
   have hlu := List.Nodup.length_le_of_subset hn (fun x hx => hl x hx)
   simp only
   cases hs : S id with
   | none => exact lackP_ends hU hn hl (by omega) (by omega)
   | some b =>
    refine lackP_ends hU (addIds_nodup _ _ hn) (fun x hx => ?_) ?_ (by omega)
    ·rcases (addIds_mem _ _ _).1 hx with h1 | h1
     ·exact hl x h1
     ·exact hU id hid b hs x h1
    ·obtain ⟨t, ht⟩ := addIds_pre (lkL (linksG b)) l
     rw [ht]; simp; omega
end
/-- a source of few records -/
def FinS (S : SrcT) (nv : Nat) : Prop := ∃ V : Ids, V.length ≤ nv ∧ ∀ x b, S x = some b → x ∈ V
def linksOf (S : SrcT) (x : List UInt8) : Ids := match S x with
 | none => []
 | some b => lkL (linksG b)
theorem linksG_few {b : List UInt8} {l : Ids} (h : linksG b = .ok l) : l.length ≤ 4096 := by
 unfold linksG at h
 obtain ⟨k, _, h⟩ := bindR_ok h
 split at h
 ·obtain ⟨x, hx, h⟩ := bindR_ok h
  injection h with h
  subst h
  unfold getBlob at hx
  obtain ⟨vs, _, hx⟩ := bindR_ok hx
  obtain ⟨is, hi, hx⟩ := bindR_ok hx
  have := idsG_len hi
  unfold blobEnd at hx
  split at hx
  ·cases hx
  ·split at hx
   ·cases hx
   ·injection hx with hx; subst hx; exact this
 ·split at h
  ·obtain ⟨x, hx, h⟩ := bindR_ok h
   injection h with h
   subst h
   have := getTree_len hx
   simp; omega
  ·split at h
   ·obtain ⟨x, hx, h⟩ := bindR_ok h
    injection h with h
    subst h
    have := getCommit_len hx
    simp; omega
   ·obtain ⟨x, hx, h⟩ := bindR_ok h
    injection h with h
    subst h
    simp
theorem lkL_few (b : List UInt8) : (lkL (linksG b)).length ≤ 4096 := by
 cases h : linksG b with
 | ok l => exact linksG_few h
 | error z => simp [lkL]
theorem flat_few {f : List UInt8 → Ids} (hf : ∀ x, (f x).length ≤ 4096) : ∀ V : Ids, (V.flatMap f).length ≤ V.length * 4096
 | [] => by simp
 | x :: V => by
  have h1 := flat_few hf V
  have h2 := hf x
  rw [List.flatMap_cons, List.length_append, List.length_cons]
  omega
theorem linksOf_few (S : SrcT) (x : List UInt8) : (linksOf S x).length ≤ 4096 := by
 unfold linksOf
 cases S x with
 | none => simp
 | some b => exact lkL_few b
/-- all ids that may be come by -/
theorem FinS.all {S : SrcT} {nv : Nat} (h : FinS S nv) (root : List UInt8) : ∃ U : Ids, U.length ≤ nv * 4096 + 1 ∧ root ∈ U ∧ ∀ x b, S x = some b → ∀ y ∈ lkL (linksG b), y ∈ U := by
 obtain ⟨V, h1, h2⟩ := h
 refine ⟨root :: V.flatMap (linksOf S), ?_, by simp, fun x b hx y hy => ?_⟩
 ·have h3 := flat_few (linksOf_few S) V
  have h4 : V.length * 4096 ≤ nv * 4096 := Nat.mul_le_mul_right _ h1
  rw [List.length_cons]; omega
 ·refine List.mem_cons_of_mem _ (List.mem_flatMap.2 ⟨x, h2 x b hx, ?_⟩)
  unfold linksOf
  rw [hx]; exact hy
theorem FinS.lack {S : SrcT} {nv : Nat} (h : FinS S nv) (root : List UInt8) : ∃ R, lackP S (nv * 4096 + 2) [root] 0 [] = some R := by
 obtain ⟨U, h1, h2, h3⟩ := h.all root
 exact lackP_ends (U := U) (fun x _ b hx y hy => h3 x b hx y hy) (by simp) (fun x hx => by have : x = root := (by simpa using hx); subst this; exact h2) (Nat.zero_le _) (by omega)
/-! ### what is lacking, without a count -/
open Classical in
noncomputable def lackL (S : SrcT) (root : List UInt8) : Ids := if h : ∃ R n, lackP S n [root] 0 [] = some R then h.choose else []
theorem lackL_eq {S : SrcT} {root : List UInt8} {n : Nat} {R : Ids} (h : lackP S n [root] 0 [] = some R) : lackL S root = R := by
 have hx : ∃ R n, lackP S n [root] 0 [] = some R := ⟨R, n, h⟩
 unfold lackL
 rw [dif_pos hx]
 obtain ⟨m, hm⟩ := hx.choose_spec
 exact lackP_det hm h
theorem FinS.lackL {S : SrcT} {nv : Nat} (h : FinS S nv) (root : List UInt8) : lackP S (nv * 4096 + 2) [root] 0 [] = some (lackL S root) := by
 obtain ⟨R, hR⟩ := h.lack root
 rw [hR, lackL_eq hR]
section
variable {S : SrcT} {nv : Nat} {root x : List UInt8}
theorem FinS.re (h : FinS S nv) (hx : x ∈ Proofs.YtgmbkcjihgphmaaGreat.lackL S root) : Re S root x ∧ S x = none :=
 lackP_sound (P := Re S root) (fun _ _ _ h1 h2 h3 => .step h1 h2 h3) (h.lackL root) (fun y hy => by have : y = root := (by simpa using hy); subst this; exact .root) (fun _ h => nomatch h) x hx
theorem FinS.lack_len (h : FinS S nv) : (Proofs.YtgmbkcjihgphmaaGreat.lackL S root).length ≤ nv * 4096 + 1 := by
 have hn : ∀ {n : Nat} {l : Ids} {i : Nat} {out R : Ids}, lackP S n l i out = some R → R.length ≤ out.length + (n - 1) := by
  intro n
  induction n with
  | zero => intro l i out R h; simp [lackP] at h
  | succ n ih =>
   intro l i out R h
   unfold lackP at h
   cases hli : l[i]? with
   | none => rw [hli] at h; have h := Option.some.inj h; subst h; omega
   | some id =>
    rw [hli] at h
    simp only at h
    cases n with
    | zero => cases hs : S id <;> (rw [hs] at h; simp [lackP] at h)
    | succ n =>
     cases hs : S id with
     | none => rw [hs] at h; have := ih h; simp at this; omega
     | some b => rw [hs] at h; have := ih h; omega
 have := hn (h.lackL root)
 simp at this
 omega
end
theorem srcF_fin {S : SrcT} {nv : Nat} (h : FinS S nv) (ad : AsT) : FinS (srcF S ad) (nv + ad.length) := by
 obtain ⟨V, h1, h2⟩ := h
 refine ⟨V ++ ad.map (·.1), by simp; omega, fun x b hx => ?_⟩
 unfold srcF at hx
 cases hg : getA ad x with
 | none => rw [hg] at hx; exact List.mem_append_left _ (h2 x b hx)
 | some b' =>
  unfold getA at hg
  cases hf : ad.find? (fun p => p.1 == x) with
  | none => rw [hf] at hg; cases hg
  | some p =>
   have h3 := List.find?_some hf
   have h3 : p.1 = x := by simpa using h3
   exact List.mem_append_right _ (List.mem_map.2 ⟨p, List.mem_of_find?_eq_some hf, h3⟩)
theorem getB_fin (rs : List RecT) : FinS (getB rs) rs.length := ⟨rs.map (·.1), by simp, fun x b hx => by
 unfold getB getS at hx
 cases hf : rs.find? (fun r => r.1 == x) with
 | none => rw [hf] at hx; cases hx
 | some p =>
  have h3 := List.find?_some hf
  have h3 : p.1 = x := by simpa using h3
  exact List.mem_map.2 ⟨p, List.mem_of_find?_eq_some hf, h3⟩⟩
end Go.Proofs.YtgmbkcjihgphmaaGreat
/- marks, plain: what is marked; that it ends; that it hangs on what can be reached alone. -/
namespace Go.Proofs.YtgmbkcjihgphmaaGreat
open Go.RowKit
section
variable {S : SrcT}
theorem pushP_ok {id : List UInt8} {B : Ids} {st : List PlcT} {y : Ids × List PlcT} (h : pushP S id B st = .ok y) : (id ∈ B ∧ y = (B, st)) ∨ (id ∉ B ∧ ∃ b l, S id = some b ∧ linksG b = .ok l ∧ y = (id :: B, (id, l) :: st)) := by
 unfold pushP at h
 split at h
 ·rename_i hc
  injection h with h
  exact .inl ⟨by simpa using hc, h.symm⟩
 ·rename_i hc
  refine .inr ⟨by simpa using hc, ?_⟩
  split at h
  ·cases h
  ·rename_i b hb
   split at h
   ·rename_i l hl
    injection h with h
    exact ⟨b, l, hb, hl, h.symm⟩
   ·cases h
theorem reachP_mono : ∀ {n : Nat} {B : Ids} {st : List PlcT} {out : Ids} {R : Except Int Ids} (k : Nat), reachP S n B st out = some R → reachP S (n + k) B st out = some R
 | 0, _, _, _, _, _, h => by simp [reachP] at h
 | n + 1, B, [], out, R, k, h => by
  rw [show n + 1 + k = (n + k) + 1 by omega]
  simpa [reachP] using h
 | n + 1, B, (id, []) :: st, out, R, k, h => by
  rw [show n + 1 + k = (n + k) + 1 by omega]
  simp only [reachP] at h ⊢
  exact reachP_mono k h
 | n + 1, B, (id, x :: l) :: st, out, R, k, h => by
  rw [show n + 1 + k = (n + k) + 1 by omega]
  simp only [reachP] at h ⊢
  cases hp : pushP S x B ((id, l) :: st) with
  | error z => rw [hp] at h; exact h
  | ok y => rw [hp] at h; exact reachP_mono k h
theorem markP_mono {n : Nat} {root : List UInt8} {R : Except Int Ids} (k : Nat) (h : markP S n root = some R) : markP S (n + k) root = some R := by
 unfold markP at h ⊢
 cases hp : pushP S root [] [] with
 | error z => rw [hp] at h; exact h
 | ok y => rw [hp] at h; exact reachP_mono k h
theorem markP_det {n m : Nat} {root : List UInt8} {R R' : Except Int Ids} (h : markP S n root = some R) (h' : markP S m root = some R') : R = R' := by
 have h1 := markP_mono m h
 have h2 := markP_mono n h'
 rw [show m + n = n + m by omega, h1] at h2
 exact Option.some.inj h2
/-- it ends -/
def stN (st : List PlcT) : Nat := (st.map (fun p => p.2.length + 1)).sum
theorem reachP_ends {V : Ids} (hV : ∀ x b, S x = some b → x ∈ V) : ∀ {n : Nat} {B : Ids} {st : List PlcT} {out : Ids}, B.Nodup → (∀ x ∈ B, x ∈ V) → stN st + (V.length - B.length) * 4098 < n → ∃ R, reachP S n B st out = some R
 | 0, _, _, _, _, _, h => by omega
 | n + 1, B, [], out, _, _, _ => ⟨_, rfl⟩
 | n + 1, B, (id, []) :: st, out, hn, hb, h => by
  simp only [reachP]
  refine reachP_ends hV hn hb ?_
  have : stN ((id, []) :: st) = stN st + 1 := by simp [stN]; omega
  omega
 | n + 1, B, (id, x :: l) :: st, out, hn, hb, h => by
  simp only [reachP]
  have h0 : stN ((id, x :: l) :: st) = stN ((id, l) :: st) + 1 := by simp [stN]; omega
  cases hp : pushP S x B ((id, l) :: st) with
  | error z => exact ⟨_, rfl⟩
  | ok y =>
   rcases pushP_ok hp with ⟨_, rfl⟩ | ⟨hx, b, l', hb', hl, rfl⟩
   ·exact reachP_ends hV hn hb (by simp only; omega)
   ·have hn2 : (x :: B).Nodup := List.nodup_cons.2 ⟨hx, hn⟩
    have hb2 : ∀ z ∈ x :: B, z ∈ V := fun z hz => by
     rcases List.mem_cons.1 hz with rfl | hz
     ·exact hV z b hb'
     ·exact hb z hz
    have hle := List.Nodup.length_le_of_subset hn2 (fun z hz => hb2 z hz)
    have h3 := linksG_few hl
    have h4 : stN ((x, l') :: (id, l) :: st) = l'.length + 1 + stN ((id, l) :: st) := by simp [stN]
    refine reachP_ends hV hn2 hb2 ?_
    simp only [List.length_cons] at hle ⊢
    obtain ⟨d, hd⟩ : ∃ d, d = V.length - (B.length + 1) := ⟨_, rfl⟩
    have h5 : V.length - B.length = d + 1 := by omega
    rw [h5] at h
    rw [← hd, h4]
    omega
end
theorem FinS.mark {S : SrcT} {nv : Nat} (h : FinS S nv) (root : List UInt8) : ∃ R, markP S (nv * 4098 + 4099) root = some R := by
 obtain ⟨V, h1, h2⟩ := h
 unfold markP
 cases hp : pushP S root [] [] with
 | error z => exact ⟨_, rfl⟩
 | ok y =>
  rcases pushP_ok hp with ⟨hx, _⟩ | ⟨hx, b, l, hb, hl, rfl⟩
  ·cases hx
  ·refine reachP_ends h2 (by simp) (fun z hz => ?_) ?_
   ·have hz : z = root := by simpa using hz
    subst hz
    exact h2 z b hb
   ·have h3 := linksG_few hl
    have h4 : stN [(root, l)] = l.length + 1 := by simp [stN]
    have h5 : (V.length - 1) * 4098 ≤ nv * 4098 := Nat.mul_le_mul_right _ (by omega)
    simp only [List.length_cons, List.length_nil]
    omega
open Classical in
noncomputable def markL (S : SrcT) (root : List UInt8) : Except Int Ids := if h : ∃ R n, markP S n root = some R then h.choose else .error 0
theorem markL_eq {S : SrcT} {root : List UInt8} {n : Nat} {R : Except Int Ids} (h : markP S n root = some R) : markL S root = R := by
 have hx : ∃ R n, markP S n root = some R := ⟨R, n, h⟩
 unfold markL
 rw [dif_pos hx]
 obtain ⟨m, hm⟩ := hx.choose_spec
 exact markP_det hm h
theorem FinS.markL {S : SrcT} {nv : Nat} (h : FinS S nv) (root : List UInt8) : markP S (nv * 4098 + 4099) root = some (markL S root) := by
 obtain ⟨R, hR⟩ := h.mark root
 rw [hR, markL_eq hR]
/-- what was put aside, in order -/
def recM (ad : AsT) : Except Int Ids → List (List UInt8)
 | .ok ids => ids.filterMap (getA ad)
 | .error _ => []
noncomputable def recsF (S : SrcT) (ad : AsT) (root : List UInt8) : List (List UInt8) := recM ad (markL (srcF S ad) root)
end Go.Proofs.YtgmbkcjihgphmaaGreat
/- collect.Mark, of one root. -/
namespace Go.Proofs.YtgmbkcjihgphmaaGreat
open Go.RowKit
def MarkPost (w : World) (R : Except Int Ids) (e : Ending) (w' : World) : Prop :=
 Below w.heap.size w w' ∧ match R with
  | .ok ids => ∃ A m c, e = .returned (.tuple #[.slice A m c, .int .i64 0]) ∧ RowR oidR 33 w' w.heap.size A m c ids
  | .error z => e = .returned (.tuple #[.slice none 0 0, .int .i64 z]) ∧ z ≠ 0
theorem built_marks (T : TypeId) (V : Value) (ms : Nat) : Tryz.prog.built 138 [(0, .iface T V), (1, .map (some ms))] = some #[.iface T V, .map (some ms), .slice none 0 0] := by kernel_rfl
/-- what a round leaves -/
def MarkRel (w : World) (T : TypeId) (V : Value) (gm ms : Nat) (R : Except Int Ids) (wr : World) : Prop :=
 ∃ Ao mo co ids, R = .ok ids ∧ Blk wr gm 138 #[.iface T V, .map (some ms), .slice Ao mo co] ∧ RowR oidR 33 wr w.heap.size Ao mo co ids ∧ Below w.heap.size w wr
set_option maxRecDepth 100000 in
set_option maxHeartbeats 4000000 in
theorem mark_any {T : TypeId} {V : Value} {K : Nat} {S : SrcT} {nv : Nat} (W0 w : World) (hS : SrcK W0 T V K S) (hB : Below W0.heap.size W0 w) (hf : FinS S nv) (hnv : nv ≤ 200000)
  (A : Option Addr) (c : Nat) (root : List UInt8) (hs : SlOf oidR w no A [root]) :
  Calls Tryz.prog 33 #[.iface T V, .slice A 1 c] w (MarkPost w (markL S root)) := by
 have hmm := @run_makeMap Tryz.prog
 have h32 : root.length = 32 := oids_32 hs root (by simp)
 obtain ⟨b1, o1, x, rfl, hb1, hx, _, hat⟩ := oids_look hs rfl (i := 0) (by simp)
 have e : x = root := by simpa using hx.symm
 subst e
 obtain ⟨R, hR⟩ : ∃ R, R = markL S x := ⟨_, rfl⟩
 have HMP := Lib.hid (hf.markL x)
 rw [← hR] at HMP ⊢
 obtain ⟨KX, hKX⟩ : ∃ KX, KX = (bytesV x).toArray := ⟨_, rfl⟩
 have HI := Lib.hid (show (Tryz.prog.info? 33).map (·.size) = some KX.size by rw [hKX]; exact oid_size h32)
 have hat2 : At w ⟨b1, o1, none⟩ KX := by rw [hKX]; simpa using hat
 have HO := Lib.hid (show KX.all (·.oneCell') = true by rw [hKX]; exact oid_one _)
 have HZZ := Lib.hid (show zID.size = KX.size by rw [hKX]; simp [bytesV, h32])
 obtain ⟨KM, hKM⟩ : ∃ KM : Array Value, KM = #[.iface T V, .map (some w.heap.size), .slice none 0 0] := ⟨_, rfl⟩
 have HBU := Lib.hid (show Tryz.prog.built 138 [(0, .iface T V), (1, .map (some w.heap.size))] = some KM by rw [hKM]; exact built_marks T V _)
 have HIM := Lib.hid (show (Tryz.prog.info? 138).map (·.size) = some KM.size by rw [hKM]; kernel_rfl)
 obtain ⟨w2, hw2⟩ : ∃ w2, w2 = (w.alloc (.map #[] 0)).alloc (.cells KM 138) := ⟨_, rfl⟩
 have hba : Below w.heap.size w (w.alloc (.map #[] 0)) := (Below.refl _ _).alloc (Nat.le_refl _) _
 have hB2 : Below w.heap.size w w2 := by rw [hw2]; exact hba.alloc (by simp) _
 have HB2 := Lib.hid hB2
 have HMM := Lib.hid (show MapW w2 w.heap.size [] by rw [hw2]; exact (mapW_new w).below ((Below.refl _ _).alloc (Nat.le_refl _) _))
 have HMK := Lib.hid (show Blk w2 (w.heap.size + 1) 138 KM by rw [hw2]; have := Blk.new (w.alloc (.map #[] 0)) 138 KM; simpa using this)
 have HAT := Lib.hid (show At w2 ⟨b1, o1, none⟩ KX from hat2.below hB2 hb1)
 have HW2 := Lib.hid hw2
 obtain ⟨w4, hw4⟩ : ∃ w4, w4 = w2.alloc (.cells KX 33) := ⟨_, rfl⟩
 have hba4 : Below w2.heap.size w2 w4 := by rw [hw4]; exact (Below.refl _ _).alloc (Nat.le_refl _) _
 have HK4 := Lib.hid (show Blk w4 w2.heap.size 33 KX by rw [hw4]; exact Blk.new w2 _ _)
 have HBE := Lib.hid hB.size
 have HRE := Lib.hid (reach_any (base := w.heap.size) (gm := w.heap.size + 1) (ms := w.heap.size) W0 w4 hS (hB.trans ((hB2.trans (hba4.mono hB2.size)).mono hB.size)) hB.size (by have := HMK.out.below hba4 HMK.out.lt; rw [hKM] at this; exact this) (HMM.out.below hba4) (by omega) (Nat.le_refl _) x h32 (nv * 4098 + 4099) R HMP.out (by omega))
 rw [show idV x = .agg KX by rw [hKX]] at HRE
 have HB4 := Lib.hid (hB2.trans (hba4.mono hB2.size))
 have HW4 := Lib.hid hw4
 clear hS hB hf hnv hs hx hat hat2 hR HMP hKX hKM hw2 hba hB2 hw4 hba4 h32
 go_enter Tryz.func33, Tryz.ntmps33
 go_upto_region 2 with (first | (refine wpList_built2 rfl 138 (.tmp 10) (.tmp 11) rfl KM rfl rfl HBU.out ?_) | fail)
 rw [← HW2.out]
 generalize hgs : w.heap.size = gs at *
 have HGS := Lib.hid hgs
 clear hgs HW2
 have hgs1 : (w.alloc (.map #[] 0)).heap.size = gs + 1 := by simp [HGS.out]
 try simp only [hgs1]
 go_wp2_with fail
 go_loopw [16] (fun s16 wr => (s16 = .int .i64 0 ∧ wr = w2) ∨ (s16 = .int .i64 1 ∧ Hid (MarkRel w T V (gs + 1) gs R wr))) (fun s16 wr => 1 - (intOf s16).toNat)
 case atStart => exact .inl ⟨rfl, rfl⟩
 case round =>
  obtain ⟨rfl, rfl⟩ | ⟨rfl, HRL⟩ := hrel
  ·have HNB := Lib.hid (Blk.new wr 33 zID)
   go_upto_region 5 with (first | (refine wpList_load_at rfl _ _ rfl b1 o1 rfl KX _ HAT.out Tryz.underlying33 rfl HI.out ?_) | (refine wpList_store_row rfl _ _ _ rfl wr.heap.size KX rfl rfl 33 _ HNB.out HI.out HZZ.out HO.out ?_) | fail)
   rw [World.setRow_alloc_new]
   go_frame
   change Code.wp _ _ _ _ (wr.alloc (.cells KX 33))
   rw [← HW4.out]
   generalize hg4 : wr.heap.size = g4 at *
   clear HNB HW4 hg4
   go_wp2_with (first | (refine wpList_load_at rfl _ _ rfl g4 0 rfl KX _ (At.of_row HK4.out) Tryz.underlying33 rfl HI.out ?_) | fail)
   refine HRE.out.mono ?_
   rintro e w5 ⟨hb5, hm⟩
   cases R with
   | error z =>
    obtain ⟨rfl, hz⟩ := hm
    have hz2 : (z != 0) = true := by simpa using hz
    have HZ := Lib.hid hz
    have HB5 := Lib.hid (HB4.out.trans hb5)
    clear hb5 hz HRE
    go_wp2_with fail
    go_ret2
    exact ⟨by rw [HGS.out]; exact HB5.out, rfl, HZ.out⟩
   | ok ids =>
    obtain ⟨rfl, Ao, mo, co, hk, hr⟩ := hm
    have HRL := Lib.hid (show MarkRel w T V (gs + 1) gs (.ok ids) w5 from ⟨Ao, mo, co, ids, rfl, hk, by rw [HGS.out]; exact hr, by rw [HGS.out]; exact HB4.out.trans hb5⟩)
    clear hb5 hk hr HRE
    go_wp2_with fail
    go_roundw
    case rel => exact .inr ⟨by go_num, HRL⟩
    case measure => simp [intOf]
  ·obtain ⟨Ao, mo, co, ids, hRe, hk, hr, hb⟩ := HRL.out
   subst hRe
   have HRW := Lib.hid hr
   have HBB := Lib.hid hb
   have t1 : wr.cell? ⟨gs + 1, 2, none⟩ = some (.slice Ao mo co) := hk.cell 2
   clear hk hr hb HRE
   go_wp2_with fail
   go_ret2
   exact ⟨HBB.out, Ao, mo, co, rfl, HRW.out⟩
end Go.Proofs.YtgmbkcjihgphmaaGreat
/- (*talk.Fetch).Records. -/
namespace Go.Proofs.YtgmbkcjihgphmaaGreat
open Go.RowKit
theorem reachP_len {S : SrcT} : ∀ {n : Nat} {B : Ids} {st : List PlcT} {out R : Ids}, reachP S n B st out = some (.ok R) → R.length ≤ out.length + n
 | 0, _, _, _, _, h => by simp [reachP] at h
 | n + 1, B, [], out, R, h => by
  simp only [reachP] at h
  have h := Option.some.inj h
  injection h with h
  subst h; omega
 | n + 1, B, (id, []) :: st, out, R, h => by
  simp only [reachP] at h
  have := reachP_len h
  simp at this; omega
 | n + 1, B, (id, x :: l) :: st, out, R, h => by
  simp only [reachP] at h
  cases hp : pushP S x B ((id, l) :: st) with
  | error z => rw [hp] at h; simp at h
  | ok y =>
   rw [hp] at h
   have := reachP_len h
   omega
theorem markP_len {S : SrcT} {n : Nat} {root : List UInt8} {R : Ids} (h : markP S n root = some (.ok R)) : R.length ≤ n := by
 unfold markP at h
 cases hp : pushP S root [] [] with
 | error z => rw [hp] at h; simp at h
 | ok y =>
  rw [hp] at h
  have := reachP_len h
  simpa using this
theorem RowR.lower {α : Type} {r : Rd α} {e : TypeId} {w : World} {base base' m c : Nat} {A : Option Addr} {l : List α} (h : RowR r e w base A m c l) (hb : base' ≤ base) : RowR r e w base' A m c l := by
 obtain ⟨xs, h1, h2⟩ := h.row
 exact ⟨⟨xs, own_mono h1 hb, h2⟩, h.len⟩
theorem recs_step {ad : AsT} {ids : Ids} {k : Nat} {id : List UInt8} (h : ids[k]? = some id) : (ids.drop k).filterMap (getA ad) = match getA ad id with
  | none => (ids.drop (k + 1)).filterMap (getA ad)
  | some b => b :: (ids.drop (k + 1)).filterMap (getA ad) := by
 obtain ⟨h1, h2⟩ := List.getElem?_eq_some_iff.1 h
 rw [List.drop_eq_getElem_cons h1, h2, List.filterMap_cons]
 cases getA ad id <;> rfl
set_option maxRecDepth 100000 in
set_option maxHeartbeats 8000000 in
theorem records_any {T : TypeId} {V : Value} {K : Nat} {S : SrcT} {nv g mb : Nat} {root : List UInt8} {m : IM} {ad : AsT} (W0 w : World) (hS : SrcK W0 T V K S) (hB : Below W0.heap.size W0 w) (h : FT w W0.heap.size g T V root mb m ad)
  (hf : FinS S nv) (hnv : nv + ad.length ≤ 200000) :
  Calls Tryz.prog 15 #[.pointer (some ⟨g, 0, none⟩)] w (RowsPost w (recsF S ad root)) := by
 obtain ⟨KI, hKI⟩ : ∃ KI, KI = (bytesV root).toArray := ⟨_, rfl⟩
 have HII := Lib.hid (show (Tryz.prog.info? 33).map (·.size) = some KI.size by rw [hKI]; exact oid_size h.r32)
 have hks : KI.size = 32 := by rw [hKI]; simp [bytesV, h.r32]
 have hbs : (Instr.buildSlice 46 1 #[(0, .agg KI)]).run Tryz.prog w = .ok (.slice (some ⟨w.heap.size, 0, none⟩) 1 1) (w.alloc (.cells KI 33)) := bsId_of w KI hks
 have HAT := Lib.hid (show At w ⟨g, 1, none⟩ KI by rw [hKI]; exact fetch_id_at h.blk)
 obtain ⟨w1, hw1⟩ : ∃ w1, w1 = w.alloc (.cells KI 33) := ⟨_, rfl⟩
 have hB1 : Below w.heap.size w w1 := by rw [hw1]; exact (Below.refl _ _).alloc (Nat.le_refl _) _
 have HB1 := Lib.hid hB1
 have hs1 : SlOf oidR w1 no (some ⟨w.heap.size, 0, none⟩) [root] := by
  rw [hw1, hKI]
  refine ⟨bytesV root, ?_, by simpa using (Each.nil (R := oidR.R _ no)).snoc (oid_of _ no h.r32), fun _ _ _ _ q => q⟩
  exact Sl.fresh w (bytesV root).toArray 33 (0, 0) 1 32 (by simp [bytesV_length, h.r32])
 have HMA := Lib.hid (mark_any w w1 (fetch_src W0 w hS hB h) hB1 (srcF_fin hf ad) hnv _ 1 root hs1)
 have HLE := Lib.hid (fun ids (e : markL (srcF S ad) root = .ok ids) => show ids.length ≤ 1000000000 by
  have h1 := (srcF_fin hf ad).markL root
  rw [e] at h1
  have := markP_len h1
  omega)
 obtain ⟨MM, hMM⟩ : ∃ MM, MM = markL (srcF S ad) root := ⟨_, rfl⟩
 have HRR := Lib.hid (show recsF S ad root = recM ad MM by rw [hMM]; rfl)
 rw [← hMM] at HMA HLE
 obtain ⟨R, hR⟩ : ∃ R, R = recsF S ad root := ⟨_, rfl⟩
 rw [← hR] at HRR ⊢
 have HF := Lib.hid h
 have HW1 := Lib.hid hw1
 have HWS := Lib.hid (show w.heap.size < w1.heap.size by rw [hw1]; simp)
 clear hS hB h hf hnv hKI hks hw1 hB1 hs1 hMM hR
 go_enter Tryz.func15, Tryz.ntmps15
 go_upto_region 1 with fail
 go_wp2_with (first
  | (refine wpList_load_at rfl _ _ rfl g 1 rfl KI _ HAT.out Tryz.underlying33 rfl HII.out ?_)
  | (refine wpList_build1 rfl (.tmp 16) rfl (.agg KI) _ rfl hbs ?_) | fail)
 rw [← HW1.out]
 refine HMA.out.mono ?_
 rintro e w2 ⟨hb2, hm⟩
 clear HMA hbs HAT HW1
 cases MM with
 | error z =>
  obtain ⟨rfl, hz⟩ := hm
  have hz2 : (z != 0) = true := by simpa using hz
  have HB2 := Lib.hid (HB1.out.trans (hb2.mono (Nat.le_of_lt HWS.out)))
  clear hz hb2
  go_wp2_with fail
  go_ret
  rw [HRR.out]
  exact ⟨HB2.out, none, 0, 0, rfl, RowR.nil _ _ _ _⟩
 | ok ids =>
  obtain ⟨A2, n, c2, rfl, hr2⟩ := hm
  have HB2 := Lib.hid (HB1.out.trans (hb2.mono (Nat.le_of_lt HWS.out)))
  have HN := Lib.hid hr2.len.symm
  have HIS := Lib.hid hr2.sl
  have HNL := Lib.hid (show n ≤ 1000000000 by have := HLE.out ids rfl; have := HN.out; omega)
  have HRF := Lib.hid (show R = ids.filterMap (getA ad) from HRR.out)
  have hn9 := HNL.out
  clear hb2 hr2 HLE HRR
  go_wp2_with fail
  go_loopw [5, 25] (fun s5 s25 wr => ∃ (k mo co : Nat) (Ao : Option Addr) (out : List (List UInt8)), k ≤ n ∧ s25 = .int .i64 (k : Int) ∧ s5 = .slice Ao mo co ∧ Hid (mo ≤ k) ∧ Hid (RowR byR 38 wr w2.heap.size Ao mo co out) ∧ Hid (out ++ (ids.drop k).filterMap (getA ad) = R) ∧ Hid (Below w2.heap.size w2 wr)) (fun s5 s25 wr => n - (intOf s25).toNat)
  case atStart => exact ⟨0, 0, 0, none, [], by omega, rfl, rfl, Lib.hid (Nat.le_refl _), Lib.hid (RowR.nil _ _ _ _), Lib.hid HRF.out.symm, Lib.hid (Below.refl _ _)⟩
  case round =>
   obtain ⟨k, mo, co, Ao, out, hk, rfl, rfl, HMO, HRW, HF0, HBM⟩ := hrel
   have HBL := Lib.hid (HB2.out.trans (HBM.out.mono HB2.out.size))
   by_cases hlt : k < n
   ·have hltI : (k : Int) < (n : Int) := by omega
    obtain ⟨b1, o1, x, rfl, hb1, hx, h32, hat⟩ := oids_look (HIS.out.below HBM.out) HN.out (show k < n by omega)
    obtain ⟨KX, hKX⟩ : ∃ KX, KX = (bytesV x).toArray := ⟨_, rfl⟩
    have HI := Lib.hid (show (Tryz.prog.info? 33).map (·.size) = some KX.size by rw [hKX]; exact oid_size h32)
    rw [← hKX] at hat
    have HATX := Lib.hid hat
    have HZZ := Lib.hid (show zID.size = KX.size by rw [hKX]; simp [bytesV, h32])
    have HO := Lib.hid (show KX.all (·.oneCell') = true by rw [hKX]; exact oid_one _)
    have HNB := Lib.hid (Blk.new wr 33 zID)
    have hba : Below wr.heap.size wr (wr.alloc (.cells KX 33)) := (Below.refl _ _).alloc (Nat.le_refl _) _
    have HBA := Lib.hid hba
    have HST := Lib.hid (recs_step (ad := ad) hx)
    have HKX := Lib.hid hKX
    have H32 := Lib.hid h32
    have hmo := HMO.out
    clear hx hat hba hKX h32
    go_upto_region 8 with (first | (refine wpList_load_at rfl _ _ rfl b1 (o1 + k * 32) rfl KX _ HATX.out Tryz.underlying33 rfl HI.out ?_) | (refine wpList_store_row rfl _ _ _ rfl wr.heap.size KX rfl rfl 33 _ HNB.out HI.out HZZ.out HO.out ?_) | fail)
    rw [World.setRow_alloc_new]
    go_frame
    change Code.wp _ _ _ _ (wr.alloc (.cells KX 33))
    have HB4 := Lib.hid (HBL.out.trans (HBA.out.mono HBL.out.size))
    have HBM4 := Lib.hid (HBM.out.trans (HBA.out.mono HBM.out.size))
    have HK4 := Lib.hid (Blk.new wr 33 KX)
    have HRW4 := Lib.hid (HRW.out.below HBA.out)
    generalize hG : wr.heap.size = GO at *
    generalize wr.alloc (.cells KX 33) = w4 at *
    clear HRW HNB hG HBA HATX HZZ HO HBL HBM
    have HF4 := Lib.hid (HF.out.go HB4.out)
    have HLK := Lib.hid (fun w' (hb : Below w4.heap.size w4 w') => by
     have h1 := (HF4.out.map.below hb).lookup H32.out Tryz.underlying74 (zeroSl w') true
     rw [show idV x = .agg KX by rw [HKX.out]] at h1
     exact h1)
    have HC33 := Lib.hid ((HF4.out.blk.cell 33).trans (fetchK_get HF4.out.r32 T V mb).2)
    have hgl := HF4.out.blk.lt
    have hgo := HK4.out.lt
    have hdr : Below w4.heap.size w4 w4.drew := Same.below ⟨1, rfl⟩ _
    have HDR := Lib.hid hdr
    have HBD := Lib.hid (HB4.out.trans (hdr.mono HB4.out.size))
    have HBMD := Lib.hid (HBM4.out.trans (hdr.mono HBM4.out.size))
    have HRWD := Lib.hid (HRW4.out.below hdr)
    have hEL := HF4.out.els x
    cases hv : m.get x with
    | none =>
     rw [hv] at hEL
     have hEL : getA ad x = none := hEL
     have HF5 := Lib.hid (show out ++ (ids.drop (k + 1)).filterMap (getA ad) = R by
      have := HF0.out
      rw [HST.out, hEL] at this
      exact this)
     have HLK2 := Lib.hid (fun w' hb => show (Instr.lookup 74 (.map (some mb)) (.agg KX) true).run Tryz.prog w' = .ok (.tuple #[.slice none 0 0, .bool false]) w' by
      have := HLK.out w' hb
      rw [hv] at this
      exact this)
     clear HLK hv hEL HST HF0 HRW4 HB4 HBM4 hdr
     refine wp_region_held (S := fun w' => Below w4.heap.size w4 w') (by kernel_rfl) ?_
     change wpAnyH _ _ _ _ _ _ _ _ (World.drew _)
     refine rgT 0 HDR.out ?_
     refine rgT 1 HDR.out ?_
     refine rgT 2 HDR.out ?_
     refine rgU 3 (v := ?_) (a' := ?_) HDR.out ?_ ?_ ?_
     rotate_left 2
     ·(intro w hS; have t := (hS.cell (p := ⟨g, 33, none⟩) hgl).trans HC33.out; go_simp; try with_reducible rfl)
     ·(go_simp; try with_reducible rfl)
     refine rgU 4 (v := ?_) (a' := ?_) HDR.out ?_ ?_ ?_
     rotate_left 2
     ·(intro w hS; refine exec_load_at 33 (.tmp 7) ?_ GO 0 ?_ KX _ (At.of_row (HK4.out.below hS hgo)) Tryz.underlying33 rfl HI.out; exact rfl; exact rfl)
     ·(go_simp; try with_reducible rfl)
     refine rgU 5 (v := ?_) (a' := ?_) HDR.out ?_ ?_ ?_
     rotate_left 2
     ·(intro w hS; have t := HLK2.out w hS; go_simp; try with_reducible rfl)
     ·(go_simp; try with_reducible rfl)
     refine rgT 6 HDR.out ?_
     refine rgT 7 HDR.out ?_
     refine rgT 8 HDR.out ?_
     refine rgT 9 HDR.out ?_
     refine rgT 10 HDR.out ?_
     refine wpAnyH_done (by kernel_rfl) ?_ _
     go_wp2_with fail
     go_roundw
     case rel => exact ⟨k + 1, mo, co, Ao, out, by omega, by go_num, rfl, Lib.hid (by omega), HRWD, HF5, HBMD⟩
     case measure => simp [intOf]; omega
    | some v =>
     rw [hv] at hEL
     obtain ⟨b', A', c', e1, rfl, e3, e4, e5, e6⟩ := hEL
     have HF5 := Lib.hid (show (out ++ [b']) ++ (ids.drop (k + 1)).filterMap (getA ad) = R by
      have := HF0.out
      rw [HST.out, e1] at this
      rw [List.append_assoc]
      exact this)
     have HLK2 := Lib.hid (fun w' hb => show (Instr.lookup 74 (.map (some mb)) (.agg KX) true).run Tryz.prog w' = .ok (.tuple #[.slice A' b'.length c', .bool true]) w' by
      have := HLK.out w' hb
      rw [hv] at this
      exact this)
     have HCL := Lib.hid (clone_any A' b'.length c' b' w4.drew (slOf_bytes (e3.below hdr)) rfl e6)
     have HOW := Lib.hid (show ∀ b, own (.slice Ao mo co) b → b < w4.drew.heap.size from fun b hb => (HRWD.out.lt hb).2)
     clear HLK hv HST HF0 HRW4 HB4 HBM4 hdr e1 e3 e4 e5 e6
     refine wp_region_held (S := fun w' => Below w4.heap.size w4 w') (by kernel_rfl) ?_
     change wpAnyH _ _ _ _ _ _ _ _ (World.drew _)
     refine rgT 0 HDR.out ?_
     refine rgT 1 HDR.out ?_
     refine rgT 2 HDR.out ?_
     refine rgU 3 (v := ?_) (a' := ?_) HDR.out ?_ ?_ ?_
     rotate_left 2
     ·(intro w hS; have t := (hS.cell (p := ⟨g, 33, none⟩) hgl).trans HC33.out; go_simp; try with_reducible rfl)
     ·(go_simp; try with_reducible rfl)
     refine rgU 4 (v := ?_) (a' := ?_) HDR.out ?_ ?_ ?_
     rotate_left 2
     ·(intro w hS; refine exec_load_at 33 (.tmp 7) ?_ GO 0 ?_ KX _ (At.of_row (HK4.out.below hS hgo)) Tryz.underlying33 rfl HI.out; exact rfl; exact rfl)
     ·(go_simp; try with_reducible rfl)
     refine rgU 5 (v := ?_) (a' := ?_) HDR.out ?_ ?_ ?_
     rotate_left 2
     ·(intro w hS; have t := HLK2.out w hS; go_simp; try with_reducible rfl)
     ·(go_simp; try with_reducible rfl)
     refine rgT 6 HDR.out ?_
     refine rgT 7 HDR.out ?_
     refine rgT 8 HDR.out ?_
     refine rgT 9 HDR.out ?_
     refine rgT 10 HDR.out ?_
     refine wpAnyH_done (by kernel_rfl) ?_ _
     go_wp2_with fail
     refine HCL.out.mono ?_
     rintro e w5 ⟨hb5, A5, c5, rfl, hs5, hc5, hm5⟩
     have HBM5 := Lib.hid (HBMD.out.trans (hb5.mono HBMD.out.size))
     have HRW5 := Lib.hid (HRWD.out.below hb5)
     obtain ⟨A6, c6, w6, hrun, hr6, hb6, _, _, _, _⟩ := HRW5.out.push elemBB HBM5.out.size (av := fun g => g < w4.drew.heap.size) (cs := [.slice A5 b'.length c5]) (x := b') ⟨A5, c5, rfl, hc5, hm5, hs5⟩ (fun b _ hb => HOW.out b hb) (by omega) (by simp only [maxLen]; omega) 50 1
     have hrun : (Builtin.append_ #[50, 50] 50 #[.slice Ao mo co, .slice (some ⟨w5.heap.size, 0, none⟩) 1 1]).run Tryz.prog (w5.alloc (.cells #[.slice A5 b'.length c5] 38)) = .ok (.slice A6 (mo + 1) c6) w6 := hrun
     have HR6 := Lib.hid hr6
     have HBM6 := Lib.hid (HBM5.out.trans hb6)
     clear hb5 hs5 hc5 hm5 hr6 hb6 HCL HRWD HBD HBMD HRW5
     go_wp2_with (at_builtin; refine wpList_run_append hrun ?_ ?_ ?_; exact rfl; exact rfl)
     go_roundw
     case rel => exact ⟨k + 1, mo + 1, c6, A6, out ++ [b'], by omega, by go_num, rfl, Lib.hid (by omega), HR6, HF5, HBM6⟩
     case measure => simp [intOf]; omega
   ·have HRO := Lib.hid (show out = R by
     have := HF0.out
     rw [List.drop_of_length_le (by rw [HN.out]; omega)] at this
     simpa using this)
    have hltI : ¬ (k : Int) < (n : Int) := by omega
    clear HF0
    go_wp2_with fail
    go_ret
    rw [← HRO.out]
    exact ⟨HBL.out, Ao, mo, co, rfl, HRW.out.lower HB2.out.size⟩
end Go.Proofs.YtgmbkcjihgphmaaGreat
