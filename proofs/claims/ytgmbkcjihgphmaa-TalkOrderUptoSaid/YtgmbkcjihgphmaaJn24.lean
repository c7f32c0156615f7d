/- Contracts and laws for what the statement reaches, joined: TalkPlainM, TalkMark, TalkRecords, TalkQueue. -/
import Derived.Test.YtgmbkcjihgphmaaJn23
import Derived.Deep.AppendSrc
/- marks, plain: what is marked; that it ends; that it hangs on what can be reached alone. -/
set_option linter.unusedVariables false
set_option linter.unusedSimpArgs false
namespace Go.Proofs.Ytgmbkcjihgphmaa
open Go.RowKit

section
variable {S : SrcT}
theorem pushP_ok {id : List UInt8} {B : Ids} {st : List PlcT} {y : Ids × List PlcT} (h : pushP S id B st = .ok y) : (id ∈ B ∧ y = (B, st)) ∨ (id ∉ B ∧ ∃ b l, S id = some b ∧ linksG b = .ok l ∧ y = (id :: B, (id, l) :: st)) := by
  unfold pushP at h
  split at h
  · rename_i hc
    injection h with h
    exact .inl ⟨by simpa using hc, h.symm⟩
  · rename_i hc
    refine .inr ⟨by simpa using hc, ?_⟩
    split at h
    · cases h
    · rename_i b hb
      split at h
      · rename_i l hl
        injection h with h
        exact ⟨b, l, hb, hl, h.symm⟩
      · cases h
theorem reachP_mono : ∀ {n : Nat} {B : Ids} {st : List PlcT} {out : Ids} {R : Except Int Ids} (k : Nat), reachP S n B st out = some R → reachP S (n + k) B st out = some R
  | 0, _, _, _, _, _, h => by simp [reachP] at h
  | n + 1, B, [], out, R, k, h => by
    rw [show n + 1 + k = (n + k) + 1 by omega]
    simpa [reachP] using h
  | n + 1, B, (id, []) :: st, out, R, k, h => by
    rw [show n + 1 + k = (n + k) + 1 by omega]
    simp only [reachP] at h ⊢
    exact reachP_mono k h
  | n + 1, B, (id, x :: l) :: st, out, R, k, h => by
    rw [show n + 1 + k = (n + k) + 1 by omega]
    simp only [reachP] at h ⊢
    cases hp : pushP S x B ((id, l) :: st) with
    | error z => rw [hp] at h; exact h
    | ok y => rw [hp] at h; exact reachP_mono k h
theorem markP_mono {n : Nat} {root : List UInt8} {R : Except Int Ids} (k : Nat) (h : markP S n root = some R) : markP S (n + k) root = some R := by
  unfold markP at h ⊢
  cases hp : pushP S root [] [] with
  | error z => rw [hp] at h; exact h
  | ok y => rw [hp] at h; exact reachP_mono k h
theorem markP_det {n m : Nat} {root : List UInt8} {R R' : Except Int Ids} (h : markP S n root = some R) (h' : markP S m root = some R') : R = R' := by
  have h1 := markP_mono m h
  have h2 := markP_mono n h'
  rw [show m + n = n + m by omega, h1] at h2
  exact Option.some.inj h2
/-- what a done mark says -/
theorem reachP_whole : ∀ {n : Nat} {B : Ids} {st : List PlcT} {out R : Ids}, reachP S n B st out = some (.ok R) →
    (∀ x ∈ B, x ∈ out ∨ x ∈ st.map (·.1)) → (∀ x ∈ out, ∃ b l, S x = some b ∧ linksG b = .ok l ∧ ∀ y ∈ l, y ∈ B) → (∀ p ∈ st, ∃ b l, S p.1 = some b ∧ linksG b = .ok l ∧ ∀ y ∈ l, y ∈ B ∨ y ∈ p.2) →
    ∃ B' : Ids, (∀ x ∈ B, x ∈ B') ∧ (∀ x ∈ B', x ∈ R) ∧ ∀ x ∈ R, ∃ b l, S x = some b ∧ linksG b = .ok l ∧ ∀ y ∈ l, y ∈ B'
  | 0, _, _, _, _, h, _, _, _ => by simp [reachP] at h
  | n + 1, B, [], out, R, h, h1, h2, h3 => by
    simp only [reachP] at h
    have h := Option.some.inj h
    injection h with h
    subst h
    exact ⟨B, fun _ h => h, fun x hx => by simpa using h1 x hx, h2⟩
  | n + 1, B, (id, []) :: st, out, R, h, h1, h2, h3 => by
    simp only [reachP] at h
    refine reachP_whole h (fun x hx => ?_) (fun x hx => ?_) (fun p hp => h3 p (by simp [hp]))
    · rcases h1 x hx with h4 | h4
      · exact .inl (by simp [h4])
      · rcases List.mem_cons.1 h4 with h5 | h5
        · exact .inl (by rw [h5]; simp)
        · exact .inr h5
    · rcases List.mem_append.1 hx with h4 | h4
      · exact h2 x h4
      · have h4 : x = id := by simpa using h4
        subst h4
        obtain ⟨b, l, h5, h6, h7⟩ := h3 (x, []) (by simp)
        exact ⟨b, l, h5, h6, fun y hy => by simpa using h7 y hy⟩
  | n + 1, B, (id, x :: l) :: st, out, R, h, h1, h2, h3 => by
    simp only [reachP] at h
    cases hp : pushP S x B ((id, l) :: st) with
    | error z => rw [hp] at h; simp at h
    | ok y =>
      rw [hp] at h
      simp only at h
      obtain ⟨b0, l0, g1, g2, g3⟩ := h3 (id, x :: l) (by simp)
      rcases pushP_ok hp with ⟨hx, rfl⟩ | ⟨hx, b, l', hb, hl, rfl⟩
      · refine reachP_whole h (fun x hx => ?_) h2 (fun p hp => ?_)
        · simpa using h1 x hx
        · rcases List.mem_cons.1 hp with rfl | hp
          · refine ⟨b0, l0, g1, g2, fun y hy => ?_⟩
            rcases g3 y hy with h4 | h4
            · exact .inl h4
            · rcases List.mem_cons.1 h4 with rfl | h4
              · exact .inl hx
              · exact .inr h4
          · exact h3 p (by simp [hp])
      · have q1 : ∀ z ∈ x :: B, z ∈ out ∨ z ∈ ((x, l') :: (id, l) :: st).map (·.1) := fun z hz => by
          rcases List.mem_cons.1 hz with rfl | hz
          · exact .inr (by simp)
          · rcases h1 z hz with h4 | h4
            · exact .inl h4
            · refine .inr ?_
              simp at h4 ⊢
              exact .inr h4
        have q2 : ∀ z ∈ out, ∃ b l, S z = some b ∧ linksG b = .ok l ∧ ∀ y ∈ l, y ∈ x :: B := fun z hz => by
          obtain ⟨b1, l1, k1, k2, k3⟩ := h2 z hz
          exact ⟨b1, l1, k1, k2, fun y hy => by simp [k3 y hy]⟩
        have q3 : ∀ p ∈ (x, l') :: (id, l) :: st, ∃ b l, S p.1 = some b ∧ linksG b = .ok l ∧ ∀ y ∈ l, y ∈ x :: B ∨ y ∈ p.2 := fun p hp => by
          rcases List.mem_cons.1 hp with rfl | hp
          · exact ⟨b, l', hb, hl, fun y hy => .inr hy⟩
          · rcases List.mem_cons.1 hp with rfl | hp
            · refine ⟨b0, l0, g1, g2, fun y hy => ?_⟩
              rcases g3 y hy with h4 | h4
              · exact .inl (by simp [h4])
              · rcases List.mem_cons.1 h4 with rfl | h4
                · exact .inl (by simp)
                · exact .inr h4
            · obtain ⟨b1, l1, k1, k2, k3⟩ := h3 p (by simp [hp])
              exact ⟨b1, l1, k1, k2, fun y hy => (k3 y hy).elim (fun q => .inl (by simp [q])) .inr⟩
        obtain ⟨B', k1, k2, k3⟩ := reachP_whole h q1 q2 q3
        exact ⟨B', fun z hz => k1 z (by simp [hz]), k2, k3⟩
theorem markP_whole {n : Nat} {root : List UInt8} {R : Ids} (h : markP S n root = some (.ok R)) : root ∈ R ∧ ∀ x ∈ R, ∃ b l, S x = some b ∧ linksG b = .ok l ∧ ∀ y ∈ l, y ∈ R := by
  unfold markP at h
  cases hp : pushP S root [] [] with
  | error z => rw [hp] at h; simp at h
  | ok y =>
    rw [hp] at h
    simp only at h
    rcases pushP_ok hp with ⟨hx, _⟩ | ⟨hx, b, l, hb, hl, rfl⟩
    · cases hx
    · obtain ⟨B', k1, k2, k3⟩ := reachP_whole h (fun z hz => .inr (by simpa using hz)) (fun z hz => nomatch hz) (fun p hp => by
        have hp : p = (root, l) := by simpa using hp
        subst hp
        exact ⟨b, l, hb, hl, fun y hy => .inr hy⟩)
      refine ⟨k2 _ (k1 _ (by simp)), fun x hx => ?_⟩
      obtain ⟨b1, l1, m1, m2, m3⟩ := k3 x hx
      exact ⟨b1, l1, m1, m2, fun y hy => k2 y (m3 y hy)⟩
/-- what is marked holds all that can be reached -/
theorem markP_re {n : Nat} {root x : List UInt8} {R : Ids} (h : markP S n root = some (.ok R)) (hx : Re S root x) : x ∈ R := by
  obtain ⟨h1, h2⟩ := markP_whole h
  induction hx with
  | root => exact h1
  | step _ h4 h5 ih =>
    obtain ⟨b, l, k1, k2, k3⟩ := h2 _ ih
    rw [h4] at k1
    cases k1
    rw [k2] at h5
    exact k3 _ h5

theorem pushP_congr {S' : SrcT} {id : List UInt8} (he : S id = S' id) (B : Ids) (st : List PlcT) : pushP S id B st = pushP S' id B st := by
  unfold pushP
  rw [he]
theorem reachP_congr {S' : SrcT} {P : List UInt8 → Prop} (he : ∀ x, P x → S x = S' x) (hP : ∀ x b y, P x → S x = some b → y ∈ lkL (linksG b) → P y) : ∀ {n : Nat} {B : Ids} {st : List PlcT} {out : Ids}, (∀ p ∈ st, ∀ y ∈ p.2, P y) → reachP S n B st out = reachP S' n B st out
  | 0, _, _, _, _ => rfl
  | n + 1, B, [], out, _ => rfl
  | n + 1, B, (id, []) :: st, out, h => by
    simp only [reachP]
    exact reachP_congr he hP fun p hp => h p (by simp [hp])
  | n + 1, B, (id, x :: l) :: st, out, h => by
    have hx : P x := h (id, x :: l) (by simp) x (by simp)
    simp only [reachP]
    rw [← pushP_congr (he x hx)]
    cases hp : pushP S x B ((id, l) :: st) with
    | error z => rfl
    | ok y =>
      have h0 : ∀ p ∈ (id, l) :: st, ∀ y ∈ p.2, P y := fun p hp z hz => by
        rcases List.mem_cons.1 hp with rfl | hp
        · exact h (id, x :: l) (by simp) z (by simp [hz])
        · exact h p (by simp [hp]) z hz
      rcases pushP_ok hp with ⟨_, rfl⟩ | ⟨_, b, l', hb, hl, rfl⟩
      · exact reachP_congr he hP h0
      · refine reachP_congr he hP fun p hp z hz => ?_
        rcases List.mem_cons.1 hp with rfl | hp
        · exact hP x b z hx hb (by rw [hl]; exact hz)
        · exact h0 p hp z hz
theorem markP_congr {S' : SrcT} {root : List UInt8} (he : ∀ x, Re S root x → S x = S' x) (n : Nat) : markP S n root = markP S' n root := by
  unfold markP
  rw [← pushP_congr (he root .root)]
  cases hp : pushP S root [] [] with
  | error z => rfl
  | ok y =>
    rcases pushP_ok hp with ⟨hx, _⟩ | ⟨hx, b, l, hb, hl, rfl⟩
    · cases hx
    · refine reachP_congr he (fun _ _ _ h1 h2 h3 => .step h1 h2 h3) fun p hp z hz => ?_
      have hp : p = (root, l) := by simpa using hp
      subst hp
      exact .step .root hb (by rw [hl]; exact hz)
/-- it ends -/
def stN (st : List PlcT) : Nat := (st.map (fun p => p.2.length + 1)).sum
theorem reachP_ends {V : Ids} (hV : ∀ x b, S x = some b → x ∈ V) : ∀ {n : Nat} {B : Ids} {st : List PlcT} {out : Ids}, B.Nodup → (∀ x ∈ B, x ∈ V) → stN st + (V.length - B.length) * 4098 < n → ∃ R, reachP S n B st out = some R
  | 0, _, _, _, _, _, h => by omega
  | n + 1, B, [], out, _, _, _ => ⟨_, rfl⟩
  | n + 1, B, (id, []) :: st, out, hn, hb, h => by
    simp only [reachP]
    refine reachP_ends hV hn hb ?_
    have : stN ((id, []) :: st) = stN st + 1 := by simp [stN]; omega
    omega
  | n + 1, B, (id, x :: l) :: st, out, hn, hb, h => by
    simp only [reachP]
    have h0 : stN ((id, x :: l) :: st) = stN ((id, l) :: st) + 1 := by simp [stN]; omega
    cases hp : pushP S x B ((id, l) :: st) with
    | error z => exact ⟨_, rfl⟩
    | ok y =>
      rcases pushP_ok hp with ⟨_, rfl⟩ | ⟨hx, b, l', hb', hl, rfl⟩
      · exact reachP_ends hV hn hb (by simp only; omega)
      · have hn2 : (x :: B).Nodup := List.nodup_cons.2 ⟨hx, hn⟩
        have hb2 : ∀ z ∈ x :: B, z ∈ V := fun z hz => by
          rcases List.mem_cons.1 hz with rfl | hz
          · exact hV z b hb'
          · exact hb z hz
        have hle := List.Nodup.length_le_of_subset hn2 (fun z hz => hb2 z hz)
        have h3 := linksG_few hl
        have h4 : stN ((x, l') :: (id, l) :: st) = l'.length + 1 + stN ((id, l) :: st) := by simp [stN]
        refine reachP_ends hV hn2 hb2 ?_
        simp only [List.length_cons] at hle ⊢
        obtain ⟨d, hd⟩ : ∃ d, d = V.length - (B.length + 1) := ⟨_, rfl⟩
        have h5 : V.length - B.length = d + 1 := by omega
        rw [h5] at h
        rw [← hd, h4]
        omega
end
theorem FinS.mark {S : SrcT} {nv : Nat} (h : FinS S nv) (root : List UInt8) : ∃ R, markP S (nv * 4098 + 4099) root = some R := by
  obtain ⟨V, h1, h2⟩ := h
  unfold markP
  cases hp : pushP S root [] [] with
  | error z => exact ⟨_, rfl⟩
  | ok y =>
    rcases pushP_ok hp with ⟨hx, _⟩ | ⟨hx, b, l, hb, hl, rfl⟩
    · cases hx
    · refine reachP_ends h2 (by simp) (fun z hz => ?_) ?_
      · have hz : z = root := by simpa using hz
        subst hz
        exact h2 z b hb
      · have h3 := linksG_few hl
        have h4 : stN [(root, l)] = l.length + 1 := by simp [stN]
        have h5 : (V.length - 1) * 4098 ≤ nv * 4098 := Nat.mul_le_mul_right _ (by omega)
        simp only [List.length_cons, List.length_nil]
        omega
open Classical in
noncomputable def markL (S : SrcT) (root : List UInt8) : Except Int Ids := if h : ∃ R n, markP S n root = some R then h.choose else .error 0
theorem markL_eq {S : SrcT} {root : List UInt8} {n : Nat} {R : Except Int Ids} (h : markP S n root = some R) : markL S root = R := by
  have hx : ∃ R n, markP S n root = some R := ⟨R, n, h⟩
  unfold markL
  rw [dif_pos hx]
  obtain ⟨m, hm⟩ := hx.choose_spec
  exact markP_det hm h
theorem FinS.markL {S : SrcT} {nv : Nat} (h : FinS S nv) (root : List UInt8) : markP S (nv * 4098 + 4099) root = some (markL S root) := by
  obtain ⟨R, hR⟩ := h.mark root
  rw [hR, markL_eq hR]
theorem markL_congr {S S' : SrcT} {nv : Nat} {root : List UInt8} (h : FinS S nv) (he : ∀ x, Re S root x → S x = S' x) : markL S root = markL S' root := by
  have h1 := h.markL root
  rw [markP_congr he] at h1
  exact (markL_eq h1).symm
/-- where all can be marked nothing is lacking -/
theorem mark_lack {S : SrcT} {nv : Nat} {root : List UInt8} {R : Ids} (h : FinS S nv) (hm : markL S root = .ok R) : lackL S root = [] := by
  have h1 := h.markL root
  rw [hm] at h1
  rw [List.eq_nil_iff_forall_not_mem]
  intro x hx
  obtain ⟨h2, h3⟩ := h.re hx
  obtain ⟨b, l, h4, _⟩ := (markP_whole h1).2 x (markP_re h1 h2)
  rw [h3] at h4; cases h4
/-- what was put aside, in order -/
def recM (ad : AsT) : Except Int Ids → List (List UInt8)
  | .ok ids => ids.filterMap (getA ad)
  | .error _ => []
noncomputable def recsF (S : SrcT) (ad : AsT) (root : List UInt8) : List (List UInt8) := recM ad (markL (srcF S ad) root)
end Go.Proofs.Ytgmbkcjihgphmaa

/- collect.Mark, of one root. -/
set_option linter.unusedVariables false
set_option linter.unusedSimpArgs false
namespace Go.Proofs.Ytgmbkcjihgphmaa
open Go.RowKit

def MarkPost (w : World) (R : Except Int Ids) (e : Ending) (w' : World) : Prop :=
  Below w.heap.size w w' ∧ match R with
    | .ok ids => ∃ A m c, e = .returned (.tuple #[.slice A m c, .int .i64 0]) ∧ RowR oidR 33 w' w.heap.size A m c ids
    | .error z => e = .returned (.tuple #[.slice none 0 0, .int .i64 z]) ∧ z ≠ 0
theorem built_marks (T : TypeId) (V : Value) (ms : Nat) : Try.prog.built 86 [(0, .iface T V), (1, .map (some ms))] = some #[.iface T V, .map (some ms), .slice none 0 0] := by kernel_rfl
/-- what a round leaves -/
def MarkRel (w : World) (T : TypeId) (V : Value) (gm ms : Nat) (R : Except Int Ids) (wr : World) : Prop :=
  ∃ Ao mo co ids, R = .ok ids ∧ Blk wr gm 86 #[.iface T V, .map (some ms), .slice Ao mo co] ∧ RowR oidR 33 wr w.heap.size Ao mo co ids ∧ Below w.heap.size w wr

set_option maxRecDepth 100000 in
set_option maxHeartbeats 4000000 in
theorem mark_any {T : TypeId} {V : Value} {K : Nat} {S : SrcT} {nv : Nat} (W0 w : World) (hS : SrcK W0 T V K S) (hB : Below W0.heap.size W0 w) (hf : FinS S nv) (hnv : nv ≤ 200000)
    (A : Option Addr) (c : Nat) (root : List UInt8) (hs : SlOf oidR w no A [root]) :
    Calls Try.prog 14 #[.iface T V, .slice A 1 c] w (MarkPost w (markL S root)) := by
  have hmm := @run_makeMap Try.prog
  have h32 : root.length = 32 := oids_32 hs root (by simp)
  obtain ⟨b1, o1, x, rfl, hb1, hx, _, hat⟩ := oids_look hs rfl (i := 0) (by simp)
  have e : x = root := by simpa using hx.symm
  subst e
  obtain ⟨R, hR⟩ : ∃ R, R = markL S x := ⟨_, rfl⟩
  have HMP := Lib.hid (hf.markL x)
  rw [← hR] at HMP ⊢
  obtain ⟨KX, hKX⟩ : ∃ KX, KX = (bytesV x).toArray := ⟨_, rfl⟩
  have HI := Lib.hid (show (Try.prog.info? 33).map (·.size) = some KX.size by rw [hKX]; exact oid_size h32)
  have hat2 : At w ⟨b1, o1, none⟩ KX := by rw [hKX]; simpa using hat
  have HO := Lib.hid (show KX.all (·.oneCell') = true by rw [hKX]; exact oid_one _)
  have HZZ := Lib.hid (show zID.size = KX.size by rw [hKX]; simp [bytesV, h32])
  obtain ⟨KM, hKM⟩ : ∃ KM : Array Value, KM = #[.iface T V, .map (some w.heap.size), .slice none 0 0] := ⟨_, rfl⟩
  have HBU := Lib.hid (show Try.prog.built 86 [(0, .iface T V), (1, .map (some w.heap.size))] = some KM by rw [hKM]; exact built_marks T V _)
  have HIM := Lib.hid (show (Try.prog.info? 86).map (·.size) = some KM.size by rw [hKM]; kernel_rfl)
  obtain ⟨w2, hw2⟩ : ∃ w2, w2 = (w.alloc (.map #[] 0)).alloc (.cells KM 86) := ⟨_, rfl⟩
  have hba : Below w.heap.size w (w.alloc (.map #[] 0)) := (Below.refl _ _).alloc (Nat.le_refl _) _
  have hB2 : Below w.heap.size w w2 := by rw [hw2]; exact hba.alloc (by simp) _
  have HB2 := Lib.hid hB2
  have HMM := Lib.hid (show MapW w2 w.heap.size [] by rw [hw2]; exact (mapW_new w).below ((Below.refl _ _).alloc (Nat.le_refl _) _))
  have HMK := Lib.hid (show Blk w2 (w.heap.size + 1) 86 KM by rw [hw2]; have := Blk.new (w.alloc (.map #[] 0)) 86 KM; simpa using this)
  have HAT := Lib.hid (show At w2 ⟨b1, o1, none⟩ KX from hat2.below hB2 hb1)
  have HW2 := Lib.hid hw2
  obtain ⟨w4, hw4⟩ : ∃ w4, w4 = w2.alloc (.cells KX 33) := ⟨_, rfl⟩
  have hba4 : Below w2.heap.size w2 w4 := by rw [hw4]; exact (Below.refl _ _).alloc (Nat.le_refl _) _
  have HK4 := Lib.hid (show Blk w4 w2.heap.size 33 KX by rw [hw4]; exact Blk.new w2 _ _)
  have HBE := Lib.hid hB.size
  have HRE := Lib.hid (reach_any (base := w.heap.size) (gm := w.heap.size + 1) (ms := w.heap.size) W0 w4 hS (hB.trans ((hB2.trans (hba4.mono hB2.size)).mono hB.size)) hB.size (by have := HMK.out.below hba4 HMK.out.lt; rw [hKM] at this; exact this) (HMM.out.below hba4) (by omega) (Nat.le_refl _) x h32 (nv * 4098 + 4099) R HMP.out (by omega))
  rw [show idV x = .agg KX by rw [hKX]] at HRE
  have HB4 := Lib.hid (hB2.trans (hba4.mono hB2.size))
  have HW4 := Lib.hid hw4
  clear hS hB hf hnv hs hx hat hat2 hR HMP hKX hKM hw2 hba hB2 hw4 hba4 h32
  go_enter Try.func14, Try.ntmps14
  go_upto_region 2 with (first | (refine wpList_built2 rfl 86 (.tmp 10) (.tmp 11) rfl KM rfl rfl HBU.out ?_) | fail)
  rw [← HW2.out]
  generalize hgs : w.heap.size = gs at *
  have HGS := Lib.hid hgs
  clear hgs HW2
  have hgs1 : (w.alloc (.map #[] 0)).heap.size = gs + 1 := by simp [HGS.out]
  try simp only [hgs1]
  go_wp2_with fail
  go_loopw [16] (fun s16 wr => (s16 = .int .i64 0 ∧ wr = w2) ∨ (s16 = .int .i64 1 ∧ Hid (MarkRel w T V (gs + 1) gs R wr))) (fun s16 wr => 1 - (intOf s16).toNat)
  case atStart => exact .inl ⟨rfl, rfl⟩
  case round =>
    obtain ⟨rfl, rfl⟩ | ⟨rfl, HRL⟩ := hrel
    · have HNB := Lib.hid (Blk.new wr 33 zID)
      go_upto_region 5 with (first | (refine wpList_load_at rfl _ _ rfl b1 o1 rfl KX _ HAT.out Try.underlying33 rfl HI.out ?_) | (refine wpList_store_row rfl _ _ _ rfl wr.heap.size KX rfl rfl 33 _ HNB.out HI.out HZZ.out HO.out ?_) | fail)
      rw [World.setRow_alloc_new]
      go_frame
      change Code.wp _ _ _ _ (wr.alloc (.cells KX 33))
      rw [← HW4.out]
      generalize hg4 : wr.heap.size = g4 at *
      clear HNB HW4 hg4
      go_wp2_with (first | (refine wpList_load_at rfl _ _ rfl g4 0 rfl KX _ (At.of_row HK4.out) Try.underlying33 rfl HI.out ?_) | fail)
      refine HRE.out.mono ?_
      rintro e w5 ⟨hb5, hm⟩
      cases R with
      | error z =>
        obtain ⟨rfl, hz⟩ := hm
        have hz2 : (z != 0) = true := by simpa using hz
        have HZ := Lib.hid hz
        have HB5 := Lib.hid (HB4.out.trans hb5)
        clear hb5 hz HRE
        go_wp2_with fail
        go_ret2
        exact ⟨by rw [HGS.out]; exact HB5.out, rfl, HZ.out⟩
      | ok ids =>
        obtain ⟨rfl, Ao, mo, co, hk, hr⟩ := hm
        have HRL := Lib.hid (show MarkRel w T V (gs + 1) gs (.ok ids) w5 from ⟨Ao, mo, co, ids, rfl, hk, by rw [HGS.out]; exact hr, by rw [HGS.out]; exact HB4.out.trans hb5⟩)
        clear hb5 hk hr HRE
        go_wp2_with fail
        go_roundw
        case rel => exact .inr ⟨by go_num, HRL⟩
        case measure => simp [intOf]
    · obtain ⟨Ao, mo, co, ids, hRe, hk, hr, hb⟩ := HRL.out
      subst hRe
      have HRW := Lib.hid hr
      have HBB := Lib.hid hb
      have t1 : wr.cell? ⟨gs + 1, 2, none⟩ = some (.slice Ao mo co) := hk.cell 2
      clear hk hr hb HRE
      go_wp2_with fail
      go_ret2
      exact ⟨HBB.out, Ao, mo, co, rfl, HRW.out⟩
end Go.Proofs.Ytgmbkcjihgphmaa

/- (*talk.Fetch).Records. -/
set_option linter.unusedVariables false
set_option linter.unusedSimpArgs false
namespace Go.Proofs.Ytgmbkcjihgphmaa
open Go.RowKit

theorem reachP_len {S : SrcT} : ∀ {n : Nat} {B : Ids} {st : List PlcT} {out R : Ids}, reachP S n B st out = some (.ok R) → R.length ≤ out.length + n
  | 0, _, _, _, _, h => by simp [reachP] at h
  | n + 1, B, [], out, R, h => by
    simp only [reachP] at h
    have h := Option.some.inj h
    injection h with h
    subst h; omega
  | n + 1, B, (id, []) :: st, out, R, h => by
    simp only [reachP] at h
    have := reachP_len h
    simp at this; omega
  | n + 1, B, (id, x :: l) :: st, out, R, h => by
    simp only [reachP] at h
    cases hp : pushP S x B ((id, l) :: st) with
    | error z => rw [hp] at h; simp at h
    | ok y =>
      rw [hp] at h
      have := reachP_len h
      omega
theorem markP_len {S : SrcT} {n : Nat} {root : List UInt8} {R : Ids} (h : markP S n root = some (.ok R)) : R.length ≤ n := by
  unfold markP at h
  cases hp : pushP S root [] [] with
  | error z => rw [hp] at h; simp at h
  | ok y =>
    rw [hp] at h
    have := reachP_len h
    simpa using this
theorem RowR.lower {α : Type} {r : Rd α} {e : TypeId} {w : World} {base base' m c : Nat} {A : Option Addr} {l : List α} (h : RowR r e w base A m c l) (hb : base' ≤ base) : RowR r e w base' A m c l := by
  obtain ⟨xs, h1, h2⟩ := h.row
  exact ⟨⟨xs, own_mono h1 hb, h2⟩, h.len⟩
theorem recs_step {ad : AsT} {ids : Ids} {k : Nat} {id : List UInt8} (h : ids[k]? = some id) : (ids.drop k).filterMap (getA ad) = match getA ad id with
    | none => (ids.drop (k + 1)).filterMap (getA ad)
    | some b => b :: (ids.drop (k + 1)).filterMap (getA ad) := by
  obtain ⟨h1, h2⟩ := List.getElem?_eq_some_iff.1 h
  rw [List.drop_eq_getElem_cons h1, h2, List.filterMap_cons]
  cases getA ad id <;> rfl

set_option maxRecDepth 100000 in
set_option maxHeartbeats 8000000 in
theorem records_any {T : TypeId} {V : Value} {K : Nat} {S : SrcT} {nv g mb : Nat} {root : List UInt8} {m : IM} {ad : AsT} (W0 w : World) (hS : SrcK W0 T V K S) (hB : Below W0.heap.size W0 w) (h : FT w W0.heap.size g T V root mb m ad)
    (hf : FinS S nv) (hnv : nv + ad.length ≤ 200000) :
    Calls Try.prog 20 #[.pointer (some ⟨g, 0, none⟩)] w (RowsPost w (recsF S ad root)) := by
  obtain ⟨KI, hKI⟩ : ∃ KI, KI = (bytesV root).toArray := ⟨_, rfl⟩
  have HII := Lib.hid (show (Try.prog.info? 33).map (·.size) = some KI.size by rw [hKI]; exact oid_size h.r32)
  have hks : KI.size = 32 := by rw [hKI]; simp [bytesV, h.r32]
  have hbs : (Instr.buildSlice 37 1 #[(0, .agg KI)]).run Try.prog w = .ok (.slice (some ⟨w.heap.size, 0, none⟩) 1 1) (w.alloc (.cells KI 33)) := bsId_of w KI hks
  have HAT := Lib.hid (show At w ⟨g, 1, none⟩ KI by rw [hKI]; exact fetch_id_at h.blk)
  obtain ⟨w1, hw1⟩ : ∃ w1, w1 = w.alloc (.cells KI 33) := ⟨_, rfl⟩
  have hB1 : Below w.heap.size w w1 := by rw [hw1]; exact (Below.refl _ _).alloc (Nat.le_refl _) _
  have HB1 := Lib.hid hB1
  have hs1 : SlOf oidR w1 no (some ⟨w.heap.size, 0, none⟩) [root] := by
    rw [hw1, hKI]
    refine ⟨bytesV root, ?_, by simpa using (Each.nil (R := oidR.R _ no)).snoc (oid_of _ no h.r32), fun _ _ _ _ q => q⟩
    exact Sl.fresh w (bytesV root).toArray 33 (0, 0) 1 32 (by simp [bytesV_length, h.r32])
  have HMA := Lib.hid (mark_any w w1 (fetch_src W0 w hS hB h) hB1 (srcF_fin hf ad) hnv _ 1 root hs1)
  have HLE := Lib.hid (fun ids (e : markL (srcF S ad) root = .ok ids) => show ids.length ≤ 1000000000 by
    have h1 := (srcF_fin hf ad).markL root
    rw [e] at h1
    have := markP_len h1
    omega)
  obtain ⟨MM, hMM⟩ : ∃ MM, MM = markL (srcF S ad) root := ⟨_, rfl⟩
  have HRR := Lib.hid (show recsF S ad root = recM ad MM by rw [hMM]; rfl)
  rw [← hMM] at HMA HLE
  obtain ⟨R, hR⟩ : ∃ R, R = recsF S ad root := ⟨_, rfl⟩
  rw [← hR] at HRR ⊢
  have HF := Lib.hid h
  have HW1 := Lib.hid hw1
  have HWS := Lib.hid (show w.heap.size < w1.heap.size by rw [hw1]; simp)
  clear hS hB h hf hnv hKI hks hw1 hB1 hs1 hMM hR
  go_enter Try.func20, Try.ntmps20
  go_upto_region 1 with fail
  go_wp2_with (first
    | (refine wpList_load_at rfl _ _ rfl g 1 rfl KI _ HAT.out Try.underlying33 rfl HII.out ?_)
    | (refine wpList_build1 rfl (.tmp 16) rfl (.agg KI) _ rfl hbs ?_) | fail)
  rw [← HW1.out]
  refine HMA.out.mono ?_
  rintro e w2 ⟨hb2, hm⟩
  clear HMA hbs HAT HW1
  cases MM with
  | error z =>
    obtain ⟨rfl, hz⟩ := hm
    have hz2 : (z != 0) = true := by simpa using hz
    have HB2 := Lib.hid (HB1.out.trans (hb2.mono (Nat.le_of_lt HWS.out)))
    clear hz hb2
    go_wp2_with fail
    go_ret
    rw [HRR.out]
    exact ⟨HB2.out, none, 0, 0, rfl, RowR.nil _ _ _ _⟩
  | ok ids =>
    obtain ⟨A2, n, c2, rfl, hr2⟩ := hm
    have HB2 := Lib.hid (HB1.out.trans (hb2.mono (Nat.le_of_lt HWS.out)))
    have HN := Lib.hid hr2.len.symm
    have HIS := Lib.hid hr2.sl
    have HNL := Lib.hid (show n ≤ 1000000000 by have := HLE.out ids rfl; have := HN.out; omega)
    have HRF := Lib.hid (show R = ids.filterMap (getA ad) from HRR.out)
    have hn9 := HNL.out
    clear hb2 hr2 HLE HRR
    go_wp2_with fail
    go_loopw [5, 25] (fun s5 s25 wr => ∃ (k mo co : Nat) (Ao : Option Addr) (out : List (List UInt8)), k ≤ n ∧ s25 = .int .i64 (k : Int) ∧ s5 = .slice Ao mo co ∧ Hid (mo ≤ k) ∧ Hid (RowR byR 28 wr w2.heap.size Ao mo co out) ∧ Hid (out ++ (ids.drop k).filterMap (getA ad) = R) ∧ Hid (Below w2.heap.size w2 wr)) (fun s5 s25 wr => n - (intOf s25).toNat)
    case atStart => exact ⟨0, 0, 0, none, [], by omega, rfl, rfl, Lib.hid (Nat.le_refl _), Lib.hid (RowR.nil _ _ _ _), Lib.hid HRF.out.symm, Lib.hid (Below.refl _ _)⟩
    case round =>
      obtain ⟨k, mo, co, Ao, out, hk, rfl, rfl, HMO, HRW, HF0, HBM⟩ := hrel
      have HBL := Lib.hid (HB2.out.trans (HBM.out.mono HB2.out.size))
      by_cases hlt : k < n
      · have hltI : (k : Int) < (n : Int) := by omega
        obtain ⟨b1, o1, x, rfl, hb1, hx, h32, hat⟩ := oids_look (HIS.out.below HBM.out) HN.out (show k < n by omega)
        obtain ⟨KX, hKX⟩ : ∃ KX, KX = (bytesV x).toArray := ⟨_, rfl⟩
        have HI := Lib.hid (show (Try.prog.info? 33).map (·.size) = some KX.size by rw [hKX]; exact oid_size h32)
        rw [← hKX] at hat
        have HATX := Lib.hid hat
        have HZZ := Lib.hid (show zID.size = KX.size by rw [hKX]; simp [bytesV, h32])
        have HO := Lib.hid (show KX.all (·.oneCell') = true by rw [hKX]; exact oid_one _)
        have HNB := Lib.hid (Blk.new wr 33 zID)
        have hba : Below wr.heap.size wr (wr.alloc (.cells KX 33)) := (Below.refl _ _).alloc (Nat.le_refl _) _
        have HBA := Lib.hid hba
        have HST := Lib.hid (recs_step (ad := ad) hx)
        have HKX := Lib.hid hKX
        have H32 := Lib.hid h32
        have hmo := HMO.out
        clear hx hat hba hKX h32
        go_upto_region 8 with (first | (refine wpList_load_at rfl _ _ rfl b1 (o1 + k * 32) rfl KX _ HATX.out Try.underlying33 rfl HI.out ?_) | (refine wpList_store_row rfl _ _ _ rfl wr.heap.size KX rfl rfl 33 _ HNB.out HI.out HZZ.out HO.out ?_) | fail)
        rw [World.setRow_alloc_new]
        go_frame
        change Code.wp _ _ _ _ (wr.alloc (.cells KX 33))
        have HB4 := Lib.hid (HBL.out.trans (HBA.out.mono HBL.out.size))
        have HBM4 := Lib.hid (HBM.out.trans (HBA.out.mono HBM.out.size))
        have HK4 := Lib.hid (Blk.new wr 33 KX)
        have HRW4 := Lib.hid (HRW.out.below HBA.out)
        generalize hG : wr.heap.size = GO at *
        generalize wr.alloc (.cells KX 33) = w4 at *
        clear HRW HNB hG HBA HATX HZZ HO HBL HBM
        have HF4 := Lib.hid (HF.out.go HB4.out)
        have HLK := Lib.hid (fun w' (hb : Below w4.heap.size w4 w') => by
          have h1 := (HF4.out.map.below hb).lookup H32.out Try.underlying88 (zeroSl w') true
          rw [show idV x = .agg KX by rw [HKX.out]] at h1
          exact h1)
        have HC33 := Lib.hid ((HF4.out.blk.cell 33).trans (fetchK_get HF4.out.r32 T V mb).2)
        have hgl := HF4.out.blk.lt
        have hgo := HK4.out.lt
        have hdr : Below w4.heap.size w4 w4.drew := Same.below ⟨1, rfl⟩ _
        have HDR := Lib.hid hdr
        have HBD := Lib.hid (HB4.out.trans (hdr.mono HB4.out.size))
        have HBMD := Lib.hid (HBM4.out.trans (hdr.mono HBM4.out.size))
        have HRWD := Lib.hid (HRW4.out.below hdr)
        have hEL := HF4.out.els x
        cases hv : m.get x with
        | none =>
          rw [hv] at hEL
          have hEL : getA ad x = none := hEL
          have HF5 := Lib.hid (show out ++ (ids.drop (k + 1)).filterMap (getA ad) = R by
            have := HF0.out
            rw [HST.out, hEL] at this
            exact this)
          have HLK2 := Lib.hid (fun w' hb => show (Instr.lookup 88 (.map (some mb)) (.agg KX) true).run Try.prog w' = .ok (.tuple #[.slice none 0 0, .bool false]) w' by
            have := HLK.out w' hb
            rw [hv] at this
            exact this)
          clear HLK hv hEL HST HF0 HRW4 HB4 HBM4 hdr
          refine wp_region_held (S := fun w' => Below w4.heap.size w4 w') (by kernel_rfl) ?_
          change wpAnyH _ _ _ _ _ _ _ _ (World.drew _)
          refine held_take (i := 0) (v := ?_) (a' := ?_) rfl (by kernel_rfl) (by kernel_rfl) (by kernel_rfl) (fun _ _ _ h => h) (by rfl) HDR.out ?_ ?_ ?_
          rotate_left 2
          · (intro w hS; go_simp; try with_reducible rfl)
          · (go_simp; try with_reducible rfl)
          refine held_take (i := 1) (v := ?_) (a' := ?_) rfl (by kernel_rfl) (by kernel_rfl) (by kernel_rfl) (fun _ _ _ h => h) (by rfl) HDR.out ?_ ?_ ?_
          rotate_left 2
          · (intro w hS; go_simp; try with_reducible rfl)
          · (go_simp; try with_reducible rfl)
          refine held_take (i := 2) (v := ?_) (a' := ?_) rfl (by kernel_rfl) (by kernel_rfl) (by kernel_rfl) (fun _ _ _ h => h) (by rfl) HDR.out ?_ ?_ ?_
          rotate_left 2
          · (intro w hS; go_simp; try with_reducible rfl)
          · (go_simp; try with_reducible rfl)
          refine held_take (i := 3) (v := ?_) (a' := ?_) rfl (by kernel_rfl) (by kernel_rfl) (by kernel_rfl) (fun _ _ _ h => h) (by rfl) HDR.out ?_ ?_ ?_
          rotate_left 2
          · (intro w hS; have t := (hS.cell (p := ⟨g, 33, none⟩) hgl).trans HC33.out; go_simp; try with_reducible rfl)
          · (go_simp; try with_reducible rfl)
          refine held_take (i := 4) (v := ?_) (a' := ?_) rfl (by kernel_rfl) (by kernel_rfl) (by kernel_rfl) (fun _ _ _ h => h) (by rfl) HDR.out ?_ ?_ ?_
          rotate_left 2
          · (intro w hS; refine exec_load_at 33 (.tmp 7) ?_ GO 0 ?_ KX _ (At.of_row (HK4.out.below hS hgo)) Try.underlying33 rfl HI.out; exact rfl; exact rfl)
          · (go_simp; try with_reducible rfl)
          refine held_take (i := 5) (v := ?_) (a' := ?_) rfl (by kernel_rfl) (by kernel_rfl) (by kernel_rfl) (fun _ _ _ h => h) (by rfl) HDR.out ?_ ?_ ?_
          rotate_left 2
          · (intro w hS; have t := HLK2.out w hS; go_simp; try with_reducible rfl)
          · (go_simp; try with_reducible rfl)
          refine held_take (i := 6) (v := ?_) (a' := ?_) rfl (by kernel_rfl) (by kernel_rfl) (by kernel_rfl) (fun _ _ _ h => h) (by rfl) HDR.out ?_ ?_ ?_
          rotate_left 2
          · (intro w hS; go_simp; try with_reducible rfl)
          · (go_simp; try with_reducible rfl)
          refine held_take (i := 7) (v := ?_) (a' := ?_) rfl (by kernel_rfl) (by kernel_rfl) (by kernel_rfl) (fun _ _ _ h => h) (by rfl) HDR.out ?_ ?_ ?_
          rotate_left 2
          · (intro w hS; go_simp; try with_reducible rfl)
          · (go_simp; try with_reducible rfl)
          refine held_take (i := 8) (v := ?_) (a' := ?_) rfl (by kernel_rfl) (by kernel_rfl) (by kernel_rfl) (fun _ _ _ h => h) (by rfl) HDR.out ?_ ?_ ?_
          rotate_left 2
          · (intro w hS; go_simp; try with_reducible rfl)
          · (go_simp; try with_reducible rfl)
          refine held_take (i := 9) (v := ?_) (a' := ?_) rfl (by kernel_rfl) (by kernel_rfl) (by kernel_rfl) (fun _ _ _ h => h) (by rfl) HDR.out ?_ ?_ ?_
          rotate_left 2
          · (intro w hS; go_simp; try with_reducible rfl)
          · (go_simp; try with_reducible rfl)
          refine held_take (i := 10) (v := ?_) (a' := ?_) rfl (by kernel_rfl) (by kernel_rfl) (by kernel_rfl) (fun _ _ _ h => h) (by rfl) HDR.out ?_ ?_ ?_
          rotate_left 2
          · (intro w hS; go_simp; try with_reducible rfl)
          · (go_simp; try with_reducible rfl)
          refine wpAnyH_done (by kernel_rfl) ?_ _
          go_wp2_with fail
          go_roundw
          case rel => exact ⟨k + 1, mo, co, Ao, out, by omega, by go_num, rfl, Lib.hid (by omega), HRWD, HF5, HBMD⟩
          case measure => simp [intOf]; omega
        | some v =>
          rw [hv] at hEL
          obtain ⟨b', A', c', e1, rfl, e3, e4, e5, e6⟩ := hEL
          have HF5 := Lib.hid (show (out ++ [b']) ++ (ids.drop (k + 1)).filterMap (getA ad) = R by
            have := HF0.out
            rw [HST.out, e1] at this
            rw [List.append_assoc]
            exact this)
          have HLK2 := Lib.hid (fun w' hb => show (Instr.lookup 88 (.map (some mb)) (.agg KX) true).run Try.prog w' = .ok (.tuple #[.slice A' b'.length c', .bool true]) w' by
            have := HLK.out w' hb
            rw [hv] at this
            exact this)
          have HCL := Lib.hid (clone_any A' b'.length c' b' w4.drew (slOf_bytes (e3.below hdr)) rfl e6)
          have HOW := Lib.hid (show ∀ b, own (.slice Ao mo co) b → b < w4.drew.heap.size from fun b hb => (HRWD.out.lt hb).2)
          clear HLK hv HST HF0 HRW4 HB4 HBM4 hdr e1 e3 e4 e5 e6
          refine wp_region_held (S := fun w' => Below w4.heap.size w4 w') (by kernel_rfl) ?_
          change wpAnyH _ _ _ _ _ _ _ _ (World.drew _)
          refine held_take (i := 0) (v := ?_) (a' := ?_) rfl (by kernel_rfl) (by kernel_rfl) (by kernel_rfl) (fun _ _ _ h => h) (by rfl) HDR.out ?_ ?_ ?_
          rotate_left 2
          · (intro w hS; go_simp; try with_reducible rfl)
          · (go_simp; try with_reducible rfl)
          refine held_take (i := 1) (v := ?_) (a' := ?_) rfl (by kernel_rfl) (by kernel_rfl) (by kernel_rfl) (fun _ _ _ h => h) (by rfl) HDR.out ?_ ?_ ?_
          rotate_left 2
          · (intro w hS; go_simp; try with_reducible rfl)
          · (go_simp; try with_reducible rfl)
          refine held_take (i := 2) (v := ?_) (a' := ?_) rfl (by kernel_rfl) (by kernel_rfl) (by kernel_rfl) (fun _ _ _ h => h) (by rfl) HDR.out ?_ ?_ ?_
          rotate_left 2
          · (intro w hS; go_simp; try with_reducible rfl)
          · (go_simp; try with_reducible rfl)
          refine held_take (i := 3) (v := ?_) (a' := ?_) rfl (by kernel_rfl) (by kernel_rfl) (by kernel_rfl) (fun _ _ _ h => h) (by rfl) HDR.out ?_ ?_ ?_
          rotate_left 2
          · (intro w hS; have t := (hS.cell (p := ⟨g, 33, none⟩) hgl).trans HC33.out; go_simp; try with_reducible rfl)
          · (go_simp; try with_reducible rfl)
          refine held_take (i := 4) (v := ?_) (a' := ?_) rfl (by kernel_rfl) (by kernel_rfl) (by kernel_rfl) (fun _ _ _ h => h) (by rfl) HDR.out ?_ ?_ ?_
          rotate_left 2
          · (intro w hS; refine exec_load_at 33 (.tmp 7) ?_ GO 0 ?_ KX _ (At.of_row (HK4.out.below hS hgo)) Try.underlying33 rfl HI.out; exact rfl; exact rfl)
          · (go_simp; try with_reducible rfl)
          refine held_take (i := 5) (v := ?_) (a' := ?_) rfl (by kernel_rfl) (by kernel_rfl) (by kernel_rfl) (fun _ _ _ h => h) (by rfl) HDR.out ?_ ?_ ?_
          rotate_left 2
          · (intro w hS; have t := HLK2.out w hS; go_simp; try with_reducible rfl)
          · (go_simp; try with_reducible rfl)
          refine held_take (i := 6) (v := ?_) (a' := ?_) rfl (by kernel_rfl) (by kernel_rfl) (by kernel_rfl) (fun _ _ _ h => h) (by rfl) HDR.out ?_ ?_ ?_
          rotate_left 2
          · (intro w hS; go_simp; try with_reducible rfl)
          · (go_simp; try with_reducible rfl)
          refine held_take (i := 7) (v := ?_) (a' := ?_) rfl (by kernel_rfl) (by kernel_rfl) (by kernel_rfl) (fun _ _ _ h => h) (by rfl) HDR.out ?_ ?_ ?_
          rotate_left 2
          · (intro w hS; go_simp; try with_reducible rfl)
          · (go_simp; try with_reducible rfl)
          refine held_take (i := 8) (v := ?_) (a' := ?_) rfl (by kernel_rfl) (by kernel_rfl) (by kernel_rfl) (fun _ _ _ h => h) (by rfl) HDR.out ?_ ?_ ?_
          rotate_left 2
          · (intro w hS; go_simp; try with_reducible rfl)
          · (go_simp; try with_reducible rfl)
          refine held_take (i := 9) (v := ?_) (a' := ?_) rfl (by kernel_rfl) (by kernel_rfl) (by kernel_rfl) (fun _ _ _ h => h) (by rfl) HDR.out ?_ ?_ ?_
          rotate_left 2
          · (intro w hS; go_simp; try with_reducible rfl)
          · (go_simp; try with_reducible rfl)
          refine held_take (i := 10) (v := ?_) (a' := ?_) rfl (by kernel_rfl) (by kernel_rfl) (by kernel_rfl) (fun _ _ _ h => h) (by rfl) HDR.out ?_ ?_ ?_
          rotate_left 2
          · (intro w hS; go_simp; try with_reducible rfl)
          · (go_simp; try with_reducible rfl)
          refine wpAnyH_done (by kernel_rfl) ?_ _
          go_wp2_with fail
          refine HCL.out.mono ?_
          rintro e w5 ⟨hb5, A5, c5, rfl, hs5, hc5, hm5⟩
          have HBM5 := Lib.hid (HBMD.out.trans (hb5.mono HBMD.out.size))
          have HRW5 := Lib.hid (HRWD.out.below hb5)
          obtain ⟨A6, c6, w6, hrun, hr6, hb6, _, _, _, _⟩ := HRW5.out.push elemBB HBM5.out.size (av := fun g => g < w4.drew.heap.size) (cs := [.slice A5 b'.length c5]) (x := b') ⟨A5, c5, rfl, hc5, hm5, hs5⟩ (fun b _ hb => HOW.out b hb) (by omega) (by simp only [maxLen]; omega) 39 1
          have hrun : (Builtin.append_ #[39, 39] 39 #[.slice Ao mo co, .slice (some ⟨w5.heap.size, 0, none⟩) 1 1]).run Try.prog (w5.alloc (.cells #[.slice A5 b'.length c5] 28)) = .ok (.slice A6 (mo + 1) c6) w6 := hrun
          have HR6 := Lib.hid hr6
          have HBM6 := Lib.hid (HBM5.out.trans hb6)
          clear hb5 hs5 hc5 hm5 hr6 hb6 HCL HRWD HBD HBMD HRW5
          go_wp2_with (at_builtin; refine wpList_run_append hrun ?_ ?_ ?_; exact rfl; exact rfl)
          go_roundw
          case rel => exact ⟨k + 1, mo + 1, c6, A6, out ++ [b'], by omega, by go_num, rfl, Lib.hid (by omega), HR6, HF5, HBM6⟩
          case measure => simp [intOf]; omega
      · have HRO := Lib.hid (show out = R by
          have := HF0.out
          rw [List.drop_of_length_le (by rw [HN.out]; omega)] at this
          simpa using this)
        have hltI : ¬ (k : Int) < (n : Int) := by omega
        clear HF0
        go_wp2_with fail
        go_ret
        rw [← HRO.out]
        exact ⟨HBL.out, Ao, mo, co, rfl, HRW.out.lower HB2.out.size⟩
end Go.Proofs.Ytgmbkcjihgphmaa

/- a queue of ids: what stands behind the elements that were taken, in a row of one's own. -/
set_option linter.unusedVariables false
set_option linter.unusedSimpArgs false
namespace Go.Proofs.Ytgmbkcjihgphmaa
open Go.RowKit

structure QW (w : World) (base : Nat) (A : Option Addr) (n c : Nat) (q : Ids) : Prop where
  len : n = q.length
  cap : n ≤ c ∧ c ≤ maxLen
  ids : ∀ x ∈ q, x.length = 32
  row : ∃ b off cur, A = some ⟨b, off, none⟩ ∧ base ≤ b ∧ Blk w b 33 cur ∧ (0 < c → off + c * 32 ≤ cur.size) ∧ ∀ j u, (q.flatMap bytesV)[j]? = some u → cur[off + j]? = some u
theorem flat_len : ∀ {q : Ids}, (∀ x ∈ q, x.length = 32) → (q.flatMap bytesV).length = q.length * 32
  | [], _ => rfl
  | x :: q, h => by
    rw [List.flatMap_cons, List.length_append, bytesV_length, h x (by simp), flat_len fun y hy => h y (by simp [hy]), List.length_cons]
    omega

section
variable {w w' : World} {base n c : Nat} {A : Option Addr} {q : Ids} {x : List UInt8}
theorem QW.below (h : QW w base A n c q) (hb : Below w.heap.size w w') : QW w' base A n c q := by
  obtain ⟨b, off, cur, h1, h2, h3, h4⟩ := h.row
  exact ⟨h.len, h.cap, h.ids, b, off, cur, h1, h2, h3.below hb h3.lt, h4⟩
theorem QW.grown (h : QW w base A n c q) {row : Option Nat} (hg : w.grownBy w' row) (hr : ∀ b, row = some b → own (.slice A n c) b → False) : QW w' base A n c q := by
  obtain ⟨b, off, cur, h1, h2, h3, h4⟩ := h.row
  subst h1
  exact ⟨h.len, h.cap, h.ids, b, off, cur, rfl, h2, h3.grown hg (fun e => hr b e.symm rfl), h4⟩
theorem QW.typ (h : QW w base A n c q) {b : Nat} (hb : own (.slice A n c) b) : base ≤ b ∧ ∃ cur, Blk w b 33 cur := by
  obtain ⟨b', off, cur, h1, h2, h3, h4⟩ := h.row
  subst h1
  have hb : some b' = some b := hb
  cases hb
  exact ⟨h2, cur, h3⟩
theorem QW.head (h : QW w base A n c (x :: q)) : ∃ b off, A = some ⟨b, off, none⟩ ∧ b < w.heap.size ∧ base ≤ b ∧ x.length = 32 ∧ At w ⟨b, off, none⟩ (bytesV x).toArray ∧ n = q.length + 1 ∧ n ≤ c := by
  obtain ⟨b, off, cur, h1, h2, h3, h4, h5⟩ := h.row
  refine ⟨b, off, h1, h3.lt, h2, h.ids x (by simp), fun j u hu => ?_, by have := h.len; simpa using this, h.cap.1⟩
  have hu : (bytesV x)[j]? = some u := by simpa using hu
  have hj := (List.getElem?_eq_some_iff.1 hu).1
  exact (h3.cell (off + j)).trans (h5 j u (by rw [List.flatMap_cons, List.getElem?_append_left hj, hu]))
theorem QW.tail {b off : Nat} (h : QW w base (some ⟨b, off, none⟩) n c (x :: q)) : QW w base (if c = 1 then some ⟨b, off, none⟩ else some ⟨b, off + 32, none⟩) (n - 1) (c - 1) q := by
  obtain ⟨b', off', cur, h1, h2, h3, h4, h5⟩ := h.row
  cases h1
  have hn : n = q.length + 1 := by have := h.len; simpa using this
  have hc := h.cap
  have h32 := h.ids x (by simp)
  refine ⟨by omega, by omega, fun y hy => h.ids y (by simp [hy]), ?_⟩
  by_cases e : c = 1
  · rw [if_pos e]
    have hq : q = [] := List.eq_nil_of_length_eq_zero (by omega)
    subst hq
    exact ⟨b, off, cur, rfl, h2, h3, fun h => by omega, fun j u hu => by simp at hu⟩
  · rw [if_neg e]
    refine ⟨b, off + 32, cur, rfl, h2, h3, fun h => by have := h4 (by omega); omega, fun j u hu => ?_⟩
    rw [show off + 32 + j = off + (32 + j) by omega]
    refine h5 (32 + j) u ?_
    rw [List.flatMap_cons, List.getElem?_append_right (by rw [bytesV_length, h32]; omega), bytesV_length, h32, ← hu]
    congr 1; omega
end

/-- some cells set, one by one -/
def setA : Array Value → Nat → List Value → Array Value
  | a, _, [] => a
  | a, o, v :: r => setA (a.setIfInBounds o v) (o + 1) r
theorem setA_size : ∀ (vs : List Value) (a : Array Value) (o : Nat), (setA a o vs).size = a.size
  | [], _, _ => rfl
  | v :: r, a, o => by rw [setA, setA_size r]; simp
theorem setA_out : ∀ (vs : List Value) (a : Array Value) (o k : Nat), (k < o ∨ o + vs.length ≤ k) → (setA a o vs)[k]? = a[k]?
  | [], _, _, _, _ => rfl
  | v :: r, a, o, k, h => by
    rw [setA, setA_out r _ _ _ (by simp at h; omega)]
    rw [Array.getElem?_setIfInBounds_ne (by simp at h; omega)]
theorem setA_in : ∀ (vs : List Value) (a : Array Value) (o j : Nat) (u : Value), o + vs.length ≤ a.size → vs[j]? = some u → (setA a o vs)[o + j]? = some u
  | [], _, _, _, _, _, h => by simp at h
  | v :: r, a, o, 0, u, hs, h => by
    simp at h; subst h
    rw [setA, setA_out r _ _ _ (.inl (by omega))]
    rw [Nat.add_zero, Array.getElem?_setIfInBounds_self, if_pos (by simp at hs; omega)]
  | v :: r, a, o, j + 1, u, hs, h => by
    rw [setA, show o + (j + 1) = o + 1 + j by omega]
    exact setA_in r _ _ j u (by simp at hs ⊢; omega) (by simpa using h)
theorem blk_setCells : ∀ (vs : List Value) (w : World) (b o : Nat) (t : TypeId) (K : Array Value), Blk w b t K → Blk (w.setCells b o vs) b t (setA K o vs) ∧ w.grownBy (w.setCells b o vs) (some b)
  | [], w, b, o, t, K, h => ⟨h, grown_refl _ _⟩
  | v :: r, w, b, o, t, K, h => by
    obtain ⟨h1, h2⟩ := blk_setCells r _ b (o + 1) t _ (h.set_ o v)
    exact ⟨h1, grown_trans (grown_set w b o v) h2⟩

theorem QW.push {w : World} {base n c : Nat} {A : Option Addr} {q : Ids} {x : List UInt8} (h : QW w base A n c q) (hx : x.length = 32) (hb : base ≤ w.heap.size) (hn : n ≤ 1000000000) :
    ∃ A' c' w', (Builtin.append_ #[37, 37] 37 #[.slice A n c, .slice (some ⟨w.heap.size, 0, none⟩) 1 1]).run Try.prog (w.alloc (.cells (bytesV x).toArray 33)) = .ok (.slice A' (n + 1) c') w' ∧ QW w' base A' (n + 1) c' (q ++ [x]) ∧
      Below base w w' ∧ w.grownBy w' (Value.slice A n c).ownBlock ∧ (∀ b, own (.slice A' (n + 1) c') b → own (.slice A n c) b ∨ w.heap.size ≤ b) := by
  obtain ⟨ht, hi, hzs, hsz⟩ := elemId
  obtain ⟨i, hi, hz, hsize, hby⟩ := info_parts hi
  have hba : Below w.heap.size w (w.alloc (.cells (bytesV x).toArray 33)) := (Below.refl _ _).alloc (Nat.le_refl _) _
  obtain ⟨w0, hw0⟩ : ∃ w0, w0 = w.alloc (.cells (bytesV x).toArray 33) := ⟨_, rfl⟩
  have hs0 : w0.heap.size = w.heap.size + 1 := by rw [hw0]; simp
  rw [← hw0] at hba ⊢
  have hnew : ∀ j u, (bytesV x)[j]? = some u → w0.cell? (Addr.add ⟨w.heap.size, 0, none⟩ j) = some u := fun j u hu => by
    rw [addr_add, hw0, Nat.zero_add, cell_of_row _ w.heap.size j _ _ (0, 0) (heap_alloc_new w _)]
    simpa using hu
  have hl : (bytesV x).length = 32 := by rw [bytesV_length, hx]
  have hsrc : _root_.Go.Src Try.prog i.size 37 (.slice (some ⟨w.heap.size, 0, none⟩) 1 1) 1 (bytesV x) w0 := _root_.Go.Src.ofSlice w0 ht _ 1 1 _ (by rw [hsize, hl]) hnew (bytesV_one x)
  have h0 := h.below hba
  obtain ⟨b, off, cur, hA, hbb, hblk, hcc, hcells⟩ := h0.row
  subst hA
  have hfl := flat_len h0.ids
  have hcap := h0.cap
  have hlen := h0.len
  have h32 : ∀ y ∈ q ++ [x], y.length = 32 := fun y hy => by
    rcases List.mem_append.1 hy with h1 | h1
    · exact h0.ids y h1
    · have h1 : y = x := by simpa using h1
      subst h1; exact hx
  have hflx : (q ++ [x]).flatMap bytesV = q.flatMap bytesV ++ bytesV x := by simp
  have g1 : w.grownBy w0 (some b) := ⟨hba.os, hba.tape, hba.output, hba.size, fun k hk _ => hba.block k hk⟩
  rcases Nat.lt_or_ge n c with hroom | hroom
  · have hcc := hcc (by omega)
    have hrun := run_append_room_src (P := Try.prog) w0 37 37 37 33 i ht hi b off n c _ 1 _ hsrc (by omega) (fun j hj => by
      rw [hblk.cell, hsize, hl] at *
      rw [Array.getElem?_eq_getElem (by omega)]; rfl) (fun j hj => hblk.frozen _)
    rw [hsize] at hrun
    obtain ⟨k1, k2⟩ := blk_setCells (bytesV x) w0 b (off + n * 32) 33 cur hblk
    refine ⟨_, _, _, hrun, ⟨by simp [hlen], by omega, h32, b, off, _, rfl, hbb, k1, fun _ => by rw [setA_size]; exact hcc, fun j u hu => ?_⟩, (hba.mono hb).trans ((Below.refl base w0).grown k2 (by omega) (fun k e => by have := Option.some.inj e; omega)), grown_trans g1 k2, fun b' hb' => .inl hb'⟩
    rw [hflx] at hu
    rcases Nat.lt_or_ge j (n * 32) with hj | hj
    · rw [List.getElem?_append_left (by omega)] at hu
      rw [setA_out _ _ _ _ (.inl (by omega))]
      exact hcells j u hu
    · rw [List.getElem?_append_right (by omega), hfl, ← hlen] at hu
      have := setA_in (bytesV x) cur (off + n * 32) (j - n * 32) u (by rw [hl]; omega) hu
      rw [show off + n * 32 + (j - n * 32) = off + j by omega] at this
      exact this
  · have holds : ∀ j u, (q.flatMap bytesV)[j]? = some u → w0.drew.cell? (Addr.add ⟨b, off, none⟩ j) = some u := fun j u hu => by
      rw [addr_add]
      exact (hblk.cell (off + j)).trans (hcells j u hu)
    have hold := run_firstCells_some (P := Try.prog) w0.drew i.size n ⟨b, off, none⟩ n c (q.flatMap bytesV) (by rw [hsize, hfl, hlen]) holds
    have hby2 : i.bytes = 32 := hby
    have hrun := run_append_grow_src (P := Try.prog) w0 37 37 37 33 i _ ht hi hz (some ⟨b, off, none⟩) n c _ hold _ 1 _ hsrc (by omega) (by omega) (growslice_fits (by omega) (by rw [hby2]; omega))
    have hge := grownCap_ge w0 (n + 1) c 33
    have hcm := grownCap_le_maxLen w0 (n + 1) c 33 (by simp only [maxLen]; omega)
    refine ⟨_, _, _, hrun, ⟨by simp [hlen], ⟨hge, hcm⟩, h32, _, 0, _, rfl, by show base ≤ w0.heap.size; omega, heap_alloc_new w0.drew _, fun _ => ?_, fun j u hu => ?_⟩, ?_, ⟨hba.os, hba.tape, hba.output, ?_, fun k hk _ => ?_⟩, fun b' hb' => ?_⟩
    · simp only [Array.size_append, List.size_toArray, size_zeroCells, hzs, List.length_append, hfl, hl, ← hlen]
      omega
    · rw [hflx] at hu
      have hj := (List.getElem?_eq_some_iff.1 hu).1
      rw [Nat.zero_add, Array.getElem?_append_left (by simpa using hj)]
      simpa using hu
    · refine (hba.mono hb).trans ⟨rfl, rfl, rfl, by simp, fun k hk => Below.heap_alloc w0.drew _ k (by show k < w0.heap.size; omega)⟩
    · simp; omega
    · rw [Below.heap_alloc w0.drew _ k (by show k < w0.heap.size; omega)]
      exact hba.block k hk
    · have hb' : some w0.heap.size = some b' := hb'
      right
      have := Option.some.inj hb'
      omega
end Go.Proofs.Ytgmbkcjihgphmaa
