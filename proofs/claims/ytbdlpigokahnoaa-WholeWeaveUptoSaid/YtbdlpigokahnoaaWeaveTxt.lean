/- weave.Text. -/
import Derived.Test.YtbdlpigokahnoaaWeaveParts
set_option linter.unusedVariables false
namespace Go.Proofs.Ytbdlpigokahnoaa
open Go.RowKit

def ptLen (p : Pt) : Nat := p.2.1.length + p.2.2.1.length + p.2.2.2.length + 4
def ptsLen (ps : List Pt) : Nat := (ps.map ptLen).sum
theorem ptsLen_take_le (ps : List Pt) (k : Nat) : ptsLen (ps.take k) ≤ ptsLen ps := by
  have h := congrArg ptsLen (List.take_append_drop k ps)
  simp only [ptsLen, List.map_append, List.sum_append] at h
  simp only [ptsLen]; omega
theorem ptsLen_take_succ {ps : List Pt} {k : Nat} {p : Pt} (hx : ps[k]? = some p) : ptsLen (ps.take (k + 1)) = ptsLen (ps.take k) + ptLen p := by
  rw [List.take_add_one, hx]; simp [ptsLen]
theorem ptdrop_cons {ps : List Pt} {k : Nat} {p : Pt} (hx : ps[k]? = some p) : ps.drop k = p :: ps.drop (k + 1) := by
  obtain ⟨hi, rfl⟩ := List.getElem?_eq_some_iff.1 hx
  exact List.drop_eq_getElem_cons hi
/-- no line of the parts is long -/
def PtShort (p : Pt) : Prop := (∀ s ∈ p.2.1, s.size ≤ 100000000) ∧ (∀ s ∈ p.2.2.1, s.size ≤ 100000000) ∧ (∀ s ∈ p.2.2.2, s.size ≤ 100000000)

def TextPost (W : World) (d : List ByteArray) (b : Bool) (e : Ending) (w' : World) : Prop :=
  ∃ A c, e = .returned (.tuple #[.slice A d.length c, .bool b]) ∧ w'.ownsRow W.heap.size 9 1 (.slice A d.length c) d.length (strV d) ∧ d.length ≤ c ∧ c ≤ maxLen ∧ d.length ≤ 100000000 ∧ Below W.heap.size W w'

/-- what a round of the loop over parts keeps -/
structure TextInv (w : World) (ps : List Pt) (a b : ByteArray) (K : Nat) (d : List ByteArray) (n : Nat) (A : Option Addr) (c : Nat) (cl : Bool) (wr : World) : Prop where
  len : d.length = n
  own : wr.ownsRow w.heap.size 9 1 (.slice A n c) n (strV d)
  below : Below w.heap.size w wr
  le : n ≤ ptsLen (ps.take K)
  text : d ++ textG a b (ps.drop K) = textG a b ps
  clean : (cl && cleanG (ps.drop K)) = cleanG ps

theorem TextInv.next {w wr w' : World} {ps : List Pt} {a b : ByteArray} {K n : Nat} {d : List ByteArray} {A : Option Addr} {c : Nat} {cl : Bool} (h : TextInv w ps a b K d n A c cl wr) {p : Pt} (hx : ps[K]? = some p)
    {g : Nat} {T : TypeId} {cs : Array Value} {n' : Nat} {A' : Option Addr} {c' : Nat} {x : List ByteArray} {cl' : Bool} (ht : TextAt w g T cs (d ++ x) n' A' c' w') (hc : chunkG a b p = x) (hcl : (cl && cleanP p) = cl') (hle : x.length ≤ ptLen p) :
    TextInv w ps a b (K + 1) (d ++ x) n' A' c' cl' w' := by
  refine ⟨ht.len, ht.own, ht.below, ?_, ?_, ?_⟩
  · rw [ptsLen_take_succ hx, ← ht.len, List.length_append]
    have := h.le; have := h.len; omega
  · rw [← h.text, ptdrop_cons hx]
    simp only [textG, List.flatMap_cons, hc, List.append_assoc]
  · rw [← h.clean, ptdrop_cons hx, ← hcl]
    simp only [cleanG, List.all_cons, Bool.and_assoc]
theorem closedG_length (l : List ByteArray) : (closedG l).length = l.length := by
  rcases snocB_cases l with rfl | ⟨l, x, rfl⟩
  · rfl
  · cases h : endsNl x
    · rw [closedG_open h]; simp
    · rw [closedG_done h]
theorem mOurs_eq (a : ByteArray) : (⟨#[60, 60, 60, 60, 60, 60, 60, 32]⟩ ++ a) ++ ⟨#[10]⟩ = mOurs a := rfl
theorem mTheirs_eq (a : ByteArray) : (⟨#[62, 62, 62, 62, 62, 62, 62, 32]⟩ ++ a) ++ ⟨#[10]⟩ = mTheirs a := rfl

set_option maxHeartbeats 4000000 in
set_option maxRecDepth 100000 in
theorem text_any (A : Option Addr) (m cA : Nat) (ps : List Pt) (a b : ByteArray) (w : World) (hs : SlOf ptR w no A ps) (hl : ps.length = m) (hlen : ptsLen ps ≤ 100000000) (hsh : ∀ p ∈ ps, PtShort p) (ha : a.size ≤ 100000000) (hb : b.size ≤ 100000000) (hm : m ≤ 100000000) :
    Calls Try.prog 14 #[.slice A m cA, .string a, .string b] w (TextPost w (textG a b ps) (cleanG ps)) := by
  have HL := Lib.hid hl
  have HSH := Lib.hid hsh
  clear hl hsh
  go_enter Try.func14, Try.ntmps14
  go_wp2_with fail
  go_loopw [8, 9, 14] (fun o q k wr => ∃ (K n : Nat) (d : List ByteArray) (Ao : Option Addr) (co : Nat) (cl : Bool), o = .slice Ao n co ∧ q = .bool cl ∧ k = .int .i64 K ∧ K ≤ m ∧ Hid (TextInv w ps a b K d n Ao co cl wr)) (fun _ _ k _ => m - (intOf k).toNat)
  case atStart => exact ⟨0, 0, [], none, 0, true, rfl, rfl, rfl, by omega, Lib.hid ⟨rfl, World.ownsRow_nil _ _ _ _, Below.refl _ _, by omega, by simp, by simp⟩⟩
  case round =>
    obtain ⟨K, n, d, Ao, co, cl, rfl, rfl, rfl, hK, HI⟩ := hrel
    by_cases hKm : K < m
    · obtain ⟨bb, off, z, x, y, t, A1, A2, A3, n1, n2, n3, c1, c2, c3, rfl, hb1, hx, hwf, k0, k1, k2, k3, hs1, hs2, hs3, _⟩ := pt_look hs HL.out hKm
      have k0 := (HI.out.below.cell hb1).trans k0
      have k1 := (HI.out.below.cell hb1).trans k1
      have k2 := (HI.out.below.cell hb1).trans k2
      have k3 := (HI.out.below.cell hb1).trans k3
      have HX := Lib.hid hx
      have HSP := Lib.hid (HSH.out _ (List.mem_of_getElem? hx))
      have S1 := Lib.hid hs1.str
      have S2 := Lib.hid hs2.str
      have S3 := Lib.hid hs3.str
      have hn1 := hs1.len
      have hn2 := hs2.len
      have hn3 := hs3.len
      have hpt : ptLen (z, x, y, t) = n1 + n2 + n3 + 4 := by simp only [ptLen]; omega
      have hbnd : n + ptLen (z, x, y, t) ≤ 100000000 := by
        have h1 := ptsLen_take_succ hx
        have h2 := ptsLen_take_le ps (K + 1)
        have h3 := HI.out.le
        omega
      have T0 := Lib.hid (TextAt.start HI.out.len HI.out.own HI.out.below 38 #[.int .i64 z, .slice A1 n1 c1, .slice A2 n2 c2, .slice A3 n3 c3])
      clear hs1 hs2 hs3 hx hwf
      have hlt' : (K : Int) < (m : Int) := by omega
      have hk1 : IntKind.i64.wrap ((K : Int) + 1) = ((K + 1 : Nat) : Int) := by rw [IntWalk.i64_in _ (by omega)]; rfl
      by_cases z013 : z = 0 ∨ z = 1 ∨ z = 3
      · have hch : Hid (chunkG a b (z, x, y, t) = y) := Lib.hid (by simp only [chunkG]; rw [if_pos z013])
        have hcp : Hid ((cl && cleanP (z, x, y, t)) = cl) := Lib.hid (by simp only [cleanP]; rcases z013 with h | h | h <;> simp [h])
        obtain ⟨A', c', w', hrun, ht⟩ := T0.out.app (S2.out.below (HI.out.below.trans (by exact (Below.refl _ _).alloc HI.out.below.size _))) (by omega) c2
        have HT := Lib.hid ht
        have q0 := T0.out.cell 2
        have q00 := T0.out.cell 0
        clear ht
        rcases z013 with rfl | rfl | rfl
        all_goals
          go_wp2_with (at_builtin; refine wpList_run_append hrun ?_ ?_ ?_; exact rfl; exact rfl)
          exact ⟨⟨K + 1, _, _, _, _, cl, rfl, rfl, by simp, by omega, Lib.hid (HI.out.next HX.out HT.out hch.out hcp.out (by omega))⟩, by simp [intOf]; omega⟩
      · by_cases z2 : z = 2
        · have hch : Hid (chunkG a b (z, x, y, t) = t) := Lib.hid (by simp only [chunkG]; rw [if_neg z013, if_pos z2])
          have hcp : Hid ((cl && cleanP (z, x, y, t)) = cl) := Lib.hid (by simp [cleanP, z2])
          obtain ⟨A', c', w', hrun, ht⟩ := T0.out.app (S3.out.below (HI.out.below.trans (by exact (Below.refl _ _).alloc HI.out.below.size _))) (by omega) c3
          have HT := Lib.hid ht
          have q0 := T0.out.cell 3
          have q00 := T0.out.cell 0
          clear ht
          subst z2
          go_wp2_with (at_builtin; refine wpList_run_append hrun ?_ ?_ ?_; exact rfl; exact rfl)
          exact ⟨⟨K + 1, _, _, _, _, cl, rfl, rfl, by simp, by omega, Lib.hid (HI.out.next HX.out HT.out hch.out hcp.out (by omega))⟩, by simp [intOf]; omega⟩
        · have hch : Hid (chunkG a b (z, x, y, t) = mOurs a :: closedG y ++ (mBase :: closedG x ++ (mMid :: closedG t ++ [mTheirs b]))) := Lib.hid (by simp only [chunkG]; rw [if_neg z013, if_neg z2])
          have hcp : Hid ((cl && cleanP (z, x, y, t)) = false) := Lib.hid (by
            have : cleanP (z, x, y, t) = false := by
              simp only [cleanP, decide_eq_false_iff_not]
              rintro (h | h | h | h)
              · exact z013 (.inl h)
              · exact z013 (.inr (.inl h))
              · exact z013 (.inr (.inr h))
              · exact z2 h
            rw [this, Bool.and_false])
          have u0 : decide (z = 0) = false := by rw [decide_eq_false_iff_not]; intro h; exact z013 (.inl h)
          have u1 : decide (z = 1) = false := by rw [decide_eq_false_iff_not]; intro h; exact z013 (.inr (.inl h))
          have u3 : decide (z = 3) = false := by rw [decide_eq_false_iff_not]; intro h; exact z013 (.inr (.inr h))
          have u2 : decide (z = 2) = false := by rw [decide_eq_false_iff_not]; exact z2
          obtain ⟨Aa, ca, wa, hra, ta⟩ := T0.out.one ((⟨#[60, 60, 60, 60, 60, 60, 60, 32]⟩ ++ a) ++ ⟨#[10]⟩) (by omega) (g1 := wr.heap.size + 1) (by simp)
          have q0 := T0.out.cell 0
          have qa := ta.cell 2
          have Ta := Lib.hid ta
          clear ta
          go_wp2_with (at_builtin; refine wpList_run_append hra ?_ ?_ ?_; exact rfl; exact rfl)
          refine (closed_any A2 n2 c2 y wa (S2.out.below Ta.out.below) (by omega) HSP.out.2.1).mono ?_
          rintro e va ⟨Ba, ea, rfl, oa, _, _, ba⟩
          rw [closedG_length, hn2] at oa
          rw [closedG_length, hn2]
          obtain ⟨Ab, cb, wb, hrb, tb⟩ := (Ta.out.step ba).app (Sl.ofOwn oa) (by omega) ea
          obtain ⟨Ac, cc, wc, hrc, tc⟩ := tb.one ⟨#[124, 124, 124, 124, 124, 124, 124, 32, 98, 97, 115, 101, 10]⟩ (by omega) rfl
          have qc := tc.cell 1
          have Tc := Lib.hid tc
          clear tb tc oa qa
          go_wp2_with (first | (at_builtin; refine wpList_run_append hrb ?_ ?_ ?_; exact rfl; exact rfl) | (at_builtin; refine wpList_run_append hrc ?_ ?_ ?_; exact rfl; exact rfl))
          refine (closed_any A1 n1 c1 x wc (S1.out.below Tc.out.below) (by omega) HSP.out.1).mono ?_
          rintro e vc ⟨Bc, ec, rfl, oc, _, _, bc⟩
          rw [closedG_length, hn1] at oc
          rw [closedG_length, hn1]
          obtain ⟨Ad, cd, wd, hrd, td⟩ := (Tc.out.step bc).app (Sl.ofOwn oc) (by omega) ec
          obtain ⟨Ae, ce, we, hre, te⟩ := td.one ⟨#[61, 61, 61, 61, 61, 61, 61, 10]⟩ (by omega) rfl
          have qe := te.cell 3
          have Te := Lib.hid te
          clear td te oc qc hra hrb hrc
          go_wp2_with (first | (at_builtin; refine wpList_run_append hrd ?_ ?_ ?_; exact rfl; exact rfl) | (at_builtin; refine wpList_run_append hre ?_ ?_ ?_; exact rfl; exact rfl))
          refine (closed_any A3 n3 c3 t we (S3.out.below Te.out.below) (by omega) HSP.out.2.2).mono ?_
          rintro e ve ⟨Be, ee, rfl, oe, _, _, be⟩
          rw [closedG_length, hn3] at oe
          rw [closedG_length, hn3]
          obtain ⟨Af, cf, wf, hrf, tf⟩ := (Te.out.step be).app (Sl.ofOwn oe) (by omega) ee
          obtain ⟨Ag, cg, wg, hrg, tg⟩ := tf.one ((⟨#[62, 62, 62, 62, 62, 62, 62, 32]⟩ ++ b) ++ ⟨#[10]⟩) (by omega) rfl
          have Tg := Lib.hid tg
          clear tf tg oe qe hrd hre
          go_wp2_with (first | (at_builtin; refine wpList_run_append hrf ?_ ?_ ?_; exact rfl; exact rfl) | (at_builtin; refine wpList_run_append hrg ?_ ?_ ?_; exact rfl; exact rfl))
          have TG : TextAt w wr.heap.size 38 #[.int .i64 z, .slice A1 n1 c1, .slice A2 n2 c2, .slice A3 n3 c3] (d ++ (mOurs a :: closedG y ++ (mBase :: closedG x ++ (mMid :: closedG t ++ [mTheirs b])))) (n + 1 + n2 + 1 + n1 + 1 + n3 + 1) Ag cg wg := by
            have h := Tg.out
            simp only [List.append_assoc, List.cons_append, List.nil_append] at h ⊢
            exact h
          exact ⟨⟨K + 1, _, _, _, _, false, rfl, rfl, by simp, by omega, Lib.hid (HI.out.next HX.out TG hch.out hcp.out (by simp only [List.length_append, List.length_cons, closedG_length, List.length_nil]; omega))⟩, by simp [intOf]; omega⟩
    · obtain rfl : K = m := by omega
      have hlt' : ¬ (K : Int) < (K : Int) := by omega
      have HE : Hid (ps.drop K = []) := Lib.hid (List.drop_eq_nil_of_le (by rw [HL.out]; exact Nat.le_refl _))
      go_wp2_with fail
      go_ret2
      have h := HI.out
      have h1 : d = textG a b ps := by have := h.text; rw [HE.out] at this; simpa [textG] using this
      have h2 : cl = cleanG ps := by have := h.clean; rw [HE.out] at this; simpa [cleanG] using this
      have h3 := h.le
      have h4 := ptsLen_take_le ps K
      have h5 := h.len
      have h6 := own_cap h.own
      refine ⟨Ao, co, ?_, ?_, ?_, h6.2, ?_, h.below⟩
      · rw [← h1, ← h2, h5]; rfl
      · rw [← h1, h5]; exact h.own
      · rw [← h1, h5]; exact h6.1
      · rw [← h1, h5]; omega
end Go.Proofs.Ytbdlpigokahnoaa
