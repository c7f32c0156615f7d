/- The walk of the law WeaveTexts: the text that raw parts make. -/
import Derived.Test.YtbdlpigokahnoaaWeaveUse
import Derived.Test.YtbdlpigokahnoaaWeaveFns
import Derived.Test.YtbdlpigokahnoaaWeaveRefTxt
import Derived.Test.YtbdlpigokahnoaaLinesBulk
set_option linter.unusedVariables false
namespace Go.Proofs.Ytbdlpigokahnoaa
open Go.RowKit

def ptB (l : List Pt) : Nat := bulkL (fun x : Pt => 1 + (strB x.2.1 + (strB x.2.2.1 + strB x.2.2.2)) + 1) l + 1
theorem strB_size {l : List ByteArray} {s : ByteArray} (h : s ∈ l) : s.size ≤ strB l := by
  have key : ∀ (l : List ByteArray), ∀ s ∈ l, s.size ≤ bulkL (fun s : ByteArray => s.size + 1) l := by
    intro l
    induction l with
    | nil => intro s hs; cases hs
    | cons x l ih =>
      intro s hs
      simp only [bulkL]
      rcases List.mem_cons.1 hs with rfl | hs
      · omega
      · have := ih s hs; omega
  have := key l s h
  unfold strB
  omega
theorem ptB_all : ∀ (l : List Pt), l.length ≤ ptB l ∧ ptsLen l ≤ 4 * ptB l ∧ ∀ p ∈ l, strB p.2.1 ≤ ptB l ∧ strB p.2.2.1 ≤ ptB l ∧ strB p.2.2.2 ≤ ptB l
  | [] => by simp [ptB, ptsLen, bulkL]
  | p :: l => by
    obtain ⟨h1, h2, h3⟩ := ptB_all l
    have a1 := strB_length p.2.1
    have a2 := strB_length p.2.2.1
    have a3 := strB_length p.2.2.2
    have e : ptB (p :: l) = 1 + (strB p.2.1 + (strB p.2.2.1 + strB p.2.2.2)) + 1 + ptB l := by simp only [ptB, bulkL]; omega
    have e2 : ptsLen (p :: l) = ptLen p + ptsLen l := by simp [ptsLen]
    have e3 : ptLen p = p.2.1.length + p.2.2.1.length + p.2.2.2.length + 4 := rfl
    have p1 : 1 ≤ strB p.2.1 ∧ 1 ≤ strB p.2.2.1 ∧ 1 ≤ strB p.2.2.2 := by unfold strB; omega
    refine ⟨by rw [e, List.length_cons]; omega, by rw [e, e2, e3]; omega, fun q hq => ?_⟩
    rcases List.mem_cons.1 hq with rfl | hq
    · omega
    · have := h3 q hq; omega
theorem ptB_short {l : List Pt} (h : ptB l ≤ 1048576) : ∀ p ∈ l, PtShort p := fun p hp => by
  have := (ptB_all l).2.2 p hp
  exact ⟨fun s hs => by have := strB_size hs; omega, fun s hs => by have := strB_size hs; omega, fun s hs => by have := strB_size hs; omega⟩

set_option maxHeartbeats 2000000 in
theorem weaveTexts_any (A : Option Addr) (ca : Nat) (ps : List Pt) (a b : ByteArray) (w : World) (hca : ps.length ≤ ca) (hcm : ca ≤ maxLen) (hs : SlOf ptR w no A ps) (bs : ptB ps ≤ 1048576) (ma : a.size ≤ maxLen) (ha : a.size ≤ 1048576) (mb : b.size ≤ maxLen) (hb : b.size ≤ 1048576) :
    Calls Try.prog 5 #[.slice A ps.length ca, .string a, .string b] w fun e w' => e = .returned (.bool true) ∧ Below w.heap.size w w' := by
  obtain ⟨h1, h2, -⟩ := ptB_all ps
  have HSH := Lib.hid (ptB_short bs)
  have HPS := Lib.hid hs
  have h3 : ps.length ≤ 1048576 := by omega
  have h4 : ptsLen ps ≤ 100000000 := by omega
  clear h1 h2 bs hs ma mb
  generalize hN : ps.length = n at *
  have HN := Lib.hid hN
  clear hN
  go_enter Try.func5, Try.ntmps5
  go_wp2_with fail
  refine (awake8_any _).mono ?_
  rintro e w1 ⟨rfl, hb1⟩
  have HB1 := Lib.hid hb1
  have HP1 := Lib.hid (HPS.out.below hb1)
  clear hb1
  go_wp2_with fail
  refine (text_any A n ca ps a b w1 HP1.out HN.out h4 HSH.out (by omega) (by omega) (by omega)).mono ?_
  generalize hT : textG a b ps = T at *
  generalize hC : cleanG ps = C at *
  have HT := Lib.hid hT
  have HC := Lib.hid hC
  clear hT hC
  rintro e w2 ⟨A2, c2, rfl, ho2, r1, r2, r3, hb2⟩
  have HB2 := Lib.hid (HB1.out.trans (hb2.mono HB1.out.size))
  have HP2 := Lib.hid (HP1.out.below hb2)
  have HS2 := Lib.hid (Sl.ofOwn ho2)
  clear ho2 hb2
  go_wp2_with fail
  refine (plain_any A n ca ps w2 HP2.out HN.out (by omega)).mono ?_
  rintro e w3 ⟨A3, n3, c3, rfl, ho3, hb3⟩
  have HB3 := Lib.hid (HB2.out.trans (hb3.mono HB2.out.size))
  have HS3 := Lib.hid (HS2.out.below hb3)
  have HO3 := Lib.hid ho3
  have hn3 : n3 = n := ho3.1.symm.trans HN.out
  subst hn3
  clear ho3 hb3
  go_wp2_with fail
  refine (refText_any A3 n3 c3 ps a b w3 HO3.out.sl HN.out h4 HSH.out (by omega) (by omega) (by omega)).mono ?_
  rw [HT.out, HC.out]
  rintro e w4 ⟨A4, c4, rfl, ho4, r4, r5, r6, hb4⟩
  have HB4 := Lib.hid (HB3.out.trans (hb4.mono HB3.out.size))
  have HS4 := Lib.hid (HS3.out.below hb4)
  have HS5 := Lib.hid (Sl.ofOwn ho4)
  clear ho4 hb4
  go_wp2_with fail
  refine (refSame_any A2 A4 T.length c2 T.length c4 T T w4 HS4.out HS5.out (by omega) (by omega)).mono ?_
  rintro e w5 ⟨rfl, s5⟩
  rw [sameS_self]
  go_wp2_with fail
  go_ret
  exact ⟨rfl, HB4.out.trans (s5.below _)⟩
end Go.Proofs.Ytbdlpigokahnoaa
