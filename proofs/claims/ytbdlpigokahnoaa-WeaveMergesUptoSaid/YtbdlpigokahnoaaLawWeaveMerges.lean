/- The walk of the law WeaveMerges: the parts of raw lists, and the text that they make. -/
import Derived.Test.YtbdlpigokahnoaaLawWeaveSides
import Derived.Test.YtbdlpigokahnoaaWeaveRefMerge
import Derived.Test.YtbdlpigokahnoaaWeaveAlike
import Derived.Test.YtbdlpigokahnoaaWeaveRefTxt
set_option linter.unusedVariables false
namespace Go.Proofs.Ytbdlpigokahnoaa
open Go.RowKit

def kmine : ByteArray := ⟨#[109, 105, 110, 101]⟩
def kyours : ByteArray := ⟨#[121, 111, 117, 114, 115]⟩

set_option maxRecDepth 100000 in
set_option maxHeartbeats 4000000 in
theorem weaveMerges_any (A : Option Addr) (ca : Nat) (a : List ByteArray) (B : Option Addr) (cb : Nat) (b : List ByteArray) (C : Option Addr) (cc : Nat) (c : List ByteArray) (w : World) (hca : a.length ≤ ca) (hcm : ca ≤ maxLen) (ha : SlOf strR w no A a) (ba : strB a ≤ 1048576)
    (hcb : b.length ≤ cb) (hcbm : cb ≤ maxLen) (hb : SlOf strR w no B b) (bb : strB b ≤ 1048576) (hcc : c.length ≤ cc) (hccm : cc ≤ maxLen) (hc : SlOf strR w no C c) (bc : strB c ≤ 1048576) :
    Calls Try.prog 4 #[.slice A a.length ca, .slice B b.length cb, .slice C c.length cc] w fun e w' => e = .returned (.bool true) ∧ Below w.heap.size w w' := by
  have hn : a.length ≤ 1048576 := Nat.le_trans (strB_length a) ba
  have hm : b.length ≤ 1048576 := Nat.le_trans (strB_length b) bb
  have hr : c.length ≤ 1048576 := Nat.le_trans (strB_length c) bc
  have CA := Lib.hid (Came.mk ha.str hca hcm (strB_short ba (by omega)))
  have CB := Lib.hid (Came.mk hb.str hcb hcbm (strB_short bb (by omega)))
  have CC := Lib.hid (Came.mk hc.str hcc hccm (strB_short bc (by omega)))
  clear ba bb bc ha hb hc hca hcb hcc hcm hcbm hccm
  have hPL := merge_length a b c
  have hTL := merge_ptsLen a b c
  have HPE := Lib.hid (merge_part_le a b c)
  have HSH := Lib.hid (merge_short CA.out.short CB.out.short CC.out.short)
  generalize hN : a.length = n at *
  generalize hM : b.length = m at *
  generalize hR : c.length = r at *
  clear hN hM hR
  go_enter Try.func4, Try.ntmps4
  go_wp2_with fail
  refine (awake8_any _).mono ?_
  rintro e w1 ⟨rfl, hb1⟩
  have HB1 := Lib.hid hb1
  clear hb1
  go_wp2_with fail
  refine (small_any A B C n m r ca cb cc w1 (by omega) (by omega) (by omega)).mono ?_
  by_cases hs : n ≤ 200 ∧ m ≤ 200 ∧ r ≤ 200
  · rw [small_three hs]
    rintro e w' ⟨rfl, rfl⟩
    obtain ⟨hn2, hm2, hr2⟩ := hs
    go_wp2_with fail
    refine (mergeC_any (CA.out.below HB1.out) (CB.out.below HB1.out) (CC.out.below HB1.out) (by omega) (by omega) (by omega)).mono ?_
    rintro e w2 ⟨P, k, c', rfl, ho, hb2⟩
    have HB2 := Lib.hid (HB1.out.trans (hb2.mono HB1.out.size))
    have HO2 := Lib.hid ho
    have HK := Lib.hid ho.1
    have hk : k ≤ 600 := by have := ho.1; omega
    have DA := Lib.hid (CA.out.below HB2.out)
    have DB := Lib.hid (CB.out.below HB2.out)
    have DC := Lib.hid (CC.out.below HB2.out)
    clear ho hb2
    go_wp2_with fail
    refine (refMerge_any A B C n ca m cb r cc a b c w2 DA.out.sl DB.out.sl DC.out.sl DA.out.cap DB.out.cap DC.out.cap DA.out.max DB.out.max DC.out.max (by omega) (by omega) (by omega)).mono ?_
    rintro e w3 ⟨Q, k3, c3, rfl, ho, hb3⟩
    have HB3 := Lib.hid (HB2.out.trans (hb3.mono HB2.out.size))
    have HO3 := Lib.hid (HO2.out.below hb3)
    have HQ3 := Lib.hid ho
    have hk3 : k3 = k := ho.1.symm.trans HK.out
    subst hk3
    have PLE := Lib.hid (show ∀ p ∈ mergeG a b c, p.2.1.length ≤ 100000000 ∧ p.2.2.1.length ≤ 100000000 ∧ p.2.2.2.length ≤ 100000000 from fun p hp => by have := HPE.out p hp; omega)
    have hpl : ptsLen (mergeG a b c) ≤ 100000000 := by omega
    clear ho hb3 HO2 HPE DA DB DC hTL
    generalize mergeG a b c = ps at *
    go_wp2_with fail
    refine (text_any P k3 c' ps kmine kyours w3 HO3.out.sl HK.out hpl HSH.out (by decide) (by decide) (by omega)).mono ?_
    generalize hT : textG kmine kyours ps = T at *
    generalize hC : cleanG ps = cl at *
    have HT := Lib.hid hT
    have HC := Lib.hid hC
    clear hT hC
    rintro e w4 ⟨A4, c4, rfl, ho, r1, r2, r3, hb4⟩
    have HB4 := Lib.hid (HB3.out.trans (hb4.mono HB3.out.size))
    have HO4 := Lib.hid (HO3.out.below hb4)
    have HQ4 := Lib.hid (HQ3.out.below hb4)
    have HS4 := Lib.hid (Sl.ofOwn ho)
    clear ho hb4 HO3 HQ3
    go_wp2_with fail
    refine (refText_any Q k3 c3 ps kmine kyours w4 HQ4.out.sl HK.out hpl HSH.out (by decide) (by decide) (by omega)).mono ?_
    rw [HT.out, HC.out]
    rintro e w5 ⟨A5, c5, rfl, ho, r4, r5, r6, hb5⟩
    have HB5 := Lib.hid (HB4.out.trans (hb5.mono HB4.out.size))
    have HO5 := Lib.hid (HO4.out.below hb5)
    have HQ5 := Lib.hid (HQ4.out.below hb5)
    have HS5 := Lib.hid (HS4.out.below hb5)
    have HT5 := Lib.hid (Sl.ofOwn ho)
    clear ho hb5 HO4 HQ4 HS4
    go_wp2_with fail
    refine (plain_any P k3 c' ps w5 HO5.out.sl HK.out (by omega)).mono ?_
    rintro e w6 ⟨A6, k6, c6, rfl, ho, hb6⟩
    have HB6 := Lib.hid (HB5.out.trans (hb6.mono HB5.out.size))
    have HQ6 := Lib.hid (HQ5.out.below hb6)
    have HS6 := Lib.hid (HS5.out.below hb6)
    have HT6 := Lib.hid (HT5.out.below hb6)
    have HR6 := Lib.hid ho
    have hk6 : k6 = k3 := ho.1.symm.trans HK.out
    subst hk6
    clear ho hb6 HO5 HQ5 HS5 HT5
    go_wp2_with fail
    refine (alike_any A6 Q k6 c6 k6 c3 ps ps w6 HR6.out.sl HK.out HQ6.out.sl HK.out (by omega) (by omega) PLE.out PLE.out).mono ?_
    rw [decide_eq_true (rfl : ps = ps)]
    rintro e w7 ⟨rfl, s7⟩
    go_wp2_with fail
    refine (refSame_any A4 A5 T.length c4 T.length c5 T T w7 (s7.sl HS6.out) (s7.sl HT6.out) (by omega) (by omega)).mono ?_
    rintro e w8 ⟨rfl, s8⟩
    rw [sameS_self]
    go_wp2_with fail
    go_ret
    exact ⟨rfl, HB6.out.trans ((s7.trans s8).below _)⟩
  · rw [small_not hs]
    rintro e w' ⟨rfl, rfl⟩
    clear hs
    go_wp2_with fail
    go_ret
    exact ⟨rfl, HB1.out⟩
end Go.Proofs.Ytbdlpigokahnoaa
