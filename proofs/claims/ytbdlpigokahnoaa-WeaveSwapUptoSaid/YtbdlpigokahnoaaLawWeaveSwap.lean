/- The walk of the law WeaveSwap: with the sides turned about the parts, and the text, are turned about. -/
import Derived.Test.YtbdlpigokahnoaaLawWeaveSides
import Derived.Test.YtbdlpigokahnoaaWeaveSwapFn
import Derived.Test.YtbdlpigokahnoaaWeaveAlike
set_option linter.unusedVariables false
namespace Go.Proofs.Ytbdlpigokahnoaa
open Go.RowKit

theorem swap_part_le {ps : List Pt} {k : Nat} (h : ∀ p ∈ ps, p.2.1.length ≤ k ∧ p.2.2.1.length ≤ k ∧ p.2.2.2.length ≤ k) : ∀ p ∈ ps.map swapP, p.2.1.length ≤ k ∧ p.2.2.1.length ≤ k ∧ p.2.2.2.length ≤ k := fun p hp => by
  obtain ⟨q, hq, rfl⟩ := List.mem_map.1 hp
  have := h q hq
  exact ⟨this.1, this.2.2, this.2.1⟩
theorem swap_twice (ps : List Pt) : (ps.map swapP).map swapP = ps := by
  rw [List.map_map]
  have : (swapP ∘ swapP) = id := funext fun p => swapP_swapP p
  rw [this, List.map_id]

set_option maxRecDepth 100000 in
set_option maxHeartbeats 4000000 in
theorem weaveSwap_any (A : Option Addr) (ca : Nat) (a : List ByteArray) (B : Option Addr) (cb : Nat) (b : List ByteArray) (C : Option Addr) (cc : Nat) (c : List ByteArray) (w : World) (hca : a.length ≤ ca) (hcm : ca ≤ maxLen) (ha : SlOf strR w no A a) (ba : strB a ≤ 1048576)
    (hcb : b.length ≤ cb) (hcbm : cb ≤ maxLen) (hb : SlOf strR w no B b) (bb : strB b ≤ 1048576) (hcc : c.length ≤ cc) (hccm : cc ≤ maxLen) (hc : SlOf strR w no C c) (bc : strB c ≤ 1048576) :
    Calls Try.prog 10 #[.slice A a.length ca, .slice B b.length cb, .slice C c.length cc] w fun e w' => e = .returned (.bool true) ∧ Below w.heap.size w w' := by
  have hn : a.length ≤ 1048576 := Nat.le_trans (strB_length a) ba
  have hm : b.length ≤ 1048576 := Nat.le_trans (strB_length b) bb
  have hr : c.length ≤ 1048576 := Nat.le_trans (strB_length c) bc
  have CA := Lib.hid (Came.mk ha.str hca hcm (strB_short ba (by omega)))
  have CB := Lib.hid (Came.mk hb.str hcb hcbm (strB_short bb (by omega)))
  have CC := Lib.hid (Came.mk hc.str hcc hccm (strB_short bc (by omega)))
  clear ba bb bc ha hb hc hca hcb hcc hcm hcbm hccm
  have hPL := merge_length a b c
  have HPE := Lib.hid (merge_part_le a b c)
  have HSW := Lib.hid (merge_swap a b c)
  have HOK := Lib.hid (merge_ok a b c)
  generalize hN : a.length = n at *
  generalize hM : b.length = m at *
  generalize hR : c.length = r at *
  clear hN hM hR
  go_enter Try.func10, Try.ntmps10
  go_wp2_with fail
  refine (awake8_any _).mono ?_
  rintro e w1 ⟨rfl, hb1⟩
  have HB1 := Lib.hid hb1
  clear hb1
  go_wp2_with fail
  refine (small_any A B C n m r ca cb cc w1 (by omega) (by omega) (by omega)).mono ?_
  by_cases hs : n ≤ 200 ∧ m ≤ 200 ∧ r ≤ 200
  · rw [small_three hs]
    rintro e w' ⟨rfl, rfl⟩
    obtain ⟨hn2, hm2, hr2⟩ := hs
    go_wp2_with fail
    refine (mergeC_any (CA.out.below HB1.out) (CB.out.below HB1.out) (CC.out.below HB1.out) (by omega) (by omega) (by omega)).mono ?_
    rintro e w2 ⟨P, k, c', rfl, ho, hb2⟩
    have HB2 := Lib.hid (HB1.out.trans (hb2.mono HB1.out.size))
    have HO2 := Lib.hid ho
    have HK := Lib.hid ho.1
    have hk : k ≤ 600 := by have := ho.1; omega
    clear ho hb2
    go_wp2_with fail
    refine (mergeC_any (CA.out.below HB2.out) (CC.out.below HB2.out) (CB.out.below HB2.out) (by omega) (by omega) (by omega)).mono ?_
    rw [HSW.out]
    rintro e w3 ⟨Q, k3, c3, rfl, ho, hb3⟩
    have HB3 := Lib.hid (HB2.out.trans (hb3.mono HB2.out.size))
    have HO3 := Lib.hid (HO2.out.below hb3)
    have HQ3 := Lib.hid ho
    have hk3 : k3 = k := by have h1 := ho.1; rw [List.length_map] at h1; exact h1.symm.trans HK.out
    subst hk3
    have TX := fun (a' b' : ByteArray) (W : World) (base : Nat) (A' : Option Addr) (cA : Nat) (h : OwnPts W base 38 A' k3 cA (mergeG a b c)) (h1 : a'.size ≤ 100000000) (h2 : b'.size ≤ 100000000) =>
      textC_any (a := a') (b := b') h CA.out CB.out CC.out (by omega) (by omega) (by omega) h1 h2
    have TY := fun (a' b' : ByteArray) (W : World) (base : Nat) (A' : Option Addr) (cA : Nat) (h : OwnPts W base 38 A' k3 cA (mergeG a c b)) (h1 : a'.size ≤ 100000000) (h2 : b'.size ≤ 100000000) =>
      textC_any (a := a') (b := b') h CA.out CC.out CB.out (by omega) (by omega) (by omega) h1 h2
    rw [HSW.out] at TY
    have TX := Lib.hid TX
    have TY := Lib.hid TY
    have PLE := Lib.hid (show ∀ p ∈ mergeG a b c, p.2.1.length ≤ 100000000 ∧ p.2.2.1.length ≤ 100000000 ∧ p.2.2.2.length ≤ 100000000 from fun p hp => by have := HPE.out p hp; omega)
    have QLE := Lib.hid (swap_part_le PLE.out)
    have HTW := Lib.hid (swap_twice (mergeG a b c))
    have HTS := Lib.hid (fun (h : cleanG (mergeG a b c) = true) => text_swap HOK.out h kr kl)
    have HCS := Lib.hid (clean_swap (ps := mergeG a b c))
    clear ho hb3 HO2 HSW HPE HOK
    generalize mergeG a b c = ps at *
    generalize hQ : ps.map swapP = qs at *
    have HQS := Lib.hid hQ
    clear hQ
    have HKQ := Lib.hid HQ3.out.1
    go_wp2_with fail
    refine (swap_any P k3 c' ps w3 HO3.out.sl HK.out (by omega) PLE.out).mono ?_
    rw [HQS.out]
    rintro e w4 ⟨A4, k4, c4, rfl, ho, hb4⟩
    have HB4 := Lib.hid (HB3.out.trans (hb4.mono HB3.out.size))
    have HO4 := Lib.hid (HO3.out.below hb4)
    have HQ4 := Lib.hid (HQ3.out.below hb4)
    have HR4 := Lib.hid ho
    have hk4 : k4 = k3 := ho.1.symm.trans HKQ.out
    subst hk4
    clear ho hb4 HO3 HQ3
    go_wp2_with fail
    refine (plain_any A4 k4 c4 qs w4 HR4.out.sl HKQ.out (by omega)).mono ?_
    rintro e w5 ⟨A5, k5, c5, rfl, ho, hb5⟩
    have HB5 := Lib.hid (HB4.out.trans (hb5.mono HB4.out.size))
    have HO5 := Lib.hid (HO4.out.below hb5)
    have HQ5 := Lib.hid (HQ4.out.below hb5)
    have HR5 := Lib.hid ho
    have hk5 : k5 = k4 := ho.1.symm.trans HKQ.out
    subst hk5
    clear ho hb5 HO4 HQ4 HR4
    go_wp2_with fail
    refine (plain_any Q k5 c3 qs w5 HQ5.out.sl HKQ.out (by omega)).mono ?_
    rintro e w6 ⟨A6, k6, c6, rfl, ho, hb6⟩
    have HB6 := Lib.hid (HB5.out.trans (hb6.mono HB5.out.size))
    have HO6 := Lib.hid (HO5.out.below hb6)
    have HQ6 := Lib.hid (HQ5.out.below hb6)
    have HR6 := Lib.hid (HR5.out.below hb6)
    have HS6 := Lib.hid ho
    have hk6 : k6 = k5 := ho.1.symm.trans HKQ.out
    subst hk6
    clear ho hb6 HO5 HQ5 HR5
    go_wp2_with fail
    refine (alike_any A5 A6 k6 c5 k6 c6 qs qs w6 HR6.out.sl HKQ.out HS6.out.sl HKQ.out (by omega) (by omega) QLE.out QLE.out).mono ?_
    rw [decide_eq_true (rfl : qs = qs)]
    rintro e w7 ⟨rfl, s7⟩
    have HB7 := Lib.hid (HB6.out.trans (s7.below _))
    have HO7 := Lib.hid (HO6.out.below (s7.below _))
    have HQ7 := Lib.hid (HQ6.out.below (s7.below _))
    clear HO6 HQ6 HR6 HS6 s7
    go_wp2_with fail
    refine (swap_any P k6 c' ps w7 HO7.out.sl HK.out (by omega) PLE.out).mono ?_
    rw [HQS.out]
    rintro e w8 ⟨A8, k8, c8, rfl, ho, hb8⟩
    have HB8 := Lib.hid (HB7.out.trans (hb8.mono HB7.out.size))
    have HO8 := Lib.hid (HO7.out.below hb8)
    have HQ8 := Lib.hid (HQ7.out.below hb8)
    have HR8 := Lib.hid ho
    have hk8 : k8 = k6 := ho.1.symm.trans HKQ.out
    subst hk8
    clear ho hb8 HO7 HQ7
    go_wp2_with fail
    refine (swap_any A8 k8 c8 qs w8 HR8.out.sl HKQ.out (by omega) QLE.out).mono ?_
    rw [HTW.out]
    rintro e w9 ⟨A9, k9, c9, rfl, ho, hb9⟩
    have HB9 := Lib.hid (HB8.out.trans (hb9.mono HB8.out.size))
    have HO9 := Lib.hid (HO8.out.below hb9)
    have HQ9 := Lib.hid (HQ8.out.below hb9)
    have HR9 := Lib.hid ho
    have hk9 : k9 = k8 := ho.1.symm.trans HK.out
    subst hk9
    clear ho hb9 HO8 HQ8 HR8
    go_wp2_with fail
    refine (plain_any A9 k9 c9 ps w9 HR9.out.sl HK.out (by omega)).mono ?_
    rintro e w10 ⟨A10, k10, c10, rfl, ho, hb10⟩
    have HB10 := Lib.hid (HB9.out.trans (hb10.mono HB9.out.size))
    have HO10 := Lib.hid (HO9.out.below hb10)
    have HQ10 := Lib.hid (HQ9.out.below hb10)
    have HR10 := Lib.hid ho
    have hk10 : k10 = k9 := ho.1.symm.trans HK.out
    subst hk10
    clear ho hb10 HO9 HQ9 HR9
    go_wp2_with fail
    refine (plain_any P k10 c' ps w10 HO10.out.sl HK.out (by omega)).mono ?_
    rintro e w11 ⟨A11, k11, c11, rfl, ho, hb11⟩
    have HB11 := Lib.hid (HB10.out.trans (hb11.mono HB10.out.size))
    have HO11 := Lib.hid (HO10.out.below hb11)
    have HQ11 := Lib.hid (HQ10.out.below hb11)
    have HR11 := Lib.hid (HR10.out.below hb11)
    have HS11 := Lib.hid ho
    have hk11 : k11 = k10 := ho.1.symm.trans HK.out
    subst hk11
    clear ho hb11 HO10 HQ10 HR10
    go_wp2_with fail
    refine (alike_any A10 A11 k11 c10 k11 c11 ps ps w11 HR11.out.sl HK.out HS11.out.sl HK.out (by omega) (by omega) PLE.out PLE.out).mono ?_
    rw [decide_eq_true (rfl : ps = ps)]
    rintro e w12 ⟨rfl, s12⟩
    have HB12 := Lib.hid (HB11.out.trans (s12.below _))
    have HO12 := Lib.hid (HO11.out.below (s12.below _))
    have HQ12 := Lib.hid (HQ11.out.below (s12.below _))
    clear HO11 HQ11 HR11 HS11 s12
    go_wp2_with fail
    refine (TX.out kl kr w12 _ P c' HO12.out (by decide) (by decide)).mono ?_
    rintro e w13 ⟨A13, c13, rfl, ho, r1, r2, r3, hb13⟩
    have HB13 := Lib.hid (HB12.out.trans (hb13.mono HB12.out.size))
    have HQ13 := Lib.hid (HQ12.out.below hb13)
    have HS13 := Lib.hid (Sl.ofOwn ho)
    clear ho hb13 HO12 HQ12
    go_wp2_with fail
    refine (TY.out kr kl w13 _ Q c3 HQ13.out (by decide) (by decide)).mono ?_
    rw [HCS.out]
    rintro e w14 ⟨A14, c14, rfl, ho, t1, t2, t3, hb14⟩
    have HB14 := Lib.hid (HB13.out.trans (hb14.mono HB13.out.size))
    have HS14 := Lib.hid (HS13.out.below hb14)
    have HT14 := Lib.hid (Sl.ofOwn ho)
    clear ho hb14 HQ13
    by_cases hcl : cleanG ps = true
    · have htq := HTS.out hcl
      rw [hcl]
      rw [htq] at HT14 t1 t3
      rw [htq]
      clear hcl htq HTS
      go_wp2_with fail
      refine (refSame_any A13 A14 _ c13 _ c14 _ _ w14 HS14.out HT14.out (by omega) (by omega)).mono ?_
      rintro e w15 ⟨rfl, s15⟩
      rw [sameS_self]
      go_wp2_with fail
      go_ret
      exact ⟨rfl, HB14.out.trans (s15.below _)⟩
    · have hcl' : cleanG ps = false := by simpa using hcl
      rw [hcl']
      clear hcl hcl' HTS
      go_wp2_with fail
      go_ret
      exact ⟨rfl, HB14.out⟩
  · rw [small_not hs]
    rintro e w' ⟨rfl, rfl⟩
    clear hs
    go_wp2_with fail
    go_ret
    exact ⟨rfl, HB1.out⟩
end Go.Proofs.Ytbdlpigokahnoaa
