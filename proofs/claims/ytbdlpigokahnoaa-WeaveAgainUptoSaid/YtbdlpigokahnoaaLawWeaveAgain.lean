/- The walk of the law WeaveAgain: what was merged without a conflict, merged once more with either side, is as it was. -/
import Derived.Test.YtbdlpigokahnoaaLawWeaveSides
set_option linter.unusedVariables false
namespace Go.Proofs.Ytbdlpigokahnoaa
open Go.RowKit

theorem text_clean_short {o t : ByteArray} : ∀ {ps : List Pt}, cleanG ps = true → Short (oursOf ps) → Short (theirsOf ps) → Short (textG o t ps)
  | [], _, _, _ => fun s h => by cases h
  | p :: ps, h, h1, h2 => by
    unfold cleanG at h
    rw [List.all_cons, Bool.and_eq_true] at h
    have e3 : textG o t (p :: ps) = chunkG o t p ++ textG o t ps := rfl
    have e4 : oursOf (p :: ps) = p.2.2.1 ++ oursOf ps := rfl
    have e5 : theirsOf (p :: ps) = p.2.2.2 ++ theirsOf ps := rfl
    rw [e4] at h1
    rw [e5] at h2
    have ih := text_clean_short (o := o) (t := t) (ps := ps) h.2 (fun s hs => h1 s (List.mem_append_right _ hs)) (fun s hs => h2 s (List.mem_append_right _ hs))
    have hp : p.1 = 0 ∨ p.1 = 1 ∨ p.1 = 3 ∨ p.1 = 2 := by have := h.1; unfold cleanP at this; simpa using this
    rw [e3]
    intro s hs
    rcases List.mem_append.1 hs with hs | hs
    · unfold chunkG at hs
      by_cases q : p.1 = 0 ∨ p.1 = 1 ∨ p.1 = 3
      · rw [if_pos q] at hs; exact h1 s (List.mem_append_left _ hs)
      · rw [if_neg q, if_pos (by omega)] at hs; exact h2 s (List.mem_append_left _ hs)
    · exact ih s hs
theorem merge_clean_short {x y z : List ByteArray} {o t : ByteArray} (h : cleanG (mergeG x y z) = true) (hy : Short y) (hz : Short z) : Short (textG o t (mergeG x y z)) := by
  obtain ⟨e1, e2, e3⟩ := merge_flat x y z
  exact text_clean_short h (by rw [e2]; exact hy) (by rw [e3]; exact hz)

set_option maxRecDepth 100000 in
set_option maxHeartbeats 4000000 in
theorem weaveAgain_any (A : Option Addr) (ca : Nat) (a : List ByteArray) (B : Option Addr) (cb : Nat) (b : List ByteArray) (C : Option Addr) (cc : Nat) (c : List ByteArray) (w : World) (hca : a.length ≤ ca) (hcm : ca ≤ maxLen) (ha : SlOf strR w no A a) (ba : strB a ≤ 1048576)
    (hcb : b.length ≤ cb) (hcbm : cb ≤ maxLen) (hb : SlOf strR w no B b) (bb : strB b ≤ 1048576) (hcc : c.length ≤ cc) (hccm : cc ≤ maxLen) (hc : SlOf strR w no C c) (bc : strB c ≤ 1048576) :
    Calls Try.prog 9 #[.slice A a.length ca, .slice B b.length cb, .slice C c.length cc] w fun e w' => e = .returned (.bool true) ∧ Below w.heap.size w w' := by
  have hn : a.length ≤ 1048576 := Nat.le_trans (strB_length a) ba
  have hm : b.length ≤ 1048576 := Nat.le_trans (strB_length b) bb
  have hr : c.length ≤ 1048576 := Nat.le_trans (strB_length c) bc
  have CA := Lib.hid (Came.mk ha.str hca hcm (strB_short ba (by omega)))
  have CB := Lib.hid (Came.mk hb.str hcb hcbm (strB_short bb (by omega)))
  have CC := Lib.hid (Came.mk hc.str hcc hccm (strB_short bc (by omega)))
  clear ba bb bc ha hb hc hca hcb hcc hcm hcbm hccm
  have HBL := Lib.hid (merge_clean_len a b c kl kr)
  generalize hN : a.length = n at *
  generalize hM : b.length = m at *
  generalize hR : c.length = r at *
  clear hN hM hR
  go_enter Try.func9, Try.ntmps9
  go_wp2_with fail
  refine (awake8_any _).mono ?_
  rintro e w1 ⟨rfl, hb1⟩
  have HB1 := Lib.hid hb1
  clear hb1
  go_wp2_with fail
  refine (small_any A B C n m r ca cb cc w1 (by omega) (by omega) (by omega)).mono ?_
  by_cases hs : n ≤ 200 ∧ m ≤ 200 ∧ r ≤ 200
  · rw [small_three hs]
    rintro e w' ⟨rfl, rfl⟩
    obtain ⟨hn2, hm2, hr2⟩ := hs
    go_wp2_with fail
    refine (mergeC_any (CA.out.below HB1.out) (CB.out.below HB1.out) (CC.out.below HB1.out) (by omega) (by omega) (by omega)).mono ?_
    rintro e w2 ⟨P, k, c', rfl, ho, hb2⟩
    have HO := Lib.hid ho
    have HB2 := Lib.hid (HB1.out.trans (hb2.mono HB1.out.size))
    clear ho hb2
    go_wp2_with fail
    refine (textC_any (a := kl) (b := kr) HO.out CA.out CB.out CC.out (by omega) (by omega) (by omega) (by decide) (by decide)).mono ?_
    by_cases hcl : cleanG (mergeG a b c) = true
    · rw [hcl]
      have HSH := Lib.hid (merge_clean_short (o := kl) (t := kr) hcl CB.out.short CC.out.short)
      have hll := HBL.out hcl
      clear hcl
      generalize textG kl kr (mergeG a b c) = T at *
      rintro e w3 ⟨A4, c4, rfl, ho3, r1, r2, r3, hb3⟩
      have HB3 := Lib.hid (HB2.out.trans (hb3.mono HB2.out.size))
      have CT := Lib.hid (Came.mk (Sl.ofOwn ho3) r1 r2 HSH.out)
      have hT : T.length ≤ 400 := by omega
      clear ho3 hb3 hll HBL HSH
      generalize hL : T.length = L at *
      have key : ∀ K, K < 2 → ∃ (A1 : Option Addr) (n1 c1 : Nat) (x : List ByteArray), #[Value.slice B m cb, .slice C r cc][K]? = some (.slice A1 n1 c1) ∧ n1 ≤ 200 ∧ Came w A1 n1 c1 x := fun K hK => by
        have h3 : K = 0 ∨ K = 1 := by omega
        rcases h3 with rfl | rfl
        · exact ⟨_, _, _, b, rfl, hm2, CB.out⟩
        · exact ⟨_, _, _, c, rfl, hr2, CC.out⟩
      have KEY := Lib.hid key
      have HLL := Lib.hid hL
      clear key hL
      go_wp2_with fail
      have HG := Lib.hid (show Blk (w3.alloc (.cells #[Value.slice B m cb, .slice C r cc] 23)) w3.heap.size 23 #[Value.slice B m cb, .slice C r cc] from Blk.new w3 _ _)
      have HT0 := Lib.hid (CT.out.below ((Below.refl _ _).alloc (Nat.le_refl _) (.cells #[Value.slice B m cb, .slice C r cc] 23)))
      go_loopw [52] (fun i wr => ∃ K : Nat, i = .int .i64 K ∧ K ≤ 2 ∧ Below w.heap.size w wr ∧ Hid (Blk wr w3.heap.size 23 #[Value.slice B m cb, .slice C r cc]) ∧ Hid (Came wr A4 L c4 T)) (fun i _ => 2 - (intOf i).toNat)
      case atStart => exact ⟨0, rfl, by omega, HB3.out.alloc HB3.out.size _, HG, HT0⟩
      case round =>
        obtain ⟨K, rfl, hK, hbr, HGr, HTr⟩ := hrel
        by_cases hlt : K < 2
        · obtain ⟨A1, n1, c1, x, k1, h1, C1⟩ := KEY.out K hlt
          have q1 := (HGr.out.cell K).trans k1
          have hlt' : (K : Int) < 2 := by omega
          have D1 := Lib.hid (C1.below hbr)
          have HBR := Lib.hid hbr
          clear k1 hbr C1
          go_wp2_with fail
          refine (mergeC_any D1.out HTr.out D1.out (by omega) (by omega) (by omega)).mono ?_
          rintro e w4 ⟨P4, k4, c4', rfl, ho, hb4⟩
          have HO := Lib.hid ho
          have HB4 := Lib.hid (HBR.out.trans (hb4.mono HBR.out.size))
          have HG4 := Lib.hid (HGr.out.below hb4 HGr.out.lt)
          have HT4 := Lib.hid (HTr.out.below hb4)
          have D4 := Lib.hid (D1.out.below hb4)
          clear ho hb4 q1
          go_wp2_with fail
          refine (textC_any (a := kl) (b := kr) HO.out D1.out HTr.out D1.out (by omega) (by omega) (by omega) (by decide) (by decide)).mono ?_
          rw [(merge_theirs_base x T kl kr).1, (merge_theirs_base x T kl kr).2]
          rintro e w5 ⟨A5, c5, rfl, ho5, s1, s2, s3, hb5⟩
          rw [HLL.out]
          rw [HLL.out] at ho5 s1
          have HB5 := Lib.hid (HB4.out.trans (hb5.mono HB4.out.size))
          have HG5 := Lib.hid (HG4.out.below hb5 HG4.out.lt)
          have HT5 := Lib.hid (HT4.out.below hb5)
          have D5 := Lib.hid (D4.out.below hb5)
          have E5 := Lib.hid (Sl.ofOwn ho5)
          clear ho5 hb5 HO HTr HGr
          go_wp2_with fail
          refine (mergeC_any D5.out D5.out HT5.out (by omega) (by omega) (by omega)).mono ?_
          rintro e w6 ⟨P6, k6, c6', rfl, ho, hb6⟩
          have HO := Lib.hid ho
          have HB6 := Lib.hid (HB5.out.trans (hb6.mono HB5.out.size))
          have HG6 := Lib.hid (HG5.out.below hb6 HG5.out.lt)
          have HT6 := Lib.hid (HT5.out.below hb6)
          have E6 := Lib.hid (E5.out.below hb6)
          clear ho hb6
          go_wp2_with fail
          refine (textC_any (a := kl) (b := kr) HO.out D5.out D5.out HT5.out (by omega) (by omega) (by omega) (by decide) (by decide)).mono ?_
          rw [(merge_ours_base x T kl kr).1, (merge_ours_base x T kl kr).2]
          rintro e w7 ⟨A7, c7, rfl, ho7, t1, t2, t3, hb7⟩
          rw [HLL.out]
          rw [HLL.out] at ho7 t1
          have HB7 := Lib.hid (HB6.out.trans (hb7.mono HB6.out.size))
          have HG7 := Lib.hid (HG6.out.below hb7 HG6.out.lt)
          have HT7 := Lib.hid (HT6.out.below hb7)
          have E7 := Lib.hid (E6.out.below hb7)
          have F7 := Lib.hid (Sl.ofOwn ho7)
          clear ho7 hb7 HO
          go_wp2_with fail
          refine (refSame_any A5 A4 L c5 L c4 T T _ E7.out HT7.out.sl (by omega) (by omega)).mono ?_
          rintro e w8 ⟨rfl, s8⟩
          rw [sameS_self]
          go_wp2_with fail
          refine (refSame_any A7 A4 L c7 L c4 T T _ (s8.sl F7.out) (s8.sl HT7.out.sl) (by omega) (by omega)).mono ?_
          rintro e w9 ⟨rfl, s9⟩
          have HB9 := Lib.hid ((s8.trans s9).below w7.heap.size)
          rw [sameS_self]
          go_wp2_with fail
          go_roundw
          case rel => exact ⟨K + 1, by go_num, by omega, HB7.out.trans (HB9.out.mono HB7.out.size), Lib.hid (HG7.out.below HB9.out HG7.out.lt), Lib.hid (HT7.out.below HB9.out)⟩
          case measure => simp [intOf]; omega
        · obtain rfl : K = 2 := by omega
          go_wp2_with fail
          go_ret
          exact ⟨rfl, hbr⟩
    · have hcl' : cleanG (mergeG a b c) = false := by simpa using hcl
      rw [hcl']
      rintro e w3 ⟨A4, c4, rfl, ho3, r1, r2, r3, hb3⟩
      have HB3 := Lib.hid (HB2.out.trans (hb3.mono HB2.out.size))
      clear ho3 hb3 hcl hcl' HBL
      go_wp2_with fail
      go_ret
      exact ⟨rfl, HB3.out⟩
  · rw [small_not hs]
    rintro e w' ⟨rfl, rfl⟩
    clear hs
    go_wp2_with fail
    go_ret
    exact ⟨rfl, HB1.out⟩
end Go.Proofs.Ytbdlpigokahnoaa
