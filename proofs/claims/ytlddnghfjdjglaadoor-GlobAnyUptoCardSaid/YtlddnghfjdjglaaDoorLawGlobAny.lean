/- The walk of the law GlobAny: two stars mean any names; a star, a question mark or a set means no /. -/
import Derived.Test.YtlddnghfjdjglaaDoorGlobAwake
import Derived.Test.YtlddnghfjdjglaaDoorGlobQuoted
import Derived.Test.YtlddnghfjdjglaaDoorGlobName
import Derived.Test.YtlddnghfjdjglaaDoorGlobLines
import Derived.Test.YtlddnghfjdjglaaDoorOpenRd
import Derived.Test.YtlddnghfjdjglaaDoorBytesList
set_option linter.unusedVariables false
set_option linter.unusedSimpArgs false
namespace Go.Proofs.YtlddnghfjdjglaaDoor
open Go.RowKit
attribute [local go_sem ↓] cvt_eq

/-! ### plain -/
def anP : List Pc := [some [litA 102, litA 114, litA 111, litA 109], none, some [litA 116, litA 111]]
def anQ : List Pc := [some [litA 97, oneA, litA 98]]
def anR : List Pc := [some [litA 97, ⟨false, false, true, [(99, 99)]⟩, litA 98]]
theorem an0_parse : parseG [42, 42] = .ok [none] := by rw [parseF_eq]; rfl
theorem anP_parse : parseG [102, 114, 111, 109, 47, 42, 42, 47, 116, 111] = .ok anP := by rw [parseF_eq]; rfl
theorem anQ_parse : parseG [97, 63, 98] = .ok anQ := by rw [parseF_eq]; rfl
theorem anR_parse : parseG [97, 91, 33, 99, 93, 98] = .ok anR := by rw [parseF_eq]; rfl
theorem any_all (p : List UInt8) : matchM [none] p = true := by
  unfold matchM
  refine (mat_star_iff _ _ rfl _).2 ⟨(namesG p).length, Nat.le_refl _, ?_⟩
  rw [List.drop_length]; simp [mat]
/-- the way: from/, then names -/
def wayG (ns : List (List UInt8)) : List UInt8 := [102, 114, 111, 109, 47] ++ ns.flatMap fun n => n ++ [47]
theorem way_snoc (ns : List (List UInt8)) (n : List UInt8) : wayG (ns ++ [n]) = wayG ns ++ (n ++ [47]) := by unfold wayG; simp
theorem split_names : ∀ {ns : List (List UInt8)} {t : List UInt8}, (∀ n ∈ ns, flat n) → flat t → splitG ((ns.flatMap fun n => n ++ [47]) ++ t) = ns ++ [t]
  | [], t, _, ht => splitG_one ht
  | n :: r, t, h, ht => by
    have e : ((n :: r).flatMap fun n => n ++ [47]) ++ t = n ++ 47 :: ((r.flatMap fun n => n ++ [47]) ++ t) := by simp
    rw [e, splitG_at _ (h n (by simp)), split_names (fun m hm => h m (by simp [hm])) ht]; rfl
theorem way_names {ns : List (List UInt8)} {t : List UInt8} (h : ∀ n ∈ ns, flat n) (ht : flat t) : namesG (wayG ns ++ t) = [102, 114, 111, 109] :: (ns ++ [t]) := by
  unfold namesG wayG
  rw [if_neg (by simp)]
  have e : [102, 114, 111, 109, 47] ++ (ns.flatMap fun n => n ++ [47]) ++ t = [102, 114, 111, 109] ++ 47 :: ((ns.flatMap fun n => n ++ [47]) ++ t) := by simp
  rw [e, splitG_at _ (by decide), split_names h ht]
theorem way_match {ns : List (List UInt8)} {t : List UInt8} (h : ∀ n ∈ ns, flat n) (ht : flat t) : matchM anP (wayG ns ++ t) = (t == [116, 111]) := by
  unfold matchM anP
  rw [way_names h ht, mat_sign_cons _ _ rfl]
  have h1 : pcTakes (some [litA 102, litA 114, litA 111, litA 109]) [102, 114, 111, 109] = true := by
    show nameM ([102, 114, 111, 109].map litA) _ = true
    rw [lits_only]; rfl
  rw [h1, Bool.true_and]
  have h2 := mat_snoc_sign (star := Option.isNone) (takes := pcTakes) (a := some [litA 116, litA 111]) rfl [none] ns t
  show mat Option.isNone pcTakes ([none] ++ [some [litA 116, litA 111]]) (ns ++ [t]) = _
  rw [h2]
  have h3 : mat Option.isNone pcTakes [none] ns = true := (mat_star_iff _ _ rfl _).2 ⟨ns.length, Nat.le_refl _, by rw [List.drop_length]; simp [mat]⟩
  rw [h3, Bool.true_and]
  show nameM ([116, 111].map litA) t = _
  rw [lits_only]
theorem slash_names {az : List Atm} : matchM [some az] [97, 47, 98] = false := by
  unfold matchM
  have : namesG [97, 47, 98] = [[97], [98]] := by decide +kernel
  rw [this, mat_sign_cons _ _ rfl, mat_nil]
  simp
theorem one_match {x : UInt8} (h : x ≠ 47) : matchM anQ [97, x, 98] = true := by
  unfold anQ
  rw [match_name (by intro y hy; simp at hy; rcases hy with rfl | rfl | rfl <;> first | decide | exact h) (by simp)]
  unfold nameM
  rw [mat_sign_cons _ _ rfl, mat_sign_cons _ _ rfl, mat_sign_cons _ _ rfl, mat_nil]
  rfl
theorem set_match {x : UInt8} (h : x ≠ 47) : matchM anR [97, x, 98] = (x != 99) := by
  unfold anR
  rw [match_name (by intro y hy; simp at hy; rcases hy with rfl | rfl | rfl <;> first | decide | exact h) (by simp)]
  unfold nameM
  rw [mat_sign_cons _ _ rfl, mat_sign_cons _ _ rfl, mat_sign_cons _ _ rfl, mat_nil]
  have e : (⟨false, false, true, [(99, 99)]⟩ : Atm).takes x = (x != 99) := by
    show (if (false : Bool) then true else if inRs [(99, 99)] x then !true else true) = _
    have : inRs [(99, 99)] x = (x == 99) := by
      simp only [inRs, List.any_cons, List.any_nil, Bool.or_false]
      rw [Bool.eq_iff_iff]
      simp only [Bool.and_eq_true, decide_eq_true_eq, beq_iff_eq]
      constructor
      · rintro ⟨h1, h2⟩; exact UInt8.le_antisymm h2 h1
      · rintro rfl; exact ⟨UInt8.le_refl _, UInt8.le_refl _⟩
    rw [this]
    simp only [bne]
    cases x == 99 <;> rfl
  rw [e]
  show ((litA 97).takes 97 && ((x != 99) && ((litA 98).takes 98 && true))) = _
  rw [show (litA 97).takes 97 = true by decide, show (litA 98).takes 98 = true by decide]
  simp
theorem okP : PatOk anP := ⟨by decide, by unfold anP; simp⟩
theorem okQ : PatOk anQ := ⟨by decide, by unfold anQ; simp⟩
theorem okR : PatOk anR := ⟨by decide, by unfold anR; simp⟩
def Pats (w : World) (g2 g3 g4 : Nat) : Prop := patR.R w no [.pointer (some ⟨g2, 0, none⟩)] anP ∧ patR.R w no [.pointer (some ⟨g3, 0, none⟩)] anQ ∧ patR.R w no [.pointer (some ⟨g4, 0, none⟩)] anR
theorem Pats.below {w w' : World} {g2 g3 g4 : Nat} (h : Pats w g2 g3 g4) (hb : Below w.heap.size w w') : Pats w' g2 g3 g4 := ⟨pat_use (w0 := w) h.1 hb, pat_use (w0 := w) h.2.1 hb, pat_use (w0 := w) h.2.2 hb⟩

set_option maxRecDepth 100000 in
set_option maxHeartbeats 4000000 in
theorem globAny_any (s0 : ByteArray) (A1 : Option Addr) (c1 : Nat) (l1 : List ByteArray) (x2 : UInt8) (W0 : World) (_ : s0.size ≤ maxLen) (hb0 : s0.size ≤ 1048576) (hc : l1.length ≤ c1) (hcm : c1 ≤ maxLen) (hs1 : SlOf strR W0 no A1 l1) (hb1 : bulkL (fun s : ByteArray => s.size + 1) l1 + 1 ≤ 1048576) :
    Calls Tryd.prog 6 #[.string s0, .slice A1 l1.length c1, .int .u8 (x2.toNat : Int)] W0 fun e w' => e = .returned (.bool true) ∧ Below W0.heap.size W0 w' := by
  obtain ⟨p, hp⟩ : ∃ p, p = sB s0 := ⟨_, rfl⟩
  have HS0 := Lib.hid (show s0 = strL p by rw [hp]; exact (mk_sB s0).symm)
  have HPL := Lib.hid (show p.length ≤ 2000000 by rw [hp, sB_len]; omega)
  obtain ⟨ls, hls⟩ : ∃ ls, ls = l1.map sB := ⟨_, rfl⟩
  have HSL := Lib.hid (show SlOf strR W0 no A1 (ls.map strL) by rw [hls, ← lines_of]; exact hs1)
  have HLL := Lib.hid (show ∀ l ∈ ls, l.length ≤ 1048576 from fun l hl => by
    rw [hls] at hl
    obtain ⟨s, hs, rfl⟩ := List.mem_map.1 hl
    have := bulk_mem hs
    rw [sB_len]; omega)
  obtain ⟨N, hN⟩ : ∃ N, N = l1.length := ⟨_, rfl⟩
  rw [← hN]
  have HN := Lib.hid (show N = ls.length by rw [hN, hls, List.length_map])
  have hNb : N ≤ 1048576 := by
    have : ∀ l : List ByteArray, l.length ≤ bulkL (fun s : ByteArray => s.size + 1) l := by
      intro l
      induction l with
      | nil => simp [bulkL]
      | cons a r ih => simp only [bulkL, List.length_cons]; omega
    have := this l1; omega
  clear hp hls hs1 hN hc hcm hb0 hb1
  go_enter Tryd.func6, Tryd.ntmps6
  go_wp2_with fail
  refine (awake_any W0).mono ?_
  rintro e w1 ⟨rfl, hb1⟩
  have HB1 := Lib.hid hb1
  clear hb1
  go_wp2_with fail
  refine (parse_any [42, 42] w1 (by decide)).mono ?_
  intro e w2 hp
  obtain ⟨hb2, hp⟩ := hp
  rw [an0_parse] at hp
  obtain ⟨v2, rfl, hp2⟩ := hp
  obtain ⟨g1, rfl⟩ := pat_ptr hp2
  have HB2 := Lib.hid (HB1.out.trans (hb2.mono HB1.out.size))
  have HA2 := Lib.hid (patR.stable hp2 (Moves.forget _ _))
  clear hb2 hp2 HB1
  go_wp2_with fail
  refine (parse_any [102, 114, 111, 109, 47, 42, 42, 47, 116, 111] w2 (by decide)).mono ?_
  intro e w3 hp
  obtain ⟨hb3, hp⟩ := hp
  rw [anP_parse] at hp
  obtain ⟨v3, rfl, hp3⟩ := hp
  obtain ⟨g2, rfl⟩ := pat_ptr hp3
  have HB3 := Lib.hid (HB2.out.trans (hb3.mono HB2.out.size))
  have HA3 := Lib.hid (pat_use (w0 := w2) HA2.out hb3)
  have HP3 := Lib.hid (patR.stable hp3 (Moves.forget _ _))
  clear hb3 hp3 HB2 HA2
  go_wp2_with fail
  refine (parse_any [97, 63, 98] w3 (by decide)).mono ?_
  intro e w4 hp
  obtain ⟨hb4, hp⟩ := hp
  rw [anQ_parse] at hp
  obtain ⟨v4, rfl, hp4⟩ := hp
  obtain ⟨g3, rfl⟩ := pat_ptr hp4
  have HB4 := Lib.hid (HB3.out.trans (hb4.mono HB3.out.size))
  have HA4 := Lib.hid (pat_use (w0 := w3) HA3.out hb4)
  have HP4 := Lib.hid (pat_use (w0 := w3) HP3.out hb4)
  have HQ4 := Lib.hid (patR.stable hp4 (Moves.forget _ _))
  clear hb4 hp4 HB3 HA3 HP3
  go_wp2_with fail
  refine (parse_any [97, 91, 33, 99, 93, 98] w4 (by decide)).mono ?_
  intro e w5 hp
  obtain ⟨hb5, hp⟩ := hp
  rw [anR_parse] at hp
  obtain ⟨v5, rfl, hp5⟩ := hp
  obtain ⟨g4, rfl⟩ := pat_ptr hp5
  have HB5 := Lib.hid (HB4.out.trans (hb5.mono HB4.out.size))
  have HA5 := Lib.hid (pat_use (w0 := w4) HA4.out hb5)
  have HPS := Lib.hid (show Pats w5 g2 g3 g4 from ⟨pat_use (w0 := w4) HP4.out hb5, pat_use (w0 := w4) HQ4.out hb5, patR.stable hp5 (Moves.forget _ _)⟩)
  clear hb5 hp5 HB4 HA4 HP4 HQ4
  have HC0 := Lib.hid (pmatch_big g1 [none] p w5 HA5.out (by decide) (by simp) HPL.out)
  rw [any_all, ← HS0.out] at HC0
  go_wp2_with fail
  refine HC0.out.mono ?_
  rintro e w6 ⟨rfl, hb6⟩
  have HB6 := Lib.hid (HB5.out.trans (hb6.mono HB5.out.size))
  have HP6 := Lib.hid (HPS.out.below hb6)
  clear hb6 HB5 HA5 HPS HC0
  have HZ := Lib.hid (show (ByteArray.mk #[102, 114, 111, 109, 47]) = strL (wayG (ls.take 0)) from rfl)
  go_wp2_with fail
  go_loopw [15, 59] (fun s15 s59 wr => ∃ (k : Nat) (o : ByteArray), k ≤ N ∧ s15 = .string o ∧ s59 = .int .i64 (k : Int) ∧ o.size ≤ 270 ∧ Hid (o = strL (wayG (ls.take k))) ∧ Hid (∀ n ∈ ls.take k, flat n) ∧ Hid (Below W0.heap.size W0 wr) ∧ Hid (Pats wr g2 g3 g4)) (fun s15 s59 wr => N - (intOf s59).toNat)
  case atStart => exact ⟨0, _, Nat.zero_le _, rfl, rfl, by decide, HZ, Lib.hid (fun n hn => by simp at hn), HB6, HP6⟩
  case round =>
    obtain ⟨k, o, hk, rfl, rfl, ho, HO, HF, HB, HP⟩ := hrel
    by_cases hlt : k < N
    · have hltI : (k : Int) < (N : Int) := by omega
      obtain ⟨b, off, l, hA, hb, hl, x0⟩ := str_look (HSL.out.below HB.out) HN.out.symm hlt
      subst hA
      have HL1 := Lib.hid (HLL.out l (List.mem_of_getElem? hl))
      obtain ⟨q, hq⟩ : ∃ q, q = strL l := ⟨_, rfl⟩
      have HNM := Lib.hid (fun w => name_any q w (by rw [hq, strL_size]; have := HL1.out; omega))
      obtain ⟨nm, hnm⟩ : ∃ nm, nm = nameG (sB q) := ⟨_, rfl⟩
      rw [← hnm] at HNM
      have HNN := Lib.hid (show nm = nameG l by rw [hnm, hq]; simp [sB, strL])
      have HQ := Lib.hid hq
      have HTK := Lib.hid (show ls.take (k + 1) = ls.take k ++ [l] by rw [List.take_add_one, hl]; rfl)
      rw [← hq] at x0
      clear hl hq hnm
      go_wp2_with fail
      refine (HNM.out wr).mono ?_
      rintro e w7 ⟨rfl, hb7⟩
      have HB7 := Lib.hid (HB.out.trans (hb7.mono HB.out.size))
      have HP7 := Lib.hid (HP.out.below hb7)
      clear hb7 HB HP
      cases nm with
      | false =>
        go_wp2_with fail
        go_ret
        exact ⟨rfl, HB7.out⟩
      | true =>
        by_cases h200 : 200 < o.size
        · have h200I : (200 : Int) < (o.size : Int) := by omega
          go_wp2_with fail
          go_ret
          exact ⟨rfl, HB7.out⟩
        · have h200I : ¬ (200 : Int) < (o.size : Int) := by omega
          obtain ⟨hf, h0, h64⟩ := name_flat HNN.out.symm
          have hqs : q.size ≤ 64 := by rw [HQ.out, strL_size]; exact h64
          have HO2 := Lib.hid (show o ++ (q ++ ⟨#[47]⟩) = strL (wayG (ls.take (k + 1))) by
            rw [HO.out, HQ.out, HTK.out, way_snoc, show (ByteArray.mk #[47]) = strL [47] from rfl, strL_add, strL_add])
          have HF2 := Lib.hid (show ∀ n ∈ ls.take (k + 1), flat n from fun n hn => by
            rw [HTK.out] at hn
            rcases List.mem_append.1 hn with hn | hn
            · exact HF.out n hn
            · simp at hn; subst hn; exact hf)
          have hs2 : (o ++ (q ++ ⟨#[47]⟩)).size ≤ 270 := by
            rw [ByteArray.size_append, ByteArray.size_append]
            have : (ByteArray.mk #[47]).size = 1 := rfl
            omega
          clear hf h0 h64
          go_wp2_with fail
          go_roundw
          case rel => exact ⟨k + 1, o ++ (q ++ ⟨#[47]⟩), by omega, rfl, by go_num, hs2, HO2, HF2, HB7, HP7⟩
          case measure => simp [intOf]; omega
    · have hltI : ¬ (k : Int) < (N : Int) := by omega
      obtain rfl : k = N := by omega
      have hba : Below wr.heap.size wr (wr.alloc (.cells #[.int .u8 (x2.toNat : Int)] 5)) := (Below.refl _ _).alloc (Nat.le_refl _) _
      have HBX := Lib.hid (HB.out.trans (hba.mono HB.out.size))
      have HPX := Lib.hid (HP.out.below hba)
      have hcv := cvt_of (w := wr.alloc (.cells #[.int .u8 (x2.toNat : Int)] 5)) (A := some ⟨wr.heap.size, 0, none⟩) (n := 1) (l := [x2]) (Sl.one wr _ _) 1
      have HW1 := Lib.hid (show matchM anP (wayG (ls.take k) ++ [116, 111]) = true by rw [way_match HF.out (by unfold flat; decide)]; rfl)
      have HW2 := Lib.hid (show matchM anP (wayG (ls.take k) ++ [116, 111, 111]) = false by rw [way_match HF.out (by unfold flat; decide)]; rfl)
      have hwl : (wayG (ls.take k)).length ≤ 270 := by rw [HO.out, strL_size] at ho; exact ho
      have HC1 := Lib.hid (fun w (h : Pats w g2 g3 g4) => pmatch_any g2 anP (wayG (ls.take k) ++ [116, 111]) w h.1 okP.1 okP.2 (by simp; omega))
      have HC2 := Lib.hid (fun w (h : Pats w g2 g3 g4) => pmatch_any g2 anP (wayG (ls.take k) ++ [116, 111, 111]) w h.1 okP.1 okP.2 (by simp; omega))
      rw [HW1.out, ← strL_add, ← HO.out] at HC1
      rw [HW2.out, ← strL_add, ← HO.out] at HC2
      obtain ⟨m1, hm1⟩ : ∃ m1, m1 = matchM anQ [97, x2, 98] := ⟨_, rfl⟩
      obtain ⟨m2, hm2⟩ : ∃ m2, m2 = matchM anR [97, x2, 98] := ⟨_, rfl⟩
      have HC3 := Lib.hid (fun w (h : Pats w g2 g3 g4) => pmatch_any g3 anQ [97, x2, 98] w h.2.1 okQ.1 okQ.2 (by simp))
      have HC4 := Lib.hid (fun w (h : Pats w g2 g3 g4) => pmatch_any g4 anR [97, x2, 98] w h.2.2 okR.1 okR.2 (by simp))
      have hS : strL [97, x2, 98] = ⟨#[97]⟩ ++ ⟨[x2].toArray⟩ ++ ⟨#[98]⟩ := rfl
      rw [← hm1, hS] at HC3
      rw [← hm2, hS] at HC4
      have HM1 := Lib.hid hm1
      have HM2 := Lib.hid hm2
      obtain ⟨sx, hsx⟩ : ∃ sx : ByteArray, sx = ⟨[x2].toArray⟩ := ⟨_, rfl⟩
      rw [← hsx] at hcv HC3 HC4
      have hsxs : sx.size = 1 := by rw [hsx]; rfl
      clear hm1 hm2 hS hsx hba HB HP hlt hltI hwl
      go_upto_region 18 with fail
      generalize wr.alloc (.cells #[.int .u8 (x2.toNat : Int)] 5) = w8 at *
      clear hcv
      go_wp2_with fail
      refine (HC1.out w8 HPX.out).mono ?_
      rintro e w9 ⟨rfl, hb9⟩
      have HB9 := Lib.hid (HBX.out.trans (hb9.mono HBX.out.size))
      have HP9 := Lib.hid (HPX.out.below hb9)
      clear hb9 HBX HPX
      go_wp2_with fail
      refine (HC2.out w9 HP9.out).mono ?_
      rintro e w10 ⟨rfl, hb10⟩
      have HB10 := Lib.hid (HB9.out.trans (hb10.mono HB9.out.size))
      have HP10 := Lib.hid (HP9.out.below hb10)
      clear hb10 HB9 HP9
      go_wp2_with fail
      refine (HC3.out w10 HP10.out).mono ?_
      rintro e w11 ⟨rfl, hb11⟩
      have HB11 := Lib.hid (HB10.out.trans (hb11.mono HB10.out.size))
      have HP11 := Lib.hid (HP10.out.below hb11)
      clear hb11 HB10 HP10
      by_cases h47 : x2 = 47
      · have hx47 : ((x2.toNat : Int) != 47) = false := by rw [h47]; rfl
        obtain rfl : m1 = false := by rw [HM1.out, h47]; exact slash_names
        obtain rfl : m2 = false := by rw [HM2.out, h47]; exact slash_names
        clear h47
        go_wp2_with fail
        refine (HC4.out w11 HP11.out).mono ?_
        rintro e w12 ⟨rfl, hb12⟩
        have HB12 := Lib.hid (HB11.out.trans (hb12.mono HB11.out.size))
        clear hb12
        go_wp2_with fail
        go_ret
        exact ⟨rfl, HB12.out⟩
      · have hx47 : ((x2.toNat : Int) != 47) = true := by
          have := u8_ne (y := 47) h47
          simp only [bne, Bool.not_eq_true']; exact this
        obtain rfl : m1 = true := by rw [HM1.out]; exact one_match h47
        have HM3 := HM2.out.trans (set_match h47)
        by_cases h99 : x2 = 99
        · have hx99 : ((x2.toNat : Int) != 99) = false := by rw [h99]; rfl
          obtain rfl : m2 = false := by rw [HM3, h99]; rfl
          clear h47 h99 HM3
          go_wp2_with fail
          refine (HC4.out w11 HP11.out).mono ?_
          rintro e w12 ⟨rfl, hb12⟩
          have HB12 := Lib.hid (HB11.out.trans (hb12.mono HB11.out.size))
          clear hb12
          go_wp2_with fail
          go_ret
          exact ⟨rfl, HB12.out⟩
        · have hx99 : ((x2.toNat : Int) != 99) = true := by
            have := u8_ne (y := 99) h99
            simp only [bne, Bool.not_eq_true']; exact this
          obtain rfl : m2 = true := by rw [HM3]; simpa using h99
          clear h47 h99 HM3
          go_wp2_with fail
          refine (HC4.out w11 HP11.out).mono ?_
          rintro e w12 ⟨rfl, hb12⟩
          have HB12 := Lib.hid (HB11.out.trans (hb12.mono HB11.out.size))
          clear hb12
          go_wp2_with fail
          go_ret
          exact ⟨rfl, HB12.out⟩
end Go.Proofs.YtlddnghfjdjglaaDoor
