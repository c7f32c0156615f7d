/- stamp.parse, at any text; Parse. -/
import Derived.Test.YtehminpiejophaaDoorStampParse2
set_option linter.unusedVariables false
set_option linter.unusedSimpArgs false
namespace Go.Proofs.YtehminpiejophaaDoor
open Go.RowKit

theorem cut_len {l a e : List UInt8} {ok : Bool} (h : Lib.cut l [112] = (a, e, ok)) : a.length ≤ l.length ∧ e.length ≤ l.length := by
  unfold Lib.cut at h
  split at h
  · injection h with h1 h2
    injection h2 with h2 h3
    rw [← h1, ← h2, List.length_take, List.length_drop]
    omega
  · injection h with h1 h2
    injection h2 with h2 h3
    rw [← h1, ← h2]
    simp
theorem parse_pos (l : List UInt8) (w : World) (hl : l.length ≤ 4294967280) (hg : Globs w) (h4 : Lib.hasPrefix l [45] = false) : Calls Tryd.prog 27 #[.string (strL l)] w (ReadPost w l) := by
  by_cases h1 : l = [110, 97, 110]
  · rw [h1]; exact parse_nan w
  by_cases h2 : l = [105, 110, 102]
  · rw [h2]; exact parse_inf w
  by_cases h3 : l = [48]
  · rw [h3]; exact parse_zero w
  obtain ⟨a, e, ok, hc⟩ : ∃ a e ok, Lib.cut l [112] = (a, e, ok) := ⟨_, _, _, rfl⟩
  have hs := cut_len hc
  cases hm : Lib.hasPrefix e [45] with
  | true => exact parse_genM l a e ok w hl hg h1 h2 h3 h4 hc hm (by omega) (by omega)
  | false => exact parse_genP l a e ok w hl hg h1 h2 h3 h4 hc hm (by omega) (by omega)

theorem body_head (x : Nat) (h : x ≤ infR) : ∃ c t, bodyL x = c :: t ∧ c.toNat ≠ 45 ∧ c.toNat ≠ 110 := by
  unfold bodyL
  split
  · exact ⟨_, _, rfl, by decide, by decide⟩
  · unfold finL
    split
    · exact ⟨_, _, rfl, by decide, by decide⟩
    · have hd := dec_digs (strip 64 (manB x)).1
      cases hx : Lib.decDigits (strip 64 (manB x)).1 with
      | nil => exact absurd hx (dec_ne _)
      | cons c t =>
        rw [hx] at hd
        have := hd c (List.mem_cons_self ..)
        exact ⟨c, _, rfl, by omega, by omega⟩
theorem neg_reads {r : List UInt8} {b : Nat} (h : Reads (45 :: r) b) : ∃ x, x ≤ infR ∧ r = bodyL x ∧ b = x + 9223372036854775808 := by
  obtain ⟨ht, hc, hb⟩ := h
  unfold printL at ht
  cases hn : isNan b with
  | true => rw [if_pos hn] at ht; injection ht with h1; exact absurd h1 (by decide)
  | false =>
    rw [if_neg (by rw [hn]; decide)] at ht
    rw [nan_iff, decide_eq_false_iff_not] at hn
    rcases sgn_iff hb with ⟨s1, e1⟩ | ⟨s1, e1⟩
    · unfold signL at ht
      rw [if_pos (by omega)] at ht
      injection ht with _ h2
      exact ⟨rungB b, by omega, h2.symm, by omega⟩
    · unfold signL at ht
      have := rung_lt b
      rw [if_neg (by omega), List.nil_append] at ht
      obtain ⟨c, t, hbd, h45, _⟩ := body_head (rungB b) (by omega)
      rw [hbd] at ht
      injection ht with h1
      rw [h1] at h45
      exact absurd rfl h45
theorem reads_neg {r : List UInt8} {b : Nat} (h : Reads r b) (h1 : r ≠ [110, 97, 110]) (h2 : Lib.hasPrefix r [45] = false) : Reads (45 :: r) (Op.negFloat .f64 b) := by
  obtain ⟨ht, hc, hb⟩ := h
  have hb' : b < 18446744073709551616 := hb
  unfold printL at ht
  cases hn : isNan b with
  | true => rw [if_pos hn] at ht; exact absurd ht.symm h1
  | false =>
    rw [if_neg (by rw [hn]; decide)] at ht
    rw [nan_iff, decide_eq_false_iff_not] at hn
    rcases sgn_iff hb with ⟨s1, e1⟩ | ⟨s1, e1⟩
    · unfold signL at ht
      rw [if_pos (by omega)] at ht
      rw [← ht] at h2
      simp [Lib.hasPrefix, List.isPrefixOf] at h2
    · unfold signL at ht
      have hl := rung_lt b
      rw [if_neg (by omega), List.nil_append] at ht
      rw [neg_eq hb, if_pos (by omega)]
      have hr : rungB (b + 9223372036854775808) = rungB b := by unfold rungB; omega
      have hn2 : isNan (b + 9223372036854775808) = false := nan_no (by rw [hr]; omega)
      refine ⟨?_, by unfold canonB; rw [if_neg (by rw [hn2]; decide)], by show _ < 18446744073709551616; omega⟩
      unfold printL signL
      rw [if_neg (by rw [hn2]; decide), if_pos (by omega), hr, ht]; rfl

theorem neg_no1 : ∀ b, ¬ Reads (45 :: [110, 97, 110]) b := fun b hb => by
  obtain ⟨x, hx, h1, _⟩ := neg_reads hb
  obtain ⟨c, t, hbd, _, h110⟩ := body_head x hx
  rw [hbd] at h1
  injection h1 with h1
  rw [← h1] at h110
  exact absurd rfl h110
theorem neg_no2 {r : List UInt8} (h : Lib.hasPrefix r [45] = true) : ∀ b, ¬ Reads (45 :: r) b := fun b hb => by
  obtain ⟨x, hx, h1, _⟩ := neg_reads hb
  obtain ⟨c, t, hbd, h45, _⟩ := body_head x hx
  rw [h1, hbd] at h
  have : (45 : UInt8) ≠ c := fun e => h45 (by rw [← e]; rfl)
  simp [Lib.hasPrefix, List.isPrefixOf, this] at h
theorem neg_no3 {r : List UInt8} (h : ∀ b, ¬ Reads r b) : ∀ b, ¬ Reads (45 :: r) b := fun b hb => by
  obtain ⟨x, hx, h1, _⟩ := neg_reads hb
  exact h x (h1 ▸ reads_pos hx)
theorem hasm_any (l : List UInt8) (w : World) : Calls Tryd.prog 37 #[.string (strL l), .string ⟨#[45]⟩] w fun e w' => e = .returned (.bool (Lib.hasPrefix l [45])) ∧ w' = w := by
  refine (Tryd.strings_HasPrefix (strL l) ⟨#[45]⟩ w).mono ?_
  rintro e w' ⟨he, rfl⟩
  rw [data_strL, show (⟨#[45]⟩ : ByteArray).data.toList = [45] from rfl] at he
  exact ⟨he, rfl⟩

attribute [local go_sem] unary_negF in
set_option maxRecDepth 100000 in
set_option maxHeartbeats 4000000 in
theorem parse_neg (r : List UInt8) (w : World) (hl : (45 :: r).length ≤ 4294967280) (hg : Globs w) : Calls Tryd.prog 27 #[.string (strL (45 :: r))] w (ReadPost w (45 :: r)) := by
  have q1 : ((strL (45 :: r)).toList == [110, 97, 110]) = false := by rw [toList_strL]; rfl
  have q2 : ((strL (45 :: r)).toList == [105, 110, 102]) = false := by rw [toList_strL]; rfl
  have q4 : ((strL (45 :: r)).toList == [45, 110, 97, 110]) = decide (r = [110, 97, 110]) := by
    rw [toList_strL]
    show (r == [110, 97, 110]) = _
    rw [Bool.eq_iff_iff]; simp
  have HM := Lib.hid (fun w => cutm_any (45 :: r) w)
  rw [show Lib.hasPrefix (45 :: r) [45] = true by simp [Lib.hasPrefix, List.isPrefixOf], show Lib.trimPrefix (45 :: r) [45] = r by simp [Lib.trimPrefix, Lib.hasPrefix, List.isPrefixOf]] at HM
  have HS := Lib.hid (fun w => hasm_any r w)
  have HPP := Lib.hid (fun (h : Lib.hasPrefix r [45] = false) => parse_pos r w (by rw [List.length_cons] at hl; omega) hg h)
  have HN1 := Lib.hid (fun (h : r = [110, 97, 110]) => show ∀ b, ¬ Reads (45 :: r) b from h ▸ neg_no1)
  obtain ⟨L, hL⟩ : ∃ L, L = 45 :: r := ⟨_, rfl⟩
  have HL := Lib.hid hL
  rw [← hL] at q1 q2 q4 HM HN1 ⊢
  clear hl hg hL
  by_cases h1 : r = [110, 97, 110]
  · rw [decide_eq_true h1] at q4
    have HB := Lib.hid (HN1.out h1)
    clear h1 HN1
    generalize strL r = qr at *
    generalize strL L = q at *
    go_enter Tryd.func27, Tryd.ntmps27
    go_wp2_with fail
    refine (HM.out _).mono ?_
    rintro x w2 ⟨rfl, rfl⟩
    go_wp2_with fail
    exact ⟨rfl, Below.refl _ _, .inr ⟨HB.out, rfl⟩⟩
  · rw [decide_eq_false h1] at q4
    cases h2 : Lib.hasPrefix r [45] with
    | true =>
      rw [h2] at HS
      have HB := Lib.hid (show ∀ b, ¬ Reads L b by rw [HL.out]; exact neg_no2 h2)
      clear HN1 HPP h2 h1
      generalize strL r = qr at *
      generalize strL L = q at *
      go_enter Tryd.func27, Tryd.ntmps27
      go_wp2_with fail
      refine (HM.out _).mono ?_
      rintro x w2 ⟨rfl, rfl⟩
      go_wp2_with fail
      refine (HS.out _).mono ?_
      rintro x w2 ⟨rfl, rfl⟩
      go_wp2_with fail
      exact ⟨rfl, Below.refl _ _, .inr ⟨HB.out, rfl⟩⟩
    | false =>
      rw [h2] at HS
      have HP := Lib.hid (HPP.out h2)
      have HR := Lib.hid (fun b (hb : Reads r b) => (show Reads L (Op.negFloat .f64 b) by rw [HL.out]; exact reads_neg hb h1 h2))
      have HB := Lib.hid (fun (hb : ∀ b, ¬ Reads r b) => show ∀ b, ¬ Reads L b by rw [HL.out]; exact neg_no3 hb)
      clear HN1 HPP h2 h1
      generalize strL r = qr at *
      generalize strL L = q at *
      go_enter Tryd.func27, Tryd.ntmps27
      go_wp2_with fail
      refine (HM.out _).mono ?_
      rintro x w2 ⟨rfl, rfl⟩
      go_wp2_with fail
      refine (HS.out _).mono ?_
      rintro x w2 ⟨rfl, rfl⟩
      go_wp2_with fail
      refine HP.out.mono ?_
      rintro x w3 ⟨hb3, hx⟩
      have HB3 := Lib.hid hb3
      clear hb3
      rcases hx with ⟨b, hb, rfl⟩ | ⟨hb, rfl⟩
      · have HRb := Lib.hid (HR.out b hb)
        clear hb
        generalize hnb : Op.negFloat .f64 b = nb at *
        go_wp2_with fail
        go_ret
        exact ⟨HB3.out, .inl ⟨nb, HRb.out, rfl⟩⟩
      · have HRb := Lib.hid (HB.out hb)
        clear hb
        go_wp2_with fail
        exact ⟨rfl, HB3.out, .inr ⟨HRb.out, rfl⟩⟩
theorem parse_any (l : List UInt8) (w : World) (hl : l.length ≤ 4294967280) (hg : Globs w) : Calls Tryd.prog 27 #[.string (strL l)] w (ReadPost w l) := by
  cases h : Lib.hasPrefix l [45] with
  | false => exact parse_pos l w hl hg h
  | true =>
    cases l with
    | nil => exact absurd h (by decide)
    | cons c r =>
      have : c = 45 := by simp [Lib.hasPrefix, List.isPrefixOf] at h; exact h.symm
      subst this
      exact parse_neg r w hl hg
end Go.Proofs.YtehminpiejophaaDoor
