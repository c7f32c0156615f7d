/- The walk of the law GlobLast: of rules the last one that means a path counts, unless a folder is passed over. -/
import Derived.Test.YtlddnghfjdjglaaDoorGlobAwake
import Derived.Test.YtlddnghfjdjglaaDoorGlobParent
import Derived.Test.YtlddnghfjdjglaaDoorGlobRefSplit
import Derived.Test.YtlddnghfjdjglaaDoorGlobLines
set_option linter.unusedVariables false
set_option linter.unusedSimpArgs false
namespace Go.Proofs.YtlddnghfjdjglaaDoor
open Go.RowKit

theorem line_err {l : List UInt8} {z : Int} (h : lineG l = .error z) : z = 2 ∨ z = 60 := by
  cases l with
  | nil => cases h
  | cons x r =>
    by_cases h35 : x = 35
    · subst h35; cases h
    · rw [lineG_rule h35] at h
      unfold ruleOf at h
      cases hp : parseG (cutG (x :: r)) with
      | ok ps => rw [hp] at h; cases h
      | error e => rw [hp] at h; injection h with h; subst h; exact parse_err hp
theorem rules_err2 : ∀ {i : Nat} {ls : List (List UInt8)} {z : Int × Nat}, rulesG i ls = .error z → z.1 = 2 ∨ z.1 = 60
  | i, [], z, h => by rw [rulesG] at h; cases h
  | i, l :: r, z, h => by
    rw [rulesG] at h
    cases hl : lineG l with
    | error e => rw [hl] at h; injection h with h; subst h; exact line_err hl
    | ok o =>
      rw [hl] at h
      cases o with
      | none => exact rules_err2 (i := i + 1) h
      | some q =>
        simp only [] at h
        cases hr : rulesG (i + 1) r with
        | ok q2 => rw [hr] at h; cases h
        | error z2 => rw [hr] at h; injection h with h; subst h; exact rules_err2 hr
/-- a slice of texts put behind texts of the call's own -/
theorem strs_add {w : World} {base : Nat} {A : Option Addr} {m c : Nat} {l : List ByteArray} (h : RowR strR 9 w base A m c l) (hb : base ≤ w.heap.size) {av : Av} {A2 : Option Addr} {n2 : Nat} {l2 : List ByteArray} (h2 : SlOf strR w av A2 l2) (hn : n2 = l2.length)
    (hbytes : (m + n2) * 16 ≤ 140737488355328) (hm : m + n2 ≤ maxLen) (ty : TypeId) (c2 : Nat) :
    ∃ A' c' w', (Builtin.append_ #[30, 30] ty #[.slice A m c, .slice A2 n2 c2]).run Tryd.prog w = .ok (.slice A' (m + n2) c') w' ∧ RowR strR 9 w' base A' (m + n2) c' (l ++ l2) ∧ Below base w w' := by
  obtain ⟨xs, h3, h4⟩ := h.row
  have hs := h2.str
  rw [← hn] at hs
  obtain ⟨A', c', w', run, ap, hc, hcm⟩ := append_sl elemStr h3 hs (by simp; intro a _; rfl) hbytes hm hb ty c2
  have e1 := each_str h4
  subst e1
  refine ⟨A', c', w', run, ⟨⟨_, ap.own, ?_⟩, by rw [List.length_append, h.len, hn]⟩, ap.below⟩
  rw [← List.map_append]
  exact each_str_mk _

set_option maxRecDepth 100000 in
set_option maxHeartbeats 4000000 in
theorem globLast_any (A0 : Option Addr) (c0 : Nat) (l0 : List ByteArray) (s1 : ByteArray) (W0 : World) (hc : l0.length ≤ c0) (hcm : c0 ≤ maxLen) (hs0 : SlOf strR W0 no A0 l0) (hb0 : bulkL (fun s : ByteArray => s.size + 1) l0 + 1 ≤ 1048576) (_ : s1.size ≤ maxLen) (hb1 : s1.size ≤ 1048576) :
    Calls Tryd.prog 8 #[.slice A0 l0.length c0, .string s1] W0 fun e w' => e = .returned (.bool true) ∧ Below W0.heap.size W0 w' := by
  obtain ⟨ls, hls⟩ : ∃ ls, ls = l0.map sB := ⟨_, rfl⟩
  have HS0 := Lib.hid (show SlOf strR W0 no A0 (ls.map strL) by rw [hls, ← lines_of]; exact hs0)
  have HLL := Lib.hid (show ∀ l ∈ ls, l.length ≤ 1048576 from fun l hl => by
    rw [hls] at hl
    obtain ⟨s, hs, rfl⟩ := List.mem_map.1 hl
    have := bulk_mem hs
    rw [sB_len]; omega)
  obtain ⟨N, hN⟩ : ∃ N, N = l0.length := ⟨_, rfl⟩
  rw [← hN]
  have HN := Lib.hid (show N = ls.length by rw [hN, hls, List.length_map])
  obtain ⟨p, hp⟩ : ∃ p, p = sB s1 := ⟨_, rfl⟩
  obtain ⟨L, hL⟩ : ∃ L, L = p.length := ⟨_, rfl⟩
  have hs1 : s1.size = L := by rw [hL, hp]; rfl
  have HS1 := Lib.hid (show s1 = strL p by rw [hp]; exact (mk_sB s1).symm)
  have HL := Lib.hid hL
  have HCP := Lib.hid (fun w => check_any p w (by omega))
  rw [← HS1.out] at HCP
  clear hls hs0 hN hp hL hc hcm hb0
  go_enter Tryd.func8, Tryd.ntmps8
  go_wp2_with fail
  refine (awake_any W0).mono ?_
  rintro e w1 ⟨rfl, hb1'⟩
  have HB1 := Lib.hid hb1'
  clear hb1'
  go_wp2_with fail
  refine (HCP.out w1).mono ?_
  rintro e w2 ⟨⟨z, rfl, hz⟩, hb2⟩
  have HB2 := Lib.hid (HB1.out.trans (hb2.mono HB1.out.size))
  clear hb2 HB1 HCP
  cases hzz : (z == 0) with
  | false =>
    have hz1 : (z != 0) = true := by simp [bne, hzz]
    clear hz hzz
    go_wp2_with fail
    go_ret
    exact ⟨rfl, HB2.out⟩
  | true =>
    have hz1 : (z != 0) = false := by simp [bne, hzz]
    have HPO := Lib.hid (hz hzz)
    clear hz hzz
    by_cases h120 : 120 < L
    · have h120I : (120 : Int) < (L : Int) := by omega
      go_wp2_with fail
      go_ret
      exact ⟨rfl, HB2.out⟩
    have h120I : ¬ (120 : Int) < (L : Int) := by omega
    by_cases h30 : 30 < N
    · have h30I : (30 : Int) < (N : Int) := by omega
      go_wp2_with fail
      go_ret
      exact ⟨rfl, HB2.out⟩
    have h30I : ¬ (30 : Int) < (N : Int) := by omega
    have HS2 := Lib.hid (HS0.out.below HB2.out)
    have HNW := Lib.hid (fun c => new_any A0 N c ls w2 HS2.out HN.out (by omega) (fun l hl => by have := HLL.out l hl; omega))
    cases hrg : rulesG 0 ls with
    | error z =>
      obtain ⟨z, i⟩ := z
      have HRG := Lib.hid hrg
      go_wp2_with fail
      refine (HNW.out _).mono ?_
      intro e w5 hp
      obtain ⟨hb5, hp⟩ := hp
      rw [HRG.out] at hp
      obtain rfl : e = _ := hp
      have hzz : (z != 0) = true := by rcases rules_err2 hrg with h | h <;> simp only [] at h <;> subst h <;> rfl
      have HB5 := Lib.hid (HB2.out.trans (hb5.mono HB2.out.size))
      clear hb5 hrg
      go_wp2_with fail
      go_ret
      exact ⟨rfl, HB5.out⟩
    | ok qs =>
      have HRG := Lib.hid hrg
      clear hrg
      go_wp2_with fail
      refine (HNW.out _).mono ?_
      intro e w5 hp
      obtain ⟨hb5, hp⟩ := hp
      rw [HRG.out] at hp
      obtain ⟨v5, rfl, hp5⟩ := hp
      obtain ⟨gr, rfl⟩ := rul_ptr hp5
      have HB5 := Lib.hid (HB2.out.trans (hb5.mono HB2.out.size))
      have HR5 := Lib.hid (rulesR.stable hp5 (Moves.forget _ _))
      have HS5 := Lib.hid (HS2.out.below hb5)
      clear hb5 hp5 HB2 HS2 HNW
      have hql : (quoG p).length ≤ 240 := by have := quoG_len p; have := HL.out; omega
      have HL9 := Lib.hid (rules_snoc HRG.out (line_quo HPO.out (by omega)))
      have HL13 := Lib.hid (rules_snoc HRG.out (line_keep HPO.out (by omega)))
      have HQU := Lib.hid (fun w => quoted_any p w (by have := HL.out; omega))
      obtain ⟨qu, hqu⟩ : ∃ qu, qu = strL (quoG p) := ⟨_, rfl⟩
      rw [← HS1.out, ← hqu] at HQU
      have hqus : qu.size ≤ 240 := by rw [hqu, strL_size]; exact hql
      have HE9 := Lib.hid (show ls.map strL ++ [qu] = (ls ++ [quoG p]).map strL by rw [List.map_append, hqu]; rfl)
      have HE13 := Lib.hid (show ls.map strL ++ [ByteArray.mk #[33] ++ qu] = (ls ++ [33 :: quoG p]).map strL by
        rw [List.map_append, hqu, show (ByteArray.mk #[33]) = strL [33] from rfl, strL_add]; rfl)
      have HLN := Lib.hid (show ∀ x : List UInt8, x.length ≤ 300 → ∀ l ∈ ls ++ [x], l.length ≤ 4294967280 from fun x hx l hl => by
        rcases List.mem_append.1 hl with hl | hl
        · have := HLL.out l hl; omega
        · simp at hl; subst hl; omega)
      have HQL := Lib.hid hql
      clear hqu hql
      have hba : Below w5.heap.size w5 (w5.alloc (.cells #[] 9)) := (Below.refl _ _).alloc (Nat.le_refl _) _
      have hrow0 : RowR strR 9 (w5.alloc (.cells #[] 9)) w5.heap.size (some ⟨w5.heap.size, 0, none⟩) 0 0 [] := ⟨⟨[], own_made w5 9 1 (Nat.le_refl _), .nil⟩, rfl⟩
      obtain ⟨A8, c8, w6, run8, hrow6, hb6⟩ := strs_add hrow0 hba.size (HS5.out.below hba) (n2 := N) (by rw [List.length_map]; exact HN.out) (by omega) (by simp only [maxLen]; omega) 30 c0
      rw [Nat.zero_add, List.nil_append] at hrow6
      rw [Nat.zero_add] at run8
      have HRUN8 := Lib.hid run8
      have HRW6 := Lib.hid hrow6
      have HBE6 := Lib.hid (hba.trans hb6)
      clear hba hrow0 run8 hrow6 hb6
      go_wp2_with (at_builtin; refine wpList_run_append HRUN8.out ?_ ?_ ?_; exact rfl; exact rfl)
      refine (HQU.out w6).mono ?_
      rintro e w7 ⟨rfl, hb7⟩
      have hbe7 := HBE6.out.trans (hb7.mono HBE6.out.size)
      obtain ⟨A9, c9, w8, run9, hrow9, hb9, _, _, _, _⟩ := (HRW6.out.below hb7).push elemStr hbe7.size (av := fun _ => True) (cs := [.string qu]) (x := qu) rfl (fun _ _ _ => trivial) (by omega) (by simp only [maxLen]; omega) 30 1
      have HRUN9 := Lib.hid run9
      have HSL9 := Lib.hid (show SlOf strR w8 no A9 ((ls ++ [quoG p]).map strL) by rw [← HE9.out]; exact hrow9.sl)
      have HBE8 := Lib.hid (hbe7.trans hb9)
      clear hbe7 hb7 run9 hrow9 hb9 HRW6 HBE6 HRUN8
      go_wp2_with (at_builtin; refine wpList_run_append HRUN9.out ?_ ?_ ?_; exact rfl; exact rfl)
      refine (new_any A9 (N + 1) c9 (ls ++ [quoG p]) w8 HSL9.out (by rw [List.length_append, ← HN.out]; rfl) (by omega) (HLN.out _ (by have := HQL.out; omega))).mono ?_
      intro e w9 hp
      obtain ⟨hb10, hp⟩ := hp
      rw [HL9.out] at hp
      obtain ⟨v9, rfl, hp9⟩ := hp
      obtain ⟨gm, rfl⟩ := rul_ptr hp9
      have hbe9 := HBE8.out.trans (hb10.mono HBE8.out.size)
      have HB9 := Lib.hid (HB5.out.trans (hbe9.mono HB5.out.size))
      have HR9 := Lib.hid (rulesR.stable HR5.out (Moves.of_below hbe9))
      have HS9 := Lib.hid (HS5.out.below hbe9)
      have HM9 := Lib.hid (rulesR.stable hp9 (Moves.forget _ _))
      clear hb10 hp9 hbe9 HBE8 HB5 HR5 HS5 HSL9 HRUN9
      have hba : Below w9.heap.size w9 (w9.alloc (.cells #[] 9)) := (Below.refl _ _).alloc (Nat.le_refl _) _
      have hrow0 : RowR strR 9 (w9.alloc (.cells #[] 9)) w9.heap.size (some ⟨w9.heap.size, 0, none⟩) 0 0 [] := ⟨⟨[], own_made w9 9 1 (Nat.le_refl _), .nil⟩, rfl⟩
      obtain ⟨A10, c10, w10, run10, hrow10, hb10⟩ := strs_add hrow0 hba.size (HS9.out.below hba) (n2 := N) (by rw [List.length_map]; exact HN.out) (by omega) (by simp only [maxLen]; omega) 30 c0
      rw [Nat.zero_add, List.nil_append] at hrow10
      rw [Nat.zero_add] at run10
      have HRUN10 := Lib.hid run10
      have HRW10 := Lib.hid hrow10
      have HBF10 := Lib.hid (hba.trans hb10)
      clear hba hrow0 run10 hrow10 hb10
      go_wp2_with (at_builtin; refine wpList_run_append HRUN10.out ?_ ?_ ?_; exact rfl; exact rfl)
      refine (HQU.out w10).mono ?_
      rintro e w11 ⟨rfl, hb11⟩
      have hbf11 := HBF10.out.trans (hb11.mono HBF10.out.size)
      obtain ⟨A12, c12, w12, run12, hrow12, hb12, _, _, _, _⟩ := (HRW10.out.below hb11).push elemStr hbf11.size (av := fun _ => True) (cs := [.string (ByteArray.mk #[33] ++ qu)]) (x := ByteArray.mk #[33] ++ qu) rfl (fun _ _ _ => trivial) (by omega) (by simp only [maxLen]; omega) 30 1
      have HRUN12 := Lib.hid run12
      have HSL12 := Lib.hid (show SlOf strR w12 no A12 ((ls ++ [33 :: quoG p]).map strL) by rw [← HE13.out]; exact hrow12.sl)
      have HBF12 := Lib.hid (hbf11.trans hb12)
      clear hbf11 hb11 run12 hrow12 hb12 HRW10 HBF10 HRUN10
      go_wp2_with (at_builtin; refine wpList_run_append HRUN12.out ?_ ?_ ?_; exact rfl; exact rfl)
      refine (new_any A12 (N + 1) c12 (ls ++ [33 :: quoG p]) w12 HSL12.out (by rw [List.length_append, ← HN.out]; rfl) (by omega) (HLN.out _ (by have := HQL.out; simp; omega))).mono ?_
      intro e w13 hp
      obtain ⟨hb13, hp⟩ := hp
      rw [HL13.out] at hp
      obtain ⟨v13, rfl, hp13⟩ := hp
      obtain ⟨gl, rfl⟩ := rul_ptr hp13
      have hbf13 := HBF12.out.trans (hb13.mono HBF12.out.size)
      have HB13 := Lib.hid (HB9.out.trans (hbf13.mono HB9.out.size))
      have HR13 := Lib.hid (rulesR.stable HR9.out (Moves.of_below hbf13))
      have HM13 := Lib.hid (rulesR.stable HM9.out (Moves.of_below hbf13))
      have HL14 := Lib.hid (rulesR.stable hp13 (Moves.forget _ _))
      clear hb13 hp13 hbf13 HBF12 HB9 HR9 HM9 HS9 HSL12 HRUN12 HQU
      have HPL := Lib.hid (show p.length ≤ 1000000 by have := HL.out; omega)
      have HC1 := Lib.hid (skips_any gm _ p w13 HM13.out HPL.out)
      rw [more_skips HPO.out, ← HS1.out] at HC1
      go_wp2_with fail
      refine HC1.out.mono ?_
      rintro e w14 ⟨rfl, hb14⟩
      have HB14 := Lib.hid (HB13.out.trans (hb14.mono HB13.out.size))
      have HR14 := Lib.hid (rulesR.stable HR13.out (Moves.of_below hb14))
      have HL15 := Lib.hid (rulesR.stable HL14.out (Moves.of_below hb14))
      clear hb14 HB13 HR13 HL14 HM13 HC1
      have HPA := Lib.hid (parent_any p w14 HPL.out)
      rw [← HS1.out] at HPA
      go_wp2_with fail
      refine HPA.out.mono ?_
      rintro e w15 ⟨⟨f, rfl, hf⟩, hb15⟩
      have HB15 := Lib.hid (HB14.out.trans (hb15.mono HB14.out.size))
      have HR15 := Lib.hid (rulesR.stable HR14.out (Moves.of_below hb15))
      have HL16 := Lib.hid (rulesR.stable HL15.out (Moves.of_below hb15))
      have HF := Lib.hid hf
      obtain ⟨sk, hsk⟩ : ∃ sk, sk = skipsG qs f := ⟨_, rfl⟩
      obtain ⟨ef, hef⟩ : ∃ ef, ef = f.isEmpty := ⟨_, rfl⟩
      have hfe := empty_of f
      rw [← hef] at hfe
      have HLS := Lib.hid (show skipsG (qs ++ [⟨litP p, true⟩]) p = (!ef && sk) by rw [less_law HPO.out hf, hef, hsk])
      have HFL := Lib.hid (show f.length ≤ 1000000 by have := parent_len hf; have := HPL.out; omega)
      have HUN := Lib.hid (fun w => refUnder_any p f w (path_names HPO.out).2 (parent_under hf) HPL.out)
      have HCF := Lib.hid (skips_any gr qs f w15 HR15.out HFL.out)
      rw [← hsk] at HCF
      have HCL := Lib.hid (fun w (h : rulesR.R w no [.pointer (some ⟨gl, 0, none⟩)] (qs ++ [⟨litP p, true⟩])) => skips_any gl _ p w h HPL.out)
      rw [HLS.out, ← HS1.out] at HCL
      rw [← HS1.out] at HUN
      generalize strL f = fq at *
      clear hb15 hf hsk hef HB14 HR14 HL15 HPA
      cases ef with
      | true =>
        go_wp2_with fail
        refine (HCL.out w15 HL16.out).mono ?_
        rintro e w17 ⟨rfl, hb17⟩
        have HB17 := Lib.hid (HB15.out.trans (hb17.mono HB15.out.size))
        clear hb17
        go_wp2_with fail
        refine (HUN.out w17).mono ?_
        rintro e w18 ⟨rfl, hb18⟩
        have HB18 := Lib.hid (HB17.out.trans (hb18.mono HB17.out.size))
        go_wp2_with fail
        go_ret
        exact ⟨rfl, HB18.out⟩
      | false =>
        simp only [Bool.not_false, Bool.true_and] at HCL
        have hkk : (sk == sk) = true := by simp
        go_wp2_with fail
        refine HCF.out.mono ?_
        rintro e w16 ⟨rfl, hb16⟩
        have HB16 := Lib.hid (HB15.out.trans (hb16.mono HB15.out.size))
        have HL17 := Lib.hid (rulesR.stable HL16.out (Moves.of_below hb16))
        clear hb16 HB15 HL16
        go_wp2_with fail
        refine (HCL.out w16 HL17.out).mono ?_
        rintro e w17 ⟨rfl, hb17⟩
        have HB17 := Lib.hid (HB16.out.trans (hb17.mono HB16.out.size))
        clear hb17
        go_wp2_with fail
        refine (HUN.out w17).mono ?_
        rintro e w18 ⟨rfl, hb18⟩
        have HB18 := Lib.hid (HB17.out.trans (hb18.mono HB17.out.size))
        go_wp2_with fail
        go_ret
        exact ⟨rfl, HB18.out⟩
end Go.Proofs.YtlddnghfjdjglaaDoor
