/- The walk of the law GlobStars: a name is meant by a star, by its ends with a star between, and by as many question marks as it has bytes. -/
import Derived.Test.YtlddnghfjdjglaaDoorGlobAwake
import Derived.Test.YtlddnghfjdjglaaDoorGlobQuoted
import Derived.Test.YtlddnghfjdjglaaDoorGlobName
import Derived.Test.YtlddnghfjdjglaaDoorOpenAgg
import Derived.BigQuiet
set_option linter.unusedVariables false
set_option linter.unusedSimpArgs false
namespace Go.Proofs.YtlddnghfjdjglaaDoor
open Go.RowKit

/-! ### plain -/
theorem star_all (s : List UInt8) : nameM [starA] s = true := (mat_star_iff _ _ rfl s).2 ⟨s.length, Nat.le_refl _, by rw [List.drop_length]; simp [mat]⟩
theorem star_parse : parseG [42] = .ok [some [starA]] := by rw [parseF_eq]; rfl
theorem lits_star {u v p m : List UInt8} (h : p = u ++ (m ++ v)) : nameM (u.map litA ++ starA :: v.map litA) p = true := by
  unfold nameM
  rw [h, mat_takeAll _ _ _ _ (take_lits u)]
  refine (mat_star_iff _ _ rfl _).2 ⟨m.length, by simp, ?_⟩
  rw [List.drop_left, ← List.append_nil (v.map litA), ← List.append_nil v]
  have := mat_takeAll Atm.star Atm.takes ([] : List Atm) ([] : List UInt8) (take_lits v)
  simp only [List.append_nil] at this ⊢
  rw [this]; simp [mat]
theorem marks_len : ∀ (k : Nat) (s : List UInt8), nameM (List.replicate k oneA) s = decide (k = s.length)
  | 0, s => by unfold nameM; rw [List.replicate_zero, mat_nil]; cases s <;> simp
  | k + 1, [] => by unfold nameM; rw [List.replicate_succ, mat_sign_nil _ _ rfl]; simp
  | k + 1, y :: t => by
    have h := marks_len k t
    unfold nameM at h ⊢
    rw [List.replicate_succ, mat_sign_cons _ _ rfl, h]
    show (true && decide (k = t.length)) = _
    simp
theorem two_names {az : List Atm} {p : List UInt8} (hf : flat p) (h0 : p ≠ []) : matchM [some az] (p ++ [47, 120]) = false := by
  unfold matchM namesG
  rw [if_neg (by simp), splitG_at [120] hf, mat_sign_cons _ _ rfl]
  show (_ && mat _ _ [] (splitG [120])) = false
  rw [mat_nil]
  cases pcTakes (some az) p <;> rfl
theorem between_parse {u v : List UInt8} (hu : flat u) (hv : flat v) (hl : 2 * (u.length + v.length) + 1 ≤ 255) : parseG (quoG u ++ [42] ++ quoG v) = .ok [some (u.map litA ++ starA :: v.map litA)] := by
  have h1 := quoG_len u
  have h2 := quoG_len v
  refine parse_piece (by simp; omega) ?_ (by simp) ?_ ?_
  · intro x hx
    rcases List.mem_append.1 hx with hx | hx
    · rcases List.mem_append.1 hx with hx | hx
      · exact quo_flat hu x hx
      · simp at hx; subst hx; decide
    · exact quo_flat hv x hx
  · cases u with
    | cons x r =>
      have : quoG (x :: r) = 92 :: x :: quoG r := by show (if x = 47 then _ else _) = _; rw [if_neg (hu x (by simp))]
      rw [this]; simp
    | nil =>
      cases v with
      | nil => simp [quoG]
      | cons x r =>
        have : quoG (x :: r) = 92 :: x :: quoG r := by show (if x = 47 then _ else _) = _; rw [if_neg (hv x (by simp))]
        rw [this]; simp [quoG]
  · rw [List.append_assoc, atoms_quo _ _ hu]
    show atomsL _ (42 :: quoG v) = _
    rw [atoms_one, ← List.append_nil (quoG v), atoms_quo _ _ hv, atomsL_nil]
    simp
theorem marks_parse {k : Nat} (h1 : 1 ≤ k) (h2 : k ≤ 80) : parseG (List.replicate k 63) = .ok [some (List.replicate k oneA)] := by
  refine parse_piece (by simp; omega) ?_ ?_ ?_ ?_
  · intro x hx
    rw [List.eq_of_mem_replicate hx]; decide
  · intro h
    have := congrArg List.length h
    simp at this; omega
  · intro h
    obtain ⟨k, rfl⟩ : ∃ k', k = k' + 1 := ⟨k - 1, by omega⟩
    rw [List.replicate_succ] at h
    injection h with h _; revert h; decide
  · rw [atoms_mark]; rfl
theorem ok_one {az : List Atm} (h : az.length ≤ 1000000) : PatOk [some az] := ⟨by simp, fun p hp az' e => by simp at hp; rw [hp] at e; injection e with e; subst e; exact h⟩

set_option maxRecDepth 100000 in
set_option maxHeartbeats 4000000 in
theorem globStars_any (s0 : ByteArray) (cs1 : List Value) (x1 : List Int) (x2 : Int) (W0 : World) (_ : s0.size ≤ maxLen) (hb0 : s0.size ≤ 1048576) (h1 : (arrR 2 (intR .i64)).R W0 no cs1 x1) (_ : bulkL (fun _ : Int => 1) x1 + 1 ≤ 1048576) (hx2 : (Lit.int .i64 x2).wf = true) :
    Calls Tryd.prog 5 #[.string s0, .agg cs1.toArray, .int .i64 x2] W0 fun e w' => e = .returned (.bool true) ∧ Below W0.heap.size W0 w' := by
  obtain ⟨a, b, rfl⟩ : ∃ a b : Int, cs1 = [.int .i64 a, .int .i64 b] := by
    obtain ⟨hl, he⟩ := h1
    match x1, hl with
    | [a, b], _ =>
      cases he with
      | cons e1 e2 =>
        cases e2 with
        | cons e3 e4 =>
          cases e4
          obtain ⟨rfl, _⟩ := e1
          obtain ⟨rfl, _⟩ := e3
          exact ⟨a, b, rfl⟩
  obtain ⟨p, hp⟩ : ∃ p, p = sB s0 := ⟨_, rfl⟩
  obtain ⟨L, hL⟩ : ∃ L, L = p.length := ⟨_, rfl⟩
  have hqL : s0.size = L := by rw [hL, hp]; rfl
  have HQ := Lib.hid (show s0 = strL p by rw [hp]; exact (mk_sB s0).symm)
  have HNM := Lib.hid (fun w => name_any s0 w (by omega))
  rw [← hp] at HNM
  have HL := Lib.hid hL
  obtain ⟨nm, hnm⟩ : ∃ nm, nm = nameG p := ⟨_, rfl⟩
  rw [← hnm] at HNM
  have HN := Lib.hid hnm
  clear hp hL hnm h1
  have HBX := Lib.hid (show Below W0.heap.size W0 (W0.alloc (.cells #[.int .i64 a, .int .i64 b] 37)) from (Below.refl _ _).alloc (Nat.le_refl _) _)
  have HKX := Lib.hid (Blk.new W0 37 #[.int .i64 a, .int .i64 b])
  obtain ⟨g, hg⟩ : ∃ g, W0.heap.size = g := ⟨_, rfl⟩
  have HG := Lib.hid hg
  rw [hg] at HKX HBX
  go_enter Tryd.func5, Tryd.ntmps5
  go_wp2_with fail
  change Calls _ _ _ (W0.alloc (.cells #[.int .i64 a, .int .i64 b] 37)) _
  clear hg
  generalize W0.alloc (.cells #[.int .i64 a, .int .i64 b] 37) = w0 at *
  refine (awake_any w0).mono ?_
  rintro e w1 ⟨rfl, hb1⟩
  have HB1 := Lib.hid (HBX.out.trans (hb1.mono (by have := HBX.out.size; have := HG.out; omega)))
  have HK1 := Lib.hid (HKX.out.below hb1 HKX.out.lt)
  clear hb1 HBX HKX
  have c0 := HK1.out.cell 0
  have c1 := HK1.out.cell 1
  have hs0 : w1.drew.cell? ⟨g, 0, none⟩ = some (.int .i64 a) ∧ w1.drew.cell? ⟨g, 1, none⟩ = some (.int .i64 b) := ⟨c0, c1⟩
  have HBD := Lib.hid (show Below g W0 w1.drew from HB1.out.trans ((Same.below ⟨1, rfl⟩ w1.heap.size).mono (by have := HB1.out.size; have := HG.out; omega)))
  clear c0 c1 HK1 HB1
  go_upto_region 3 with fail
  refine wp_region_held (S := fun w' => w'.cell? ⟨g, 0, none⟩ = some (.int .i64 a) ∧ w'.cell? ⟨g, 1, none⟩ = some (.int .i64 b)) (by kernel_rfl) ?_
  change wpAnyH _ _ _ _ _ _ _ _ (World.drew _)
  generalize World.drew w1 = wd at *
  refine held_take (i := 0) (v := ?_) (a' := ?_) rfl (by kernel_rfl) (by kernel_rfl) (by kernel_rfl) (fun _ _ _ h => h) (by rfl) hs0 ?_ ?_ ?_
  rotate_left 2
  · (intro w hS; go_simp; try with_reducible rfl)
  · (go_simp; try with_reducible rfl)
  refine held_take (i := 1) (v := ?_) (a' := ?_) rfl (by kernel_rfl) (by kernel_rfl) (by kernel_rfl) (fun _ _ _ h => h) (by rfl) hs0 ?_ ?_ ?_
  rotate_left 2
  · (intro w hS; have t := hS.1; go_simp; try with_reducible rfl)
  · (go_simp; try with_reducible rfl)
  refine held_take (i := 2) (v := ?_) (a' := ?_) rfl (by kernel_rfl) (by kernel_rfl) (by kernel_rfl) (fun _ _ _ h => h) (by rfl) hs0 ?_ ?_ ?_
  rotate_left 2
  · (intro w hS; go_simp; try with_reducible rfl)
  · (go_simp; try with_reducible rfl)
  refine held_take (i := 3) (v := ?_) (a' := ?_) rfl (by kernel_rfl) (by kernel_rfl) (by kernel_rfl) (fun _ _ _ h => h) (by rfl) hs0 ?_ ?_ ?_
  rotate_left 2
  · (intro w hS; have t := hS.2; go_simp; try with_reducible rfl)
  · (go_simp; try with_reducible rfl)
  refine held_take (i := 4) (v := ?_) (a' := ?_) rfl (by kernel_rfl) (by kernel_rfl) (by kernel_rfl) (fun _ _ _ h => h) (by rfl) hs0 ?_ ?_ ?_
  rotate_left 2
  · (intro w hS; go_simp; try with_reducible rfl)
  · (go_simp; try with_reducible rfl)
  refine held_take (i := 5) (v := ?_) (a' := ?_) rfl (by kernel_rfl) (by kernel_rfl) (by kernel_rfl) (fun _ _ _ h => h) (by rfl) hs0 ?_ ?_ ?_
  rotate_left 2
  · (intro w hS; go_simp; try with_reducible rfl)
  · (go_simp; try with_reducible rfl)
  refine wpAnyH_done (by kernel_rfl) ?_ _
  clear hs0
  go_wp2_with fail
  refine (HNM.out wd).mono ?_
  rintro e w2 ⟨rfl, hb2⟩
  have HB2 := Lib.hid (HBD.out.trans (hb2.mono (by have := HBD.out.size; have := HG.out; omega)))
  clear hb2 HBD
  cases nm with
  | false =>
    go_wp2_with fail
    go_ret
    exact ⟨rfl, by rw [HG.out]; exact HB2.out⟩
  | true =>
    by_cases ha : a < 0
    · go_wp2_with fail
      go_ret
      exact ⟨rfl, by rw [HG.out]; exact HB2.out⟩
    by_cases hb : b < a
    · go_wp2_with fail
      go_ret
      exact ⟨rfl, by rw [HG.out]; exact HB2.out⟩
    by_cases hc : (L : Int) < b
    · go_wp2_with fail
      go_ret
      exact ⟨rfl, by rw [HG.out]; exact HB2.out⟩
    by_cases hd : x2 < 1
    · go_wp2_with fail
      go_ret
      exact ⟨rfl, by rw [HG.out]; exact HB2.out⟩
    by_cases he : 80 < x2
    · go_wp2_with fail
      go_ret
      exact ⟨rfl, by rw [HG.out]; exact HB2.out⟩
    obtain ⟨i, rfl⟩ : ∃ i : Nat, a = (i : Int) := ⟨a.toNat, by omega⟩
    obtain ⟨j, rfl⟩ : ∃ j : Nat, b = (j : Int) := ⟨b.toNat, by omega⟩
    obtain ⟨k, rfl⟩ : ∃ k : Nat, x2 = (k : Int) := ⟨x2.toNat, by omega⟩
    obtain ⟨hf, h0, h64⟩ := name_flat HN.out.symm
    have hij : i ≤ j := by omega
    have hjL : j ≤ L := by omega
    have hiL : i ≤ L := by omega
    have hjLI : (j : Int) ≤ (L : Int) := by omega
    have hiLI : (i : Int) ≤ (L : Int) := by omega
    have hk1 : 1 ≤ k := by omega
    have hk80 : k ≤ 80 := by omega
    have hL64 : L ≤ 64 := by rw [HL.out]; exact h64
    obtain ⟨u, hu⟩ : ∃ u, u = p.take i := ⟨_, rfl⟩
    obtain ⟨v, hv⟩ : ∃ v, v = p.drop j := ⟨_, rfl⟩
    have hfu : flat u := fun x hx => hf x (List.mem_of_mem_take (hu ▸ hx))
    have hfv : flat v := fun x hx => hf x (List.mem_of_mem_drop (hv ▸ hx))
    have huv : u.length + v.length ≤ 64 := by rw [hu, hv, List.length_take, List.length_drop, ← HL.out]; omega
    have HEU := Lib.hid (show s0.extract 0 i = strL u by rw [HQ.out, hu, strL_take])
    have HEV := Lib.hid (show s0.extract j L = strL v by rw [HQ.out, hv, strL_cut, List.take_of_length_le (by rw [List.length_drop, ← HL.out]; exact Nat.le_refl _)])
    have HPU := Lib.hid (show p = u ++ ((p.drop i).take (j - i) ++ v) by
      rw [hu, hv]
      have h1 := (List.take_append_drop i p).symm
      have h2 := (List.take_append_drop (j - i) (p.drop i)).symm
      rw [List.drop_drop, show i + (j - i) = j by omega] at h2
      rw [← h2]; exact h1)
    have HQU := Lib.hid (fun w => quoted_any u w (by omega))
    have HQV := Lib.hid (fun w => quoted_any v w (by omega))
    rw [← HEU.out] at HQU
    rw [← HEV.out] at HQV
    have HPB := Lib.hid (between_parse hfu hfv (by omega))
    have HPBL := Lib.hid (fun w => parse_any (quoG u ++ [42] ++ quoG v) w (by have := quoG_len u; have := quoG_len v; simp; omega))
    obtain ⟨qU, hqU⟩ : ∃ qU, qU = strL (quoG u) := ⟨_, rfl⟩
    obtain ⟨qV, hqV⟩ : ∃ qV, qV = strL (quoG v) := ⟨_, rfl⟩
    rw [← hqU] at HQU
    rw [← hqV] at HQV
    have HSU := Lib.hid (show qU ++ ⟨#[42]⟩ ++ qV = strL (quoG u ++ [42] ++ quoG v) by
      rw [hqU, hqV, show (ByteArray.mk #[42]) = strL [42] from rfl, strL_add, strL_add])
    rw [← HSU.out] at HPBL
    have hqUs : qU.size ≤ 128 := by rw [hqU, strL_size]; have := quoG_len u; omega
    have hqVs : qV.size ≤ 128 := by rw [hqV, strL_size]; have := quoG_len v; omega
    have HLB := Lib.hid (show (u.map litA ++ starA :: v.map litA).length ≤ 1000000 by simp; omega)
    have HPL := Lib.hid (show p.length ≤ 1000000 by rw [← HL.out]; omega)
    have HF := Lib.hid hf
    have H0 := Lib.hid h0
    clear ha hb hc hd he hu hv hfu hfv huv hqU hqV hf h0 h64
    go_wp2_with fail
    refine (parse_any [42] w2 (by decide)).mono ?_
    intro e w3 hp
    obtain ⟨hb3, hp⟩ := hp
    rw [star_parse] at hp
    obtain ⟨v3, rfl, hp3⟩ := hp
    obtain ⟨g3, rfl⟩ := pat_ptr hp3
    have HB3 := Lib.hid (HB2.out.trans (hb3.mono (by have := HB2.out.size; have := HG.out; omega)))
    have HP3 := Lib.hid (patR.stable hp3 (Moves.forget _ _))
    clear hb3 hp3 HB2
    have hgw : g ≤ w3.heap.size := by have := HB3.out.size; have := HG.out; omega
    obtain ⟨PB, hPBe⟩ : ∃ PB, PB = [some (u.map litA ++ starA :: v.map litA)] := ⟨_, rfl⟩
    rw [← hPBe] at HPB
    have HPBE := Lib.hid hPBe
    clear hPBe
    go_upto_region 7 with fail
    go_cut [11, 12] (fun v11 v12 wx => ∃ g5, v11 = .pointer (some ⟨g5, 0, none⟩) ∧ v12 = .int .i64 0 ∧ Hid (Below w3.heap.size w3 wx) ∧ Hid (patR.R wx no [.pointer (some ⟨g5, 0, none⟩)] PB))
    case first =>
      have hcls : Below w3.heap.size w3 w3.drew := Same.below ⟨1, rfl⟩ _
      have hn1 : ¬ 9223372036854775807 < qU.size + 1 := by omega
      have hn2 : ¬ 9223372036854775807 < qU.size + 1 + qV.size := by omega
      refine wp_region_held (S := fun w' => Below w3.heap.size w3 w') (by kernel_rfl) ?_
      change wpAnyH _ _ _ _ _ _ _ _ (World.drew _)
      refine held_take (i := 0) (v := ?_) (a' := ?_) rfl (by kernel_rfl) (by kernel_rfl) (by kernel_rfl) (fun _ _ _ h => h) (by rfl) hcls ?_ ?_ ?_
      rotate_left 2
      · (intro w hS; go_simp; try with_reducible rfl)
      · (go_simp; try with_reducible rfl)
      refine held_take (i := 1) (v := ?_) (a' := ?_) rfl (by kernel_rfl) (by kernel_rfl) (by kernel_rfl) (fun _ _ _ h => h) (by rfl) hcls ?_ ?_ ?_
      rotate_left 2
      · (intro w hS; go_simp; try with_reducible rfl)
      · (go_simp; try with_reducible rfl)
      refine held_take (i := 2) (v := ?_) (a' := ?_) rfl (by kernel_rfl) (by kernel_rfl) (by kernel_rfl) (fun _ _ _ h => h) (by rfl) hcls ?_ ?_ ?_
      rotate_left 2
      · (intro w hS; go_simp; try with_reducible rfl)
      · (go_simp; try with_reducible rfl)
      refine held_take (i := 5) (v := ?_) (a' := ?_) rfl (by kernel_rfl) (by kernel_rfl) (by kernel_rfl) (fun _ _ _ h => h) (by rfl) hcls ?_ ?_ ?_
      rotate_left 2
      · (intro w hS; go_simp; try with_reducible rfl)
      · (go_simp; try with_reducible rfl)
      refine held_take (i := 6) (v := ?_) (a' := ?_) rfl (by kernel_rfl) (by kernel_rfl) (by kernel_rfl) (fun _ _ _ h => h) (by rfl) hcls ?_ ?_ ?_
      rotate_left 2
      · (intro w hS; go_simp; try with_reducible rfl)
      · (go_simp; try with_reducible rfl)
      refine held_take (i := 7) (v := ?_) (a' := ?_) rfl (by kernel_rfl) (by kernel_rfl) (by kernel_rfl) (fun _ _ _ h => h) (by rfl) hcls ?_ ?_ ?_
      rotate_left 2
      · (intro w hS; go_simp; try with_reducible rfl)
      · (go_simp; try with_reducible rfl)
      refine held_ready (rs := [3]) (by kernel_rfl) (by simp) ?_
      refine AllHeld.cons rfl (fun KR hKR => ?_) ?_
      · go_simp
        refine (HQU.out _).mono ?_
        rintro e w4 ⟨rfl, hb4⟩
        have hcls := hcls.trans (hb4.mono hcls.size)
        refine hKR _ _ hcls ?_
        clear hKR KR
        refine held_take (i := 4) (v := ?_) (a' := ?_) rfl (by kernel_rfl) (by kernel_rfl) (by kernel_rfl) (fun _ _ _ h => h) (by rfl) hcls ?_ ?_ ?_
        rotate_left 2
        · (intro w hS; go_simp; try with_reducible rfl)
        · (go_simp; try with_reducible rfl)
        refine held_ready (rs := [8]) (by kernel_rfl) (by simp) ?_
        refine AllHeld.cons rfl (fun KR hKR => ?_) ?_
        · go_simp
          refine (HQV.out _).mono ?_
          rintro e w4 ⟨rfl, hb4⟩
          have hcls := hcls.trans (hb4.mono hcls.size)
          refine hKR _ _ hcls ?_
          clear hKR KR
          refine held_take (i := 9) (v := ?_) (a' := ?_) rfl (by kernel_rfl) (by kernel_rfl) (by kernel_rfl) (fun _ _ _ h => h) (by rfl) hcls ?_ ?_ ?_
          rotate_left 2
          · (intro w hS; go_simp; try with_reducible rfl)
          · (go_simp; try with_reducible rfl)
          refine held_ready (rs := [10]) (by kernel_rfl) (by simp) ?_
          refine AllHeld.cons rfl (fun KR hKR => ?_) ?_
          · go_simp
            refine (HPBL.out _).mono ?_
            intro e w5 hp
            obtain ⟨hb5, hp⟩ := hp
            rw [HPB.out] at hp
            obtain ⟨v5, rfl, hp5⟩ := hp
            obtain ⟨g5, rfl⟩ := pat_ptr hp5
            have hcls := hcls.trans (hb5.mono hcls.size)
            have HP5 := Lib.hid (patR.stable hp5 (Moves.forget _ _))
            refine hKR _ _ hcls ?_
            clear hKR KR
            refine held_take (i := 11) (v := ?_) (a' := ?_) rfl (by kernel_rfl) (by kernel_rfl) (by kernel_rfl) (fun _ _ _ h => h) (by rfl) hcls ?_ ?_ ?_
            rotate_left 2
            · (intro w hS; go_simp; try with_reducible rfl)
            · (go_simp; try with_reducible rfl)
            refine held_take (i := 12) (v := ?_) (a' := ?_) rfl (by kernel_rfl) (by kernel_rfl) (by kernel_rfl) (fun _ _ _ h => h) (by rfl) hcls ?_ ?_ ?_
            rotate_left 2
            · (intro w hS; go_simp; try with_reducible rfl)
            · (go_simp; try with_reducible rfl)
            refine held_take (i := 13) (v := ?_) (a' := ?_) rfl (by kernel_rfl) (by kernel_rfl) (by kernel_rfl) (fun _ _ _ h => h) (by rfl) hcls ?_ ?_ ?_
            rotate_left 2
            · (intro w hS; go_simp; try with_reducible rfl)
            · (go_simp; try with_reducible rfl)
            refine held_take (i := 14) (v := ?_) (a' := ?_) rfl (by kernel_rfl) (by kernel_rfl) (by kernel_rfl) (fun _ _ _ h => h) (by rfl) hcls ?_ ?_ ?_
            rotate_left 2
            · (intro w hS; go_simp; try with_reducible rfl)
            · (go_simp; try with_reducible rfl)
            refine held_take (i := 15) (v := ?_) (a' := ?_) rfl (by kernel_rfl) (by kernel_rfl) (by kernel_rfl) (fun _ _ _ h => h) (by rfl) hcls ?_ ?_ ?_
            rotate_left 2
            · (intro w hS; go_simp; try with_reducible rfl)
            · (go_simp; try with_reducible rfl)
            refine wpAnyH_done (by kernel_rfl) ?_ _
            go_wp2_with fail
            go_meet
            case rel => exact ⟨g5, rfl, rfl, Lib.hid hcls, HP5⟩
          exact AllHeld.nil
        exact AllHeld.nil
      exact AllHeld.nil
    case rest =>
      obtain ⟨g5, rfl, rfl, HBC, HP5⟩ := hcut
      rename World => w5
      have HP5a := Lib.hid (pat_use (w0 := w3) HP3.out HBC.out)
      have HB5 := Lib.hid (HB3.out.trans (HBC.out.mono hgw))
      clear HBC HP3 HB3 hgw
      have HZ := Lib.hid (show (ByteArray.mk #[]) = strL (List.replicate 0 63) from rfl)
      go_wp2_with fail
      go_loopw [13, 14] (fun s13 s14 wr => ∃ (t : Nat) (o : ByteArray), t ≤ k ∧ s13 = .string o ∧ s14 = .int .i64 (t : Int) ∧ Hid (o = strL (List.replicate t 63)) ∧ wr = w5) (fun s13 s14 wr => k - (intOf s14).toNat)
      case atStart => exact ⟨0, _, Nat.zero_le _, rfl, rfl, HZ, rfl⟩
      case round =>
        obtain ⟨t, o, ht, rfl, rfl, HO, rfl⟩ := hrel
        by_cases hlt : t < k
        · have hltI : (t : Int) < (k : Int) := by omega
          have hos : o.size ≤ 80 := by rw [HO.out, strL_size]; simp; omega
          have HO2 := Lib.hid (show o ++ ⟨#[63]⟩ = strL (List.replicate (t + 1) 63) by
            rw [HO.out, show (ByteArray.mk #[63]) = strL [63] from rfl, strL_add, List.replicate_succ'])
          go_wp2_with fail
          go_roundw
          case rel => exact ⟨t + 1, o ++ ⟨#[63]⟩, by omega, rfl, by go_num, HO2, trivial⟩
          case measure => simp [intOf]; omega
        · have hltI : ¬ (t : Int) < (k : Int) := by omega
          obtain rfl : t = k := by omega
          have HPC := Lib.hid (fun w => parse_any (List.replicate t 63) w (by simp; omega))
          rw [← HO.out] at HPC
          have HPG := Lib.hid (marks_parse hk1 hk80)
          clear hlt hltI
          go_wp2_with fail
          refine (HPC.out _).mono ?_
          intro e w6 hp
          obtain ⟨hb6, hp⟩ := hp
          rw [HPG.out] at hp
          obtain ⟨v6, rfl, hp6⟩ := hp
          obtain ⟨g6, rfl⟩ := pat_ptr hp6
          have HB6 := Lib.hid (HB5.out.trans (hb6.mono (by have := HB5.out.size; have := HG.out; omega)))
          have HPA6 := Lib.hid (pat_use (w0 := wr) HP5a.out hb6)
          have HPB6 := Lib.hid (pat_use (w0 := wr) HP5.out hb6)
          have HPC6 := Lib.hid (patR.stable hp6 (Moves.forget _ _))
          clear hb6 hp6 HB5 HP5a HP5 HO HPC
          have HM1 := Lib.hid (show matchM [some [starA]] p = true by rw [match_name HF.out H0.out]; exact star_all p)
          have HM2 := Lib.hid (show matchM PB p = true by rw [HPBE.out, match_name HF.out H0.out]; exact lits_star HPU.out)
          obtain ⟨eq, heq⟩ : ∃ eq, eq = decide (t = L) := ⟨_, rfl⟩
          have HM3 := Lib.hid (show matchM [some (List.replicate t oneA)] p = eq by rw [match_name HF.out H0.out, marks_len, heq, HL.out])
          have hqq : ((t : Int) == (L : Int)) = eq := by
            rw [heq]
            by_cases h : t = L
            · simp [h]
            · have : ¬ (t : Int) = (L : Int) := by omega
              simp [h, this]
          have hee : (eq == eq) = true := by simp
          have HM4 := Lib.hid (two_names (az := [starA]) HF.out H0.out)
          have HC1 := Lib.hid (fun w (h : patR.R w no [.pointer (some ⟨g3, 0, none⟩)] [some [starA]]) => pmatch_any g3 [some [starA]] p w h (by decide) (ok_one (by simp)).2 HPL.out)
          have HC4 := Lib.hid (fun w (h : patR.R w no [.pointer (some ⟨g3, 0, none⟩)] [some [starA]]) => pmatch_any g3 [some [starA]] (p ++ [47, 120]) w h (by decide) (ok_one (by simp)).2 (by have := HPL.out; have := HL.out; simp; omega))
          have HC2 := Lib.hid (fun w (h : patR.R w no [.pointer (some ⟨g5, 0, none⟩)] PB) => pmatch_any g5 PB p w h (by rw [HPBE.out]; simp) (by rw [HPBE.out]; exact (ok_one HLB.out).2) HPL.out)
          have HC3 := Lib.hid (fun w (h : patR.R w no [.pointer (some ⟨g6, 0, none⟩)] [some (List.replicate t oneA)]) => pmatch_any g6 [some (List.replicate t oneA)] p w h (by simp) (ok_one (by simp; omega)).2 HPL.out)
          rw [HM1.out, ← HQ.out] at HC1
          rw [HM2.out, ← HQ.out] at HC2
          rw [HM3.out, ← HQ.out] at HC3
          rw [HM4.out, ← strL_add, ← HQ.out] at HC4
          clear heq
          go_wp2_with fail
          refine (HC1.out w6 HPA6.out).mono ?_
          rintro e w7 ⟨rfl, hb7⟩
          have HB7 := Lib.hid (HB6.out.trans (hb7.mono (by have := HB6.out.size; have := HG.out; omega)))
          have HPA7 := Lib.hid (pat_use (w0 := w6) HPA6.out hb7)
          have HPB7 := Lib.hid (pat_use (w0 := w6) HPB6.out hb7)
          have HPC7 := Lib.hid (pat_use (w0 := w6) HPC6.out hb7)
          clear hb7 HB6 HPA6 HPB6 HPC6
          go_wp2_with fail
          refine (HC2.out w7 HPB7.out).mono ?_
          rintro e w8 ⟨rfl, hb8⟩
          have HB8 := Lib.hid (HB7.out.trans (hb8.mono (by have := HB7.out.size; have := HG.out; omega)))
          have HPA8 := Lib.hid (pat_use (w0 := w7) HPA7.out hb8)
          have HPC8 := Lib.hid (pat_use (w0 := w7) HPC7.out hb8)
          clear hb8 HB7 HPA7 HPB7 HPC7
          go_wp2_with fail
          refine (HC3.out w8 HPC8.out).mono ?_
          rintro e w9 ⟨rfl, hb9⟩
          have HB9 := Lib.hid (HB8.out.trans (hb9.mono (by have := HB8.out.size; have := HG.out; omega)))
          have HPA9 := Lib.hid (pat_use (w0 := w8) HPA8.out hb9)
          clear hb9 HB8 HPA8 HPC8
          go_wp2_with fail
          refine (HC4.out w9 HPA9.out).mono ?_
          rintro e w10 ⟨rfl, hb10⟩
          have HB10 := Lib.hid (HB9.out.trans (hb10.mono (by have := HB9.out.size; have := HG.out; omega)))
          go_wp2_with fail
          go_ret
          exact ⟨rfl, by rw [HG.out]; exact HB10.out⟩
end Go.Proofs.YtlddnghfjdjglaaDoor
