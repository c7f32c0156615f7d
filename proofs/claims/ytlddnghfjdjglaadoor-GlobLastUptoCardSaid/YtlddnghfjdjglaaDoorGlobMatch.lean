/- glob's Match: does a pattern mean a path? The greedy way over pieces. -/
import Derived.Test.YtlddnghfjdjglaaDoorGlobName2
import Derived.Test.YtlddnghfjdjglaaDoorGlobNames
import Derived.Test.YtlddnghfjdjglaaDoorGlobParse
set_option linter.unusedVariables false
set_option linter.unusedSimpArgs false
namespace Go.Proofs.YtlddnghfjdjglaaDoor
open Go.RowKit

/-- a piece of a row, and its cell -/
theorem pc_look {w : World} {av : Av} {A : Option Addr} {l : List Pc} {n i : Nat} (h : SlOf pcR w av A l) (hl : l.length = n) (hi : i < n) :
    ∃ b off p v, A = some ⟨b, off, none⟩ ∧ b < w.heap.size ∧ l[i]? = some p ∧ pcR.R w av [v] p ∧ w.cell? ⟨b, off + i, none⟩ = some v := by
  obtain ⟨b, off, cs, p, e, hb, hx, hr, hc⟩ := h.at hl hi
  have hk := pcR.len hr
  match cs, hk with
  | [v], _ =>
    refine ⟨b, off, p, v, e, hb, hx, hr, ?_⟩
    have := hc 0 v rfl
    have h1 : off + i * pcR.k + 0 = off + i := by show off + i * 1 + 0 = off + i; omega
    rw [h1] at this; exact this
/-- a piece's value: nil, or a slice that is not -/
theorem pc_val {w : World} {av : Av} {v : Value} {p : Pc} (h : pcR.R w av [v] p) : (p = none ∧ v = .slice none 0 0) ∨ ∃ az b off c, p = some az ∧ v = .slice (some ⟨b, off, none⟩) az.length c ∧ SlOf atmR w av (some ⟨b, off, none⟩) az := by
  cases p with
  | none => have h : [v] = [Value.slice none 0 0] := h; injection h with h; exact .inl ⟨rfl, h⟩
  | some az =>
    obtain ⟨h0, A, c, e, h1, h2, h3⟩ := h
    injection e with e
    obtain ⟨b, off, _, _, ha, _⟩ := h3.at rfl (i := 0) (List.length_pos_iff.2 h0)
    subst ha
    exact .inr ⟨az, b, off, c, rfl, e, h3⟩
/-- a name of a row -/
theorem str_look {w : World} {av : Av} {A : Option Addr} {l : List (List UInt8)} {n i : Nat} (h : SlOf strR w av A (l.map strL)) (hl : l.length = n) (hi : i < n) :
    ∃ b off s, A = some ⟨b, off, none⟩ ∧ b < w.heap.size ∧ l[i]? = some s ∧ w.cell? ⟨b, off + i, none⟩ = some (.string (strL s)) := by
  obtain ⟨b, off, cs, x, e, hb, hx, hr, hc⟩ := h.at (by rw [List.length_map]; exact hl) hi
  have hr : cs = [.string x] := hr
  subst hr
  rw [List.getElem?_map] at hx
  cases hs : l[i]? with
  | none => rw [hs] at hx; cases hx
  | some s =>
    rw [hs] at hx
    injection hx with hx
    refine ⟨b, off, s, e, hb, rfl, ?_⟩
    have := hc 0 _ rfl
    have h1 : off + i * strR.k + 0 = off + i := by show off + i * 1 + 0 = off + i; omega
    rw [h1, ← hx] at this; exact this

theorem nil_nil (w : World) : (binOp .eql 50 (.slice none 0 0) (.slice none 0 0)).run Tryd.prog w = .ok (.bool true) w := Lib.run_eql_slice_nil w _ 76 none 0 0 0 0 (by kernel_rfl)
theorem some_nil (w : World) (a : Addr) (n c : Nat) : (binOp .eql 50 (.slice (some a) n c) (.slice none 0 0)).run Tryd.prog w = .ok (.bool false) w := Lib.run_eql_slice_nil w _ 76 (some a) n c 0 0 (by kernel_rfl)
attribute [local go_sem ↓] nil_nil some_nil

set_option maxRecDepth 100000 in
set_option maxHeartbeats 4000000 in
theorem pmatch_big (gp : Nat) (ps : List Pc) (l : List UInt8) (w : World) (h : patR.R w no [.pointer (some ⟨gp, 0, none⟩)] ps) (hnl : ps.length ≤ 1000000) (hps : ∀ p ∈ ps, ∀ az, p = some az → az.length ≤ 1000000) (hl : l.length ≤ 2000000) :
    Calls Tryd.prog 12 #[.pointer (some ⟨gp, 0, none⟩), .string (strL l)] w fun e w' => e = .returned (.bool (matchM ps l)) ∧ Below w.heap.size w w' := by
  obtain ⟨gp', P, c, hgp, hpb, _, hpc, hcm, hs⟩ := h
  obtain rfl : gp' = gp := by injection hgp with hgp; injection hgp with hgp; injection hgp with hgp; injection hgp with hgp; exact hgp.symm
  obtain ⟨R, hR⟩ : ∃ R, R = mat Option.isNone pcTakes ps (namesG l) := ⟨_, rfl⟩
  have HR := Lib.hid hR
  rw [show matchM ps l = R from hR.symm]
  obtain ⟨ns, hns⟩ : ∃ ns, ns = namesG l := ⟨_, rfl⟩
  rw [← hns] at HR
  have HSP := Lib.hid (psplit_any l w (by omega))
  rw [← hns] at HSP
  obtain ⟨M, hM⟩ : ∃ M, M = ns.length := ⟨_, rfl⟩
  rw [← hM] at HSP
  obtain ⟨N, hN⟩ : ∃ N, N = ps.length := ⟨_, rfl⟩
  rw [← hN] at hpb hnl
  have HM := Lib.hid hM
  have HN := Lib.hid hN
  have HPB := Lib.hid hpb
  have HS := Lib.hid hs
  have HPS := Lib.hid hps
  have HNS := Lib.hid (show ∀ s ∈ ns, s.length ≤ 2000000 by
    intro s hs2
    rw [hns] at hs2
    unfold namesG at hs2
    split at hs2
    · cases hs2
    · have := mem_split hs2; omega)
  have hML : M ≤ 2000001 := by
    rw [hM, hns]; unfold namesG; split
    · simp
    · rw [splitG_len]
      have := List.count_le_length (a := (47 : UInt8)) (l := l); omega
  clear hR hM hN hpb hs hps hpc hcm hgp hns
  go_enter Tryd.func12, Tryd.ntmps12
  go_wp2_with fail
  refine HSP.out.mono ?_
  rintro e w1 ⟨⟨A5, c5, rfl, hsn, hc5, hcm5⟩, hb1⟩
  have HB1 := Lib.hid hb1
  have HSN := Lib.hid (hsn.stable (Moves.forget _ _))
  have HS1 := Lib.hid (HS.out.below hb1)
  have HPB1 := Lib.hid (HPB.out.below hb1 HPB.out.lt)
  clear hsn hc5 hcm5 hb1 HSP HS HPB
  go_wp2_with fail
  go_loopw [6, 7, 8, 9] (fun s6 s7 s8 s9 wr => ∃ (i k : Nat) (o : Option (Nat × Nat)) (z : Int) (m : Nat), i ≤ N ∧ k ≤ M ∧ s6 = .int .i64 (i : Int) ∧ s7 = .int .i64 z ∧ s8 = .int .i64 (m : Int) ∧ s9 = .int .i64 (k : Int) ∧ Hid (starS o z m) ∧ Hid (Gr Option.isNone pcTakes ps ns i k o) ∧ Hid (Below w1.heap.size w1 wr)) (fun s6 s7 s8 s9 wr => greedM N M (intOf s6).toNat (intOf s9).toNat (intOf s8).toNat)
  case atStart => exact ⟨0, 0, none, -1, 0, Nat.zero_le _, Nat.zero_le _, rfl, rfl, rfl, rfl, Lib.hid (.inl ⟨rfl, rfl, rfl⟩), Lib.hid (Gr.start ps ns), Lib.hid (Below.refl _ _)⟩
  case round =>
    obtain ⟨i, k, o, z, m, hi, hk, rfl, rfl, rfl, rfl, HO, HG, HB⟩ := hrel
    have cP : wr.cell? ⟨gp', 0, none⟩ = some (.slice P N c) := (HPB1.out.below HB.out HPB1.out.lt).cell 0
    by_cases hkm : k < M
    · have hkI : (k : Int) < (M : Int) := by omega
      by_cases hin : i < N
      · have hiI : (i : Int) < (N : Int) := by omega
        obtain ⟨b, off, p, v, rfl, hb, hp, hr, c0⟩ := pc_look (HS1.out.below HB.out) HN.out.symm hin
        rcases pc_val hr with ⟨rfl, rfl⟩ | ⟨az, b2, off2, c2, rfl, rfl, hsz⟩
        · have HG2 := Lib.hid (HG.out.starred hp rfl (by rw [← HM.out]; exact hk))
          have hmk := HG.out.mark HO.out
          have HMS := Lib.hid (greed_star (N := N) (M := M) hin hmk)
          clear hp hr hmk
          go_wp2_with fail
          go_roundw
          case rel => exact ⟨i + 1, k, some (i, k), i, k, by omega, hk, by go_num, rfl, rfl, rfl, Lib.hid (.inr ⟨i, rfl, rfl⟩), HG2, HB⟩
          case measure => simp only [intOf]; have := HMS.out; simpa using this
        · obtain ⟨b3, off3, s, hA5, hb3, hs3, c3⟩ := str_look (HSN.out.below HB.out) HM.out.symm hkm
          subst hA5
          obtain ⟨tk, htk⟩ : ∃ tk, tk = nameM az s := ⟨_, rfl⟩
          have HTK := Lib.hid (fun w' (h : Below wr.heap.size wr w') => gname_big (some ⟨b2, off2, none⟩) az.length c2 az s w' (hsz.below h) rfl (HPS.out _ (List.mem_of_getElem? hp) az rfl) (HNS.out _ (List.mem_of_getElem? hs3)))
          rw [← htk] at HTK
          obtain ⟨nz, hnz⟩ : ∃ nz, nz = az.length := ⟨_, rfl⟩
          rw [← hnz] at c0 HTK
          obtain ⟨sq, hsq⟩ : ∃ sq, sq = strL s := ⟨_, rfl⟩
          rw [← hsq] at c3 HTK
          have HY := Lib.hid hs3
          have HA := Lib.hid hp
          have HTE := Lib.hid htk
          have hgl := HPB1.out.lt
          have hw1 := HB.out.size
          clear hr hsz hp hs3 htk hnz hsq
          go_upto_region 9 with fail
          go_cut [38] (fun v wx => v = .bool tk ∧ Hid (Below w1.heap.size w1 wx))
          case first =>
            have hcls : Below wr.heap.size wr wr.drew := Same.below ⟨1, rfl⟩ _
            refine wp_region_held (S := fun w' => Below wr.heap.size wr w') (by kernel_rfl) ?_
            change wpAnyH _ _ _ _ _ _ _ _ (World.drew _)
            refine held_take (i := 0) (v := ?_) (a' := ?_) rfl (by kernel_rfl) (by kernel_rfl) (by kernel_rfl) (fun _ _ _ h => h) (by rfl) hcls ?_ ?_ ?_
            rotate_left 2
            · (intro w hS; go_simp; try with_reducible rfl)
            · (go_simp; try with_reducible rfl)
            refine held_take (i := 1) (v := ?_) (a' := ?_) rfl (by kernel_rfl) (by kernel_rfl) (by kernel_rfl) (fun _ _ _ h => h) (by rfl) hcls ?_ ?_ ?_
            rotate_left 2
            · (intro w hS; go_simp; try with_reducible rfl)
            · (go_simp; try with_reducible rfl)
            refine held_take (i := 2) (v := ?_) (a' := ?_) rfl (by kernel_rfl) (by kernel_rfl) (by kernel_rfl) (fun _ _ _ h => h) (by rfl) hcls ?_ ?_ ?_
            rotate_left 2
            · (intro w hS; go_simp; try with_reducible rfl)
            · (go_simp; try with_reducible rfl)
            refine held_take (i := 3) (v := ?_) (a' := ?_) rfl (by kernel_rfl) (by kernel_rfl) (by kernel_rfl) (fun _ _ _ h => h) (by rfl) hcls ?_ ?_ ?_
            rotate_left 2
            · (intro w hS; go_simp; try with_reducible rfl)
            · (go_simp; try with_reducible rfl)
            refine held_take (i := 4) (v := ?_) (a' := ?_) rfl (by kernel_rfl) (by kernel_rfl) (by kernel_rfl) (fun _ _ _ h => h) (by rfl) hcls ?_ ?_ ?_
            rotate_left 2
            · (intro w hS; have cP2 := (hS.cell (p := ⟨gp', 0, none⟩) (by show gp' < _; omega)).trans cP; go_simp; try with_reducible rfl)
            · (go_simp; try with_reducible rfl)
            refine held_take (i := 5) (v := ?_) (a' := ?_) rfl (by kernel_rfl) (by kernel_rfl) (by kernel_rfl) (fun _ _ _ h => h) (by rfl) hcls ?_ ?_ ?_
            rotate_left 2
            · (intro w hS; go_simp; try with_reducible rfl)
            · (go_simp; try with_reducible rfl)
            refine held_take (i := 6) (v := ?_) (a' := ?_) rfl (by kernel_rfl) (by kernel_rfl) (by kernel_rfl) (fun _ _ _ h => h) (by rfl) hcls ?_ ?_ ?_
            rotate_left 2
            · (intro w hS; go_simp; try with_reducible rfl)
            · (go_simp; try with_reducible rfl)
            refine held_take (i := 7) (v := ?_) (a' := ?_) rfl (by kernel_rfl) (by kernel_rfl) (by kernel_rfl) (fun _ _ _ h => h) (by rfl) hcls ?_ ?_ ?_
            rotate_left 2
            · (intro w hS; go_simp; try with_reducible rfl)
            · (go_simp; try with_reducible rfl)
            refine held_take (i := 8) (v := ?_) (a' := ?_) rfl (by kernel_rfl) (by kernel_rfl) (by kernel_rfl) (fun _ _ _ h => h) (by rfl) hcls ?_ ?_ ?_
            rotate_left 2
            · (intro w hS; go_simp; try with_reducible rfl)
            · (go_simp; try with_reducible rfl)
            refine held_take (i := 9) (v := ?_) (a' := ?_) rfl (by kernel_rfl) (by kernel_rfl) (by kernel_rfl) (fun _ _ _ h => h) (by rfl) hcls ?_ ?_ ?_
            rotate_left 2
            · (intro w hS; go_simp; try with_reducible rfl)
            · (go_simp; try with_reducible rfl)
            refine held_take (i := 10) (v := ?_) (a' := ?_) rfl (by kernel_rfl) (by kernel_rfl) (by kernel_rfl) (fun _ _ _ h => h) (by rfl) hcls ?_ ?_ ?_
            rotate_left 2
            · (intro w hS; go_simp; try with_reducible rfl)
            · (go_simp; try with_reducible rfl)
            refine held_take (i := 11) (v := ?_) (a' := ?_) rfl (by kernel_rfl) (by kernel_rfl) (by kernel_rfl) (fun _ _ _ h => h) (by rfl) hcls ?_ ?_ ?_
            rotate_left 2
            · (intro w hS; have cP2 := (hS.cell (p := ⟨gp', 0, none⟩) (by show gp' < _; omega)).trans cP; go_simp; try with_reducible rfl)
            · (go_simp; try with_reducible rfl)
            refine held_take (i := 12) (v := ?_) (a' := ?_) rfl (by kernel_rfl) (by kernel_rfl) (by kernel_rfl) (fun _ _ _ h => h) (by rfl) hcls ?_ ?_ ?_
            rotate_left 2
            · (intro w hS; go_simp; try with_reducible rfl)
            · (go_simp; try with_reducible rfl)
            refine held_take (i := 13) (v := ?_) (a' := ?_) rfl (by kernel_rfl) (by kernel_rfl) (by kernel_rfl) (fun _ _ _ h => h) (by rfl) hcls ?_ ?_ ?_
            rotate_left 2
            · (intro w hS; go_simp; try with_reducible rfl)
            · (go_simp; try with_reducible rfl)
            refine held_take (i := 14) (v := ?_) (a' := ?_) rfl (by kernel_rfl) (by kernel_rfl) (by kernel_rfl) (fun _ _ _ h => h) (by rfl) hcls ?_ ?_ ?_
            rotate_left 2
            · (intro w hS; have c02 := (hS.cell (p := ⟨b, off + i, none⟩) hb).trans c0; go_simp; try with_reducible rfl)
            · (go_simp; try with_reducible rfl)
            refine held_take (i := 15) (v := ?_) (a' := ?_) rfl (by kernel_rfl) (by kernel_rfl) (by kernel_rfl) (fun _ _ _ h => h) (by rfl) hcls ?_ ?_ ?_
            rotate_left 2
            · (intro w hS; go_simp; try with_reducible rfl)
            · (go_simp; try with_reducible rfl)
            refine held_take (i := 16) (v := ?_) (a' := ?_) rfl (by kernel_rfl) (by kernel_rfl) (by kernel_rfl) (fun _ _ _ h => h) (by rfl) hcls ?_ ?_ ?_
            rotate_left 2
            · (intro w hS; go_simp; try with_reducible rfl)
            · (go_simp; try with_reducible rfl)
            refine held_take (i := 17) (v := ?_) (a' := ?_) rfl (by kernel_rfl) (by kernel_rfl) (by kernel_rfl) (fun _ _ _ h => h) (by rfl) hcls ?_ ?_ ?_
            rotate_left 2
            · (intro w hS; go_simp; try with_reducible rfl)
            · (go_simp; try with_reducible rfl)
            refine held_take (i := 18) (v := ?_) (a' := ?_) rfl (by kernel_rfl) (by kernel_rfl) (by kernel_rfl) (fun _ _ _ h => h) (by rfl) hcls ?_ ?_ ?_
            rotate_left 2
            · (intro w hS; have c32 := (hS.cell (p := ⟨b3, off3 + k, none⟩) hb3).trans c3; go_simp; try with_reducible rfl)
            · (go_simp; try with_reducible rfl)
            refine held_ready (rs := [19]) (by kernel_rfl) (by simp) ?_
            refine AllHeld.cons rfl (fun KR hKR => ?_) ?_
            · go_simp
              refine (HTK.out _ hcls).mono ?_
              rintro e w2 ⟨rfl, hb2⟩
              have hc2 := hcls.trans (hb2.mono hcls.size)
              refine hKR _ _ hc2 ?_
              clear hKR KR
              refine held_take (i := 20) (v := ?_) (a' := ?_) rfl (by kernel_rfl) (by kernel_rfl) (by kernel_rfl) (fun _ _ _ h => h) (by rfl) hc2 ?_ ?_ ?_
              rotate_left 2
              · (intro w hS; go_simp; try with_reducible rfl)
              · (go_simp; try with_reducible rfl)
              refine held_take (i := 21) (v := ?_) (a' := ?_) rfl (by kernel_rfl) (by kernel_rfl) (by kernel_rfl) (fun _ _ _ h => h) (by rfl) hc2 ?_ ?_ ?_
              rotate_left 2
              · (intro w hS; go_simp; try with_reducible rfl)
              · (go_simp; try with_reducible rfl)
              refine wpAnyH_done (by kernel_rfl) ?_ _
              go_wp2_with fail
              go_meet
              case rel => exact ⟨rfl, Lib.hid (HB.out.trans (hc2.mono HB.out.size))⟩
            exact AllHeld.nil
          case rest =>
            obtain ⟨rfl, HBX⟩ := hcut
            clear c0 c3
            cases tk with
            | true =>
              have HG2 := Lib.hid (HG.out.take HA.out HY.out rfl HTE.out.symm)
              have HMS := Lib.hid (greed_take (N := N) (M := M) (m := m) hin hkm)
              go_wp2_with fail
              go_roundw
              case rel => exact ⟨i + 1, k + 1, o, z, m, by omega, by omega, by go_num, rfl, rfl, by go_num, HO, HG2, HBX⟩
              case measure => simp only [intOf]; have := HMS.out; simpa using this
            | false =>
              have HNO := Lib.hid (show ∀ a', ps[i]? = some a' → a'.isNone = false ∧ ∀ y', ns[k]? = some y' → pcTakes a' y' = false from fun a' h => by
                rw [HA.out] at h; injection h with h; subst h
                exact ⟨rfl, fun y' h => by rw [HY.out] at h; injection h with h; subst h; exact HTE.out.symm⟩)
              rcases HO.out with ⟨ho, hz, hm⟩ | ⟨j, ho, hz⟩
              · subst ho hz hm
                have HRR := Lib.hid (show R = false by rw [HR.out]; exact HG.out.fail (by rw [← HM.out]; exact hkm) HNO.out)
                go_wp2_with fail
                go_ret
                rw [HRR.out]
                exact ⟨rfl, HB1.out.trans (HBX.out.mono HB1.out.size)⟩
              · subst ho hz
                obtain ⟨hg2, hm2⟩ := HG.out.back (by rw [← HM.out]; exact hkm) HNO.out
                rw [← HM.out] at hm2
                have HG2 := Lib.hid hg2
                have HMS := Lib.hid (greed_back (N := N) (M := M) (i := i) (k := k) (j := j) hm2)
                have hjN : j + 1 ≤ N := by
                  obtain ⟨a', u, v, _, h1, _⟩ := HG.out
                  have : j < ps.length := by
                    apply Classical.byContradiction; intro h
                    rw [List.drop_eq_nil_of_le (by omega)] at h1; cases h1
                  have := HN.out; omega
                have hz0 : (0 : Int) ≤ (j : Int) := by omega
                clear hg2
                go_wp2_with fail
                go_roundw
                case rel => exact ⟨j + 1, m + 1, some (j, m + 1), j, m + 1, hjN, by omega, by go_num, rfl, by go_num, by go_num, Lib.hid (.inr ⟨j, rfl, rfl⟩), HG2, HBX⟩
                case measure => simp only [intOf]; have := HMS.out; simpa using this
      · have hiI : ¬ (i : Int) < (N : Int) := by omega
        have HNO := Lib.hid (show ∀ a', ps[i]? = some a' → a'.isNone = false ∧ ∀ y', ns[k]? = some y' → pcTakes a' y' = false from fun a' h => by
          rw [List.getElem?_eq_none (by have := HN.out; omega)] at h; cases h)
        have hgl := HPB1.out.lt
        have hw1 := HB.out.size
        go_upto_region 9 with fail
        go_cut [38] (fun v wx => v = .bool false ∧ Hid (Below w1.heap.size w1 wx))
        case first =>
          have hcls : Below wr.heap.size wr wr.drew := Same.below ⟨1, rfl⟩ _
          refine wp_region_held (S := fun w' => Below wr.heap.size wr w') (by kernel_rfl) ?_
          change wpAnyH _ _ _ _ _ _ _ _ (World.drew _)
          refine held_take (i := 0) (v := ?_) (a' := ?_) rfl (by kernel_rfl) (by kernel_rfl) (by kernel_rfl) (fun _ _ _ h => h) (by rfl) hcls ?_ ?_ ?_
          rotate_left 2
          · (intro w hS; go_simp; try with_reducible rfl)
          · (go_simp; try with_reducible rfl)
          refine held_take (i := 1) (v := ?_) (a' := ?_) rfl (by kernel_rfl) (by kernel_rfl) (by kernel_rfl) (fun _ _ _ h => h) (by rfl) hcls ?_ ?_ ?_
          rotate_left 2
          · (intro w hS; go_simp; try with_reducible rfl)
          · (go_simp; try with_reducible rfl)
          refine held_take (i := 2) (v := ?_) (a' := ?_) rfl (by kernel_rfl) (by kernel_rfl) (by kernel_rfl) (fun _ _ _ h => h) (by rfl) hcls ?_ ?_ ?_
          rotate_left 2
          · (intro w hS; go_simp; try with_reducible rfl)
          · (go_simp; try with_reducible rfl)
          refine held_take (i := 3) (v := ?_) (a' := ?_) rfl (by kernel_rfl) (by kernel_rfl) (by kernel_rfl) (fun _ _ _ h => h) (by rfl) hcls ?_ ?_ ?_
          rotate_left 2
          · (intro w hS; go_simp; try with_reducible rfl)
          · (go_simp; try with_reducible rfl)
          refine held_take (i := 4) (v := ?_) (a' := ?_) rfl (by kernel_rfl) (by kernel_rfl) (by kernel_rfl) (fun _ _ _ h => h) (by rfl) hcls ?_ ?_ ?_
          rotate_left 2
          · (intro w hS; have cP2 := (hS.cell (p := ⟨gp', 0, none⟩) (by show gp' < _; omega)).trans cP; go_simp; try with_reducible rfl)
          · (go_simp; try with_reducible rfl)
          refine held_take (i := 5) (v := ?_) (a' := ?_) rfl (by kernel_rfl) (by kernel_rfl) (by kernel_rfl) (fun _ _ _ h => h) (by rfl) hcls ?_ ?_ ?_
          rotate_left 2
          · (intro w hS; go_simp; try with_reducible rfl)
          · (go_simp; try with_reducible rfl)
          refine held_take (i := 6) (v := ?_) (a' := ?_) rfl (by kernel_rfl) (by kernel_rfl) (by kernel_rfl) (fun _ _ _ h => h) (by rfl) hcls ?_ ?_ ?_
          rotate_left 2
          · (intro w hS; go_simp; try with_reducible rfl)
          · (go_simp; try with_reducible rfl)
          refine held_take (i := 7) (v := ?_) (a' := ?_) rfl (by kernel_rfl) (by kernel_rfl) (by kernel_rfl) (fun _ _ _ h => h) (by rfl) hcls ?_ ?_ ?_
          rotate_left 2
          · (intro w hS; go_simp; try with_reducible rfl)
          · (go_simp; try with_reducible rfl)
          refine held_no (i := 8) (a' := ?_) rfl (by kernel_rfl) (by kernel_rfl) (by kernel_rfl) (fun _ _ _ h => h) (by rfl) hcls ?_ ?_
          rotate_left 1
          · (go_simp; try with_reducible rfl)
          refine held_no (i := 9) (a' := ?_) rfl (by kernel_rfl) (by kernel_rfl) (by kernel_rfl) (fun _ _ _ h => h) (by rfl) hcls ?_ ?_
          rotate_left 1
          · (go_simp; try with_reducible rfl)
          refine held_no (i := 10) (a' := ?_) rfl (by kernel_rfl) (by kernel_rfl) (by kernel_rfl) (fun _ _ _ h => h) (by rfl) hcls ?_ ?_
          rotate_left 1
          · (go_simp; try with_reducible rfl)
          refine held_no (i := 11) (a' := ?_) rfl (by kernel_rfl) (by kernel_rfl) (by kernel_rfl) (fun _ _ _ h => h) (by rfl) hcls ?_ ?_
          rotate_left 1
          · (go_simp; try with_reducible rfl)
          refine held_no (i := 12) (a' := ?_) rfl (by kernel_rfl) (by kernel_rfl) (by kernel_rfl) (fun _ _ _ h => h) (by rfl) hcls ?_ ?_
          rotate_left 1
          · (go_simp; try with_reducible rfl)
          refine held_no (i := 13) (a' := ?_) rfl (by kernel_rfl) (by kernel_rfl) (by kernel_rfl) (fun _ _ _ h => h) (by rfl) hcls ?_ ?_
          rotate_left 1
          · (go_simp; try with_reducible rfl)
          refine held_no (i := 14) (a' := ?_) rfl (by kernel_rfl) (by kernel_rfl) (by kernel_rfl) (fun _ _ _ h => h) (by rfl) hcls ?_ ?_
          rotate_left 1
          · (go_simp; try with_reducible rfl)
          refine held_no (i := 15) (a' := ?_) rfl (by kernel_rfl) (by kernel_rfl) (by kernel_rfl) (fun _ _ _ h => h) (by rfl) hcls ?_ ?_
          rotate_left 1
          · (go_simp; try with_reducible rfl)
          refine held_no (i := 16) (a' := ?_) rfl (by kernel_rfl) (by kernel_rfl) (by kernel_rfl) (fun _ _ _ h => h) (by rfl) hcls ?_ ?_
          rotate_left 1
          · (go_simp; try with_reducible rfl)
          refine held_no (i := 17) (a' := ?_) rfl (by kernel_rfl) (by kernel_rfl) (by kernel_rfl) (fun _ _ _ h => h) (by rfl) hcls ?_ ?_
          rotate_left 1
          · (go_simp; try with_reducible rfl)
          refine held_no (i := 18) (a' := ?_) rfl (by kernel_rfl) (by kernel_rfl) (by kernel_rfl) (fun _ _ _ h => h) (by rfl) hcls ?_ ?_
          rotate_left 1
          · (go_simp; try with_reducible rfl)
          refine held_no (i := 19) (a' := ?_) rfl (by kernel_rfl) (by kernel_rfl) (by kernel_rfl) (fun _ _ _ h => h) (by rfl) hcls ?_ ?_
          rotate_left 1
          · (go_simp; try with_reducible rfl)
          refine held_take (i := 20) (v := ?_) (a' := ?_) rfl (by kernel_rfl) (by kernel_rfl) (by kernel_rfl) (fun _ _ _ h => h) (by rfl) hcls ?_ ?_ ?_
          rotate_left 2
          · (intro w hS; go_simp; try with_reducible rfl)
          · (go_simp; try with_reducible rfl)
          refine held_take (i := 21) (v := ?_) (a' := ?_) rfl (by kernel_rfl) (by kernel_rfl) (by kernel_rfl) (fun _ _ _ h => h) (by rfl) hcls ?_ ?_ ?_
          rotate_left 2
          · (intro w hS; go_simp; try with_reducible rfl)
          · (go_simp; try with_reducible rfl)
          refine wpAnyH_done (by kernel_rfl) ?_ _
          go_wp2_with fail
          go_meet
          case rel => exact ⟨rfl, Lib.hid (HB.out.trans (hcls.mono HB.out.size))⟩
        case rest =>
          obtain ⟨rfl, HBX⟩ := hcut
          rcases HO.out with ⟨ho, hz, hm⟩ | ⟨j, ho, hz⟩
          · subst ho hz hm
            have HRR := Lib.hid (show R = false by rw [HR.out]; exact HG.out.fail (by rw [← HM.out]; exact hkm) HNO.out)
            go_wp2_with fail
            go_ret
            rw [HRR.out]
            exact ⟨rfl, HB1.out.trans (HBX.out.mono HB1.out.size)⟩
          · subst ho hz
            obtain ⟨hg2, hm2⟩ := HG.out.back (by rw [← HM.out]; exact hkm) HNO.out
            rw [← HM.out] at hm2
            have HG2 := Lib.hid hg2
            have HMS := Lib.hid (greed_back (N := N) (M := M) (i := i) (k := k) (j := j) hm2)
            have hjN : j + 1 ≤ N := by
              obtain ⟨a', u, v, _, h1, _⟩ := HG.out
              have : j < ps.length := by
                apply Classical.byContradiction; intro h
                rw [List.drop_eq_nil_of_le (by omega)] at h1; cases h1
              have := HN.out; omega
            have hz0 : (0 : Int) ≤ (j : Int) := by omega
            clear hg2
            go_wp2_with fail
            go_roundw
            case rel => exact ⟨j + 1, m + 1, some (j, m + 1), j, m + 1, hjN, by omega, by go_num, rfl, by go_num, by go_num, Lib.hid (.inr ⟨j, rfl, rfl⟩), HG2, HBX⟩
            case measure => simp only [intOf]; have := HMS.out; simpa using this
    · have hkI : ¬ (k : Int) < (M : Int) := by omega
      have HLA := Lib.hid (show R = mat Option.isNone pcTakes (ps.drop i) [] by rw [HR.out]; exact HG.out.last (by have := HM.out; omega))
      clear HG HO
      go_wp2_with fail
      obtain ⟨wL, hwL⟩ : ∃ wo : World, wo = wr := ⟨_, rfl⟩
      subst hwL
      go_loopw [6] (fun s6 wr => ∃ i' : Nat, i' ≤ N ∧ s6 = .int .i64 (i' : Int) ∧ Hid (R = mat Option.isNone pcTakes (ps.drop i') []) ∧ wL = wr) (fun s6 wr => N - (intOf s6).toNat)
      case atStart => exact ⟨i, hi, rfl, HLA, rfl⟩
      case round =>
        obtain ⟨i', hi', rfl, HLB, rfl⟩ := hrel
        by_cases hin : i' < N
        · have hiI : (i' : Int) < (N : Int) := by omega
          obtain ⟨b, off, p, v, rfl, hb, hp, hr, c0⟩ := pc_look (HS1.out.below HB.out) HN.out.symm hin
          have hd := drop_cons hp
          rcases pc_val hr with ⟨rfl, rfl⟩ | ⟨az, b2, off2, c2, rfl, rfl, hsz⟩
          · have HLC := Lib.hid (show R = mat Option.isNone pcTakes (ps.drop (i' + 1)) [] by rw [HLB.out, hd, mat_star_nil _ _ rfl])
            clear hp hr hd
            go_wp2_with fail
            go_roundw
            case rel => exact ⟨i' + 1, by omega, by go_num, HLC, trivial⟩
            case measure => simp [intOf]; omega
          · have HRR := Lib.hid (show R = false by rw [HLB.out, hd, mat_sign_nil _ _ rfl])
            have hne : ((i' : Int) == (N : Int)) = false := by simp; omega
            clear hp hr hd hsz
            go_wp2_with fail
            go_ret
            rw [HRR.out]
            exact ⟨rfl, HB1.out.trans (HB.out.mono HB1.out.size)⟩
        · have hiI : ¬ (i' : Int) < (N : Int) := by omega
          have HRR := Lib.hid (show R = true by rw [HLB.out, List.drop_eq_nil_of_le (by have := HN.out; omega)]; simp [mat])
          have heq : ((i' : Int) == (N : Int)) = true := by simp; omega
          go_wp2_with fail
          go_ret
          rw [HRR.out]
          exact ⟨rfl, HB1.out.trans (HB.out.mono HB1.out.size)⟩
theorem pmatch_any (gp : Nat) (ps : List Pc) (l : List UInt8) (w : World) (h : patR.R w no [.pointer (some ⟨gp, 0, none⟩)] ps) (hnl : ps.length ≤ 1000000) (hps : ∀ p ∈ ps, ∀ az, p = some az → az.length ≤ 1000000) (hl : l.length ≤ 1000000) :
    Calls Tryd.prog 12 #[.pointer (some ⟨gp, 0, none⟩), .string (strL l)] w fun e w' => e = .returned (.bool (matchM ps l)) ∧ Below w.heap.size w w' := pmatch_big gp ps l w h hnl hps (by omega)
end Go.Proofs.YtlddnghfjdjglaaDoor
