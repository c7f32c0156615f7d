/- towlineref06.Match: the way by rows. -/
import Derived.Test.YtlddnghfjdjglaaDoorGlobRefName
import Derived.Test.YtlddnghfjdjglaaDoorGlobRefCheck
set_option linter.unusedVariables false
set_option linter.unusedSimpArgs false
namespace Go.Proofs.YtlddnghfjdjglaaDoor
open Go.RowKit

theorem piecesG_get : ∀ {ls : List (List UInt8)} {ps : List Pc} {i : Nat} {x : List UInt8}, piecesG ls = some ps → ls[i]? = some x → ∃ p, ps[i]? = some p ∧ pieceG x = some p
  | [], ps, i, x, h, hx => by simp at hx
  | l :: r, ps, i, x, h, hx => by
    rw [pieces_step] at h
    cases hp : pieceG l with
    | none => rw [hp] at h; cases h
    | some p =>
      rw [hp] at h
      cases hr : piecesG r with
      | none => rw [hr] at h; cases h
      | some q =>
        rw [hr] at h
        injection h with h; subst h
        cases i with
        | zero => simp at hx; subst hx; exact ⟨p, rfl, hp⟩
        | succ i => exact piecesG_get (i := i) hr (by simpa using hx)
theorem parse_pieces {l : List UInt8} {ps : List Pc} (h : parseG l = .ok ps) : l.length ≤ 255 ∧ l ≠ [] ∧ piecesG (namesG l) = some ps := by
  unfold parseG at h
  split at h
  · cases h
  · rename_i hl
    cases hp : piecesG (splitG l) with
    | none => rw [hp] at h; cases h
    | some q =>
      rw [hp] at h
      injection h with h; subst h
      have h0 : l ≠ [] := by rintro rfl; cases hp
      refine ⟨by omega, h0, ?_⟩
      unfold namesG; rw [if_neg h0]; exact hp
theorem names_mem {l p : List UInt8} (h : p ∈ namesG l) : p.length ≤ l.length := by
  unfold namesG at h
  split at h
  · cases h
  · exact mem_split h
theorem names_len (l : List UInt8) : (namesG l).length ≤ l.length + 1 := by
  unfold namesG
  split
  · simp
  · rw [splitG_len]
    have := List.count_le_length (a := (47 : UInt8)) (l := l); omega

set_option maxRecDepth 100000 in
set_option maxHeartbeats 4000000 in
theorem refMatch_any (l s : List UInt8) (ps : List Pc) (w : World) (hp : parseG l = .ok ps) (hs : s.length ≤ 1000000) :
    Calls Tryd.prog 13 #[.string (strL l), .string (strL s)] w fun e w' => e = .returned (.bool (matchM ps s)) ∧ Below w.heap.size w w' := by
  obtain ⟨ns, hns⟩ : ∃ ns, ns = namesG s := ⟨_, rfl⟩
  obtain ⟨R, hR⟩ : ∃ R, R = mat Option.isNone pcTakes ps ns := ⟨_, rfl⟩
  have HR := Lib.hid hR
  rw [show matchM ps s = R from by rw [hR, hns]; rfl]
  obtain ⟨hl255, _, hpp⟩ := parse_pieces hp
  have HS1 := Lib.hid (fun w => refSplit_any l w (by omega))
  have HS2 := Lib.hid (fun w => refSplit_any s w (by omega))
  rw [← hns] at HS2
  obtain ⟨ls, hls⟩ : ∃ ls, ls = namesG l := ⟨_, rfl⟩
  rw [← hls] at HS1 hpp
  have HPP := Lib.hid hpp
  have HNP := Lib.hid (show ps.length = ls.length from (piecesG_mem hpp).1)
  have HLL := Lib.hid (show ∀ x ∈ ls, x.length ≤ 255 from fun x hx => by have := names_mem (hls ▸ hx); omega)
  have HNL := Lib.hid (show ∀ x ∈ ns, x.length ≤ 1000000 from fun x hx => by have := names_mem (hns ▸ hx); omega)
  have HN256 := Lib.hid (show ls.length ≤ 256 by rw [hls]; have := names_len l; omega)
  obtain ⟨M, hM⟩ : ∃ M, M = ns.length := ⟨_, rfl⟩
  have HM := Lib.hid hM
  have hMs : M ≤ 1000001 := by rw [hM, hns]; have := names_len s; omega
  obtain ⟨pq, hpq⟩ : ∃ pq, pq = strL l := ⟨_, rfl⟩
  obtain ⟨q, hq⟩ : ∃ q, q = strL s := ⟨_, rfl⟩
  rw [← hpq] at HS1 ⊢
  rw [← hq] at HS2 ⊢
  clear hR hp hpp hls hns hM hpq hq hs hl255
  go_enter Tryd.func13, Tryd.ntmps13
  go_wp2_with fail
  refine (HS1.out w).mono ?_
  rintro e w0 ⟨⟨A, N, c, rfl, hN, hsl, -, -⟩, hb0⟩
  have HN := Lib.hid hN
  have HSL := Lib.hid hsl
  have HB0 := Lib.hid hb0
  have hN6 : N ≤ 256 := by have := HN256.out; omega
  clear HS1 hN hsl hb0
  go_wp2_with fail
  refine (HS2.out w0).mono ?_
  rintro e w1 ⟨⟨A2, M1, c2, rfl, hM1, hsl2, -, -⟩, hb1⟩
  obtain rfl : M1 = M := by rw [hM1, HM.out]
  have HSN := Lib.hid hsl2
  have HSP := Lib.hid (HSL.out.below hb1)
  have HB1 := Lib.hid (HB0.out.trans (hb1.mono HB0.out.size))
  clear HS2 hM1 hsl2 hb1 HSL HB0
  have hmk := mkRow M1 (by omega)
  obtain ⟨B, hB⟩ : ∃ B, w1.heap.size = B := ⟨_, rfl⟩
  have HBB := Lib.hid hB
  have HK0 := Lib.hid (show Blk (w1.alloc (.cells (madeCells #[.bool false] (M1 + 1)) 4)) B 4 (rowB M1 (fun _ => false)) by
    have := Blk.new w1 4 (madeCells #[.bool false] (M1 + 1))
    rw [← rowB_zero]; rwa [hB] at this)
  have HW0 := Lib.hid (show Below B w1 (w1.alloc (.cells (madeCells #[.bool false] (M1 + 1)) 4)) by rw [← hB]; exact (Below.refl _ _).alloc (Nat.le_refl _) _)
  go_upto_region 4 with fail
  clear hB hmk
  generalize w1.alloc (.cells (madeCells #[.bool false] (M1 + 1)) 4) = w2 at *
  have c0 := (HK0.out.cell 0).trans (rowB_get _ (Nat.zero_le M1))
  have f0 := HK0.out.frozen 0
  have HK1 := Lib.hid (show Blk (w2.setCell ⟨B, 0, none⟩ (.bool true)) B 4 (rowB M1 (fR Option.isNone pcTakes ps ns 0)) by
    have := HK0.out.set_ 0 (.bool true)
    rw [rowB_set] at this
    rwa [rowB_congr (g := fR Option.isNone pcTakes ps ns 0) (fun k hk => fR_zero (by rw [← HM.out]; exact hk))] at this)
  have HW1 := Lib.hid (HW0.out.setCell (p := ⟨B, 0, none⟩) (Nat.le_refl B) (.bool true))
  clear HK0 HW0
  go_wp2_with fail
  go_loopw [7, 8] (fun s7 s8 wr => ∃ (i b7 : Nat), i ≤ N ∧ B ≤ b7 ∧ s7 = .slice (some ⟨b7, 0, none⟩) (M1 + 1) (M1 + 1) ∧ s8 = .int .i64 (i : Int) ∧ Hid (Blk wr b7 4 (rowB M1 (fR Option.isNone pcTakes ps ns i))) ∧ Hid (Below B w1 wr)) (fun s7 s8 wr => N - (intOf s8).toNat)
  case atStart => exact ⟨0, B, Nat.zero_le _, Nat.le_refl _, rfl, rfl, HK1, HW1⟩
  case round =>
    obtain ⟨i, b7, hi, hb7, rfl, rfl, HK, HW⟩ := hrel
    clear HK1 HW1
    by_cases hlt : i < N
    · have hltI : (i : Int) < (N : Int) := by omega
      obtain ⟨ba, off, x, hA, hba, hx, cS⟩ := str_look HSP.out HN.out.symm hlt
      subst hA
      rw [HBB.out] at hba
      obtain ⟨pc, hpc, hpx⟩ := piecesG_get HPP.out hx
      have HA := Lib.hid hpc
      have HPX := Lib.hid hpx
      have HXL := Lib.hid (HLL.out x (List.mem_of_getElem? hx))
      obtain ⟨xq, hxq⟩ : ∃ xq, xq = strL x := ⟨_, rfl⟩
      rw [← hxq] at cS
      have HXQ := Lib.hid hxq
      have HCS := Lib.hid cS
      clear hx hpc hpx cS hxq
      have hmk := mkRow M1 (by omega)
      obtain ⟨b9, hb9⟩ : ∃ b9, wr.heap.size = b9 := ⟨_, rfl⟩
      have HB9 := Lib.hid hb9
      have h79 : b7 < b9 := by have := HK.out.lt; omega
      have HK9 := Lib.hid (show Blk (wr.alloc (.cells (madeCells #[.bool false] (M1 + 1)) 4)) b9 4 (rowB M1 (fP Option.isNone pcTakes ps ns i 0)) by
        have := Blk.new wr 4 (madeCells #[.bool false] (M1 + 1))
        rw [fP_zero, ← rowB_zero]; rwa [hb9] at this)
      have HK7 := Lib.hid (HK.out.alloc (.cells (madeCells #[.bool false] (M1 + 1)) 4))
      have HW9 := Lib.hid (HW.out.alloc (by have := HW.out.size; rw [HBB.out] at this; exact this) (.cells (madeCells #[.bool false] (M1 + 1)) 4))
      go_upto_region 9 with fail
      clear hb9 hmk HK HW
      generalize wr.alloc (.cells (madeCells #[.bool false] (M1 + 1)) 4) = w3 at *
      go_wp2_with fail
      obtain ⟨wL, rfl⟩ : ∃ wo : World, wo = wr := ⟨_, rfl⟩
      go_loopw [10] (fun s10 wr => ∃ k : Nat, k ≤ M1 + 1 ∧ s10 = .int .i64 (k : Int) ∧ Hid (Blk wr b9 4 (rowB M1 (fP Option.isNone pcTakes ps ns i k))) ∧ Hid (Blk wr b7 4 (rowB M1 (fR Option.isNone pcTakes ps ns i))) ∧ Hid (Below B w1 wr)) (fun s10 wr => M1 + 1 - (intOf s10).toNat)
      case atStart => exact ⟨0, Nat.zero_le _, rfl, HK9, HK7, HW9⟩
      case round =>
        obtain ⟨k, hk, rfl, HKN, HKR, HWN⟩ := hrel
        clear HK9 HK7 HW9
        by_cases hkM : k ≤ M1
        · have hkI : (k : Int) ≤ (M1 : Int) := by omega
          have hkM1 : k < M1 + 1 := by omega
          have hkM2 : (k : Int) < (M1 : Int) + 1 := by omega
          have hkMs : k ≤ ns.length := by have := HM.out; omega
          obtain ⟨V, hV⟩ : ∃ V, V = fR Option.isNone pcTakes ps ns (i + 1) k := ⟨_, rfl⟩
          obtain ⟨V0, hV0⟩ : ∃ V0, V0 = fP Option.isNone pcTakes ps ns i k k := ⟨_, rfl⟩
          have cN : wr.cell? ⟨b9, k, none⟩ = some (.bool V0) := by rw [hV0]; exact (HKN.out.cell k).trans (rowB_get _ hkM)
          have fN := HKN.out.frozen k
          have HKN2 := Lib.hid (show Blk (wr.setCell ⟨b9, k, none⟩ (.bool V)) b9 4 (rowB M1 (fP Option.isNone pcTakes ps ns i (k + 1))) by
            have := HKN.out.set_ k (.bool V)
            rw [rowB_set] at this
            rwa [← fP_step, ← hV])
          have HKR2 := Lib.hid (HKR.out.other (g' := b9) (by omega) k (.bool V))
          have HWN2 := Lib.hid (HWN.out.setCell (p := ⟨b9, k, none⟩) (by show B ≤ b9; omega) (.bool V))
          have cS : wr.cell? ⟨ba, off + i, none⟩ = some (.string xq) := (HWN.out.cell (p := ⟨ba, off + i, none⟩) hba).trans HCS.out
          have HV := Lib.hid hV
          clear hV hV0
          cases hst : pc.isNone with
          | true =>
            have hxs : (xq.toList == [42, 42]) = true := by
              have hx42 : x = [42, 42] := by
                have h1 := HPX.out
                cases pc with
                | some p => cases hst
                | none =>
                  unfold pieceG at h1
                  split at h1
                  · assumption
                  · split at h1
                    · cases h1
                    · cases ha : atomsL [] x with
                      | none => rw [ha] at h1; cases h1
                      | some q => rw [ha] at h1; cases h1
              rw [HXQ.out, hx42, ByteArray.toList_eq]; rfl
            have HVV := Lib.hid (show V = _ from HV.out.trans (fR_star HA.out hst hkMs))
            obtain ⟨V1, hV1⟩ : ∃ V1, V1 = fR Option.isNone pcTakes ps ns i k := ⟨_, rfl⟩
            have c7 : wr.cell? ⟨b7, k, none⟩ = some (.bool V1) := by rw [hV1]; exact (HKR.out.cell k).trans (rowB_get _ hkM)
            rw [← hV1] at HVV
            clear hst hV1
            cases V1 with
            | true =>
              obtain rfl : V = true := HVV.out.trans (by simp)
              clear HKN HKR HWN HVV HV
              go_wp2_with fail
              go_roundw
              case rel => exact ⟨k + 1, by omega, by go_num, HKN2, HKR2, HWN2⟩
              case measure => simp [intOf]; omega
            | false =>
              by_cases hk0 : k = 0
              · subst hk0
                obtain rfl : V = false := HVV.out.trans (by simp)
                clear HKN HKR HWN HVV HV
                go_wp2_with fail
                go_roundw
                case rel => exact ⟨1, by omega, by go_num, HKN2, HKR2, HWN2⟩
                case measure => simp [intOf]
              · have hk0I : (0 : Int) < (k : Int) := by omega
                have hk1 : k - 1 < M1 + 1 := by omega
                have hk1I : (k : Int) - 1 < (M1 : Int) + 1 := by omega
                have hk2I : (0 : Int) ≤ (k : Int) - 1 := by omega
                have hk3I : ((k : Int) - 1).toNat = k - 1 := by omega
                obtain ⟨V2, hV2⟩ : ∃ V2, V2 = fR Option.isNone pcTakes ps ns (i + 1) (k - 1) := ⟨_, rfl⟩
                have c9 : wr.cell? ⟨b9, k - 1, none⟩ = some (.bool V2) := by
                  rw [hV2, ← fP_prev (by omega)]; exact (HKN.out.cell (k - 1)).trans (rowB_get _ (by omega))
                rw [← hV2] at HVV
                obtain rfl : V = V2 := HVV.out.trans (by simp; omega)
                clear HKN HKR HWN HVV HV hV2
                go_wp2_with fail
                go_roundw
                case rel => exact ⟨k + 1, by omega, by go_num, HKN2, HKR2, HWN2⟩
                case measure => simp [intOf]; omega
          | false =>
            obtain ⟨az, rfl⟩ : ∃ az, pc = some az := by
              cases pc with
              | none => cases hst
              | some az => exact ⟨az, rfl⟩
            have hx42 : x ≠ [42, 42] := by
              rintro rfl
              have h1 := HPX.out
              cases h1
            have hxs : (xq.toList == [42, 42]) = false := by
              rw [HXQ.out, ByteArray.toList_eq]; simpa [strL] using hx42
            have HATM := Lib.hid (show atomsL [] x = some az by
              have h1 := HPX.out
              unfold pieceG at h1
              rw [if_neg hx42] at h1
              split at h1
              · cases h1
              · cases ha : atomsL [] x with
                | none => rw [ha] at h1; cases h1
                | some q => rw [ha] at h1; simpa using h1)
            clear hx42
            have HVV := Lib.hid (show V = _ from HV.out.trans (fR_sign HA.out hst hkMs))
            have hwg := HKR.out.lt
            have hw9 := HKN.out.lt
            have cN' : wr.drew.cell? ⟨b9, k, none⟩ = some (.bool V0) := cN
            have fN' : wr.drew.frozen? ⟨b9, k, none⟩ = false := fN
            have HKN3 := Lib.hid (show Blk (wr.drew.setCell ⟨b9, k, none⟩ (.bool V)) b9 4 (rowB M1 (fP Option.isNone pcTakes ps ns i (k + 1))) from HKN2.out)
            have HKR3 := Lib.hid (show Blk (wr.drew.setCell ⟨b9, k, none⟩ (.bool V)) b7 4 (rowB M1 (fR Option.isNone pcTakes ps ns i)) from HKR2.out)
            have HWN3 := Lib.hid (show Below B w1 (wr.drew.setCell ⟨b9, k, none⟩ (.bool V)) from (HWN.out.trans (Same.below ⟨1, rfl⟩ _)).setCell (p := ⟨b9, k, none⟩) (by show B ≤ b9; omega) (.bool V))
            clear hst HKN2 HKR2 HWN2
            by_cases hk0 : k = 0
            · subst hk0
              obtain rfl : V = false := HVV.out.trans (by simp)
              clear HKN HKR HWN HVV HV
              go_upto_region 14 with fail
              refine wp_region_held (S := fun _ => True) (by kernel_rfl) ?_
              change wpAnyH _ _ _ _ _ _ _ _ (World.drew _)
              clear cN fN; generalize World.drew wr = wd at *
              refine held_take (i := 0) (v := ?_) (a' := ?_) rfl (by kernel_rfl) (by kernel_rfl) (by kernel_rfl) (fun _ _ _ h => h) (by rfl) trivial ?_ ?_ ?_
              rotate_left 2
              · (intro w hS; go_simp; try with_reducible rfl)
              · (go_simp; try with_reducible rfl)
              refine held_take (i := 1) (v := ?_) (a' := ?_) rfl (by kernel_rfl) (by kernel_rfl) (by kernel_rfl) (fun _ _ _ h => h) (by rfl) trivial ?_ ?_ ?_
              rotate_left 2
              · (intro w hS; go_simp; try with_reducible rfl)
              · (go_simp; try with_reducible rfl)
              refine held_take (i := 2) (v := ?_) (a' := ?_) rfl (by kernel_rfl) (by kernel_rfl) (by kernel_rfl) (fun _ _ _ h => h) (by rfl) trivial ?_ ?_ ?_
              rotate_left 2
              · (intro w hS; go_simp; try with_reducible rfl)
              · (go_simp; try with_reducible rfl)
              refine held_take (i := 3) (v := ?_) (a' := ?_) rfl (by kernel_rfl) (by kernel_rfl) (by kernel_rfl) (fun _ _ _ h => h) (by rfl) trivial ?_ ?_ ?_
              rotate_left 2
              · (intro w hS; go_simp; try with_reducible rfl)
              · (go_simp; try with_reducible rfl)
              refine held_take (i := 4) (v := ?_) (a' := ?_) rfl (by kernel_rfl) (by kernel_rfl) (by kernel_rfl) (fun _ _ _ h => h) (by rfl) trivial ?_ ?_ ?_
              rotate_left 2
              · (intro w hS; go_simp; try with_reducible rfl)
              · (go_simp; try with_reducible rfl)
              refine held_no (i := 5) (a' := ?_) rfl (by kernel_rfl) (by kernel_rfl) (by kernel_rfl) (fun _ _ _ h => h) (by rfl) trivial ?_ ?_
              rotate_left 1
              · (go_simp; try with_reducible rfl)
              refine held_no (i := 6) (a' := ?_) rfl (by kernel_rfl) (by kernel_rfl) (by kernel_rfl) (fun _ _ _ h => h) (by rfl) trivial ?_ ?_
              rotate_left 1
              · (go_simp; try with_reducible rfl)
              refine held_no (i := 7) (a' := ?_) rfl (by kernel_rfl) (by kernel_rfl) (by kernel_rfl) (fun _ _ _ h => h) (by rfl) trivial ?_ ?_
              rotate_left 1
              · (go_simp; try with_reducible rfl)
              refine held_no (i := 8) (a' := ?_) rfl (by kernel_rfl) (by kernel_rfl) (by kernel_rfl) (fun _ _ _ h => h) (by rfl) trivial ?_ ?_
              rotate_left 1
              · (go_simp; try with_reducible rfl)
              refine held_no (i := 9) (a' := ?_) rfl (by kernel_rfl) (by kernel_rfl) (by kernel_rfl) (fun _ _ _ h => h) (by rfl) trivial ?_ ?_
              rotate_left 1
              · (go_simp; try with_reducible rfl)
              refine held_take (i := 10) (v := ?_) (a' := ?_) rfl (by kernel_rfl) (by kernel_rfl) (by kernel_rfl) (fun _ _ _ h => h) (by rfl) trivial ?_ ?_ ?_
              rotate_left 2
              · (intro w hS; go_simp; try with_reducible rfl)
              · (go_simp; try with_reducible rfl)
              refine held_take (i := 11) (v := ?_) (a' := ?_) rfl (by kernel_rfl) (by kernel_rfl) (by kernel_rfl) (fun _ _ _ h => h) (by rfl) trivial ?_ ?_ ?_
              rotate_left 2
              · (intro w hS; go_simp; try with_reducible rfl)
              · (go_simp; try with_reducible rfl)
              refine held_no (i := 12) (a' := ?_) rfl (by kernel_rfl) (by kernel_rfl) (by kernel_rfl) (fun _ _ _ h => h) (by rfl) trivial ?_ ?_
              rotate_left 1
              · (go_simp; try with_reducible rfl)
              refine held_no (i := 13) (a' := ?_) rfl (by kernel_rfl) (by kernel_rfl) (by kernel_rfl) (fun _ _ _ h => h) (by rfl) trivial ?_ ?_
              rotate_left 1
              · (go_simp; try with_reducible rfl)
              refine held_no (i := 14) (a' := ?_) rfl (by kernel_rfl) (by kernel_rfl) (by kernel_rfl) (fun _ _ _ h => h) (by rfl) trivial ?_ ?_
              rotate_left 1
              · (go_simp; try with_reducible rfl)
              refine held_no (i := 15) (a' := ?_) rfl (by kernel_rfl) (by kernel_rfl) (by kernel_rfl) (fun _ _ _ h => h) (by rfl) trivial ?_ ?_
              rotate_left 1
              · (go_simp; try with_reducible rfl)
              refine held_no (i := 16) (a' := ?_) rfl (by kernel_rfl) (by kernel_rfl) (by kernel_rfl) (fun _ _ _ h => h) (by rfl) trivial ?_ ?_
              rotate_left 1
              · (go_simp; try with_reducible rfl)
              refine held_no (i := 17) (a' := ?_) rfl (by kernel_rfl) (by kernel_rfl) (by kernel_rfl) (fun _ _ _ h => h) (by rfl) trivial ?_ ?_
              rotate_left 1
              · (go_simp; try with_reducible rfl)
              refine held_no (i := 18) (a' := ?_) rfl (by kernel_rfl) (by kernel_rfl) (by kernel_rfl) (fun _ _ _ h => h) (by rfl) trivial ?_ ?_
              rotate_left 1
              · (go_simp; try with_reducible rfl)
              refine held_no (i := 19) (a' := ?_) rfl (by kernel_rfl) (by kernel_rfl) (by kernel_rfl) (fun _ _ _ h => h) (by rfl) trivial ?_ ?_
              rotate_left 1
              · (go_simp; try with_reducible rfl)
              refine held_no (i := 20) (a' := ?_) rfl (by kernel_rfl) (by kernel_rfl) (by kernel_rfl) (fun _ _ _ h => h) (by rfl) trivial ?_ ?_
              rotate_left 1
              · (go_simp; try with_reducible rfl)
              refine held_no (i := 21) (a' := ?_) rfl (by kernel_rfl) (by kernel_rfl) (by kernel_rfl) (fun _ _ _ h => h) (by rfl) trivial ?_ ?_
              rotate_left 1
              · (go_simp; try with_reducible rfl)
              refine held_take (i := 22) (v := ?_) (a' := ?_) rfl (by kernel_rfl) (by kernel_rfl) (by kernel_rfl) (fun _ _ _ h => h) (by rfl) trivial ?_ ?_ ?_
              rotate_left 2
              · (intro w hS; go_simp; try with_reducible rfl)
              · (go_simp; try with_reducible rfl)
              refine held_take (i := 23) (v := ?_) (a' := ?_) rfl (by kernel_rfl) (by kernel_rfl) (by kernel_rfl) (fun _ _ _ h => h) (by rfl) trivial ?_ ?_ ?_
              rotate_left 2
              · (intro w hS; go_simp; try with_reducible rfl)
              · (go_simp; try with_reducible rfl)
              refine held_ready (rs := [24]) (by kernel_rfl) (by simp) ?_
              refine AllHeld.cons rfl (fun KR hKR => ?_) ?_
              · go_simp
                skip
                refine hKR _ _ trivial ?_
                clear hKR KR
                refine wpAnyH_done (by kernel_rfl) ?_ _
                go_wp2_with fail
                go_roundw
                case rel => exact ⟨1, by omega, by go_num, HKN3, HKR3, HWN3⟩
                case measure => simp [intOf]
              exact AllHeld.nil
            · have hk0I : (0 : Int) < (k : Int) := by omega
              have hk1 : k - 1 < M1 + 1 := by omega
              have hk1I : (k : Int) - 1 < (M1 : Int) + 1 := by omega
              have hk2I : (0 : Int) ≤ (k : Int) - 1 := by omega
              have hk3I : ((k : Int) - 1).toNat = k - 1 := by omega
              have hk6 : 0 < k := by omega
              have hk5I : (1 : Int) ≤ (k : Int) := by omega
              have hk4 : IntKind.i64.wrap ((k : Int) - 1) = (k : Int) - 1 := IntWalk.i64_in _ ⟨by omega, by omega⟩
              obtain ⟨V3, hV3⟩ : ∃ V3, V3 = fR Option.isNone pcTakes ps ns i (k - 1) := ⟨_, rfl⟩
              have c7 : wr.drew.cell? ⟨b7, k - 1, none⟩ = some (.bool V3) := by rw [hV3]; exact (HKR.out.cell (k - 1)).trans (rowB_get _ (by omega))
              rw [← hV3] at HVV
              clear hV3
              cases V3 with
              | false =>
                obtain rfl : V = false := HVV.out.trans (by simp)
                have hs1 : (wr.drew.setCell ⟨b9, k, none⟩ (.bool false)).cell? ⟨b7, k - 1, none⟩ = some (.bool false) := (World.cell?_setCell_other _ _ _ _ (fun e => by injection e with e; omega)).trans c7
                clear HKN HKR HWN HVV HV
                go_upto_region 14 with fail
                refine wp_region_held (S := fun w' => w'.cell? ⟨b7, k - 1, none⟩ = some (.bool false)) (by kernel_rfl) ?_
                change wpAnyH _ _ _ _ _ _ _ _ (World.drew _)
                clear cN fN; generalize World.drew wr = wd at *
                refine held_take (i := 0) (v := ?_) (a' := ?_) rfl (by kernel_rfl) (by kernel_rfl) (by kernel_rfl) (fun _ _ _ h => h) (by rfl) c7 ?_ ?_ ?_
                rotate_left 2
                · (intro w hS; go_simp; try with_reducible rfl)
                · (go_simp; try with_reducible rfl)
                refine held_take (i := 1) (v := ?_) (a' := ?_) rfl (by kernel_rfl) (by kernel_rfl) (by kernel_rfl) (fun _ _ _ h => h) (by rfl) c7 ?_ ?_ ?_
                rotate_left 2
                · (intro w hS; go_simp; try with_reducible rfl)
                · (go_simp; try with_reducible rfl)
                refine held_take (i := 2) (v := ?_) (a' := ?_) rfl (by kernel_rfl) (by kernel_rfl) (by kernel_rfl) (fun _ _ _ h => h) (by rfl) c7 ?_ ?_ ?_
                rotate_left 2
                · (intro w hS; go_simp; try with_reducible rfl)
                · (go_simp; try with_reducible rfl)
                refine held_take (i := 3) (v := ?_) (a' := ?_) rfl (by kernel_rfl) (by kernel_rfl) (by kernel_rfl) (fun _ _ _ h => h) (by rfl) c7 ?_ ?_ ?_
                rotate_left 2
                · (intro w hS; go_simp; try with_reducible rfl)
                · (go_simp; try with_reducible rfl)
                refine held_take (i := 4) (v := ?_) (a' := ?_) rfl (by kernel_rfl) (by kernel_rfl) (by kernel_rfl) (fun _ _ _ h => h) (by rfl) c7 ?_ ?_ ?_
                rotate_left 2
                · (intro w hS; go_simp; try with_reducible rfl)
                · (go_simp; try with_reducible rfl)
                refine held_take (i := 5) (v := ?_) (a' := ?_) rfl (by kernel_rfl) (by kernel_rfl) (by kernel_rfl) (fun _ _ _ h => h) (by rfl) c7 ?_ ?_ ?_
                rotate_left 2
                · (intro w hS; go_simp; try with_reducible rfl)
                · (go_simp; try with_reducible rfl)
                refine held_take (i := 6) (v := ?_) (a' := ?_) rfl (by kernel_rfl) (by kernel_rfl) (by kernel_rfl) (fun _ _ _ h => h) (by rfl) c7 ?_ ?_ ?_
                rotate_left 2
                · (intro w hS; go_simp; try with_reducible rfl)
                · (go_simp; try with_reducible rfl)
                refine held_take (i := 7) (v := ?_) (a' := ?_) rfl (by kernel_rfl) (by kernel_rfl) (by kernel_rfl) (fun _ _ _ h => h) (by rfl) c7 ?_ ?_ ?_
                rotate_left 2
                · (intro w hS; have hk4 := hk4; go_simp; try with_reducible rfl)
                · (go_simp; try with_reducible rfl)
                refine held_take (i := 8) (v := ?_) (a' := ?_) rfl (by kernel_rfl) (by kernel_rfl) (by kernel_rfl) (fun _ _ _ h => h) (by rfl) c7 ?_ ?_ ?_
                rotate_left 2
                · (intro w hS; go_simp; try with_reducible rfl)
                · (go_simp; try with_reducible rfl)
                refine held_take (i := 9) (v := ?_) (a' := ?_) rfl (by kernel_rfl) (by kernel_rfl) (by kernel_rfl) (fun _ _ _ h => h) (by rfl) c7 ?_ ?_ ?_
                rotate_left 2
                · (intro w hS; have c77 := hS; go_simp; try with_reducible rfl)
                · (go_simp; try with_reducible rfl)
                refine held_take (i := 10) (v := ?_) (a' := ?_) rfl (by kernel_rfl) (by kernel_rfl) (by kernel_rfl) (fun _ _ _ h => h) (by rfl) c7 ?_ ?_ ?_
                rotate_left 2
                · (intro w hS; go_simp; try with_reducible rfl)
                · (go_simp; try with_reducible rfl)
                refine held_take (i := 11) (v := ?_) (a' := ?_) rfl (by kernel_rfl) (by kernel_rfl) (by kernel_rfl) (fun _ _ _ h => h) (by rfl) c7 ?_ ?_ ?_
                rotate_left 2
                · (intro w hS; go_simp; try with_reducible rfl)
                · (go_simp; try with_reducible rfl)
                refine held_no (i := 12) (a' := ?_) rfl (by kernel_rfl) (by kernel_rfl) (by kernel_rfl) (fun _ _ _ h => h) (by rfl) c7 ?_ ?_
                rotate_left 1
                · (go_simp; try with_reducible rfl)
                refine held_no (i := 13) (a' := ?_) rfl (by kernel_rfl) (by kernel_rfl) (by kernel_rfl) (fun _ _ _ h => h) (by rfl) c7 ?_ ?_
                rotate_left 1
                · (go_simp; try with_reducible rfl)
                refine held_no (i := 14) (a' := ?_) rfl (by kernel_rfl) (by kernel_rfl) (by kernel_rfl) (fun _ _ _ h => h) (by rfl) c7 ?_ ?_
                rotate_left 1
                · (go_simp; try with_reducible rfl)
                refine held_no (i := 15) (a' := ?_) rfl (by kernel_rfl) (by kernel_rfl) (by kernel_rfl) (fun _ _ _ h => h) (by rfl) c7 ?_ ?_
                rotate_left 1
                · (go_simp; try with_reducible rfl)
                refine held_no (i := 16) (a' := ?_) rfl (by kernel_rfl) (by kernel_rfl) (by kernel_rfl) (fun _ _ _ h => h) (by rfl) c7 ?_ ?_
                rotate_left 1
                · (go_simp; try with_reducible rfl)
                refine held_no (i := 17) (a' := ?_) rfl (by kernel_rfl) (by kernel_rfl) (by kernel_rfl) (fun _ _ _ h => h) (by rfl) c7 ?_ ?_
                rotate_left 1
                · (go_simp; try with_reducible rfl)
                refine held_no (i := 18) (a' := ?_) rfl (by kernel_rfl) (by kernel_rfl) (by kernel_rfl) (fun _ _ _ h => h) (by rfl) c7 ?_ ?_
                rotate_left 1
                · (go_simp; try with_reducible rfl)
                refine held_no (i := 19) (a' := ?_) rfl (by kernel_rfl) (by kernel_rfl) (by kernel_rfl) (fun _ _ _ h => h) (by rfl) c7 ?_ ?_
                rotate_left 1
                · (go_simp; try with_reducible rfl)
                refine held_no (i := 20) (a' := ?_) rfl (by kernel_rfl) (by kernel_rfl) (by kernel_rfl) (fun _ _ _ h => h) (by rfl) c7 ?_ ?_
                rotate_left 1
                · (go_simp; try with_reducible rfl)
                refine held_no (i := 21) (a' := ?_) rfl (by kernel_rfl) (by kernel_rfl) (by kernel_rfl) (fun _ _ _ h => h) (by rfl) c7 ?_ ?_
                rotate_left 1
                · (go_simp; try with_reducible rfl)
                refine held_take (i := 22) (v := ?_) (a' := ?_) rfl (by kernel_rfl) (by kernel_rfl) (by kernel_rfl) (fun _ _ _ h => h) (by rfl) c7 ?_ ?_ ?_
                rotate_left 2
                · (intro w hS; go_simp; try with_reducible rfl)
                · (go_simp; try with_reducible rfl)
                refine held_take (i := 23) (v := ?_) (a' := ?_) rfl (by kernel_rfl) (by kernel_rfl) (by kernel_rfl) (fun _ _ _ h => h) (by rfl) c7 ?_ ?_ ?_
                rotate_left 2
                · (intro w hS; go_simp; try with_reducible rfl)
                · (go_simp; try with_reducible rfl)
                refine held_ready (rs := [24]) (by kernel_rfl) (by simp) ?_
                refine AllHeld.cons rfl (fun KR hKR => ?_) ?_
                · go_simp
                  skip
                  refine hKR _ _ hs1 ?_
                  clear hKR KR
                  refine wpAnyH_done (by kernel_rfl) ?_ _
                  go_wp2_with fail
                  go_roundw
                  case rel => exact ⟨k + 1, by omega, by go_num, HKN3, HKR3, HWN3⟩
                  case measure => simp [intOf]; omega
                exact AllHeld.nil
              | true =>
                have hk7 : k - 1 < M1 := by omega
                have hk7I : (k : Int) - 1 < (M1 : Int) := by omega
                obtain ⟨b2, off2, y, hA2, hb2, hy, c2⟩ := str_look HSN.out HM.out.symm hk7
                subst hA2
                rw [HBB.out] at hb2
                obtain ⟨V4, hV4⟩ : ∃ V4, V4 = nameM az y := ⟨_, rfl⟩
                have HNM := Lib.hid (fun w' => refName_any x y az w' HATM.out (by have := HXL.out; omega) (HNL.out y (List.mem_of_getElem? hy)))
                rw [← hV4, ← HXQ.out] at HNM
                obtain ⟨yq, hyq⟩ : ∃ yq, yq = strL y := ⟨_, rfl⟩
                rw [← hyq] at HNM c2
                obtain rfl : V = V4 := HVV.out.trans (by rw [hy, hV4]; simp [hk6]; rfl)
                have hs0 : wr.drew.cell? ⟨b7, k - 1, none⟩ = some (.bool true) ∧ wr.drew.cell? ⟨ba, off + i, none⟩ = some (.string xq) ∧ wr.drew.cell? ⟨b2, off2 + (k - 1), none⟩ = some (.string yq) :=
                  ⟨c7, cS, (HWN.out.cell (p := ⟨b2, off2 + (k - 1), none⟩) hb2).trans c2⟩
                have HKD := Lib.hid (show Blk wr.drew b9 4 (rowB M1 (fP Option.isNone pcTakes ps ns i k)) from HKN.out)
                have HKD7 := Lib.hid (show Blk wr.drew b7 4 (rowB M1 (fR Option.isNone pcTakes ps ns i)) from HKR.out)
                have HWD := Lib.hid (show Below B w1 wr.drew from HWN.out.trans (Same.below ⟨1, rfl⟩ _))
                have hV0' : V0 = fP Option.isNone pcTakes ps ns i k k := by
                  have h1 := (HKN.out.cell k).symm.trans cN
                  rw [rowB_get _ hkM] at h1
                  injection h1 with h1; injection h1 with h1; exact h1.symm
                have HV0 := Lib.hid hV0'
                have hB7 : b7 < wr.drew.heap.size ∧ ba < wr.drew.heap.size ∧ b2 < wr.drew.heap.size ∧ b9 < wr.drew.heap.size := ⟨hwg, (by show ba < wr.heap.size; omega), (by show b2 < wr.heap.size; omega), hw9⟩
                have HVE := Lib.hid (show V = fR Option.isNone pcTakes ps ns (i + 1) k from HV.out)
                clear HKN HKR HWN HVV HV hy hV4 hV0' hyq c7 c2 cN' fN' HKN3 HKR3 HWN3
                go_upto_region 14 with fail
                refine wp_region_held (S := fun w' => w'.cell? ⟨b7, k - 1, none⟩ = some (.bool true) ∧ w'.cell? ⟨ba, off + i, none⟩ = some (.string xq) ∧ w'.cell? ⟨b2, off2 + (k - 1), none⟩ = some (.string yq)) (by kernel_rfl) ?_
                change wpAnyH _ _ _ _ _ _ _ _ (World.drew _)
                clear cN fN cS hwg hw9; generalize World.drew wr = wd at *
                refine held_take (i := 0) (v := ?_) (a' := ?_) rfl (by kernel_rfl) (by kernel_rfl) (by kernel_rfl) (fun _ _ _ h => h) (by rfl) hs0 ?_ ?_ ?_
                rotate_left 2
                · (intro w hS; go_simp; try with_reducible rfl)
                · (go_simp; try with_reducible rfl)
                refine held_take (i := 1) (v := ?_) (a' := ?_) rfl (by kernel_rfl) (by kernel_rfl) (by kernel_rfl) (fun _ _ _ h => h) (by rfl) hs0 ?_ ?_ ?_
                rotate_left 2
                · (intro w hS; go_simp; try with_reducible rfl)
                · (go_simp; try with_reducible rfl)
                refine held_take (i := 2) (v := ?_) (a' := ?_) rfl (by kernel_rfl) (by kernel_rfl) (by kernel_rfl) (fun _ _ _ h => h) (by rfl) hs0 ?_ ?_ ?_
                rotate_left 2
                · (intro w hS; go_simp; try with_reducible rfl)
                · (go_simp; try with_reducible rfl)
                refine held_take (i := 3) (v := ?_) (a' := ?_) rfl (by kernel_rfl) (by kernel_rfl) (by kernel_rfl) (fun _ _ _ h => h) (by rfl) hs0 ?_ ?_ ?_
                rotate_left 2
                · (intro w hS; go_simp; try with_reducible rfl)
                · (go_simp; try with_reducible rfl)
                refine held_take (i := 4) (v := ?_) (a' := ?_) rfl (by kernel_rfl) (by kernel_rfl) (by kernel_rfl) (fun _ _ _ h => h) (by rfl) hs0 ?_ ?_ ?_
                rotate_left 2
                · (intro w hS; go_simp; try with_reducible rfl)
                · (go_simp; try with_reducible rfl)
                refine held_take (i := 5) (v := ?_) (a' := ?_) rfl (by kernel_rfl) (by kernel_rfl) (by kernel_rfl) (fun _ _ _ h => h) (by rfl) hs0 ?_ ?_ ?_
                rotate_left 2
                · (intro w hS; go_simp; try with_reducible rfl)
                · (go_simp; try with_reducible rfl)
                refine held_take (i := 6) (v := ?_) (a' := ?_) rfl (by kernel_rfl) (by kernel_rfl) (by kernel_rfl) (fun _ _ _ h => h) (by rfl) hs0 ?_ ?_ ?_
                rotate_left 2
                · (intro w hS; go_simp; try with_reducible rfl)
                · (go_simp; try with_reducible rfl)
                refine held_take (i := 7) (v := ?_) (a' := ?_) rfl (by kernel_rfl) (by kernel_rfl) (by kernel_rfl) (fun _ _ _ h => h) (by rfl) hs0 ?_ ?_ ?_
                rotate_left 2
                · (intro w hS; go_simp; try with_reducible rfl)
                · (go_simp; try with_reducible rfl)
                refine held_take (i := 8) (v := ?_) (a' := ?_) rfl (by kernel_rfl) (by kernel_rfl) (by kernel_rfl) (fun _ _ _ h => h) (by rfl) hs0 ?_ ?_ ?_
                rotate_left 2
                · (intro w hS; go_simp; try with_reducible rfl)
                · (go_simp; try with_reducible rfl)
                refine held_take (i := 9) (v := ?_) (a' := ?_) rfl (by kernel_rfl) (by kernel_rfl) (by kernel_rfl) (fun _ _ _ h => h) (by rfl) hs0 ?_ ?_ ?_
                rotate_left 2
                · (intro w hS; have c77 := hS.1; go_simp; try with_reducible rfl)
                · (go_simp; try with_reducible rfl)
                refine held_take (i := 10) (v := ?_) (a' := ?_) rfl (by kernel_rfl) (by kernel_rfl) (by kernel_rfl) (fun _ _ _ h => h) (by rfl) hs0 ?_ ?_ ?_
                rotate_left 2
                · (intro w hS; go_simp; try with_reducible rfl)
                · (go_simp; try with_reducible rfl)
                refine held_take (i := 11) (v := ?_) (a' := ?_) rfl (by kernel_rfl) (by kernel_rfl) (by kernel_rfl) (fun _ _ _ h => h) (by rfl) hs0 ?_ ?_ ?_
                rotate_left 2
                · (intro w hS; go_simp; try with_reducible rfl)
                · (go_simp; try with_reducible rfl)
                refine held_take (i := 12) (v := ?_) (a' := ?_) rfl (by kernel_rfl) (by kernel_rfl) (by kernel_rfl) (fun _ _ _ h => h) (by rfl) hs0 ?_ ?_ ?_
                rotate_left 2
                · (intro w hS; go_simp; try with_reducible rfl)
                · (go_simp; try with_reducible rfl)
                refine held_take (i := 13) (v := ?_) (a' := ?_) rfl (by kernel_rfl) (by kernel_rfl) (by kernel_rfl) (fun _ _ _ h => h) (by rfl) hs0 ?_ ?_ ?_
                rotate_left 2
                · (intro w hS; go_simp; try with_reducible rfl)
                · (go_simp; try with_reducible rfl)
                refine held_take (i := 14) (v := ?_) (a' := ?_) rfl (by kernel_rfl) (by kernel_rfl) (by kernel_rfl) (fun _ _ _ h => h) (by rfl) hs0 ?_ ?_ ?_
                rotate_left 2
                · (intro w hS; go_simp; try with_reducible rfl)
                · (go_simp; try with_reducible rfl)
                refine held_take (i := 15) (v := ?_) (a' := ?_) rfl (by kernel_rfl) (by kernel_rfl) (by kernel_rfl) (fun _ _ _ h => h) (by rfl) hs0 ?_ ?_ ?_
                rotate_left 2
                · (intro w hS; have cTT := hS.2.1; go_simp; try with_reducible rfl)
                · (go_simp; try with_reducible rfl)
                refine held_take (i := 16) (v := ?_) (a' := ?_) rfl (by kernel_rfl) (by kernel_rfl) (by kernel_rfl) (fun _ _ _ h => h) (by rfl) hs0 ?_ ?_ ?_
                rotate_left 2
                · (intro w hS; go_simp; try with_reducible rfl)
                · (go_simp; try with_reducible rfl)
                refine held_take (i := 17) (v := ?_) (a' := ?_) rfl (by kernel_rfl) (by kernel_rfl) (by kernel_rfl) (fun _ _ _ h => h) (by rfl) hs0 ?_ ?_ ?_
                rotate_left 2
                · (intro w hS; go_simp; try with_reducible rfl)
                · (go_simp; try with_reducible rfl)
                refine held_take (i := 18) (v := ?_) (a' := ?_) rfl (by kernel_rfl) (by kernel_rfl) (by kernel_rfl) (fun _ _ _ h => h) (by rfl) hs0 ?_ ?_ ?_
                rotate_left 2
                · (intro w hS; go_simp; try with_reducible rfl)
                · (go_simp; try with_reducible rfl)
                refine held_take (i := 19) (v := ?_) (a' := ?_) rfl (by kernel_rfl) (by kernel_rfl) (by kernel_rfl) (fun _ _ _ h => h) (by rfl) hs0 ?_ ?_ ?_
                rotate_left 2
                · (intro w hS; go_simp; try with_reducible rfl)
                · (go_simp; try with_reducible rfl)
                refine held_take (i := 20) (v := ?_) (a' := ?_) rfl (by kernel_rfl) (by kernel_rfl) (by kernel_rfl) (fun _ _ _ h => h) (by rfl) hs0 ?_ ?_ ?_
                rotate_left 2
                · (intro w hS; have cTT := hS.2.2; go_simp; try with_reducible rfl)
                · (go_simp; try with_reducible rfl)
                refine held_ready (rs := [21]) (by kernel_rfl) (by simp) ?_
                refine AllHeld.cons rfl (fun KR hKR => ?_) ?_
                · go_simp
                  refine (HNM.out wd).mono ?_
                  rintro e w5 ⟨rfl, hb5⟩
                  have hs5 : w5.cell? ⟨b7, k - 1, none⟩ = some (.bool true) ∧ w5.cell? ⟨ba, off + i, none⟩ = some (.string xq) ∧ w5.cell? ⟨b2, off2 + (k - 1), none⟩ = some (.string yq) :=
                    ⟨(hb5.cell (p := ⟨b7, k - 1, none⟩) hB7.1).trans hs0.1, (hb5.cell (p := ⟨ba, off + i, none⟩) hB7.2.1).trans hs0.2.1, (hb5.cell (p := ⟨b2, off2 + (k - 1), none⟩) hB7.2.2.1).trans hs0.2.2⟩
                  have HK5 := Lib.hid (HKD.out.below hb5 hB7.2.2.2)
                  have cN5 : w5.cell? ⟨b9, k, none⟩ = some (.bool V0) := by rw [HV0.out]; exact (HK5.out.cell k).trans (rowB_get _ hkM)
                  have fN5 := HK5.out.frozen k
                  have HKN6 := Lib.hid (show Blk (w5.setCell ⟨b9, k, none⟩ (.bool V)) b9 4 (rowB M1 (fP Option.isNone pcTakes ps ns i (k + 1))) by
                    have := HK5.out.set_ k (.bool V)
                    rw [rowB_set] at this
                    rwa [← fP_step, ← HVE.out])
                  have HKR6 := Lib.hid ((HKD7.out.below hb5 hB7.1).other (g' := b9) (by omega) k (.bool V))
                  have HWN6 := Lib.hid ((HWD.out.trans (hb5.mono (by omega))).setCell (p := ⟨b9, k, none⟩) (by show B ≤ b9; omega) (.bool V))
                  have hs6 : (w5.setCell ⟨b9, k, none⟩ (.bool V)).cell? ⟨b7, k - 1, none⟩ = some (.bool true) ∧ (w5.setCell ⟨b9, k, none⟩ (.bool V)).cell? ⟨ba, off + i, none⟩ = some (.string xq) ∧ (w5.setCell ⟨b9, k, none⟩ (.bool V)).cell? ⟨b2, off2 + (k - 1), none⟩ = some (.string yq) :=
                    ⟨(World.cell?_setCell_other _ _ _ _ (fun e => by injection e with e; omega)).trans hs5.1, (World.cell?_setCell_other _ _ _ _ (fun e => by injection e with e; omega)).trans hs5.2.1, (World.cell?_setCell_other _ _ _ _ (fun e => by injection e with e; omega)).trans hs5.2.2⟩
                  clear hb5 HK5
                  refine hKR _ _ hs5 ?_
                  clear hKR KR
                  refine held_take (i := 22) (v := ?_) (a' := ?_) rfl (by kernel_rfl) (by kernel_rfl) (by kernel_rfl) (fun _ _ _ h => h) (by rfl) hs5 ?_ ?_ ?_
                  rotate_left 2
                  · (intro w hS; go_simp; try with_reducible rfl)
                  · (go_simp; try with_reducible rfl)
                  refine held_take (i := 23) (v := ?_) (a' := ?_) rfl (by kernel_rfl) (by kernel_rfl) (by kernel_rfl) (fun _ _ _ h => h) (by rfl) hs5 ?_ ?_ ?_
                  rotate_left 2
                  · (intro w hS; go_simp; try with_reducible rfl)
                  · (go_simp; try with_reducible rfl)
                  refine held_ready (rs := [24]) (by kernel_rfl) (by simp) ?_
                  refine AllHeld.cons rfl (fun KR hKR => ?_) ?_
                  · go_simp
                    skip
                    refine hKR _ _ hs6 ?_
                    clear hKR KR
                    refine wpAnyH_done (by kernel_rfl) ?_ _
                    go_wp2_with fail
                    go_roundw
                    case rel => exact ⟨k + 1, by omega, by go_num, HKN6, HKR6, HWN6⟩
                    case measure => simp [intOf]; omega
                  exact AllHeld.nil
                exact AllHeld.nil
        · have hkI : ¬ (k : Int) ≤ (M1 : Int) := by omega
          obtain rfl : k = M1 + 1 := by omega
          have HKE := Lib.hid (show Blk wr b9 4 (rowB M1 (fR Option.isNone pcTakes ps ns (i + 1))) by
            rw [← rowB_congr (f := fP Option.isNone pcTakes ps ns i (M1 + 1)) (fun c hc => fP_end hc)]; exact HKN.out)
          clear HKN HKR
          go_wp2_with fail
          go_roundw
          case rel => exact ⟨i + 1, b9, by omega, by omega, rfl, by go_num, HKE, HWN⟩
          case measure => simp [intOf]; omega
    · have hltI : ¬ (i : Int) < (N : Int) := by omega
      have cE : wr.cell? ⟨b7, M1, none⟩ = some (.bool R) := by
        rw [(HK.out.cell M1).trans (rowB_get _ (Nat.le_refl M1)), HM.out, fR_end (by rw [HNP.out, ← HN.out]; omega), HR.out]
      have hMM : M1 < M1 + 1 := by omega
      have hMI : (M1 : Int) < (M1 : Int) + 1 := by omega
      clear HK
      go_wp2_with fail
      go_ret
      exact ⟨rfl, HB1.out.trans (HW.out.mono (by rw [← HBB.out]; exact HB1.out.size))⟩
end Go.Proofs.YtlddnghfjdjglaaDoor
