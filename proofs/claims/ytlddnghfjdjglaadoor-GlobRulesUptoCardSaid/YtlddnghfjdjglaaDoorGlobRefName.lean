/- towlineref06.Name: the way by rows. -/
import Derived.Test.YtlddnghfjdjglaaDoorGlobRow
import Derived.Test.YtlddnghfjdjglaaDoorGlobRefAtoms
import Derived.Test.YtlddnghfjdjglaaDoorRegionLate
import Derived.Test.YtlddnghfjdjglaaDoorGlobRules
set_option linter.unusedVariables false
set_option linter.unusedSimpArgs false
namespace Go.Proofs.YtlddnghfjdjglaaDoor
open Go.RowKit

/-- a sign of a row, as the reference keeps it -/
theorem tab_look {w : World} {av : Av} {A : Option Addr} {l : List Atm} {n i : Nat} (h : SlOf ratmR w av A l) (hl : l.length = n) (hi : i < n) :
    ∃ b off a, A = some ⟨b, off, none⟩ ∧ b < w.heap.size ∧ l[i]? = some a ∧ w.cell? ⟨b, off + i * 257, none⟩ = some (.bool a.star) ∧ ∀ x : UInt8, w.cell? ⟨b, off + i * 257 + 1 + x.toNat, none⟩ = some (.bool (a.takes x)) := by
  obtain ⟨b, off, cs, a, e, hb, hx, hr, hc⟩ := h.at hl hi
  have hr : cs = (celN a.star (tabA a)).toList := hr
  subst hr
  rw [Array.toArray_toList] at hc
  refine ⟨b, off, a, e, hb, hx, hc 0 _ (celN_get0 _ _), fun x => ?_⟩
  have h1 := hc (1 + x.toNat) _ (celN_get a.star (tabA a) x.toNat_lt)
  have h2 : off + i * 257 + (1 + x.toNat) = off + i * 257 + 1 + x.toNat := by omega
  have h3 : tabA a x.toNat = a.takes x := by unfold tabA; congr 1; exact UInt8.ofNat_toNat
  rw [h3] at h1
  rw [← h2]; exact h1

set_option maxRecDepth 100000 in
set_option maxHeartbeats 4000000 in
theorem refName_any (p s : List UInt8) (az : List Atm) (w : World) (hat : atomsL [] p = some az) (hp : p.length ≤ 1000000) (hs : s.length ≤ 1000000) :
    Calls Tryd.prog 31 #[.string (strL p), .string (strL s)] w fun e w' => e = .returned (.bool (nameM az s)) ∧ Below w.heap.size w w' := by
  obtain ⟨R, hR⟩ : ∃ R, R = mat Atm.star Atm.takes az s := ⟨_, rfl⟩
  have HR := Lib.hid hR
  rw [show nameM az s = R from hR.symm]
  have HAT := Lib.hid (show Calls Tryd.prog 28 #[.string (strL p)] w (AtmPost w p (some az)) by rw [← hat]; exact refAtoms_any p w hp)
  have HNL := Lib.hid (show az.length ≤ 1000000 by
    have := atomsL_le _ (Nat.le_refl _) hat
    simp at this; omega)
  obtain ⟨pq, hpq⟩ : ∃ pq, pq = strL p := ⟨_, rfl⟩
  rw [← hpq] at HAT ⊢
  obtain ⟨M, hM⟩ : ∃ M, M = s.length := ⟨_, rfl⟩
  have HM := Lib.hid hM
  rw [← hM] at hs
  obtain ⟨q, hq⟩ : ∃ q, q = strL s := ⟨_, rfl⟩
  rw [← hq]
  have hqM : q.size = M := by rw [hq, strL_size, hM]
  have HQ := Lib.hid hq
  clear hR hat hp hpq hM hq
  go_enter Tryd.func31, Tryd.ntmps31
  go_wp2_with fail
  refine HAT.out.mono ?_
  rintro e w1 ⟨hb1, A, N, c, rfl, hN, hNc, hcm, hsl⟩
  have HB1 := Lib.hid hb1
  have HN := Lib.hid hN
  have HS := Lib.hid hsl
  have hN6 : N ≤ 1000000 := by have := HNL.out; omega
  clear HAT hb1 hN hsl hNc hcm
  have hmk := mkRow M (by omega)
  obtain ⟨B, hB⟩ : ∃ B, w1.heap.size = B := ⟨_, rfl⟩
  have HBB := Lib.hid hB
  have HK0 := Lib.hid (show Blk (w1.alloc (.cells (madeCells #[.bool false] (M + 1)) 4)) B 4 (rowB M (fun _ => false)) by
    have := Blk.new w1 4 (madeCells #[.bool false] (M + 1))
    rw [← rowB_zero]; rwa [hB] at this)
  have HW0 := Lib.hid (show Below B w1 (w1.alloc (.cells (madeCells #[.bool false] (M + 1)) 4)) by rw [← hB]; exact (Below.refl _ _).alloc (Nat.le_refl _) _)
  go_upto_region 3 with fail
  clear hB hmk
  generalize w1.alloc (.cells (madeCells #[.bool false] (M + 1)) 4) = w2 at *
  have c0 := (HK0.out.cell 0).trans (rowB_get _ (Nat.zero_le M))
  have f0 := HK0.out.frozen 0
  have HK1 := Lib.hid (show Blk (w2.setCell ⟨B, 0, none⟩ (.bool true)) B 4 (rowB M (fR Atm.star Atm.takes az s 0)) by
    have := HK0.out.set_ 0 (.bool true)
    rw [rowB_set] at this
    rwa [rowB_congr (g := fR Atm.star Atm.takes az s 0) (fun k hk => fR_zero (by rw [← HM.out]; exact hk))] at this)
  have HW1 := Lib.hid (HW0.out.setCell (p := ⟨B, 0, none⟩) (Nat.le_refl B) (.bool true))
  clear HK0 HW0
  go_wp2_with fail
  go_loopw [7, 8] (fun s7 s8 wr => ∃ (i b7 : Nat), i ≤ N ∧ B ≤ b7 ∧ s7 = .slice (some ⟨b7, 0, none⟩) (M + 1) (M + 1) ∧ s8 = .int .i64 (i : Int) ∧ Hid (Blk wr b7 4 (rowB M (fR Atm.star Atm.takes az s i))) ∧ Hid (Below B w1 wr)) (fun s7 s8 wr => N - (intOf s8).toNat)
  case atStart => exact ⟨0, B, Nat.zero_le _, Nat.le_refl _, rfl, rfl, HK1, HW1⟩
  case round =>
    obtain ⟨i, b7, hi, hb7, rfl, rfl, HK, HW⟩ := hrel
    clear HK1 HW1
    by_cases hlt : i < N
    · have hltI : (i : Int) < (N : Int) := by omega
      obtain ⟨ba, off, a, hA, hba, ha, cS, cT⟩ := tab_look HS.out HN.out.symm hlt
      subst hA
      rw [HBB.out] at hba
      have HA := Lib.hid ha
      have HCS := Lib.hid cS
      have HCT := Lib.hid cT
      clear ha cS cT
      have hmk := mkRow M (by omega)
      obtain ⟨b9, hb9⟩ : ∃ b9, wr.heap.size = b9 := ⟨_, rfl⟩
      have HB9 := Lib.hid hb9
      have h79 : b7 < b9 := by have := HK.out.lt; omega
      have HK9 := Lib.hid (show Blk (wr.alloc (.cells (madeCells #[.bool false] (M + 1)) 4)) b9 4 (rowB M (fP Atm.star Atm.takes az s i 0)) by
        have := Blk.new wr 4 (madeCells #[.bool false] (M + 1))
        rw [fP_zero, ← rowB_zero]; rwa [hb9] at this)
      have HK7 := Lib.hid (HK.out.alloc (.cells (madeCells #[.bool false] (M + 1)) 4))
      have HW9 := Lib.hid (HW.out.alloc (by have := HW.out.size; rw [HBB.out] at this; exact this) (.cells (madeCells #[.bool false] (M + 1)) 4))
      go_upto_region 8 with fail
      clear hb9 hmk HK HW
      generalize wr.alloc (.cells (madeCells #[.bool false] (M + 1)) 4) = w3 at *
      go_wp2_with fail
      obtain ⟨wL, rfl⟩ : ∃ wo : World, wo = wr := ⟨_, rfl⟩
      go_loopw [10] (fun s10 wr => ∃ k : Nat, k ≤ M + 1 ∧ s10 = .int .i64 (k : Int) ∧ Hid (Blk wr b9 4 (rowB M (fP Atm.star Atm.takes az s i k))) ∧ Hid (Blk wr b7 4 (rowB M (fR Atm.star Atm.takes az s i))) ∧ Hid (Below B w1 wr)) (fun s10 wr => M + 1 - (intOf s10).toNat)
      case atStart => exact ⟨0, Nat.zero_le _, rfl, HK9, HK7, HW9⟩
      case round =>
        obtain ⟨k, hk, rfl, HKN, HKR, HWN⟩ := hrel
        clear HK9 HK7 HW9
        by_cases hkM : k ≤ M
        · have hkI : (k : Int) ≤ (M : Int) := by omega
          have hkM1 : k < M + 1 := by omega
          have hkM2 : (k : Int) < (M : Int) + 1 := by omega
          have hkMs : k ≤ s.length := by have := HM.out; omega
          obtain ⟨V, hV⟩ : ∃ V, V = fR Atm.star Atm.takes az s (i + 1) k := ⟨_, rfl⟩
          obtain ⟨V0, hV0⟩ : ∃ V0, V0 = fP Atm.star Atm.takes az s i k k := ⟨_, rfl⟩
          have cN : wr.cell? ⟨b9, k, none⟩ = some (.bool V0) := by rw [hV0]; exact (HKN.out.cell k).trans (rowB_get _ hkM)
          have fN := HKN.out.frozen k
          have HKN2 := Lib.hid (show Blk (wr.setCell ⟨b9, k, none⟩ (.bool V)) b9 4 (rowB M (fP Atm.star Atm.takes az s i (k + 1))) by
            have := HKN.out.set_ k (.bool V)
            rw [rowB_set] at this
            rwa [← fP_step, ← hV])
          have HKR2 := Lib.hid (HKR.out.other (g' := b9) (by omega) k (.bool V))
          have HWN2 := Lib.hid (HWN.out.setCell (p := ⟨b9, k, none⟩) (by show B ≤ b9; omega) (.bool V))
          have cS : wr.cell? ⟨ba, off + i * 257, none⟩ = some (.bool a.star) := (HWN.out.cell (p := ⟨ba, off + i * 257, none⟩) hba).trans HCS.out
          have HV := Lib.hid hV
          clear hV hV0
          cases hst : a.star with
          | true =>
            rw [hst] at cS
            have HVV := Lib.hid (show V = _ from HV.out.trans (fR_star HA.out hst hkMs))
            obtain ⟨V1, hV1⟩ : ∃ V1, V1 = fR Atm.star Atm.takes az s i k := ⟨_, rfl⟩
            have c7 : wr.cell? ⟨b7, k, none⟩ = some (.bool V1) := by rw [hV1]; exact (HKR.out.cell k).trans (rowB_get _ hkM)
            rw [← hV1] at HVV
            clear hst hV1
            cases V1 with
            | true =>
              obtain rfl : V = true := HVV.out.trans (by simp)
              clear HKN HKR HWN HVV HV
              go_wp2_with fail
              go_roundw
              case rel => exact ⟨k + 1, by omega, by go_num, HKN2, HKR2, HWN2⟩
              case measure => simp [intOf]; omega
            | false =>
              by_cases hk0 : k = 0
              · subst hk0
                obtain rfl : V = false := HVV.out.trans (by simp)
                clear HKN HKR HWN HVV HV
                go_wp2_with fail
                go_roundw
                case rel => exact ⟨1, by omega, by go_num, HKN2, HKR2, HWN2⟩
                case measure => simp [intOf]
              · have hk0I : (0 : Int) < (k : Int) := by omega
                have hk1 : k - 1 < M + 1 := by omega
                have hk1I : (k : Int) - 1 < (M : Int) + 1 := by omega
                have hk2I : (0 : Int) ≤ (k : Int) - 1 := by omega
                have hk3I : ((k : Int) - 1).toNat = k - 1 := by omega
                obtain ⟨V2, hV2⟩ : ∃ V2, V2 = fR Atm.star Atm.takes az s (i + 1) (k - 1) := ⟨_, rfl⟩
                have c9 : wr.cell? ⟨b9, k - 1, none⟩ = some (.bool V2) := by
                  rw [hV2, ← fP_prev (by omega)]; exact (HKN.out.cell (k - 1)).trans (rowB_get _ (by omega))
                rw [← hV2] at HVV
                obtain rfl : V = V2 := HVV.out.trans (by simp; omega)
                clear HKN HKR HWN HVV HV hV2
                go_wp2_with fail
                go_roundw
                case rel => exact ⟨k + 1, by omega, by go_num, HKN2, HKR2, HWN2⟩
                case measure => simp [intOf]; omega
          | false =>
            rw [hst] at cS
            have HVV := Lib.hid (show V = _ from HV.out.trans (fR_sign HA.out hst hkMs))
            have hwg := HKR.out.lt
            have hw9 := HKN.out.lt
            have cN' : wr.drew.cell? ⟨b9, k, none⟩ = some (.bool V0) := cN
            have fN' : wr.drew.frozen? ⟨b9, k, none⟩ = false := fN
            have HKN3 := Lib.hid (show Blk (wr.drew.setCell ⟨b9, k, none⟩ (.bool V)) b9 4 (rowB M (fP Atm.star Atm.takes az s i (k + 1))) from HKN2.out)
            have HKR3 := Lib.hid (show Blk (wr.drew.setCell ⟨b9, k, none⟩ (.bool V)) b7 4 (rowB M (fR Atm.star Atm.takes az s i)) from HKR2.out)
            have HWN3 := Lib.hid (show Below B w1 (wr.drew.setCell ⟨b9, k, none⟩ (.bool V)) from (HWN.out.trans (Same.below ⟨1, rfl⟩ _)).setCell (p := ⟨b9, k, none⟩) (by show B ≤ b9; omega) (.bool V))
            clear hst HKN2 HKR2 HWN2
            by_cases hk0 : k = 0
            · subst hk0
              obtain rfl : V = false := HVV.out.trans (by simp)
              clear HKN HKR HWN HVV HV
              go_upto_region 13 with fail
              refine wp_region_held (S := fun _ => True) (by kernel_rfl) ?_
              change wpAnyH _ _ _ _ _ _ _ _ (World.drew _)
              clear cN fN; generalize World.drew wr = wd at *
              refine held_take (i := 0) (v := ?_) (a' := ?_) rfl (by kernel_rfl) (by kernel_rfl) (by kernel_rfl) (fun _ _ _ h => h) (by rfl) trivial ?_ ?_ ?_
              rotate_left 2
              · (intro w hS; go_simp; try with_reducible rfl)
              · (go_simp; try with_reducible rfl)
              refine held_take (i := 1) (v := ?_) (a' := ?_) rfl (by kernel_rfl) (by kernel_rfl) (by kernel_rfl) (fun _ _ _ h => h) (by rfl) trivial ?_ ?_ ?_
              rotate_left 2
              · (intro w hS; go_simp; try with_reducible rfl)
              · (go_simp; try with_reducible rfl)
              refine held_take (i := 2) (v := ?_) (a' := ?_) rfl (by kernel_rfl) (by kernel_rfl) (by kernel_rfl) (fun _ _ _ h => h) (by rfl) trivial ?_ ?_ ?_
              rotate_left 2
              · (intro w hS; go_simp; try with_reducible rfl)
              · (go_simp; try with_reducible rfl)
              refine held_take (i := 3) (v := ?_) (a' := ?_) rfl (by kernel_rfl) (by kernel_rfl) (by kernel_rfl) (fun _ _ _ h => h) (by rfl) trivial ?_ ?_ ?_
              rotate_left 2
              · (intro w hS; go_simp; try with_reducible rfl)
              · (go_simp; try with_reducible rfl)
              refine held_take (i := 4) (v := ?_) (a' := ?_) rfl (by kernel_rfl) (by kernel_rfl) (by kernel_rfl) (fun _ _ _ h => h) (by rfl) trivial ?_ ?_ ?_
              rotate_left 2
              · (intro w hS; go_simp; try with_reducible rfl)
              · (go_simp; try with_reducible rfl)
              refine held_no (i := 5) (a' := ?_) rfl (by kernel_rfl) (by kernel_rfl) (by kernel_rfl) (fun _ _ _ h => h) (by rfl) trivial ?_ ?_
              rotate_left 1
              · (go_simp; try with_reducible rfl)
              refine held_no (i := 6) (a' := ?_) rfl (by kernel_rfl) (by kernel_rfl) (by kernel_rfl) (fun _ _ _ h => h) (by rfl) trivial ?_ ?_
              rotate_left 1
              · (go_simp; try with_reducible rfl)
              refine held_no (i := 7) (a' := ?_) rfl (by kernel_rfl) (by kernel_rfl) (by kernel_rfl) (fun _ _ _ h => h) (by rfl) trivial ?_ ?_
              rotate_left 1
              · (go_simp; try with_reducible rfl)
              refine held_no (i := 8) (a' := ?_) rfl (by kernel_rfl) (by kernel_rfl) (by kernel_rfl) (fun _ _ _ h => h) (by rfl) trivial ?_ ?_
              rotate_left 1
              · (go_simp; try with_reducible rfl)
              refine held_no (i := 9) (a' := ?_) rfl (by kernel_rfl) (by kernel_rfl) (by kernel_rfl) (fun _ _ _ h => h) (by rfl) trivial ?_ ?_
              rotate_left 1
              · (go_simp; try with_reducible rfl)
              refine held_take (i := 10) (v := ?_) (a' := ?_) rfl (by kernel_rfl) (by kernel_rfl) (by kernel_rfl) (fun _ _ _ h => h) (by rfl) trivial ?_ ?_ ?_
              rotate_left 2
              · (intro w hS; go_simp; try with_reducible rfl)
              · (go_simp; try with_reducible rfl)
              refine held_take (i := 11) (v := ?_) (a' := ?_) rfl (by kernel_rfl) (by kernel_rfl) (by kernel_rfl) (fun _ _ _ h => h) (by rfl) trivial ?_ ?_ ?_
              rotate_left 2
              · (intro w hS; go_simp; try with_reducible rfl)
              · (go_simp; try with_reducible rfl)
              refine held_no (i := 12) (a' := ?_) rfl (by kernel_rfl) (by kernel_rfl) (by kernel_rfl) (fun _ _ _ h => h) (by rfl) trivial ?_ ?_
              rotate_left 1
              · (go_simp; try with_reducible rfl)
              refine held_no (i := 13) (a' := ?_) rfl (by kernel_rfl) (by kernel_rfl) (by kernel_rfl) (fun _ _ _ h => h) (by rfl) trivial ?_ ?_
              rotate_left 1
              · (go_simp; try with_reducible rfl)
              refine held_no (i := 14) (a' := ?_) rfl (by kernel_rfl) (by kernel_rfl) (by kernel_rfl) (fun _ _ _ h => h) (by rfl) trivial ?_ ?_
              rotate_left 1
              · (go_simp; try with_reducible rfl)
              refine held_no (i := 15) (a' := ?_) rfl (by kernel_rfl) (by kernel_rfl) (by kernel_rfl) (fun _ _ _ h => h) (by rfl) trivial ?_ ?_
              rotate_left 1
              · (go_simp; try with_reducible rfl)
              refine held_no (i := 16) (a' := ?_) rfl (by kernel_rfl) (by kernel_rfl) (by kernel_rfl) (fun _ _ _ h => h) (by rfl) trivial ?_ ?_
              rotate_left 1
              · (go_simp; try with_reducible rfl)
              refine held_no (i := 17) (a' := ?_) rfl (by kernel_rfl) (by kernel_rfl) (by kernel_rfl) (fun _ _ _ h => h) (by rfl) trivial ?_ ?_
              rotate_left 1
              · (go_simp; try with_reducible rfl)
              refine held_no (i := 18) (a' := ?_) rfl (by kernel_rfl) (by kernel_rfl) (by kernel_rfl) (fun _ _ _ h => h) (by rfl) trivial ?_ ?_
              rotate_left 1
              · (go_simp; try with_reducible rfl)
              refine held_no (i := 19) (a' := ?_) rfl (by kernel_rfl) (by kernel_rfl) (by kernel_rfl) (fun _ _ _ h => h) (by rfl) trivial ?_ ?_
              rotate_left 1
              · (go_simp; try with_reducible rfl)
              refine held_no (i := 20) (a' := ?_) rfl (by kernel_rfl) (by kernel_rfl) (by kernel_rfl) (fun _ _ _ h => h) (by rfl) trivial ?_ ?_
              rotate_left 1
              · (go_simp; try with_reducible rfl)
              refine held_no (i := 21) (a' := ?_) rfl (by kernel_rfl) (by kernel_rfl) (by kernel_rfl) (fun _ _ _ h => h) (by rfl) trivial ?_ ?_
              rotate_left 1
              · (go_simp; try with_reducible rfl)
              refine held_take (i := 22) (v := ?_) (a' := ?_) rfl (by kernel_rfl) (by kernel_rfl) (by kernel_rfl) (fun _ _ _ h => h) (by rfl) trivial ?_ ?_ ?_
              rotate_left 2
              · (intro w hS; go_simp; try with_reducible rfl)
              · (go_simp; try with_reducible rfl)
              refine held_take (i := 23) (v := ?_) (a' := ?_) rfl (by kernel_rfl) (by kernel_rfl) (by kernel_rfl) (fun _ _ _ h => h) (by rfl) trivial ?_ ?_ ?_
              rotate_left 2
              · (intro w hS; go_simp; try with_reducible rfl)
              · (go_simp; try with_reducible rfl)
              refine held_ready (rs := [24]) (by kernel_rfl) (by simp) ?_
              refine AllHeld.cons rfl (fun KR hKR => ?_) ?_
              · go_simp
                skip
                refine hKR _ _ trivial ?_
                clear hKR KR
                refine wpAnyH_done (by kernel_rfl) ?_ _
                go_wp2_with fail
                go_roundw
                case rel => exact ⟨1, by omega, by go_num, HKN3, HKR3, HWN3⟩
                case measure => simp [intOf]
              exact AllHeld.nil
            · have hk0I : (0 : Int) < (k : Int) := by omega
              have hk1 : k - 1 < M + 1 := by omega
              have hk1I : (k : Int) - 1 < (M : Int) + 1 := by omega
              have hk2I : (0 : Int) ≤ (k : Int) - 1 := by omega
              have hk3I : ((k : Int) - 1).toNat = k - 1 := by omega
              have hk6 : 0 < k := by omega
              have hk5I : (1 : Int) ≤ (k : Int) := by omega
              have hk4 : IntKind.i64.wrap ((k : Int) - 1) = (k : Int) - 1 := IntWalk.i64_in _ ⟨by omega, by omega⟩
              obtain ⟨V3, hV3⟩ : ∃ V3, V3 = fR Atm.star Atm.takes az s i (k - 1) := ⟨_, rfl⟩
              have c7 : wr.drew.cell? ⟨b7, k - 1, none⟩ = some (.bool V3) := by rw [hV3]; exact (HKR.out.cell (k - 1)).trans (rowB_get _ (by omega))
              rw [← hV3] at HVV
              clear hV3
              cases V3 with
              | false =>
                obtain rfl : V = false := HVV.out.trans (by simp)
                have hs1 : (wr.drew.setCell ⟨b9, k, none⟩ (.bool false)).cell? ⟨b7, k - 1, none⟩ = some (.bool false) := (World.cell?_setCell_other _ _ _ _ (fun e => by injection e with e; omega)).trans c7
                clear HKN HKR HWN HVV HV
                go_upto_region 13 with fail
                refine wp_region_held (S := fun w' => w'.cell? ⟨b7, k - 1, none⟩ = some (.bool false)) (by kernel_rfl) ?_
                change wpAnyH _ _ _ _ _ _ _ _ (World.drew _)
                clear cN fN; generalize World.drew wr = wd at *
                refine held_take (i := 0) (v := ?_) (a' := ?_) rfl (by kernel_rfl) (by kernel_rfl) (by kernel_rfl) (fun _ _ _ h => h) (by rfl) c7 ?_ ?_ ?_
                rotate_left 2
                · (intro w hS; go_simp; try with_reducible rfl)
                · (go_simp; try with_reducible rfl)
                refine held_take (i := 1) (v := ?_) (a' := ?_) rfl (by kernel_rfl) (by kernel_rfl) (by kernel_rfl) (fun _ _ _ h => h) (by rfl) c7 ?_ ?_ ?_
                rotate_left 2
                · (intro w hS; go_simp; try with_reducible rfl)
                · (go_simp; try with_reducible rfl)
                refine held_take (i := 2) (v := ?_) (a' := ?_) rfl (by kernel_rfl) (by kernel_rfl) (by kernel_rfl) (fun _ _ _ h => h) (by rfl) c7 ?_ ?_ ?_
                rotate_left 2
                · (intro w hS; go_simp; try with_reducible rfl)
                · (go_simp; try with_reducible rfl)
                refine held_take (i := 3) (v := ?_) (a' := ?_) rfl (by kernel_rfl) (by kernel_rfl) (by kernel_rfl) (fun _ _ _ h => h) (by rfl) c7 ?_ ?_ ?_
                rotate_left 2
                · (intro w hS; go_simp; try with_reducible rfl)
                · (go_simp; try with_reducible rfl)
                refine held_take (i := 4) (v := ?_) (a' := ?_) rfl (by kernel_rfl) (by kernel_rfl) (by kernel_rfl) (fun _ _ _ h => h) (by rfl) c7 ?_ ?_ ?_
                rotate_left 2
                · (intro w hS; go_simp; try with_reducible rfl)
                · (go_simp; try with_reducible rfl)
                refine held_take (i := 5) (v := ?_) (a' := ?_) rfl (by kernel_rfl) (by kernel_rfl) (by kernel_rfl) (fun _ _ _ h => h) (by rfl) c7 ?_ ?_ ?_
                rotate_left 2
                · (intro w hS; go_simp; try with_reducible rfl)
                · (go_simp; try with_reducible rfl)
                refine held_take (i := 6) (v := ?_) (a' := ?_) rfl (by kernel_rfl) (by kernel_rfl) (by kernel_rfl) (fun _ _ _ h => h) (by rfl) c7 ?_ ?_ ?_
                rotate_left 2
                · (intro w hS; go_simp; try with_reducible rfl)
                · (go_simp; try with_reducible rfl)
                refine held_take (i := 7) (v := ?_) (a' := ?_) rfl (by kernel_rfl) (by kernel_rfl) (by kernel_rfl) (fun _ _ _ h => h) (by rfl) c7 ?_ ?_ ?_
                rotate_left 2
                · (intro w hS; have hk4 := hk4; go_simp; try with_reducible rfl)
                · (go_simp; try with_reducible rfl)
                refine held_take (i := 8) (v := ?_) (a' := ?_) rfl (by kernel_rfl) (by kernel_rfl) (by kernel_rfl) (fun _ _ _ h => h) (by rfl) c7 ?_ ?_ ?_
                rotate_left 2
                · (intro w hS; go_simp; try with_reducible rfl)
                · (go_simp; try with_reducible rfl)
                refine held_take (i := 9) (v := ?_) (a' := ?_) rfl (by kernel_rfl) (by kernel_rfl) (by kernel_rfl) (fun _ _ _ h => h) (by rfl) c7 ?_ ?_ ?_
                rotate_left 2
                · (intro w hS; have c77 := hS; go_simp; try with_reducible rfl)
                · (go_simp; try with_reducible rfl)
                refine held_take (i := 10) (v := ?_) (a' := ?_) rfl (by kernel_rfl) (by kernel_rfl) (by kernel_rfl) (fun _ _ _ h => h) (by rfl) c7 ?_ ?_ ?_
                rotate_left 2
                · (intro w hS; go_simp; try with_reducible rfl)
                · (go_simp; try with_reducible rfl)
                refine held_take (i := 11) (v := ?_) (a' := ?_) rfl (by kernel_rfl) (by kernel_rfl) (by kernel_rfl) (fun _ _ _ h => h) (by rfl) c7 ?_ ?_ ?_
                rotate_left 2
                · (intro w hS; go_simp; try with_reducible rfl)
                · (go_simp; try with_reducible rfl)
                refine held_no (i := 12) (a' := ?_) rfl (by kernel_rfl) (by kernel_rfl) (by kernel_rfl) (fun _ _ _ h => h) (by rfl) c7 ?_ ?_
                rotate_left 1
                · (go_simp; try with_reducible rfl)
                refine held_no (i := 13) (a' := ?_) rfl (by kernel_rfl) (by kernel_rfl) (by kernel_rfl) (fun _ _ _ h => h) (by rfl) c7 ?_ ?_
                rotate_left 1
                · (go_simp; try with_reducible rfl)
                refine held_no (i := 14) (a' := ?_) rfl (by kernel_rfl) (by kernel_rfl) (by kernel_rfl) (fun _ _ _ h => h) (by rfl) c7 ?_ ?_
                rotate_left 1
                · (go_simp; try with_reducible rfl)
                refine held_no (i := 15) (a' := ?_) rfl (by kernel_rfl) (by kernel_rfl) (by kernel_rfl) (fun _ _ _ h => h) (by rfl) c7 ?_ ?_
                rotate_left 1
                · (go_simp; try with_reducible rfl)
                refine held_no (i := 16) (a' := ?_) rfl (by kernel_rfl) (by kernel_rfl) (by kernel_rfl) (fun _ _ _ h => h) (by rfl) c7 ?_ ?_
                rotate_left 1
                · (go_simp; try with_reducible rfl)
                refine held_no (i := 17) (a' := ?_) rfl (by kernel_rfl) (by kernel_rfl) (by kernel_rfl) (fun _ _ _ h => h) (by rfl) c7 ?_ ?_
                rotate_left 1
                · (go_simp; try with_reducible rfl)
                refine held_no (i := 18) (a' := ?_) rfl (by kernel_rfl) (by kernel_rfl) (by kernel_rfl) (fun _ _ _ h => h) (by rfl) c7 ?_ ?_
                rotate_left 1
                · (go_simp; try with_reducible rfl)
                refine held_no (i := 19) (a' := ?_) rfl (by kernel_rfl) (by kernel_rfl) (by kernel_rfl) (fun _ _ _ h => h) (by rfl) c7 ?_ ?_
                rotate_left 1
                · (go_simp; try with_reducible rfl)
                refine held_no (i := 20) (a' := ?_) rfl (by kernel_rfl) (by kernel_rfl) (by kernel_rfl) (fun _ _ _ h => h) (by rfl) c7 ?_ ?_
                rotate_left 1
                · (go_simp; try with_reducible rfl)
                refine held_no (i := 21) (a' := ?_) rfl (by kernel_rfl) (by kernel_rfl) (by kernel_rfl) (fun _ _ _ h => h) (by rfl) c7 ?_ ?_
                rotate_left 1
                · (go_simp; try with_reducible rfl)
                refine held_take (i := 22) (v := ?_) (a' := ?_) rfl (by kernel_rfl) (by kernel_rfl) (by kernel_rfl) (fun _ _ _ h => h) (by rfl) c7 ?_ ?_ ?_
                rotate_left 2
                · (intro w hS; go_simp; try with_reducible rfl)
                · (go_simp; try with_reducible rfl)
                refine held_take (i := 23) (v := ?_) (a' := ?_) rfl (by kernel_rfl) (by kernel_rfl) (by kernel_rfl) (fun _ _ _ h => h) (by rfl) c7 ?_ ?_ ?_
                rotate_left 2
                · (intro w hS; go_simp; try with_reducible rfl)
                · (go_simp; try with_reducible rfl)
                refine held_ready (rs := [24]) (by kernel_rfl) (by simp) ?_
                refine AllHeld.cons rfl (fun KR hKR => ?_) ?_
                · go_simp
                  skip
                  refine hKR _ _ hs1 ?_
                  clear hKR KR
                  refine wpAnyH_done (by kernel_rfl) ?_ _
                  go_wp2_with fail
                  go_roundw
                  case rel => exact ⟨k + 1, by omega, by go_num, HKN3, HKR3, HWN3⟩
                  case measure => simp [intOf]; omega
                exact AllHeld.nil
              | true =>
                obtain ⟨y, hy⟩ : ∃ y, s[k - 1]? = some y := ⟨_, List.getElem?_eq_getElem (by omega)⟩
                obtain ⟨V4, hV4⟩ : ∃ V4, V4 = a.takes y := ⟨_, rfl⟩
                have hkq : k - 1 < q.size := by omega
                have hqy : q[k - 1] = y := strL_at hy HQ.out hkq
                have hy256 : y.toNat < 256 := y.toNat_lt
                have hy256I : (y.toNat : Int) < 256 := by omega
                have hkMI : (k : Int) - 1 < (M : Int) := by omega
                have hkMn : k - 1 < M := by omega
                have cT : wr.drew.cell? ⟨ba, off + i * 257 + 1 + y.toNat, none⟩ = some (.bool V4) := by rw [hV4]; exact (HWN.out.cell (p := ⟨ba, off + i * 257 + 1 + y.toNat, none⟩) hba).trans (HCT.out y)
                obtain rfl : V = V4 := HVV.out.trans (by rw [hy, hV4]; simp; omega)
                have hs1 : (wr.drew.setCell ⟨b9, k, none⟩ (.bool V)).cell? ⟨b7, k - 1, none⟩ = some (.bool true) ∧ (wr.drew.setCell ⟨b9, k, none⟩ (.bool V)).cell? ⟨ba, off + i * 257 + 1 + y.toNat, none⟩ = some (.bool V) :=
                  ⟨(World.cell?_setCell_other _ _ _ _ (fun e => by injection e with e; omega)).trans c7, (World.cell?_setCell_other _ _ _ _ (fun e => by injection e with e; omega)).trans cT⟩
                have hs0 := And.intro c7 cT
                clear HKN HKR HWN HVV HV hy hV4
                go_upto_region 13 with fail
                refine wp_region_held (S := fun w' => w'.cell? ⟨b7, k - 1, none⟩ = some (.bool true) ∧ w'.cell? ⟨ba, off + i * 257 + 1 + y.toNat, none⟩ = some (.bool V)) (by kernel_rfl) ?_
                change wpAnyH _ _ _ _ _ _ _ _ (World.drew _)
                clear cN fN; generalize World.drew wr = wd at *
                refine held_take (i := 0) (v := ?_) (a' := ?_) rfl (by kernel_rfl) (by kernel_rfl) (by kernel_rfl) (fun _ _ _ h => h) (by rfl) hs0 ?_ ?_ ?_
                rotate_left 2
                · (intro w hS; go_simp; try with_reducible rfl)
                · (go_simp; try with_reducible rfl)
                refine held_take (i := 1) (v := ?_) (a' := ?_) rfl (by kernel_rfl) (by kernel_rfl) (by kernel_rfl) (fun _ _ _ h => h) (by rfl) hs0 ?_ ?_ ?_
                rotate_left 2
                · (intro w hS; go_simp; try with_reducible rfl)
                · (go_simp; try with_reducible rfl)
                refine held_take (i := 2) (v := ?_) (a' := ?_) rfl (by kernel_rfl) (by kernel_rfl) (by kernel_rfl) (fun _ _ _ h => h) (by rfl) hs0 ?_ ?_ ?_
                rotate_left 2
                · (intro w hS; go_simp; try with_reducible rfl)
                · (go_simp; try with_reducible rfl)
                refine held_take (i := 3) (v := ?_) (a' := ?_) rfl (by kernel_rfl) (by kernel_rfl) (by kernel_rfl) (fun _ _ _ h => h) (by rfl) hs0 ?_ ?_ ?_
                rotate_left 2
                · (intro w hS; go_simp; try with_reducible rfl)
                · (go_simp; try with_reducible rfl)
                refine held_take (i := 4) (v := ?_) (a' := ?_) rfl (by kernel_rfl) (by kernel_rfl) (by kernel_rfl) (fun _ _ _ h => h) (by rfl) hs0 ?_ ?_ ?_
                rotate_left 2
                · (intro w hS; go_simp; try with_reducible rfl)
                · (go_simp; try with_reducible rfl)
                refine held_take (i := 5) (v := ?_) (a' := ?_) rfl (by kernel_rfl) (by kernel_rfl) (by kernel_rfl) (fun _ _ _ h => h) (by rfl) hs0 ?_ ?_ ?_
                rotate_left 2
                · (intro w hS; go_simp; try with_reducible rfl)
                · (go_simp; try with_reducible rfl)
                refine held_take (i := 6) (v := ?_) (a' := ?_) rfl (by kernel_rfl) (by kernel_rfl) (by kernel_rfl) (fun _ _ _ h => h) (by rfl) hs0 ?_ ?_ ?_
                rotate_left 2
                · (intro w hS; go_simp; try with_reducible rfl)
                · (go_simp; try with_reducible rfl)
                refine held_take (i := 7) (v := ?_) (a' := ?_) rfl (by kernel_rfl) (by kernel_rfl) (by kernel_rfl) (fun _ _ _ h => h) (by rfl) hs0 ?_ ?_ ?_
                rotate_left 2
                · (intro w hS; go_simp; try with_reducible rfl)
                · (go_simp; try with_reducible rfl)
                refine held_take (i := 8) (v := ?_) (a' := ?_) rfl (by kernel_rfl) (by kernel_rfl) (by kernel_rfl) (fun _ _ _ h => h) (by rfl) hs0 ?_ ?_ ?_
                rotate_left 2
                · (intro w hS; go_simp; try with_reducible rfl)
                · (go_simp; try with_reducible rfl)
                refine held_take (i := 9) (v := ?_) (a' := ?_) rfl (by kernel_rfl) (by kernel_rfl) (by kernel_rfl) (fun _ _ _ h => h) (by rfl) hs0 ?_ ?_ ?_
                rotate_left 2
                · (intro w hS; have c77 := hS.1; go_simp; try with_reducible rfl)
                · (go_simp; try with_reducible rfl)
                refine held_take (i := 10) (v := ?_) (a' := ?_) rfl (by kernel_rfl) (by kernel_rfl) (by kernel_rfl) (fun _ _ _ h => h) (by rfl) hs0 ?_ ?_ ?_
                rotate_left 2
                · (intro w hS; go_simp; try with_reducible rfl)
                · (go_simp; try with_reducible rfl)
                refine held_take (i := 11) (v := ?_) (a' := ?_) rfl (by kernel_rfl) (by kernel_rfl) (by kernel_rfl) (fun _ _ _ h => h) (by rfl) hs0 ?_ ?_ ?_
                rotate_left 2
                · (intro w hS; go_simp; try with_reducible rfl)
                · (go_simp; try with_reducible rfl)
                refine held_take (i := 12) (v := ?_) (a' := ?_) rfl (by kernel_rfl) (by kernel_rfl) (by kernel_rfl) (fun _ _ _ h => h) (by rfl) hs0 ?_ ?_ ?_
                rotate_left 2
                · (intro w hS; go_simp; try with_reducible rfl)
                · (go_simp; try with_reducible rfl)
                refine held_take (i := 13) (v := ?_) (a' := ?_) rfl (by kernel_rfl) (by kernel_rfl) (by kernel_rfl) (fun _ _ _ h => h) (by rfl) hs0 ?_ ?_ ?_
                rotate_left 2
                · (intro w hS; go_simp; try with_reducible rfl)
                · (go_simp; try with_reducible rfl)
                refine held_take (i := 14) (v := ?_) (a' := ?_) rfl (by kernel_rfl) (by kernel_rfl) (by kernel_rfl) (fun _ _ _ h => h) (by rfl) hs0 ?_ ?_ ?_
                rotate_left 2
                · (intro w hS; go_simp; try with_reducible rfl)
                · (go_simp; try with_reducible rfl)
                refine held_take (i := 15) (v := ?_) (a' := ?_) rfl (by kernel_rfl) (by kernel_rfl) (by kernel_rfl) (fun _ _ _ h => h) (by rfl) hs0 ?_ ?_ ?_
                rotate_left 2
                · (intro w hS; go_simp; try with_reducible rfl)
                · (go_simp; try with_reducible rfl)
                refine held_take (i := 16) (v := ?_) (a' := ?_) rfl (by kernel_rfl) (by kernel_rfl) (by kernel_rfl) (fun _ _ _ h => h) (by rfl) hs0 ?_ ?_ ?_
                rotate_left 2
                · (intro w hS; go_simp; try with_reducible rfl)
                · (go_simp; try with_reducible rfl)
                refine held_take (i := 17) (v := ?_) (a' := ?_) rfl (by kernel_rfl) (by kernel_rfl) (by kernel_rfl) (fun _ _ _ h => h) (by rfl) hs0 ?_ ?_ ?_
                rotate_left 2
                · (intro w hS; go_simp; try with_reducible rfl)
                · (go_simp; try with_reducible rfl)
                refine held_take (i := 18) (v := ?_) (a' := ?_) rfl (by kernel_rfl) (by kernel_rfl) (by kernel_rfl) (fun _ _ _ h => h) (by rfl) hs0 ?_ ?_ ?_
                rotate_left 2
                · (intro w hS; go_simp; try with_reducible rfl)
                · (go_simp; try with_reducible rfl)
                refine held_take (i := 19) (v := ?_) (a' := ?_) rfl (by kernel_rfl) (by kernel_rfl) (by kernel_rfl) (fun _ _ _ h => h) (by rfl) hs0 ?_ ?_ ?_
                rotate_left 2
                · (intro w hS; go_simp; try with_reducible rfl)
                · (go_simp; try with_reducible rfl)
                refine held_take (i := 20) (v := ?_) (a' := ?_) rfl (by kernel_rfl) (by kernel_rfl) (by kernel_rfl) (fun _ _ _ h => h) (by rfl) hs0 ?_ ?_ ?_
                rotate_left 2
                · (intro w hS; go_simp; try with_reducible rfl)
                · (go_simp; try with_reducible rfl)
                refine held_take (i := 21) (v := ?_) (a' := ?_) rfl (by kernel_rfl) (by kernel_rfl) (by kernel_rfl) (fun _ _ _ h => h) (by rfl) hs0 ?_ ?_ ?_
                rotate_left 2
                · (intro w hS; have cTT := hS.2; go_simp; try with_reducible rfl)
                · (go_simp; try with_reducible rfl)
                refine held_take (i := 22) (v := ?_) (a' := ?_) rfl (by kernel_rfl) (by kernel_rfl) (by kernel_rfl) (fun _ _ _ h => h) (by rfl) hs0 ?_ ?_ ?_
                rotate_left 2
                · (intro w hS; go_simp; try with_reducible rfl)
                · (go_simp; try with_reducible rfl)
                refine held_take (i := 23) (v := ?_) (a' := ?_) rfl (by kernel_rfl) (by kernel_rfl) (by kernel_rfl) (fun _ _ _ h => h) (by rfl) hs0 ?_ ?_ ?_
                rotate_left 2
                · (intro w hS; go_simp; try with_reducible rfl)
                · (go_simp; try with_reducible rfl)
                refine held_ready (rs := [24]) (by kernel_rfl) (by simp) ?_
                refine AllHeld.cons rfl (fun KR hKR => ?_) ?_
                · go_simp
                  skip
                  refine hKR _ _ hs1 ?_
                  clear hKR KR
                  refine wpAnyH_done (by kernel_rfl) ?_ _
                  go_wp2_with fail
                  go_roundw
                  case rel => exact ⟨k + 1, by omega, by go_num, HKN3, HKR3, HWN3⟩
                  case measure => simp [intOf]; omega
                exact AllHeld.nil
        · have hkI : ¬ (k : Int) ≤ (M : Int) := by omega
          obtain rfl : k = M + 1 := by omega
          have HKE := Lib.hid (show Blk wr b9 4 (rowB M (fR Atm.star Atm.takes az s (i + 1))) by
            rw [← rowB_congr (f := fP Atm.star Atm.takes az s i (M + 1)) (fun c hc => fP_end hc)]; exact HKN.out)
          clear HKN HKR
          go_wp2_with fail
          go_roundw
          case rel => exact ⟨i + 1, b9, by omega, by omega, rfl, by go_num, HKE, HWN⟩
          case measure => simp [intOf]; omega
    · have hltI : ¬ (i : Int) < (N : Int) := by omega
      have cE : wr.cell? ⟨b7, M, none⟩ = some (.bool R) := by
        rw [(HK.out.cell M).trans (rowB_get _ (Nat.le_refl M)), HM.out, fR_end (by rw [← HN.out]; omega), HR.out]
      have hMM : M < M + 1 := by omega
      have hMI : (M : Int) < (M : Int) + 1 := by omega
      clear HK
      go_wp2_with fail
      go_ret
      exact ⟨rfl, HB1.out.trans (HW.out.mono (by rw [← HBB.out]; exact HB1.out.size))⟩
end Go.Proofs.YtlddnghfjdjglaaDoor
