/- The document's Hex. -/
import Derived.Test.YtknbbekinpamjaaShaShort
set_option linter.unusedVariables false
namespace Go.Proofs.Ytknbbekinpamjaa
open Go.RowKit

set_option maxRecDepth 100000 in
theorem dig_cut {a : Nat} (h : a < 16) : (⟨#[48, 49, 50, 51, 52, 53, 54, 55, 56, 57, 97, 98, 99, 100, 101, 102]⟩ : ByteArray).extract a (a + 1) = ⟨#[digits.getD a 0]⟩ := by
  have e : a = 0 ∨ a = 1 ∨ a = 2 ∨ a = 3 ∨ a = 4 ∨ a = 5 ∨ a = 6 ∨ a = 7 ∨ a = 8 ∨ a = 9 ∨ a = 10 ∨ a = 11 ∨ a = 12 ∨ a = 13 ∨ a = 14 ∨ a = 15 := by omega
  rcases e with rfl | rfl | rfl | rfl | rfl | rfl | rfl | rfl | rfl | rfl | rfl | rfl | rfl | rfl | rfl | rfl <;> (apply ByteArray.ext; simp [digits])
theorem str_app (a b : List UInt8) : (⟨a.toArray⟩ : ByteArray) ++ ⟨b.toArray⟩ = ⟨(a ++ b).toArray⟩ := by
  apply ByteArray.ext
  simp

set_option maxRecDepth 100000 in
set_option maxHeartbeats 4000000 in
theorem refHex_any (l : List UInt8) (h32 : l.length = 32) (W0 : World) :
    Calls Try.prog 15 #[.agg (bytesV l).toArray] W0 fun e w' => e = .returned (.string ⟨(hexS l).toArray⟩) ∧ Below W0.heap.size W0 w' := by
  have H32 := Lib.hid h32
  clear h32
  obtain ⟨IV, hIV⟩ : ∃ IV, IV = (bytesV l).toArray := ⟨_, rfl⟩
  rw [← hIV]
  have HIV := Lib.hid hIV
  clear hIV
  have HB0 := Lib.hid ((Below.refl W0.heap.size W0).alloc (Nat.le_refl _) (.cells IV 25))
  have HK0 := Lib.hid (Blk.new W0 25 IV)
  go_enter Try.func15, Try.ntmps15
  go_wp2_with fail
  go_loopw [3, 4] (fun o i wr => ∃ k : Nat, k ≤ 32 ∧ i = .int .i64 k ∧ o = .string ⟨(hexS (l.take k)).toArray⟩ ∧ Hid (Blk wr W0.heap.size 25 IV) ∧ Hid (Below W0.heap.size W0 wr)) (fun _ i _ => 32 - (intOf i).toNat)
  case atStart => exact ⟨0, by omega, rfl, rfl, HK0, HB0⟩
  case round =>
    obtain ⟨k, hk, rfl, rfl, HK, HB⟩ := hrel
    by_cases hlt : k < 32
    · have hlt' : (k : Int) < 32 := by omega
      have h0k : (0 : Int) ≤ (k : Int) := by omega
      have hx : l[k]? = some (l[k]'(by rw [H32.out]; exact hlt)) := List.getElem?_eq_getElem _
      generalize l[k]'(by rw [H32.out]; exact hlt) = x at *
      have hcell := (HK.out.cell k).trans (show IV[k]? = some (.int .u8 (x.toNat : Int)) by rw [HIV.out]; exact bytesV_arr hx)
      have HT := Lib.hid (hexS_take hx)
      clear hx
      obtain ⟨a, ha⟩ : ∃ a, a = x.toNat / 16 := ⟨_, rfl⟩
      obtain ⟨b, hb⟩ : ∃ b, b = x.toNat % 16 := ⟨_, rfl⟩
      have hx256 := x.toNat_lt
      have ha16 : a < 16 := by omega
      have hb16 : b < 16 := by omega
      have h0x : (0 : Int) ≤ (x.toNat : Int) := by omega
      have hxi : (x.toNat : Int) < 256 := by omega
      have hda : (x.toNat : Int) / 16 = (a : Int) := by omega
      have hdb : (x.toNat : Int) % 16 = (b : Int) := by omega
      have HHB := Lib.hid (show hexB x = [digits.getD a 0] ++ [digits.getD b 0] by unfold hexB; rw [ha, hb]; rfl)
      have a1 : (a : Int) ≤ 16 := by omega
      have a2 : (a : Int) + 1 ≤ 16 := by omega
      have a3 : (0 : Int) ≤ (a : Int) := by omega
      have a4 : (0 : Int) ≤ (a : Int) + 1 := by omega
      have a5 : (a : Int) ≤ (a : Int) + 1 := by omega
      have a6 : ((a : Int) + 1).toNat = a + 1 := by omega
      have b1 : (b : Int) ≤ 16 := by omega
      have b2 : (b : Int) + 1 ≤ 16 := by omega
      have b3 : (0 : Int) ≤ (b : Int) := by omega
      have b4 : (0 : Int) ≤ (b : Int) + 1 := by omega
      have b5 : (b : Int) ≤ (b : Int) + 1 := by omega
      have b6 : ((b : Int) + 1).toNat = b + 1 := by omega
      have w1 : IntKind.i64.wrap ((a : Int) + 1) = (a : Int) + 1 := IntWalk.i64_in _ (by omega)
      have w2 : IntKind.i64.wrap ((b : Int) + 1) = (b : Int) + 1 := IntWalk.i64_in _ (by omega)
      have q0 : IntKind.i64.wrap (x.toNat : Int) = (x.toNat : Int) := IntWalk.i64_in _ (by omega)
      have q1 : (x.toNat : Int).tdiv 16 = (a : Int) := by rw [Int.tdiv_eq_ediv_of_nonneg h0x]; omega
      have q2 : (x.toNat : Int).tmod 16 = (b : Int) := by rw [Int.tmod_eq_emod_of_nonneg h0x]; omega
      have q3 : IntKind.i64.wrap (a : Int) = (a : Int) := IntWalk.i64_in _ (by omega)
      have d1 := dig_cut ha16
      have d2 := dig_cut hb16
      clear ha hb
      obtain ⟨da, hda'⟩ : ∃ z, z = digits.getD a 0 := ⟨_, rfl⟩
      obtain ⟨db, hdb'⟩ : ∃ z, z = digits.getD b 0 := ⟨_, rfl⟩
      rw [← hda'] at d1 HHB
      rw [← hdb'] at d2 HHB
      clear hda' hdb'
      have hPl : (hexS (l.take k)).length ≤ 64 := by rw [hexS_length, List.length_take]; omega
      generalize hP : hexS (l.take k) = P at *
      have HP := Lib.hid hP
      clear hP
      have hnl : ¬ (9223372036854775807 < P.length + 2) := by omega
      go_wp2_with fail
      refine wp_region_held (S := fun W => Same wr W) (by kernel_rfl) ?_
      change wpAnyH _ _ _ _ _ _ _ _ (World.drew _)
      refine held_take (i := 0) (v := ?_) (a' := ?_) rfl (by kernel_rfl) (by kernel_rfl) (by kernel_rfl) (fun _ _ _ h => h) (by rfl) ⟨1, rfl⟩ ?_ ?_ ?_
      rotate_left 2
      · (intro w hS; go_simp; try with_reducible rfl)
      · (go_simp; try with_reducible rfl)
      refine held_take (i := 1) (v := ?_) (a' := ?_) rfl (by kernel_rfl) (by kernel_rfl) (by kernel_rfl) (fun _ _ _ h => h) (by rfl) ⟨1, rfl⟩ ?_ ?_ ?_
      rotate_left 2
      · (intro w hS; go_simp; try with_reducible rfl)
      · (go_simp; try with_reducible rfl)
      refine held_take (i := 2) (v := ?_) (a' := ?_) rfl (by kernel_rfl) (by kernel_rfl) (by kernel_rfl) (fun _ _ _ h => h) (by rfl) ⟨1, rfl⟩ ?_ ?_ ?_
      rotate_left 2
      · (intro w hS; have hcc := (hS.cell _).trans hcell; go_simp; try with_reducible rfl)
      · (go_simp; try with_reducible rfl)
      refine held_take (i := 3) (v := ?_) (a' := ?_) rfl (by kernel_rfl) (by kernel_rfl) (by kernel_rfl) (fun _ _ _ h => h) (by rfl) ⟨1, rfl⟩ ?_ ?_ ?_
      rotate_left 2
      · (intro w hS; go_simp; try with_reducible rfl)
      · (go_simp; try with_reducible rfl)
      refine held_take (i := 4) (v := ?_) (a' := ?_) rfl (by kernel_rfl) (by kernel_rfl) (by kernel_rfl) (fun _ _ _ h => h) (by rfl) ⟨1, rfl⟩ ?_ ?_ ?_
      rotate_left 2
      · (intro w hS; go_simp; try with_reducible rfl)
      · (go_simp; try with_reducible rfl)
      refine held_take (i := 5) (v := ?_) (a' := ?_) rfl (by kernel_rfl) (by kernel_rfl) (by kernel_rfl) (fun _ _ _ h => h) (by rfl) ⟨1, rfl⟩ ?_ ?_ ?_
      rotate_left 2
      · (intro w hS; go_simp; try with_reducible rfl)
      · (go_simp; try with_reducible rfl)
      refine held_take (i := 6) (v := ?_) (a' := ?_) rfl (by kernel_rfl) (by kernel_rfl) (by kernel_rfl) (fun _ _ _ h => h) (by rfl) ⟨1, rfl⟩ ?_ ?_ ?_
      rotate_left 2
      · (intro w hS; go_simp; try with_reducible rfl)
      · (go_simp; try with_reducible rfl)
      refine held_take (i := 7) (v := ?_) (a' := ?_) rfl (by kernel_rfl) (by kernel_rfl) (by kernel_rfl) (fun _ _ _ h => h) (by rfl) ⟨1, rfl⟩ ?_ ?_ ?_
      rotate_left 2
      · (intro w hS; have hcc := (hS.cell _).trans hcell; go_simp; try with_reducible rfl)
      · (go_simp; try with_reducible rfl)
      refine held_take (i := 8) (v := ?_) (a' := ?_) rfl (by kernel_rfl) (by kernel_rfl) (by kernel_rfl) (fun _ _ _ h => h) (by rfl) ⟨1, rfl⟩ ?_ ?_ ?_
      rotate_left 2
      · (intro w hS; go_simp; try with_reducible rfl)
      · (go_simp; try with_reducible rfl)
      refine held_take (i := 9) (v := ?_) (a' := ?_) rfl (by kernel_rfl) (by kernel_rfl) (by kernel_rfl) (fun _ _ _ h => h) (by rfl) ⟨1, rfl⟩ ?_ ?_ ?_
      rotate_left 2
      · (intro w hS; go_simp; try with_reducible rfl)
      · (go_simp; try with_reducible rfl)
      refine held_take (i := 10) (v := ?_) (a' := ?_) rfl (by kernel_rfl) (by kernel_rfl) (by kernel_rfl) (fun _ _ _ h => h) (by rfl) ⟨1, rfl⟩ ?_ ?_ ?_
      rotate_left 2
      · (intro w hS; go_simp; try with_reducible rfl)
      · (go_simp; try with_reducible rfl)
      refine held_take (i := 11) (v := ?_) (a' := ?_) rfl (by kernel_rfl) (by kernel_rfl) (by kernel_rfl) (fun _ _ _ h => h) (by rfl) ⟨1, rfl⟩ ?_ ?_ ?_
      rotate_left 2
      · (intro w hS; go_simp; try with_reducible rfl)
      · (go_simp; try with_reducible rfl)
      refine wpAnyH_done (by kernel_rfl) ?_ _
      go_wp2_with fail
      refine wp_region_held (S := fun W => Same wr.drew W) (by kernel_rfl) ?_
      change wpAnyH _ _ _ _ _ _ _ _ (World.drew _)
      refine held_take (i := 0) (v := ?_) (a' := ?_) rfl (by kernel_rfl) (by kernel_rfl) (by kernel_rfl) (fun _ _ _ h => h) (by rfl) ⟨1, rfl⟩ ?_ ?_ ?_
      rotate_left 2
      · (intro w hS; go_simp; try with_reducible rfl)
      · (go_simp; try with_reducible rfl)
      refine held_take (i := 1) (v := ?_) (a' := ?_) rfl (by kernel_rfl) (by kernel_rfl) (by kernel_rfl) (fun _ _ _ h => h) (by rfl) ⟨1, rfl⟩ ?_ ?_ ?_
      rotate_left 2
      · (intro w hS; go_simp; try with_reducible rfl)
      · (go_simp; try with_reducible rfl)
      refine held_take (i := 2) (v := ?_) (a' := ?_) rfl (by kernel_rfl) (by kernel_rfl) (by kernel_rfl) (fun _ _ _ h => h) (by rfl) ⟨1, rfl⟩ ?_ ?_ ?_
      rotate_left 2
      · (intro w hS; go_simp; try with_reducible rfl)
      · (go_simp; try with_reducible rfl)
      refine held_take (i := 3) (v := ?_) (a' := ?_) rfl (by kernel_rfl) (by kernel_rfl) (by kernel_rfl) (fun _ _ _ h => h) (by rfl) ⟨1, rfl⟩ ?_ ?_ ?_
      rotate_left 2
      · (intro w hS; go_simp; try with_reducible rfl)
      · (go_simp; try with_reducible rfl)
      refine held_take (i := 4) (v := ?_) (a' := ?_) rfl (by kernel_rfl) (by kernel_rfl) (by kernel_rfl) (fun _ _ _ h => h) (by rfl) ⟨1, rfl⟩ ?_ ?_ ?_
      rotate_left 2
      · (intro w hS; go_simp; try with_reducible rfl)
      · (go_simp; try with_reducible rfl)
      refine held_take (i := 5) (v := ?_) (a' := ?_) rfl (by kernel_rfl) (by kernel_rfl) (by kernel_rfl) (fun _ _ _ h => h) (by rfl) ⟨1, rfl⟩ ?_ ?_ ?_
      rotate_left 2
      · (intro w hS; go_simp; try with_reducible rfl)
      · (go_simp; try with_reducible rfl)
      refine held_take (i := 6) (v := ?_) (a' := ?_) rfl (by kernel_rfl) (by kernel_rfl) (by kernel_rfl) (fun _ _ _ h => h) (by rfl) ⟨1, rfl⟩ ?_ ?_ ?_
      rotate_left 2
      · (intro w hS; go_simp; try with_reducible rfl)
      · (go_simp; try with_reducible rfl)
      refine held_take (i := 7) (v := ?_) (a' := ?_) rfl (by kernel_rfl) (by kernel_rfl) (by kernel_rfl) (fun _ _ _ h => h) (by rfl) ⟨1, rfl⟩ ?_ ?_ ?_
      rotate_left 2
      · (intro w hS; go_simp; try with_reducible rfl)
      · (go_simp; try with_reducible rfl)
      refine held_take (i := 8) (v := ?_) (a' := ?_) rfl (by kernel_rfl) (by kernel_rfl) (by kernel_rfl) (fun _ _ _ h => h) (by rfl) ⟨1, rfl⟩ ?_ ?_ ?_
      rotate_left 2
      · (intro w hS; go_simp; try with_reducible rfl)
      · (go_simp; try with_reducible rfl)
      refine held_take (i := 9) (v := ?_) (a' := ?_) rfl (by kernel_rfl) (by kernel_rfl) (by kernel_rfl) (fun _ _ _ h => h) (by rfl) ⟨1, rfl⟩ ?_ ?_ ?_
      rotate_left 2
      · (intro w hS; go_simp; try with_reducible rfl)
      · (go_simp; try with_reducible rfl)
      refine held_take (i := 10) (v := ?_) (a' := ?_) rfl (by kernel_rfl) (by kernel_rfl) (by kernel_rfl) (fun _ _ _ h => h) (by rfl) ⟨1, rfl⟩ ?_ ?_ ?_
      rotate_left 2
      · (intro w hS; go_simp; try with_reducible rfl)
      · (go_simp; try with_reducible rfl)
      refine held_take (i := 11) (v := ?_) (a' := ?_) rfl (by kernel_rfl) (by kernel_rfl) (by kernel_rfl) (fun _ _ _ h => h) (by rfl) ⟨1, rfl⟩ ?_ ?_ ?_
      rotate_left 2
      · (intro w hS; go_simp; try with_reducible rfl)
      · (go_simp; try with_reducible rfl)
      refine wpAnyH_done (by kernel_rfl) ?_ _
      go_wp2_with fail
      go_roundw
      case rel => exact ⟨k + 1, by omega, by go_num, by rw [HT.out, HHB.out, ← str_app, ← str_app], Lib.hid (HK.out.same ⟨2, rfl⟩), Lib.hid (HB.out.trans (Same.below ⟨2, rfl⟩ _))⟩
      case measure => simp [intOf]; omega
    · have hke : k = 32 := by omega
      have hlt' : ¬ (k : Int) < 32 := by omega
      have hT : l.take k = l := List.take_of_length_le (by rw [H32.out]; omega)
      rw [hT]
      have HBz := HB.out
      clear hke hT hlt
      go_wp2_with fail
      go_ret
      exact ⟨rfl, HBz⟩
end Go.Proofs.Ytknbbekinpamjaa
