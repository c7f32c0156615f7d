/- awake: the bench of layer 4's statements. -/
import Derived.Test.YtdleobdbicdmoaaGearWalks
namespace Go.Proofs.Ytdleobdbicdmoaa
open Go.RowKit

theorem cut_abcde : cutL 2 9 0 [97, 98, 99, 100, 101] = [2, 2, 1] := by decide +kernel
theorem gear_01 : (gearI 0 == gearI 1) = false := by decide +kernel

set_option maxHeartbeats 400000 in
theorem awake_any (w : World) : Calls Try.prog 8 #[] w fun e w' => e = .returned (.bool true) ∧ Below w.heap.size w w' := by
  have hs : Sl (w.alloc (.cells #[.int .u8 97, .int .u8 98, .int .u8 99, .int .u8 100, .int .u8 101] 5 (5, 6))) 1 (some ⟨w.heap.size, 0, none⟩) 5 (bytesV [97, 98, 99, 100, 101]) := Sl.fresh w _ _ _ _ _ rfl
  have kc := fun (w : World) (C : Array Value) (n c : Nat) => Lib.run_convert_bytes_const (P := Try.prog) w 22 5 C n c Try.underlying22 Try.underlying5
  go_enter Try.func8, Try.ntmps8
  go_wp2_with fail
  refine (cut_any _ 5 5 [97, 98, 99, 100, 101] 2 9 0 _ hs (Nat.le_refl _) (by omega) (by decide +kernel)).mono ?_
  rw [cut_abcde]
  rintro e w1 ⟨A, c, rfl, hown, _, _, hb⟩
  have hb1 := ((Below.refl w.heap.size w).alloc (Nat.le_refl _) (.cells #[.int .u8 97, .int .u8 98, .int .u8 99, .int .u8 100, .int .u8 101] 5 (5, 6))).trans (hb.mono (by simp))
  clear hb hs kc
  go_wp2_with fail
  refine (cut_wrong none 0 0 0 0 0 _ (by decide +kernel)).mono ?_
  rintro e w2 ⟨rfl, hb2⟩
  have hs := (Sl.ofOwn hown).below hb2
  have hb3 := hb1.trans (hb2.mono hb1.size)
  obtain ⟨b, off, rfl, _, hc⟩ := hs.2 (by simp)
  have k0 := hc 0 (.int .i64 2) rfl
  have k2 := hc 2 (.int .i64 1) rfl
  clear hown hb1 hb2 hs hc
  have g01 := gear_01
  simp only [Nat.add_zero] at k0 k2
  go_wp2_with (first | (go_at_call 16; refine (gear_any _ _ (by omega) (by omega)).mono ?_; rintro e w' ⟨rfl, rfl⟩))
  go_ret
  exact ⟨rfl, hb3⟩
end Go.Proofs.Ytdleobdbicdmoaa
