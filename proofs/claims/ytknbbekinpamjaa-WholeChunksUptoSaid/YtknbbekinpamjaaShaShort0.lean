/- sha.Short with no others. -/
import Derived.Test.YtknbbekinpamjaaShaIds
set_option linter.unusedVariables false
namespace Go.Proofs.Ytknbbekinpamjaa
open Go.RowKit
attribute [local go_sem ↓] ldId_eq

theorem cut_take (X : List UInt8) (n : Nat) : (⟨X.toArray⟩ : ByteArray).extract 0 n = ⟨(X.take n).toArray⟩ := by
  apply ByteArray.ext
  simp
set_option maxRecDepth 100000 in
set_option maxHeartbeats 4000000 in
theorem short_none (l : List UInt8) (h32 : l.length = 32) (W0 : World) :
    Calls Try.prog 16 #[.agg (bytesV l).toArray, .slice none 0 0] W0 fun e w' => e = .returned (.string ⟨((hexS l).take 4).toArray⟩) ∧ Below W0.heap.size W0 w' := by
  have hx := hexS_length l
  rw [h32] at hx
  have HX := Lib.hid hx
  have H32 := Lib.hid h32
  clear hx h32
  obtain ⟨IV, hIV⟩ : ∃ IV, IV = (bytesV l).toArray := ⟨_, rfl⟩
  rw [← hIV]
  have HIV := Lib.hid hIV
  clear hIV
  have HBL := Lib.hid (Blk.new W0 25 IV)
  have HB0 := Lib.hid ((Below.refl W0.heap.size W0).alloc (Nat.le_refl _) (.cells IV 25))
  go_enter Try.func16, Try.ntmps16
  go_wp2_with fail
  go_loopw [5, 12] (fun m i wr => m = .int .i64 4 ∧ i = .int .i64 0 ∧ Hid (Blk wr W0.heap.size 25 IV) ∧ Hid (Below W0.heap.size W0 wr)) (fun _ _ _ => 0)
  case atStart => exact ⟨rfl, rfl, HBL, HB0⟩
  case round =>
    obtain ⟨rfl, rfl, HB, HL⟩ := hrel
    have HI := Lib.hid (show (Try.prog.info? 25).map (·.size) = some IV.size by rw [HIV.out]; exact id_size H32.out)
    go_upto_region 9 with fail
    go_wp2_with (refine wpList_load_row rfl _ _ rfl W0.heap.size rfl 25 IV (0, 0) _ HB.out Try.underlying25 rfl HI.out ?_)
    rw [HIV.out]
    refine (hex_any l H32.out wr).mono ?_
    rintro e wk ⟨rfl, hbk⟩
    have HBK := Lib.hid (HL.out.trans (hbk.mono HL.out.size))
    clear hbk
    have hx : (hexS l).length = 64 := HX.out
    generalize hX : hexS l = X at *
    have HXE := Lib.hid hX
    clear hX
    go_wp2_with fail
    go_ret
    refine ⟨?_, HBK.out⟩
    rw [HXE.out, cut_take]
    rfl
end Go.Proofs.Ytknbbekinpamjaa
