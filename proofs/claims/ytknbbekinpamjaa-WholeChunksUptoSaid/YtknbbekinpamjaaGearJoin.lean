/- gear.Join: all bytes of the chunks, one behind the other, in new memory. -/
import Derived.Test.YtknbbekinpamjaaBytesList
import Derived.Test.YtknbbekinpamjaaGearWalks
set_option linter.unusedVariables false
namespace Go.Proofs.Ytknbbekinpamjaa
open Go.RowKit

set_option maxHeartbeats 400000 in
theorem join_any (A : Option Addr) (n c : Nat) (vs : List Value) (ls : List (List UInt8)) (w : World) (hs : Sl w 1 A n vs) (hv : AllB w vs ls) (hn : n ≤ 1000000000) (hf : ls.flatten.length ≤ 1000000000) :
    Calls Try.prog 19 #[.slice A n c] w (BytesPost 5 w ls.flatten) := by
  have hl : ls.length = n := by have := hs.1; have := hv.1; omega
  have HL := Lib.hid hl
  clear hl
  go_enter Try.func19, Try.ntmps19
  go_wp2_with fail
  go_loopw [3, 8] (fun o i wr => ∃ (k : Nat) (Ao : Option Addr) (co : Nat), k ≤ n ∧ i = .int .i64 k ∧ o = .slice Ao (ls.take k).flatten.length co ∧
      wr.ownsRow w.heap.size 5 1 (.slice Ao (ls.take k).flatten.length co) (ls.take k).flatten.length (bytesV (ls.take k).flatten) ∧ Below w.heap.size w wr) (fun _ i _ => n - (intOf i).toNat)
  case atStart => exact ⟨0, none, 0, by omega, rfl, rfl, World.ownsRow_nil _ _ _ _, Below.refl _ _⟩
  case round =>
    obtain ⟨k, Ao, co, hk, rfl, rfl, hown, hbr⟩ := hrel
    by_cases hlt : k < n
    · obtain ⟨b, off, A', c', l, rfl, hb, hc, hlk, hsl, hl1, hl2⟩ := hv.look hs hlt
      have hcr := (hbr.cell (p := ⟨b, off + k, none⟩) hb).trans hc
      have hfs := flat_take_succ hlk
      have hle := flat_take_le ls (k + 1)
      rw [hfs, List.length_append] at hle
      obtain ⟨A2, c2, w2, hrun, hap, hc1, hc2⟩ := append_sl elemByte hown (hsl.below hbr) (bytesV_one l) (by omega) (by simp only [maxLen]; omega) hbr.size 22 c'
      have HFS := Lib.hid hfs
      have hown2 := hap.own
      have hb2 := hbr.trans hap.below
      clear hc hfs hle hlk hsl hown hap hs hv
      generalize (ls.take k).flatten = S at *
      go_wp2_with (at_builtin; refine wpList_run_append hrun ?_ ?_ ?_; exact rfl; exact rfl)
      go_roundw
      case rel =>
        refine ⟨k + 1, A2, c2, by omega, by go_num, ?_, ?_, hb2⟩
        · rw [HFS.out, List.length_append]
        · rw [HFS.out, List.length_append]
          simpa [bytesV] using hown2
      case measure => simp [intOf]; omega
    · have hkn : k = n := by omega
      have hT : ls.take k = ls := List.take_of_length_le (by rw [HL.out]; omega)
      rw [hT] at hown ⊢
      clear hT hkn
      go_wp2_with fail
      go_ret
      exact ⟨Ao, co, rfl, hown, hbr⟩
end Go.Proofs.Ytknbbekinpamjaa
