/- lengths: how long chunks are. -/
import Derived.Test.YtdleobdbicdmoaaGearRefCut
set_option linter.unusedVariables false
namespace Go.Proofs.Ytdleobdbicdmoaa
open Go.RowKit

set_option maxHeartbeats 400000 in
theorem lengths_any (A : Option Addr) (n c : Nat) (vs : List Value) (ls : List (List UInt8)) (w : World) (hs : Sl w 1 A n vs) (hv : AllB w vs ls) (hn : n ≤ 100000000) :
    Calls Try.prog 19 #[.slice A n c] w (NatsPost 3 w (ls.map List.length)) := by
  have hl : ls.length = n := by have := hs.1; have := hv.1; omega
  have HL := Lib.hid hl
  clear hl
  go_enter Try.func19, Try.ntmps19
  go_wp2_with fail
  go_loopw [3, 8] (fun o i wr => ∃ (k : Nat) (Ao : Option Addr) (co : Nat), k ≤ n ∧ i = .int .i64 k ∧ o = .slice Ao k co ∧
      wr.ownsRow w.heap.size 3 1 (.slice Ao k co) k (natsV ((ls.take k).map List.length)) ∧ Below w.heap.size w wr) (fun _ i _ => n - (intOf i).toNat)
  case atStart => exact ⟨0, none, 0, by omega, rfl, rfl, World.ownsRow_nil _ _ _ _, Below.refl _ _⟩
  case round =>
    obtain ⟨k, Ao, co, hk, rfl, rfl, hown, hbr⟩ := hrel
    by_cases hlt : k < n
    · obtain ⟨b, off, A', c', l, rfl, hb, hc, hlk, hsl, hl1, hl2⟩ := hv.look hs hlt
      have hcr := (hbr.cell (p := ⟨b, off + k, none⟩) hb).trans hc
      obtain ⟨A2, c2, w2, hrun, hap, hc1, hc2⟩ := append_sl elemInt (hown.alloc (.cells #[.int .i64 (l.length : Int)] 3)) (Sl.one wr (.int .i64 (l.length : Int)) 3) (by simp; rfl) (by omega) (by simp only [maxLen]; omega) (by have := hbr.size; simp; omega) 26 1
      have hown2 := hap.own
      have hb2 := (hbr.alloc hbr.size (.cells #[.int .i64 (l.length : Int)] 3)).trans hap.below
      have own2' : w2.ownsRow w.heap.size 3 1 (.slice A2 (k + 1) c2) (k + 1) (natsV ((ls.take (k + 1)).map List.length)) := by
        rw [List.take_add_one, hlk]
        simpa [natsV] using hown2
      have O2 := Lib.hid own2'
      clear hc hlk hsl hown hap hs hv hown2 own2' hl1 hl2
      go_wp2_with (at_builtin; refine wpList_run_append hrun ?_ ?_ ?_; exact rfl; exact rfl)
      go_roundw
      case rel => exact ⟨k + 1, A2, c2, by omega, by go_num, rfl, O2.out, hb2⟩
      case measure => simp [intOf]; omega
    · have hkn : k = n := by omega
      have hT : ls.take k = ls := List.take_of_length_le (by rw [HL.out]; omega)
      have hlen : (ls.map List.length).length = k := by rw [List.length_map, HL.out, hkn]
      have HT := Lib.hid hT
      have HLE := Lib.hid hlen
      clear hT hkn hlen
      go_wp2_with fail
      go_ret
      rw [HT.out] at hown
      unfold NatsPost
      rw [HLE.out]
      exact ⟨Ao, co, rfl, hown, hbr⟩
end Go.Proofs.Ytdleobdbicdmoaa
