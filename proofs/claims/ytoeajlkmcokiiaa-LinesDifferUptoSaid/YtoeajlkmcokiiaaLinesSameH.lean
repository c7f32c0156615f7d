/- The law's own same: two lists of hunks. Shown where they are alike. -/
import Derived.Test.YtoeajlkmcokiiaaHunks
import Derived.Test.YtoeajlkmcokiiaaLinesStr
import Derived.Deep.RegionWith
set_option linter.unusedVariables false
namespace Go.Proofs.Ytoeajlkmcokiiaa
open Go.RowKit

set_option maxHeartbeats 4000000 in
theorem sameHk_any (A B : Option Addr) (n c d : Nat) (hs : List Hk) (w : World) (ha : SlOf hkR w none A hs) (hb : SlOf hkR w none B hs) (hl : hs.length = n) (hn : n ≤ 1000000000) (hsz : ∀ h ∈ hs, h.2.1.length ≤ 1000000000 ∧ h.2.2.length ≤ 1000000000) :
    Calls Try.prog 14 #[.slice A n c, .slice B n d] w fun e w' => e = .returned (.bool true) ∧ Same w w' := by
  have HL := Lib.hid hl
  have HS := Lib.hid hsz
  clear hl hsz
  go_enter Try.func14, Try.ntmps14
  go_wp2_with fail
  go_loopw [13] (fun i wr => ∃ k : Nat, k ≤ n ∧ i = .int .i64 k ∧ Same w wr) (fun i _ => n - (intOf i).toNat)
  case atStart => exact ⟨0, by omega, rfl, Same.refl _⟩
  case round =>
    obtain ⟨k, hk, rfl, hs⟩ := hrel
    by_cases hlt : k < n
    · obtain ⟨b1, o1, z, l1, l2, A1, A2, c1, c2, rfl, hb1, hx, hwf, k0, k1, k2, hc1, hm1, hs1, hc2, hm2, hs2⟩ := hk_look (ha.below (hs.below _)) HL.out hlt
      obtain ⟨b2, o2, z', l1', l2', A3, A4, c3, c4, rfl, hb2, hx', hwf', j0, j1, j2, hc3, hm3, hs3, hc4, hm4, hs4⟩ := hk_look (hb.below (hs.below _)) HL.out hlt
      have hsz := HS.out _ (List.mem_of_getElem? hx)
      rw [hx] at hx'
      injection hx' with hx'
      injection hx' with e1 hx'
      injection hx' with e2 e3
      subst e1 e2 e3
      have hz1 := hsz.1
      have hz2 := hsz.2
      simp only at hz1 hz2
      have q1 := fun q => refSame_any A1 A3 l1.length c1 l1.length c3 l1 l1 (wr.drewN q) hs1.str hs3.str hz1 hz1
      have q2 := fun q => refSame_any A2 A4 l2.length c2 l2.length c4 l2 l2 (wr.drewN q) hs2.str hs4.str hz2 hz2
      rw [sameS_self] at q1 q2
      have Q1 := Lib.hid q1
      have Q2 := Lib.hid q2
      have hlt' : (k : Int) < (n : Int) := by omega
      clear q1 q2 hx hwf hwf' hs1 hs2 hs3 hs4 ha hb hsz
      go_wp2_with fail
      go_quiet (first | (go_at_call_of 18 (Value.slice A1 l1.length c1); exact quiet_s (Q1.out _)) | (go_at_call_of 18 (Value.slice A2 l2.length c2); exact quiet_s (Q2.out _)))
      go_wp2_with fail
      go_roundw
      case rel => exact ⟨k + 1, by omega, by go_num, hs.drewN _⟩
      case measure => simp [intOf]; omega
    · have hlt' : ¬ (k : Int) < (n : Int) := by omega
      go_wp2_with fail
      go_ret
      exact ⟨rfl, hs⟩
end Go.Proofs.Ytoeajlkmcokiiaa
