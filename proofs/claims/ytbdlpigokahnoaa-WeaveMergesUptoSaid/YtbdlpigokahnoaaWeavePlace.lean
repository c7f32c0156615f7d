/- place of the document's merge. -/
import Derived.Test.YtbdlpigokahnoaaWeaveRefLaw
import Derived.Test.YtbdlpigokahnoaaLinesRefPairs
set_option linter.unusedVariables false
namespace Go.Proofs.Ytbdlpigokahnoaa
open Go.RowKit

set_option maxHeartbeats 1000000 in
theorem place_any (A : Option Addr) (n c : Nat) (l : List (Nat × Nat)) (k : Nat) (w : World) (hs : Sl w 2 A n (pairV l)) (hl : l.length = n) (hn : n ≤ 1000000) (hk : k ≤ 1000000) :
    Calls Try.prog 38 #[.slice A n c, .int .i64 (k : Int)] w fun e w' => e = .returned (.int .i64 (placeI l k)) ∧ w = w' := by
  have HS := Lib.hid hs
  have HL := Lib.hid hl
  clear hs hl
  go_enter Try.func38, Try.ntmps38
  go_wp2_with fail
  go_loop [5] (fun i => ∃ K : Nat, i = .int .i64 K ∧ K ≤ n ∧ Hid (placeG l k = placeG (l.drop K) k)) (fun i => n - (intOf i).toNat)
  case atStart => exact ⟨0, rfl, Nat.zero_le _, Lib.hid rfl⟩
  case round =>
    obtain ⟨K, rfl, hK, HP⟩ := hrel
    by_cases hlt : K < n
    · obtain ⟨b, off, p, q, rfl, hb, hx, c0, c1⟩ := pair_look HS.out HL.out hlt
      have hlt' : (K : Int) < (n : Int) := by omega
      have hk1 : IntKind.i64.wrap ((K : Int) + 1) = (K : Int) + 1 := IntWalk.i64_in _ (by omega)
      have hd : l.drop K = (p, q) :: l.drop (K + 1) := by
        obtain ⟨hi, e⟩ := List.getElem?_eq_some_iff.1 hx
        rw [← e]; exact List.drop_eq_getElem_cons hi
      have hP := HP.out
      rw [hd, placeG] at hP
      simp only at hP
      clear hx hd HP
      by_cases he : p = k
      · subst he
        rw [if_pos rfl] at hP
        have HQ := Lib.hid (show placeI l p = (q : Int) by unfold placeI; rw [hP])
        clear hP
        go_wp2_with fail
        go_ret
        exact ⟨by rw [HQ.out]; rfl, rfl⟩
      · rw [if_neg he] at hP
        have HQ := Lib.hid hP
        have t1 : ((p : Int) == (k : Int)) = false := by rw [beq_eq_false_iff_ne]; omega
        have t2 : decide ((p : Int) = (k : Int)) = false := by rw [decide_eq_false_iff_not]; omega
        have t3 : decide (p = k) = false := by simpa using he
        clear hP he
        go_wp2_with fail
        go_round
        case rel => exact ⟨K + 1, by go_num, by omega, HQ⟩
        case measure => simp [intOf]; omega
    · obtain rfl : K = n := by omega
      have hP := HP.out
      rw [List.drop_eq_nil_of_le (by rw [HL.out]; exact Nat.le_refl _)] at hP
      have HQ := Lib.hid (show placeI l k = -1 by unfold placeI; rw [hP]; rfl)
      clear hP HP
      go_wp2_with fail
      go_ret
      exact ⟨by rw [HQ.out]; rfl, rfl⟩
end Go.Proofs.Ytbdlpigokahnoaa
