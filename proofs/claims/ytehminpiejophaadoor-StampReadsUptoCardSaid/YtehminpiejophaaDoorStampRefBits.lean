/- towlineref01.bits. -/
import Derived.Test.YtehminpiejophaaDoorStampRefDec
import Derived.OwnWalk
set_option linter.unusedVariables false
set_option linter.unusedSimpArgs false
set_option exponentiation.threshold 4000
namespace Go.Proofs.YtehminpiejophaaDoor
open Go.RowKit

/-- the rung of an odd number times a power of two -/
structure FinB (m : Nat) (p : Int) (r : Nat) : Prop where
  odd : m % 2 = 1
  lt : m < 9007199254740992
  lo : -1074 ≤ p
  hi : p ≤ 1023
  inf : r < infR
  val : m * 2 ^ (p + 1074).toNat = V r
def BitsPost (w : World) (m : Nat) (p : Int) (e : Ending) (w' : World) : Prop :=
  w' = w ∧ ((∃ r, FinB m p r ∧ e = .returned (.tuple #[.int .u64 (r : Int), .bool true])) ∨ ((∀ r, ¬ FinB m p r) ∧ e = .returned (.tuple #[.int .u64 0, .bool false])))
theorem V_inf : V infR = 4503599627370496 * 2 ^ 2046 := by
  rw [V_norm (by unfold infR; omega)]
  rfl
theorem V_mk {m e : Nat} (h1 : 4503599627370496 ≤ m) (h2 : m < 9007199254740992) : V (m - 4503599627370496 + (e + 1) * 4503599627370496) = m * 2 ^ e := by
  rw [V_norm (by omega)]
  have e1 : (m - 4503599627370496 + (e + 1) * 4503599627370496) % 4503599627370496 = m - 4503599627370496 := by omega
  have e2 : (m - 4503599627370496 + (e + 1) * 4503599627370496) / 4503599627370496 = e + 1 := by omega
  rw [e1, e2, Nat.add_sub_cancel, show 4503599627370496 + (m - 4503599627370496) = m by omega]
theorem V_great {m e r : Nat} (h1 : 4503599627370496 ≤ m) (h2 : 2046 ≤ e) (hr : r < infR) : m * 2 ^ e ≠ V r := by
  intro h
  have a := V_lt hr
  rw [V_inf] at a
  have b : 4503599627370496 * 2 ^ 2046 ≤ m * 2 ^ e := Nat.mul_le_mul h1 (Nat.pow_le_pow_right (by decide) h2)
  rw [h] at b
  exact absurd a (Nat.not_lt.2 b)

set_option maxRecDepth 100000 in
set_option maxHeartbeats 4000000 in
theorem refBitsOf_any (m0 : Nat) (p : Int) (w : World) (hm0 : m0 < 18446744073709551616) (hp1 : -9223372036854775808 ≤ p) (hp2 : p ≤ 9223372036854775807) :
    Calls Tryd.prog 29 #[.int .u64 (m0 : Int), .int .i64 p] w (BitsPost w m0 p) := by
  by_cases hodd : m0 % 2 = 0
  · have HNO := Lib.hid (show ∀ r, ¬ FinB m0 p r from fun r h => by have := h.odd; omega)
    have hI : (m0 : Int) % 2 = 0 := by omega
    go_enter Tryd.func29, Tryd.ntmps29
    go_wp2_with fail
    go_ret2
    exact ⟨by first | rfl | exact True.intro, .inr ⟨HNO.out, rfl⟩⟩
  · have hI : (m0 : Int) % 2 = 1 := by omega
    by_cases hbig : 9007199254740992 ≤ m0
    · have HNO := Lib.hid (show ∀ r, ¬ FinB m0 p r from fun r h => by have := h.lt; omega)
      have hbI : (9007199254740992 : Int) ≤ (m0 : Int) := by omega
      clear hm0 hp1 hp2
      go_enter Tryd.func29, Tryd.ntmps29
      go_wp2_with fail
      go_ret2
      exact ⟨by first | rfl | exact True.intro, .inr ⟨HNO.out, rfl⟩⟩
    · have hbI : ¬ (9007199254740992 : Int) ≤ (m0 : Int) := by omega
      by_cases hlo : p < -1074
      · have HNO := Lib.hid (show ∀ r, ¬ FinB m0 p r from fun r h => by have := h.lo; omega)
        clear hm0 hp1 hp2
        go_enter Tryd.func29, Tryd.ntmps29
        go_wp2_with fail
        go_ret2
        exact ⟨by first | rfl | exact True.intro, .inr ⟨HNO.out, rfl⟩⟩
      · by_cases hhi : 1023 < p
        · have HNO := Lib.hid (show ∀ r, ¬ FinB m0 p r from fun r h => by have := h.hi; omega)
          clear hm0 hp1 hp2
          go_enter Tryd.func29, Tryd.ntmps29
          go_wp2_with fail
          go_ret2
          exact ⟨by first | rfl | exact True.intro, .inr ⟨HNO.out, rfl⟩⟩
        · obtain ⟨e0, he0⟩ : ∃ e0 : Nat, e0 = (p + 1074).toNat := ⟨_, rfl⟩
          have hpe : p + 1074 = (e0 : Int) := by omega
          have HF := Lib.hid (show ∀ r, FinB m0 p r ↔ r < infR ∧ m0 * 2 ^ e0 = V r from fun r => ⟨fun h => ⟨h.inf, by rw [he0]; exact h.val⟩, fun h => ⟨by omega, by omega, by omega, by omega, h.1, by rw [← he0]; exact h.2⟩⟩)
          have hm01 : 0 < m0 := by omega
          have hm02 : m0 < 9007199254740992 := by omega
          have he02 : e0 ≤ 2097 := by omega
          clear he0 hm0 hp1 hp2
          go_enter Tryd.func29, Tryd.ntmps29
          go_wp2_with fail
          clear hpe hI hbI hbig hlo hhi hodd
          go_loopw [0, 6] (fun s0 s6 wr => ∃ m e : Nat, 0 < m ∧ m < 9007199254740992 ∧ e ≤ 2097 ∧ s0 = .int .u64 (m : Int) ∧ s6 = .int .i64 (e : Int) ∧ Hid (m * 2 ^ e = m0 * 2 ^ e0) ∧ wr = w) (fun s0 s6 wr => (intOf s6).toNat)
          case atStart => exact ⟨m0, e0, hm01, hm02, he02, rfl, by first | rfl | go_num, Lib.hid rfl, rfl⟩
          case round =>
            obtain ⟨m, e, hm1, hm2, he, rfl, rfl, HE, rfl⟩ := hrel
            clear hm01 hm02 he02
            by_cases hsm : m < 4503599627370496
            · have hsI : (m : Int) < 4503599627370496 := by omega
              by_cases he0 : 0 < e
              · have heI : (0 : Int) < (e : Int) := by omega
                obtain ⟨e', rfl⟩ : ∃ e', e = e' + 1 := ⟨e - 1, by omega⟩
                obtain ⟨m', hm'⟩ : ∃ m', m' = m * 2 := ⟨_, rfl⟩
                have hmI : (m : Int) * 2 = (m' : Int) := by omega
                have HE2 := Lib.hid (show m' * 2 ^ e' = m0 * 2 ^ e0 by rw [← HE.out, hm', Nat.pow_succ, Nat.mul_assoc, Nat.mul_comm 2])
                have h1 : 0 < m' := by omega
                have h2 : m' < 9007199254740992 := by omega
                clear hm' HE
                go_wp2_with fail
                go_roundw
                case rel => exact ⟨m', e', h1, h2, by omega, by first | rfl | rw [hmI], by go_num, HE2, by first | rfl | exact True.intro⟩
                case measure => simp [intOf]
              · obtain rfl : e = 0 := by omega
                have HR := Lib.hid (show FinB m0 p m from (HF.out m).2 ⟨by unfold infR; omega, by rw [← HE.out]; unfold V; rw [if_pos hsm]; simp⟩)
                clear HE
                go_wp2_with fail
                go_ret2
                exact ⟨by first | rfl | exact True.intro, .inl ⟨m, HR.out, rfl⟩⟩
            · have hsI : ¬ (m : Int) < 4503599627370496 := by omega
              by_cases hov : 2046 < e + 1
              · have HNO := Lib.hid (show ∀ r, ¬ FinB m0 p r from fun r h => by
                  obtain ⟨h1, h2⟩ := (HF.out r).1 h
                  rw [← HE.out] at h2
                  exact V_great (by omega) (by omega) h1 h2)
                have hoI : (2046 : Int) < (e : Int) + 1 := by omega
                clear HE
                go_wp2_with fail
                go_ret2
                exact ⟨by first | rfl | exact True.intro, .inr ⟨HNO.out, rfl⟩⟩
              · have hoI : ¬ (2046 : Int) < (e : Int) + 1 := by omega
                obtain ⟨r, hr⟩ : ∃ r, r = m - 4503599627370496 + (e + 1) * 4503599627370496 := ⟨_, rfl⟩
                have HR := Lib.hid (show FinB m0 p r from (HF.out r).2 ⟨by rw [hr]; unfold infR; omega, by rw [← HE.out, hr]; exact (V_mk (by omega) hm2).symm⟩)
                obtain ⟨a, ha⟩ : ∃ a, a = m - 4503599627370496 := ⟨_, rfl⟩
                obtain ⟨b, hb⟩ : ∃ b, b = (e + 1) * 4503599627370496 := ⟨_, rfl⟩
                have haI : (m : Int) - 4503599627370496 = (a : Int) := by omega
                have hbI : ((e : Int) + 1) * 4503599627370496 = (b : Int) := by omega
                have habI : (a : Int) + (b : Int) = (r : Int) := by omega
                have ha2 : a < 4503599627370496 := by omega
                have hb2 : b < 9223372036854775808 := by omega
                have hr2 : r < 9223372036854775808 := by omega
                clear HE hr ha hb
                go_wp2_with fail
                go_ret2
                exact ⟨by first | rfl | exact True.intro, .inl ⟨r, HR.out, rfl⟩⟩
end Go.Proofs.YtehminpiejophaaDoor
