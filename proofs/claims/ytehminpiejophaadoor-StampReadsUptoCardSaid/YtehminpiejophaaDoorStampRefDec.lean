/- towlineref01.Decimal: a number's digits. -/
import Derived.Test.YtehminpiejophaaDoorStampInj
set_option linter.unusedVariables false
set_option linter.unusedSimpArgs false
namespace Go.Proofs.YtehminpiejophaaDoor
open Go.RowKit

set_option maxRecDepth 100000 in
theorem ten_cut {a : Nat} (h : a < 10) : (⟨#[48, 49, 50, 51, 52, 53, 54, 55, 56, 57]⟩ : ByteArray).extract a (a + 1) = strL [UInt8.ofNat (48 + a)] := by
  have e : a = 0 ∨ a = 1 ∨ a = 2 ∨ a = 3 ∨ a = 4 ∨ a = 5 ∨ a = 6 ∨ a = 7 ∨ a = 8 ∨ a = 9 := by omega
  rcases e with rfl | rfl | rfl | rfl | rfl | rfl | rfl | rfl | rfl | rfl <;> (apply ByteArray.ext; simp [strL])
theorem strL_append (l r : List UInt8) : strL l ++ strL r = strL (l ++ r) := by
  apply ByteArray.ext
  simp [strL, ByteArray.data_append]
theorem dec_small {m : Nat} (h : m ≤ 9) : Lib.decDigits m = [UInt8.ofNat (48 + m)] := by rw [Lib.decDigits, dif_pos (by omega)]
theorem dec_great {m : Nat} (h : 9 < m) : Lib.decDigits m = Lib.decDigits (m / 10) ++ [UInt8.ofNat (48 + m % 10)] := by
  rw [Lib.decDigits, dif_neg (by omega)]

set_option maxRecDepth 100000 in
set_option maxHeartbeats 4000000 in
theorem refDec_any (n : Nat) (w : World) (hn : n < 18446744073709551616) : Calls Tryd.prog 32 #[.int .u64 (n : Int)] w fun e w' => e = .returned (.string (strL (Lib.decDigits n))) ∧ Below w.heap.size w w' := by
  obtain ⟨R, hR⟩ : ∃ R, R = Lib.decDigits n := ⟨_, rfl⟩
  rw [← hR]
  have hlen : R.length ≤ 20 := by
    have := dec_size hn
    have e : (⟨(Lib.decDigits n).toArray⟩ : ByteArray).size = (Lib.decDigits n).length := by show (Lib.decDigits n).toArray.size = _; rw [List.size_toArray]
    rw [hR]; omega
  have HR0 := Lib.hid (show Lib.decDigits n ++ [] = R by rw [hR, List.append_nil])
  clear hR
  go_enter Tryd.func32, Tryd.ntmps32
  go_wp2_with fail
  go_loopw [0, 3] (fun s0 s3 wr => ∃ (m : Nat) (acc : List UInt8), s0 = .int .u64 (m : Int) ∧ s3 = .string (strL acc) ∧ m < 18446744073709551616 ∧ Hid (Lib.decDigits m ++ acc = R) ∧ wr = w) (fun s0 s3 wr => (intOf s0).toNat)
  case atStart => exact ⟨n, [], rfl, rfl, hn, HR0, rfl⟩
  case round =>
    obtain ⟨m, acc, rfl, rfl, hm, HA, rfl⟩ := hrel
    have hal : acc.length ≤ 20 := by have := congrArg List.length HA.out; rw [List.length_append] at this; omega
    by_cases h9 : 9 < m
    · have h9I : (9 : Int) < (m : Int) := by omega
      obtain ⟨a, ha⟩ : ∃ a, a = m % 10 := ⟨_, rfl⟩
      obtain ⟨q, hq⟩ : ∃ q, q = m / 10 := ⟨_, rfl⟩
      have e1 : (m : Int) % 10 = (a : Int) := by omega
      have e2 : (m : Int) / 10 = (q : Int) := by omega
      have ha10 : a < 10 := by omega
      have HN := Lib.hid (show Lib.decDigits q ++ ([UInt8.ofNat (48 + a)] ++ acc) = R by
        have := HA.out
        rw [dec_great h9, ← ha, ← hq, List.append_assoc] at this
        exact this)
      have hql : q < 18446744073709551616 := by omega
      have hqm : q < m := by omega
      have d1 := ten_cut ha10
      have hap := strL_append [UInt8.ofNat (48 + a)] acc
      have hsz : (strL [UInt8.ofNat (48 + a)]).size + (strL acc).size ≤ 9223372036854775807 := by rw [strL_size, strL_size]; simp; omega
      have hap : strL [UInt8.ofNat (48 + a)] ++ strL acc = strL (UInt8.ofNat (48 + a) :: acc) := hap
      have HN := Lib.hid (show Lib.decDigits q ++ (UInt8.ofNat (48 + a) :: acc) = R from HN.out)
      generalize UInt8.ofNat (48 + a) = cc at *
      have a2 : (a : Int) + 1 ≤ 10 := by omega
      have a3 : (0 : Int) ≤ (a : Int) := by omega
      have a4 : (0 : Int) ≤ (a : Int) + 1 := by omega
      have a5 : (a : Int) ≤ (a : Int) + 1 := by omega
      have a6 : ((a : Int) + 1).toNat = a + 1 := by omega
      generalize strL [cc] = dd at *
      clear ha hq HA
      go_wp2_with fail
      go_roundw
      case rel => exact ⟨q, cc :: acc, by go_num, rfl, hql, HN, trivial⟩
      case measure => simp [intOf]; omega
    · have h9I : ¬ (9 : Int) < (m : Int) := by omega
      have HN := Lib.hid (show [UInt8.ofNat (48 + m)] ++ acc = R by
        have := HA.out
        rw [dec_small (by omega)] at this
        exact this)
      have d1 := ten_cut (show m < 10 by omega)
      have hap := strL_append [UInt8.ofNat (48 + m)] acc
      rw [HN.out] at hap
      have hsz : (strL [UInt8.ofNat (48 + m)]).size + (strL acc).size ≤ 9223372036854775807 := by rw [strL_size, strL_size]; simp; omega
      have a2 : (m : Int) + 1 ≤ 10 := by omega
      have a3 : (0 : Int) ≤ (m : Int) := by omega
      have a4 : (0 : Int) ≤ (m : Int) + 1 := by omega
      have a5 : (m : Int) ≤ (m : Int) + 1 := by omega
      have a6 : ((m : Int) + 1).toNat = m + 1 := by omega
      generalize strL [UInt8.ofNat (48 + m)] = dd at *
      clear HA
      go_wp2_with fail
      go_ret
      exact ⟨rfl, Below.refl _ _⟩
end Go.Proofs.YtehminpiejophaaDoor
