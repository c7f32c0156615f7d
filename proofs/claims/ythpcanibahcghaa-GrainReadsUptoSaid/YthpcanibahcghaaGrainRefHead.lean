/- towlineref02.Head: a head as a string. -/
import Derived.Test.YthpcanibahcghaaGrainFns
import Derived.Test.YthpcanibahcghaaAppStr
set_option linter.unusedVariables false
namespace Go.Proofs.Ythpcanibahcghaa
open Go.RowKit
attribute [local go_sem ↓] cvt_eq

def strL (l : List UInt8) : ByteArray := ⟨l.toArray⟩
theorem strL_size (l : List UInt8) : (strL l).size = l.length := by simp [strL, ByteArray.size]
theorem strL_list (l : List UInt8) : (strL l).data.toList = l := by simp [strL]
theorem strL_append (l r : List UInt8) : strL l ++ strL r = strL (l ++ r) := by
  apply ByteArray.ext
  simp [strL, ByteArray.data_append]
theorem cvt_one (w : World) (x : UInt8) (c : Nat) : cvt (w.alloc (.cells #[.int .u8 (x.toNat : Int)] 5)) (some ⟨w.heap.size, 0, none⟩) 1 c = .ok (.string (strL [x])) (w.alloc (.cells #[.int .u8 (x.toNat : Int)] 5)) :=
  cvt_of (l := [x]) (Sl.one w (.int .u8 (x.toNat : Int)) 5) c

set_option maxHeartbeats 1000000 in
theorem refHead_any (k n : Nat) (w : World) (hk : k < 4) (hn : n < 2 ^ 64) :
    Calls Try.prog 29 #[.int .i64 (k : Int), .int .u64 (n : Int)] w fun e w' => e = .returned (.string (strL (headL k n))) ∧ Below w.heap.size w w' := by
  obtain ⟨R, hR⟩ : ∃ R, R = headL k n := ⟨_, rfl⟩
  rw [← hR]
  have hlen : R.length ≤ 10 := by rw [hR]; exact headL_length hn
  obtain ⟨x0, hx0⟩ : ∃ x0, x0 = n % 32 * 4 + k := ⟨_, rfl⟩
  have hx0l : x0 < 128 := by omega
  obtain ⟨q0, hq0⟩ : ∃ q0, q0 = n / 32 := ⟨_, rfl⟩
  have HRT := Lib.hid (show R = tailL x0 q0 by rw [hR, hx0, hq0]; rfl)
  have HX0 := Lib.hid hx0
  have HQ0 := Lib.hid hq0
  clear hR hx0 hq0
  go_enter Try.func29, Try.ntmps29
  go_wp2_with fail
  go_loopw [1, 5, 6] (fun s1 s5 s6 wr => ∃ (x q : Nat) (acc : List UInt8), s1 = .int .u64 (q : Int) ∧ s5 = .int .i64 (x : Int) ∧ s6 = .string (strL acc) ∧ x < 128 ∧ q < 2 ^ 64 ∧ Hid (acc ++ tailL x q = R) ∧ Below w.heap.size w wr)
    (fun s1 s5 s6 wr => (intOf s1).toNat)
  case atStart => exact ⟨x0, q0, [], by have := HQ0.out; go_num, by have := HX0.out; go_num, rfl, hx0l, by have := HQ0.out; omega, Lib.hid HRT.out.symm, Below.refl _ _⟩
  case round =>
    obtain ⟨x, q, acc, rfl, rfl, rfl, hx, hq64, HA, hbl⟩ := hrel
    have hal : acc.length ≤ R.length := by rw [← HA.out]; simp
    have hcat : ∀ y : UInt8, (strL acc).size + (strL [y]).size ≤ 9223372036854775807 := fun y => by rw [strL_size, strL_size]; simp; omega
    by_cases hq0 : 0 < q
    · have hqI : (0 : Int) < (q : Int) := by omega
      have ht := tailL_pos x (by omega : q ≠ 0)
      obtain ⟨y, hy⟩ : ∃ y : UInt8, y.toNat = x + 128 := ⟨UInt8.ofNat (x + 128), u8_ofNat (by omega)⟩
      have hye : UInt8.ofNat (x + 128) = y := u8_ext (by rw [u8_ofNat (by omega), hy])
      obtain ⟨q1, hq1⟩ : ∃ q1, q1 = q / 128 := ⟨_, rfl⟩
      obtain ⟨y1, hy1⟩ : ∃ y1, y1 = q % 128 := ⟨_, rfl⟩
      rw [hye, ← hy1, ← hq1] at ht
      have hyI : (x : Int) + 128 = (y.toNat : Int) := by omega
      have hy256 : (y.toNat : Int) % 256 = (y.toNat : Int) := by have := u8_lt y; omega
      have e128 : (q : Int) / 128 = (q1 : Int) := by omega
      have m128 : (q : Int) % 128 = (y1 : Int) := by omega
      have hcv := cvt_one wr y 1
      have happ := strL_append acc [y]
      have hcaty := hcat y
      clear hcat
      have hbl2 : Below w.heap.size w (wr.alloc (.cells #[.int .u8 (y.toNat : Int)] 5)) := hbl.alloc hbl.size _
      have hq1q : q1 < q := by omega
      have hy128 : y1 < 128 := by omega
      have hq164 : q1 < 2 ^ 64 := by omega
      have HA2 : Hid (acc ++ [y] ++ tailL y1 q1 = R) := Lib.hid (by rw [← HA.out, ht]; simp)
      clear hye hq1 hy1 ht HA hy
      go_wp2_with fail
      go_roundw
      case rel => exact ⟨y1, q1, acc ++ [y], by go_num, by go_num, rfl, hy128, hq164, HA2, hbl2⟩
      case measure => simp [intOf]; omega
    · obtain rfl : q = 0 := by omega
      have ha := HA.out
      rw [tailL_zero] at ha
      obtain ⟨y, hy⟩ : ∃ y : UInt8, y.toNat = x := ⟨UInt8.ofNat x, u8_ofNat (by omega)⟩
      have hye : UInt8.ofNat x = y := u8_ext (by rw [u8_ofNat (by omega), hy])
      have hyI : (x : Int) = (y.toNat : Int) := by omega
      rw [hye] at ha
      have hy256 : (y.toNat : Int) % 256 = (y.toNat : Int) := by have := u8_lt y; omega
      have hcv := cvt_one wr y 1
      have happ := strL_append acc [y]
      have hcaty := hcat y
      clear hcat
      rw [ha] at happ
      have hbl2 : Below w.heap.size w (wr.alloc (.cells #[.int .u8 (y.toNat : Int)] 5)) := hbl.alloc hbl.size _
      clear ha hye HA hy
      go_wp2_with fail
      go_ret
      exact ⟨rfl, hbl2⟩
end Go.Proofs.Ythpcanibahcghaa
