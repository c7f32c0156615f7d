/- stamp: Canon, Key, Compare; the reference's Bits, Key, Before. -/
import Derived.Test.YtehminpiejophaaDoorFltOrder
import Derived.Test.YtehminpiejophaaDoorRegion
import Derived.Laws.Externs
import Derived.Laws.Cover2
import Derived.Laws.BitsAllLaws
import Derived.Deep.DeepCutAuto
import Derived.Deep.CutBlock
set_option linter.unusedVariables false
set_option linter.unusedSimpArgs false
namespace Go.Proofs.YtehminpiejophaaDoor
open Go.RowKit

theorem ext_bits (b : Nat) (w : World) : (callFunc 14 #[.float .f64 b]).run Tryd.prog w = .ok (.value (.int .u64 (b : Int))) w := by
  rw [run_callFunc_extern Tryd.func14 (by kernel_rfl) (by kernel_rfl) (by kernel_rfl) (e := Extern.MathFloatBits.float64bits) (by kernel_rfl)]; rfl
theorem ext_from (n : Int) (w : World) : (callFunc 25 #[.int .u64 n]).run Tryd.prog w = .ok (.value (.float .f64 n.toNat)) w := by
  rw [run_callFunc_extern Tryd.func25 (by kernel_rfl) (by kernel_rfl) (by kernel_rfl) (e := Extern.MathFloatBits.float64frombits) (by kernel_rfl)]; rfl

theorem xor_ones {c : Nat} (hc : c < 18446744073709551616) : bits .xor .u64 IntKind.u64.max (c : Int) = ((18446744073709551615 - c : Nat) : Int) := by
  have e : IntKind.u64.max = ((18446744073709551615 : Nat) : Int) := rfl
  rw [e, u64_xor_nat _ _ (by decide) hc]
  congr 1
  have h := BitVec.toNat_xor (BitVec.allOnes 64) (BitVec.ofNat 64 c)
  rw [BitVec.allOnes_xor, BitVec.toNat_not, BitVec.toNat_allOnes, BitVec.toNat_ofNat] at h
  have h2 : c % 2 ^ 64 = c := Nat.mod_eq_of_lt hc
  rw [h2] at h
  exact h.symm
theorem or_top {c : Nat} (hc : c < 9223372036854775808) : bits .or .u64 (c : Int) 9223372036854775808 = ((c + 9223372036854775808 : Nat) : Int) := by
  have e : (9223372036854775808 : Int) = ((9223372036854775808 : Nat) : Int) := rfl
  rw [e, u64_or_nat _ _ (by omega) (by decide), Nat.or_comm, nat_join 63 _ _ (by decide) hc, Nat.add_comm]

theorem canon_any (b : Nat) (w : World) : Calls Tryd.prog 15 #[.float .f64 b] w fun e w' => e = .returned (.float .f64 (canonB b)) ∧ Below w.heap.size w w' := by
  have hf := ext_from
  by_cases hn : isNan b = true
  · have hc : canonB b = nanB := by simp [canonB, hn]
    have hn' : (FloatKind.f64.format.order b b != some .eq) = true := hn
    rw [hc]
    clear hc hn
    go_enter Tryd.func15, Tryd.ntmps15
    go_wp2_with fail
    go_ret
    exact ⟨rfl, Below.refl _ _⟩
  · have hc : canonB b = b := by simp [canonB, hn]
    have hn' : (FloatKind.f64.format.order b b != some .eq) = false := by simpa [isNan] using hn
    rw [hc]
    clear hc hn hf
    go_enter Tryd.func15, Tryd.ntmps15
    go_wp2_with fail
    go_ret
    exact ⟨rfl, Below.refl _ _⟩

theorem refBits_any (b : Nat) (w : World) : Calls Tryd.prog 16 #[.float .f64 b] w fun e w' => e = .returned (.int .u64 (canonB b : Int)) ∧ Below w.heap.size w w' := by
  have hf := ext_bits
  by_cases hn : isNan b = true
  · have hc : canonB b = nanB := by simp [canonB, hn]
    have hn' : (FloatKind.f64.format.order b b != some .eq) = true := hn
    rw [hc]
    clear hc hn
    go_enter Tryd.func16, Tryd.ntmps16
    go_wp2_with fail
    go_ret
    exact ⟨rfl, Below.refl _ _⟩
  · have hc : canonB b = b := by simp [canonB, hn]
    have hn' : (FloatKind.f64.format.order b b != some .eq) = false := by simpa [isNan] using hn
    rw [hc]
    clear hc hn
    go_enter Tryd.func16, Tryd.ntmps16
    go_wp2_with fail
    go_ret
    exact ⟨rfl, Below.refl _ _⟩

set_option maxRecDepth 100000 in
theorem key_any (b : Nat) (w : World) (hb : b < 2 ^ 64) : Calls Tryd.prog 11 #[.float .f64 b] w fun e w' => e = .returned (.int .u64 (keyB b : Int)) ∧ Below w.heap.size w w' := by
  have hf := ext_bits
  have HC := Lib.hid (canon_any b w)
  obtain ⟨c, hc⟩ : ∃ c, c = canonB b := ⟨_, rfl⟩
  have hcl : c < 18446744073709551616 := by rw [hc]; exact canonB_lt hb
  rw [← hc] at HC
  by_cases h : 9223372036854775808 ≤ c
  · have HK := Lib.hid (show keyB b = 18446744073709551615 - c by unfold keyB; rw [← hc]; simp only []; rw [if_pos h])
    clear hc
    go_enter Tryd.func11, Tryd.ntmps11
    go_wp2_with fail
    refine HC.out.mono ?_
    rintro e w2 ⟨rfl, hb2⟩
    have HB := Lib.hid hb2
    clear hb2
    go_wp2_with fail
    go_ret
    refine ⟨?_, HB.out⟩
    rw [HK.out, ← xor_ones hcl]; rfl
  · have HK := Lib.hid (show keyB b = c + 9223372036854775808 by unfold keyB; rw [← hc]; simp only []; rw [if_neg h])
    clear hc
    go_enter Tryd.func11, Tryd.ntmps11
    go_wp2_with fail
    refine HC.out.mono ?_
    rintro e w2 ⟨rfl, hb2⟩
    have HB := Lib.hid hb2
    clear hb2
    go_wp2_with fail
    go_ret
    refine ⟨?_, HB.out⟩
    rw [HK.out, ← or_top (by omega)]; rfl

theorem compare_any (a b : Nat) (w : World) (ha : a < 2 ^ 64) (hb : b < 2 ^ 64) : Calls Tryd.prog 13 #[.float .f64 a, .float .f64 b] w fun e w' => e = .returned (.int .i64 (cmpB a b)) ∧ Below w.heap.size w w' := by
  have HA := Lib.hid (fun w => key_any a w ha)
  have HB := Lib.hid (fun w => key_any b w hb)
  obtain ⟨x, hx⟩ : ∃ x, x = keyB a := ⟨_, rfl⟩
  obtain ⟨y, hy⟩ : ∃ y, y = keyB b := ⟨_, rfl⟩
  obtain ⟨z, hz⟩ : ∃ z, z = cmpB a b := ⟨_, rfl⟩
  have HZ := Lib.hid (show z = if x < y then -1 else if y < x then 1 else 0 by rw [hz, hx, hy]; rfl)
  rw [← hx] at HA
  rw [← hy] at HB
  rw [← hz]
  clear hx hy hz ha hb
  by_cases h1 : x < y
  · have h1I : (x : Int) < (y : Int) := by omega
    have HR := Lib.hid (show z = -1 by rw [HZ.out, if_pos h1])
    go_enter Tryd.func13, Tryd.ntmps13
    go_wp2_with fail
    refine (HA.out _).mono ?_
    rintro e w2 ⟨rfl, hb2⟩
    have HB2 := Lib.hid hb2
    clear hb2
    go_wp2_with fail
    refine (HB.out _).mono ?_
    rintro e w3 ⟨rfl, hb3⟩
    have HB3 := Lib.hid (HB2.out.trans (hb3.mono HB2.out.size))
    clear hb3
    go_wp2_with fail
    go_ret
    rw [HR.out]
    exact ⟨rfl, HB3.out⟩
  · have h1I : ¬ (x : Int) < (y : Int) := by omega
    by_cases h2 : y < x
    · have h2I : (y : Int) < (x : Int) := by omega
      have HR := Lib.hid (show z = 1 by rw [HZ.out, if_neg h1, if_pos h2])
      go_enter Tryd.func13, Tryd.ntmps13
      go_wp2_with fail
      refine (HA.out _).mono ?_
      rintro e w2 ⟨rfl, hb2⟩
      have HB2 := Lib.hid hb2
      clear hb2
      go_wp2_with fail
      refine (HB.out _).mono ?_
      rintro e w3 ⟨rfl, hb3⟩
      have HB3 := Lib.hid (HB2.out.trans (hb3.mono HB2.out.size))
      clear hb3
      go_wp2_with fail
      go_ret
      rw [HR.out]
      exact ⟨rfl, HB3.out⟩
    · have h2I : ¬ (y : Int) < (x : Int) := by omega
      have HR := Lib.hid (show z = 0 by rw [HZ.out, if_neg h1, if_neg h2])
      go_enter Tryd.func13, Tryd.ntmps13
      go_wp2_with fail
      refine (HA.out _).mono ?_
      rintro e w2 ⟨rfl, hb2⟩
      have HB2 := Lib.hid hb2
      clear hb2
      go_wp2_with fail
      refine (HB.out _).mono ?_
      rintro e w3 ⟨rfl, hb3⟩
      have HB3 := Lib.hid (HB2.out.trans (hb3.mono HB2.out.size))
      clear hb3
      go_wp2_with fail
      go_ret
      rw [HR.out]
      exact ⟨rfl, HB3.out⟩

set_option maxRecDepth 100000 in
theorem refKey_any (b : Nat) (w : World) (hb : b < 2 ^ 64) : Calls Tryd.prog 12 #[.float .f64 b] w fun e w' => e = .returned (.int .u64 (keyB b : Int)) ∧ Below w.heap.size w w' := by
  have HC := Lib.hid (refBits_any b w)
  obtain ⟨c, hc⟩ : ∃ c, c = canonB b := ⟨_, rfl⟩
  have hcl : c < 18446744073709551616 := by rw [hc]; exact canonB_lt hb
  rw [← hc] at HC
  by_cases h : 9223372036854775808 ≤ c
  · have HK := Lib.hid (show keyB b = 18446744073709551615 - c by unfold keyB; rw [← hc]; simp only []; rw [if_pos h])
    have hI : (9223372036854775808 : Int) ≤ (c : Int) := by omega
    have hw : IntKind.u64.wrap (18446744073709551615 - (c : Int)) = ((18446744073709551615 - c : Nat) : Int) := by rw [IntKind.wrap_u64]; omega
    clear hc
    go_enter Tryd.func12, Tryd.ntmps12
    go_wp2_with fail
    refine HC.out.mono ?_
    rintro e w2 ⟨rfl, hb2⟩
    have HB := Lib.hid hb2
    clear hb2
    go_wp2_with fail
    go_ret
    refine ⟨?_, HB.out⟩
    rw [HK.out]
    congr 2
  · have HK := Lib.hid (show keyB b = c + 9223372036854775808 by unfold keyB; rw [← hc]; simp only []; rw [if_neg h])
    have hI : ¬ (9223372036854775808 : Int) ≤ (c : Int) := by omega
    obtain ⟨k, hk⟩ : ∃ k, k = c + 9223372036854775808 := ⟨_, rfl⟩
    have hw : IntKind.u64.wrap ((c : Int) + 9223372036854775808) = (k : Int) := by rw [IntKind.wrap_u64]; omega
    have HK2 := Lib.hid (show keyB b = k by rw [hk, HK.out])
    have hlt : (c : Int) < 9223372036854775808 := by omega
    have hnn : (0 : Int) ≤ (c : Int) := by omega
    have hb1 : decide ((9223372036854775808 : Int) ≤ (c : Int)) = false := by simp; omega
    clear hk HK hcl h hlt hnn hI hb
    clear hc
    go_enter Tryd.func12, Tryd.ntmps12
    go_wp2_with fail
    refine HC.out.mono ?_
    rintro e w2 ⟨rfl, hb2⟩
    have HB := Lib.hid hb2
    clear hb2
    go_wp2_with fail
    go_ret
    refine ⟨?_, HB.out⟩
    rw [HK2.out]; rfl
end Go.Proofs.YtehminpiejophaaDoor
