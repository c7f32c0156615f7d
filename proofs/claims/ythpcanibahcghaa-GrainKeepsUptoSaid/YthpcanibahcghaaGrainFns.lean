/- grain: Canon, the bits of a number with a point, heads. -/
import Derived.Test.YthpcanibahcghaaGrainLaws
import Derived.Test.YthpcanibahcghaaRegion
import Derived.Test.YthpcanibahcghaaBytesList
import Derived.Test.YthpcanibahcghaaRd
import Derived.Laws.Externs
import Derived.Laws.Cover2
import Derived.Laws.BitsAllLaws
import Derived.Deep.DeepCutAuto
import Derived.Deep.CutBlock
set_option linter.unusedVariables false
namespace Go.Proofs.Ythpcanibahcghaa
open Go.RowKit

theorem elemByte : ElemOf Try.prog 23 5 (.int .u8 0) 1 1 := ⟨Try.underlying23, by kernel_rfl, rfl, by decide⟩
theorem ext_bits (b : Nat) (w : World) : (callFunc 19 #[.float .f64 b]).run Try.prog w = .ok (.value (.int .u64 (b : Int))) w := by
  rw [run_callFunc_extern Try.func19 (by kernel_rfl) (by kernel_rfl) (by kernel_rfl) (e := Extern.MathFloatBits.float64bits) (by kernel_rfl)]; rfl
theorem ext_from (n : Int) (w : World) : (callFunc 33 #[.int .u64 n]).run Try.prog w = .ok (.value (.float .f64 n.toNat)) w := by
  rw [run_callFunc_extern Try.func33 (by kernel_rfl) (by kernel_rfl) (by kernel_rfl) (e := Extern.MathFloatBits.float64frombits) (by kernel_rfl)]; rfl

theorem canon_any (b : Nat) (w : World) : Calls Try.prog 27 #[.float .f64 b] w fun e w' => e = .returned (.float .f64 (canonB b)) ∧ Same w w' := by
  have hf := ext_from
  by_cases hn : isNan b = true
  · have hc : canonB b = nanB := by simp [canonB, hn]
    have hn' : (FloatKind.f64.format.order b b != some .eq) = true := hn
    rw [hc]
    clear hc hn
    go_enter Try.func27, Try.ntmps27
    go_wp2_with fail
    go_ret
    exact ⟨rfl, Same.refl _⟩
  · have hc : canonB b = b := by simp [canonB, hn]
    have hn' : (FloatKind.f64.format.order b b != some .eq) = false := by simpa [isNan] using hn
    rw [hc]
    clear hc hn hf
    go_enter Try.func27, Try.ntmps27
    go_wp2_with fail
    go_ret
    exact ⟨rfl, Same.refl _⟩

theorem bits_any (b : Nat) (w : World) : Calls Try.prog 30 #[.float .f64 b] w fun e w' => e = .returned (.int .u64 (canonB b : Int)) ∧ Same w w' := by
  have hf := ext_bits
  by_cases hn : isNan b = true
  · have hc : canonB b = nanB := by simp [canonB, hn]
    have hn' : (FloatKind.f64.format.order b b != some .eq) = true := hn
    rw [hc]
    clear hc hn
    go_enter Try.func30, Try.ntmps30
    go_wp2_with fail
    go_ret
    exact ⟨rfl, Same.refl _⟩
  · have hc : canonB b = b := by simp [canonB, hn]
    have hn' : (FloatKind.f64.format.order b b != some .eq) = false := by simpa [isNan] using hn
    rw [hc]
    clear hc hn
    go_enter Try.func30, Try.ntmps30
    go_wp2_with fail
    go_ret
    exact ⟨rfl, Same.refl _⟩

/-! ### bits -/
theorem wrap_u64 (z : Int) : IntKind.u64.wrap z = z % 18446744073709551616 := by simp [IntKind.wrap, IntKind.bits, IntKind.signed]
theorem and124 : ∀ y : Fin 256, (y.val &&& 124) = y.val / 4 % 32 * 4 := by decide +kernel
theorem or4 : ∀ (k : Fin 4) (z : Fin 32), (k.val ||| z.val * 4) = z.val * 4 + k.val := by decide +kernel
theorem or128 : ∀ x : Fin 128, (x.val ||| 128) = x.val + 128 := by decide +kernel
theorem head_first {k n : Nat} (hk : k < 4) : bits .or .u8 (k : Int) (bits .and .u8 (IntKind.u64.wrap ((n : Int) * 4) % 256) 124) = ((n % 32 * 4 + k : Nat) : Int) := by
  have e1 : IntKind.u64.wrap ((n : Int) * 4) % 256 = ((n * 4 % 256 : Nat) : Int) := by rw [wrap_u64]; omega
  have e2 : bits .and .u8 ((n * 4 % 256 : Nat) : Int) 124 = ((n % 32 * 4 : Nat) : Int) := by
    have h := u8_and_nat (n * 4 % 256) 124 (by omega) (by omega)
    rw [and124 ⟨n * 4 % 256, by omega⟩] at h
    rw [show ((124 : Nat) : Int) = 124 from rfl] at h
    rw [h]
    congr 1
    show n * 4 % 256 / 4 % 32 * 4 = _
    omega
  rw [e1, e2, u8_or_nat k (n % 32 * 4) (by omega) (by omega)]
  congr 1
  exact or4 ⟨k, hk⟩ ⟨n % 32, by omega⟩
theorem head_or {x : Nat} (hx : x < 128) : bits .or .u8 (x : Int) 128 = ((x + 128 : Nat) : Int) := by
  have h := u8_or_nat x 128 (by omega) (by omega)
  rw [or128 ⟨x, hx⟩] at h
  exact h
theorem head_and {q : Nat} : bits .and .u8 ((q : Int) % 256) 127 = ((q % 128 : Nat) : Int) := by
  have h := u8_and_nat (q % 256) 127 (by omega) (by omega)
  rw [nat_mask7] at h
  have e : ((q % 256 : Nat) : Int) = (q : Int) % 256 := by omega
  rw [e] at h
  refine h.trans ?_
  congr 1
  omega
theorem tailL_length : ∀ (j x q : Nat), q < 2 ^ (7 * j) → (tailL x q).length ≤ j + 1
  | 0, x, q, h => by
    have : q = 0 := by simpa using h
    subst this; rw [tailL_zero]; simp
  | j + 1, x, q, h => by
    by_cases h0 : q = 0
    · subst h0; rw [tailL_zero]; simp
    · rw [tailL_pos x h0, List.length_cons]
      have := tailL_length j (q % 128) (q / 128) (by
        rw [Nat.mul_add, Nat.pow_add] at h
        exact Nat.div_lt_of_lt_mul (by rw [Nat.mul_comm]; exact h))
      omega
theorem headL_length {k n : Nat} (hn : n < 2 ^ 64) : (headL k n).length ≤ 10 := tailL_length 9 _ _ (by omega)

set_option maxHeartbeats 1000000 in
theorem head_any {base : Nat} {A : Option Addr} {m c : Nat} {xs : List UInt8} (k n : Nat) (w : World) (hk : k < 4) (hn : n < 2 ^ 64) (hm : m ≤ 1000000000) (hown : w.ownsRow base 5 1 (.slice A m c) m (bytesV xs)) (hb : base ≤ w.heap.size) :
    Calls Try.prog 28 #[.slice A m c, .int .i64 (k : Int), .int .u64 (n : Int)] w fun e w' => ∃ A' m' c', e = .returned (.slice A' m' c') ∧ m' = m + (headL k n).length ∧ w'.ownsRow base 5 1 (.slice A' m' c') m' (bytesV (xs ++ headL k n)) ∧ Below base w w' ∧ Moves w w' (own (.slice A m c)) (own (.slice A' m' c')) := by
  have hlen := headL_length (k := k) hn
  obtain ⟨R, hR⟩ : ∃ R, R = headL k n := ⟨_, rfl⟩
  rw [← hR] at hlen
  have HR := Lib.hid hR
  rw [← hR]
  have hf := head_first (n := n) hk
  obtain ⟨x0, hx0⟩ : ∃ x0, x0 = n % 32 * 4 + k := ⟨_, rfl⟩
  have hx0l : x0 < 128 := by omega
  obtain ⟨q0, hq0⟩ : ∃ q0, q0 = n / 32 := ⟨_, rfl⟩
  have hq : (n : Int) / 32 = (q0 : Int) := by omega
  have hRt : R = tailL x0 q0 := by rw [hR, hx0, hq0]; rfl
  have HRT := Lib.hid hRt
  rw [← hx0] at hf
  clear hR hRt hx0 HR hq0
  go_enter Try.func28, Try.ntmps28
  go_wp2_with fail
  clear hf hq
  go_loopw [0, 2, 7] (fun s0 s2 s7 wr => ∃ (A' : Option Addr) (m' c' x q : Nat) (acc : List UInt8), s0 = .slice A' m' c' ∧ s2 = .int .u64 (q : Int) ∧ s7 = .int .u8 (x : Int) ∧ x < 128 ∧ Hid (acc ++ tailL x q = R) ∧ m' = m + acc.length ∧ wr.ownsRow base 5 1 (.slice A' m' c') m' (bytesV (xs ++ acc)) ∧ Below base w wr ∧ Moves w wr (own (.slice A m c)) (own (.slice A' m' c')))
    (fun s0 s2 s7 wr => (intOf s2).toNat)
  case atStart => exact ⟨A, m, c, x0, q0, [], rfl, rfl, rfl, hx0l, Lib.hid HRT.out.symm, by simp, by simpa using hown, Below.refl _ _, Moves.of_below (Below.refl _ _)⟩
  case round =>
    obtain ⟨A', m', c', x, q, acc, rfl, rfl, rfl, hx, HA, hm', hown', hbl, hmv⟩ := hrel
    have hal : acc.length ≤ R.length := by rw [← HA.out]; simp
    have hbw := Nat.le_trans hb hbl.size
    by_cases hq0 : 0 < q
    · have hqI : (0 : Int) < (q : Int) := by omega
      have ht := tailL_pos x (by omega : q ≠ 0)
      have hor := head_or hx
      have hand : bits .and .u8 ((q : Int) % 256) 127 = ((q % 128 : Nat) : Int) := head_and
      obtain ⟨x1, hx1⟩ : ∃ x1, x1 = x + 128 := ⟨_, rfl⟩
      obtain ⟨q1, hq1⟩ : ∃ q1, q1 = q / 128 := ⟨_, rfl⟩
      obtain ⟨y1, hy1⟩ : ∃ y1, y1 = q % 128 := ⟨_, rfl⟩
      rw [← hx1] at hor ht
      rw [← hy1] at hand ht
      rw [← hq1] at ht
      have e128 : (q : Int) / 128 = (q1 : Int) := by omega
      obtain ⟨A2, c2, w2, run2, ap2, hc2, hm2⟩ := append_sl elemByte (hown'.alloc (.cells #[.int .u8 (x1 : Int)] 5)) (Sl.one wr (.int .u8 (x1 : Int)) 5) (by simp; rfl) (by omega) (by simp only [maxLen]; omega) (by simp; omega) 23 1
      have hbl2 : Below base w w2 := hbl.trans (((Below.refl _ _).alloc hbw _).trans ap2.below)
      have hmv2 := hmv.trans ((Moves.of_below ((Below.refl _ _).alloc (Nat.le_refl _) _)).trans (Moves.of_app ap2))
      have hown2 := ap2.own
      have hq1q : q1 < q := by omega
      have hy128 : y1 < 128 := by omega
      have hbv : bytesV (xs ++ acc) ++ [Value.int .u8 (x1 : Int)] = bytesV (xs ++ (acc ++ [UInt8.ofNat x1])) := by
        rw [← List.append_assoc]
        simp only [bytesV, List.map_append, List.map_cons, List.map_nil]
        rw [u8_ofNat (by omega)]
      rw [hbv] at hown2
      have HA2 : Hid (acc ++ [UInt8.ofNat x1] ++ tailL y1 q1 = R) := Lib.hid (by rw [← HA.out, ht]; simp)
      clear hx1 hq1 hy1 ht ap2 hown' HA hbv
      go_wp2_with (first | (at_builtin; refine wpList_run_append run2 ?_ ?_ ?_; exact rfl; exact rfl) | fail)
      go_roundw
      case rel => exact ⟨A2, m' + 1, c2, y1, q1, acc ++ [UInt8.ofNat x1], by go_num, rfl, rfl, hy128, HA2, by simp; omega, hown2, hbl2, hmv2⟩
      case measure => simp [intOf]; omega
    · obtain rfl : q = 0 := by omega
      have HM' := Lib.hid hm'
      clear hm'
      have ha := HA.out
      rw [tailL_zero] at ha
      obtain ⟨A2, c2, w2, run2, ap2, hc2, hm2⟩ := append_sl elemByte (hown'.alloc (.cells #[.int .u8 (x : Int)] 5)) (Sl.one wr (.int .u8 (x : Int)) 5) (by simp; rfl) (by have := HM'.out; omega) (by have := HM'.out; simp only [maxLen]; omega) (by simp; omega) 23 1
      have hbl2 : Below base w w2 := hbl.trans (((Below.refl _ _).alloc hbw _).trans ap2.below)
      have hmv2 := hmv.trans ((Moves.of_below ((Below.refl _ _).alloc (Nat.le_refl _) _)).trans (Moves.of_app ap2))
      have hown2 := ap2.own
      have hbv : bytesV (xs ++ acc) ++ [Value.int .u8 (x : Int)] = bytesV (xs ++ R) := by
        rw [← ha, ← List.append_assoc]
        simp only [bytesV, List.map_append, List.map_cons, List.map_nil]
        rw [u8_ofNat (by omega)]
      rw [hbv] at hown2
      have hml : m' + 1 = m + R.length := by have := HM'.out; rw [← ha]; simp; omega
      have HM := Lib.hid hml
      clear ha hbv HA hml
      go_wp2_with (first | (at_builtin; refine wpList_run_append run2 ?_ ?_ ?_; exact rfl; exact rfl) | fail)
      go_ret
      exact ⟨A2, m' + 1, c2, rfl, HM.out, hown2, hbl2, hmv2⟩
end Go.Proofs.Ythpcanibahcghaa
