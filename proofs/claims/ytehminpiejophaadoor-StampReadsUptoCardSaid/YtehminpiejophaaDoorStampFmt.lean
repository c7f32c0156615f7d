/- strconv.FormatUint(m, 10): the digits. -/
import Derived.Test.YtehminpiejophaaDoorStampFns
import Derived.Test.YtehminpiejophaaDoorShelf
import Derived.Lib.AppendIntMem
import Derived.Lib.ItoaMem
import Derived.Lib.ItoaWalk
import Derived.Lib.Slices
import Derived.WalkKit
import Derived.BigCall
import Derived.CellFam
set_option linter.unusedVariables false
set_option linter.unusedSimpArgs false
namespace Go.Proofs.YtehminpiejophaaDoor
open Go.RowKit

abbrev Pow10 (w : World) : Prop := Lib.TabIs Tryd.prog w "internal/strconv.uint64pow10" .u64 Lib.pow10Tab
abbrev byteV (b : UInt8) : Value := Value.int .u8 (b.toNat : Int)

set_option maxRecDepth 100000 in
set_option maxHeartbeats 12800000 in
theorem ifmt_small (u : Nat) (hu : u < 100) (w : World) : Calls Tryd.prog 41 #[.int .u64 u, .int .i64 10] w fun e w' => e = .returned (.string ⟨(Lib.decDigits u).toArray⟩) ∧ Below w.heap.size w w' := by
  have HS := Lib.hid (fun w => Tryd.internal_strconv_small u hu w)
  have h1 : (u : Int) < 100 := by omega
  have h2 : (0 : Int) ≤ (u : Int) := by omega
  have h3 : (u : Int) < 9223372036854775808 := by omega
  go_enter Tryd.func41, Tryd.ntmps41
  go_wp2_with fail
  refine (HS.out _).mono ?_
  rintro e w2 ⟨rfl, rfl⟩
  go_wp2_with fail
  go_ret
  exact ⟨rfl, Below.refl _ _⟩

set_option maxRecDepth 100000 in
set_option maxHeartbeats 12800000 in
theorem ifmt_big (u : Nat) (hu : 100 ≤ u) (hu64 : u < 18446744073709551616) (w : World) (htab : Pow10 w) : Calls Tryd.prog 41 #[.int .u64 u, .int .i64 10] w fun e w' => e = .returned (.string ⟨(Lib.decDigits u).toArray⟩) ∧ Below w.heap.size w w' := by
  have hu1 : 1 ≤ u := by omega
  obtain ⟨nd, hnd⟩ : ∃ nd, nd = Lib.nDigits u := ⟨_, rfl⟩
  have hnd20 : nd ≤ 20 := by have := Lib.numDigits_eq u hu1 hu64; rw [hnd]; split at this <;> omega
  have HN := Lib.hid (Tryd.internal_strconv_numDigits u hu1 hu64 (w.alloc (.cells Lib.zeros24 69 (0, 0))) (Lib.tabIs_alloc htab _))
  have hH0 := Lib.holds_zero0 w 69 nd (by omega)
  have hfmt := Tryd.internal_strconv_formatBase10 w.heap.size 0 24 u (Array.replicate nd 0) (w.alloc (.cells Lib.zeros24 69 (0, 0))) hH0 (by rw [Array.size_replicate, hnd]; exact Lib.lt_pow_nDigits u) hu64 (by rw [Array.size_replicate]; omega)
  rw [Array.size_replicate] at hfmt
  have HF0 := Lib.hid hfmt
  have HH0 := Lib.hid hH0
  rw [← hnd] at HN
  have hal : Tryd.prog.arrayLen 69 = 24 := by kernel_rfl
  have hsl : ∀ W, (Instr.sliceAt 69 (.pointer (some ⟨w.heap.size, 0, none⟩)) none (some (.int .i64 (nd : Int))) none).run Tryd.prog W = .ok (.slice (some ⟨w.heap.size, 0, none⟩) nd 24) W := fun W => by
    rw [run_sliceAt_array_h W 69 ⟨w.heap.size, 0, none⟩ (by kernel_rfl) .i64 (nd : Int) (by omega) (by rw [hal]; omega)]
    rw [hal]; rfl
  have HND := Lib.hid hnd
  have hui : ¬ (u : Int) < 100 := by omega
  clear hu htab hnd hfmt hH0 hu1
  go_enter Tryd.func41, Tryd.ntmps41
  go_wp2_with fail
  refine HN.out.mono ?_
  rintro e w2 ⟨rfl, rfl⟩
  go_wp2_with fail
  refine HF0.out.mono ?_
  rintro e w2 ⟨rfl, k, v', dk, rfl, hF⟩
  have hcv : (convert 72 9 (.slice (some ⟨w.heap.size, 0, none⟩) nd 24)).run Tryd.prog ((Sort.putRow (fun (b : UInt8) => Value.int .u8 (b.toNat : Int)) (w.alloc (.cells Lib.zeros24 69 (0, 0))) w.heap.size 0 dk).drewN k) = .ok (.string ⟨(Lib.decDigits u).toArray⟩) ((Sort.putRow (fun (b : UInt8) => Value.int .u8 (b.toNat : Int)) (w.alloc (.cells Lib.zeros24 69 (0, 0))) w.heap.size 0 dk).drewN k) := by
    rw [HND.out] at hF ⊢
    have h := run_convert_bytes_back (P := Tryd.prog) ((Sort.putRow (fun (b : UInt8) => Value.int .u8 (b.toNat : Int)) (w.alloc (.cells Lib.zeros24 69 (0, 0))) w.heap.size 0 dk).drewN k) 72 9 5 ⟨w.heap.size, 0, none⟩ 24 (Lib.decDigits u) Tryd.underlying72 Tryd.underlying5 Tryd.underlying9 (fun j hj => by
      rw [Lib.row_is_numeral hF j hj, Lib.add_plain, World.cell?_drewN]
      exact Sort.cell?_putRow (fun (b : UInt8) => Value.int .u8 (b.toNat : Int)) _ w.heap.size 0 _ dk HH0.out (by rw [hF.size, Array.size_replicate, HND.out]) j (by rw [hF.size]; rw [Lib.decDigits_length] at hj; exact hj))
    rw [Lib.decDigits_length] at h
    exact h
  obtain ⟨os, eo⟩ := Lib.fin_at w (.cells Lib.zeros24 69 (0, 0)) dk k 0
  have HB := Lib.hid (show Below w.heap.size w ((Sort.putRow (fun (b : UInt8) => Value.int .u8 (b.toNat : Int)) (w.alloc (.cells Lib.zeros24 69 (0, 0))) w.heap.size 0 dk).drewN k) by rw [eo]; exact Lib.below_grow _ w (Nat.le_refl _) k os)
  clear eo HF0 HH0 HN hal
  generalize (Sort.putRow (fun (b : UInt8) => Value.int .u8 (b.toNat : Int)) (w.alloc (.cells Lib.zeros24 69 (0, 0))) w.heap.size 0 dk).drewN k = W2 at hcv HB ⊢
  go_wp2_with fail
  go_ret
  exact ⟨rfl, HB.out⟩

theorem fmt_any (u : Nat) (hu64 : u < 18446744073709551616) (w : World) (htab : Pow10 w) : Calls Tryd.prog 30 #[.int .u64 u, .int .i64 10] w fun e w' => e = .returned (.string ⟨(Lib.decDigits u).toArray⟩) ∧ Below w.heap.size w w' := by
  have HI : Hid (Calls Tryd.prog 41 #[.int .u64 u, .int .i64 10] w fun e w' => e = .returned (.string ⟨(Lib.decDigits u).toArray⟩) ∧ Below w.heap.size w w') := Lib.hid (by
    by_cases h : u < 100
    · exact ifmt_small u h w
    · exact ifmt_big u (by omega) hu64 w htab)
  clear hu64 htab
  go_enter Tryd.func30, Tryd.ntmps30
  go_wp2_with fail
  refine HI.out.mono ?_
  rintro e w2 ⟨rfl, hb⟩
  go_wp2_with fail
  go_ret
  exact ⟨rfl, hb⟩
theorem itoa_any (n : Int) (h0 : -9223372036854775808 ≤ n) (h1 : n ≤ 9223372036854775807) (w : World) (htab : Pow10 w) : Calls Tryd.prog 31 #[.int .i64 n] w fun e w' => e = .returned (.string ⟨(Lib.itoa n).toArray⟩) ∧ Below w.heap.size w w' :=
  (Tryd.strconv_Itoa n h0 h1 w htab).mono fun e w' ⟨he, k, os, ew⟩ => ⟨he, by rw [ew]; exact Lib.below_grow _ w (Nat.le_refl _) k os⟩
end Go.Proofs.YtehminpiejophaaDoor
