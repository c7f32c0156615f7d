/- sha.Hex. -/
import Derived.Test.YtknbbekinpamjaaShaSum
import Derived.Test.YtknbbekinpamjaaRegionLate
import Derived.Laws.CopyRow
set_option linter.unusedVariables false
namespace Go.Proofs.Ytknbbekinpamjaa
open Go.RowKit
attribute [local go_sem ↓] cvt_eq

def digits : List UInt8 := [48, 49, 50, 51, 52, 53, 54, 55, 56, 57, 97, 98, 99, 100, 101, 102]
def hexB (x : UInt8) : List UInt8 := [digits.getD (x.toNat / 16) 0, digits.getD (x.toNat % 16) 0]
def hexS (l : List UInt8) : List UInt8 := l.flatMap hexB
theorem hexS_length (l : List UInt8) : (hexS l).length = 2 * l.length := by
  unfold hexS
  induction l with
  | nil => rfl
  | cons x l ih => rw [List.flatMap_cons, List.length_append, ih, List.length_cons]; simp [hexB]; omega
theorem hexS_take {l : List UInt8} {k : Nat} {x : UInt8} (h : l[k]? = some x) : hexS (l.take (k + 1)) = hexS (l.take k) ++ hexB x := by
  unfold hexS
  rw [List.take_add_one, h, List.flatMap_append]
  simp

theorem run_index_u8 {P : Program} {t e : TypeId} {n : Nat} {cs : Array Value} {i : Nat} {v : Value} (ht : P.underlying t = some (.array n e)) (hs : (P.info? e).map (·.size) = some 1) (hu : P.underlying e = some (.int .u8)) (hi : i < n) (hv : cs[i]? = some v) (w : World) :
    (Instr.index t (.agg cs) (.int .i64 (i : Int))).run P w = .ok v w := by
  cases hq : P.info? e with
  | none => simp [hq] at hs
  | some ie =>
    have h1 : ie.size = 1 := by simpa [hq] using hs
    have hlt := (Array.getElem?_eq_some_iff.1 hv).1
    have hi' : (i : Int) < n := by omega
    have hee := (Array.getElem?_eq_some_iff.1 hv).2
    simp [Instr.index, asIntOf, run_underlying ht, run_underlying hu, sizeOf, typeInfo, hq, h1, part, isAgg, hv]
    omega

set_option maxRecDepth 100000 in
theorem byte_and15 (x : UInt8) : bits .and .u8 (x.toNat : Int) 15 = (x.toNat : Int) % 16 := by
  have h : ∀ n : Fin 256, bits .and .u8 ((n : Nat) : Int) 15 = ((n : Nat) : Int) % 16 := by decide
  exact h ⟨x.toNat, x.toNat_lt⟩
theorem run_index_dig {n : Nat} (hn : n < 16) (w : World) :
    (Instr.index 9 (.string { data := #[48, 49, 50, 51, 52, 53, 54, 55, 56, 57, 97, 98, 99, 100, 101, 102] }) (.int .u8 (n : Int))).run Try.prog w = .ok (.int .u8 ((digits.getD n 0).toNat : Int)) w := by
  have h : n = 0 ∨ n = 1 ∨ n = 2 ∨ n = 3 ∨ n = 4 ∨ n = 5 ∨ n = 6 ∨ n = 7 ∨ n = 8 ∨ n = 9 ∨ n = 10 ∨ n = 11 ∨ n = 12 ∨ n = 13 ∨ n = 14 ∨ n = 15 := by omega
  rcases h with rfl | rfl | rfl | rfl | rfl | rfl | rfl | rfl | rfl | rfl | rfl | rfl | rfl | rfl | rfl | rfl <;> simp [Instr.index, asIntOf, run_underlying Try.underlying9, digits] <;> rfl
set_option maxRecDepth 100000 in
set_option maxHeartbeats 4000000 in
theorem hex_any (l : List UInt8) (h32 : l.length = 32) (W0 : World) :
    Calls Try.prog 14 #[.agg (bytesV l).toArray] W0 fun e w' => e = .returned (.string ⟨(hexS l).toArray⟩) ∧ Below W0.heap.size W0 w' := by
  have H32 := Lib.hid h32
  clear h32
  obtain ⟨IV, hIV⟩ : ∃ IV, IV = (bytesV l).toArray := ⟨_, rfl⟩
  rw [← hIV]
  have HIV := Lib.hid hIV
  clear hIV
  go_enter Try.func14, Try.ntmps14
  have hi32 : (Try.prog.info? 25).map (·.size) = some IV.size := by
    have h2 : (Try.prog.info? 25).map (·.size) = some 32 := by kernel_rfl
    have h3 : IV.size = 32 := by rw [HIV.out]; simp [bytesV, H32.out]
    rw [h3]; exact h2
  have HI := Lib.hid hi32
  clear hi32
  go_upto_region 2 with fail
  go_wp2_with (refine wpList_load_row rfl _ _ rfl W0.heap.size rfl 25 IV (0, 0) _ (heap_alloc_new W0 _) Try.underlying25 rfl HI.out ?_)
  have HB0 := Lib.hid ((Below.refl W0.heap.size W0).alloc (Nat.le_refl _) (.cells IV 25))
  go_loopw [3, 7] (fun o i wr => ∃ (k : Nat) (Ao : Option Addr) (co : Nat), k ≤ 32 ∧ i = .int .i64 k ∧ o = .slice Ao (2 * k) co ∧ Hid (wr.ownsRow W0.heap.size 5 1 (.slice Ao (2 * k) co) (2 * k) (bytesV (hexS (l.take k)))) ∧ Hid (Below W0.heap.size W0 wr)) (fun _ i _ => 32 - (intOf i).toNat)
  case atStart => exact ⟨0, none, 0, by omega, rfl, rfl, Lib.hid (World.ownsRow_nil _ _ _ _), HB0⟩
  case round =>
    obtain ⟨k, Ao, co, hk, rfl, rfl, HO, HB⟩ := hrel
    by_cases hlt : k < 32
    · have hlt' : (k : Int) < 32 := by omega
      have hx : l[k]? = some (l[k]'(by rw [H32.out]; exact hlt)) := List.getElem?_eq_getElem _
      generalize l[k]'(by rw [H32.out]; exact hlt) = x at *
      have hidx := run_index_u8 (P := Try.prog) Try.underlying25 (by kernel_rfl) Try.underlying5 hlt (show IV[k]? = some (.int .u8 (x.toNat : Int)) by rw [HIV.out]; exact bytesV_arr hx)
      have HX := Lib.hid hx
      clear hx
      have hd1 := run_index_dig (n := x.toNat / 16) (by have := x.toNat_lt; omega)
      have hd2 := run_index_dig (n := x.toNat % 16) (by omega)
      have hcd : ((x.toNat / 16 : Nat) : Int) = (x.toNat : Int) / 16 := by omega
      have hcm : ((x.toNat % 16 : Nat) : Int) = (x.toNat : Int) % 16 := by omega
      rw [hcd] at hd1
      rw [hcm] at hd2
      have hand := byte_and15 x
      obtain ⟨A2, c2, w2, hrun, hap, hc1, hc2⟩ := append_sl elemU8 (own_below HO.out ((Below.refl _ wr).drew.alloc (Nat.le_refl _) (.cells (bytesV (hexB x)).toArray 5))) (Sl.fresh wr.drew (bytesV (hexB x)).toArray 5 (0, 0) 2 1 rfl) (bytesV_one _) (by omega) (by simp only [maxLen]; omega) (by have := HB.out.size; simp; omega) 22 2
      have HN := Lib.hid (show w2.ownsRow W0.heap.size 5 1 (.slice A2 (2 * k + 2) c2) (2 * k + 2) (bytesV (hexS (l.take (k + 1)))) by rw [hexS_take HX.out]; simpa [bytesV] using hap.own)
      have HB2 := Lib.hid ((HB.out.drew.alloc HB.out.size (.cells (bytesV (hexB x)).toArray 5)).trans hap.below)
      have hk1 : IntKind.i64.wrap ((k : Int) + 1) = (k : Int) + 1 := IntWalk.i64_in _ (by omega)
      clear hap
      go_wp2_with fail
      refine wp_region_held (S := fun _ => True) (by kernel_rfl) ?_
      change wpAnyH _ _ _ _ _ _ _ _ (World.drew _)
      refine held_take (i := 0) (v := ?_) (a' := ?_) rfl (by kernel_rfl) (by kernel_rfl) (by kernel_rfl) (fun _ _ _ h => h) (by rfl) trivial ?_ ?_ ?_
      rotate_left 2
      · (intro w hS; go_simp; try with_reducible rfl)
      · (go_simp; try with_reducible rfl)
      refine held_take (i := 1) (v := ?_) (a' := ?_) rfl (by kernel_rfl) (by kernel_rfl) (by kernel_rfl) (fun _ _ _ h => h) (by rfl) trivial ?_ ?_ ?_
      rotate_left 2
      · (intro w hS; go_simp; try with_reducible rfl)
      · (go_simp; try with_reducible rfl)
      refine held_take (i := 2) (v := ?_) (a' := ?_) rfl (by kernel_rfl) (by kernel_rfl) (by kernel_rfl) (fun _ _ _ h => h) (by rfl) trivial ?_ ?_ ?_
      rotate_left 2
      · (intro w hS; go_simp; try with_reducible rfl)
      · (go_simp; try with_reducible rfl)
      refine held_take (i := 3) (v := ?_) (a' := ?_) rfl (by kernel_rfl) (by kernel_rfl) (by kernel_rfl) (fun _ _ _ h => h) (by rfl) trivial ?_ ?_ ?_
      rotate_left 2
      · (intro w hS; go_simp; try with_reducible rfl)
      · (go_simp; try with_reducible rfl)
      refine held_take (i := 4) (v := ?_) (a' := ?_) rfl (by kernel_rfl) (by kernel_rfl) (by kernel_rfl) (fun _ _ _ h => h) (by rfl) trivial ?_ ?_ ?_
      rotate_left 2
      · (intro w hS; go_simp; try with_reducible rfl)
      · (go_simp; try with_reducible rfl)
      refine held_take (i := 5) (v := ?_) (a' := ?_) rfl (by kernel_rfl) (by kernel_rfl) (by kernel_rfl) (fun _ _ _ h => h) (by rfl) trivial ?_ ?_ ?_
      rotate_left 2
      · (intro w hS; go_simp; try with_reducible rfl)
      · (go_simp; try with_reducible rfl)
      refine held_take (i := 6) (v := ?_) (a' := ?_) rfl (by kernel_rfl) (by kernel_rfl) (by kernel_rfl) (fun _ _ _ h => h) (by rfl) trivial ?_ ?_ ?_
      rotate_left 2
      · (intro w hS; go_simp; try with_reducible rfl)
      · (go_simp; try with_reducible rfl)
      refine held_ready (rs := [7]) (by kernel_rfl) (by simp) ?_
      refine AllHeld.cons rfl (fun KR hKR => ?_) ?_
      · go_simp
        refine hKR _ _ trivial ?_
        clear hKR KR
        refine held_ready (rs := [8]) (by kernel_rfl) (by simp) ?_
        refine AllHeld.cons rfl (fun KR hKR => ?_) ?_
        · refine step_run_append (by rfl) (.tmp 10) (.tmp 17) (by rfl) (by rfl) (by rfl) hrun ?_
          refine hKR _ _ trivial ?_
          clear hKR KR
          refine held_take (i := 9) (v := ?_) (a' := ?_) rfl (by kernel_rfl) (by kernel_rfl) (by kernel_rfl) (fun _ _ _ h => h) (by rfl) trivial ?_ ?_ ?_
          rotate_left 2
          · (intro w hS; go_simp; try with_reducible rfl)
          · (go_simp; try with_reducible rfl)
          refine wpAnyH_done (by kernel_rfl) ?_ _
          go_wp2_with fail
          go_roundw
          case rel => exact ⟨k + 1, A2, c2, by omega, by go_num, by rw [show 2 * (k + 1) = 2 * k + 2 from rfl], HN, HB2⟩
          case measure => simp [intOf]; omega
        exact AllHeld.nil
      exact AllHeld.nil
    · have hke : k = 32 := by omega
      have hlt' : ¬ (k : Int) < 32 := by omega
      have hT : l.take k = l := List.take_of_length_le (by rw [H32.out]; omega)
      have hcv := cvt_of (Sl.ofOwn HO.out) co
      rw [hT] at hcv
      have HBz := HB.out
      clear hke hT hlt
      go_wp2_with fail
      go_ret
      exact ⟨rfl, HBz⟩
end Go.Proofs.Ytknbbekinpamjaa
