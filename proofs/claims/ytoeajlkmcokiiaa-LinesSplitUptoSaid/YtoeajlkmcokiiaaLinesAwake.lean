/- awake: the bench of layer 7's statements. -/
import Derived.Test.YtoeajlkmcokiiaaLinesDiff
import Derived.Test.YtoeajlkmcokiiaaLinesPatch
import Derived.Test.YtoeajlkmcokiiaaLinesSplit
set_option linter.unusedVariables false
namespace Go.Proofs.Ytoeajlkmcokiiaa
open Go.RowKit

def sA : ByteArray := ⟨#[97, 10]⟩
def sB : ByteArray := ⟨#[98, 10]⟩
def sC : ByteArray := ⟨#[99]⟩
def sX : ByteArray := ⟨#[120, 10]⟩
theorem split_abc : splitG [97, 10, 98, 10, 99] = [sA, sB, sC] := by
  rw [splitG_cons (by simp), show lineLen [97, 10, 98, 10, 99] = 2 from by decide]
  rw [show ([97, 10, 98, 10, 99] : List UInt8).drop 2 = [98, 10, 99] from rfl, splitG_cons (by simp), show lineLen [98, 10, 99] = 2 from by decide]
  rw [show ([98, 10, 99] : List UInt8).drop 2 = [99] from rfl, splitG_cons (by simp), show lineLen [99] = 1 from by decide]
  rw [show ([99] : List UInt8).drop 1 = [] from rfl, splitG_nil]
  rfl
theorem split_axc : splitG [97, 10, 120, 10, 99] = [sA, sX, sC] := by
  rw [splitG_cons (by simp), show lineLen [97, 10, 120, 10, 99] = 2 from by decide]
  rw [show ([97, 10, 120, 10, 99] : List UInt8).drop 2 = [120, 10, 99] from rfl, splitG_cons (by simp), show lineLen [120, 10, 99] = 2 from by decide]
  rw [show ([120, 10, 99] : List UInt8).drop 2 = [99] from rfl, splitG_cons (by simp), show lineLen [99] = 1 from by decide]
  rw [show ([99] : List UInt8).drop 1 = [] from rfl, splitG_nil]
  rfl
theorem nBX : ¬ sB = sX := by decide
theorem nBC : ¬ sB = sC := by decide
theorem nCX : ¬ sC = sX := by decide
theorem l1 : lcs [sC] [sC] = 1 := by rw [lcs_eq _ _ rfl, lcs_nil_left]
theorem l4 : lcs [sC] [sX, sC] = 1 := by rw [lcs_ne _ _ nCX, lcs_nil_left, l1]; rfl
theorem l5 : lcs [sB, sC] [sC] = 1 := by rw [lcs_ne _ _ nBC, l1, lcs_nil_right]; rfl
theorem pairs_abc : pairsAt [sA, sB, sC] [sA, sX, sC] 0 0 = [(0, 0), (2, 2)] := by
  rw [pairsAt_eq (x := sA) rfl rfl]
  rw [pairsAt_a (i := 0 + 1) (k := 0 + 1) (x := sB) (y := sX) rfl rfl nBX (by show lcs [sB, sC] [sC] ≤ lcs [sC] [sX, sC]; rw [l5, l4]; exact Nat.le_refl _)]
  rw [pairsAt_b (i := 0 + 1 + 1) (k := 0 + 1) (x := sC) (y := sX) rfl rfl nCX (by show ¬ lcs [sC] [sC] ≤ lcs [] [sX, sC]; rw [l1, lcs_nil_left]; omega)]
  rw [pairsAt_eq (i := 0 + 1 + 1) (k := 0 + 1 + 1) (x := sC) rfl rfl, pairsAt_end (by simp)]
theorem diff_abc : diffG [sA, sB, sC] [sA, sX, sC] = [(1, [sB], [sX])] := by
  unfold diffG allPairs
  rw [pairs_abc]
  simp [hunksG]
theorem patch_abc : patchG [sA, sB, sC] 0 [(1, [sB], [sX])] = some [sA, sX, sC] := by
  refine (patchG_ok (a := [sA, sB, sC]) (i := 0) (T := 1) (l1 := [sB]) (l2 := [sX]) (r := []) (by decide) (by decide) (by decide) (by decide)).trans ?_
  rw [patchG]
  rfl

set_option maxHeartbeats 1000000 in
theorem awake_any (w : World) : Calls Try.prog 9 #[] w fun e w' => e = .returned (.bool true) ∧ Below w.heap.size w w' := by
  have kc := fun (w : World) (C : Array Value) (n c : Nat) => Lib.run_convert_bytes_const (P := Try.prog) w 54 5 C n c Try.underlying54 Try.underlying5
  have hs1 : ∀ w : World, Sl (w.alloc (.cells #[.int .u8 97, .int .u8 10, .int .u8 98, .int .u8 10, .int .u8 99] 5 (5, 6))) 1 (some ⟨w.heap.size, 0, none⟩) 5 (bytesV [97, 10, 98, 10, 99]) := fun w => Sl.fresh w _ _ _ _ _ rfl
  have hs2 : ∀ w : World, Sl (w.alloc (.cells #[.int .u8 97, .int .u8 10, .int .u8 120, .int .u8 10, .int .u8 99] 5 (5, 6))) 1 (some ⟨w.heap.size, 0, none⟩) 5 (bytesV [97, 10, 120, 10, 99]) := fun w => Sl.fresh w _ _ _ _ _ rfl
  have hs3 : ∀ w : World, Sl (w.alloc (.cells #[.int .u8 97] 5 (1, 2))) 1 (some ⟨w.heap.size, 0, none⟩) 1 (bytesV [97]) := fun w => Sl.fresh w _ _ _ _ _ rfl
  have b1 : ∀ (w : World) (o : Obj), Below w.heap.size w (w.alloc o) := fun w o => (Below.refl _ _).alloc (Nat.le_refl _) o
  have K := Lib.hid kc
  have S1 := Lib.hid hs1
  have S2 := Lib.hid hs2
  have S3 := Lib.hid hs3
  have B1 := Lib.hid b1
  clear hs1 hs2 hs3 b1 kc
  have kc := K.out
  go_enter Try.func9, Try.ntmps9
  go_wp2_with fail
  refine (split_any _ 5 5 _ _ (S1.out _) (Nat.le_refl _) (by simp [maxLen]) (by omega)).mono ?_
  rw [split_abc]
  rintro e w1 ⟨Aa, ca, rfl, hoa, hca, hcam, hb1⟩
  have hb1 := (B1.out _ _).trans (hb1.mono (by simp))
  have ha := Sl.ofOwn hoa
  clear hoa
  go_wp2_with fail
  refine (split_any _ 5 5 _ _ (S2.out _) (Nat.le_refl _) (by simp [maxLen]) (by omega)).mono ?_
  rw [split_axc]
  rintro e w2 ⟨Ab, cb, rfl, hob, hcb, hcbm, hb2⟩
  have hb2' := (B1.out w1 (.cells #[.int .u8 97, .int .u8 10, .int .u8 120, .int .u8 10, .int .u8 99] 5 (5, 6))).trans (hb2.mono (by simp))
  have ha := ha.below hb2'
  have hb := Sl.ofOwn hob
  have hb02 := hb1.trans (hb2'.mono hb1.size)
  clear hob hb1 hb2 hb2'
  go_wp2_with fail
  refine (diff_any Aa Ab 3 ca 3 cb _ _ _ ha hb hca hcam hcb hcbm (by omega) (by omega) (by omega)).mono ?_
  rw [diff_abc]
  rintro e w3 ⟨Ah, ch, rfl, hch, hchm, hH, hb3⟩
  have ha := ha.below hb3
  have hb03 := hb02.trans (hb3.mono hb02.size)
  clear hb02 hb3 hb
  go_wp2_with fail
  refine (patch_any Aa Ah 3 ca 1 ch _ _ _ ha hca hcam hH rfl (by omega) (by omega) (by decide)).mono ?_
  rw [patch_abc]
  rintro e w4 hp
  rcases hp with ⟨h, _⟩ | ⟨l, Ac, cc, h, rfl, hoc, hcc, hccm, _, hb4⟩
  · cases h
  injection h with h
  subst h
  have hH := hH.below hb4
  have hc := Sl.ofOwn hoc
  have hb04 := hb03.trans (hb4.mono hb03.size)
  obtain ⟨bh, oh, z, l1, l2, A1, A2, c1, c2, rfl, hbh, hx, hwf, k0, k1, k2, hc1, hm1, hs1, hc2, hm2, hs2⟩ := hk_look (i := 0) hH rfl (by simp)
  simp only [List.getElem?_cons_zero, Option.some.injEq, Prod.mk.injEq] at hx
  obtain ⟨rfl, rfl, rfl⟩ := hx
  obtain ⟨bo, oo, s, rfl, hbo, k3, hx⟩ := strV_look (k := 0) hs1.str (by simp)
  simp only [List.getElem?_cons_zero, Option.some.injEq] at hx
  subst hx
  obtain ⟨bc, oc, s, rfl, hbc, k4, hx⟩ := strV_look (k := 1) hc (by simp)
  simp only [List.getElem?_cons_succ, List.getElem?_cons_zero, Option.some.injEq] at hx
  subst hx
  simp only [Nat.zero_mul, Nat.add_zero] at k0 k1 k2 k3
  have hb04 := Lib.hid hb04
  have e1 : sB.toList = [98, 10] := ByteArray.toList_mk [98, 10]
  have e2 : sX.toList = [120, 10] := ByteArray.toList_mk [120, 10]
  clear hH hc hoc hb03 hb4 ha hs1 hs2 hwf
  have cell := fun (b o : Nat) (h : b < w4.heap.size) (x : Obj) => World.cell?_alloc_lt w4 x ⟨b, o, none⟩ h
  go_wp2_with fail
  refine (isText_any _ 1 1 [97] _ (S3.out _)).mono ?_
  rw [show decide (Lib.indexByte [97] 0 < 0) = true from by decide]
  rintro e w5 ⟨rfl, rfl⟩
  go_wp2_with fail
  go_ret
  exact ⟨rfl, hb04.out.alloc hb04.out.size _⟩
end Go.Proofs.Ytoeajlkmcokiiaa
