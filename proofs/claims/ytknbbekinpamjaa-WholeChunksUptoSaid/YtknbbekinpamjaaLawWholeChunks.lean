/- The walk of the law WholeChunks: what is put ahead of bytes leaves the chunks behind the next place at which both end a chunk as they were. -/
import Derived.Test.YtknbbekinpamjaaWholePlain
import Derived.Test.YtknbbekinpamjaaGearJoin
import Derived.Test.YtknbbekinpamjaaShaShort
import Derived.Deep.DeepCutAuto
import Derived.Deep.CutBlock
set_option linter.unusedVariables false
namespace Go.Proofs.Ytknbbekinpamjaa
open Go.RowKit Go.Maps
attribute [local go_sem ↓] neqId_eq cvt_eq cutA_eq

/-- a slice of chunks -/
structure Chs (w : World) (A : Option Addr) (n c : Nat) (C : List (List UInt8)) : Prop where
  ex : ∃ vs, Sl w 1 A n vs ∧ AllB w vs C
  cap : n ≤ c
  len : C.length = n
theorem Chs.below {w w' : World} {A : Option Addr} {n c : Nat} {C : List (List UInt8)} (h : Chs w A n c C) (hb : Below w.heap.size w w') : Chs w' A n c C := by
  obtain ⟨⟨vs, h1, h2⟩, h3, h4⟩ := h
  exact ⟨⟨vs, h1.below hb, h2.below hb⟩, h3, h4⟩
theorem Chs.look {w : World} {A : Option Addr} {n c k : Nat} {C : List (List UInt8)} (h : Chs w A n c C) (hk : k < n) :
    ∃ (b off : Nat) (A' : Option Addr) (c' : Nat) (l : List UInt8), A = some ⟨b, off, none⟩ ∧ b < w.heap.size ∧ w.cell? ⟨b, off + k, none⟩ = some (.slice A' l.length c') ∧ C[k]? = some l ∧ Sl w 1 A' l.length (bytesV l) ∧ l.length ≤ c' ∧ c' ≤ maxLen := by
  obtain ⟨⟨vs, h1, h2⟩, h3, h4⟩ := h
  exact h2.look h1 hk

/-- Join of two slices, laid in a literal of the call's own -/
theorem join_two {A0 : Option Addr} {n0 c0 : Nat} {l0 : List UInt8} {A2 : Option Addr} {n2 c2 : Nat} {l2 : List UInt8} {w : World} (hs0 : Sl w 1 A0 n0 (bytesV l0)) (hc0 : n0 ≤ c0) (hm0 : c0 ≤ maxLen) (hn0 : n0 ≤ 1048576)
    (hs2 : Sl w 1 A2 n2 (bytesV l2)) (hc2 : n2 ≤ c2) (hm2 : c2 ≤ maxLen) (hn2 : n2 ≤ 1048576) (W : World) (gg : Nat) (hW : Below w.heap.size w W) (hg : W.heap.size = gg) :
    Calls Try.prog 19 #[.slice (some ⟨gg, 0, none⟩) 2 2] (W.alloc (.cells #[.slice A0 n0 c0, .slice A2 n2 c2] 22)) fun e w' => ∃ AJ cJ, e = .returned (.slice AJ (n0 + n2) cJ) ∧ Sl w' 1 AJ (n0 + n2) (bytesV (l0 ++ l2)) ∧ n0 + n2 ≤ cJ ∧ cJ ≤ maxLen ∧ Below w.heap.size w w' := by
  subst hg
  have h0 : l0.length = n0 := by have := hs0.1; simpa [bytesV] using this
  have h2 : l2.length = n2 := by have := hs2.1; simpa [bytesV] using this
  have z : Below w.heap.size w (W.alloc (.cells #[.slice A0 n0 c0, .slice A2 n2 c2] 22)) := hW.alloc hW.size _
  have ht : Sl (W.alloc (.cells #[.slice A0 n0 c0, .slice A2 n2 c2] 22)) 1 (some ⟨W.heap.size, 0, none⟩) 2 [.slice A0 n0 c0, .slice A2 n2 c2] := Sl.fresh W #[.slice A0 n0 c0, .slice A2 n2 c2] 22 (0, 0) 2 1 rfl
  refine (join_any _ 2 2 _ [l0, l2] _ ht (AllB.two (SlB.of (hs0.below z) hc0 hm0) (SlB.of (hs2.below z) hc2 hm2)) (by omega) (by simp; omega)).mono ?_
  rintro e w' ⟨AJ, cJ, rfl, hJ, hb⟩
  have hf : [l0, l2].flatten = l0 ++ l2 := by simp
  rw [hf] at hJ
  have hl : (l0 ++ l2).length = n0 + n2 := by simp [h0, h2]
  rw [hl] at hJ
  obtain ⟨q1, q2⟩ := own_cap hJ
  refine ⟨AJ, cJ, by rw [hf, hl], Sl.ofOwn hJ, q1, q2, z.trans (hb.mono z.size)⟩

/-- Split by the law's measures -/
theorem split_ok {A : Option Addr} {n c : Nat} {l : List UInt8} {w : World} (hs : Sl w 1 A n (bytesV l)) (hc : n ≤ c) (hn : n ≤ 1000000000) :
    Calls Try.prog 18 #[.slice A n c, .agg #[.int .i64 2, .int .i64 40, .int .i64 3]] w fun e w' => ∃ AC N cC, e = .returned (.tuple #[.slice AC N cC, .int .i64 0]) ∧ Chs w' AC N cC (chunkL 2 40 3 l) ∧ N ≤ n ∧ Below w.heap.size w w' := by
  refine (split_any A n c l 2 40 3 w hs hc hn (by decide)).mono ?_
  rintro e w' ⟨AC, cC, vs, rfl, hown, heach, hb⟩
  have hl : l.length = n := by have := hs.1; simpa [bytesV] using this
  refine ⟨AC, _, cC, rfl, ⟨⟨vs, Sl.ofOwn hown, heach.all⟩, (own_cap hown).1, rfl⟩, ?_, hb⟩
  rw [chunksOf_length, ← hl]
  exact cutL_length 2 40 3 l.length l (Nat.le_refl _)

theorem own_kept {H : Type} {P : Program} {k : TypeId} {R : Value → Option (DataW H × List MemPlace)} {b n : Nat} {D : DataW H} {w w' : World} (h : w.ownsMap P k R b n D) (hb : Below w.heap.size w w') : w'.ownsMap P k R b n D :=
  h.kept (row := none) ⟨hb.os, hb.tape, hb.output, hb.size, fun k hk _ => hb.block k hk⟩ (by simp)
/-- the one-element literal that is made in a world of the class -/
theorem slOne {B : Nat} {w W : World} (h : Below B w W) (x : Value) (t : TypeId) : Sl (W.alloc (.cells #[x] t)) 1 (some ⟨W.heap.size, 0, none⟩) 1 [x] := Sl.one W x t
theorem Sl.laid {w : World} {sz n : Nat} {A : Option Addr} {xs : List Value} (h : Sl w sz A n xs) (o : Obj) : Sl (w.alloc o) sz A n xs := h.below ((Below.refl _ _).alloc (Nat.le_refl _) _)

theorem keyed3 : Keyed Try.prog 3 := int_keyed Try.underlying3
theorem zeroInt (w : World) : (zeroValue 3).run Try.prog w = .ok (.int .i64 0) w := by kernel_rfl
theorem chunk_abc : (chunkL 2 40 3 [97, 98, 99]).length ≠ 0 := by decide +kernel

set_option maxRecDepth 100000 in
set_option maxHeartbeats 4000000 in
theorem wholeChunks_any (A0 : Option Addr) (n0 c0 : Nat) (l0 : List UInt8) (A1 : Option Addr) (n1 c1 : Nat) (l1 : List UInt8) (A2 : Option Addr) (n2 c2 : Nat) (l2 : List UInt8) (W0 : World)
    (hs0 : Sl W0 1 A0 n0 (bytesV l0)) (hc0 : n0 ≤ c0) (hm0 : c0 ≤ maxLen) (hn0 : n0 ≤ 1048576) (hs1 : Sl W0 1 A1 n1 (bytesV l1)) (hc1 : n1 ≤ c1) (hm1 : c1 ≤ maxLen) (hn1 : n1 ≤ 1048576)
    (hs2 : Sl W0 1 A2 n2 (bytesV l2)) (hc2 : n2 ≤ c2) (hm2 : c2 ≤ maxLen) (hn2 : n2 ≤ 1048576) :
    Calls Try.prog 7 #[.slice A0 n0 c0, .slice A1 n1 c1, .slice A2 n2 c2] W0 fun e w' => e = .returned (.bool true) ∧ Below W0.heap.size W0 w' := by
  have L0 := Lib.hid (show l0.length = n0 by have := hs0.1; simpa [bytesV] using this)
  have L1 := Lib.hid (show l1.length = n1 by have := hs1.1; simpa [bytesV] using this)
  have L2 := Lib.hid (show l2.length = n2 by have := hs2.1; simpa [bytesV] using this)
  have hmm := @run_makeMap Try.prog
  have M0 := Lib.hid hm0
  have M1 := Lib.hid hm1
  have M2 := Lib.hid hm2
  obtain ⟨w1, hw1⟩ : ∃ w1, w1 = W0.alloc (.cells #[.int .i64 2, .int .i64 40, .int .i64 3] 42) := ⟨_, rfl⟩
  have hB1 : Below W0.heap.size W0 w1 := by rw [hw1]; exact (Below.refl _ _).alloc (Nat.le_refl _) _
  have hP : w1.cell? ⟨W0.heap.size, 0, none⟩ = some (.int .i64 2) ∧ w1.cell? ⟨W0.heap.size, 1, none⟩ = some (.int .i64 40) ∧ w1.cell? ⟨W0.heap.size, 2, none⟩ = some (.int .i64 3) := by
    rw [hw1]; refine ⟨?_, ?_, ?_⟩ <;> go_simp
  have HG := Lib.hid (show W0.heap.size < w1.heap.size by rw [hw1]; simp)
  have HS0 := Lib.hid (hs0.below hB1)
  have HS1 := Lib.hid (hs1.below hB1)
  have HS2 := Lib.hid (hs2.below hB1)
  have HB1 := Lib.hid hB1
  clear hs0 hs1 hs2 hm0 hm1 hm2 hB1
  go_enter Try.func7, Try.ntmps7
  go_upto_region 2 with fail
  rw [← hw1]
  clear hw1
  generalize hGG : W0.heap.size = G at *
  have HGG := Lib.hid hGG
  clear hGG
  obtain ⟨p1, p2, p3⟩ := id hP
  have hgl := HG.out
  have HJ0 := Lib.hid (join_two HS0.out hc0 M0.out hn0 HS2.out hc2 M2.out hn2)
  go_cut [8, 9] (fun s8 s9 wx => ∃ AX NX cX, s8 = .slice AX NX cX ∧ s9 = .int .i64 0 ∧ Hid (Chs wx AX NX cX (chunkL 2 40 3 (l0 ++ l2))) ∧ NX ≤ n0 + n2 ∧ Hid (Below w1.heap.size w1 wx))
  case first =>
    refine wp_region_held (S := fun w => Below w1.heap.size w1 w) (by kernel_rfl) ?_
    change wpAnyH _ _ _ _ _ _ _ _ (World.drew _)
    refine held_take (i := 0) (v := ?_) (a' := ?_) rfl (by kernel_rfl) (by kernel_rfl) (by kernel_rfl) (fun _ _ _ h => h) (by rfl) (Same.below ⟨1, rfl⟩ _) ?_ ?_ ?_
    rotate_left 2
    · (intro w hS; go_simp; try with_reducible rfl)
    · (go_simp; try with_reducible rfl)
    refine held_take (i := 1) (v := ?_) (a' := ?_) rfl (by kernel_rfl) (by kernel_rfl) (by kernel_rfl) (fun _ _ _ h => h) (by rfl) (Same.below ⟨1, rfl⟩ _) ?_ ?_ ?_
    rotate_left 2
    · (intro w hS; go_simp; try with_reducible rfl)
    · (go_simp; try with_reducible rfl)
    refine held_take (i := 4) (v := ?_) (a' := ?_) rfl (by kernel_rfl) (by kernel_rfl) (by kernel_rfl) (fun _ _ _ h => h) (by rfl) (Same.below ⟨1, rfl⟩ _) ?_ ?_ ?_
    rotate_left 2
    · (intro w hS; have t1 := (hS.cell (p := ⟨G, 0, none⟩) hgl).trans p1; have t2 := (hS.cell (p := ⟨G, 1, none⟩) hgl).trans p2; have t3 := (hS.cell (p := ⟨G, 2, none⟩) hgl).trans p3; go_simp; try with_reducible rfl)
    · (go_simp; try with_reducible rfl)
    refine held_ready (rs := [2]) (by kernel_rfl) (by simp) ?_
    refine AllHeld.cons rfl (fun KR hKR => ?_) ?_
    · go_simp
      skip
      refine hKR _ _ ((Below.refl _ w1).drew.alloc (by simp) _) ?_
      clear hKR KR
      refine held_ready (rs := [3]) (by kernel_rfl) (by simp) ?_
      refine AllHeld.cons rfl (fun KR hKR => ?_) ?_
      · go_simp
        refine (HJ0.out _ _ (Below.refl _ w1).drew rfl).mono ?_
        rintro e wa ⟨AJ, cJ, rfl, HJ, hJc, hJm, HBa⟩
        refine hKR _ _ HBa ?_
        clear hKR KR
        refine held_ready (rs := [5]) (by kernel_rfl) (by simp) ?_
        refine AllHeld.cons rfl (fun KR hKR => ?_) ?_
        · go_simp
          refine (split_ok HJ hJc (by omega)).mono ?_
          rintro e wb ⟨AX, NX, cX, rfl, HX, hNX, HBb⟩
          refine hKR _ _ (HBa.trans (HBb.mono HBa.size)) ?_
          clear hKR KR
          refine held_take (i := 6) (v := ?_) (a' := ?_) rfl (by kernel_rfl) (by kernel_rfl) (by kernel_rfl) (fun _ _ _ h => h) (by rfl) (HBa.trans (HBb.mono HBa.size)) ?_ ?_ ?_
          rotate_left 2
          · (intro w hS; go_simp; try with_reducible rfl)
          · (go_simp; try with_reducible rfl)
          refine held_take (i := 7) (v := ?_) (a' := ?_) rfl (by kernel_rfl) (by kernel_rfl) (by kernel_rfl) (fun _ _ _ h => h) (by rfl) (HBa.trans (HBb.mono HBa.size)) ?_ ?_ ?_
          rotate_left 2
          · (intro w hS; go_simp; try with_reducible rfl)
          · (go_simp; try with_reducible rfl)
          refine held_take (i := 8) (v := ?_) (a' := ?_) rfl (by kernel_rfl) (by kernel_rfl) (by kernel_rfl) (fun _ _ _ h => h) (by rfl) (HBa.trans (HBb.mono HBa.size)) ?_ ?_ ?_
          rotate_left 2
          · (intro w hS; go_simp; try with_reducible rfl)
          · (go_simp; try with_reducible rfl)
          refine held_take (i := 9) (v := ?_) (a' := ?_) rfl (by kernel_rfl) (by kernel_rfl) (by kernel_rfl) (fun _ _ _ h => h) (by rfl) (HBa.trans (HBb.mono HBa.size)) ?_ ?_ ?_
          rotate_left 2
          · (intro w hS; go_simp; try with_reducible rfl)
          · (go_simp; try with_reducible rfl)
          refine held_take (i := 10) (v := ?_) (a' := ?_) rfl (by kernel_rfl) (by kernel_rfl) (by kernel_rfl) (fun _ _ _ h => h) (by rfl) (HBa.trans (HBb.mono HBa.size)) ?_ ?_ ?_
          rotate_left 2
          · (intro w hS; go_simp; try with_reducible rfl)
          · (go_simp; try with_reducible rfl)
          refine wpAnyH_done (by kernel_rfl) ?_ _
          go_wp2_with fail
          go_meet
          case rel => exact ⟨AX, NX, cX, rfl, rfl, Lib.hid HX, hNX, Lib.hid (HBa.trans (HBb.mono HBa.size))⟩
        exact AllHeld.nil
      exact AllHeld.nil
    exact AllHeld.nil
  case rest =>
  obtain ⟨AX, NX, cX, rfl, rfl, HX, hNX, HB2⟩ := hcut
  clear HJ0 p1 p2 p3 hgl
  obtain ⟨p1, p2, p3⟩ := cells3_keep HB2.out HG.out hP
  have hgl := Nat.lt_of_lt_of_le HG.out HB2.out.size
  go_upto_region 3 with fail
  rename World => w2
  have HJ1 := Lib.hid (join_two (HS1.out.below HB2.out) hc1 M1.out hn1 (HS2.out.below HB2.out) hc2 M2.out hn2)
  go_cut [10, 11] (fun s8 s9 wx => ∃ AY NY cY, s8 = .slice AY NY cY ∧ s9 = .int .i64 0 ∧ Hid (Chs wx AY NY cY (chunkL 2 40 3 (l1 ++ l2))) ∧ NY ≤ n1 + n2 ∧ Hid (Below w2.heap.size w2 wx))
  case first =>
    refine wp_region_held (S := fun w => Below w2.heap.size w2 w) (by kernel_rfl) ?_
    change wpAnyH _ _ _ _ _ _ _ _ (World.drew _)
    refine held_take (i := 0) (v := ?_) (a' := ?_) rfl (by kernel_rfl) (by kernel_rfl) (by kernel_rfl) (fun _ _ _ h => h) (by rfl) (Same.below ⟨1, rfl⟩ _) ?_ ?_ ?_
    rotate_left 2
    · (intro w hS; go_simp; try with_reducible rfl)
    · (go_simp; try with_reducible rfl)
    refine held_take (i := 1) (v := ?_) (a' := ?_) rfl (by kernel_rfl) (by kernel_rfl) (by kernel_rfl) (fun _ _ _ h => h) (by rfl) (Same.below ⟨1, rfl⟩ _) ?_ ?_ ?_
    rotate_left 2
    · (intro w hS; go_simp; try with_reducible rfl)
    · (go_simp; try with_reducible rfl)
    refine held_take (i := 4) (v := ?_) (a' := ?_) rfl (by kernel_rfl) (by kernel_rfl) (by kernel_rfl) (fun _ _ _ h => h) (by rfl) (Same.below ⟨1, rfl⟩ _) ?_ ?_ ?_
    rotate_left 2
    · (intro w hS; have t1 := (hS.cell (p := ⟨G, 0, none⟩) hgl).trans p1; have t2 := (hS.cell (p := ⟨G, 1, none⟩) hgl).trans p2; have t3 := (hS.cell (p := ⟨G, 2, none⟩) hgl).trans p3; go_simp; try with_reducible rfl)
    · (go_simp; try with_reducible rfl)
    refine held_ready (rs := [2]) (by kernel_rfl) (by simp) ?_
    refine AllHeld.cons rfl (fun KR hKR => ?_) ?_
    · go_simp
      skip
      refine hKR _ _ ((Below.refl _ w2).drew.alloc (by simp) _) ?_
      clear hKR KR
      refine held_ready (rs := [3]) (by kernel_rfl) (by simp) ?_
      refine AllHeld.cons rfl (fun KR hKR => ?_) ?_
      · go_simp
        refine (HJ1.out _ _ (Below.refl _ w2).drew rfl).mono ?_
        rintro e wa ⟨AJ, cJ, rfl, HJ, hJc, hJm, HBa⟩
        refine hKR _ _ HBa ?_
        clear hKR KR
        refine held_ready (rs := [5]) (by kernel_rfl) (by simp) ?_
        refine AllHeld.cons rfl (fun KR hKR => ?_) ?_
        · go_simp
          refine (split_ok HJ hJc (by omega)).mono ?_
          rintro e wb ⟨AY, NY, cY, rfl, HY, hNY, HBb⟩
          refine hKR _ _ (HBa.trans (HBb.mono HBa.size)) ?_
          clear hKR KR
          refine held_take (i := 6) (v := ?_) (a' := ?_) rfl (by kernel_rfl) (by kernel_rfl) (by kernel_rfl) (fun _ _ _ h => h) (by rfl) (HBa.trans (HBb.mono HBa.size)) ?_ ?_ ?_
          rotate_left 2
          · (intro w hS; go_simp; try with_reducible rfl)
          · (go_simp; try with_reducible rfl)
          refine held_take (i := 7) (v := ?_) (a' := ?_) rfl (by kernel_rfl) (by kernel_rfl) (by kernel_rfl) (fun _ _ _ h => h) (by rfl) (HBa.trans (HBb.mono HBa.size)) ?_ ?_ ?_
          rotate_left 2
          · (intro w hS; go_simp; try with_reducible rfl)
          · (go_simp; try with_reducible rfl)
          refine held_take (i := 8) (v := ?_) (a' := ?_) rfl (by kernel_rfl) (by kernel_rfl) (by kernel_rfl) (fun _ _ _ h => h) (by rfl) (HBa.trans (HBb.mono HBa.size)) ?_ ?_ ?_
          rotate_left 2
          · (intro w hS; go_simp; try with_reducible rfl)
          · (go_simp; try with_reducible rfl)
          refine held_take (i := 9) (v := ?_) (a' := ?_) rfl (by kernel_rfl) (by kernel_rfl) (by kernel_rfl) (fun _ _ _ h => h) (by rfl) (HBa.trans (HBb.mono HBa.size)) ?_ ?_ ?_
          rotate_left 2
          · (intro w hS; go_simp; try with_reducible rfl)
          · (go_simp; try with_reducible rfl)
          refine held_take (i := 10) (v := ?_) (a' := ?_) rfl (by kernel_rfl) (by kernel_rfl) (by kernel_rfl) (fun _ _ _ h => h) (by rfl) (HBa.trans (HBb.mono HBa.size)) ?_ ?_ ?_
          rotate_left 2
          · (intro w hS; go_simp; try with_reducible rfl)
          · (go_simp; try with_reducible rfl)
          refine wpAnyH_done (by kernel_rfl) ?_ _
          go_wp2_with fail
          go_meet
          case rel => exact ⟨AY, NY, cY, rfl, rfl, Lib.hid HY, hNY, Lib.hid (HBa.trans (HBb.mono HBa.size))⟩
        exact AllHeld.nil
      exact AllHeld.nil
    exact AllHeld.nil
  case rest =>
  obtain ⟨AY, NY, cY, rfl, rfl, HY, hNY, HB3⟩ := hcut
  rename World => w3
  have hgl3 := Nat.lt_of_lt_of_le hgl HB3.out.size
  obtain ⟨q1, q2, q3⟩ := cells3_keep HB3.out hgl ⟨p1, p2, p3⟩
  have HX3 := Lib.hid (HX.out.below HB3.out)
  have hz1 : G ≤ w1.heap.size := HGG.out ▸ HB1.out.size
  have HB03 := Lib.hid ((HB1.out.trans (HB2.out.mono hz1)).trans (HB3.out.mono (Nat.le_trans hz1 HB2.out.size)))
  clear HJ1 p1 p2 p3 hP HX HB1 HB2 HB3 hgl HS0 HS1 HS2 HG hz1
  clear w1 w2
  have kc := fun (w : World) (C : Array Value) (n c : Nat) => Lib.run_convert_bytes_const (P := Try.prog) w 22 5 C n c Try.underlying22 Try.underlying5
  have hsz : Sl (w3.alloc (.cells #[.int .u8 97, .int .u8 98, .int .u8 99] 5 (3, 4))) 1 (some ⟨w3.heap.size, 0, none⟩) 3 (bytesV [97, 98, 99]) := Sl.fresh w3 _ _ _ _ _ rfl
  have HSZ := Lib.hid hsz
  clear hsz
  have hB4 : Below w3.heap.size w3 (w3.alloc (.cells #[.int .u8 97, .int .u8 98, .int .u8 99] 5 (3, 4))) := (Below.refl _ _).alloc (Nat.le_refl _) _
  have HBz := Lib.hid hB4
  clear hB4
  go_wp2_with fail
  refine (split_ok HSZ.out (Nat.le_refl _) (by omega)).mono ?_
  rintro e w4 ⟨AZ, NZ, cZ, rfl, HZ, hNZ, hb4⟩
  have HB34 := HBz.out.trans (hb4.mono HBz.out.size)
  have HB4 := Lib.hid (HB03.out.trans (HB34.mono (Nat.le_trans (Nat.le_of_lt hgl3) (Nat.le_refl _))))
  have HX4 := Lib.hid (HX3.out.below HB34)
  have HY4 := Lib.hid (HY.out.below HB34)
  have hgl4 := Nat.lt_of_lt_of_le hgl3 HB34.size
  have hz0 : NZ ≠ 0 := by rw [← HZ.len]; exact chunk_abc
  have hz1 : ((NZ : Int) == 0) = false := by simp [hz0]
  have hz2 : 0 < NZ := by omega
  have hz3 : (0 : Int) < (NZ : Int) := by omega
  obtain ⟨⟨vz, hvz, haz⟩, hcz, hlz⟩ := HZ
  have hfz := chunkL_flat 2 40 3 [97, 98, 99]
  generalize chunkL 2 40 3 [97, 98, 99] = CZ at *
  have HJZ := Lib.hid (join_any AZ NZ cZ vz CZ w4 hvz haz (by omega) (by rw [hfz]; decide))
  rw [hfz] at HJZ
  clear q1 q2 q3 hgl3 HX3 HY HB03 kc hb4 HSZ HB34 HBz hvz haz hcz hlz hfz
  clear CZ
  generalize w3.heap.size = g3 at *
  clear w3
  by_cases h3 : 3000 < n2
  · have h3' : (3000 : Int) < (n2 : Int) := by omega
    go_wp2_with fail
    refine HJZ.out.mono ?_
    rintro e w5 ⟨AJ, cJ, rfl, hJ, hb5⟩
    have hcv : cvt w5 AJ 3 cJ = .ok (.string ⟨#[97, 98, 99]⟩) w5 := cvt_of (l := [97, 98, 99]) (Sl.ofOwn hJ) cJ
    go_wp2_with fail
    go_ret
    refine ⟨rfl, ?_⟩
    have zz := HB4.out.trans (hb5.mono (HGG.out ▸ HB4.out.size))
    rw [← HGG.out] at zz
    exact zz
  · have h3' : ¬ (3000 : Int) < (n2 : Int) := by omega
    have HLAW := Lib.hid (fun i k => behind_same 2 40 3 l0 l1 l2 i k)
    have HFX := Lib.hid (fun k => lenTo_le (chunkL 2 40 3 (l0 ++ l2)) k)
    have HFY := Lib.hid (fun k => lenTo_le (chunkL 2 40 3 (l1 ++ l2)) k)
    rw [chunkL_flat, List.length_append, L0.out, L2.out] at HFX
    rw [chunkL_flat, List.length_append, L1.out, L2.out] at HFY
    rw [L0.out, L1.out] at HLAW
    generalize chunkL 2 40 3 (l0 ++ l2) = CX at *
    generalize chunkL 2 40 3 (l1 ++ l2) = CY at *
    clear L0 L1 L2
    go_wp2_with fail
    refine HJZ.out.mono ?_
    rintro e w5 ⟨AJ, cJ, rfl, hJ, hb5⟩
    have HX5 := Lib.hid (HX4.out.below hb5)
    have HY5 := Lib.hid (HY4.out.below hb5)
    have HB5 := Lib.hid (HB4.out.trans (hb5.mono (HGG.out ▸ HB4.out.size)))
    have hgl5 := Nat.lt_of_lt_of_le hgl4 hb5.size
    have hcv : cvt w5 AJ 3 cJ = .ok (.string ⟨#[97, 98, 99]⟩) w5 := cvt_of (l := [97, 98, 99]) (Sl.ofOwn hJ) cJ
    clear HJZ HX4 HY4 HB4 hgl4 hb5 hJ
    go_wp2_with fail
    clear hcv
    have HB6 : Below w5.heap.size w5 (w5.alloc (.map #[] 0)) := (Below.refl _ _).alloc (Nat.le_refl _) _
    go_loopw [15, 95] (fun s15 s95 wr => ∃ k : Nat, k ≤ NX ∧ s95 = .int .i64 k ∧ s15 = .int .i64 ((lenTo CX k : Int) - n0) ∧ (∃ D, Hid (EndsD CX n0 k D) ∧ wr.ownsMap Try.prog 3 (plainElem (H := Unit) Try.prog 3) w5.heap.size k D) ∧ Below w5.heap.size w5 wr)
      (fun s15 s95 wr => NX - (intOf s95).toNat)
    case atStart => exact ⟨0, Nat.zero_le _, rfl, by rw [lenTo_zero]; go_num, ⟨.map [], Lib.hid (ends_nil _ _), World.ownsMap_made _ _ _ _⟩, HB6⟩
    case round =>
      obtain ⟨k, hk, rfl, rfl, ⟨D, HD, hown⟩, hnx⟩ := hrel
      by_cases hlt : k < NX
      · obtain ⟨b, off, A', c', l, rfl, hbl, hcell, hget, hsl, hlc, hcm⟩ := (HX5.out.below hnx).look hlt
        have hst := lenTo_succ hget
        have HFk := HFX.out (k + 1)
        clear hget hsl hcm
        have hwf : (Lit.int .i64 ((lenTo CX k : Int) - n0 + l.length)).wf = true := WalkArith.wf_i64 (by omega)
        go_wp2_with (first | (at_mapUpdate; refine wpList_mapUpdate_own _ rfl _ _ _ 47 rfl 3 3 keyed3 Try.underlying47 _ w5.heap.size k _ rfl hown (by unfold maxLen; omega) _ _ _ rfl rfl (keyOf_int_mk Try.underlying3 hwf) _ [] (plainElem_int Try.underlying3 (WalkArith.wf_i64 (by omega))) ?_; intro w7 hown7 hgrow7) | fail)
        go_roundw
        case rel => exact ⟨k + 1, by omega, by go_num, by rw [hst]; congr 1; omega, ⟨_, Lib.hid (ends_put hown.isMap HD.out (by rw [hst]; omega) (by omega) trivial), hown7⟩, hnx.grown hgrow7 hnx.size (fun j hj => by cases hj; exact Nat.le_refl _)⟩
        case measure => simp [intOf]; omega
      · obtain rfl : k = NX := by omega
        clear hmm
        go_wp2_with fail
        have HX6 := Lib.hid (HX5.out.below hnx)
        have HY6 := Lib.hid (HY5.out.below hnx)
        have HB7 := Lib.hid (HB5.out.trans (hnx.mono (Nat.le_of_lt (HGG.out ▸ hgl5))))
        have hgl6 := Nat.lt_of_lt_of_le hgl5 hnx.size
        have HOWN := Lib.hid hown
        clear HX5 HY5 HB5 hgl5 hown hnx HB6 hz0 hz1 hz2 hz3 hNZ h3 h3'
        obtain ⟨wL, rfl⟩ : ∃ wo : World, wo = wr := ⟨_, rfl⟩
        generalize w5.heap.size = M at *
        go_loopw [15, 114] (fun s15 s114 wr => ∃ q : Nat, q ≤ NY ∧ s114 = .int .i64 q ∧ s15 = .int .i64 ((lenTo CY q : Int) - n1) ∧ Below wL.heap.size wL wr)
          (fun s15 s114 wr => NY - (intOf s114).toNat)
        case atStart => exact ⟨0, Nat.zero_le _, rfl, by rw [lenTo_zero]; go_num, Below.refl _ _⟩
        case round =>
          obtain ⟨q, hq, rfl, rfl, hnx⟩ := hrel
          have hY7 := HY6.out.below hnx
          by_cases hlt2 : q < NY
          · obtain ⟨b, off, A', c', l, rfl, hbl, hcell, hget, hsl, hlc, hcm⟩ := hY7.look hlt2
            have hst := lenTo_succ hget
            have HFk := HFY.out (q + 1)
            have hpz : (lenTo CY q : Int) - n1 + l.length = (lenTo CY (q + 1) : Int) - n1 := by rw [hst]; omega
            have hown := own_kept HOWN.out hnx
            have hwf : (Lit.int .i64 ((lenTo CY (q + 1) : Int) - n1)).wf = true := WalkArith.wf_i64 (by omega)
            clear hget hsl hcm hst hY7
            go_upto_region 20 with fail
            clear hpz
            go_upto_region 21 with (first | (at_lookup; refine wpList_lookup_own_int _ rfl _ _ 47 rfl 3 3 .i64 keyed3 Try.underlying47 Try.underlying3 (zeroInt _) M k _ rfl hown _ _ rfl (keyOf_int_mk Try.underlying3 hwf) ?_; intro cc hat hwc) | fail)
            have hcc := HD.out _ _ hat
            clear hat hown hwf hwc
            by_cases hng : (lenTo CY (q + 1) : Int) - n1 < 0
            · clear hcc
              go_wp2_with fail
              go_roundw
              case rel => exact ⟨q + 1, by omega, by go_num, rfl, hnx⟩
              case measure => simp [intOf]; omega
            · rcases hcc with rfl | ⟨i, rfl, hi1, hik, hiz⟩
              · go_wp2_with fail
                go_roundw
                case rel => exact ⟨q + 1, by omega, by go_num, rfl, hnx⟩
                case measure => simp [intOf]; omega
              · have hdr := HLAW.out i (q + 1) (by rw [HX6.out.len]; exact hik) (by rw [HY6.out.len]; omega) hiz (by omega)
                have hlen := behind_get hdr
                rw [HX6.out.len, HY6.out.len] at hlen
                have hl1 : (k : Int) - (i : Int) = (NY : Int) - (q : Int) - 1 := by omega
                have hat := fun n => behind_at hdr n
                have HAT := Lib.hid hat
                have hi0 : ((i : Int) == 0) = false := by simp; omega
                have hne : ((k : Int) - (i : Int) != (NY : Int) - (q : Int) - 1) = false := by rw [hl1]; simp
                have hik' : (i : Int) ≤ (k : Int) := by omega
                have hi0' : (0 : Int) ≤ (i : Int) := by omega
                have HL1 := Lib.hid hl1
                clear hdr hlen hat hl1
                go_wp2_with fail
                clear hne hng hi0
                obtain ⟨wM, rfl⟩ : ∃ wo : World, wo = wr := ⟨_, rfl⟩
                have HX8 := Lib.hid (HX6.out.below hnx)
                have HY8 := Lib.hid (HY6.out.below hnx)
                go_loopw [146] (fun s146 wr => ∃ m : Nat, m ≤ k - i ∧ s146 = .int .i64 m ∧ Below wM.heap.size wM wr)
                  (fun s146 wr => k - i - (intOf s146).toNat)
                case atStart => exact ⟨0, Nat.zero_le _, rfl, Below.refl _ _⟩
                case round =>
                  obtain ⟨m, hm, rfl, hny⟩ := hrel
                  by_cases hlt3 : m < k - i
                  · have hltI : (m : Int) < (k : Int) - (i : Int) := by omega
                    obtain ⟨p1, hp1⟩ : ∃ p1, p1 = i + m := ⟨_, rfl⟩
                    obtain ⟨p2, hp2⟩ : ∃ p2, p2 = q + 1 + m := ⟨_, rfl⟩
                    have hp1k : p1 < k := by omega
                    have hp2k : p2 < NY := by have := HL1.out; omega
                    obtain ⟨bx, ox, Ax, cx, lx, hAX, hbx, hcx, hgx, hsx, hlx, hmx⟩ := (HX8.out.below hny).look hp1k
                    subst hAX
                    obtain ⟨by', oy, Ay, cy, ly, hAY, hby, hcy, hgy, hsy, hly, hmy⟩ := (HY8.out.below hny).look hp2k
                    injection hAY with hAY
                    injection hAY with e1 e2
                    subst e1 e2
                    have hll : lx = ly := by
                      have := HAT.out m
                      rw [← hp1, ← hp2, hgx, hgy] at this
                      injection this
                    subst hll
                    have hlb : lx.length ≤ n0 + n2 := by have h1 := lenTo_succ hgx; have h2 := HFX.out (p1 + 1); omega
                    clear hgx hgy
                    have hw1 : IntKind.i64.wrap ((i : Int) + (m : Int)) = (p1 : Int) := by rw [IntWalk.i64_in _ (by omega)]; omega
                    have hw2 : IntKind.i64.wrap ((q : Int) + 1) = (q : Int) + 1 := IntWalk.i64_in _ (by omega)
                    have hw3 : IntKind.i64.wrap ((q : Int) + 1 + (m : Int)) = (p2 : Int) := by rw [IntWalk.i64_in _ (by omega)]; omega
                    have hp1k' : (p1 : Int) < (k : Int) := by omega
                    have hp2k' : (p2 : Int) < (NY : Int) := by omega
                    have hj1 : (0 : Int) ≤ (i : Int) + (m : Int) := by omega
                    have hj2 : (i : Int) + (m : Int) < (k : Int) := by omega
                    have hj3 : ((i : Int) + (m : Int)).toNat = p1 := by omega
                    have hj4 : (0 : Int) ≤ (q : Int) + 1 + (m : Int) := by omega
                    have hj5 : (q : Int) + 1 + (m : Int) < (NY : Int) := by omega
                    have hj6 : ((q : Int) + 1 + (m : Int)).toNat = p2 := by omega
                    have hfl : ([lx].flatten).length ≤ 1000000000 := by simp; omega
                    have HFL := Lib.hid hfl
                    have HSX := Lib.hid hsx
                    have HSY := Lib.hid hsy
                    have HCX := Lib.hid (And.intro hlx hmx)
                    have HCY := Lib.hid (And.intro hly hmy)
                    clear hsx hsy hlx hly hmx hmy hfl
                    have hid32 := shaG_length [lx].flatten
                    have hsum : ∀ (W : World) (A : Option Addr) (c : Nat) (g : Addr), Sl wr 1 A lx.length (bytesV lx) → lx.length ≤ c → c ≤ maxLen → Below wr.heap.size wr W → Sl W 1 (some g) 1 [.slice A lx.length c] →
                        Calls Try.prog 11 #[.slice (some g) 1 1] W fun e w' => e = .returned (.agg (bytesV (shaG [lx].flatten)).toArray) ∧ Below W.heap.size W w' := by
                      intro W A c g hA h1 h2 hW hl
                      exact sum_any _ 1 1 _ [lx] _ hl ((AllB.nil _).snoc (SlB.of (hA.below hW) h1 h2)) (by omega) HFL.out
                    have HSU := Lib.hid hsum
                    clear hsum
                    obtain ⟨SL, hSL⟩ : ∃ SL, SL = shaG [lx].flatten := ⟨_, rfl⟩
                    rw [← hSL] at hid32 HSU
                    clear hSL
                    obtain ⟨KV, hKV⟩ : ∃ KV, KV = (bytesV SL).toArray := ⟨_, rfl⟩
                    rw [← hKV] at HSU
                    have heq : ∀ w : World, neqId w KV KV = .ok (.bool false) w := fun w => by
                      have h := neqId_of (x := SL) (y := SL) hid32 hid32 w
                      rw [beq_self_eq_true] at h
                      rw [hKV]; exact h
                    clear hKV hid32
                    obtain ⟨nx, hnxl⟩ : ∃ nx, nx = lx.length := ⟨_, rfl⟩
                    rw [← hnxl] at hcx hcy HSX HSY HSU HCX HCY
                    have HNXL := Lib.hid hnxl
                    clear hnxl
                    go_upto_region 27 with fail
                    go_cut [184] (fun v wx => v = .bool false ∧ Below wr.heap.size wr wx)
                    case first =>
                      have hcls : Below wr.heap.size wr wr.drew := Same.below ⟨1, rfl⟩ _
                      clear HL1 HAT HLAW HFX HFY HD hnx hp1 hp2 hp1k hp2k hlb hk hlt hlt2 hlt3 hltI HB7 hgl6 HOWN HX6 HY6 hcell hbl hlc hiz hik hi1 HFk hq hNX hNY hn0 hn1 hn2 hc0 hc1 hc2 hik' hi0' hm hny HX8 HY8
                      refine wp_region_held (S := fun w => Below wr.heap.size wr w) (by kernel_rfl) ?_
                      change wpAnyH _ _ _ _ _ _ _ _ (World.drew _)
                      generalize World.drew wr = wd at hcls ⊢
                      refine held_take (i := 0) (v := ?_) (a' := ?_) rfl (by kernel_rfl) (by kernel_rfl) (by kernel_rfl) (fun _ _ _ h => h) (by rfl) hcls ?_ ?_ ?_
                      rotate_left 2
                      · (intro w hS; go_simp; try with_reducible rfl)
                      · (go_simp; try with_reducible rfl)
                      refine held_take (i := 1) (v := ?_) (a' := ?_) rfl (by kernel_rfl) (by kernel_rfl) (by kernel_rfl) (fun _ _ _ h => h) (by rfl) hcls ?_ ?_ ?_
                      rotate_left 2
                      · (intro w hS; go_simp; try with_reducible rfl)
                      · (go_simp; try with_reducible rfl)
                      refine held_take (i := 2) (v := ?_) (a' := ?_) rfl (by kernel_rfl) (by kernel_rfl) (by kernel_rfl) (fun _ _ _ h => h) (by rfl) hcls ?_ ?_ ?_
                      rotate_left 2
                      · (intro w hS; go_simp; try with_reducible rfl)
                      · (go_simp; try with_reducible rfl)
                      refine held_take (i := 3) (v := ?_) (a' := ?_) rfl (by kernel_rfl) (by kernel_rfl) (by kernel_rfl) (fun _ _ _ h => h) (by rfl) hcls ?_ ?_ ?_
                      rotate_left 2
                      · (intro w hS; go_simp; try with_reducible rfl)
                      · (go_simp; try with_reducible rfl)
                      refine held_take (i := 4) (v := ?_) (a' := ?_) rfl (by kernel_rfl) (by kernel_rfl) (by kernel_rfl) (fun _ _ _ h => h) (by rfl) hcls ?_ ?_ ?_
                      rotate_left 2
                      · (intro w hS; go_simp; try with_reducible rfl)
                      · (go_simp; try with_reducible rfl)
                      refine held_take (i := 5) (v := ?_) (a' := ?_) rfl (by kernel_rfl) (by kernel_rfl) (by kernel_rfl) (fun _ _ _ h => h) (by rfl) hcls ?_ ?_ ?_
                      rotate_left 2
                      · (intro w hS; have t1 := (hS.cell hbx).trans hcx; go_simp; try with_reducible rfl)
                      · (go_simp; try with_reducible rfl)
                      refine held_take (i := 8) (v := ?_) (a' := ?_) rfl (by kernel_rfl) (by kernel_rfl) (by kernel_rfl) (fun _ _ _ h => h) (by rfl) hcls ?_ ?_ ?_
                      rotate_left 2
                      · (intro w hS; go_simp; try with_reducible rfl)
                      · (go_simp; try with_reducible rfl)
                      refine held_take (i := 9) (v := ?_) (a' := ?_) rfl (by kernel_rfl) (by kernel_rfl) (by kernel_rfl) (fun _ _ _ h => h) (by rfl) hcls ?_ ?_ ?_
                      rotate_left 2
                      · (intro w hS; go_simp; try with_reducible rfl)
                      · (go_simp; try with_reducible rfl)
                      refine held_take (i := 10) (v := ?_) (a' := ?_) rfl (by kernel_rfl) (by kernel_rfl) (by kernel_rfl) (fun _ _ _ h => h) (by rfl) hcls ?_ ?_ ?_
                      rotate_left 2
                      · (intro w hS; go_simp; try with_reducible rfl)
                      · (go_simp; try with_reducible rfl)
                      refine held_take (i := 11) (v := ?_) (a' := ?_) rfl (by kernel_rfl) (by kernel_rfl) (by kernel_rfl) (fun _ _ _ h => h) (by rfl) hcls ?_ ?_ ?_
                      rotate_left 2
                      · (intro w hS; go_simp; try with_reducible rfl)
                      · (go_simp; try with_reducible rfl)
                      refine held_take (i := 12) (v := ?_) (a' := ?_) rfl (by kernel_rfl) (by kernel_rfl) (by kernel_rfl) (fun _ _ _ h => h) (by rfl) hcls ?_ ?_ ?_
                      rotate_left 2
                      · (intro w hS; go_simp; try with_reducible rfl)
                      · (go_simp; try with_reducible rfl)
                      refine held_take (i := 13) (v := ?_) (a' := ?_) rfl (by kernel_rfl) (by kernel_rfl) (by kernel_rfl) (fun _ _ _ h => h) (by rfl) hcls ?_ ?_ ?_
                      rotate_left 2
                      · (intro w hS; go_simp; try with_reducible rfl)
                      · (go_simp; try with_reducible rfl)
                      refine held_take (i := 14) (v := ?_) (a' := ?_) rfl (by kernel_rfl) (by kernel_rfl) (by kernel_rfl) (fun _ _ _ h => h) (by rfl) hcls ?_ ?_ ?_
                      rotate_left 2
                      · (intro w hS; have t1 := (hS.cell hby).trans hcy; go_simp; try with_reducible rfl)
                      · (go_simp; try with_reducible rfl)
                      refine held_ready (rs := [6, 15]) (by kernel_rfl) (by simp) ?_
                      refine AllHeld.cons rfl (fun KR hKR => ?_) ?_
                      · go_simp
                        have hl1 := slOne hcls (.slice Ax nx cx) 22
                        try simp only [World.size_alloc] at hl1
                        try have hl2 := hl2.laid (.cells #[.slice Ax nx cx] 22)
                        have hcls := hcls.alloc hcls.size (.cells #[.slice Ax nx cx] 22)
                        refine hKR _ _ hcls ?_
                        clear hKR KR
                        refine held_ready (rs := [7, 15]) (by kernel_rfl) (by simp) ?_
                        refine AllHeld.cons rfl (fun KR hKR => ?_) ?_
                        · go_simp
                          refine (HSU.out _ Ax cx _ HSX.out HCX.out.1 HCX.out.2 hcls hl1).mono ?_
                          rintro e wa ⟨rfl, hba⟩
                          try have hl2 := hl2.below hba
                          have hcls := hcls.trans (hba.mono hcls.size)
                          refine hKR _ _ hcls ?_
                          clear hKR KR
                          refine held_ready (rs := [15]) (by kernel_rfl) (by simp) ?_
                          refine AllHeld.cons rfl (fun KR hKR => ?_) ?_
                          · go_simp
                            have hl2 := slOne hcls (.slice Ay nx cy) 22
                            try simp only [World.size_alloc] at hl2
                            try have hl1 := hl1.laid (.cells #[.slice Ay nx cy] 22)
                            have hcls := hcls.alloc hcls.size (.cells #[.slice Ay nx cy] 22)
                            refine hKR _ _ hcls ?_
                            clear hKR KR
                            refine held_ready (rs := [16]) (by kernel_rfl) (by simp) ?_
                            refine AllHeld.cons rfl (fun KR hKR => ?_) ?_
                            · go_simp
                              refine (HSU.out _ Ay cy _ HSY.out HCY.out.1 HCY.out.2 hcls hl2).mono ?_
                              rintro e wb ⟨rfl, hbb⟩
                              have hcls := hcls.trans (hbb.mono hcls.size)
                              refine hKR _ _ hcls ?_
                              clear hKR KR
                              refine held_take (i := 17) (v := ?_) (a' := ?_) rfl (by kernel_rfl) (by kernel_rfl) (by kernel_rfl) (fun _ _ _ h => h) (by rfl) hcls ?_ ?_ ?_
                              rotate_left 2
                              · (intro w hS; go_simp; try with_reducible rfl)
                              · (go_simp; try with_reducible rfl)
                              refine held_take (i := 18) (v := ?_) (a' := ?_) rfl (by kernel_rfl) (by kernel_rfl) (by kernel_rfl) (fun _ _ _ h => h) (by rfl) hcls ?_ ?_ ?_
                              rotate_left 2
                              · (intro w hS; go_simp; try with_reducible rfl)
                              · (go_simp; try with_reducible rfl)
                              refine held_take (i := 19) (v := ?_) (a' := ?_) rfl (by kernel_rfl) (by kernel_rfl) (by kernel_rfl) (fun _ _ _ h => h) (by rfl) hcls ?_ ?_ ?_
                              rotate_left 2
                              · (intro w hS; go_simp; try with_reducible rfl)
                              · (go_simp; try with_reducible rfl)
                              refine held_take (i := 20) (v := ?_) (a' := ?_) rfl (by kernel_rfl) (by kernel_rfl) (by kernel_rfl) (fun _ _ _ h => h) (by rfl) hcls ?_ ?_ ?_
                              rotate_left 2
                              · (intro w hS; go_simp; try with_reducible rfl)
                              · (go_simp; try with_reducible rfl)
                              refine held_take (i := 21) (v := ?_) (a' := ?_) rfl (by kernel_rfl) (by kernel_rfl) (by kernel_rfl) (fun _ _ _ h => h) (by rfl) hcls ?_ ?_ ?_
                              rotate_left 2
                              · (intro w hS; go_simp; try with_reducible rfl)
                              · (go_simp; try with_reducible rfl)
                              refine held_take (i := 22) (v := ?_) (a' := ?_) rfl (by kernel_rfl) (by kernel_rfl) (by kernel_rfl) (fun _ _ _ h => h) (by rfl) hcls ?_ ?_ ?_
                              rotate_left 2
                              · (intro w hS; go_simp; try with_reducible rfl)
                              · (go_simp; try with_reducible rfl)
                              refine held_take (i := 23) (v := ?_) (a' := ?_) rfl (by kernel_rfl) (by kernel_rfl) (by kernel_rfl) (fun _ _ _ h => h) (by rfl) hcls ?_ ?_ ?_
                              rotate_left 2
                              · (intro w hS; go_simp; try with_reducible rfl)
                              · (go_simp; try with_reducible rfl)
                              refine held_take (i := 24) (v := ?_) (a' := ?_) rfl (by kernel_rfl) (by kernel_rfl) (by kernel_rfl) (fun _ _ _ h => h) (by rfl) hcls ?_ ?_ ?_
                              rotate_left 2
                              · (intro w hS; have t1 := (hS.cell hbx).trans hcx; go_simp; try with_reducible rfl)
                              · (go_simp; try with_reducible rfl)
                              refine held_take (i := 25) (v := ?_) (a' := ?_) rfl (by kernel_rfl) (by kernel_rfl) (by kernel_rfl) (fun _ _ _ h => h) (by rfl) hcls ?_ ?_ ?_
                              rotate_left 2
                              · (intro w hS; have cvx := cvt_of (HSX.out.below hS) cx; go_simp; try with_reducible rfl)
                              · (go_simp; try with_reducible rfl)
                              refine held_take (i := 26) (v := ?_) (a' := ?_) rfl (by kernel_rfl) (by kernel_rfl) (by kernel_rfl) (fun _ _ _ h => h) (by rfl) hcls ?_ ?_ ?_
                              rotate_left 2
                              · (intro w hS; go_simp; try with_reducible rfl)
                              · (go_simp; try with_reducible rfl)
                              refine held_take (i := 27) (v := ?_) (a' := ?_) rfl (by kernel_rfl) (by kernel_rfl) (by kernel_rfl) (fun _ _ _ h => h) (by rfl) hcls ?_ ?_ ?_
                              rotate_left 2
                              · (intro w hS; go_simp; try with_reducible rfl)
                              · (go_simp; try with_reducible rfl)
                              refine held_take (i := 28) (v := ?_) (a' := ?_) rfl (by kernel_rfl) (by kernel_rfl) (by kernel_rfl) (fun _ _ _ h => h) (by rfl) hcls ?_ ?_ ?_
                              rotate_left 2
                              · (intro w hS; go_simp; try with_reducible rfl)
                              · (go_simp; try with_reducible rfl)
                              refine held_take (i := 29) (v := ?_) (a' := ?_) rfl (by kernel_rfl) (by kernel_rfl) (by kernel_rfl) (fun _ _ _ h => h) (by rfl) hcls ?_ ?_ ?_
                              rotate_left 2
                              · (intro w hS; go_simp; try with_reducible rfl)
                              · (go_simp; try with_reducible rfl)
                              refine held_take (i := 30) (v := ?_) (a' := ?_) rfl (by kernel_rfl) (by kernel_rfl) (by kernel_rfl) (fun _ _ _ h => h) (by rfl) hcls ?_ ?_ ?_
                              rotate_left 2
                              · (intro w hS; go_simp; try with_reducible rfl)
                              · (go_simp; try with_reducible rfl)
                              refine held_take (i := 31) (v := ?_) (a' := ?_) rfl (by kernel_rfl) (by kernel_rfl) (by kernel_rfl) (fun _ _ _ h => h) (by rfl) hcls ?_ ?_ ?_
                              rotate_left 2
                              · (intro w hS; go_simp; try with_reducible rfl)
                              · (go_simp; try with_reducible rfl)
                              refine held_take (i := 32) (v := ?_) (a' := ?_) rfl (by kernel_rfl) (by kernel_rfl) (by kernel_rfl) (fun _ _ _ h => h) (by rfl) hcls ?_ ?_ ?_
                              rotate_left 2
                              · (intro w hS; have t1 := (hS.cell hby).trans hcy; go_simp; try with_reducible rfl)
                              · (go_simp; try with_reducible rfl)
                              refine held_take (i := 33) (v := ?_) (a' := ?_) rfl (by kernel_rfl) (by kernel_rfl) (by kernel_rfl) (fun _ _ _ h => h) (by rfl) hcls ?_ ?_ ?_
                              rotate_left 2
                              · (intro w hS; have cvx := cvt_of (HSY.out.below hS) cy; go_simp; try with_reducible rfl)
                              · (go_simp; try with_reducible rfl)
                              refine held_take (i := 34) (v := ?_) (a' := ?_) rfl (by kernel_rfl) (by kernel_rfl) (by kernel_rfl) (fun _ _ _ h => h) (by rfl) hcls ?_ ?_ ?_
                              rotate_left 2
                              · (intro w hS; go_simp; try with_reducible rfl)
                              · (go_simp; try with_reducible rfl)
                              refine held_take (i := 35) (v := ?_) (a' := ?_) rfl (by kernel_rfl) (by kernel_rfl) (by kernel_rfl) (fun _ _ _ h => h) (by rfl) hcls ?_ ?_ ?_
                              rotate_left 2
                              · (intro w hS; go_simp; try with_reducible rfl)
                              · (go_simp; try with_reducible rfl)
                              refine wpAnyH_done (by kernel_rfl) ?_ _
                              go_wp2_with fail
                              go_meet
                              case rel => exact ⟨rfl, hcls⟩
                            exact AllHeld.nil
                          exact AllHeld.nil
                        refine AllHeld.cons rfl (fun KR hKR => ?_) ?_
                        · go_simp
                          have hl2 := slOne hcls (.slice Ay nx cy) 22
                          try simp only [World.size_alloc] at hl2
                          try have hl1 := hl1.laid (.cells #[.slice Ay nx cy] 22)
                          have hcls := hcls.alloc hcls.size (.cells #[.slice Ay nx cy] 22)
                          refine hKR _ _ hcls ?_
                          clear hKR KR
                          refine held_ready (rs := [7]) (by kernel_rfl) (by simp) ?_
                          refine AllHeld.cons rfl (fun KR hKR => ?_) ?_
                          · go_simp
                            refine (HSU.out _ Ax cx _ HSX.out HCX.out.1 HCX.out.2 hcls hl1).mono ?_
                            rintro e wa ⟨rfl, hba⟩
                            try have hl2 := hl2.below hba
                            have hcls := hcls.trans (hba.mono hcls.size)
                            refine hKR _ _ hcls ?_
                            clear hKR KR
                            refine held_ready (rs := [16]) (by kernel_rfl) (by simp) ?_
                            refine AllHeld.cons rfl (fun KR hKR => ?_) ?_
                            · go_simp
                              refine (HSU.out _ Ay cy _ HSY.out HCY.out.1 HCY.out.2 hcls hl2).mono ?_
                              rintro e wb ⟨rfl, hbb⟩
                              have hcls := hcls.trans (hbb.mono hcls.size)
                              refine hKR _ _ hcls ?_
                              clear hKR KR
                              refine held_take (i := 17) (v := ?_) (a' := ?_) rfl (by kernel_rfl) (by kernel_rfl) (by kernel_rfl) (fun _ _ _ h => h) (by rfl) hcls ?_ ?_ ?_
                              rotate_left 2
                              · (intro w hS; go_simp; try with_reducible rfl)
                              · (go_simp; try with_reducible rfl)
                              refine held_take (i := 18) (v := ?_) (a' := ?_) rfl (by kernel_rfl) (by kernel_rfl) (by kernel_rfl) (fun _ _ _ h => h) (by rfl) hcls ?_ ?_ ?_
                              rotate_left 2
                              · (intro w hS; go_simp; try with_reducible rfl)
                              · (go_simp; try with_reducible rfl)
                              refine held_take (i := 19) (v := ?_) (a' := ?_) rfl (by kernel_rfl) (by kernel_rfl) (by kernel_rfl) (fun _ _ _ h => h) (by rfl) hcls ?_ ?_ ?_
                              rotate_left 2
                              · (intro w hS; go_simp; try with_reducible rfl)
                              · (go_simp; try with_reducible rfl)
                              refine held_take (i := 20) (v := ?_) (a' := ?_) rfl (by kernel_rfl) (by kernel_rfl) (by kernel_rfl) (fun _ _ _ h => h) (by rfl) hcls ?_ ?_ ?_
                              rotate_left 2
                              · (intro w hS; go_simp; try with_reducible rfl)
                              · (go_simp; try with_reducible rfl)
                              refine held_take (i := 21) (v := ?_) (a' := ?_) rfl (by kernel_rfl) (by kernel_rfl) (by kernel_rfl) (fun _ _ _ h => h) (by rfl) hcls ?_ ?_ ?_
                              rotate_left 2
                              · (intro w hS; go_simp; try with_reducible rfl)
                              · (go_simp; try with_reducible rfl)
                              refine held_take (i := 22) (v := ?_) (a' := ?_) rfl (by kernel_rfl) (by kernel_rfl) (by kernel_rfl) (fun _ _ _ h => h) (by rfl) hcls ?_ ?_ ?_
                              rotate_left 2
                              · (intro w hS; go_simp; try with_reducible rfl)
                              · (go_simp; try with_reducible rfl)
                              refine held_take (i := 23) (v := ?_) (a' := ?_) rfl (by kernel_rfl) (by kernel_rfl) (by kernel_rfl) (fun _ _ _ h => h) (by rfl) hcls ?_ ?_ ?_
                              rotate_left 2
                              · (intro w hS; go_simp; try with_reducible rfl)
                              · (go_simp; try with_reducible rfl)
                              refine held_take (i := 24) (v := ?_) (a' := ?_) rfl (by kernel_rfl) (by kernel_rfl) (by kernel_rfl) (fun _ _ _ h => h) (by rfl) hcls ?_ ?_ ?_
                              rotate_left 2
                              · (intro w hS; have t1 := (hS.cell hbx).trans hcx; go_simp; try with_reducible rfl)
                              · (go_simp; try with_reducible rfl)
                              refine held_take (i := 25) (v := ?_) (a' := ?_) rfl (by kernel_rfl) (by kernel_rfl) (by kernel_rfl) (fun _ _ _ h => h) (by rfl) hcls ?_ ?_ ?_
                              rotate_left 2
                              · (intro w hS; have cvx := cvt_of (HSX.out.below hS) cx; go_simp; try with_reducible rfl)
                              · (go_simp; try with_reducible rfl)
                              refine held_take (i := 26) (v := ?_) (a' := ?_) rfl (by kernel_rfl) (by kernel_rfl) (by kernel_rfl) (fun _ _ _ h => h) (by rfl) hcls ?_ ?_ ?_
                              rotate_left 2
                              · (intro w hS; go_simp; try with_reducible rfl)
                              · (go_simp; try with_reducible rfl)
                              refine held_take (i := 27) (v := ?_) (a' := ?_) rfl (by kernel_rfl) (by kernel_rfl) (by kernel_rfl) (fun _ _ _ h => h) (by rfl) hcls ?_ ?_ ?_
                              rotate_left 2
                              · (intro w hS; go_simp; try with_reducible rfl)
                              · (go_simp; try with_reducible rfl)
                              refine held_take (i := 28) (v := ?_) (a' := ?_) rfl (by kernel_rfl) (by kernel_rfl) (by kernel_rfl) (fun _ _ _ h => h) (by rfl) hcls ?_ ?_ ?_
                              rotate_left 2
                              · (intro w hS; go_simp; try with_reducible rfl)
                              · (go_simp; try with_reducible rfl)
                              refine held_take (i := 29) (v := ?_) (a' := ?_) rfl (by kernel_rfl) (by kernel_rfl) (by kernel_rfl) (fun _ _ _ h => h) (by rfl) hcls ?_ ?_ ?_
                              rotate_left 2
                              · (intro w hS; go_simp; try with_reducible rfl)
                              · (go_simp; try with_reducible rfl)
                              refine held_take (i := 30) (v := ?_) (a' := ?_) rfl (by kernel_rfl) (by kernel_rfl) (by kernel_rfl) (fun _ _ _ h => h) (by rfl) hcls ?_ ?_ ?_
                              rotate_left 2
                              · (intro w hS; go_simp; try with_reducible rfl)
                              · (go_simp; try with_reducible rfl)
                              refine held_take (i := 31) (v := ?_) (a' := ?_) rfl (by kernel_rfl) (by kernel_rfl) (by kernel_rfl) (fun _ _ _ h => h) (by rfl) hcls ?_ ?_ ?_
                              rotate_left 2
                              · (intro w hS; go_simp; try with_reducible rfl)
                              · (go_simp; try with_reducible rfl)
                              refine held_take (i := 32) (v := ?_) (a' := ?_) rfl (by kernel_rfl) (by kernel_rfl) (by kernel_rfl) (fun _ _ _ h => h) (by rfl) hcls ?_ ?_ ?_
                              rotate_left 2
                              · (intro w hS; have t1 := (hS.cell hby).trans hcy; go_simp; try with_reducible rfl)
                              · (go_simp; try with_reducible rfl)
                              refine held_take (i := 33) (v := ?_) (a' := ?_) rfl (by kernel_rfl) (by kernel_rfl) (by kernel_rfl) (fun _ _ _ h => h) (by rfl) hcls ?_ ?_ ?_
                              rotate_left 2
                              · (intro w hS; have cvx := cvt_of (HSY.out.below hS) cy; go_simp; try with_reducible rfl)
                              · (go_simp; try with_reducible rfl)
                              refine held_take (i := 34) (v := ?_) (a' := ?_) rfl (by kernel_rfl) (by kernel_rfl) (by kernel_rfl) (fun _ _ _ h => h) (by rfl) hcls ?_ ?_ ?_
                              rotate_left 2
                              · (intro w hS; go_simp; try with_reducible rfl)
                              · (go_simp; try with_reducible rfl)
                              refine held_take (i := 35) (v := ?_) (a' := ?_) rfl (by kernel_rfl) (by kernel_rfl) (by kernel_rfl) (fun _ _ _ h => h) (by rfl) hcls ?_ ?_ ?_
                              rotate_left 2
                              · (intro w hS; go_simp; try with_reducible rfl)
                              · (go_simp; try with_reducible rfl)
                              refine wpAnyH_done (by kernel_rfl) ?_ _
                              go_wp2_with fail
                              go_meet
                              case rel => exact ⟨rfl, hcls⟩
                            exact AllHeld.nil
                          exact AllHeld.nil
                        exact AllHeld.nil
                      refine AllHeld.cons rfl (fun KR hKR => ?_) ?_
                      · go_simp
                        have hl2 := slOne hcls (.slice Ay nx cy) 22
                        try simp only [World.size_alloc] at hl2
                        try have hl1 := hl1.laid (.cells #[.slice Ay nx cy] 22)
                        have hcls := hcls.alloc hcls.size (.cells #[.slice Ay nx cy] 22)
                        refine hKR _ _ hcls ?_
                        clear hKR KR
                        refine held_ready (rs := [6]) (by kernel_rfl) (by simp) ?_
                        refine AllHeld.cons rfl (fun KR hKR => ?_) ?_
                        · go_simp
                          have hl1 := slOne hcls (.slice Ax nx cx) 22
                          try simp only [World.size_alloc] at hl1
                          try have hl2 := hl2.laid (.cells #[.slice Ax nx cx] 22)
                          have hcls := hcls.alloc hcls.size (.cells #[.slice Ax nx cx] 22)
                          refine hKR _ _ hcls ?_
                          clear hKR KR
                          refine held_ready (rs := [7]) (by kernel_rfl) (by simp) ?_
                          refine AllHeld.cons rfl (fun KR hKR => ?_) ?_
                          · go_simp
                            refine (HSU.out _ Ax cx _ HSX.out HCX.out.1 HCX.out.2 hcls hl1).mono ?_
                            rintro e wa ⟨rfl, hba⟩
                            try have hl2 := hl2.below hba
                            have hcls := hcls.trans (hba.mono hcls.size)
                            refine hKR _ _ hcls ?_
                            clear hKR KR
                            refine held_ready (rs := [16]) (by kernel_rfl) (by simp) ?_
                            refine AllHeld.cons rfl (fun KR hKR => ?_) ?_
                            · go_simp
                              refine (HSU.out _ Ay cy _ HSY.out HCY.out.1 HCY.out.2 hcls hl2).mono ?_
                              rintro e wb ⟨rfl, hbb⟩
                              have hcls := hcls.trans (hbb.mono hcls.size)
                              refine hKR _ _ hcls ?_
                              clear hKR KR
                              refine held_take (i := 17) (v := ?_) (a' := ?_) rfl (by kernel_rfl) (by kernel_rfl) (by kernel_rfl) (fun _ _ _ h => h) (by rfl) hcls ?_ ?_ ?_
                              rotate_left 2
                              · (intro w hS; go_simp; try with_reducible rfl)
                              · (go_simp; try with_reducible rfl)
                              refine held_take (i := 18) (v := ?_) (a' := ?_) rfl (by kernel_rfl) (by kernel_rfl) (by kernel_rfl) (fun _ _ _ h => h) (by rfl) hcls ?_ ?_ ?_
                              rotate_left 2
                              · (intro w hS; go_simp; try with_reducible rfl)
                              · (go_simp; try with_reducible rfl)
                              refine held_take (i := 19) (v := ?_) (a' := ?_) rfl (by kernel_rfl) (by kernel_rfl) (by kernel_rfl) (fun _ _ _ h => h) (by rfl) hcls ?_ ?_ ?_
                              rotate_left 2
                              · (intro w hS; go_simp; try with_reducible rfl)
                              · (go_simp; try with_reducible rfl)
                              refine held_take (i := 20) (v := ?_) (a' := ?_) rfl (by kernel_rfl) (by kernel_rfl) (by kernel_rfl) (fun _ _ _ h => h) (by rfl) hcls ?_ ?_ ?_
                              rotate_left 2
                              · (intro w hS; go_simp; try with_reducible rfl)
                              · (go_simp; try with_reducible rfl)
                              refine held_take (i := 21) (v := ?_) (a' := ?_) rfl (by kernel_rfl) (by kernel_rfl) (by kernel_rfl) (fun _ _ _ h => h) (by rfl) hcls ?_ ?_ ?_
                              rotate_left 2
                              · (intro w hS; go_simp; try with_reducible rfl)
                              · (go_simp; try with_reducible rfl)
                              refine held_take (i := 22) (v := ?_) (a' := ?_) rfl (by kernel_rfl) (by kernel_rfl) (by kernel_rfl) (fun _ _ _ h => h) (by rfl) hcls ?_ ?_ ?_
                              rotate_left 2
                              · (intro w hS; go_simp; try with_reducible rfl)
                              · (go_simp; try with_reducible rfl)
                              refine held_take (i := 23) (v := ?_) (a' := ?_) rfl (by kernel_rfl) (by kernel_rfl) (by kernel_rfl) (fun _ _ _ h => h) (by rfl) hcls ?_ ?_ ?_
                              rotate_left 2
                              · (intro w hS; go_simp; try with_reducible rfl)
                              · (go_simp; try with_reducible rfl)
                              refine held_take (i := 24) (v := ?_) (a' := ?_) rfl (by kernel_rfl) (by kernel_rfl) (by kernel_rfl) (fun _ _ _ h => h) (by rfl) hcls ?_ ?_ ?_
                              rotate_left 2
                              · (intro w hS; have t1 := (hS.cell hbx).trans hcx; go_simp; try with_reducible rfl)
                              · (go_simp; try with_reducible rfl)
                              refine held_take (i := 25) (v := ?_) (a' := ?_) rfl (by kernel_rfl) (by kernel_rfl) (by kernel_rfl) (fun _ _ _ h => h) (by rfl) hcls ?_ ?_ ?_
                              rotate_left 2
                              · (intro w hS; have cvx := cvt_of (HSX.out.below hS) cx; go_simp; try with_reducible rfl)
                              · (go_simp; try with_reducible rfl)
                              refine held_take (i := 26) (v := ?_) (a' := ?_) rfl (by kernel_rfl) (by kernel_rfl) (by kernel_rfl) (fun _ _ _ h => h) (by rfl) hcls ?_ ?_ ?_
                              rotate_left 2
                              · (intro w hS; go_simp; try with_reducible rfl)
                              · (go_simp; try with_reducible rfl)
                              refine held_take (i := 27) (v := ?_) (a' := ?_) rfl (by kernel_rfl) (by kernel_rfl) (by kernel_rfl) (fun _ _ _ h => h) (by rfl) hcls ?_ ?_ ?_
                              rotate_left 2
                              · (intro w hS; go_simp; try with_reducible rfl)
                              · (go_simp; try with_reducible rfl)
                              refine held_take (i := 28) (v := ?_) (a' := ?_) rfl (by kernel_rfl) (by kernel_rfl) (by kernel_rfl) (fun _ _ _ h => h) (by rfl) hcls ?_ ?_ ?_
                              rotate_left 2
                              · (intro w hS; go_simp; try with_reducible rfl)
                              · (go_simp; try with_reducible rfl)
                              refine held_take (i := 29) (v := ?_) (a' := ?_) rfl (by kernel_rfl) (by kernel_rfl) (by kernel_rfl) (fun _ _ _ h => h) (by rfl) hcls ?_ ?_ ?_
                              rotate_left 2
                              · (intro w hS; go_simp; try with_reducible rfl)
                              · (go_simp; try with_reducible rfl)
                              refine held_take (i := 30) (v := ?_) (a' := ?_) rfl (by kernel_rfl) (by kernel_rfl) (by kernel_rfl) (fun _ _ _ h => h) (by rfl) hcls ?_ ?_ ?_
                              rotate_left 2
                              · (intro w hS; go_simp; try with_reducible rfl)
                              · (go_simp; try with_reducible rfl)
                              refine held_take (i := 31) (v := ?_) (a' := ?_) rfl (by kernel_rfl) (by kernel_rfl) (by kernel_rfl) (fun _ _ _ h => h) (by rfl) hcls ?_ ?_ ?_
                              rotate_left 2
                              · (intro w hS; go_simp; try with_reducible rfl)
                              · (go_simp; try with_reducible rfl)
                              refine held_take (i := 32) (v := ?_) (a' := ?_) rfl (by kernel_rfl) (by kernel_rfl) (by kernel_rfl) (fun _ _ _ h => h) (by rfl) hcls ?_ ?_ ?_
                              rotate_left 2
                              · (intro w hS; have t1 := (hS.cell hby).trans hcy; go_simp; try with_reducible rfl)
                              · (go_simp; try with_reducible rfl)
                              refine held_take (i := 33) (v := ?_) (a' := ?_) rfl (by kernel_rfl) (by kernel_rfl) (by kernel_rfl) (fun _ _ _ h => h) (by rfl) hcls ?_ ?_ ?_
                              rotate_left 2
                              · (intro w hS; have cvx := cvt_of (HSY.out.below hS) cy; go_simp; try with_reducible rfl)
                              · (go_simp; try with_reducible rfl)
                              refine held_take (i := 34) (v := ?_) (a' := ?_) rfl (by kernel_rfl) (by kernel_rfl) (by kernel_rfl) (fun _ _ _ h => h) (by rfl) hcls ?_ ?_ ?_
                              rotate_left 2
                              · (intro w hS; go_simp; try with_reducible rfl)
                              · (go_simp; try with_reducible rfl)
                              refine held_take (i := 35) (v := ?_) (a' := ?_) rfl (by kernel_rfl) (by kernel_rfl) (by kernel_rfl) (fun _ _ _ h => h) (by rfl) hcls ?_ ?_ ?_
                              rotate_left 2
                              · (intro w hS; go_simp; try with_reducible rfl)
                              · (go_simp; try with_reducible rfl)
                              refine wpAnyH_done (by kernel_rfl) ?_ _
                              go_wp2_with fail
                              go_meet
                              case rel => exact ⟨rfl, hcls⟩
                            exact AllHeld.nil
                          exact AllHeld.nil
                        exact AllHeld.nil
                      exact AllHeld.nil
                    case rest =>
                      obtain ⟨rfl, hcls⟩ := hcut
                      go_wp2_with fail
                      go_roundw
                      case rel => exact ⟨m + 1, by omega, by go_num, hny.trans (hcls.mono hny.size)⟩
                      case measure => simp [intOf]; omega
                  · have hltI : ¬ (m : Int) < (k : Int) - (i : Int) := by omega
                    go_wp2_with fail
                    go_roundw
                    case rel => exact ⟨q + 1, by omega, by go_num, rfl, hnx.trans (hny.mono hnx.size)⟩
                    case measure => simp [intOf]; omega
          · obtain rfl : q = NY := by omega
            go_wp2_with fail
            go_ret
            refine ⟨rfl, ?_⟩
            have zz := HB7.out.trans (hnx.mono (Nat.le_of_lt hgl6))
            rw [← HGG.out] at zz
            exact zz
end Go.Proofs.Ytknbbekinpamjaa
