/- awake: the bench of layer 3's statements. -/
import Derived.Test.YtknbbekinpamjaaShaKnown
import Derived.Lib.SmallJoins
set_option linter.unusedVariables false
namespace Go.Proofs.Ytknbbekinpamjaa
open Go.RowKit
attribute [local go_sem ↓] eqlId_eq

/-- the load of a row behind a guard that says yes -/
theorem wpList_load_row_g {P : Program} {ops : Array Oper} {rest : List Oper} {o : Oper} {a : Act} {w : World} {Q : Exit → Act → World → Prop} {gd : Nat × Bool} (hgd : o.guard = some gd) (hw : (yielded ops a.tmps gd.1 == some gd.2) = true) (ty : TypeId) (x : Operand) (ho : o.op = .load ty x)
    (g : Nat) (hx : a.eval x = .pointer (some ⟨g, 0, none⟩)) (t : TypeId) (cs : Array Value) (fr : Nat × Nat) (d : TypeDesc) (hg : w.heap[g]? = some (.cells cs t fr))
    (hu : P.underlying ty = some d) (hd : (match d with | .struct _ | .array _ _ => true | _ => false) = true) (hi : (P.info? ty).map (·.size) = some cs.size)
    (h : wpList P ops Q rest (a.put o.dst (.agg cs)) w) : wpList P ops Q (o :: rest) a w :=
  wpList_step fun _ hK => by
    rw [if_pos (by simp [Region.wanted, hgd]; simpa using hw)]
    exact wp_load_row ty x ho g hx t cs fr d hg hu hd hi (hK _ _ h)

set_option maxRecDepth 100000 in
set_option maxHeartbeats 4000000 in
theorem awake_sha (W0 : World) : Calls Try.prog 9 #[] W0 fun e w' => e = .returned (.bool true) ∧ Below W0.heap.size W0 w' := by
  have kc := fun (w : World) (C : Array Value) (n c : Nat) => Lib.run_convert_bytes_const (P := Try.prog) w 22 5 C n c Try.underlying22 Try.underlying5
  have kc2 := Go.Joins.run_convert_bytes_const_at (P := Try.prog) (W0.alloc (.cells #[.int .u8 97] 5 (1, 2))) 22 5 #[.int .u8 98, .int .u8 99] 2 2 (W0.heap.size + 1) (by simp) Try.underlying22 Try.underlying5
  go_enter Try.func9, Try.ntmps9
  go_wp2_with fail
  have hsa : Sl ((W0.alloc (.cells #[.int .u8 97] 5 (1, 2))).alloc (.cells #[.int .u8 98, .int .u8 99] 5 (2, 3))) 1 (some ⟨W0.heap.size, 0, none⟩) 1 (bytesV [97]) := (Sl.fresh W0 #[.int .u8 97] 5 (1, 2) 1 1 rfl).alloc _
  have hsb : Sl ((W0.alloc (.cells #[.int .u8 97] 5 (1, 2))).alloc (.cells #[.int .u8 98, .int .u8 99] 5 (2, 3))) 1 (some ⟨W0.heap.size + 1, 0, none⟩) 2 (bytesV [98, 99]) := by
    have h := Sl.fresh (W0.alloc (.cells #[.int .u8 97] 5 (1, 2))) #[.int .u8 98, .int .u8 99] 5 (2, 3) 2 1 rfl
    rw [show (W0.alloc (.cells #[.int .u8 97] 5 (1, 2))).heap.size = W0.heap.size + 1 by simp] at h
    exact h
  have hv : AllB _ [.slice (some ⟨W0.heap.size, 0, none⟩) 1 1, .slice (some ⟨W0.heap.size + 1, 0, none⟩) 2 2] [[97], [98, 99]] := AllB.two (SlB.of (hsa.alloc (.cells #[.slice (some ⟨W0.heap.size, 0, none⟩) 1 1, .slice (some ⟨W0.heap.size + 1, 0, none⟩) 2 2] 22)) (by omega) (by simp [maxLen])) (SlB.of (hsb.alloc _) (by omega) (by simp [maxLen]))
  have hs : Sl (((W0.alloc (.cells #[.int .u8 97] 5 (1, 2))).alloc (.cells #[.int .u8 98, .int .u8 99] 5 (2, 3))).alloc (.cells #[.slice (some ⟨W0.heap.size, 0, none⟩) 1 1, .slice (some ⟨W0.heap.size + 1, 0, none⟩) 2 2] 22)) 1 (some ⟨W0.heap.size + 1 + 1, 0, none⟩) 2 [.slice (some ⟨W0.heap.size, 0, none⟩) 1 1, .slice (some ⟨W0.heap.size + 1, 0, none⟩) 2 2] := by
    have := Sl.fresh ((W0.alloc (.cells #[.int .u8 97] 5 (1, 2))).alloc (.cells #[.int .u8 98, .int .u8 99] 5 (2, 3))) #[.slice (some ⟨W0.heap.size, 0, none⟩) 1 1, .slice (some ⟨W0.heap.size + 1, 0, none⟩) 2 2] 22 (0, 0) 2 1 rfl
    simpa using this
  have hb0 : Below W0.heap.size W0 (((W0.alloc (.cells #[.int .u8 97] 5 (1, 2))).alloc (.cells #[.int .u8 98, .int .u8 99] 5 (2, 3))).alloc (.cells #[.slice (some ⟨W0.heap.size, 0, none⟩) 1 1, .slice (some ⟨W0.heap.size + 1, 0, none⟩) 2 2] 22)) := (((Below.refl _ _).alloc (Nat.le_refl _) _).alloc (by simp) _).alloc (by simp; omega) _
  refine (sum_any _ 2 2 _ [[97], [98, 99]] _ hs hv (by omega) (by decide)).mono ?_
  rintro e w1 ⟨rfl, hb1⟩
  have HB1 := Lib.hid (hb0.trans (hb1.mono hb0.size))
  clear hb1 hb0 hs hv hsa hsb kc2 kc
  rw [show shaG [[97], [98, 99]].flatten = knownL from known_sum]
  obtain ⟨KV, hKV⟩ : ∃ KV, KV = (bytesV knownL).toArray := ⟨_, rfl⟩
  rw [← hKV]
  have HKV := Lib.hid hKV
  have HKI := Lib.hid (show (Try.prog.info? 25).map (·.size) = some KV.size by rw [hKV]; exact id_size rfl)
  have HKO := Lib.hid (show KV.all (·.oneCell') = true by rw [hKV]; exact id_one _)
  have HKS := Lib.hid (show KV.size = 32 by rw [hKV]; rfl)
  clear hKV
  go_wp2_with (refine wpList_store_row rfl _ _ _ rfl w1.heap.size KV rfl rfl 25 _ (heap_alloc_new w1 _) HKI.out (by rw [HKS.out]; rfl) HKO.out ?_)
  rw [World.setRow_alloc_new]
  have hpar := parse_any knownT (w1.alloc (.cells KV 25))
  rw [known_par] at hpar
  have HC1 := Lib.hid (show Blk (w1.alloc (.cells KV 25)) w1.heap.size 25 KV from Blk.new w1 _ _)
  have HB2 := Lib.hid (HB1.out.alloc HB1.out.size (.cells KV 25))
  refine (show Calls Try.prog 12 #[.string ⟨knownT.toArray⟩] (w1.alloc (.cells KV 25)) fun e w' => e = .returned (.tuple #[.agg KV, .int .i64 0]) ∧ Below (w1.alloc (.cells KV 25)).heap.size (w1.alloc (.cells KV 25)) w' by rw [HKV.out] at hpar ⊢; exact hpar).mono ?_
  rintro e w2 ⟨rfl, hb2⟩
  have HC2 := Lib.hid (HC1.out.below hb2 HC1.out.lt)
  have HB3 := Lib.hid (HB2.out.trans (hb2.mono HB2.out.size))
  have hne : w1.heap.size ≠ w2.heap.size := by have := hb2.size; simp at this; omega
  clear hb2 hpar
  have HC3 := Lib.hid (HC2.out.alloc (.cells KV 25))
  have HC4 := Lib.hid (Blk.new w2 25 KV)
  have HB4 := Lib.hid (HB3.out.alloc HB3.out.size (.cells KV 25))
  go_upto_region 3 with (refine wpList_store_row rfl _ _ _ rfl w2.heap.size KV rfl rfl 25 _ (heap_alloc_new w2 _) HKI.out (by rw [HKS.out]; rfl) HKO.out ?_)
  rw [World.setRow_alloc_new]
  have heq : ∀ w : World, eqlId w KV KV = .ok (.bool true) w := fun w => by
    have h := eqlId_of (x := knownL) (y := knownL) rfl rfl w
    rw [beq_self_eq_true] at h
    rw [HKV.out]; exact h
  have hhex : ∀ w : World, Calls Try.prog 14 #[.agg KV] w fun e w' => e = .returned (.string { data := #[98, 97, 55, 56, 49, 54, 98, 102, 56, 102, 48, 49, 99, 102, 101, 97, 52, 49, 52, 49, 52, 48, 100, 101, 53, 100, 97, 101, 50, 50, 50, 51, 98, 48, 48, 51, 54, 49, 97, 51, 57, 54, 49, 55, 55, 97, 57, 99, 98, 52, 49, 48, 102, 102, 54, 49, 102, 50, 48, 48, 49, 53, 97, 100] }) ∧ Below w.heap.size w w' := fun w => by
    have h := hex_any knownL rfl w
    rw [known_hex] at h
    rw [HKV.out]; exact h
  have hsho : ∀ w : World, Calls Try.prog 16 #[.agg KV, .slice none 0 0] w fun e w' => e = .returned (.string { data := #[98, 97, 55, 56] }) ∧ Below w.heap.size w w' := fun w => by
    have h := short_none knownL rfl w
    rw [known_hex] at h
    rw [HKV.out]; exact h
  have HHX := Lib.hid hhex
  have HSH := Lib.hid hsho
  clear hhex hsho
  go_wp2_with (first | (refine wpList_load_row_g rfl (by rfl) _ _ rfl w2.heap.size rfl 25 KV (0, 0) _ HC4.out Try.underlying25 rfl HKI.out ?_) | (refine wpList_load_row_g rfl (by rfl) _ _ rfl w1.heap.size rfl 25 KV (0, 0) _ HC3.out Try.underlying25 rfl HKI.out ?_))
  refine (HHX.out _).mono ?_
  rintro e w3 ⟨rfl, hb3⟩
  have HC5 := Lib.hid (HC3.out.below hb3 HC3.out.lt)
  have HB5 := Lib.hid (HB4.out.trans (hb3.mono HB4.out.size))
  clear hb3
  go_wp2_with (refine wpList_load_row_g rfl (by rfl) _ _ rfl w1.heap.size rfl 25 KV (0, 0) _ HC5.out Try.underlying25 rfl HKI.out ?_)
  refine (HSH.out _).mono ?_
  rintro e w4 ⟨rfl, hb4⟩
  have HB6 := Lib.hid (HB5.out.trans (hb4.mono HB5.out.size))
  clear hb4
  go_wp2_with fail
  go_ret
  exact ⟨rfl, HB6.out⟩
end Go.Proofs.Ytknbbekinpamjaa
