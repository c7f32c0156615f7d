/- The walk of the law GrainReads: bytes are read as values, or refused, as the document says. -/
import Derived.Test.YthpcanibahcghaaGrainAwake
import Derived.Test.YthpcanibahcghaaGrainRefDecode
import Derived.Test.YthpcanibahcghaaGrainSame
set_option linter.unusedVariables false
namespace Go.Proofs.Ythpcanibahcghaa
open Go.RowKit
attribute [local go_sem ↓] cvt_eq

/-- the zero value and itself -/
theorem same_zero (w : World) : Calls Try.prog 14 #[.agg zV, .agg zV] w fun e w' => e = .returned (.bool true) ∧ Below w.heap.size w w' := by
  have h := valR_flat w no (k := 0) 0 0 (by decide) (by decide) (by decide)
  exact same_any (.mk 0 0 [] 0 []) zV.toList zV.toList w h h

set_option maxRecDepth 100000 in
set_option maxHeartbeats 4000000 in
theorem grainReads_any (A : Option Addr) (n c : Nat) (l : List UInt8) (W0 : World) (hs : Sl W0 1 A n (bytesV l)) (hnc : n ≤ c) (hcm : c ≤ maxLen) (_ : n ≤ 1048576) :
    Calls Try.prog 4 #[.slice A n c] W0 fun e w' => e = .returned (.bool true) ∧ Below W0.heap.size W0 w' := by
  have HS := Lib.hid hs
  obtain ⟨D, hD⟩ : ∃ D, D = dec l := ⟨_, rfl⟩
  have HD := Lib.hid hD.symm
  have HDEC := Lib.hid (fun w (h : Below W0.heap.size W0 w) => decode_any A n c l w (hs.below h) hnc hcm)
  have HREF := Lib.hid (fun w => refDecode_any (strL l) w)
  rw [strL_list, ← hD] at HREF
  rw [← hD] at HDEC
  clear hD hs hnc hcm
  go_enter Try.func4, Try.ntmps4
  go_wp2_with fail
  refine (awake_any _).mono ?_
  rintro e w1 ⟨rfl, hb1⟩
  have HB1 := Lib.hid hb1
  clear hb1
  go_wp2_with fail
  refine (HDEC.out _ HB1.out).mono ?_
  rintro e w2 ⟨hb2, hp⟩
  have HB2 := Lib.hid (HB1.out.trans (hb2.mono HB1.out.size))
  have HN2 := Lib.hid (heap_alloc_new w2 (.cells #[.int .i64 0, .int .u64 0, .slice none 0 0, .float .f64 0, .slice none 0 0] 27))
  -- what both answer
  have HOUT : Hid (∃ (cs : List Value) (v : Val) (z : Int), e = .returned (.tuple #[.agg cs.toArray, .int .i64 z]) ∧ valR.R w2 (fun b => b < w1.heap.size) cs v ∧ ∀ (w : World) (e : Ending) (w' : World), RefDec w D e w' → ∃ cs' : List Value, e = .returned (.tuple #[.agg cs'.toArray, .int .i64 z]) ∧ valR.R w' (fun b => b < w.heap.size) cs' v ∧ Below w.heap.size w w') := by
    cases hr : D with
    | error z =>
      rw [hr] at hp
      have hz : ∀ w av, valR.R w av zV.toList (.mk 0 0 [] 0 []) := fun w av => valR_flat w av (k := 0) 0 0 (by decide) (by decide) (by decide)
      exact Lib.hid ⟨zV.toList, .mk 0 0 [] 0 [], z, hp, hz _ _, fun w e w' h => ⟨zV.toList, h.2, hz _ _, h.1⟩⟩
    | ok v =>
      rw [hr] at hp
      obtain ⟨cs, he, hv⟩ := hp
      exact Lib.hid ⟨cs, v, 0, he, hv, fun w e w' h => by obtain ⟨hb, cs', he', hv'⟩ := h; exact ⟨cs', he', hv', hb⟩⟩
  obtain ⟨cs, v, z, rfl, hv, hout⟩ := HOUT.out
  have HO2 := Lib.hid hout
  clear HOUT hp hout
  have hk5 : cs.length = 5 := valR.len hv
  have HO := Lib.hid (show cs.toArray.all (·.oneCell') = true by simpa using valR.one hv)
  have HI := Lib.hid (show (Try.prog.info? 27).map (·.size) = some cs.toArray.size by rw [show cs.toArray.size = 5 from by simpa using hk5]; exact val_info)
  have HS5 := Lib.hid (show 5 = cs.toArray.size by simpa using hk5.symm)
  obtain ⟨KV, hKV⟩ : ∃ KV, KV = cs.toArray := ⟨_, rfl⟩
  rw [← hKV] at HO HI HS5 ⊢
  have HKV := Lib.hid hKV
  have hm3 : Below w2.heap.size w2 (w2.alloc (.cells KV 27)) := (Below.refl _ _).alloc (Nat.le_refl _) _
  have HB3 := Lib.hid (HB2.out.trans (hm3.mono HB2.out.size))
  have HX3 := Lib.hid (Blk.new w2 27 KV)
  have HV3 := Lib.hid (valR.stable hv ((Moves.forget w2 _).trans (Moves.of_below hm3)))
  clear hKV hv hm3 hk5 hb2
  go_upto_region 4 with (first | (refine wpList_store_row rfl _ _ _ rfl w2.heap.size KV rfl rfl 27 _ HN2.out HI.out HS5.out HO.out ?_) | fail)
  rw [World.setRow_alloc_new]
  generalize w2.alloc (.cells KV 27) = w3 at *
  generalize w2.heap.size = g1 at *
  have hcv : cvt w3 A n c = .ok (.string (strL l)) w3 := cvt_of (HS.out.below HB3.out) c
  clear HN2
  go_wp2_with fail
  refine (HREF.out w3).mono ?_
  intro e w4 hp
  obtain ⟨cs', rfl, hv', hb4⟩ := HO2.out w3 e w4 hp
  clear hp hcv
  have HN4 := Lib.hid (heap_alloc_new w4 (.cells #[.int .i64 0, .int .u64 0, .slice none 0 0, .float .f64 0, .slice none 0 0] 27))
  have hk5' : cs'.length = 5 := valR.len hv'
  have HO' := Lib.hid (show cs'.toArray.all (·.oneCell') = true by simpa using valR.one hv')
  have HI' := Lib.hid (show (Try.prog.info? 27).map (·.size) = some cs'.toArray.size by rw [show cs'.toArray.size = 5 from by simpa using hk5']; exact val_info)
  have HS5' := Lib.hid (show 5 = cs'.toArray.size by simpa using hk5'.symm)
  obtain ⟨KW, hKW⟩ : ∃ KW, KW = cs'.toArray := ⟨_, rfl⟩
  rw [← hKW] at HO' HI' HS5' ⊢
  have hm5 : Below w4.heap.size w4 (w4.alloc (.cells KW 27)) := (Below.refl _ _).alloc (Nat.le_refl _) _
  have hb35 := hb4.trans (hm5.mono hb4.size)
  have HB5 := Lib.hid (HB3.out.trans (hb35.mono HB3.out.size))
  have HX5 := Lib.hid (HX3.out.below hb35 HX3.out.lt)
  have HY5 := Lib.hid (Blk.new w4 27 KW)
  have HSM : Hid (Calls Try.prog 14 #[.agg KV, .agg KW] (w4.alloc (.cells KW 27)) fun e w' => e = .returned (.bool true) ∧ Below (w4.alloc (.cells KW 27)).heap.size (w4.alloc (.cells KW 27)) w') := by
    rw [HKV.out, hKW]
    exact Lib.hid (same_any v cs cs' _ (valR.stable HV3.out (Moves.of_below (by rw [← hKW]; exact hb35))) (valR.stable hv' ((Moves.forget w4 _).trans (Moves.of_below (by rw [← hKW]; exact hm5)))))
  clear hKW hv' hm5 hb35 hk5' hb4
  go_upto_region 5 with (first | (refine wpList_store_row rfl _ _ _ rfl w4.heap.size KW rfl rfl 27 _ HN4.out HI'.out HS5'.out HO'.out ?_) | fail)
  rw [World.setRow_alloc_new]
  clear HN4
  generalize w4.alloc (.cells KW 27) = w5 at *
  generalize w4.heap.size = g2 at *
  go_wp2_with (first
    | (refine wpList_load_row_g rfl rfl 27 (.tmp 3) rfl g1 rfl 27 KV (0, 0) _ HX5.out Try.underlying27 rfl HI.out ?_)
    | (refine wpList_load_row_g rfl rfl 27 (.tmp 5) rfl g2 rfl 27 KW (0, 0) _ HY5.out Try.underlying27 rfl HI'.out ?_) | fail)
  refine HSM.out.mono ?_
  rintro e w6 ⟨rfl, hb6⟩
  have HB6 := Lib.hid (HB5.out.trans (hb6.mono HB5.out.size))
  clear hb6
  go_wp2_with fail
  go_ret
  exact ⟨rfl, HB6.out⟩
end Go.Proofs.Ythpcanibahcghaa
