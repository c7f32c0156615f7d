/- The walk of the law ShaBack: an id that is written is read again; a text that is read is the one that its id is written as. -/
import Derived.Test.YtknbbekinpamjaaShaShort
import Derived.Test.YtknbbekinpamjaaOpenRd
set_option linter.unusedVariables false
namespace Go.Proofs.Ytknbbekinpamjaa
open Go.RowKit
attribute [local go_sem ↓] eqlId_eq

set_option maxRecDepth 100000 in
set_option maxHeartbeats 4000000 in
theorem shaBack_any (cs : List Value) (x : List UInt8) (s : ByteArray) (W0 : World) (hx : (arrR 32 byteR).R W0 no cs x) (_ : bulkL (fun _ : UInt8 => 1) x + 1 ≤ 1048576) (hs : s.size ≤ maxLen) (_ : s.size ≤ 1048576) :
    Calls Try.prog 5 #[.agg cs.toArray, .string s] W0 fun e w' => e = .returned (.bool true) ∧ Below W0.heap.size W0 w' := by
  obtain ⟨h32, hx⟩ := hx
  obtain rfl := each_bytes hx
  clear hx hs
  rw [str_of s]
  generalize s.data.toList = b
  have H32 := Lib.hid h32
  have PX := Lib.hid (parR_hex h32)
  clear h32
  have HCV := Lib.hid (Blk.new W0 25 (bytesV x).toArray)
  have HB0 := Lib.hid ((Below.refl W0.heap.size W0).alloc (Nat.le_refl _) (.cells (bytesV x).toArray 25))
  obtain ⟨IV, hIV⟩ : ∃ IV, IV = (bytesV x).toArray := ⟨_, rfl⟩
  rw [← hIV] at HCV HB0 ⊢
  have HKV := Lib.hid hIV
  have HKI := Lib.hid (show (Try.prog.info? 25).map (·.size) = some IV.size by rw [hIV]; exact id_size H32.out)
  clear hIV
  go_enter Try.func5, Try.ntmps5
  go_wp2_with fail
  refine (awake_sha _).mono ?_
  rintro e w1 ⟨rfl, hb1⟩
  have HC1 := Lib.hid (HCV.out.below hb1 HCV.out.lt)
  have HB1 := Lib.hid (HB0.out.trans (hb1.mono HB0.out.size))
  clear hb1 HCV HB0
  go_wp2_with (refine wpList_load_row rfl _ _ rfl W0.heap.size rfl 25 IV (0, 0) _ HC1.out Try.underlying25 rfl HKI.out ?_)
  rw [HKV.out]
  refine (hex_any x H32.out w1).mono ?_
  rintro e w2 ⟨rfl, hb2⟩
  have HC2 := Lib.hid (HC1.out.below hb2 HC1.out.lt)
  have HB2 := Lib.hid (HB1.out.trans (hb2.mono HB1.out.size))
  clear hb2 HC1
  go_wp2_with fail
  refine (parse_any (hexS x) w2).mono ?_
  rw [PX.out]
  rintro e w3 ⟨rfl, hb3⟩
  have HC3 := Lib.hid (HC2.out.below hb3 HC2.out.lt)
  have HB3 := Lib.hid (HB2.out.trans (hb3.mono HB2.out.size))
  clear hb3 HC2
  have HX0 := Lib.hid (Blk.new w3 25 IV)
  have HC4 := Lib.hid (HC3.out.alloc (.cells IV 25))
  have HB4 := Lib.hid (HB3.out.alloc HB3.out.size (.cells IV 25))
  have HKO := Lib.hid (show IV.all (·.oneCell') = true by rw [HKV.out]; exact id_one _)
  have HKS := Lib.hid (show IV.size = 32 by rw [HKV.out]; simp [bytesV, H32.out])
  rw [← HKV.out]
  go_upto_region 4 with (refine wpList_store_row rfl _ _ _ rfl w3.heap.size IV rfl rfl 25 _ (heap_alloc_new w3 _) HKI.out (by rw [HKS.out]; rfl) HKO.out ?_)
  rw [World.setRow_alloc_new]
  go_wp2_with fail
  have heq : ∀ w : World, eqlId w IV IV = .ok (.bool true) w := fun w => by
    have h := eqlId_of (x := x) (y := x) H32.out H32.out w
    rw [beq_self_eq_true] at h
    rw [HKV.out]; exact h
  refine (parse_any b _).mono ?_
  rcases par_cases b with ⟨l, hl, hh, hp⟩ | hp
  · rw [hp]
    have HL := Lib.hid hl
    have HH := Lib.hid hh
    clear hl hh hp
    obtain ⟨KV, hKV⟩ : ∃ KV, KV = (bytesV l).toArray := ⟨_, rfl⟩
    rw [← hKV]
    have HLV := Lib.hid hKV
    have HLI := Lib.hid (show (Try.prog.info? 25).map (·.size) = some KV.size by rw [hKV]; exact id_size HL.out)
    have HLO := Lib.hid (show KV.all (·.oneCell') = true by rw [hKV]; exact id_one _)
    have HLS := Lib.hid (show KV.size = 32 by rw [hKV]; simp [bytesV, HL.out])
    clear hKV
    rintro e w5 ⟨rfl, hb5⟩
    have HC5 := Lib.hid (HC4.out.below hb5 HC4.out.lt)
    have HX5 := Lib.hid (HX0.out.below hb5 HX0.out.lt)
    have HB5 := Lib.hid (HB4.out.trans (hb5.mono HB4.out.size))
    have HC6 := Lib.hid (HC5.out.alloc (.cells KV 25))
    have HX6 := Lib.hid (HX5.out.alloc (.cells KV 25))
    have HY6 := Lib.hid (Blk.new w5 25 KV)
    have HB6 := Lib.hid (HB5.out.alloc HB5.out.size (.cells KV 25))
    clear hb5 HC4 HX0 HC5 HX5
    go_upto_region 5 with (refine wpList_store_row rfl _ _ _ rfl w5.heap.size KV rfl rfl 25 _ (heap_alloc_new w5 _) HLI.out (by rw [HLS.out]; rfl) HLO.out ?_)
    rw [World.setRow_alloc_new]
    have hhex : ∀ w : World, Calls Try.prog 14 #[.agg KV] w fun e w' => e = .returned (.string ⟨b.toArray⟩) ∧ Below w.heap.size w w' := fun w => by
      have h := hex_any l HL.out w
      rw [HH.out] at h
      rw [HLV.out]; exact h
    have HHX := Lib.hid hhex
    clear hhex
    go_wp2_with (first | (refine wpList_load_row_g rfl (by rfl) _ _ rfl w3.heap.size rfl 25 IV (0, 0) _ HX6.out Try.underlying25 rfl HKI.out ?_) | (refine wpList_load_row_g rfl (by rfl) _ _ rfl W0.heap.size rfl 25 IV (0, 0) _ HC6.out Try.underlying25 rfl HKI.out ?_) | (refine wpList_load_row_g rfl (by rfl) _ _ rfl w5.heap.size rfl 25 KV (0, 0) _ HY6.out Try.underlying25 rfl HLI.out ?_))
    refine (HHX.out _).mono ?_
    rintro e w7 ⟨rfl, hb7⟩
    have HB7 := Lib.hid (HB6.out.trans (hb7.mono HB6.out.size))
    clear hb7
    go_wp2_with fail
    go_ret
    exact ⟨rfl, HB7.out⟩
  · rw [hp]
    clear hp
    obtain ⟨KV, hKV⟩ : ∃ KV, KV = (bytesV (List.replicate 32 (0:UInt8))).toArray := ⟨_, rfl⟩
    rw [← hKV]
    have HLV := Lib.hid hKV
    have HLI := Lib.hid (show (Try.prog.info? 25).map (·.size) = some KV.size by rw [hKV]; exact id_size rfl)
    have HLO := Lib.hid (show KV.all (·.oneCell') = true by rw [hKV]; exact id_one _)
    have HLS := Lib.hid (show KV.size = 32 by rw [hKV]; rfl)
    have heq2 : ∀ w : World, eqlId w KV #[.int .u8 0, .int .u8 0, .int .u8 0, .int .u8 0, .int .u8 0, .int .u8 0, .int .u8 0, .int .u8 0, .int .u8 0, .int .u8 0, .int .u8 0, .int .u8 0, .int .u8 0, .int .u8 0, .int .u8 0, .int .u8 0, .int .u8 0, .int .u8 0, .int .u8 0, .int .u8 0, .int .u8 0, .int .u8 0, .int .u8 0, .int .u8 0, .int .u8 0, .int .u8 0, .int .u8 0, .int .u8 0, .int .u8 0, .int .u8 0, .int .u8 0, .int .u8 0] = .ok (.bool true) w := fun w => by
      have h := eqlId_of (x := List.replicate 32 0) (y := List.replicate 32 0) rfl rfl w
      rw [beq_self_eq_true] at h
      rw [hKV]; exact h
    clear hKV
    rintro e w5 ⟨rfl, hb5⟩
    have HC5 := Lib.hid (HC4.out.below hb5 HC4.out.lt)
    have HX5 := Lib.hid (HX0.out.below hb5 HX0.out.lt)
    have HB5 := Lib.hid (HB4.out.trans (hb5.mono HB4.out.size))
    have HC6 := Lib.hid (HC5.out.alloc (.cells KV 25))
    have HX6 := Lib.hid (HX5.out.alloc (.cells KV 25))
    have HY6 := Lib.hid (Blk.new w5 25 KV)
    have HB6 := Lib.hid (HB5.out.alloc HB5.out.size (.cells KV 25))
    clear hb5 HC4 HX0 HC5 HX5
    go_upto_region 5 with (refine wpList_store_row rfl _ _ _ rfl w5.heap.size KV rfl rfl 25 _ (heap_alloc_new w5 _) HLI.out (by rw [HLS.out]; rfl) HLO.out ?_)
    rw [World.setRow_alloc_new]
    go_wp2_with (first | (refine wpList_load_row_g rfl (by rfl) _ _ rfl w3.heap.size rfl 25 IV (0, 0) _ HX6.out Try.underlying25 rfl HKI.out ?_) | (refine wpList_load_row_g rfl (by rfl) _ _ rfl W0.heap.size rfl 25 IV (0, 0) _ HC6.out Try.underlying25 rfl HKI.out ?_) | (refine wpList_load_row_g rfl (by rfl) _ _ rfl w5.heap.size rfl 25 KV (0, 0) _ HY6.out Try.underlying25 rfl HLI.out ?_))
    go_ret
    exact ⟨rfl, HB6.out⟩
end Go.Proofs.Ytknbbekinpamjaa
