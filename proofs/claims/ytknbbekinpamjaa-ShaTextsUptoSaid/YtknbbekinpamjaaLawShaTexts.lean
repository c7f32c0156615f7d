/- The walk of the law ShaTexts: ids are written, texts read as ids or refused, and the first digits tell an id from others, as the document says. -/
import Derived.Test.YtknbbekinpamjaaShaRefParse
import Derived.Test.YtknbbekinpamjaaOpenRd
set_option linter.unusedVariables false
namespace Go.Proofs.Ytknbbekinpamjaa
open Go.RowKit
attribute [local go_sem ↓] eqlId_eq

theorem ids_32' {w : World} {A : Option Addr} {os : List (List UInt8)} (h : SlOf (arrR 32 byteR) w no A os) : ∀ o ∈ os, o.length = 32 := fun o ho => by
  obtain ⟨j, hj⟩ := List.mem_iff_getElem?.1 ho
  have hjl := (List.getElem?_eq_some_iff.1 hj).1
  obtain ⟨_, _, o', _, _, h1, h2, _⟩ := ids_look h rfl (i := j) hjl
  rw [hj] at h1; injection h1 with h1; rw [h1]; exact h2
theorem parR_length (b : List UInt8) : (parR b).1.length = 32 := by
  rcases par_cases b with ⟨l, hl, _, hp⟩ | hp
  · rw [hp]; exact hl
  · rw [hp]; simp

set_option maxRecDepth 100000 in
set_option maxHeartbeats 4000000 in
theorem shaTexts_any (cs : List Value) (l : List UInt8) (s : ByteArray) (A : Option Addr) (c : Nat) (os : List (List UInt8)) (W0 : World) (hx : (arrR 32 byteR).R W0 no cs l) (_ : bulkL (fun _ : UInt8 => 1) l + 1 ≤ 1048576)
    (hs : s.size ≤ maxLen) (_ : s.size ≤ 1048576) (hc : os.length ≤ c) (hcm : c ≤ maxLen) (hso : SlOf (arrR 32 byteR) W0 no A os) (hbo : bulkL (fun l => bulkL (fun _ : UInt8 => 1) l + 1) os + 1 ≤ 1048576) :
    Calls Try.prog 4 #[.agg cs.toArray, .string s, .slice A os.length c] W0 fun e w' => e = .returned (.bool true) ∧ Below W0.heap.size W0 w' := by
  obtain ⟨h32, hx⟩ := hx
  obtain rfl := each_bytes hx
  clear hx hs hbo
  rw [str_of s]
  generalize s.data.toList = b
  have HCM := Lib.hid hcm
  have H32 := Lib.hid h32
  obtain ⟨n, hn⟩ : ∃ n, n = os.length := ⟨_, rfl⟩
  rw [← hn] at hc ⊢
  have HN := Lib.hid hn.symm
  have HS := Lib.hid hso
  have HC := Lib.hid hc
  clear hso hn h32
  have HCV := Lib.hid (Blk.new W0 25 (bytesV l).toArray)
  have HB0 := Lib.hid ((Below.refl W0.heap.size W0).alloc (Nat.le_refl _) (.cells (bytesV l).toArray 25))
  obtain ⟨IV, hIV⟩ : ∃ IV, IV = (bytesV l).toArray := ⟨_, rfl⟩
  rw [← hIV] at HCV HB0 ⊢
  have HKV := Lib.hid hIV
  have HKI := Lib.hid (show (Try.prog.info? 25).map (·.size) = some IV.size by rw [hIV]; exact id_size H32.out)
  clear hIV
  go_enter Try.func4, Try.ntmps4
  go_wp2_with fail
  refine (awake_sha _).mono ?_
  rintro e w1 ⟨rfl, hb1⟩
  have HC1 := Lib.hid (HCV.out.below hb1 HCV.out.lt)
  have HB1 := Lib.hid (HB0.out.trans (hb1.mono HB0.out.size))
  clear hb1 HCV HB0
  go_wp2_with fail
  refine (parse_any b w1).mono ?_
  rintro e w3 ⟨rfl, hb3⟩
  have HC3 := Lib.hid (HC1.out.below hb3 HC1.out.lt)
  have HB3 := Lib.hid (HB1.out.trans (hb3.mono HB1.out.size))
  clear hb3 HC1 HB1
  have hP := parR_length b
  have HPB := Lib.hid (fun w => refParse_any b w)
  obtain ⟨pl, hpl⟩ : ∃ pl, pl = (parR b).1 := ⟨_, rfl⟩
  obtain ⟨pz, hpz⟩ : ∃ pz, pz = (parR b).2 := ⟨_, rfl⟩
  rw [← hpl] at hP HPB ⊢
  rw [← hpz] at HPB ⊢
  clear hpl hpz
  obtain ⟨KV, hKV⟩ : ∃ KV, KV = (bytesV pl).toArray := ⟨_, rfl⟩
  rw [← hKV] at HPB ⊢
  have HLV := Lib.hid hKV
  have HLI := Lib.hid (show (Try.prog.info? 25).map (·.size) = some KV.size by rw [hKV]; exact id_size hP)
  have HLO := Lib.hid (show KV.all (·.oneCell') = true by rw [hKV]; exact id_one _)
  have HLS := Lib.hid (show KV.size = 32 by rw [hKV]; simp [bytesV, hP])
  have heq : ∀ w : World, eqlId w KV KV = .ok (.bool true) w := fun w => by
    have h := eqlId_of (x := pl) (y := pl) hP hP w
    rw [beq_self_eq_true] at h
    rw [hKV]; exact h
  have HEQ := Lib.hid heq
  clear hKV heq hP
  have HX0 := Lib.hid (Blk.new w3 25 KV)
  have HC4 := Lib.hid (HC3.out.alloc (.cells KV 25))
  have HB4 := Lib.hid (HB3.out.alloc HB3.out.size (.cells KV 25))
  go_upto_region 4 with (refine wpList_store_row rfl _ _ _ rfl w3.heap.size KV rfl rfl 25 _ (heap_alloc_new w3 _) HLI.out (by rw [HLS.out]; rfl) HLO.out ?_)
  rw [World.setRow_alloc_new]
  go_wp2_with fail
  refine (HPB.out _).mono ?_
  rintro e w5 ⟨rfl, hb5⟩
  have HC5 := Lib.hid (HC4.out.below hb5 HC4.out.lt)
  have HX5 := Lib.hid (HX0.out.below hb5 HX0.out.lt)
  have HB5 := Lib.hid (HB4.out.trans (hb5.mono HB4.out.size))
  have HC6 := Lib.hid (HC5.out.alloc (.cells KV 25))
  have HX6 := Lib.hid (HX5.out.alloc (.cells KV 25))
  have HY6 := Lib.hid (Blk.new w5 25 KV)
  have HB6 := Lib.hid (HB5.out.alloc HB5.out.size (.cells KV 25))
  clear hb5 HC4 HX0 HC5 HX5 HB3 HB4 HB5 HC3 HPB
  go_upto_region 5 with (refine wpList_store_row rfl _ _ _ rfl w5.heap.size KV rfl rfl 25 _ (heap_alloc_new w5 _) HLI.out (by rw [HLS.out]; rfl) HLO.out ?_)
  rw [World.setRow_alloc_new]
  change Code.wp _ _ _ _ (w5.alloc (.cells KV 25))
  generalize w5.alloc (.cells KV 25) = w6 at *
  generalize w3.heap.size = G3 at *
  generalize w5.heap.size = G5 at *
  have HHX : Hid (∀ w : World, Calls Try.prog 14 #[.agg IV] w fun e w' => e = .returned (.string ⟨(hexS l).toArray⟩) ∧ Below w.heap.size w w') := Lib.hid (fun w => by rw [HKV.out]; exact hex_any l H32.out w)
  have HHR : Hid (∀ w : World, Calls Try.prog 15 #[.agg IV] w fun e w' => e = .returned (.string ⟨(hexS l).toArray⟩) ∧ Below w.heap.size w w') := Lib.hid (fun w => by rw [HKV.out]; exact refHex_any l H32.out w)
  have HSX : Hid (∀ w : World, Below w6.heap.size w6 w → Calls Try.prog 16 #[.agg IV, .slice A n c] w fun e w' => e = .returned (.string ⟨((hexS l).take (shortN l os)).toArray⟩) ∧ Below w.heap.size w w') := Lib.hid (fun w hw => by
    rw [HKV.out]; exact short_any l H32.out A n c os w (HS.out.below (HB6.out.trans (hw.mono HB6.out.size))) HN.out HC.out HCM.out)
  have HSR : Hid (∀ w : World, Below w6.heap.size w6 w → Calls Try.prog 17 #[.agg IV, .slice A n c] w fun e w' => e = .returned (.string ⟨((hexS l).take (shortN l os)).toArray⟩) ∧ Below w.heap.size w w') := Lib.hid (fun w hw => by
    rw [HKV.out]; exact refShort_any l H32.out A n c os w (HS.out.below (HB6.out.trans (hw.mono HB6.out.size))) HN.out HC.out HCM.out)
  generalize (hexS l).take (shortN l os) = SX at *
  generalize hexS l = X at *
  have heq := HEQ.out
  clear HEQ
  refine wp_region_held (S := fun W => Below w6.heap.size w6 W) (by kernel_rfl) ?_
  change wpAnyH _ _ _ _ _ _ _ _ (World.drew _)
  refine held_take (i := 0) (v := ?_) (a' := ?_) rfl (by kernel_rfl) (by kernel_rfl) (by kernel_rfl) (fun _ _ _ h => h) (by rfl) (Same.below ⟨1, rfl⟩ _) ?_ ?_ ?_
  rotate_left 2
  · (intro w hS; refine exec_load_at 25 (.tmp 3) ?_ W0.heap.size 0 ?_ IV _ ((At.of_row HC6.out).below hS HC6.out.lt) Try.underlying25 rfl HKI.out; exact rfl; exact rfl)
  · (go_simp; try with_reducible rfl)
  refine held_take (i := 2) (v := ?_) (a' := ?_) rfl (by kernel_rfl) (by kernel_rfl) (by kernel_rfl) (fun _ _ _ h => h) (by rfl) (Same.below ⟨1, rfl⟩ _) ?_ ?_ ?_
  rotate_left 2
  · (intro w hS; refine exec_load_at 25 (.tmp 3) ?_ W0.heap.size 0 ?_ IV _ ((At.of_row HC6.out).below hS HC6.out.lt) Try.underlying25 rfl HKI.out; exact rfl; exact rfl)
  · (go_simp; try with_reducible rfl)
  refine held_ready (rs := [1]) (by kernel_rfl) (by simp) ?_
  refine AllHeld.cons rfl (fun KR hKR => ?_) ?_
  · go_simp
    refine (HHX.out _).mono ?_
    rintro e w' ⟨rfl, hb'⟩
    have HBa := (Same.below (w := w6) ⟨1, rfl⟩ w6.heap.size).trans (hb'.mono (by simp))
    refine hKR _ _ HBa ?_
    clear hKR KR
    refine held_ready (rs := [3]) (by kernel_rfl) (by simp) ?_
    refine AllHeld.cons rfl (fun KR hKR => ?_) ?_
    · go_simp
      refine (HHR.out _).mono ?_
      rintro e w' ⟨rfl, hb'⟩
      have HBb := HBa.trans (hb'.mono HBa.size)
      refine hKR _ _ HBb ?_
      clear hKR KR
      refine held_take (i := 4) (v := ?_) (a' := ?_) rfl (by kernel_rfl) (by kernel_rfl) (by kernel_rfl) (fun _ _ _ h => h) (by rfl) HBb ?_ ?_ ?_
      rotate_left 2
      · (intro w hS; go_simp; try with_reducible rfl)
      · (go_simp; try with_reducible rfl)
      refine held_take (i := 5) (v := ?_) (a' := ?_) rfl (by kernel_rfl) (by kernel_rfl) (by kernel_rfl) (fun _ _ _ h => h) (by rfl) HBb ?_ ?_ ?_
      rotate_left 2
      · (intro w hS; go_simp; try with_reducible rfl)
      · (go_simp; try with_reducible rfl)
      refine held_take (i := 6) (v := ?_) (a' := ?_) rfl (by kernel_rfl) (by kernel_rfl) (by kernel_rfl) (fun _ _ _ h => h) (by rfl) HBb ?_ ?_ ?_
      rotate_left 2
      · (intro w hS; refine exec_load_at 25 (.tmp 7) ?_ G3 0 ?_ KV _ ((At.of_row HX6.out).below hS HX6.out.lt) Try.underlying25 rfl HLI.out; exact rfl; exact rfl)
      · (go_simp; try with_reducible rfl)
      refine held_take (i := 7) (v := ?_) (a' := ?_) rfl (by kernel_rfl) (by kernel_rfl) (by kernel_rfl) (fun _ _ _ h => h) (by rfl) HBb ?_ ?_ ?_
      rotate_left 2
      · (intro w hS; refine exec_load_at 25 (.tmp 9) ?_ G5 0 ?_ KV _ ((At.of_row HY6.out).below hS HY6.out.lt) Try.underlying25 rfl HLI.out; exact rfl; exact rfl)
      · (go_simp; try with_reducible rfl)
      refine held_take (i := 8) (v := ?_) (a' := ?_) rfl (by kernel_rfl) (by kernel_rfl) (by kernel_rfl) (fun _ _ _ h => h) (by rfl) HBb ?_ ?_ ?_
      rotate_left 2
      · (intro w hS; go_simp; try with_reducible rfl)
      · (go_simp; try with_reducible rfl)
      refine held_take (i := 9) (v := ?_) (a' := ?_) rfl (by kernel_rfl) (by kernel_rfl) (by kernel_rfl) (fun _ _ _ h => h) (by rfl) HBb ?_ ?_ ?_
      rotate_left 2
      · (intro w hS; go_simp; try with_reducible rfl)
      · (go_simp; try with_reducible rfl)
      refine held_take (i := 10) (v := ?_) (a' := ?_) rfl (by kernel_rfl) (by kernel_rfl) (by kernel_rfl) (fun _ _ _ h => h) (by rfl) HBb ?_ ?_ ?_
      rotate_left 2
      · (intro w hS; go_simp; try with_reducible rfl)
      · (go_simp; try with_reducible rfl)
      refine held_take (i := 11) (v := ?_) (a' := ?_) rfl (by kernel_rfl) (by kernel_rfl) (by kernel_rfl) (fun _ _ _ h => h) (by rfl) HBb ?_ ?_ ?_
      rotate_left 2
      · (intro w hS; go_simp; try with_reducible rfl)
      · (go_simp; try with_reducible rfl)
      refine held_take (i := 12) (v := ?_) (a' := ?_) rfl (by kernel_rfl) (by kernel_rfl) (by kernel_rfl) (fun _ _ _ h => h) (by rfl) HBb ?_ ?_ ?_
      rotate_left 2
      · (intro w hS; go_simp; try with_reducible rfl)
      · (go_simp; try with_reducible rfl)
      refine held_take (i := 13) (v := ?_) (a' := ?_) rfl (by kernel_rfl) (by kernel_rfl) (by kernel_rfl) (fun _ _ _ h => h) (by rfl) HBb ?_ ?_ ?_
      rotate_left 2
      · (intro w hS; go_simp; try with_reducible rfl)
      · (go_simp; try with_reducible rfl)
      refine held_take (i := 14) (v := ?_) (a' := ?_) rfl (by kernel_rfl) (by kernel_rfl) (by kernel_rfl) (fun _ _ _ h => h) (by rfl) HBb ?_ ?_ ?_
      rotate_left 2
      · (intro w hS; go_simp; try with_reducible rfl)
      · (go_simp; try with_reducible rfl)
      refine held_take (i := 15) (v := ?_) (a' := ?_) rfl (by kernel_rfl) (by kernel_rfl) (by kernel_rfl) (fun _ _ _ h => h) (by rfl) HBb ?_ ?_ ?_
      rotate_left 2
      · (intro w hS; go_simp; try with_reducible rfl)
      · (go_simp; try with_reducible rfl)
      refine held_take (i := 16) (v := ?_) (a' := ?_) rfl (by kernel_rfl) (by kernel_rfl) (by kernel_rfl) (fun _ _ _ h => h) (by rfl) HBb ?_ ?_ ?_
      rotate_left 2
      · (intro w hS; refine exec_load_at 25 (.tmp 3) ?_ W0.heap.size 0 ?_ IV _ ((At.of_row HC6.out).below hS HC6.out.lt) Try.underlying25 rfl HKI.out; exact rfl; exact rfl)
      · (go_simp; try with_reducible rfl)
      refine held_take (i := 17) (v := ?_) (a' := ?_) rfl (by kernel_rfl) (by kernel_rfl) (by kernel_rfl) (fun _ _ _ h => h) (by rfl) HBb ?_ ?_ ?_
      rotate_left 2
      · (intro w hS; go_simp; try with_reducible rfl)
      · (go_simp; try with_reducible rfl)
      refine held_take (i := 19) (v := ?_) (a' := ?_) rfl (by kernel_rfl) (by kernel_rfl) (by kernel_rfl) (fun _ _ _ h => h) (by rfl) HBb ?_ ?_ ?_
      rotate_left 2
      · (intro w hS; refine exec_load_at 25 (.tmp 3) ?_ W0.heap.size 0 ?_ IV _ ((At.of_row HC6.out).below hS HC6.out.lt) Try.underlying25 rfl HKI.out; exact rfl; exact rfl)
      · (go_simp; try with_reducible rfl)
      refine held_take (i := 20) (v := ?_) (a' := ?_) rfl (by kernel_rfl) (by kernel_rfl) (by kernel_rfl) (fun _ _ _ h => h) (by rfl) HBb ?_ ?_ ?_
      rotate_left 2
      · (intro w hS; go_simp; try with_reducible rfl)
      · (go_simp; try with_reducible rfl)
      refine held_ready (rs := [18]) (by kernel_rfl) (by simp) ?_
      refine AllHeld.cons rfl (fun KR hKR => ?_) ?_
      · go_simp
        refine (HSX.out _ HBb).mono ?_
        rintro e w' ⟨rfl, hb'⟩
        have HBc := HBb.trans (hb'.mono HBb.size)
        refine hKR _ _ HBc ?_
        clear hKR KR
        refine held_ready (rs := [21]) (by kernel_rfl) (by simp) ?_
        refine AllHeld.cons rfl (fun KR hKR => ?_) ?_
        · go_simp
          refine (HSR.out _ HBc).mono ?_
          rintro e w' ⟨rfl, hb'⟩
          have HBd := HBc.trans (hb'.mono HBc.size)
          refine hKR _ _ HBd ?_
          clear hKR KR
          refine held_take (i := 22) (v := ?_) (a' := ?_) rfl (by kernel_rfl) (by kernel_rfl) (by kernel_rfl) (fun _ _ _ h => h) (by rfl) HBd ?_ ?_ ?_
          rotate_left 2
          · (intro w hS; go_simp; try with_reducible rfl)
          · (go_simp; try with_reducible rfl)
          refine held_take (i := 23) (v := ?_) (a' := ?_) rfl (by kernel_rfl) (by kernel_rfl) (by kernel_rfl) (fun _ _ _ h => h) (by rfl) HBd ?_ ?_ ?_
          rotate_left 2
          · (intro w hS; go_simp; try with_reducible rfl)
          · (go_simp; try with_reducible rfl)
          refine held_take (i := 24) (v := ?_) (a' := ?_) rfl (by kernel_rfl) (by kernel_rfl) (by kernel_rfl) (fun _ _ _ h => h) (by rfl) HBd ?_ ?_ ?_
          rotate_left 2
          · (intro w hS; go_simp; try with_reducible rfl)
          · (go_simp; try with_reducible rfl)
          refine wpAnyH_done (by kernel_rfl) ?_ _
          go_wp2_with fail
          go_ret
          exact ⟨rfl, HB6.out.trans (HBd.mono HB6.out.size)⟩
        exact AllHeld.nil
      exact AllHeld.nil
    exact AllHeld.nil
  exact AllHeld.nil
end Go.Proofs.Ytknbbekinpamjaa
