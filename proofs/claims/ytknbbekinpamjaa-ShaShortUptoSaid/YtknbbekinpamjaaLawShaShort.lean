/- The walk of the law ShaShort: an id's short text begins no other id's digits, and is no longer than it must be. -/
import Derived.Test.YtknbbekinpamjaaShaShortWalk
import Derived.Test.YtknbbekinpamjaaOpenRd
set_option linter.unusedVariables false
namespace Go.Proofs.Ytknbbekinpamjaa
open Go.RowKit
attribute [local go_sem ↓] neqId_eq

theorem fold_ge (id : List UInt8) : ∀ (os : List (List UInt8)) (n : Nat), n ≤ os.foldl (shortStep id) n ∧ ∀ o ∈ os, o ≠ id → cpl (hexS id) (hexS o) + 1 ≤ os.foldl (shortStep id) n
  | [], n => ⟨Nat.le_refl _, fun o h => by cases h⟩
  | x :: os, n => by
    obtain ⟨h1, h2⟩ := fold_ge id os (shortStep id n x)
    rw [List.foldl_cons]
    have h3 : n ≤ shortStep id n x := by unfold shortStep; split <;> omega
    refine ⟨by omega, fun o ho hne => ?_⟩
    rcases List.mem_cons.1 ho with rfl | ho
    · have : cpl (hexS id) (hexS o) + 1 ≤ shortStep id n o := by unfold shortStep; rw [if_neg hne]; omega
      omega
    · exact h2 o ho hne
theorem fold_reach (id : List UInt8) : ∀ (os : List (List UInt8)) (n : Nat), os.foldl (shortStep id) n = n ∨ ∃ o ∈ os, o ≠ id ∧ os.foldl (shortStep id) n = cpl (hexS id) (hexS o) + 1
  | [], n => .inl rfl
  | x :: os, n => by
    rw [List.foldl_cons]
    rcases fold_reach id os (shortStep id n x) with h | ⟨o, ho, hne, h⟩
    · by_cases hx : x = id
      · left; rw [h]; unfold shortStep; rw [if_pos hx]
      · have hs : shortStep id n x = max n (cpl (hexS id) (hexS x) + 1) := by unfold shortStep; rw [if_neg hx]
        rcases Nat.le_total n (cpl (hexS id) (hexS x) + 1) with hle | hle
        · right; exact ⟨x, by simp, hx, by rw [h, hs]; omega⟩
        · left; rw [h, hs]; omega
    · right; exact ⟨o, by simp [ho], hne, h⟩
/-- is the one digit shorter text another's, too? -/
def lessB (l : List UInt8) (N : Nat) (os : List (List UInt8)) : Bool := os.any fun o => !(o == l) && (hexS o).take (N - 1) == (hexS l).take (N - 1)
theorem short_apart {l : List UInt8} (hl : l.length = 32) {os : List (List UInt8)} {o : List UInt8} (ho : o ∈ os) (h32 : o.length = 32) (hne : o ≠ l) (hN : shortN l os ≤ 64) : ¬ (hexS o).take (shortN l os) = (hexS l).take (shortN l os) := by
  intro h
  have h1 := (fold_ge l os 4).2 o ho hne
  have h2 := (cpl_take (hexS l) (hexS o) (shortN l os) (by rw [hexS_length, hl]; exact hN) (by rw [hexS_length, hexS_length, hl, h32])).1 h.symm
  unfold shortN at h2
  omega
theorem short_less {l : List UInt8} (hl : l.length = 32) {os : List (List UInt8)} (h32 : ∀ o ∈ os, o.length = 32) (hN : shortN l os ≤ 64) (h4 : shortN l os ≠ 4) : lessB l (shortN l os) os = true := by
  rcases fold_reach l os 4 with h | ⟨o, ho, hne, h⟩
  · exact absurd h h4
  · unfold lessB
    rw [List.any_eq_true]
    refine ⟨o, ho, ?_⟩
    have h2 := (cpl_take (hexS l) (hexS o) (shortN l os - 1) (by rw [hexS_length, hl]; omega) (by rw [hexS_length, hexS_length, hl, h32 o ho])).2 (by unfold shortN; omega)
    rw [h2]
    simp [hne]
theorem lessB_snoc {l : List UInt8} {N : Nat} {os : List (List UInt8)} {k : Nat} {o : List UInt8} (h : os[k]? = some o) : lessB l N (os.take (k + 1)) = (lessB l N (os.take k) || (!(o == l) && (hexS o).take (N - 1) == (hexS l).take (N - 1))) := by
  unfold lessB
  rw [List.take_add_one, h, List.any_append]
  simp
theorem ids_32 {w : World} {A : Option Addr} {os : List (List UInt8)} (h : SlOf (arrR 32 byteR) w no A os) : ∀ o ∈ os, o.length = 32 := fun o ho => by
  obtain ⟨j, hj⟩ := List.mem_iff_getElem?.1 ho
  have hjl := (List.getElem?_eq_some_iff.1 hj).1
  obtain ⟨_, _, o', _, _, h1, h2, _⟩ := ids_look h rfl (i := j) hjl
  rw [hj] at h1; injection h1 with h1; rw [h1]; exact h2

set_option maxRecDepth 100000 in
set_option maxHeartbeats 4000000 in
theorem shaShort_any (cs : List Value) (l : List UInt8) (A : Option Addr) (c : Nat) (os : List (List UInt8)) (W0 : World) (hx : (arrR 32 byteR).R W0 no cs l) (_ : bulkL (fun _ : UInt8 => 1) l + 1 ≤ 1048576)
    (hc : os.length ≤ c) (hcm : c ≤ maxLen) (hs : SlOf (arrR 32 byteR) W0 no A os) (hbo : bulkL (fun l => bulkL (fun _ : UInt8 => 1) l + 1) os + 1 ≤ 1048576) :
    Calls Try.prog 6 #[.agg cs.toArray, .slice A os.length c] W0 fun e w' => e = .returned (.bool true) ∧ Below W0.heap.size W0 w' := by
  obtain ⟨h32, hx⟩ := hx
  obtain rfl := each_bytes hx
  clear hx hbo
  have HCM := Lib.hid hcm
  unfold maxLen at hcm
  have H32 := Lib.hid h32
  have HO32 := Lib.hid (ids_32 hs)
  have hN := short_le h32 HO32.out os.length
  rw [List.take_length] at hN
  have hHX : (hexS l).length = 64 := by rw [hexS_length, h32]
  have HAP := Lib.hid (fun o (ho : o ∈ os) hne => short_apart h32 ho (HO32.out o ho) hne hN.2)
  have HLE := Lib.hid (fun h4 => short_less h32 HO32.out hN.2 h4)
  have hSX : ((hexS l).take (shortN l os)).length = shortN l os := by rw [List.length_take, hHX]; omega
  clear h32
  obtain ⟨n, hn⟩ : ∃ n, n = os.length := ⟨_, rfl⟩
  rw [← hn] at hc ⊢
  have HN := Lib.hid hn
  have HS := Lib.hid hs
  clear hs hn
  have HCV := Lib.hid (Blk.new W0 25 (bytesV l).toArray)
  have HB0 := Lib.hid ((Below.refl W0.heap.size W0).alloc (Nat.le_refl _) (.cells (bytesV l).toArray 25))
  obtain ⟨IV, hIV⟩ : ∃ IV, IV = (bytesV l).toArray := ⟨_, rfl⟩
  rw [← hIV] at HCV HB0 ⊢
  have HKV := Lib.hid hIV
  have HKI := Lib.hid (show (Try.prog.info? 25).map (·.size) = some IV.size by rw [hIV]; exact id_size H32.out)
  clear hIV
  go_enter Try.func6, Try.ntmps6
  go_wp2_with fail
  refine (awake_sha _).mono ?_
  rintro e w1 ⟨rfl, hb1⟩
  have HC1 := Lib.hid (HCV.out.below hb1 HCV.out.lt)
  have HB1 := Lib.hid (HB0.out.trans (hb1.mono HB0.out.size))
  clear hb1 HCV HB0
  have HSH : Hid (Calls Try.prog 16 #[.agg IV, .slice A n c] w1 fun e w' => e = .returned (.string ⟨((hexS l).take (shortN l os)).toArray⟩) ∧ Below w1.heap.size w1 w') := Lib.hid (by rw [HKV.out]; exact short_any l H32.out A n c os w1 (HS.out.below HB1.out) HN.out.symm hc HCM.out)
  have HHX : Hid (∀ w : World, Calls Try.prog 14 #[.agg IV] w fun e w' => e = .returned (.string ⟨(hexS l).toArray⟩) ∧ Below w.heap.size w w') := Lib.hid (fun w => by rw [HKV.out]; exact hex_any l H32.out w)
  generalize hM : shortN l os = M at *
  have HM := Lib.hid hM
  clear hM
  have HTX := Lib.hid (show (hexS l).take M = (hexS l).take M from rfl)
  generalize hX : hexS l = X at *
  have HXX := Lib.hid hX
  clear hX
  obtain ⟨SX, hS⟩ : ∃ SX, SX = X.take M := ⟨_, rfl⟩
  rw [← hS] at hSX HSH
  have HSXE := Lib.hid hS
  have hst : X.take SX.length = SX := by rw [hSX]; exact hS.symm
  have HSL := Lib.hid hSX
  have HXL := Lib.hid hHX
  have f4 : ¬ (SX.length : Int) < 4 := by omega
  have f5 : ¬ (64 : Int) < (SX.length : Int) := by omega
  have f6 : (0 : Int) ≤ (SX.length : Int) := by omega
  have f7 : (SX.length : Int) ≤ (X.length : Int) := by omega
  have fe := cut_take X SX.length
  rw [hst] at fe
  clear hS hSX hHX hst
  go_wp2_with (refine wpList_load_at rfl _ _ rfl W0.heap.size 0 rfl IV _ (At.of_row HC1.out) Try.underlying25 rfl HKI.out ?_)
  refine HSH.out.mono ?_
  rintro e w2 ⟨rfl, hb2⟩
  have HC2 := Lib.hid (HC1.out.below hb2 HC1.out.lt)
  have HB2 := Lib.hid (HB1.out.trans (hb2.mono HB1.out.size))
  clear hb2 HC1 HSH
  go_wp2_with (refine wpList_load_at rfl _ _ rfl W0.heap.size 0 rfl IV _ (At.of_row HC2.out) Try.underlying25 rfl HKI.out ?_)
  refine (HHX.out _).mono ?_
  rintro e w3 ⟨rfl, hb3⟩
  have HC3 := Lib.hid (HC2.out.below hb3 HC2.out.lt)
  have HB3 := Lib.hid (HB2.out.trans (hb3.mono HB2.out.size))
  clear hb3 HC2
  go_wp2_with fail
  have HL0 : Hid (lessB l M (os.take 0) = false) := Lib.hid rfl
  go_loopw [7, 36] (fun u i wr => ∃ (k : Nat) (z : Bool), k ≤ n ∧ i = .int .i64 (k : Int) ∧ u = .bool z ∧ Hid (lessB l M (os.take k) = z) ∧ Hid (Blk wr W0.heap.size 25 IV) ∧ Hid (Below W0.heap.size W0 wr)) (fun _ i _ => n - (intOf i).toNat)
  case atStart => exact ⟨0, false, by omega, rfl, rfl, HL0, HC3, HB3⟩
  case round =>
    obtain ⟨k, z, hk, rfl, rfl, HZ, HB, HL⟩ := hrel
    have HOS := Lib.hid (HS.out.below HL.out)
    by_cases hlt : k < n
    · have hlt' : (k : Int) < (n : Int) := by omega
      obtain ⟨b, off, o, rfl, hbl, hox, ho32, hat⟩ := ids_look HOS.out HN.out.symm hlt
      have HSN := Lib.hid (lessB_snoc (l := l) (N := M) hox)
      have HOM := Lib.hid (show o ∈ os from List.mem_iff_getElem?.2 ⟨k, hox⟩)
      have HO2 := Lib.hid ho32
      have HAT := Lib.hid hat
      clear hat hox ho32
      obtain ⟨OV, hOV⟩ : ∃ OV, OV = (bytesV o).toArray := ⟨_, rfl⟩
      have HOV := Lib.hid hOV
      have HOI := Lib.hid (show (Try.prog.info? 25).map (·.size) = some OV.size by rw [hOV]; exact id_size HO2.out)
      have HOO := Lib.hid (show OV.all (·.oneCell') = true by rw [hOV]; exact id_one _)
      have HOZ := Lib.hid (show OV.size = 32 by rw [hOV]; simp [bytesV, HO2.out])
      clear hOV
      have HX0 := Lib.hid (HB.out.alloc (.cells OV 25))
      have HY0 := Lib.hid (Blk.new wr 25 OV)
      have HL0 := Lib.hid (HL.out.alloc HL.out.size (.cells OV 25))
      have hxw : W0.heap.size < (wr.alloc (.cells OV 25)).heap.size := by have := HL.out.size; simp; omega
      have hyw : wr.heap.size < (wr.alloc (.cells OV 25)).heap.size := by simp
      go_upto_region 11 with (first | (refine wpList_load_at rfl _ _ rfl b (off + k * 32) rfl OV _ (by rw [HOV.out]; exact HAT.out) Try.underlying25 rfl HOI.out ?_) | (refine wpList_store_row rfl _ _ _ rfl wr.heap.size OV rfl rfl 25 _ (heap_alloc_new wr _) HOI.out (by rw [HOZ.out]; rfl) HOO.out ?_))
      rw [World.setRow_alloc_new]
      go_frame
      change Code.wp _ _ _ _ (wr.alloc (.cells OV 25))
      generalize hG : wr.heap.size = GO at *
      generalize wr.alloc (.cells OV 25) = w5 at *
      clear HB HL HOS HAT hbl hG
      have HYL := Lib.hid (show (hexS o).length = 64 by rw [hexS_length, HO2.out])
      have HHY : Hid (∀ w : World, Calls Try.prog 14 #[.agg OV] w fun e w' => e = .returned (.string ⟨(hexS o).toArray⟩) ∧ Below w.heap.size w w') := Lib.hid (fun w => by rw [HOV.out]; exact hex_any o HO2.out w)
      have HNE : Hid (∀ w : World, neqId w OV IV = .ok (.bool (!(o == l))) w) := Lib.hid (fun w => by rw [HOV.out, HKV.out]; exact neqId_of HO2.out H32.out w)
      generalize hY : hexS o = Y at *
      have HYY := Lib.hid hY
      clear hY
      go_wp2_with (refine wpList_load_at rfl _ _ rfl GO 0 rfl OV _ (At.of_row HY0.out) Try.underlying25 rfl HOI.out ?_)
      refine (HHY.out w5).mono ?_
      rintro e w6 ⟨rfl, hb6⟩
      have HX1 := Lib.hid (HX0.out.below hb6 hxw)
      have HY1 := Lib.hid (HY0.out.below hb6 hyw)
      have HL1 := Lib.hid (HL0.out.trans (hb6.mono HL0.out.size))
      clear hb6 HX0 HY0 HL0 HHY
      have g1 : (SX.length : Int) ≤ (Y.length : Int) := by have := HYL.out; omega
      have ey := cut_take Y SX.length
      by_cases hol : o = l
      · have hne : ∀ w : World, neqId w OV IV = .ok (.bool false) w := fun w => by rw [HNE.out, hol, beq_self_eq_true]; rfl
        have HZ2 := Lib.hid (show lessB l M (os.take (k + 1)) = z by rw [HSN.out, HZ.out, show (o == l) = true by simpa using hol]; simp)
        clear hol
        have HLT := Lib.hid hlt
        have hkw : IntKind.i64.wrap ((k : Int) + 1) = (k : Int) + 1 := IntWalk.i64_in _ (by omega)
        clear f4 f5 f7 fe g1 ey hlt hlt' hxw hyw
        go_upto_region 14 with (first | (refine wpList_load_at rfl 25 (.tmp 9) rfl GO 0 rfl OV _ (At.of_row HY1.out) Try.underlying25 rfl HOI.out ?_) | (refine wpList_load_at rfl 25 (.tmp 2) rfl W0.heap.size 0 rfl IV _ (At.of_row HX1.out) Try.underlying25 rfl HKI.out ?_))
        cases z
        · skip
          refine wp_region_held (S := fun W => Same w6 W) (by kernel_rfl) ?_
          change wpAnyH _ _ _ _ _ _ _ _ (World.drew _)
          refine held_take (i := 0) (v := ?_) (a' := ?_) rfl (by kernel_rfl) (by kernel_rfl) (by kernel_rfl) (fun _ _ _ h => h) (by rfl) ⟨1, rfl⟩ ?_ ?_ ?_
          rotate_left 2
          · (intro w hS; go_simp; try with_reducible rfl)
          · (go_simp; try with_reducible rfl)
          refine held_take (i := 1) (v := ?_) (a' := ?_) rfl (by kernel_rfl) (by kernel_rfl) (by kernel_rfl) (fun _ _ _ h => h) (by rfl) ⟨1, rfl⟩ ?_ ?_ ?_
          rotate_left 2
          · (intro w hS; go_simp; try with_reducible rfl)
          · (go_simp; try with_reducible rfl)
          refine held_take (i := 2) (v := ?_) (a' := ?_) rfl (by kernel_rfl) (by kernel_rfl) (by kernel_rfl) (fun _ _ _ h => h) (by rfl) ⟨1, rfl⟩ ?_ ?_ ?_
          rotate_left 2
          · (intro w hS; refine exec_load_at 25 (.tmp 9) ?_ GO 0 ?_ OV _ (At.of_row (HY1.out.same hS)) Try.underlying25 rfl HOI.out; exact rfl; exact rfl)
          · (go_simp; try with_reducible rfl)
          refine held_take (i := 3) (v := ?_) (a' := ?_) rfl (by kernel_rfl) (by kernel_rfl) (by kernel_rfl) (fun _ _ _ h => h) (by rfl) ⟨1, rfl⟩ ?_ ?_ ?_
          rotate_left 2
          · (intro w hS; refine exec_load_at 25 (.tmp 2) ?_ W0.heap.size 0 ?_ IV _ (At.of_row (HX1.out.same hS)) Try.underlying25 rfl HKI.out; exact rfl; exact rfl)
          · (go_simp; try with_reducible rfl)
          refine held_take (i := 4) (v := ?_) (a' := ?_) rfl (by kernel_rfl) (by kernel_rfl) (by kernel_rfl) (fun _ _ _ h => h) (by rfl) ⟨1, rfl⟩ ?_ ?_ ?_
          rotate_left 2
          · (intro w hS; go_simp; try with_reducible rfl)
          · (go_simp; try with_reducible rfl)
          refine held_take (i := 5) (v := ?_) (a' := ?_) rfl (by kernel_rfl) (by kernel_rfl) (by kernel_rfl) (fun _ _ _ h => h) (by rfl) ⟨1, rfl⟩ ?_ ?_ ?_
          rotate_left 2
          · (intro w hS; go_simp; try with_reducible rfl)
          · (go_simp; try with_reducible rfl)
          refine held_no (i := 6) (a' := ?_) rfl (by kernel_rfl) (by kernel_rfl) (by kernel_rfl) (fun _ _ _ h => h) (by rfl) ⟨1, rfl⟩ ?_ ?_
          rotate_left 1
          · (go_simp; try with_reducible rfl)
          refine held_no (i := 7) (a' := ?_) rfl (by kernel_rfl) (by kernel_rfl) (by kernel_rfl) (fun _ _ _ h => h) (by rfl) ⟨1, rfl⟩ ?_ ?_
          rotate_left 1
          · (go_simp; try with_reducible rfl)
          refine held_no (i := 8) (a' := ?_) rfl (by kernel_rfl) (by kernel_rfl) (by kernel_rfl) (fun _ _ _ h => h) (by rfl) ⟨1, rfl⟩ ?_ ?_
          rotate_left 1
          · (go_simp; try with_reducible rfl)
          refine held_no (i := 9) (a' := ?_) rfl (by kernel_rfl) (by kernel_rfl) (by kernel_rfl) (fun _ _ _ h => h) (by rfl) ⟨1, rfl⟩ ?_ ?_
          rotate_left 1
          · (go_simp; try with_reducible rfl)
          refine held_no (i := 10) (a' := ?_) rfl (by kernel_rfl) (by kernel_rfl) (by kernel_rfl) (fun _ _ _ h => h) (by rfl) ⟨1, rfl⟩ ?_ ?_
          rotate_left 1
          · (go_simp; try with_reducible rfl)
          refine held_no (i := 11) (a' := ?_) rfl (by kernel_rfl) (by kernel_rfl) (by kernel_rfl) (fun _ _ _ h => h) (by rfl) ⟨1, rfl⟩ ?_ ?_
          rotate_left 1
          · (go_simp; try with_reducible rfl)
          refine held_no (i := 12) (a' := ?_) rfl (by kernel_rfl) (by kernel_rfl) (by kernel_rfl) (fun _ _ _ h => h) (by rfl) ⟨1, rfl⟩ ?_ ?_
          rotate_left 1
          · (go_simp; try with_reducible rfl)
          refine held_no (i := 13) (a' := ?_) rfl (by kernel_rfl) (by kernel_rfl) (by kernel_rfl) (fun _ _ _ h => h) (by rfl) ⟨1, rfl⟩ ?_ ?_
          rotate_left 1
          · (go_simp; try with_reducible rfl)
          refine held_no (i := 14) (a' := ?_) rfl (by kernel_rfl) (by kernel_rfl) (by kernel_rfl) (fun _ _ _ h => h) (by rfl) ⟨1, rfl⟩ ?_ ?_
          rotate_left 1
          · (go_simp; try with_reducible rfl)
          refine held_no (i := 15) (a' := ?_) rfl (by kernel_rfl) (by kernel_rfl) (by kernel_rfl) (fun _ _ _ h => h) (by rfl) ⟨1, rfl⟩ ?_ ?_
          rotate_left 1
          · (go_simp; try with_reducible rfl)
          refine held_no (i := 16) (a' := ?_) rfl (by kernel_rfl) (by kernel_rfl) (by kernel_rfl) (fun _ _ _ h => h) (by rfl) ⟨1, rfl⟩ ?_ ?_
          rotate_left 1
          · (go_simp; try with_reducible rfl)
          refine held_take (i := 17) (v := ?_) (a' := ?_) rfl (by kernel_rfl) (by kernel_rfl) (by kernel_rfl) (fun _ _ _ h => h) (by rfl) ⟨1, rfl⟩ ?_ ?_ ?_
          rotate_left 2
          · (intro w hS; go_simp; try with_reducible rfl)
          · (go_simp; try with_reducible rfl)
          refine held_take (i := 18) (v := ?_) (a' := ?_) rfl (by kernel_rfl) (by kernel_rfl) (by kernel_rfl) (fun _ _ _ h => h) (by rfl) ⟨1, rfl⟩ ?_ ?_ ?_
          rotate_left 2
          · (intro w hS; go_simp; try with_reducible rfl)
          · (go_simp; try with_reducible rfl)
          refine held_take (i := 19) (v := ?_) (a' := ?_) rfl (by kernel_rfl) (by kernel_rfl) (by kernel_rfl) (fun _ _ _ h => h) (by rfl) ⟨1, rfl⟩ ?_ ?_ ?_
          rotate_left 2
          · (intro w hS; go_simp; try with_reducible rfl)
          · (go_simp; try with_reducible rfl)
          refine wpAnyH_done (by kernel_rfl) ?_ _
          go_wp2_with fail
          go_roundw
          case rel => exact ⟨k + 1, false, by have := HLT.out; omega, by go_num, rfl, HZ2, Lib.hid (HX1.out.same ⟨1, rfl⟩), Lib.hid (HL1.out.trans ((Same.refl _).drew.below _))⟩
          case measure => simp [intOf]; have := HLT.out; omega
        · skip
          refine wp_region_held (S := fun W => Same w6 W) (by kernel_rfl) ?_
          change wpAnyH _ _ _ _ _ _ _ _ (World.drew _)
          refine held_take (i := 0) (v := ?_) (a' := ?_) rfl (by kernel_rfl) (by kernel_rfl) (by kernel_rfl) (fun _ _ _ h => h) (by rfl) ⟨1, rfl⟩ ?_ ?_ ?_
          rotate_left 2
          · (intro w hS; go_simp; try with_reducible rfl)
          · (go_simp; try with_reducible rfl)
          refine held_take (i := 1) (v := ?_) (a' := ?_) rfl (by kernel_rfl) (by kernel_rfl) (by kernel_rfl) (fun _ _ _ h => h) (by rfl) ⟨1, rfl⟩ ?_ ?_ ?_
          rotate_left 2
          · (intro w hS; go_simp; try with_reducible rfl)
          · (go_simp; try with_reducible rfl)
          refine held_no (i := 2) (a' := ?_) rfl (by kernel_rfl) (by kernel_rfl) (by kernel_rfl) (fun _ _ _ h => h) (by rfl) ⟨1, rfl⟩ ?_ ?_
          rotate_left 1
          · (go_simp; try with_reducible rfl)
          refine held_no (i := 3) (a' := ?_) rfl (by kernel_rfl) (by kernel_rfl) (by kernel_rfl) (fun _ _ _ h => h) (by rfl) ⟨1, rfl⟩ ?_ ?_
          rotate_left 1
          · (go_simp; try with_reducible rfl)
          refine held_no (i := 4) (a' := ?_) rfl (by kernel_rfl) (by kernel_rfl) (by kernel_rfl) (fun _ _ _ h => h) (by rfl) ⟨1, rfl⟩ ?_ ?_
          rotate_left 1
          · (go_simp; try with_reducible rfl)
          refine held_no (i := 5) (a' := ?_) rfl (by kernel_rfl) (by kernel_rfl) (by kernel_rfl) (fun _ _ _ h => h) (by rfl) ⟨1, rfl⟩ ?_ ?_
          rotate_left 1
          · (go_simp; try with_reducible rfl)
          refine held_no (i := 6) (a' := ?_) rfl (by kernel_rfl) (by kernel_rfl) (by kernel_rfl) (fun _ _ _ h => h) (by rfl) ⟨1, rfl⟩ ?_ ?_
          rotate_left 1
          · (go_simp; try with_reducible rfl)
          refine held_no (i := 7) (a' := ?_) rfl (by kernel_rfl) (by kernel_rfl) (by kernel_rfl) (fun _ _ _ h => h) (by rfl) ⟨1, rfl⟩ ?_ ?_
          rotate_left 1
          · (go_simp; try with_reducible rfl)
          refine held_no (i := 8) (a' := ?_) rfl (by kernel_rfl) (by kernel_rfl) (by kernel_rfl) (fun _ _ _ h => h) (by rfl) ⟨1, rfl⟩ ?_ ?_
          rotate_left 1
          · (go_simp; try with_reducible rfl)
          refine held_no (i := 9) (a' := ?_) rfl (by kernel_rfl) (by kernel_rfl) (by kernel_rfl) (fun _ _ _ h => h) (by rfl) ⟨1, rfl⟩ ?_ ?_
          rotate_left 1
          · (go_simp; try with_reducible rfl)
          refine held_no (i := 10) (a' := ?_) rfl (by kernel_rfl) (by kernel_rfl) (by kernel_rfl) (fun _ _ _ h => h) (by rfl) ⟨1, rfl⟩ ?_ ?_
          rotate_left 1
          · (go_simp; try with_reducible rfl)
          refine held_no (i := 11) (a' := ?_) rfl (by kernel_rfl) (by kernel_rfl) (by kernel_rfl) (fun _ _ _ h => h) (by rfl) ⟨1, rfl⟩ ?_ ?_
          rotate_left 1
          · (go_simp; try with_reducible rfl)
          refine held_no (i := 12) (a' := ?_) rfl (by kernel_rfl) (by kernel_rfl) (by kernel_rfl) (fun _ _ _ h => h) (by rfl) ⟨1, rfl⟩ ?_ ?_
          rotate_left 1
          · (go_simp; try with_reducible rfl)
          refine held_no (i := 13) (a' := ?_) rfl (by kernel_rfl) (by kernel_rfl) (by kernel_rfl) (fun _ _ _ h => h) (by rfl) ⟨1, rfl⟩ ?_ ?_
          rotate_left 1
          · (go_simp; try with_reducible rfl)
          refine held_no (i := 14) (a' := ?_) rfl (by kernel_rfl) (by kernel_rfl) (by kernel_rfl) (fun _ _ _ h => h) (by rfl) ⟨1, rfl⟩ ?_ ?_
          rotate_left 1
          · (go_simp; try with_reducible rfl)
          refine held_no (i := 15) (a' := ?_) rfl (by kernel_rfl) (by kernel_rfl) (by kernel_rfl) (fun _ _ _ h => h) (by rfl) ⟨1, rfl⟩ ?_ ?_
          rotate_left 1
          · (go_simp; try with_reducible rfl)
          refine held_no (i := 16) (a' := ?_) rfl (by kernel_rfl) (by kernel_rfl) (by kernel_rfl) (fun _ _ _ h => h) (by rfl) ⟨1, rfl⟩ ?_ ?_
          rotate_left 1
          · (go_simp; try with_reducible rfl)
          refine held_no (i := 17) (a' := ?_) rfl (by kernel_rfl) (by kernel_rfl) (by kernel_rfl) (fun _ _ _ h => h) (by rfl) ⟨1, rfl⟩ ?_ ?_
          rotate_left 1
          · (go_simp; try with_reducible rfl)
          refine held_take (i := 18) (v := ?_) (a' := ?_) rfl (by kernel_rfl) (by kernel_rfl) (by kernel_rfl) (fun _ _ _ h => h) (by rfl) ⟨1, rfl⟩ ?_ ?_ ?_
          rotate_left 2
          · (intro w hS; go_simp; try with_reducible rfl)
          · (go_simp; try with_reducible rfl)
          refine held_take (i := 19) (v := ?_) (a' := ?_) rfl (by kernel_rfl) (by kernel_rfl) (by kernel_rfl) (fun _ _ _ h => h) (by rfl) ⟨1, rfl⟩ ?_ ?_ ?_
          rotate_left 2
          · (intro w hS; go_simp; try with_reducible rfl)
          · (go_simp; try with_reducible rfl)
          refine wpAnyH_done (by kernel_rfl) ?_ _
          go_wp2_with fail
          go_roundw
          case rel => exact ⟨k + 1, true, by have := HLT.out; omega, by go_num, rfl, HZ2, Lib.hid (HX1.out.same ⟨1, rfl⟩), Lib.hid (HL1.out.trans ((Same.refl _).drew.below _))⟩
          case measure => simp [intOf]; have := HLT.out; omega
      · have hne : ∀ w : World, neqId w OV IV = .ok (.bool true) w := fun w => by rw [HNE.out, show (o == l) = false by simpa using hol]; rfl
        have hap := HAP.out o HOM.out hol
        rw [HYY.out, ← HSXE.out, ← HSL.out] at hap
        have htk : (Y.take SX.length == SX) = false := by simpa using hap
        have HZ1 := Lib.hid (show lessB l M (os.take (k + 1)) = (z || (Y.take (SX.length - 1) == SX.take (SX.length - 1))) by
          rw [HSN.out, HZ.out, show (o == l) = false by simpa using hol, HXX.out, HSXE.out, List.take_take, List.length_take, HXL.out]
          have hm := HSL.out
          rw [HSXE.out, List.length_take, HXL.out] at hm
          rw [hm, show min (M - 1) M = M - 1 by omega]
          simp)
        obtain ⟨K, hK⟩ : ∃ K, K = SX.length - 1 := ⟨_, rfl⟩
        rw [← hK] at HZ1
        have hwr : IntKind.i64.wrap ((SX.length : Int) - 1) = (K : Int) := by rw [IntWalk.i64_in _ (by omega)]; omega
        have hk0 : (0 : Int) ≤ (K : Int) := by omega
        have hk1 : (K : Int) ≤ (Y.length : Int) := by have := HYL.out; omega
        have hk2 : (K : Int) ≤ (SX.length : Int) := by omega
        have ey2 := cut_take Y K
        have es2 := cut_take SX K
        obtain ⟨YK, hYK⟩ : ∃ YK, YK = Y.take K := ⟨_, rfl⟩
        obtain ⟨SK, hSK⟩ : ∃ SK, SK = SX.take K := ⟨_, rfl⟩
        obtain ⟨YS, hYS⟩ : ∃ YS, YS = Y.take SX.length := ⟨_, rfl⟩
        rw [← hYK] at HZ1 ey2
        rw [← hSK] at HZ1 es2
        rw [← hYS] at htk ey
        have HLT := Lib.hid hlt
        have hkw : IntKind.i64.wrap ((k : Int) + 1) = (k : Int) + 1 := IntWalk.i64_in _ (by omega)
        clear hYK hSK hYS hK hap hol f4 f5 f7 fe hlt hlt' hxw hyw
        go_upto_region 14 with (first | (refine wpList_load_at rfl 25 (.tmp 9) rfl GO 0 rfl OV _ (At.of_row HY1.out) Try.underlying25 rfl HOI.out ?_) | (refine wpList_load_at rfl 25 (.tmp 2) rfl W0.heap.size 0 rfl IV _ (At.of_row HX1.out) Try.underlying25 rfl HKI.out ?_))
        cases z
        · have HZ2 := Lib.hid (show lessB l M (os.take (k + 1)) = (YK == SK) by rw [HZ1.out]; simp)
          clear HZ1
          refine wp_region_held (S := fun W => Same w6 W) (by kernel_rfl) ?_
          change wpAnyH _ _ _ _ _ _ _ _ (World.drew _)
          refine held_take (i := 0) (v := ?_) (a' := ?_) rfl (by kernel_rfl) (by kernel_rfl) (by kernel_rfl) (fun _ _ _ h => h) (by rfl) ⟨1, rfl⟩ ?_ ?_ ?_
          rotate_left 2
          · (intro w hS; go_simp; try with_reducible rfl)
          · (go_simp; try with_reducible rfl)
          refine held_take (i := 1) (v := ?_) (a' := ?_) rfl (by kernel_rfl) (by kernel_rfl) (by kernel_rfl) (fun _ _ _ h => h) (by rfl) ⟨1, rfl⟩ ?_ ?_ ?_
          rotate_left 2
          · (intro w hS; go_simp; try with_reducible rfl)
          · (go_simp; try with_reducible rfl)
          refine held_take (i := 2) (v := ?_) (a' := ?_) rfl (by kernel_rfl) (by kernel_rfl) (by kernel_rfl) (fun _ _ _ h => h) (by rfl) ⟨1, rfl⟩ ?_ ?_ ?_
          rotate_left 2
          · (intro w hS; refine exec_load_at 25 (.tmp 9) ?_ GO 0 ?_ OV _ (At.of_row (HY1.out.same hS)) Try.underlying25 rfl HOI.out; exact rfl; exact rfl)
          · (go_simp; try with_reducible rfl)
          refine held_take (i := 3) (v := ?_) (a' := ?_) rfl (by kernel_rfl) (by kernel_rfl) (by kernel_rfl) (fun _ _ _ h => h) (by rfl) ⟨1, rfl⟩ ?_ ?_ ?_
          rotate_left 2
          · (intro w hS; refine exec_load_at 25 (.tmp 2) ?_ W0.heap.size 0 ?_ IV _ (At.of_row (HX1.out.same hS)) Try.underlying25 rfl HKI.out; exact rfl; exact rfl)
          · (go_simp; try with_reducible rfl)
          refine held_take (i := 4) (v := ?_) (a' := ?_) rfl (by kernel_rfl) (by kernel_rfl) (by kernel_rfl) (fun _ _ _ h => h) (by rfl) ⟨1, rfl⟩ ?_ ?_ ?_
          rotate_left 2
          · (intro w hS; go_simp; try with_reducible rfl)
          · (go_simp; try with_reducible rfl)
          refine held_take (i := 5) (v := ?_) (a' := ?_) rfl (by kernel_rfl) (by kernel_rfl) (by kernel_rfl) (fun _ _ _ h => h) (by rfl) ⟨1, rfl⟩ ?_ ?_ ?_
          rotate_left 2
          · (intro w hS; go_simp; try with_reducible rfl)
          · (go_simp; try with_reducible rfl)
          refine held_take (i := 6) (v := ?_) (a' := ?_) rfl (by kernel_rfl) (by kernel_rfl) (by kernel_rfl) (fun _ _ _ h => h) (by rfl) ⟨1, rfl⟩ ?_ ?_ ?_
          rotate_left 2
          · (intro w hS; go_simp; try with_reducible rfl)
          · (go_simp; try with_reducible rfl)
          refine held_take (i := 7) (v := ?_) (a' := ?_) rfl (by kernel_rfl) (by kernel_rfl) (by kernel_rfl) (fun _ _ _ h => h) (by rfl) ⟨1, rfl⟩ ?_ ?_ ?_
          rotate_left 2
          · (intro w hS; go_simp; try with_reducible rfl)
          · (go_simp; try with_reducible rfl)
          refine held_take (i := 8) (v := ?_) (a' := ?_) rfl (by kernel_rfl) (by kernel_rfl) (by kernel_rfl) (fun _ _ _ h => h) (by rfl) ⟨1, rfl⟩ ?_ ?_ ?_
          rotate_left 2
          · (intro w hS; go_simp; try with_reducible rfl)
          · (go_simp; try with_reducible rfl)
          refine held_take (i := 9) (v := ?_) (a' := ?_) rfl (by kernel_rfl) (by kernel_rfl) (by kernel_rfl) (fun _ _ _ h => h) (by rfl) ⟨1, rfl⟩ ?_ ?_ ?_
          rotate_left 2
          · (intro w hS; go_simp; try with_reducible rfl)
          · (go_simp; try with_reducible rfl)
          refine held_take (i := 10) (v := ?_) (a' := ?_) rfl (by kernel_rfl) (by kernel_rfl) (by kernel_rfl) (fun _ _ _ h => h) (by rfl) ⟨1, rfl⟩ ?_ ?_ ?_
          rotate_left 2
          · (intro w hS; go_simp; try with_reducible rfl)
          · (go_simp; try with_reducible rfl)
          refine held_take (i := 11) (v := ?_) (a' := ?_) rfl (by kernel_rfl) (by kernel_rfl) (by kernel_rfl) (fun _ _ _ h => h) (by rfl) ⟨1, rfl⟩ ?_ ?_ ?_
          rotate_left 2
          · (intro w hS; go_simp; try with_reducible rfl)
          · (go_simp; try with_reducible rfl)
          refine held_take (i := 12) (v := ?_) (a' := ?_) rfl (by kernel_rfl) (by kernel_rfl) (by kernel_rfl) (fun _ _ _ h => h) (by rfl) ⟨1, rfl⟩ ?_ ?_ ?_
          rotate_left 2
          · (intro w hS; go_simp; try with_reducible rfl)
          · (go_simp; try with_reducible rfl)
          refine held_take (i := 13) (v := ?_) (a' := ?_) rfl (by kernel_rfl) (by kernel_rfl) (by kernel_rfl) (fun _ _ _ h => h) (by rfl) ⟨1, rfl⟩ ?_ ?_ ?_
          rotate_left 2
          · (intro w hS; go_simp; try with_reducible rfl)
          · (go_simp; try with_reducible rfl)
          refine held_take (i := 14) (v := ?_) (a' := ?_) rfl (by kernel_rfl) (by kernel_rfl) (by kernel_rfl) (fun _ _ _ h => h) (by rfl) ⟨1, rfl⟩ ?_ ?_ ?_
          rotate_left 2
          · (intro w hS; go_simp; try with_reducible rfl)
          · (go_simp; try with_reducible rfl)
          refine held_take (i := 15) (v := ?_) (a' := ?_) rfl (by kernel_rfl) (by kernel_rfl) (by kernel_rfl) (fun _ _ _ h => h) (by rfl) ⟨1, rfl⟩ ?_ ?_ ?_
          rotate_left 2
          · (intro w hS; go_simp; try with_reducible rfl)
          · (go_simp; try with_reducible rfl)
          refine held_take (i := 16) (v := ?_) (a' := ?_) rfl (by kernel_rfl) (by kernel_rfl) (by kernel_rfl) (fun _ _ _ h => h) (by rfl) ⟨1, rfl⟩ ?_ ?_ ?_
          rotate_left 2
          · (intro w hS; go_simp; try with_reducible rfl)
          · (go_simp; try with_reducible rfl)
          refine held_take (i := 17) (v := ?_) (a' := ?_) rfl (by kernel_rfl) (by kernel_rfl) (by kernel_rfl) (fun _ _ _ h => h) (by rfl) ⟨1, rfl⟩ ?_ ?_ ?_
          rotate_left 2
          · (intro w hS; go_simp; try with_reducible rfl)
          · (go_simp; try with_reducible rfl)
          refine held_take (i := 18) (v := ?_) (a' := ?_) rfl (by kernel_rfl) (by kernel_rfl) (by kernel_rfl) (fun _ _ _ h => h) (by rfl) ⟨1, rfl⟩ ?_ ?_ ?_
          rotate_left 2
          · (intro w hS; go_simp; try with_reducible rfl)
          · (go_simp; try with_reducible rfl)
          refine held_take (i := 19) (v := ?_) (a' := ?_) rfl (by kernel_rfl) (by kernel_rfl) (by kernel_rfl) (fun _ _ _ h => h) (by rfl) ⟨1, rfl⟩ ?_ ?_ ?_
          rotate_left 2
          · (intro w hS; go_simp; try with_reducible rfl)
          · (go_simp; try with_reducible rfl)
          refine wpAnyH_done (by kernel_rfl) ?_ _
          go_wp2_with fail
          go_roundw
          case rel => exact ⟨k + 1, (YK == SK), by have := HLT.out; omega, by go_num, rfl, HZ2, Lib.hid (HX1.out.same ⟨1, rfl⟩), Lib.hid (HL1.out.trans ((Same.refl _).drew.below _))⟩
          case measure => simp [intOf]; have := HLT.out; omega
        · have HZ2 := Lib.hid (show lessB l M (os.take (k + 1)) = true by rw [HZ1.out]; simp)
          clear HZ1
          refine wp_region_held (S := fun W => Same w6 W) (by kernel_rfl) ?_
          change wpAnyH _ _ _ _ _ _ _ _ (World.drew _)
          refine held_take (i := 0) (v := ?_) (a' := ?_) rfl (by kernel_rfl) (by kernel_rfl) (by kernel_rfl) (fun _ _ _ h => h) (by rfl) ⟨1, rfl⟩ ?_ ?_ ?_
          rotate_left 2
          · (intro w hS; go_simp; try with_reducible rfl)
          · (go_simp; try with_reducible rfl)
          refine held_take (i := 1) (v := ?_) (a' := ?_) rfl (by kernel_rfl) (by kernel_rfl) (by kernel_rfl) (fun _ _ _ h => h) (by rfl) ⟨1, rfl⟩ ?_ ?_ ?_
          rotate_left 2
          · (intro w hS; go_simp; try with_reducible rfl)
          · (go_simp; try with_reducible rfl)
          refine held_no (i := 2) (a' := ?_) rfl (by kernel_rfl) (by kernel_rfl) (by kernel_rfl) (fun _ _ _ h => h) (by rfl) ⟨1, rfl⟩ ?_ ?_
          rotate_left 1
          · (go_simp; try with_reducible rfl)
          refine held_no (i := 3) (a' := ?_) rfl (by kernel_rfl) (by kernel_rfl) (by kernel_rfl) (fun _ _ _ h => h) (by rfl) ⟨1, rfl⟩ ?_ ?_
          rotate_left 1
          · (go_simp; try with_reducible rfl)
          refine held_no (i := 4) (a' := ?_) rfl (by kernel_rfl) (by kernel_rfl) (by kernel_rfl) (fun _ _ _ h => h) (by rfl) ⟨1, rfl⟩ ?_ ?_
          rotate_left 1
          · (go_simp; try with_reducible rfl)
          refine held_no (i := 5) (a' := ?_) rfl (by kernel_rfl) (by kernel_rfl) (by kernel_rfl) (fun _ _ _ h => h) (by rfl) ⟨1, rfl⟩ ?_ ?_
          rotate_left 1
          · (go_simp; try with_reducible rfl)
          refine held_no (i := 6) (a' := ?_) rfl (by kernel_rfl) (by kernel_rfl) (by kernel_rfl) (fun _ _ _ h => h) (by rfl) ⟨1, rfl⟩ ?_ ?_
          rotate_left 1
          · (go_simp; try with_reducible rfl)
          refine held_no (i := 7) (a' := ?_) rfl (by kernel_rfl) (by kernel_rfl) (by kernel_rfl) (fun _ _ _ h => h) (by rfl) ⟨1, rfl⟩ ?_ ?_
          rotate_left 1
          · (go_simp; try with_reducible rfl)
          refine held_no (i := 8) (a' := ?_) rfl (by kernel_rfl) (by kernel_rfl) (by kernel_rfl) (fun _ _ _ h => h) (by rfl) ⟨1, rfl⟩ ?_ ?_
          rotate_left 1
          · (go_simp; try with_reducible rfl)
          refine held_no (i := 9) (a' := ?_) rfl (by kernel_rfl) (by kernel_rfl) (by kernel_rfl) (fun _ _ _ h => h) (by rfl) ⟨1, rfl⟩ ?_ ?_
          rotate_left 1
          · (go_simp; try with_reducible rfl)
          refine held_no (i := 10) (a' := ?_) rfl (by kernel_rfl) (by kernel_rfl) (by kernel_rfl) (fun _ _ _ h => h) (by rfl) ⟨1, rfl⟩ ?_ ?_
          rotate_left 1
          · (go_simp; try with_reducible rfl)
          refine held_no (i := 11) (a' := ?_) rfl (by kernel_rfl) (by kernel_rfl) (by kernel_rfl) (fun _ _ _ h => h) (by rfl) ⟨1, rfl⟩ ?_ ?_
          rotate_left 1
          · (go_simp; try with_reducible rfl)
          refine held_no (i := 12) (a' := ?_) rfl (by kernel_rfl) (by kernel_rfl) (by kernel_rfl) (fun _ _ _ h => h) (by rfl) ⟨1, rfl⟩ ?_ ?_
          rotate_left 1
          · (go_simp; try with_reducible rfl)
          refine held_no (i := 13) (a' := ?_) rfl (by kernel_rfl) (by kernel_rfl) (by kernel_rfl) (fun _ _ _ h => h) (by rfl) ⟨1, rfl⟩ ?_ ?_
          rotate_left 1
          · (go_simp; try with_reducible rfl)
          refine held_no (i := 14) (a' := ?_) rfl (by kernel_rfl) (by kernel_rfl) (by kernel_rfl) (fun _ _ _ h => h) (by rfl) ⟨1, rfl⟩ ?_ ?_
          rotate_left 1
          · (go_simp; try with_reducible rfl)
          refine held_no (i := 15) (a' := ?_) rfl (by kernel_rfl) (by kernel_rfl) (by kernel_rfl) (fun _ _ _ h => h) (by rfl) ⟨1, rfl⟩ ?_ ?_
          rotate_left 1
          · (go_simp; try with_reducible rfl)
          refine held_no (i := 16) (a' := ?_) rfl (by kernel_rfl) (by kernel_rfl) (by kernel_rfl) (fun _ _ _ h => h) (by rfl) ⟨1, rfl⟩ ?_ ?_
          rotate_left 1
          · (go_simp; try with_reducible rfl)
          refine held_no (i := 17) (a' := ?_) rfl (by kernel_rfl) (by kernel_rfl) (by kernel_rfl) (fun _ _ _ h => h) (by rfl) ⟨1, rfl⟩ ?_ ?_
          rotate_left 1
          · (go_simp; try with_reducible rfl)
          refine held_take (i := 18) (v := ?_) (a' := ?_) rfl (by kernel_rfl) (by kernel_rfl) (by kernel_rfl) (fun _ _ _ h => h) (by rfl) ⟨1, rfl⟩ ?_ ?_ ?_
          rotate_left 2
          · (intro w hS; go_simp; try with_reducible rfl)
          · (go_simp; try with_reducible rfl)
          refine held_take (i := 19) (v := ?_) (a' := ?_) rfl (by kernel_rfl) (by kernel_rfl) (by kernel_rfl) (fun _ _ _ h => h) (by rfl) ⟨1, rfl⟩ ?_ ?_ ?_
          rotate_left 2
          · (intro w hS; go_simp; try with_reducible rfl)
          · (go_simp; try with_reducible rfl)
          refine wpAnyH_done (by kernel_rfl) ?_ _
          go_wp2_with fail
          go_roundw
          case rel => exact ⟨k + 1, true, by have := HLT.out; omega, by go_num, rfl, HZ2, Lib.hid (HX1.out.same ⟨1, rfl⟩), Lib.hid (HL1.out.trans ((Same.refl _).drew.below _))⟩
          case measure => simp [intOf]; have := HLT.out; omega
    · have hke : k = n := by omega
      have hlt' : ¬ (k : Int) < (n : Int) := by omega
      have hT : os.take k = os := List.take_of_length_le (by rw [← HN.out]; omega)
      have hz : z = true ∨ SX.length = 4 := by
        rw [hT] at HZ
        rcases Nat.decEq SX.length 4 with h | h
        · left; rw [← HZ.out]; exact HLE.out (by rw [← HSL.out]; exact h)
        · exact .inr h
      clear hke hT HOS
      have hz2 : ((SX.length : Int) == 4 || z) = true := by
        rcases hz with h | h
        · rw [h]; simp
        · rw [h]; simp
      go_upto_region 15 with fail
      go_wp2_with fail
      all_goals
        go_ret
        exact ⟨rfl, HL.out⟩
end Go.Proofs.Ytknbbekinpamjaa
