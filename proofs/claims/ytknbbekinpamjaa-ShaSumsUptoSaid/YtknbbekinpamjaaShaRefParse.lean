/- The document's Parse. -/
import Derived.Test.YtknbbekinpamjaaShaRefShort
set_option linter.unusedVariables false
namespace Go.Proofs.Ytknbbekinpamjaa
open Go.RowKit

/-- the place of a digit among the first k, or none -/
def digK (y : UInt8) (k : Nat) : Int := if badD y = false ∧ (digU y).toNat < k then ((digU y).toNat : Int) else -1
set_option maxRecDepth 100000 in
theorem dig_eq (y : UInt8) {k : Nat} (hk : k < 16) : (y = digits.getD k 0) ↔ (badD y = false ∧ k = (digU y).toNat) := by
  have h : ∀ n : Fin 256, ∀ k : Fin 16, decide (UInt8.ofNat n.val = digits.getD k.val 0) = decide (badD (UInt8.ofNat n.val) = false ∧ k.val = (digU (UInt8.ofNat n.val)).toNat) := by decide +kernel
  have := h ⟨y.toNat, y.toNat_lt⟩ ⟨k, hk⟩
  simp only [UInt8.ofNat_toNat] at this
  exact decide_eq_decide.1 this
theorem digK_zero (y : UInt8) : digK y 0 = -1 := by simp [digK]
theorem digK_yes {y : UInt8} {k : Nat} (hk : k < 16) (h : y = digits.getD k 0) : digK y (k + 1) = (k : Int) := by
  obtain ⟨h1, h2⟩ := (dig_eq y hk).1 h
  unfold digK
  rw [if_pos ⟨h1, by omega⟩, ← h2]
theorem digK_no {y : UInt8} {k : Nat} (hk : k < 16) (h : ¬ y = digits.getD k 0) : digK y (k + 1) = digK y k := by
  have h1 := fun h2 => h ((dig_eq y hk).2 h2)
  unfold digK
  by_cases hb : badD y = false
  · have : ¬ k = (digU y).toNat := fun e => h1 ⟨hb, e⟩
    by_cases hl : (digU y).toNat < k
    · rw [if_pos ⟨hb, by omega⟩, if_pos ⟨hb, hl⟩]
    · rw [if_neg (by omega), if_neg (by omega)]
  · rw [if_neg (fun h => hb h.1), if_neg (fun h => hb h.1)]
set_option maxRecDepth 100000 in
theorem digU_lt {y : UInt8} (h : badD y = false) : (digU y).toNat < 16 := by
  have h2 : decide (15 < (digU y).toNat) = false := by
    unfold badD at h
    rw [Bool.or_eq_false_iff] at h
    exact h.1
  simp at h2
  omega
theorem digK_bad {y : UInt8} (h : badD y = true) : digK y 16 = -1 := by unfold digK; rw [if_neg]; rw [h]; simp
theorem digK_good {y : UInt8} (h : badD y = false) : digK y 16 = ((digU y).toNat : Int) := by unfold digK; rw [if_pos ⟨h, digU_lt h⟩]
theorem mix_doc (z d : UInt8) (hd : d.toNat < 16) : ((z.toNat : Int) * 16 + (d.toNat : Int)) % 256 = ((mix4 z d).toNat : Int) := by
  have h1 : (mix4 z d).toNat = (z.toNat * 16 + d.toNat) % 256 := by
    unfold mix4
    rw [UInt8.toNat_or, UInt8.toNat_shiftLeft, Nat.shiftLeft_eq]
    have hz := z.toNat_lt
    have e : z.toNat * 2 ^ ((4 : UInt8).toNat % 8) % 2 ^ 8 = (z.toNat % 16) <<< 4 := by
      rw [Nat.shiftLeft_eq]; simp; omega
    rw [e, ← Nat.shiftLeft_add_eq_or_of_lt (by omega : d.toNat < 2 ^ 4), Nat.shiftLeft_eq]
    omega
  rw [h1]; omega

theorem run_index_dig64 {n : Nat} (hn : n < 16) (w : World) :
    (Instr.index 9 (.string { data := #[48, 49, 50, 51, 52, 53, 54, 55, 56, 57, 97, 98, 99, 100, 101, 102] }) (.int .i64 (n : Int))).run Try.prog w = .ok (.int .u8 ((digits.getD n 0).toNat : Int)) w :=
  run_index_str (X := digits) (getD_getB (by simpa [digits] using hn)) w
set_option maxRecDepth 100000 in
set_option maxHeartbeats 4000000 in
theorem refParse_any (b : List UInt8) (W0 : World) :
    Calls Try.prog 13 #[.string ⟨b.toArray⟩] W0 fun e w' => e = .returned (.tuple #[.agg (bytesV (parR b).1).toArray, .int .i64 (parR b).2]) ∧ Below W0.heap.size W0 w' := by
  have HR0 := Lib.hid (show Blk (W2 W0) W0.heap.size 25 zID from (Blk.new W0 _ _).alloc _)
  have HI0 := Lib.hid (show Blk (W2 W0) (W0.heap.size + 1) 25 zID by have := Blk.new (W0.alloc (.cells zID 25)) 25 zID; simpa using this)
  have HB0 := Lib.hid (show Below W0.heap.size W0 (W2 W0) from ((Below.refl W0.heap.size W0).alloc (Nat.le_refl _) (.cells zID 25)).alloc (by simp) (.cells zID 25))
  by_cases h64 : b.length = 64
  · have h64' : (b.length : Int) = 64 := by omega
    go_enter Try.func13, Try.ntmps13
    go_upto_region 2 with (refine wpList_store_row rfl _ _ _ rfl (W0.heap.size + 1) zID rfl rfl 25 _ HI0.out (id_size (by simp)) rfl (id_one _) ?_)
    change Code.wp _ _ _ _ ((W2 W0).setRow (W0.heap.size + 1) zID)
    have HSZ := Lib.hid (show ((W2 W0).setRow (W0.heap.size + 1) zID).heap.size = W0.heap.size + 2 by simp)
    have HR1 := Lib.hid (show Blk ((W2 W0).setRow (W0.heap.size + 1) zID) W0.heap.size 25 zID from HR0.out.setRow (by omega) zID)
    have HI1 := Lib.hid (show Blk ((W2 W0).setRow (W0.heap.size + 1) zID) (W0.heap.size + 1) 25 zID from setRow_heap _ _ _ _ _ _ HI0.out)
    have HB1 := Lib.hid (show Below W0.heap.size W0 ((W2 W0).setRow (W0.heap.size + 1) zID) from below_setRow HB0.out (by omega) zID)
    generalize (W2 W0).setRow (W0.heap.size + 1) zID = w1 at *
    clear HR0 HI0 HB0
    go_wp2_with fail
    go_loopw [5] (fun i wr => ∃ q : Nat, i = .int .i64 q ∧ q ≤ 64 ∧ Hid (Blk wr (W0.heap.size + 1) 25 (bytesV (parT b q)).toArray) ∧ Hid (Blk wr W0.heap.size 25 zID) ∧ Hid (Below W0.heap.size W0 wr) ∧ Hid (∀ j, j < q → badD (b.getD j 0) = false)) (fun i _ => 64 - (intOf i).toNat)
    case atStart => exact ⟨0, rfl, by omega, HI1, HR1, HB1, Lib.hid (fun j hj => absurd hj (by omega))⟩
    case round =>
      obtain ⟨q, rfl, hq, HI, HR, HB, HD⟩ := hrel
      by_cases hlt : q < 64
      · have hlt' : (q : Int) < 64 := by omega
        have hlb : (q : Int) < (b.length : Int) := by omega
        have hx : b[q]? = some (b.getD q 0) := getD_getB (by omega)
        have HN := Lib.hid (show parT b (q + 1) = (parT b q).set (q / 2) (mix4 ((parT b q).getD (q / 2) 0) (digU (b.getD q 0))) by rw [parT])
        have HBAD := Lib.hid (show badD (b.getD q 0) = true → parR b = (List.replicate 32 0, 30) from fun h => parR_bad (q := q) (by omega) h)
        have HGOOD := Lib.hid (show badD (b.getD q 0) = false → ∀ j, j < q + 1 → badD (b.getD j 0) = false from fun h j hj => by
          rcases Nat.lt_or_ge j q with h1 | h1
          · exact HD.out j h1
          · obtain rfl : j = q := by omega
            exact h)
        generalize b.getD q 0 = y at *
        have ix := run_index_str hx
        have HIX := Lib.hid ix
        clear hx ix
        have cy := (HI.out.cell (q / 2)).trans (bytesV_arr (getD_getB (l := parT b q) (i := q / 2) (by rw [parT_length]; omega)))
        have fy := HI.out.frozen (q / 2)
        have hq1 : IntKind.i64.wrap ((q : Int) + 1) = (q : Int) + 1 := IntWalk.i64_in _ (by omega)
        generalize (parT b q).getD (q / 2) 0 = z at *
        have hset := HI.out.set_ (q / 2) (.int .u8 ((mix4 z (digU y)).toNat : Int))
        rw [bytesV_set, ← HN.out] at hset
        have HIN := Lib.hid hset
        have HRN := Lib.hid (HR.out.other (g' := W0.heap.size + 1) (by omega) (q / 2) (.int .u8 ((mix4 z (digU y)).toNat : Int)))
        have HBN := Lib.hid (HB.out.setCell (p := ⟨W0.heap.size + 1, q / 2, none⟩) (by show W0.heap.size ≤ W0.heap.size + 1; omega) (.int .u8 ((mix4 z (digU y)).toNat : Int)))
        clear hset
        have HCY := Lib.hid cy
        have HFY := Lib.hid fy
        clear cy fy
        go_wp2_with fail
        go_loopw [6, 7] (fun a k wi => ∃ j : Nat, j ≤ 16 ∧ k = .int .i64 (j : Int) ∧ a = .int .i64 (digK y j) ∧ Hid (Same wr wi)) (fun _ k _ => 16 - (intOf k).toNat)
        case atStart => exact ⟨0, by omega, rfl, by rw [digK_zero], Lib.hid (Same.refl _)⟩
        case round =>
          obtain ⟨j, hj, rfl, rfl, HSM⟩ := hrel
          by_cases hj16 : j < 16
          · have hj' : (j : Int) < 16 := by omega
            have ix := HIX.out
            have id := run_index_dig64 hj16
            have HK := Lib.hid (fun h => digK_yes (y := y) hj16 h)
            have HK2 := Lib.hid (fun h => digK_no (y := y) hj16 h)
            generalize digits.getD j 0 = dg at *
            by_cases hy : y = dg
            · have hi : ((y.toNat : Int) == (dg.toNat : Int)) = true := by rw [hy]; simp
              have HA := Lib.hid (HK.out hy)
              clear hy
              go_wp2_with fail
              go_quiet (fail)
              go_wp2_with fail
              go_roundw
              case rel => exact ⟨j + 1, by omega, by go_num, by rw [HA.out], Lib.hid (HSM.out.drewN _)⟩
              case measure => simp [intOf]; omega
            · have hi : ((y.toNat : Int) == (dg.toNat : Int)) = false := by
                have : ¬ y.toNat = dg.toNat := fun h => hy (UInt8.toNat_inj.1 h)
                simp; omega
              have HA := Lib.hid (HK2.out hy)
              clear hy
              go_wp2_with fail
              go_quiet (fail)
              go_wp2_with fail
              go_roundw
              case rel => exact ⟨j + 1, by omega, by go_num, by rw [HA.out], Lib.hid (HSM.out.drewN _)⟩
              case measure => simp [intOf]; omega
          · have hj' : ¬ (j : Int) < 16 := by omega
            have hje : j = 16 := by omega
            have HRW := Lib.hid (HR.out.same HSM.out)
            have HIW := Lib.hid (HI.out.same HSM.out)
            have HBW := Lib.hid (HB.out.trans (HSM.out.below _))
            clear HR HI HB
            cases hbd : badD y with
            | true =>
              have hdk : digK y j = -1 := by rw [hje, digK_bad hbd]
              have HSH := Lib.hid (HBAD.out hbd)
              clear hbd hje HCY HFY
              rw [hdk]
              go_wp2_with (refine wpList_store_row rfl _ _ _ rfl W0.heap.size zID rfl rfl 25 _ HRW.out (id_size (by simp)) rfl (id_one _) ?_)
              refine bodyPost_ret (results_row_tmp rfl _ _ W0.heap.size 25 zID (0, 0) _ rfl (setRow_heap _ W0.heap.size _ _ _ _ HRW.out) Try.underlying25 rfl (id_size (by simp))) rfl ⟨?_, below_setRow HBW.out (Nat.le_refl _) _⟩
              rw [HSH.out]
              rfl
            | false =>
              have hdk : digK y j = ((digU y).toNat : Int) := by rw [hje, digK_good hbd]
              have HD2 := Lib.hid (HGOOD.out hbd)
              have hd16 := digU_lt hbd
              have hmx := mix_doc z (digU y) hd16
              have hz := z.toNat_lt
              have cy := (HSM.out.cell ⟨W0.heap.size + 1, q / 2, none⟩).trans HCY.out
              have fy := (HSM.out.frozen ⟨W0.heap.size + 1, q / 2, none⟩).trans HFY.out
              have hset := HIW.out.set_ (q / 2) (.int .u8 ((mix4 z (digU y)).toNat : Int))
              rw [bytesV_set, ← HN.out] at hset
              have HIN := Lib.hid hset
              have HRN := Lib.hid (HRW.out.other (g' := W0.heap.size + 1) (by omega) (q / 2) (.int .u8 ((mix4 z (digU y)).toNat : Int)))
              have HBN := Lib.hid (HBW.out.setCell (p := ⟨W0.heap.size + 1, q / 2, none⟩) (by show W0.heap.size ≤ W0.heap.size + 1; omega) (.int .u8 ((mix4 z (digU y)).toNat : Int)))
              rw [hdk]
              clear hbd hje HCY HFY hset hdk HN HBAD HGOOD
              generalize digU y = d at *
              generalize (mix4 z d).toNat = mx at *
              have q0 : (0 : Int) ≤ (q : Int) := by omega
              have q1 : (0 : Int) ≤ (q : Int) / 2 := by omega
              have q2 : (q : Int) / 2 < 32 := by omega
              have q3 : ((q : Int) / 2).toNat = q / 2 := by omega
              have q4 : (q : Int).tdiv 2 = (q : Int) / 2 := Int.tdiv_eq_ediv_of_nonneg q0
              have q5 : IntKind.i64.wrap ((q : Int) / 2) = (q : Int) / 2 := IntWalk.i64_in _ (by omega)
              have m0 : IntKind.i64.wrap (z.toNat : Int) = (z.toNat : Int) := IntWalk.i64_in _ (by omega)
              have m1 : IntKind.i64.wrap ((z.toNat : Int) * 16) = (z.toNat : Int) * 16 := IntWalk.i64_in _ (by omega)
              have m2 : IntKind.i64.wrap ((z.toNat : Int) * 16 + (d.toNat : Int)) = (z.toNat : Int) * 16 + (d.toNat : Int) := IntWalk.i64_in _ (by omega)
              have m4 : ¬ (d.toNat : Int) < 0 := by omega
              have m5 : (0 : Int) ≤ (d.toNat : Int) := by omega
              go_wp2_with fail
              go_roundw
              case rel => exact ⟨q + 1, by go_num, by omega, HIN, HRN, HBN, HD2⟩
              case measure => simp [intOf]; omega
      · have hqe : q = 64 := by omega
        have hge : ¬ (q : Int) < 64 := by omega
        have hOK0 := parR_ok h64 (fun j hj => HD.out j (by omega))
        have h1 := HI.out
        rw [hqe] at h1
        have hPl := parT_length b 64
        generalize parT b 64 = P64 at *
        have hOK := Lib.hid hOK0
        have HI2 := Lib.hid h1
        clear hOK0 h1 HI
        obtain ⟨IV, hIV⟩ : ∃ IV, IV = (bytesV P64).toArray := ⟨_, rfl⟩
        have HII := Lib.hid (show (Try.prog.info? 25).map (·.size) = some IV.size by rw [hIV]; exact id_size hPl)
        have HON := Lib.hid (show IV.all (·.oneCell') = true by rw [hIV]; exact id_one _)
        have HSI := Lib.hid (show IV.size = 32 by rw [hIV]; simp [bytesV, hPl])
        rw [← hIV] at HI2
        have HIV := Lib.hid hIV
        clear hIV hqe hlt
        go_upto_region 16 with fail
        go_wp2_with (first | (refine wpList_load_row rfl _ _ rfl (W0.heap.size + 1) rfl 25 IV (0, 0) _ HI2.out Try.underlying25 rfl HII.out ?_) | (refine wpList_store_row rfl _ _ _ rfl W0.heap.size IV rfl rfl 25 _ HR.out HII.out (by rw [HSI.out]; rfl) HON.out ?_))
        refine bodyPost_ret (results_row_tmp rfl _ _ W0.heap.size 25 IV (0, 0) _ rfl (setRow_heap _ W0.heap.size _ _ _ _ HR.out) Try.underlying25 rfl HII.out) rfl ⟨?_, below_setRow HB.out (Nat.le_refl _) _⟩
        rw [hOK.out, HIV.out]
        rfl
  · have h64' : ¬ (b.length : Int) = 64 := by omega
    have HSH := Lib.hid (parR_short h64)
    go_enter Try.func13, Try.ntmps13
    go_upto_region 2 with (refine wpList_store_row rfl _ _ _ rfl (W0.heap.size + 1) zID rfl rfl 25 _ HI0.out (id_size (by simp)) rfl (id_one _) ?_)
    change Code.wp _ _ _ _ ((W2 W0).setRow (W0.heap.size + 1) zID)
    have HR1 := Lib.hid (show Blk ((W2 W0).setRow (W0.heap.size + 1) zID) W0.heap.size 25 zID from HR0.out.setRow (by omega) zID)
    have HI1 := Lib.hid (show Blk ((W2 W0).setRow (W0.heap.size + 1) zID) (W0.heap.size + 1) 25 zID from setRow_heap _ _ _ _ _ _ HI0.out)
    have HB1 := Lib.hid (show Below W0.heap.size W0 ((W2 W0).setRow (W0.heap.size + 1) zID) from below_setRow HB0.out (by omega) zID)
    generalize (W2 W0).setRow (W0.heap.size + 1) zID = w1 at *
    clear HR0 HI0 HB0
    go_upto_region 3 with fail
    go_wp2_with (first | (refine wpList_load_row rfl _ _ rfl (W0.heap.size + 1) rfl 25 zID (0, 0) _ HI1.out Try.underlying25 rfl (id_size (by simp)) ?_) | (refine wpList_store_row rfl _ _ _ rfl W0.heap.size zID rfl rfl 25 _ HR1.out (id_size (by simp)) rfl (id_one _) ?_))
    refine bodyPost_ret (results_row_tmp rfl _ _ W0.heap.size 25 zID (0, 0) _ rfl (setRow_heap _ W0.heap.size _ _ _ _ HR1.out) Try.underlying25 rfl (id_size (by simp))) rfl ⟨?_, below_setRow HB1.out (Nat.le_refl _) _⟩
    rw [HSH.out]
    rfl
end Go.Proofs.Ytknbbekinpamjaa
