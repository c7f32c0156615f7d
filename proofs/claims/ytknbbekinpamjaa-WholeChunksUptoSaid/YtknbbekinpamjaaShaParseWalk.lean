/- sha.Parse: the walk. -/
import Derived.Test.YtknbbekinpamjaaShaParse
set_option linter.unusedVariables false
namespace Go.Proofs.Ytknbbekinpamjaa
open Go.RowKit
attribute [local go_sem ↓] stb_eq

theorem zeros_built : Try.prog.built 25 [] = some (bytesV (List.replicate 32 0)).toArray := by kernel_rfl
theorem id_size {l : List UInt8} (h : l.length = 32) : (Try.prog.info? 25).map (·.size) = some (bytesV l).toArray.size := by
  have h2 : (Try.prog.info? 25).map (·.size) = some 32 := by kernel_rfl
  have h3 : (bytesV l).toArray.size = 32 := by simp [bytesV, h]
  rw [h3]; exact h2
theorem id_one (l : List UInt8) : (bytesV l).toArray.all (·.oneCell') = true := by
  rw [Array.all_eq_true']
  intro v hv
  exact bytesV_one l v (by simpa using hv)

abbrev zID : Array Value := (bytesV (List.replicate 32 0)).toArray
abbrev W2 (W0 : World) : World := (W0.alloc (.cells zID 25)).alloc (.cells zID 25)

set_option maxRecDepth 100000 in
set_option maxHeartbeats 4000000 in
theorem parse_any (b : List UInt8) (W0 : World) :
    Calls Try.prog 12 #[.string ⟨b.toArray⟩] W0 fun e w' => e = .returned (.tuple #[.agg (bytesV (parR b).1).toArray, .int .i64 (parR b).2]) ∧ Below W0.heap.size W0 w' := by
  have HR0 := Lib.hid (show Blk (W2 W0) W0.heap.size 25 zID from (Blk.new W0 _ _).alloc _)
  have HI0 := Lib.hid (show Blk (W2 W0) (W0.heap.size + 1) 25 zID by have := Blk.new (W0.alloc (.cells zID 25)) 25 zID; simpa using this)
  have HB0 := Lib.hid (show Below W0.heap.size W0 (W2 W0) from ((Below.refl W0.heap.size W0).alloc (Nat.le_refl _) (.cells zID 25)).alloc (by simp) (.cells zID 25))
  by_cases h64 : b.length = 64
  · have h64' : (b.length : Int) = 64 := by omega
    go_enter Try.func12, Try.ntmps12
    go_upto_region 4 with fail
    change Code.wp _ _ _ _ (W2 W0)
    have HSZ := Lib.hid (show (W2 W0).heap.size = W0.heap.size + 2 by simp)
    generalize W2 W0 = w2 at *
    obtain ⟨c, w1, hst, hsl, hbe, hlt⟩ := stb_of w2 b
    have HR1 := Lib.hid (HR0.out.below hbe HR0.out.lt)
    have HI1 := Lib.hid (HI0.out.below hbe HI0.out.lt)
    have HB1 := Lib.hid (HB0.out.trans (hbe.mono (by have := HSZ.out; omega)))
    have HSL := Lib.hid hsl
    clear hsl hbe hlt HR0 HI0 HB0
    generalize w2.heap.size = G at *
    go_wp2_with fail
    go_loopw [15] (fun i wr => ∃ q : Nat, i = .int .i64 q ∧ q ≤ 64 ∧ Hid (Blk wr (W0.heap.size + 1) 25 (bytesV (parT b q)).toArray) ∧ Hid (Blk wr W0.heap.size 25 zID) ∧ Hid (Below W0.heap.size W0 wr) ∧ Hid (wr.heap[G]? = w1.heap[G]?) ∧ Hid (∀ j, j < q → badD (b.getD j 0) = false)) (fun i _ => 64 - (intOf i).toNat)
    case atStart => exact ⟨0, rfl, by omega, HI1, HR1, HB1, Lib.hid rfl, Lib.hid (fun j hj => absurd hj (by omega))⟩
    case round =>
      obtain ⟨q, rfl, hq, HI, HR, HB, HG, HD⟩ := hrel
      by_cases hlt : q < 64
      · have hlt' : (q : Int) < 64 := by omega
        have hlb : (q : Int) < (b.length : Int) := by omega
        obtain ⟨b', o', y, eb, hbl, hcy, hdy⟩ := bytesV_look (k := q) HSL.out (by omega)
        injection eb with eb
        injection eb with eb1 eb2
        subst eb1 eb2
        have hx : b.getD q 0 = y := by
          have h1 : (b.drop q)[0]? = some y := by rw [hdy]; rfl
          rw [List.getElem?_drop, Nat.add_zero] at h1
          rw [List.getD_eq_getElem?_getD, h1]; rfl
        have cx := (World.cell?_of_block (a := ⟨G, 0 + q, none⟩) HG.out).trans hcy
        rw [Nat.zero_add] at cx
        have HN := Lib.hid (show parT b (q + 1) = (parT b q).set (q / 2) (mix4 ((parT b q).getD (q / 2) 0) (digU y)) by rw [parT, hx])
        have HBAD := Lib.hid (show badD y = true → parR b = (List.replicate 32 0, 30) from fun h => parR_bad (q := q) (by omega) (by rw [hx]; exact h))
        have HGOOD := Lib.hid (show badD y = false → ∀ j, j < q + 1 → badD (b.getD j 0) = false from fun h j hj => by
          rcases Nat.lt_or_ge j q with h1 | h1
          · exact HD.out j h1
          · obtain rfl : j = q := by omega
            rw [hx]; exact h)
        have cy := (HI.out.cell (q / 2)).trans (bytesV_arr (getD_getB (l := parT b q) (i := q / 2) (by rw [parT_length]; omega)))
        have fy := HI.out.frozen (q / 2)
        have hq1 : IntKind.i64.wrap ((q : Int) + 1) = (q : Int) + 1 := IntWalk.i64_in _ (by omega)
        clear hcy hdy hx
        generalize (parT b q).getD (q / 2) 0 = z at *
        have hset := HI.out.set_ (q / 2) (.int .u8 ((mix4 z (digU y)).toNat : Int))
        rw [bytesV_set, ← HN.out] at hset
        have HIN := Lib.hid hset
        have HRN := Lib.hid (HR.out.other (g' := W0.heap.size + 1) (by omega) (q / 2) (.int .u8 ((mix4 z (digU y)).toNat : Int)))
        have HBN := Lib.hid (HB.out.setCell (p := ⟨W0.heap.size + 1, q / 2, none⟩) (by show W0.heap.size ≤ W0.heap.size + 1; omega) (.int .u8 ((mix4 z (digU y)).toNat : Int)))
        have HGN := Lib.hid ((heap_setCell_other wr ⟨W0.heap.size + 1, q / 2, none⟩ G (.int .u8 ((mix4 z (digU y)).toNat : Int)) (by have := HSZ.out; show G ≠ W0.heap.size + 1; omega)).trans HG.out)
        have q1 : (0 : Int) ≤ (q : Int) / 2 := by omega
        have q2 : (q : Int) / 2 < 32 := by omega
        have q3 : ((q : Int) / 2).toNat = q / 2 := by omega
        clear hset
        have HBD := Lib.hid (show badD y = (decide (15 < (digU y).toNat) || (decide (y.toNat < 97) && decide (9 < (digU y).toNat))) from rfl)
        by_cases h97 : 97 ≤ y.toNat
        · have h97' : (97 : Int) ≤ (y.toNat : Int) := by omega
          have h97n : ¬ (y.toNat : Int) < 97 := by omega
          have hd : digU y = y - 97 + 10 := if_pos h97
          have hv := b_let y
          rw [← hd] at hv
          clear hd
          generalize digU y = d at *
          by_cases h15 : 15 < d.toNat
          · have h15' : (15 : Int) < (d.toNat : Int) := by omega
            have HSH := Lib.hid (HBAD.out (by rw [HBD.out]; simp [h15]))
            clear HIN HRN HBN HGN HN cy fy
            go_wp2_with (refine wpList_store_row rfl _ _ _ rfl W0.heap.size zID rfl rfl 25 _ HR.out (id_size (by simp)) rfl (id_one _) ?_)
            refine bodyPost_ret (results_row_tmp rfl _ _ W0.heap.size 25 zID (0, 0) _ rfl (setRow_heap _ W0.heap.size _ _ _ _ HR.out) Try.underlying25 rfl (id_size (by simp))) rfl ⟨?_, below_setRow HB.out (Nat.le_refl _) _⟩
            rw [HSH.out]
            rfl
          · have h15' : ¬ (15 : Int) < (d.toNat : Int) := by omega
            have HD2 := Lib.hid (HGOOD.out (by rw [HBD.out]; simp; omega))
            have hmix := b_mix z d
            go_wp2_with fail
            go_roundw
            case rel => exact ⟨q + 1, by go_num, by omega, HIN, HRN, HBN, HGN, HD2⟩
            case measure => simp [intOf]; omega
        · have h97' : ¬ (97 : Int) ≤ (y.toNat : Int) := by omega
          have h97n : (y.toNat : Int) < 97 := by omega
          have hd : digU y = y - 48 := if_neg h97
          have hv := b_sub48 y
          rw [← hd] at hv
          clear hd
          generalize digU y = d at *
          by_cases h15 : 15 < d.toNat
          · have h15' : (15 : Int) < (d.toNat : Int) := by omega
            have HSH := Lib.hid (HBAD.out (by rw [HBD.out]; simp [h15]))
            clear HIN HRN HBN HGN HN cy fy
            go_wp2_with (refine wpList_store_row rfl _ _ _ rfl W0.heap.size zID rfl rfl 25 _ HR.out (id_size (by simp)) rfl (id_one _) ?_)
            refine bodyPost_ret (results_row_tmp rfl _ _ W0.heap.size 25 zID (0, 0) _ rfl (setRow_heap _ W0.heap.size _ _ _ _ HR.out) Try.underlying25 rfl (id_size (by simp))) rfl ⟨?_, below_setRow HB.out (Nat.le_refl _) _⟩
            rw [HSH.out]
            rfl
          · have h15' : ¬ (15 : Int) < (d.toNat : Int) := by omega
            by_cases h9 : 9 < d.toNat
            · have h9' : (9 : Int) < (d.toNat : Int) := by omega
              have HSH := Lib.hid (HBAD.out (by rw [HBD.out]; simp; omega))
              clear HIN HRN HBN HGN HN cy fy
              go_wp2_with (refine wpList_store_row rfl _ _ _ rfl W0.heap.size zID rfl rfl 25 _ HR.out (id_size (by simp)) rfl (id_one _) ?_)
              refine bodyPost_ret (results_row_tmp rfl _ _ W0.heap.size 25 zID (0, 0) _ rfl (setRow_heap _ W0.heap.size _ _ _ _ HR.out) Try.underlying25 rfl (id_size (by simp))) rfl ⟨?_, below_setRow HB.out (Nat.le_refl _) _⟩
              rw [HSH.out]
              rfl
            · have h9' : ¬ (9 : Int) < (d.toNat : Int) := by omega
              have hv2 : (y.toNat : Int) - 48 = (d.toNat : Int) := by omega
              have HD2 := Lib.hid (HGOOD.out (by rw [HBD.out]; simp; omega))
              have hmix := b_mix z d
              go_wp2_with fail
              go_roundw
              case rel => exact ⟨q + 1, by go_num, by omega, HIN, HRN, HBN, HGN, HD2⟩
              case measure => simp [intOf]; omega
      · have hqe : q = 64 := by omega
        have hge : ¬ (q : Int) < 64 := by omega
        have hOK0 := parR_ok h64 (fun j hj => HD.out j (by omega))
        have h1 := HI.out
        rw [hqe] at h1
        have hPl := parT_length b 64
        generalize parT b 64 = P64 at *
        have hOK := Lib.hid hOK0
        have HI2 := Lib.hid h1
        clear hOK0 h1 HI
        obtain ⟨IV, hIV⟩ : ∃ IV, IV = (bytesV P64).toArray := ⟨_, rfl⟩
        have HII := Lib.hid (show (Try.prog.info? 25).map (·.size) = some IV.size by rw [hIV]; exact id_size hPl)
        have HON := Lib.hid (show IV.all (·.oneCell') = true by rw [hIV]; exact id_one _)
        have HSI := Lib.hid (show IV.size = 32 by rw [hIV]; simp [bytesV, hPl])
        rw [← hIV] at HI2
        have HIV := Lib.hid hIV
        clear hIV hqe hlt
        go_upto_region 14 with fail
        go_wp2_with (first | (refine wpList_load_row rfl _ _ rfl (W0.heap.size + 1) rfl 25 IV (0, 0) _ HI2.out Try.underlying25 rfl HII.out ?_) | (refine wpList_store_row rfl _ _ _ rfl W0.heap.size IV rfl rfl 25 _ HR.out HII.out (by rw [HSI.out]; rfl) HON.out ?_))
        refine bodyPost_ret (results_row_tmp rfl _ _ W0.heap.size 25 IV (0, 0) _ rfl (setRow_heap _ W0.heap.size _ _ _ _ HR.out) Try.underlying25 rfl HII.out) rfl ⟨?_, below_setRow HB.out (Nat.le_refl _) _⟩
        rw [hOK.out, HIV.out]
        rfl
  · have h64' : ¬ (b.length : Int) = 64 := by omega
    have HSH := Lib.hid (parR_short h64)
    go_enter Try.func12, Try.ntmps12
    go_upto_region 3 with fail
    go_wp2_with (refine wpList_store_row rfl _ _ _ rfl W0.heap.size zID rfl rfl 25 _ HR0.out (id_size (by simp)) rfl (id_one _) ?_)
    refine bodyPost_ret (results_row_tmp rfl _ _ W0.heap.size 25 zID (0, 0) _ rfl (setRow_heap _ W0.heap.size _ _ _ _ HR0.out) Try.underlying25 rfl (id_size (by simp))) rfl ⟨?_, below_setRow HB0.out (Nat.le_refl _) _⟩
    rw [HSH.out]
    rfl
end Go.Proofs.Ytknbbekinpamjaa
