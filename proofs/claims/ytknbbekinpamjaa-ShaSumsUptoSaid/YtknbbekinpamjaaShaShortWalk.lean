/- sha.Short: the walk. -/
import Derived.Test.YtknbbekinpamjaaShaShort
set_option linter.unusedVariables false
namespace Go.Proofs.Ytknbbekinpamjaa
open Go.RowKit
attribute [local go_sem ↓] neqId_eq

abbrev idsR : Rd (List (List UInt8)) → Prop := fun _ => True
theorem ids_look {w : World} {A : Option Addr} {os : List (List UInt8)} {n i : Nat} (h : SlOf (arrR 32 byteR) w no A os) (hl : os.length = n) (hi : i < n) :
    ∃ b off o, A = some ⟨b, off, none⟩ ∧ b < w.heap.size ∧ os[i]? = some o ∧ o.length = 32 ∧ At w ⟨b, off + i * 32, none⟩ (bytesV o).toArray := by
  obtain ⟨b, off, cs, o, e, hb, hx, ⟨h32, hr⟩, hc⟩ := h.at hl hi
  obtain rfl := each_bytes hr
  exact ⟨b, off, o, e, hb, hx, h32, hc⟩
theorem str_take {X : List UInt8} {n : Nat} : (⟨X.toArray⟩ : ByteArray).extract 0 n = ⟨(X.take n).toArray⟩ := cut_take X n

set_option maxRecDepth 100000 in
set_option maxHeartbeats 4000000 in
theorem short_any (l : List UInt8) (h32 : l.length = 32) (A : Option Addr) (n c : Nat) (os : List (List UInt8)) (W0 : World) (hs : SlOf (arrR 32 byteR) W0 no A os) (hn : os.length = n) (hc : n ≤ c) (hcm : c ≤ maxLen) :
    Calls Try.prog 16 #[.agg (bytesV l).toArray, .slice A n c] W0 fun e w' => e = .returned (.string ⟨((hexS l).take (shortN l os)).toArray⟩) ∧ Below W0.heap.size W0 w' := by
  have hx := hexS_length l
  rw [h32] at hx
  have HX := Lib.hid hx
  have H32 := Lib.hid h32
  unfold maxLen at hcm
  have HS := Lib.hid hs
  have HN := Lib.hid hn
  clear hx h32 hs hn
  obtain ⟨IV, hIV⟩ : ∃ IV, IV = (bytesV l).toArray := ⟨_, rfl⟩
  rw [← hIV]
  have HIV := Lib.hid hIV
  clear hIV
  have HI := Lib.hid (show (Try.prog.info? 25).map (·.size) = some IV.size by rw [HIV.out]; exact id_size H32.out)
  have HBL := Lib.hid (Blk.new W0 25 IV)
  have HB0 := Lib.hid ((Below.refl W0.heap.size W0).alloc (Nat.le_refl _) (.cells IV 25))
  go_enter Try.func16, Try.ntmps16
  go_wp2_with fail
  go_loopw [5, 12] (fun m i wr => ∃ k : Nat, k ≤ n ∧ m = .int .i64 ((shortN l (os.take k) : Nat) : Int) ∧ i = .int .i64 (k : Int) ∧ Hid (Blk wr W0.heap.size 25 IV) ∧ Hid (Below W0.heap.size W0 wr)) (fun _ i _ => n - (intOf i).toNat)
  case atStart => exact ⟨0, by omega, rfl, rfl, HBL, HB0⟩
  case round =>
    obtain ⟨k, hk, rfl, rfl, HB, HL⟩ := hrel
    have HOS := Lib.hid (HS.out.below HL.out)
    have hsl := short_le H32.out (os := os) (fun o ho => by
      obtain ⟨j, hj⟩ := List.mem_iff_getElem?.1 ho
      have hjl := (List.getElem?_eq_some_iff.1 hj).1
      obtain ⟨_, _, o', _, _, h1, h2, _⟩ := ids_look HS.out HN.out (i := j) (by rw [← HN.out]; exact hjl)
      rw [hj] at h1; injection h1 with h1; rw [h1]; exact h2) k
    by_cases hlt : k < n
    · have hlt' : (k : Int) < (n : Int) := by omega
      obtain ⟨b, off, o, rfl, hbl, hox, ho32, hat⟩ := ids_look HOS.out HN.out hlt
      have HSN := Lib.hid (short_snoc l hox)
      have HO32 := Lib.hid ho32
      have HAT := Lib.hid hat
      clear hat hox ho32
      obtain ⟨OV, hOV⟩ : ∃ OV, OV = (bytesV o).toArray := ⟨_, rfl⟩
      have HOV := Lib.hid hOV
      have HOI := Lib.hid (show (Try.prog.info? 25).map (·.size) = some OV.size by rw [hOV]; exact id_size HO32.out)
      have HOO := Lib.hid (show OV.all (·.oneCell') = true by rw [hOV]; exact id_one _)
      have HOZ := Lib.hid (show OV.size = 32 by rw [hOV]; simp [bytesV, HO32.out])
      clear hOV
      generalize hM : shortN l (os.take k) = m at *
      have HM := Lib.hid hM
      clear hM
      have HX0 := Lib.hid (HB.out.alloc (.cells OV 25))
      have HY0 := Lib.hid (Blk.new wr 25 OV)
      have HL0 := Lib.hid (HL.out.alloc HL.out.size (.cells OV 25))
      have hxw : W0.heap.size < (wr.alloc (.cells OV 25)).heap.size := by have := HL.out.size; simp; omega
      have hyw : wr.heap.size < (wr.alloc (.cells OV 25)).heap.size := by simp
      go_upto_region 5 with (first | (refine wpList_load_at rfl _ _ rfl b (off + k * 32) rfl OV _ (by rw [HOV.out]; exact HAT.out) Try.underlying25 rfl HOI.out ?_) | (refine wpList_store_row rfl _ _ _ rfl wr.heap.size OV rfl rfl 25 _ (heap_alloc_new wr _) HOI.out (by rw [HOZ.out]; rfl) HOO.out ?_))
      rw [World.setRow_alloc_new]
      go_frame
      change Code.wp _ _ _ _ (wr.alloc (.cells OV 25))
      generalize hG : wr.heap.size = GO at *
      generalize wr.alloc (.cells OV 25) = w5 at *
      clear HB HL HOS HAT hbl hG
      have HXL := Lib.hid (show (hexS l).length = 64 from HX.out)
      have HYL := Lib.hid (show (hexS o).length = 64 by rw [hexS_length, HO32.out])
      have HHX : Hid (∀ w : World, Calls Try.prog 14 #[.agg IV] w fun e w' => e = .returned (.string ⟨(hexS l).toArray⟩) ∧ Below w.heap.size w w') := Lib.hid (fun w => by rw [HIV.out]; exact hex_any l H32.out w)
      have HHY : Hid (∀ w : World, Calls Try.prog 14 #[.agg OV] w fun e w' => e = .returned (.string ⟨(hexS o).toArray⟩) ∧ Below w.heap.size w w') := Lib.hid (fun w => by rw [HOV.out]; exact hex_any o HO32.out w)
      have HNE : Hid (∀ w : World, neqId w OV IV = .ok (.bool (!(o == l))) w) := Lib.hid (fun w => by rw [HOV.out, HIV.out]; exact neqId_of HO32.out H32.out w)
      have HCP := Lib.hid (fun q (hq : q ≤ 64) => cpl_take (hexS l) (hexS o) q (by rw [HXL.out]; exact hq) (by rw [HXL.out, HYL.out]))
      have hcl : o ≠ l → cpl (hexS l) (hexS o) < 64 := fun hne => by
        have := cpl_lt (X := hexS l) (Y := hexS o) (by rw [HXL.out, HYL.out]) (fun e => hne (hexS_inj H32.out HO32.out e).symm)
        rwa [HXL.out] at this
      have HST := Lib.hid (show shortStep l m o = if o = l then m else max m (cpl (hexS l) (hexS o) + 1) from rfl)
      generalize hX : hexS l = X at *
      generalize hY : hexS o = Y at *
      have HXX := Lib.hid hX
      clear hX hY
      generalize hcp : cpl X Y = cp at *
      generalize hSS : shortStep l m o = ss at *
      have HSS := Lib.hid hSS
      have HHC := Lib.hid hcp
      clear hcp hSS
      go_cut [8, 9] (fun s8 s9 wx => s8 = .string ⟨X.toArray⟩ ∧ s9 = .string ⟨Y.toArray⟩ ∧ Hid (Below w5.heap.size w5 wx))
      case first =>
        refine wp_region_held (S := fun W => Below w5.heap.size w5 W) (by kernel_rfl) ?_
        change wpAnyH _ _ _ _ _ _ _ _ (World.drew _)
        refine held_take (i := 0) (v := ?_) (a' := ?_) rfl (by kernel_rfl) (by kernel_rfl) (by kernel_rfl) (fun _ _ _ h => h) (by rfl) (Same.below ⟨1, rfl⟩ _) ?_ ?_ ?_
        rotate_left 2
        · (intro w hS; refine exec_load_at 25 (.tmp 2) ?_ W0.heap.size 0 ?_ IV _ ((At.of_row HX0.out).below hS hxw) Try.underlying25 rfl HI.out; exact rfl; exact rfl)
        · (go_simp; try with_reducible rfl)
        refine held_take (i := 2) (v := ?_) (a' := ?_) rfl (by kernel_rfl) (by kernel_rfl) (by kernel_rfl) (fun _ _ _ h => h) (by rfl) (Same.below ⟨1, rfl⟩ _) ?_ ?_ ?_
        rotate_left 2
        · (intro w hS; refine exec_load_at 25 (.tmp 7) ?_ GO 0 ?_ OV _ ((At.of_row HY0.out).below hS hyw) Try.underlying25 rfl HOI.out; exact rfl; exact rfl)
        · (go_simp; try with_reducible rfl)
        refine held_ready (rs := [1]) (by kernel_rfl) (by simp) ?_
        refine AllHeld.cons rfl (fun KR hKR => ?_) ?_
        · go_simp
          refine (HHX.out _).mono ?_
          rintro e w' ⟨rfl, hb'⟩
          first | have HB2 := (Same.below (w := w5) ⟨1, rfl⟩ w5.heap.size).trans (hb'.mono (by simp)) | have HB2 := HB3.trans (hb'.mono HB3.size)
          refine hKR _ _ HB2 ?_
          clear hKR KR
          refine held_ready (rs := [3]) (by kernel_rfl) (by simp) ?_
          refine AllHeld.cons rfl (fun KR hKR => ?_) ?_
          · go_simp
            refine (HHY.out _).mono ?_
            rintro e w' ⟨rfl, hb'⟩
            first | have HB3 := HB2.trans (hb'.mono HB2.size) | have HB3 := (Same.below (w := w5) ⟨1, rfl⟩ w5.heap.size).trans (hb'.mono (by simp))
            refine hKR _ _ HB3 ?_
            clear hKR KR
            refine held_take (i := 4) (v := ?_) (a' := ?_) rfl (by kernel_rfl) (by kernel_rfl) (by kernel_rfl) (fun _ _ _ h => h) (by rfl) HB3 ?_ ?_ ?_
            rotate_left 2
            · (intro w hS; go_simp; try with_reducible rfl)
            · (go_simp; try with_reducible rfl)
            refine held_take (i := 5) (v := ?_) (a' := ?_) rfl (by kernel_rfl) (by kernel_rfl) (by kernel_rfl) (fun _ _ _ h => h) (by rfl) HB3 ?_ ?_ ?_
            rotate_left 2
            · (intro w hS; go_simp; try with_reducible rfl)
            · (go_simp; try with_reducible rfl)
            refine wpAnyH_done (by kernel_rfl) ?_ _
            go_wp2_with fail
            go_meet
            case rel => first | exact ⟨rfl, rfl, Lib.hid HB3⟩ | exact ⟨rfl, rfl, Lib.hid HB2⟩
          exact AllHeld.nil
        exact AllHeld.nil
      case rest =>
        obtain ⟨rfl, rfl, HBX⟩ := hcut
        have HX1 := Lib.hid ((HX0.out).below HBX.out hxw)
        have HY1 := Lib.hid ((HY0.out).below HBX.out hyw)
        have HL1 := Lib.hid (HL0.out.trans (HBX.out.mono HL0.out.size))
        have HWR := Lib.hid (show m ≤ ss by rw [HST.out]; split <;> omega)
        clear HX0 HY0 HL0 HHX HHY
        go_wp2_with fail
        go_loopw [5] (fun mq wi => ∃ q : Nat, m ≤ q ∧ q ≤ ss ∧ mq = .int .i64 (q : Int) ∧ Hid (Same wc wi)) (fun mq _ => 64 - (intOf mq).toNat)
        case atStart => exact ⟨m, Nat.le_refl _, HWR.out, rfl, Lib.hid (Same.refl _)⟩
        case round =>
          obtain ⟨q, hq1, hq2, rfl, HSM⟩ := hrel
          have HX2 := Lib.hid (HX1.out.same HSM.out)
          have HY2 := Lib.hid (HY1.out.same HSM.out)
          by_cases hol : o = l
          · have hne : ∀ w : World, neqId w OV IV = .ok (.bool false) w := fun w => by rw [HNE.out, hol, beq_self_eq_true]; rfl
            have hqs : q = ss := by have := HST.out; rw [if_pos hol] at this; omega
            have HQS := Lib.hid hqs
            have HOL := Lib.hid hol
            clear hol hqs
            go_wp2_with fail
            refine wp_region_held (S := fun W => Same wr W) (by kernel_rfl) ?_
            change wpAnyH _ _ _ _ _ _ _ _ (World.drew _)
            refine held_take (i := 0) (v := ?_) (a' := ?_) rfl (by kernel_rfl) (by kernel_rfl) (by kernel_rfl) (fun _ _ _ h => h) (by rfl) ⟨1, rfl⟩ ?_ ?_ ?_
            rotate_left 2
            · (intro w hS; refine exec_load_at 25 (.tmp 7) ?_ GO 0 ?_ OV _ (At.of_row (HY2.out.same hS)) Try.underlying25 rfl HOI.out; exact rfl; exact rfl)
            · (go_simp; try with_reducible rfl)
            refine held_take (i := 1) (v := ?_) (a' := ?_) rfl (by kernel_rfl) (by kernel_rfl) (by kernel_rfl) (fun _ _ _ h => h) (by rfl) ⟨1, rfl⟩ ?_ ?_ ?_
            rotate_left 2
            · (intro w hS; refine exec_load_at 25 (.tmp 2) ?_ W0.heap.size 0 ?_ IV _ (At.of_row (HX2.out.same hS)) Try.underlying25 rfl HI.out; exact rfl; exact rfl)
            · (go_simp; try with_reducible rfl)
            refine held_take (i := 2) (v := ?_) (a' := ?_) rfl (by kernel_rfl) (by kernel_rfl) (by kernel_rfl) (fun _ _ _ h => h) (by rfl) ⟨1, rfl⟩ ?_ ?_ ?_
            rotate_left 2
            · (intro w hS; go_simp; try with_reducible rfl)
            · (go_simp; try with_reducible rfl)
            refine held_take (i := 3) (v := ?_) (a' := ?_) rfl (by kernel_rfl) (by kernel_rfl) (by kernel_rfl) (fun _ _ _ h => h) (by rfl) ⟨1, rfl⟩ ?_ ?_ ?_
            rotate_left 2
            · (intro w hS; go_simp; try with_reducible rfl)
            · (go_simp; try with_reducible rfl)
            refine held_no (i := 4) (a' := ?_) rfl (by kernel_rfl) (by kernel_rfl) (by kernel_rfl) (fun _ _ _ h => h) (by rfl) ⟨1, rfl⟩ ?_ ?_
            rotate_left 1
            · (go_simp; try with_reducible rfl)
            refine held_no (i := 5) (a' := ?_) rfl (by kernel_rfl) (by kernel_rfl) (by kernel_rfl) (fun _ _ _ h => h) (by rfl) ⟨1, rfl⟩ ?_ ?_
            rotate_left 1
            · (go_simp; try with_reducible rfl)
            refine held_no (i := 6) (a' := ?_) rfl (by kernel_rfl) (by kernel_rfl) (by kernel_rfl) (fun _ _ _ h => h) (by rfl) ⟨1, rfl⟩ ?_ ?_
            rotate_left 1
            · (go_simp; try with_reducible rfl)
            refine held_no (i := 7) (a' := ?_) rfl (by kernel_rfl) (by kernel_rfl) (by kernel_rfl) (fun _ _ _ h => h) (by rfl) ⟨1, rfl⟩ ?_ ?_
            rotate_left 1
            · (go_simp; try with_reducible rfl)
            refine held_take (i := 8) (v := ?_) (a' := ?_) rfl (by kernel_rfl) (by kernel_rfl) (by kernel_rfl) (fun _ _ _ h => h) (by rfl) ⟨1, rfl⟩ ?_ ?_ ?_
            rotate_left 2
            · (intro w hS; go_simp; try with_reducible rfl)
            · (go_simp; try with_reducible rfl)
            refine held_take (i := 9) (v := ?_) (a' := ?_) rfl (by kernel_rfl) (by kernel_rfl) (by kernel_rfl) (fun _ _ _ h => h) (by rfl) ⟨1, rfl⟩ ?_ ?_ ?_
            rotate_left 2
            · (intro w hS; go_simp; try with_reducible rfl)
            · (go_simp; try with_reducible rfl)
            refine held_no (i := 10) (a' := ?_) rfl (by kernel_rfl) (by kernel_rfl) (by kernel_rfl) (fun _ _ _ h => h) (by rfl) ⟨1, rfl⟩ ?_ ?_
            rotate_left 1
            · (go_simp; try with_reducible rfl)
            refine held_no (i := 11) (a' := ?_) rfl (by kernel_rfl) (by kernel_rfl) (by kernel_rfl) (fun _ _ _ h => h) (by rfl) ⟨1, rfl⟩ ?_ ?_
            rotate_left 1
            · (go_simp; try with_reducible rfl)
            refine held_no (i := 12) (a' := ?_) rfl (by kernel_rfl) (by kernel_rfl) (by kernel_rfl) (fun _ _ _ h => h) (by rfl) ⟨1, rfl⟩ ?_ ?_
            rotate_left 1
            · (go_simp; try with_reducible rfl)
            refine held_no (i := 13) (a' := ?_) rfl (by kernel_rfl) (by kernel_rfl) (by kernel_rfl) (fun _ _ _ h => h) (by rfl) ⟨1, rfl⟩ ?_ ?_
            rotate_left 1
            · (go_simp; try with_reducible rfl)
            refine held_no (i := 14) (a' := ?_) rfl (by kernel_rfl) (by kernel_rfl) (by kernel_rfl) (fun _ _ _ h => h) (by rfl) ⟨1, rfl⟩ ?_ ?_
            rotate_left 1
            · (go_simp; try with_reducible rfl)
            refine held_no (i := 15) (a' := ?_) rfl (by kernel_rfl) (by kernel_rfl) (by kernel_rfl) (fun _ _ _ h => h) (by rfl) ⟨1, rfl⟩ ?_ ?_
            rotate_left 1
            · (go_simp; try with_reducible rfl)
            refine held_no (i := 16) (a' := ?_) rfl (by kernel_rfl) (by kernel_rfl) (by kernel_rfl) (fun _ _ _ h => h) (by rfl) ⟨1, rfl⟩ ?_ ?_
            rotate_left 1
            · (go_simp; try with_reducible rfl)
            refine held_take (i := 17) (v := ?_) (a' := ?_) rfl (by kernel_rfl) (by kernel_rfl) (by kernel_rfl) (fun _ _ _ h => h) (by rfl) ⟨1, rfl⟩ ?_ ?_ ?_
            rotate_left 2
            · (intro w hS; go_simp; try with_reducible rfl)
            · (go_simp; try with_reducible rfl)
            refine wpAnyH_done (by kernel_rfl) ?_ _
            go_wp2_with fail
            go_roundw
            case rel =>
              exact ⟨k + 1, by omega, by rw [HSN.out, HQS.out], by go_num, Lib.hid (HX2.out.same ⟨1, rfl⟩), Lib.hid (HL1.out.trans ((HSM.out.drew).below _))⟩
            case measure => simp [intOf]; omega
          · have hne : ∀ w : World, neqId w OV IV = .ok (.bool true) w := fun w => by rw [HNE.out, show (o == l) = false by simpa using hol]; rfl
            have hcp := hcl hol
            have hss : ss = max m (cp + 1) := by rw [HST.out, if_neg hol]
            have hex1 := cut_take X q
            have hex2 := cut_take Y q
            have HOL := Lib.hid hol
            by_cases hqs : q < ss
            · have hq64 : q < 64 := by omega
              have hqx : (q : Int) < 64 := by omega
              have htk : X.take q = Y.take q := (HCP.out q (by omega)).2 (by omega)
              have hql : (q : Int) < (X.length : Int) := by have := HXL.out; omega
              have hql2 : q < X.length := by have := HXL.out; omega
              have hql3 : (q : Int) ≤ (X.length : Int) := by have := HXL.out; omega
              have hql4 : (q : Int) ≤ (Y.length : Int) := by have := HYL.out; omega
              have h0q : (0 : Int) ≤ (q : Int) := by omega
              have hq1w : IntKind.i64.wrap ((q : Int) + 1) = (q : Int) + 1 := IntWalk.i64_in _ (by omega)
              clear hss hcp
              go_wp2_with fail
              refine wp_region_held (S := fun W => Same wr W) (by kernel_rfl) ?_
              change wpAnyH _ _ _ _ _ _ _ _ (World.drew _)
              refine held_take (i := 0) (v := ?_) (a' := ?_) rfl (by kernel_rfl) (by kernel_rfl) (by kernel_rfl) (fun _ _ _ h => h) (by rfl) ⟨1, rfl⟩ ?_ ?_ ?_
              rotate_left 2
              · (intro w hS; refine exec_load_at 25 (.tmp 7) ?_ GO 0 ?_ OV _ (At.of_row (HY2.out.same hS)) Try.underlying25 rfl HOI.out; exact rfl; exact rfl)
              · (go_simp; try with_reducible rfl)
              refine held_take (i := 1) (v := ?_) (a' := ?_) rfl (by kernel_rfl) (by kernel_rfl) (by kernel_rfl) (fun _ _ _ h => h) (by rfl) ⟨1, rfl⟩ ?_ ?_ ?_
              rotate_left 2
              · (intro w hS; refine exec_load_at 25 (.tmp 2) ?_ W0.heap.size 0 ?_ IV _ (At.of_row (HX2.out.same hS)) Try.underlying25 rfl HI.out; exact rfl; exact rfl)
              · (go_simp; try with_reducible rfl)
              refine held_take (i := 2) (v := ?_) (a' := ?_) rfl (by kernel_rfl) (by kernel_rfl) (by kernel_rfl) (fun _ _ _ h => h) (by rfl) ⟨1, rfl⟩ ?_ ?_ ?_
              rotate_left 2
              · (intro w hS; go_simp; try with_reducible rfl)
              · (go_simp; try with_reducible rfl)
              refine held_take (i := 3) (v := ?_) (a' := ?_) rfl (by kernel_rfl) (by kernel_rfl) (by kernel_rfl) (fun _ _ _ h => h) (by rfl) ⟨1, rfl⟩ ?_ ?_ ?_
              rotate_left 2
              · (intro w hS; go_simp; try with_reducible rfl)
              · (go_simp; try with_reducible rfl)
              refine held_take (i := 4) (v := ?_) (a' := ?_) rfl (by kernel_rfl) (by kernel_rfl) (by kernel_rfl) (fun _ _ _ h => h) (by rfl) ⟨1, rfl⟩ ?_ ?_ ?_
              rotate_left 2
              · (intro w hS; go_simp; try with_reducible rfl)
              · (go_simp; try with_reducible rfl)
              refine held_take (i := 5) (v := ?_) (a' := ?_) rfl (by kernel_rfl) (by kernel_rfl) (by kernel_rfl) (fun _ _ _ h => h) (by rfl) ⟨1, rfl⟩ ?_ ?_ ?_
              rotate_left 2
              · (intro w hS; go_simp; try with_reducible rfl)
              · (go_simp; try with_reducible rfl)
              refine held_take (i := 6) (v := ?_) (a' := ?_) rfl (by kernel_rfl) (by kernel_rfl) (by kernel_rfl) (fun _ _ _ h => h) (by rfl) ⟨1, rfl⟩ ?_ ?_ ?_
              rotate_left 2
              · (intro w hS; go_simp; try with_reducible rfl)
              · (go_simp; try with_reducible rfl)
              refine held_take (i := 7) (v := ?_) (a' := ?_) rfl (by kernel_rfl) (by kernel_rfl) (by kernel_rfl) (fun _ _ _ h => h) (by rfl) ⟨1, rfl⟩ ?_ ?_ ?_
              rotate_left 2
              · (intro w hS; go_simp; try with_reducible rfl)
              · (go_simp; try with_reducible rfl)
              refine held_take (i := 8) (v := ?_) (a' := ?_) rfl (by kernel_rfl) (by kernel_rfl) (by kernel_rfl) (fun _ _ _ h => h) (by rfl) ⟨1, rfl⟩ ?_ ?_ ?_
              rotate_left 2
              · (intro w hS; go_simp; try with_reducible rfl)
              · (go_simp; try with_reducible rfl)
              refine held_take (i := 9) (v := ?_) (a' := ?_) rfl (by kernel_rfl) (by kernel_rfl) (by kernel_rfl) (fun _ _ _ h => h) (by rfl) ⟨1, rfl⟩ ?_ ?_ ?_
              rotate_left 2
              · (intro w hS; go_simp; try with_reducible rfl)
              · (go_simp; try with_reducible rfl)
              refine held_take (i := 10) (v := ?_) (a' := ?_) rfl (by kernel_rfl) (by kernel_rfl) (by kernel_rfl) (fun _ _ _ h => h) (by rfl) ⟨1, rfl⟩ ?_ ?_ ?_
              rotate_left 2
              · (intro w hS; go_simp; try with_reducible rfl)
              · (go_simp; try with_reducible rfl)
              refine held_take (i := 11) (v := ?_) (a' := ?_) rfl (by kernel_rfl) (by kernel_rfl) (by kernel_rfl) (fun _ _ _ h => h) (by rfl) ⟨1, rfl⟩ ?_ ?_ ?_
              rotate_left 2
              · (intro w hS; go_simp; try with_reducible rfl)
              · (go_simp; try with_reducible rfl)
              refine held_take (i := 12) (v := ?_) (a' := ?_) rfl (by kernel_rfl) (by kernel_rfl) (by kernel_rfl) (fun _ _ _ h => h) (by rfl) ⟨1, rfl⟩ ?_ ?_ ?_
              rotate_left 2
              · (intro w hS; go_simp; try with_reducible rfl)
              · (go_simp; try with_reducible rfl)
              refine held_take (i := 13) (v := ?_) (a' := ?_) rfl (by kernel_rfl) (by kernel_rfl) (by kernel_rfl) (fun _ _ _ h => h) (by rfl) ⟨1, rfl⟩ ?_ ?_ ?_
              rotate_left 2
              · (intro w hS; go_simp; try with_reducible rfl)
              · (go_simp; try with_reducible rfl)
              refine held_take (i := 14) (v := ?_) (a' := ?_) rfl (by kernel_rfl) (by kernel_rfl) (by kernel_rfl) (fun _ _ _ h => h) (by rfl) ⟨1, rfl⟩ ?_ ?_ ?_
              rotate_left 2
              · (intro w hS; go_simp; try with_reducible rfl)
              · (go_simp; try with_reducible rfl)
              refine held_take (i := 15) (v := ?_) (a' := ?_) rfl (by kernel_rfl) (by kernel_rfl) (by kernel_rfl) (fun _ _ _ h => h) (by rfl) ⟨1, rfl⟩ ?_ ?_ ?_
              rotate_left 2
              · (intro w hS; go_simp; try with_reducible rfl)
              · (go_simp; try with_reducible rfl)
              refine held_take (i := 16) (v := ?_) (a' := ?_) rfl (by kernel_rfl) (by kernel_rfl) (by kernel_rfl) (fun _ _ _ h => h) (by rfl) ⟨1, rfl⟩ ?_ ?_ ?_
              rotate_left 2
              · (intro w hS; go_simp; try with_reducible rfl)
              · (go_simp; try with_reducible rfl)
              refine held_take (i := 17) (v := ?_) (a' := ?_) rfl (by kernel_rfl) (by kernel_rfl) (by kernel_rfl) (fun _ _ _ h => h) (by rfl) ⟨1, rfl⟩ ?_ ?_ ?_
              rotate_left 2
              · (intro w hS; go_simp; try with_reducible rfl)
              · (go_simp; try with_reducible rfl)
              refine wpAnyH_done (by kernel_rfl) ?_ _
              go_wp2_with fail
              go_roundw
              case rel => exact ⟨q + 1, by omega, by omega, by go_num, Lib.hid HSM.out.drew⟩
              case measure => simp [intOf]; omega
            · have hqe : q = ss := by omega
              have HQS := Lib.hid hqe
              have h0q : (0 : Int) ≤ (q : Int) := by omega
              have hq64' : q ≤ 64 := by omega
              by_cases hq64 : q < 64
              · have htk : ¬ X.take q = Y.take q := fun h => by have := (HCP.out q (by omega)).1 h; omega
                have htk2 : (X.take q == Y.take q) = false := by simpa using htk
                clear htk
                have hql : (q : Int) < (X.length : Int) := by have := HXL.out; omega
                have hql2 : q < X.length := by have := HXL.out; omega
                have hql3 : (q : Int) ≤ (X.length : Int) := by have := HXL.out; omega
                have hql4 : (q : Int) ≤ (Y.length : Int) := by have := HYL.out; omega
                clear hqe hqs hss hcp
                go_wp2_with fail
                refine wp_region_held (S := fun W => Same wr W) (by kernel_rfl) ?_
                change wpAnyH _ _ _ _ _ _ _ _ (World.drew _)
                refine held_take (i := 0) (v := ?_) (a' := ?_) rfl (by kernel_rfl) (by kernel_rfl) (by kernel_rfl) (fun _ _ _ h => h) (by rfl) ⟨1, rfl⟩ ?_ ?_ ?_
                rotate_left 2
                · (intro w hS; refine exec_load_at 25 (.tmp 7) ?_ GO 0 ?_ OV _ (At.of_row (HY2.out.same hS)) Try.underlying25 rfl HOI.out; exact rfl; exact rfl)
                · (go_simp; try with_reducible rfl)
                refine held_take (i := 1) (v := ?_) (a' := ?_) rfl (by kernel_rfl) (by kernel_rfl) (by kernel_rfl) (fun _ _ _ h => h) (by rfl) ⟨1, rfl⟩ ?_ ?_ ?_
                rotate_left 2
                · (intro w hS; refine exec_load_at 25 (.tmp 2) ?_ W0.heap.size 0 ?_ IV _ (At.of_row (HX2.out.same hS)) Try.underlying25 rfl HI.out; exact rfl; exact rfl)
                · (go_simp; try with_reducible rfl)
                refine held_take (i := 2) (v := ?_) (a' := ?_) rfl (by kernel_rfl) (by kernel_rfl) (by kernel_rfl) (fun _ _ _ h => h) (by rfl) ⟨1, rfl⟩ ?_ ?_ ?_
                rotate_left 2
                · (intro w hS; go_simp; try with_reducible rfl)
                · (go_simp; try with_reducible rfl)
                refine held_take (i := 3) (v := ?_) (a' := ?_) rfl (by kernel_rfl) (by kernel_rfl) (by kernel_rfl) (fun _ _ _ h => h) (by rfl) ⟨1, rfl⟩ ?_ ?_ ?_
                rotate_left 2
                · (intro w hS; go_simp; try with_reducible rfl)
                · (go_simp; try with_reducible rfl)
                refine held_take (i := 4) (v := ?_) (a' := ?_) rfl (by kernel_rfl) (by kernel_rfl) (by kernel_rfl) (fun _ _ _ h => h) (by rfl) ⟨1, rfl⟩ ?_ ?_ ?_
                rotate_left 2
                · (intro w hS; go_simp; try with_reducible rfl)
                · (go_simp; try with_reducible rfl)
                refine held_take (i := 5) (v := ?_) (a' := ?_) rfl (by kernel_rfl) (by kernel_rfl) (by kernel_rfl) (fun _ _ _ h => h) (by rfl) ⟨1, rfl⟩ ?_ ?_ ?_
                rotate_left 2
                · (intro w hS; go_simp; try with_reducible rfl)
                · (go_simp; try with_reducible rfl)
                refine held_take (i := 6) (v := ?_) (a' := ?_) rfl (by kernel_rfl) (by kernel_rfl) (by kernel_rfl) (fun _ _ _ h => h) (by rfl) ⟨1, rfl⟩ ?_ ?_ ?_
                rotate_left 2
                · (intro w hS; go_simp; try with_reducible rfl)
                · (go_simp; try with_reducible rfl)
                refine held_take (i := 7) (v := ?_) (a' := ?_) rfl (by kernel_rfl) (by kernel_rfl) (by kernel_rfl) (fun _ _ _ h => h) (by rfl) ⟨1, rfl⟩ ?_ ?_ ?_
                rotate_left 2
                · (intro w hS; go_simp; try with_reducible rfl)
                · (go_simp; try with_reducible rfl)
                refine held_take (i := 8) (v := ?_) (a' := ?_) rfl (by kernel_rfl) (by kernel_rfl) (by kernel_rfl) (fun _ _ _ h => h) (by rfl) ⟨1, rfl⟩ ?_ ?_ ?_
                rotate_left 2
                · (intro w hS; go_simp; try with_reducible rfl)
                · (go_simp; try with_reducible rfl)
                refine held_take (i := 9) (v := ?_) (a' := ?_) rfl (by kernel_rfl) (by kernel_rfl) (by kernel_rfl) (fun _ _ _ h => h) (by rfl) ⟨1, rfl⟩ ?_ ?_ ?_
                rotate_left 2
                · (intro w hS; go_simp; try with_reducible rfl)
                · (go_simp; try with_reducible rfl)
                refine held_take (i := 10) (v := ?_) (a' := ?_) rfl (by kernel_rfl) (by kernel_rfl) (by kernel_rfl) (fun _ _ _ h => h) (by rfl) ⟨1, rfl⟩ ?_ ?_ ?_
                rotate_left 2
                · (intro w hS; go_simp; try with_reducible rfl)
                · (go_simp; try with_reducible rfl)
                refine held_take (i := 11) (v := ?_) (a' := ?_) rfl (by kernel_rfl) (by kernel_rfl) (by kernel_rfl) (fun _ _ _ h => h) (by rfl) ⟨1, rfl⟩ ?_ ?_ ?_
                rotate_left 2
                · (intro w hS; go_simp; try with_reducible rfl)
                · (go_simp; try with_reducible rfl)
                refine held_take (i := 12) (v := ?_) (a' := ?_) rfl (by kernel_rfl) (by kernel_rfl) (by kernel_rfl) (fun _ _ _ h => h) (by rfl) ⟨1, rfl⟩ ?_ ?_ ?_
                rotate_left 2
                · (intro w hS; go_simp; try with_reducible rfl)
                · (go_simp; try with_reducible rfl)
                refine held_take (i := 13) (v := ?_) (a' := ?_) rfl (by kernel_rfl) (by kernel_rfl) (by kernel_rfl) (fun _ _ _ h => h) (by rfl) ⟨1, rfl⟩ ?_ ?_ ?_
                rotate_left 2
                · (intro w hS; go_simp; try with_reducible rfl)
                · (go_simp; try with_reducible rfl)
                refine held_take (i := 14) (v := ?_) (a' := ?_) rfl (by kernel_rfl) (by kernel_rfl) (by kernel_rfl) (fun _ _ _ h => h) (by rfl) ⟨1, rfl⟩ ?_ ?_ ?_
                rotate_left 2
                · (intro w hS; go_simp; try with_reducible rfl)
                · (go_simp; try with_reducible rfl)
                refine held_take (i := 15) (v := ?_) (a' := ?_) rfl (by kernel_rfl) (by kernel_rfl) (by kernel_rfl) (fun _ _ _ h => h) (by rfl) ⟨1, rfl⟩ ?_ ?_ ?_
                rotate_left 2
                · (intro w hS; go_simp; try with_reducible rfl)
                · (go_simp; try with_reducible rfl)
                refine held_take (i := 16) (v := ?_) (a' := ?_) rfl (by kernel_rfl) (by kernel_rfl) (by kernel_rfl) (fun _ _ _ h => h) (by rfl) ⟨1, rfl⟩ ?_ ?_ ?_
                rotate_left 2
                · (intro w hS; go_simp; try with_reducible rfl)
                · (go_simp; try with_reducible rfl)
                refine held_take (i := 17) (v := ?_) (a' := ?_) rfl (by kernel_rfl) (by kernel_rfl) (by kernel_rfl) (fun _ _ _ h => h) (by rfl) ⟨1, rfl⟩ ?_ ?_ ?_
                rotate_left 2
                · (intro w hS; go_simp; try with_reducible rfl)
                · (go_simp; try with_reducible rfl)
                refine wpAnyH_done (by kernel_rfl) ?_ _
                go_wp2_with fail
                go_roundw
                case rel =>
                  exact ⟨k + 1, by omega, by rw [HSN.out, HQS.out], by go_num, Lib.hid (HX2.out.same ⟨1, rfl⟩), Lib.hid (HL1.out.trans ((HSM.out.drew).below _))⟩
                case measure => simp [intOf]; omega
              · have hql : ¬ (q : Int) < (X.length : Int) := by have := HXL.out; omega
                have hql2 : ¬ q < X.length := by have := HXL.out; omega
                clear hqe hqs hss hcp
                go_wp2_with fail
                refine wp_region_held (S := fun W => Same wr W) (by kernel_rfl) ?_
                change wpAnyH _ _ _ _ _ _ _ _ (World.drew _)
                refine held_take (i := 0) (v := ?_) (a' := ?_) rfl (by kernel_rfl) (by kernel_rfl) (by kernel_rfl) (fun _ _ _ h => h) (by rfl) ⟨1, rfl⟩ ?_ ?_ ?_
                rotate_left 2
                · (intro w hS; refine exec_load_at 25 (.tmp 7) ?_ GO 0 ?_ OV _ (At.of_row (HY2.out.same hS)) Try.underlying25 rfl HOI.out; exact rfl; exact rfl)
                · (go_simp; try with_reducible rfl)
                refine held_take (i := 1) (v := ?_) (a' := ?_) rfl (by kernel_rfl) (by kernel_rfl) (by kernel_rfl) (fun _ _ _ h => h) (by rfl) ⟨1, rfl⟩ ?_ ?_ ?_
                rotate_left 2
                · (intro w hS; refine exec_load_at 25 (.tmp 2) ?_ W0.heap.size 0 ?_ IV _ (At.of_row (HX2.out.same hS)) Try.underlying25 rfl HI.out; exact rfl; exact rfl)
                · (go_simp; try with_reducible rfl)
                refine held_take (i := 2) (v := ?_) (a' := ?_) rfl (by kernel_rfl) (by kernel_rfl) (by kernel_rfl) (fun _ _ _ h => h) (by rfl) ⟨1, rfl⟩ ?_ ?_ ?_
                rotate_left 2
                · (intro w hS; go_simp; try with_reducible rfl)
                · (go_simp; try with_reducible rfl)
                refine held_take (i := 3) (v := ?_) (a' := ?_) rfl (by kernel_rfl) (by kernel_rfl) (by kernel_rfl) (fun _ _ _ h => h) (by rfl) ⟨1, rfl⟩ ?_ ?_ ?_
                rotate_left 2
                · (intro w hS; go_simp; try with_reducible rfl)
                · (go_simp; try with_reducible rfl)
                refine held_take (i := 4) (v := ?_) (a' := ?_) rfl (by kernel_rfl) (by kernel_rfl) (by kernel_rfl) (fun _ _ _ h => h) (by rfl) ⟨1, rfl⟩ ?_ ?_ ?_
                rotate_left 2
                · (intro w hS; go_simp; try with_reducible rfl)
                · (go_simp; try with_reducible rfl)
                refine held_take (i := 5) (v := ?_) (a' := ?_) rfl (by kernel_rfl) (by kernel_rfl) (by kernel_rfl) (fun _ _ _ h => h) (by rfl) ⟨1, rfl⟩ ?_ ?_ ?_
                rotate_left 2
                · (intro w hS; go_simp; try with_reducible rfl)
                · (go_simp; try with_reducible rfl)
                refine held_take (i := 6) (v := ?_) (a' := ?_) rfl (by kernel_rfl) (by kernel_rfl) (by kernel_rfl) (fun _ _ _ h => h) (by rfl) ⟨1, rfl⟩ ?_ ?_ ?_
                rotate_left 2
                · (intro w hS; go_simp; try with_reducible rfl)
                · (go_simp; try with_reducible rfl)
                refine held_take (i := 7) (v := ?_) (a' := ?_) rfl (by kernel_rfl) (by kernel_rfl) (by kernel_rfl) (fun _ _ _ h => h) (by rfl) ⟨1, rfl⟩ ?_ ?_ ?_
                rotate_left 2
                · (intro w hS; go_simp; try with_reducible rfl)
                · (go_simp; try with_reducible rfl)
                refine held_take (i := 8) (v := ?_) (a' := ?_) rfl (by kernel_rfl) (by kernel_rfl) (by kernel_rfl) (fun _ _ _ h => h) (by rfl) ⟨1, rfl⟩ ?_ ?_ ?_
                rotate_left 2
                · (intro w hS; go_simp; try with_reducible rfl)
                · (go_simp; try with_reducible rfl)
                refine held_take (i := 9) (v := ?_) (a' := ?_) rfl (by kernel_rfl) (by kernel_rfl) (by kernel_rfl) (fun _ _ _ h => h) (by rfl) ⟨1, rfl⟩ ?_ ?_ ?_
                rotate_left 2
                · (intro w hS; go_simp; try with_reducible rfl)
                · (go_simp; try with_reducible rfl)
                refine held_no (i := 10) (a' := ?_) rfl (by kernel_rfl) (by kernel_rfl) (by kernel_rfl) (fun _ _ _ h => h) (by rfl) ⟨1, rfl⟩ ?_ ?_
                rotate_left 1
                · (go_simp; try with_reducible rfl)
                refine held_no (i := 11) (a' := ?_) rfl (by kernel_rfl) (by kernel_rfl) (by kernel_rfl) (fun _ _ _ h => h) (by rfl) ⟨1, rfl⟩ ?_ ?_
                rotate_left 1
                · (go_simp; try with_reducible rfl)
                refine held_no (i := 12) (a' := ?_) rfl (by kernel_rfl) (by kernel_rfl) (by kernel_rfl) (fun _ _ _ h => h) (by rfl) ⟨1, rfl⟩ ?_ ?_
                rotate_left 1
                · (go_simp; try with_reducible rfl)
                refine held_no (i := 13) (a' := ?_) rfl (by kernel_rfl) (by kernel_rfl) (by kernel_rfl) (fun _ _ _ h => h) (by rfl) ⟨1, rfl⟩ ?_ ?_
                rotate_left 1
                · (go_simp; try with_reducible rfl)
                refine held_no (i := 14) (a' := ?_) rfl (by kernel_rfl) (by kernel_rfl) (by kernel_rfl) (fun _ _ _ h => h) (by rfl) ⟨1, rfl⟩ ?_ ?_
                rotate_left 1
                · (go_simp; try with_reducible rfl)
                refine held_no (i := 15) (a' := ?_) rfl (by kernel_rfl) (by kernel_rfl) (by kernel_rfl) (fun _ _ _ h => h) (by rfl) ⟨1, rfl⟩ ?_ ?_
                rotate_left 1
                · (go_simp; try with_reducible rfl)
                refine held_no (i := 16) (a' := ?_) rfl (by kernel_rfl) (by kernel_rfl) (by kernel_rfl) (fun _ _ _ h => h) (by rfl) ⟨1, rfl⟩ ?_ ?_
                rotate_left 1
                · (go_simp; try with_reducible rfl)
                refine held_take (i := 17) (v := ?_) (a' := ?_) rfl (by kernel_rfl) (by kernel_rfl) (by kernel_rfl) (fun _ _ _ h => h) (by rfl) ⟨1, rfl⟩ ?_ ?_ ?_
                rotate_left 2
                · (intro w hS; go_simp; try with_reducible rfl)
                · (go_simp; try with_reducible rfl)
                refine wpAnyH_done (by kernel_rfl) ?_ _
                go_wp2_with fail
                go_roundw
                case rel =>
                  exact ⟨k + 1, by omega, by rw [HSN.out, HQS.out], by go_num, Lib.hid (HX2.out.same ⟨1, rfl⟩), Lib.hid (HL1.out.trans ((HSM.out.drew).below _))⟩
                case measure => simp [intOf]; omega
    · have hke : k = n := by omega
      have hlt' : ¬ (k : Int) < (n : Int) := by omega
      have hT : os.take k = os := List.take_of_length_le (by rw [HN.out]; omega)
      have HHX : Hid (∀ w : World, Calls Try.prog 14 #[.agg IV] w fun e w' => e = .returned (.string ⟨(hexS l).toArray⟩) ∧ Below w.heap.size w w') := Lib.hid (fun w => by rw [HIV.out]; exact hex_any l H32.out w)
      rw [hT] at hsl ⊢
      have HXL := Lib.hid (show (hexS l).length = 64 from HX.out)
      generalize hX : hexS l = X at *
      generalize hM : shortN l os = m at *
      have HXX := Lib.hid hX
      have HMM := Lib.hid hM
      clear hX hM hke hT HOS
      go_upto_region 9 with fail
      go_wp2_with (refine wpList_load_at rfl _ _ rfl W0.heap.size 0 rfl IV _ (At.of_row HB.out) Try.underlying25 rfl HI.out ?_)
      refine (HHX.out wr).mono ?_
      rintro e wk ⟨rfl, hbk⟩
      have HBK := Lib.hid (HL.out.trans (hbk.mono HL.out.size))
      clear hbk
      have hex1 := cut_take X m
      have h0q : (0 : Int) ≤ (m : Int) := by omega
      have hql3 : (m : Int) ≤ (X.length : Int) := by have := HXL.out; omega
      go_wp2_with fail
      go_ret
      refine ⟨?_, HBK.out⟩
      rw [HMM.out, HXX.out]
      rfl
end Go.Proofs.Ytknbbekinpamjaa
