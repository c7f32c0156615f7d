/- The document's Short. -/
import Derived.Test.YtknbbekinpamjaaShaRefHex
import Derived.Test.YtknbbekinpamjaaShaShortWalk
set_option linter.unusedVariables false
namespace Go.Proofs.Ytknbbekinpamjaa
open Go.RowKit

theorem run_index_str {X : List UInt8} {q : Nat} {x : UInt8} (h : X[q]? = some x) (w : World) :
    (Instr.index 9 (.string ⟨X.toArray⟩) (.int .i64 (q : Int))).run Try.prog w = .ok (.int .u8 (x.toNat : Int)) w := by
  have hlt := (List.getElem?_eq_some_iff.1 h).1
  have he := (List.getElem?_eq_some_iff.1 h).2
  rw [run_index_string _ _ _ _ _ Try.underlying9]
  have hs : (⟨X.toArray⟩ : ByteArray).size = X.length := by simp [ByteArray.size]
  rw [dif_pos ⟨by omega, by rw [hs]; omega⟩, ← he]
  rfl
theorem cpl_get : ∀ {X Y : List UInt8} {q : Nat} {x y : UInt8}, q ≤ cpl X Y → X[q]? = some x → Y[q]? = some y → (x = y ↔ q < cpl X Y)
  | [], _, _, _, _, _, h, _ => by simp at h
  | _ :: _, [], _, _, _, _, _, h => by simp at h
  | a :: X, b :: Y, 0, x, y, _, hx, hy => by
    simp at hx hy; subst hx hy
    unfold cpl
    by_cases hab : a = b <;> simp [hab]
  | a :: X, b :: Y, q + 1, x, y, h, hx, hy => by
    simp at hx hy
    unfold cpl at h ⊢
    by_cases hab : a = b
    · rw [if_pos hab] at h ⊢
      rw [cpl_get (by omega) hx hy]; omega
    · rw [if_neg hab] at h; omega
theorem cpl_self : ∀ X : List UInt8, cpl X X = X.length
  | [] => rfl
  | x :: X => by unfold cpl; rw [if_pos rfl, cpl_self X]; simp
theorem step_doc {l o : List UInt8} (hl : l.length = 32) (ho : o.length = 32) (m : Nat) : shortStep l m o = if cpl (hexS l) (hexS o) < 64 ∧ m < cpl (hexS l) (hexS o) + 1 then cpl (hexS l) (hexS o) + 1 else m := by
  have h1 : (hexS l).length = 64 := by rw [hexS_length, hl]
  have h2 : (hexS o).length = 64 := by rw [hexS_length, ho]
  have h3 := cpl_le (hexS l) (hexS o)
  unfold shortStep
  by_cases h : o = l
  · subst h; rw [if_pos rfl, cpl_self, h1]; simp
  · rw [if_neg h]
    have := cpl_lt (X := hexS l) (Y := hexS o) (by omega) (fun e => h (hexS_inj hl ho e).symm)
    split <;> omega

set_option maxRecDepth 100000 in
set_option maxHeartbeats 4000000 in
theorem refShort_any (l : List UInt8) (h32 : l.length = 32) (A : Option Addr) (n c : Nat) (os : List (List UInt8)) (W0 : World) (hs : SlOf (arrR 32 byteR) W0 no A os) (hn : os.length = n) (hc : n ≤ c) (hcm : c ≤ maxLen) :
    Calls Try.prog 17 #[.agg (bytesV l).toArray, .slice A n c] W0 fun e w' => e = .returned (.string ⟨((hexS l).take (shortN l os)).toArray⟩) ∧ Below W0.heap.size W0 w' := by
  have hx := hexS_length l
  rw [h32] at hx
  have HX := Lib.hid hx
  have H32 := Lib.hid h32
  unfold maxLen at hcm
  have HS := Lib.hid hs
  have HN := Lib.hid hn
  clear hx h32 hs hn
  obtain ⟨IV, hIV⟩ : ∃ IV, IV = (bytesV l).toArray := ⟨_, rfl⟩
  rw [← hIV]
  have HIV := Lib.hid hIV
  have HI := Lib.hid (show (Try.prog.info? 25).map (·.size) = some IV.size by rw [hIV]; exact id_size H32.out)
  clear hIV
  have HBL := Lib.hid (Blk.new W0 25 IV)
  have HB0 := Lib.hid ((Below.refl W0.heap.size W0).alloc (Nat.le_refl _) (.cells IV 25))
  go_enter Try.func17, Try.ntmps17
  go_wp2_with (refine wpList_load_at rfl _ _ rfl W0.heap.size 0 rfl IV _ (At.of_row HBL.out) Try.underlying25 rfl HI.out ?_)
  refine (show Calls Try.prog 15 #[.agg IV] (W0.alloc (.cells IV 25)) fun e w' => e = .returned (.string ⟨(hexS l).toArray⟩) ∧ Below (W0.alloc (.cells IV 25)).heap.size (W0.alloc (.cells IV 25)) w' by rw [HIV.out]; exact refHex_any l H32.out _).mono ?_
  rintro e w1 ⟨rfl, hb1⟩
  have HB1 := Lib.hid (HB0.out.trans (hb1.mono HB0.out.size))
  clear hb1 HBL HB0
  have HXL := Lib.hid (show (hexS l).length = 64 from HX.out)
  obtain ⟨X, hX⟩ : ∃ X, X = hexS l := ⟨_, rfl⟩
  rw [← hX]
  rw [← hX] at HXL
  have HXX := Lib.hid hX
  clear hX
  go_wp2_with fail
  go_loopw [6, 7] (fun m i wr => ∃ k : Nat, k ≤ n ∧ m = .int .i64 ((shortN l (os.take k) : Nat) : Int) ∧ i = .int .i64 (k : Int) ∧ Hid (Below W0.heap.size W0 wr)) (fun _ i _ => n - (intOf i).toNat)
  case atStart => exact ⟨0, by omega, rfl, rfl, HB1⟩
  case round =>
    obtain ⟨k, hk, rfl, rfl, HL⟩ := hrel
    have HOS := Lib.hid (HS.out.below HL.out)
    have hsl := short_le H32.out (os := os) (fun o ho => by
      obtain ⟨j, hj⟩ := List.mem_iff_getElem?.1 ho
      have hjl := (List.getElem?_eq_some_iff.1 hj).1
      obtain ⟨_, _, o', _, _, h1, h2, _⟩ := ids_look HS.out HN.out (i := j) (by rw [← HN.out]; exact hjl)
      rw [hj] at h1; injection h1 with h1; rw [h1]; exact h2) k
    by_cases hlt : k < n
    · have hlt' : (k : Int) < (n : Int) := by omega
      obtain ⟨b, off, o, rfl, hbl, hox, ho32, hat⟩ := ids_look HOS.out HN.out hlt
      have HSN := Lib.hid (short_snoc l hox)
      have HO32 := Lib.hid ho32
      have HAT := Lib.hid hat
      clear hat hox ho32
      obtain ⟨OV, hOV⟩ : ∃ OV, OV = (bytesV o).toArray := ⟨_, rfl⟩
      have HOV := Lib.hid hOV
      have HOI := Lib.hid (show (Try.prog.info? 25).map (·.size) = some OV.size by rw [hOV]; exact id_size HO32.out)
      clear hOV
      generalize hM : shortN l (os.take k) = m at *
      clear hM
      go_wp2_with (refine wpList_load_at rfl _ _ rfl b (off + k * 32) rfl OV _ (by rw [HOV.out]; exact HAT.out) Try.underlying25 rfl HOI.out ?_)
      refine (show Calls Try.prog 15 #[.agg OV] wr fun e w' => e = .returned (.string ⟨(hexS o).toArray⟩) ∧ Below wr.heap.size wr w' by rw [HOV.out]; exact refHex_any o HO32.out wr).mono ?_
      rintro e w6 ⟨rfl, hb6⟩
      have HL1 := Lib.hid (HL.out.trans (hb6.mono HL.out.size))
      clear hb6 HL HOS HAT hbl
      have HYL := Lib.hid (show (hexS o).length = 64 by rw [hexS_length, HO32.out])
      have HST := Lib.hid (step_doc H32.out HO32.out m)
      obtain ⟨Y, hY⟩ : ∃ Y, Y = hexS o := ⟨_, rfl⟩
      rw [← hY]
      rw [← hY] at HYL HST
      clear hY
      rw [← HXX.out] at HST
      have HCG := Lib.hid (fun q (x y : UInt8) => cpl_get (X := X) (Y := Y) (q := q) (x := x) (y := y))
      have hcp64 : cpl X Y ≤ 64 := by have := cpl_le X Y; rw [HXL.out] at this; exact this
      obtain ⟨cp, hcp⟩ : ∃ cp, cp = cpl X Y := ⟨_, rfl⟩
      rw [← hcp] at HST HCG hcp64
      clear hcp
      go_wp2_with fail
      go_loopw [9] (fun i wi => ∃ q : Nat, q ≤ cp ∧ i = .int .i64 (q : Int) ∧ Hid (Same w6 wi)) (fun i _ => 64 - (intOf i).toNat)
      case atStart => exact ⟨0, by omega, rfl, Lib.hid (Same.refl _)⟩
      case round =>
        obtain ⟨q, hq, rfl, HSM⟩ := hrel
        by_cases hq64 : q < 64
        · have hq64' : (q : Int) < 64 := by omega
          have hx : X[q]? = some (X[q]'(by rw [HXL.out]; exact hq64)) := List.getElem?_eq_getElem _
          have hy : Y[q]? = some (Y[q]'(by rw [HYL.out]; exact hq64)) := List.getElem?_eq_getElem _
          generalize X[q]'(by rw [HXL.out]; exact hq64) = x at *
          generalize Y[q]'(by rw [HYL.out]; exact hq64) = y at *
          have ix := run_index_str hx
          have iy := run_index_str hy
          have hcg := HCG.out q x y hq hx hy
          clear hx hy
          by_cases hxy : x = y
          · have hqc := hcg.1 hxy
            have hi : ((x.toNat : Int) == (y.toNat : Int)) = true := by rw [hxy]; simp
            clear hxy hcg hsl
            go_wp2_with fail
            go_quiet (fail)
            go_wp2_with fail
            go_roundw
            case rel => exact ⟨q + 1, by omega, by go_num, Lib.hid (HSM.out.drewN _)⟩
            case measure => simp [intOf]; omega
          · have hqc : ¬ q < cp := fun h => hxy (hcg.2 h)
            have hi : ((x.toNat : Int) == (y.toNat : Int)) = false := by
              have : ¬ x.toNat = y.toNat := fun h => hxy (UInt8.toNat_inj.1 h)
              simp; omega
            have hqe : cp = q := by omega
            have HST2 := Lib.hid (show shortStep l m o = if m < q + 1 then q + 1 else m by rw [HST.out, hqe]; simp [hq64])
            have hqw : IntKind.i64.wrap ((q : Int) + 1) = (q : Int) + 1 := IntWalk.i64_in _ (by omega)
            clear hxy hcg hqc hqe hsl
            by_cases hmq : m < q + 1
            · have hmq1 : decide ((m : Int) < (q : Int) + 1) = true := by rw [decide_eq_true_iff]; omega
              have HM2 := Lib.hid (show shortStep l m o = q + 1 by rw [HST2.out, if_pos hmq])
              clear hmq
              go_wp2_with fail
              go_quiet (fail)
              go_wp2_with fail
              go_roundw
              case rel => exact ⟨k + 1, by omega, by rw [HSN.out, HM2.out]; try rfl, by go_num, Lib.hid (HL1.out.trans ((HSM.out.drewN _).below _))⟩
              case measure => simp [intOf]; omega
            · have hmq1 : decide ((m : Int) < (q : Int) + 1) = false := by rw [decide_eq_false_iff_not]; omega
              have HM2 := Lib.hid (show shortStep l m o = m by rw [HST2.out, if_neg hmq])
              clear hmq
              go_wp2_with fail
              go_quiet (fail)
              go_wp2_with fail
              go_roundw
              case rel => exact ⟨k + 1, by omega, by rw [HSN.out, HM2.out]; try rfl, by go_num, Lib.hid (HL1.out.trans ((HSM.out.drewN _).below _))⟩
              case measure => simp [intOf]; omega
        · have hq64' : decide ((q : Int) < 64) = false := by rw [decide_eq_false_iff_not]; omega
          have hqe : cp = 64 := by omega
          have HM2 := Lib.hid (show shortStep l m o = m by rw [HST.out, hqe]; simp)
          clear hqe hsl
          go_wp2_with fail
          go_quiet (fail)
          go_wp2_with fail
          go_roundw
          case rel => exact ⟨k + 1, by omega, by rw [HSN.out, HM2.out]; try rfl, by go_num, Lib.hid (HL1.out.trans ((HSM.out.drewN _).below _))⟩
          case measure => simp [intOf]; omega
    · have hke : k = n := by omega
      have hlt' : ¬ (k : Int) < (n : Int) := by omega
      have hT : os.take k = os := List.take_of_length_le (by rw [HN.out]; omega)
      rw [hT] at hsl ⊢
      generalize hM : shortN l os = m at *
      have HMM := Lib.hid hM
      clear hM hke hT HOS
      have hex1 := cut_take X m
      have h0q : (0 : Int) ≤ (m : Int) := by omega
      have hql3 : (m : Int) ≤ (X.length : Int) := by have := HXL.out; omega
      go_wp2_with fail
      go_ret
      refine ⟨?_, HL.out⟩
      rw [← HXX.out, HMM.out]
      rfl
end Go.Proofs.Ytknbbekinpamjaa
