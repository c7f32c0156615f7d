/- towlineref06.Atoms. -/
import Derived.Test.YtlddnghfjdjglaaDoorGlobTabRow
import Derived.Test.YtlddnghfjdjglaaDoorGlobAtm
set_option linter.unusedVariables false
set_option linter.unusedSimpArgs false
namespace Go.Proofs.YtlddnghfjdjglaaDoor
open Go.RowKit

/-- the sign at a place -/
def atomAt (l : List UInt8) (j : Nat) : Option (Atm × List UInt8) := atomG (l.drop j)
theorem atomAt_star {l : List UInt8} {j : Nat} (h : l[j]? = some 42) : atomAt l j = some (starA, l.drop (j + 1)) := by
  unfold atomAt; rw [drop_cons h]; rfl
theorem atomAt_one {l : List UInt8} {j : Nat} (h : l[j]? = some 63) : atomAt l j = some (oneA, l.drop (j + 1)) := by
  unfold atomAt; rw [drop_cons h]; rfl
theorem atomAt_set {l : List UInt8} {j : Nat} (h : l[j]? = some 91) : atomAt l j = setG (l.drop (j + 1)) := by
  unfold atomAt; rw [drop_cons h]; rfl
theorem atomAt_lit {l : List UInt8} {j : Nat} {x : UInt8} (h : l[j]? = some x) (h1 : x ≠ 42) (h2 : x ≠ 63) (h3 : x ≠ 91) : atomAt l j = (letAt l j).map fun p => (litA p.1, l.drop p.2) := by
  have hle := letAt_eq l j
  unfold atomAt
  rw [drop_cons h] at hle ⊢
  show (if x = 42 then _ else if x = 63 then _ else if x = 91 then _ else if x = 92 then (match nextG (l.drop (j + 1)) with | none => none | some (y, r') => some (litA y, r')) else some (litA x, l.drop (j + 1))) = _
  rw [if_neg h1, if_neg h2, if_neg h3]
  have hle : (if x = 92 then nextG (l.drop (j + 1)) else some (x, l.drop (j + 1))) = (letAt l j).map fun p => (p.1, l.drop p.2) := hle
  by_cases h92 : x = 92
  · rw [if_pos h92] at hle ⊢
    rw [hle]
    cases letAt l j <;> rfl
  · rw [if_neg h92] at hle ⊢
    cases hl : letAt l j with
    | none => rw [hl] at hle; cases hle
    | some p =>
      rw [hl] at hle
      simp only [Option.map_some, Option.some.injEq, Prod.mk.injEq] at hle ⊢
      exact ⟨by rw [hle.1], hle.2⟩
theorem setG_star {l : List UInt8} {a : Atm} {r : List UInt8} (h : setG l = some (a, r)) : a.star = false := by
  unfold setG at h
  split at h
  · cases h
  · injection h with h; injection h with h _; subst h; rfl
/-- the signs are at the end, or they go on -/
def AtmPost (w : World) (l : List UInt8) (r : Option (List Atm)) (e : Ending) (w' : World) : Prop :=
  Below w.heap.size w w' ∧ match r with
    | none => e = .returned (.tuple #[.slice none 0 0, .bool false])
    | some az => ∃ A n c, e = .returned (.tuple #[.slice A n c, .bool (!l.isEmpty)]) ∧ n = az.length ∧ n ≤ c ∧ c ≤ maxLen ∧ SlOf ratmR w' no A az

set_option maxRecDepth 100000 in
set_option maxHeartbeats 4000000 in
theorem refAtoms_any (l : List UInt8) (w : World) (hl : l.length ≤ 1000000) :
    Calls Tryd.prog 28 #[.string (strL l)] w (AtmPost w l (atomsL [] l)) := by
  obtain ⟨M, hM⟩ : ∃ M, M = l.length := ⟨_, rfl⟩
  have HM := Lib.hid hM
  rw [← hM] at hl
  obtain ⟨q, hq⟩ : ∃ q, q = strL l := ⟨_, rfl⟩
  rw [← hq]
  have hqM : q.size = M := by rw [hq, strL_size, hM]
  have HQ := Lib.hid hq
  obtain ⟨R, hR⟩ : ∃ R, R = atomsL [] l := ⟨_, rfl⟩
  rw [← hR]
  have HR := Lib.hid hR
  obtain ⟨ne, hne⟩ : ∃ ne, ne = !l.isEmpty := ⟨_, rfl⟩
  have HNE := Lib.hid hne
  have HQE := Lib.hid (show (!q.toList.isEmpty) = ne by
    rw [hne, hq, ByteArray.toList_eq]
    cases l <;> rfl)
  clear hM hq hR hne
  obtain ⟨KZ, hKZ⟩ : ∃ KZ, KZ = zTab := ⟨_, rfl⟩
  have HB0 := Lib.hid (show Tryd.prog.built 80 [] = some KZ by rw [hKZ]; exact tab0_built)
  have HI := Lib.hid (show (Tryd.prog.info? 80).map (·.size) = some KZ.size by rw [hKZ]; exact tab_info _ _)
  have HO := Lib.hid (show KZ.all (·.oneCell') = true by rw [hKZ]; exact celN_one _ _)
  have HZS := Lib.hid (show zTab.size = KZ.size by rw [hKZ])
  have HKZ := Lib.hid hKZ
  clear hKZ
  go_enter Tryd.func28, Tryd.ntmps28
  go_wp2_with fail
  go_loopw [4, 5] (fun s4 s5 wr => ∃ (j n : Nat) (A : Option Addr) (c : Nat) (az : List Atm), j ≤ M ∧ n ≤ j ∧ s4 = .slice A n c ∧ s5 = .int .i64 (j : Int) ∧ Hid (RowR ratmR 80 wr w.heap.size A n c az) ∧ Hid (Below w.heap.size w wr) ∧ Hid (atomsL az (l.drop j) = R)) (fun s4 s5 wr => M - (intOf s5).toNat)
  case atStart => exact ⟨0, 0, none, 0, [], Nat.zero_le _, Nat.le_refl _, rfl, rfl, Lib.hid (RowR.nil _ _ _ _), Lib.hid (Below.refl _ _), Lib.hid (by rw [List.drop_zero, HR.out])⟩
  case round =>
    obtain ⟨j, n, A, c, az, hj, hnj, rfl, rfl, HRW, HB, HAT⟩ := hrel
    by_cases hlt : j < M
    · have hltI : (j : Int) < (M : Int) := by omega
      obtain ⟨x, hx⟩ : ∃ x, l[j]? = some x := ⟨_, List.getElem?_eq_getElem (by have := HM.out; omega)⟩
      have hjq : j < q.size := by omega
      have hqx : q[j] = x := strL_at hx HQ.out hjq
      have HX := Lib.hid hx
      clear hx
      obtain ⟨g, hg⟩ : ∃ g, wr.heap.size = g := ⟨_, rfl⟩
      have HG := Lib.hid hg
      have HBN := Lib.hid (show Blk (wr.alloc (.cells zTab 80)) g 80 zTab by have := Blk.new wr 80 zTab; rwa [hg] at this)
      go_upto_region 5 with (first | (refine wpList_tab0 rfl 80 rfl KZ HB0.out ?_) | (refine wpList_store_row rfl _ _ _ rfl g KZ rfl rfl 80 _ HBN.out HI.out HZS.out HO.out ?_) | fail)
      rw [show wr.alloc (.cells Tryd.zeroCells80 80) = wr.alloc (.cells zTab 80) from rfl, ← HG.out, World.setRow_alloc_new, HG.out]
      have HK2 := Lib.hid (show Blk (wr.alloc (.cells KZ 80)) g 80 (celN false (fun _ => false)) by
        have := Blk.new wr 80 KZ
        rw [hg, HKZ.out] at this; rw [HKZ.out]; exact this)
      have HB2 := Lib.hid (show Below g wr (wr.alloc (.cells KZ 80)) by rw [← hg]; exact (Below.refl _ _).alloc (Nat.le_refl _) _)
      clear hg HBN
      generalize wr.alloc (.cells KZ 80) = w2 at *
      go_frame
      go_upto_if 18 with fail
      go_cut [5, 7] (fun v5 v7 wx => ∃ (z : Int) (ok : Bool), v5 = .int .i64 z ∧ v7 = .bool ok ∧ Hid (Below g wr wx) ∧ Hid (if ok then ∃ (k : Nat) (a : Atm), z = (k : Int) ∧ j < k ∧ k ≤ M ∧ atomAt l j = some (a, l.drop k) ∧ Blk wx g 80 (celN a.star (tabA a)) else atomAt l j = none))
      case first =>
        have hgl := HK2.out.lt
        by_cases h42 : x = 42
        · have hx42 : ((x.toNat : Int) == 42) = true := by rw [h42]; rfl
          have c0 : w2.cell? ⟨g, 0, none⟩ = some (.bool false) := (HK2.out.cell 0).trans (celN_get0 _ _)
          have f0 := HK2.out.frozen 0
          have HK3 := Lib.hid (show Blk (w2.setCell ⟨g, 0, none⟩ (.bool true)) g 80 (celN starA.star (tabA starA)) by
            have := HK2.out.set_ 0 (.bool true)
            rwa [celN_star, ← tabA_star] at this)
          have HB3 := Lib.hid (HB2.out.setCell (p := ⟨g, 0, none⟩) (Nat.le_refl g) (.bool true))
          have HAA := Lib.hid (atomAt_star (by rw [HX.out, h42]))
          clear h42 HK2 HB2
          go_wp2_with fail
          go_meet
          case rel => exact ⟨((j + 1 : Nat) : Int), true, by go_num, rfl, HB3, Lib.hid (by rw [if_pos rfl]; exact ⟨j + 1, starA, rfl, by omega, by omega, HAA.out, HK3.out⟩)⟩
        · have hx42 : ((x.toNat : Int) == 42) = false := u8_ne (y := 42) h42
          by_cases h63 : x = 63
          · have hx63 : ((x.toNat : Int) == 63) = true := by rw [h63]; rfl
            have HAA := Lib.hid (atomAt_one (by rw [HX.out, h63]))
            have HK3 := Lib.hid (show Blk w2 g 80 (celN false (gF [] 0 0)) by rw [gF_start]; exact HK2.out)
            clear h42 h63 HK2
            go_wp2_with fail
            obtain ⟨wL, rfl⟩ : ∃ wo : World, wo = wr := ⟨_, rfl⟩
            go_loopw [8] (fun s8 wr => ∃ b : Nat, b ≤ 256 ∧ s8 = .int .i64 (b : Int) ∧ Hid (Blk wr g 80 (celN false (gF [] 0 b))) ∧ Hid (Below g wL wr)) (fun s8 wr => 256 - (intOf s8).toNat)
            case atStart => exact ⟨0, by omega, rfl, HK3, HB2⟩
            case round =>
              obtain ⟨b, hb, rfl, HK4, HB4⟩ := hrel
              clear HK3 HB2
              by_cases hlt2 : b < 256
              · have hlt2I : (b : Int) < 256 := by omega
                have cb : ∃ vb, wr.cell? ⟨g, 1 + b, none⟩ = some (.bool vb) := ⟨_, (HK4.out.cell (1 + b)).trans (celN_get _ _ hlt2)⟩
                obtain ⟨vb, cb⟩ := cb
                have fb := HK4.out.frozen (1 + b)
                have HK5 := Lib.hid (show Blk (wr.setCell ⟨g, 1 + b, none⟩ (.bool true)) g 80 (celN false (gF [] 0 (b + 1))) by
                  have := HK4.out.set_ (1 + b) (.bool true)
                  rwa [celN_set, gF_step [] (Nat.zero_le b)] at this)
                have HB5 := Lib.hid (HB4.out.setCell (p := ⟨g, 1 + b, none⟩) (Nat.le_refl g) (.bool true))
                clear HK4 HB4
                go_wp2_with fail
                go_roundw
                case rel => exact ⟨b + 1, by omega, by go_num, HK5, HB5⟩
                case measure => simp [intOf]; omega
              · have hlt2I : ¬ (b : Int) < 256 := by omega
                obtain rfl : b = 256 := by omega
                have HK5 := Lib.hid (show Blk wr g 80 (celN oneA.star (tabA oneA)) by
                  have := HK4.out
                  rwa [show celN false (gF [] 0 256) = celN oneA.star (tabA oneA) by
                    rw [tabA_one]; exact celN_congr fun c hc => by unfold gF; simp [hc]] at this)
                clear HK4
                go_wp2_with fail
                go_meet
                case rel => exact ⟨((j + 1 : Nat) : Int), true, by go_num, rfl, HB4, Lib.hid (by rw [if_pos rfl]; exact ⟨j + 1, oneA, rfl, by omega, by omega, HAA.out, HK5.out⟩)⟩
          · have hx63 : ((x.toNat : Int) == 63) = false := u8_ne (y := 63) h63
            by_cases h91 : x = 91
            · have hx91 : ((x.toNat : Int) == 91) = true := by rw [h91]; rfl
              have HAA := Lib.hid (atomAt_set (by rw [HX.out, h91]))
              have HST := Lib.hid (refSet_any l (j + 1) w2 (by have := HM.out; omega) (by have := HM.out; omega))
              rw [← HQ.out] at HST
              obtain ⟨j1, hj1⟩ : ∃ j1, j1 = j + 1 := ⟨_, rfl⟩
              have hj1I : (j : Int) + 1 = (j1 : Int) := by omega
              have HJ1' := Lib.hid hj1
              rw [← hj1] at HST
              obtain ⟨RS, hRS⟩ : ∃ RS, RS = setG (l.drop (j + 1)) := ⟨_, rfl⟩
              rw [← hRS] at HAA
              rw [← hj1] at hRS
              rw [← hRS] at HST
              have HRS := Lib.hid hRS
              clear h42 h63 h91 hj1 hRS
              go_wp2_with fail
              refine HST.out.mono ?_
              rintro e w5 ⟨hb5, hp⟩
              have HB5 := Lib.hid (HB2.out.trans (hb5.mono (by omega)))
              have HK5 := Lib.hid (HK2.out.below hb5 hgl)
              clear HST hb5 HB2 HK2
              cases hrs : RS with
              | none =>
                rw [hrs] at hp
                obtain ⟨z, f, rfl⟩ := hp
                have HA2 := Lib.hid (show atomAt l j = none by rw [HAA.out, hrs])
                obtain ⟨K1, hK1⟩ : ∃ K1, K1 = celN false f := ⟨_, rfl⟩
                have HS1 := Lib.hid (show (celN false (fun _ => false)).size = K1.size by rw [hK1, celN_size, celN_size])
                have HJ1 := Lib.hid (show (Tryd.prog.info? 80).map (·.size) = some K1.size by rw [hK1]; exact tab_info _ _)
                have HU1 := Lib.hid (show K1.all (·.oneCell') = true by rw [hK1]; exact celN_one _ _)
                have HB6 := Lib.hid (below_setRow HB5.out (Nat.le_refl g) K1)
                rw [← hK1]
                clear hK1 hrs
                go_wp2_with (first | (refine wpList_store_row rfl _ _ _ rfl g K1 rfl rfl 80 _ HK5.out HJ1.out HS1.out HU1.out ?_) | fail)
                go_meet
                case rel => exact ⟨z, false, rfl, rfl, HB6, Lib.hid (by rw [if_neg (by decide)]; exact HA2.out)⟩
              | some ar =>
                obtain ⟨a, r⟩ := ar
                rw [hrs] at hp
                obtain ⟨k, hk1, hk2, hk3, rfl⟩ := hp
                have HA2 := Lib.hid (show atomAt l j = some (a, l.drop k) by rw [HAA.out, hrs, hk1])
                have hst : a.star = false := setG_star (by rw [← HRS.out]; exact hrs)
                obtain ⟨K1, hK1⟩ : ∃ K1, K1 = celN false (tabA a) := ⟨_, rfl⟩
                have HS1 := Lib.hid (show (celN false (fun _ => false)).size = K1.size by rw [hK1, celN_size, celN_size])
                have HJ1 := Lib.hid (show (Tryd.prog.info? 80).map (·.size) = some K1.size by rw [hK1]; exact tab_info _ _)
                have HU1 := Lib.hid (show K1.all (·.oneCell') = true by rw [hK1]; exact celN_one _ _)
                have HB6 := Lib.hid (below_setRow HB5.out (Nat.le_refl g) K1)
                have HK6 := Lib.hid (show Blk (w5.setRow g K1) g 80 (celN a.star (tabA a)) by
                  rw [hst, ← hK1]; exact setRow_heap _ g _ _ _ _ HK5.out)
                rw [← hK1]
                clear hK1 hrs hst hk1
                have hkM : j < k ∧ k ≤ M := by have := HJ1'.out; have := HM.out; omega
                go_wp2_with (first | (refine wpList_store_row rfl _ _ _ rfl g K1 rfl rfl 80 _ HK5.out HJ1.out HS1.out HU1.out ?_) | fail)
                go_meet
                case rel => exact ⟨k, true, rfl, rfl, HB6, Lib.hid (by rw [if_pos rfl]; exact ⟨k, a, rfl, hkM.1, hkM.2, HA2.out, HK6.out⟩)⟩
            · have hx91 : ((x.toNat : Int) == 91) = false := u8_ne (y := 91) h91
              have HAA := Lib.hid (atomAt_lit HX.out h42 h63 h91)
              have HLT := Lib.hid (refLetter_any l j w2 (by have := HM.out; omega) (by have := HM.out; omega))
              rw [← HQ.out] at HLT
              clear h42 h63 h91
              go_wp2_with fail
              refine HLT.out.mono ?_
              rintro e w5 ⟨rfl, hp⟩
              cases hlt2 : letAt l j with
              | none =>
                rw [hlt2] at hp
                obtain ⟨z, rfl⟩ := hp
                have HA2 := Lib.hid (show atomAt l j = none by rw [HAA.out, hlt2]; rfl)
                have cb : w5.cell? ⟨g, 1, none⟩ = some (.bool false) := (HK2.out.cell 1).trans (celN_get (b := 0) _ _ (by decide))
                have fb := HK2.out.frozen 1
                have HB3 := Lib.hid (HB2.out.setCell (p := ⟨g, 1, none⟩) (Nat.le_refl g) (.bool true))
                clear hlt2 HLT HK2 HB2
                go_wp2_with fail
                go_meet
                case rel => exact ⟨z, false, rfl, rfl, HB3, Lib.hid (by rw [if_neg (by decide)]; exact HA2.out)⟩
              | some p =>
                obtain ⟨y, k⟩ := p
                rw [hlt2] at hp
                obtain rfl : e = _ := hp
                have hkM := letAt_lt hlt2
                rw [← HM.out] at hkM
                have HA2 := Lib.hid (show atomAt l j = some (litA y, l.drop k) by rw [HAA.out, hlt2]; rfl)
                have HK3 := Lib.hid (show Blk (w5.setCell ⟨g, 1 + y.toNat, none⟩ (.bool true)) g 80 (celN (litA y).star (tabA (litA y))) by
                  have := HK2.out.set_ (1 + y.toNat) (.bool true)
                  rwa [celN_set, ← tabA_lit] at this)
                have HB3 := Lib.hid (HB2.out.setCell (p := ⟨g, 1 + y.toNat, none⟩) (Nat.le_refl g) (.bool true))
                have cb : w5.cell? ⟨g, 1 + y.toNat, none⟩ = some (.bool false) := (HK2.out.cell (1 + y.toNat)).trans (celN_get _ _ y.toNat_lt)
                have fb := HK2.out.frozen (1 + y.toNat)
                have hy256 : y.toNat < 256 := y.toNat_lt
                have hy256I : (y.toNat : Int) < 256 := by omega
                clear hlt2 HLT HK2 HB2
                go_wp2_with fail
                go_meet
                case rel => exact ⟨k, true, rfl, rfl, HB3, Lib.hid (by rw [if_pos rfl]; exact ⟨k, litA y, rfl, hkM.1, hkM.2, HA2.out, HK3.out⟩)⟩
      case rest =>
        obtain ⟨z, ok, rfl, rfl, HBX, HIF⟩ := hcut
        have hdr : l.drop j ≠ [] := by
          intro h
          have := List.drop_eq_nil_iff.1 h
          have := HM.out; omega
        have HDR := Lib.hid hdr
        clear hdr HK2 HB2
        cases ok with
        | false =>
          have HRN := Lib.hid (show R = none by
            have h := HIF.out
            rw [if_neg (by decide)] at h
            rw [← HAT.out]
            exact atomsL_bad HDR.out h)
          have HBW := Lib.hid (show Below w.heap.size w wc by
            have h := HBX.out
            rw [← HG.out] at h
            exact HB.out.trans (h.mono HB.out.size))
          clear HIF
          go_wp2_with fail
          go_ret2
          unfold AtmPost
          rw [HRN.out]
          exact ⟨HBW.out, rfl⟩
        | true =>
          obtain ⟨k, a, rfl, hjk, hkM, haa, hkx⟩ : ∃ (k : Nat) (a : Atm), z = (k : Int) ∧ j < k ∧ k ≤ M ∧ atomAt l j = some (a, l.drop k) ∧ Blk wc g 80 (celN a.star (tabA a)) := by
            have h := HIF.out
            rw [if_pos rfl] at h
            exact h
          have hbx : Below wr.heap.size wr wc := by rw [HG.out]; exact HBX.out
          have hrow := HRW.out.below hbx
          obtain ⟨A', c', w4, run4, hrow4, hb4, hgr4, _, hc4, hcm4⟩ := hrow.push elemTab (by have := hbx.size; have := HB.out.size; omega) (av := fun _ => True) (cs := (celN a.star (tabA a)).toList) (x := a) rfl (fun _ _ _ => trivial) (by omega) (by simp only [maxLen]; omega) 56 1
          rw [Array.toArray_toList] at run4
          have HBW := Lib.hid (show Below w.heap.size w w4 from (HB.out.trans (hbx.mono HB.out.size)).trans hb4)
          have HAT2 := Lib.hid (show atomsL (az ++ [a]) (l.drop k) = R by rw [← HAT.out]; exact (atomsL_step HDR.out haa).symm)
          obtain ⟨K1, hK1⟩ : ∃ K1, K1 = celN a.star (tabA a) := ⟨_, rfl⟩
          have HJ1 := Lib.hid (show (Tryd.prog.info? 80).map (·.size) = some K1.size by rw [hK1]; exact tab_info _ _)
          have HBS := Lib.hid (bsTab_of wc K1 (by rw [hK1]; exact celN_size _ _))
          rw [← hK1] at run4 hkx
          have HRUN := Lib.hid run4
          have HKX := Lib.hid hkx
          have HR4 := Lib.hid hrow4
          clear hK1 run4 hkx hrow4 hrow hbx hb4 hgr4 HIF haa HRW HB
          go_wp2_with (first
            | (refine wpList_load_row rfl 80 (.tmp 6) rfl g rfl 80 K1 (0, 0) _ HKX.out Tryd.underlying80 rfl HJ1.out ?_)
            | (refine wpList_bs1 rfl (.tmp 60) rfl (.agg K1) _ rfl HBS.out ?_)
            | (at_builtin; refine wpList_run_append HRUN.out ?_ ?_ ?_; exact rfl; exact rfl) | fail)
          go_roundw
          case rel => exact ⟨k, n + 1, A', c', az ++ [a], hkM, by omega, rfl, rfl, HR4, HBW, HAT2⟩
          case measure => simp [intOf]; omega
    · have hltI : ¬ (j : Int) < (M : Int) := by omega
      obtain rfl : j = M := by omega
      have HRN := Lib.hid (show R = some az by rw [← HAT.out, List.drop_eq_nil_of_le (by have := HM.out; omega), atomsL_nil])
      have hqe := HQE.out
      go_wp2_with fail
      go_ret2
      unfold AtmPost
      rw [HRN.out]
      exact ⟨HB.out, A, n, c, by rw [HNE.out]; rfl, HRW.out.len, HRW.out.cap.1, HRW.out.cap.2, HRW.out.sl⟩
end Go.Proofs.YtlddnghfjdjglaaDoor
