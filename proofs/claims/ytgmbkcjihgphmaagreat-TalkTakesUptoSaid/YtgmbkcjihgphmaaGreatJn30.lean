/- Contracts and laws for what the statement reaches, joined: ShaRefSum. -/
import Derived.Test.YtgmbkcjihgphmaaGreatJn29
/- The document's Sum: the walk. -/
set_option linter.unusedVariables false
namespace Go.Proofs.YtgmbkcjihgphmaaGreat
open Go.RowKit
attribute [local go_sem ↓] stb_eq
attribute [local go_sem] q_add q_wadd q_xor q_and q_sub q_wsub q_mod q_tmod q_wmod UInt64.toUInt32_add UInt64.toUInt32_xor UInt64.toUInt32_and low_up low_not low_not32
set_option maxRecDepth 100000 in
set_option maxHeartbeats 8000000 in
theorem refSum_any (b : List UInt8) (hb : b.length ≤ 1000000000) (W0 : World) :
  Calls Tryz.prog 24 #[.string ⟨b.toArray⟩] W0 fun e w' => e = .returned (.agg (bytesV (shaG b)).toArray) ∧ Below W0.heap.size W0 w' := by
 have HMK := Lib.hid mk64
 have hR0 : Blk (W0.alloc (.cells zID 33)) W0.heap.size 33 zID := Blk.new W0 _ _
 have hB0 : Below W0.heap.size W0 (W0.alloc (.cells zID 33)) := (Below.refl _ _).alloc (Nat.le_refl _) _
 obtain ⟨c0, w1, hst, hbuf, hbel⟩ := stb_buf (W0.alloc (.cells zID 33)) b (by simp only [maxLen]; omega) (base := W0.heap.size + 1) (by simp)
 have HR1 := Lib.hid (hR0.below hbel (by omega))
 have HB1 := Lib.hid (hB0.trans (hbel.mono (by omega)))
 have hsz1 : W0.heap.size + 1 ≤ w1.heap.size := by have := hbel.size; simp at this; omega
 obtain ⟨A2, c2, w2, hrun, hb2, hbe2⟩ := buf_append elemU8 (hbuf.alloc (.cells #[.int .u8 128] 5)) (Sl.one w1 (.int .u8 128) 5) (by simp [Value.oneCell']) (by omega) (by simp only [maxLen]; omega) (by simp; omega) 38 1
 have HR2 := Lib.hid ((HR1.out.alloc (.cells #[.int .u8 128] 5)).below hbe2 (by omega))
 have HB2 := Lib.hid ((HB1.out.alloc (by omega) (.cells #[.int .u8 128] 5)).trans (hbe2.mono (by omega)))
 have HBF := Lib.hid (show Buf w2 (W0.heap.size + 1) A2 (b.length + 1) c2 (bytesV (b ++ 128 :: List.replicate 0 0)) by simpa [bytesV] using hb2)
 have hg2 : (W0.alloc (.cells zID 33)).heap.size = W0.heap.size + 1 := by simp
 rw [hg2] at hst hrun
 have n0 : IntKind.u64.wrap (b.length : Int) = (b.length : Int) := IntWalk.u64_in _ (by omega)
 have n1 : IntKind.u64.wrap ((b.length : Int) * 8) = ((8 * b.length : Nat) : Int) := by rw [IntWalk.u64_in _ (by omega)]; omega
 have n2 : ((b.length : Int) * 8) % 18446744073709551616 = ((8 * b.length : Nat) : Int) := by omega
 clear hb2 hbe2 hbuf hbel hR0 hB0 hsz1 hg2 HR1 HB1
 obtain ⟨L8, hL8⟩ : ∃ L8, L8 = 8 * b.length := ⟨_, rfl⟩
 rw [← hL8] at n1 n2
 have HL8 := Lib.hid hL8
 clear hL8
 obtain ⟨n, hn⟩ : ∃ n, n = b.length := ⟨_, rfl⟩
 have HN := Lib.hid hn
 go_enter Tryz.func24, Tryz.ntmps24
 go_upto_region 2 with fail
 change Code.wp _ _ _ _ (W0.alloc (.cells zID 33))
 generalize W0.alloc (.cells zID 33) = w0 at *
 go_wp2_with (at_builtin; refine wpList_run_append hrun ?_ ?_ ?_; exact rfl; exact rfl)
 clear hst hrun n0 n1 n2
 go_loopw [4] (fun r wr => ∃ (j : Nat) (Ao : Option Addr) (m co : Nat), r = .slice Ao m co ∧ Hid (m = b.length + 1 + j) ∧ j ≤ spadZ b.length ∧ Hid (Buf wr (W0.heap.size + 1) Ao m co (bytesV (b ++ 128 :: List.replicate j 0))) ∧ Hid (Blk wr W0.heap.size 33 zID) ∧ Hid (Below W0.heap.size W0 wr)) (fun r _ => b.length + 65 - lenOf r)
 case atStart => exact ⟨0, A2, _, c2, rfl, Lib.hid rfl, Nat.zero_le _, HBF, HR2, HB2⟩
 case round =>
  obtain ⟨j, Ao, m, co, rfl, hm, hj, HBF, HR2, HB2⟩ := hrel
  have hend := padZ_end (n := b.length) rfl hj
  have hpz := padZ_lt b.length
  have hsz2 : W0.heap.size + 1 ≤ wr.heap.size := HR2.out.lt
  have hmm : m % 64 = (b.length % 64 + 1 + j) % 64 := by rw [hm.out]; omega
  rw [← hmm] at hend
  have hml : m ≤ 1000000064 := by rw [hm.out]; omega
  by_cases hjl : j < spadZ b.length
  ·have hg : ¬ m % 64 = 56 := fun h => by have := hend.1 h; omega
   obtain ⟨A3, c3, w3, hrun3, hb3, hbe3⟩ := buf_append elemU8 (HBF.out.alloc (.cells #[.int .u8 0] 5)) (Sl.one wr (.int .u8 0) 5) (by simp [Value.oneCell']) (by omega) (by simp only [maxLen]; omega) (by simp; omega) 38 1
   have HB4 := Lib.hid (show Buf w3 (W0.heap.size + 1) A3 (m + 1) c3 (bytesV (b ++ 128 :: List.replicate (j + 1) 0)) by rw [List.replicate_succ', ← List.cons_append, ← List.append_assoc]; simpa [bytesV] using hb3)
   have HR3 := Lib.hid ((HR2.out.alloc (.cells #[.int .u8 0] 5)).below hbe3 (by omega))
   have HB3 := Lib.hid ((HB2.out.alloc (by omega) (.cells #[.int .u8 0] 5)).trans (hbe3.mono (by omega)))
   have hgi : ¬ (m : Int) % 64 = 56 := by omega
   clear hb3 hbe3 hend hmm
   go_wp2_with (at_builtin; refine wpList_run_append hrun3 ?_ ?_ ?_; exact rfl; exact rfl)
   go_roundw
   case rel => exact ⟨j + 1, A3, m + 1, c3, rfl, Lib.hid (by rw [hm.out]; omega), by omega, HB4, HR3, HB3⟩
   case measure => have hmo := hm.out; simp [lenOf]; omega
  ·have hje : j = spadZ b.length := by omega
   have hg : m % 64 = 56 := hend.2 hje
   have hgi : (m : Int) % 64 = 56 := by omega
   clear hend hmm
   have HBF := Lib.hid (show Buf wr (W0.heap.size + 1) Ao m co (bytesV (b ++ 128 :: (List.replicate (spadZ b.length) 0 ++ (lenB b.length).take 0))) by
    rw [List.take_zero, List.append_nil, ← hje]; exact HBF.out)
   have HM := Lib.hid (show m = b.length + 1 + spadZ b.length + 0 by have := hm.out; omega)
   clear hje hjl hm
   go_wp2_with fail
   clear hg hgi
   obtain ⟨wo, rfl⟩ : ∃ wo : World, wo = wr := ⟨_, rfl⟩
   go_loopw [4, 5, 6] (fun r p i wr => ∃ (k P : Nat) (Ao : Option Addr) (m co : Nat), k ≤ 8 ∧ i = .int .i64 (k : Int) ∧ p = .int .u64 (P : Int) ∧ Hid (P = 72057594037927936 / 256 ^ k) ∧ r = .slice Ao m co ∧ Hid (m = b.length + 1 + spadZ b.length + k) ∧ Hid (Buf wr (W0.heap.size + 1) Ao m co (bytesV (b ++ 128 :: (List.replicate (spadZ b.length) 0 ++ (lenB b.length).take k)))) ∧ Hid (Blk wr W0.heap.size 33 zID) ∧ Hid (Below W0.heap.size W0 wr)) (fun _ _ i _ => 8 - (intOf i).toNat)
   case atStart => exact ⟨0, 72057594037927936, Ao, m, co, by omega, rfl, rfl, Lib.hid (by simp), rfl, HM, HBF, HR2, HB2⟩
   case round =>
    obtain ⟨q, P, Ao, m, co, hq, rfl, rfl, HP, rfl, hm, HBF, HR2, HB2⟩ := hrel
    have hml : m ≤ 1000000200 := by rw [hm.out]; omega
    have hsz2 : W0.heap.size + 1 ≤ wr.heap.size := HR2.out.lt
    by_cases hq8 : q < 8
    ·have hq8' : (q : Int) < 8 := by omega
     have hPe : P = 2 ^ (56 - 8 * q) := by
      rw [HP.out, show (72057594037927936 : Nat) = 2 ^ 56 from rfl, show (256 : Nat) = 2 ^ 8 from rfl, ← Nat.pow_mul, Nat.pow_div (by omega) (by omega)]
     have hP0 : 0 < P := by rw [hPe]; exact Nat.two_pow_pos _
     have hPl : P ≤ 72057594037927936 := by rw [HP.out]; exact Nat.div_le_self _ _
     have HX := Lib.hid (show (UInt8.ofNat (8 * b.length / 2 ^ (56 - 8 * q))).toNat = L8 / P % 256 by rw [UInt8.toNat_ofNat', ← hPe, ← HL8.out])
     have HP2 := Lib.hid (show P / 256 = 72057594037927936 / 256 ^ (q + 1) by rw [HP.out, Nat.div_div_eq_div_mul, Nat.pow_succ])
     have hLl : L8 ≤ 8000000000 := by rw [HL8.out]; omega
     have hdl : L8 / P ≤ L8 := Nat.div_le_self _ _
     have t1 : (L8 : Int).tdiv (P : Int) = ((L8 / P : Nat) : Int) := by rw [Int.tdiv_eq_ediv_of_nonneg (by omega)]; exact (Int.natCast_ediv _ _).symm
     have t2 : (L8 : Int) / (P : Int) = ((L8 / P : Nat) : Int) := (Int.natCast_ediv _ _).symm
     have n0 : ¬ (P : Int) = 0 := by omega
     have n1 : ((P : Int) == 0) = false := by simp; omega
     have u1 : (P : Int).tdiv 256 = ((P / 256 : Nat) : Int) := by rw [Int.tdiv_eq_ediv_of_nonneg (by omega)]; omega
     have u2 : (P : Int) / 256 = ((P / 256 : Nat) : Int) := by omega
     clear hPe
     generalize hD : L8 / P = D at *
     generalize hP2 : P / 256 = P2 at *
     have hP2l : P2 ≤ 72057594037927936 := by omega
     have t3 : IntKind.u64.wrap (D : Int) = (D : Int) := IntWalk.u64_in _ (by omega)
     have u3 : IntKind.u64.wrap (P2 : Int) = (P2 : Int) := IntWalk.u64_in _ (by omega)
     obtain ⟨x, hx⟩ : ∃ x, x = UInt8.ofNat (8 * b.length / 2 ^ (56 - 8 * q)) := ⟨_, rfl⟩
     rw [← hx] at HX
     have v1 : (D : Int).tmod 256 = (x.toNat : Int) := by rw [Int.tmod_eq_emod_of_nonneg (by omega), HX.out]; omega
     have v2 : (D : Int) % 256 = (x.toNat : Int) := by rw [HX.out]; omega
     have hxl := x.toNat_lt
     have v3 : IntKind.u64.wrap (x.toNat : Int) = (x.toNat : Int) := IntWalk.u64_in _ (by omega)
     have v4 : (x.toNat : Int) % 256 = (x.toNat : Int) := by omega
     have v5 : IntKind.u8.wrap (x.toNat : Int) = (x.toNat : Int) := by simp only [IntKind.wrap, IntKind.bits, IntKind.signed]; simp; omega
     obtain ⟨A3, c3, w3, hrun3, hb3, hbe3⟩ := buf_append elemU8 (HBF.out.alloc (.cells #[.int .u8 (x.toNat : Int)] 5)) (Sl.one wr (.int .u8 (x.toNat : Int)) 5) (by simp [Value.oneCell']) (by omega) (by simp only [maxLen]; omega) (by simp; omega) 38 1
     have HB4 := Lib.hid (show Buf w3 (W0.heap.size + 1) A3 (m + 1) c3 (bytesV (b ++ 128 :: (List.replicate (spadZ b.length) 0 ++ (lenB b.length).take (q + 1)))) by
      rw [lenB_succ hq8, ← hx, ← List.append_assoc (List.replicate _ _), ← List.cons_append, ← List.append_assoc]
      simpa [bytesV] using hb3)
     have HR3 := Lib.hid ((HR2.out.alloc (.cells #[.int .u8 (x.toNat : Int)] 5)).below hbe3 (by omega))
     have HB3 := Lib.hid ((HB2.out.alloc (by omega) (.cells #[.int .u8 (x.toNat : Int)] 5)).trans (hbe3.mono (by omega)))
     clear hb3 hbe3 hx hD hP2
     go_wp2_with (at_builtin; refine wpList_run_append hrun3 ?_ ?_ ?_; exact rfl; exact rfl)
     go_roundw
     case rel => exact ⟨q + 1, P2, A3, m + 1, c3, by omega, by go_num, by first | rfl | rw [u1, u3] | rw [u2], HP2, rfl, Lib.hid (by rw [hm.out]; omega), HB4, HR3, HB3⟩
     case measure => simp [intOf]; omega
    ·have hqe : q = 8 := by omega
     have hq8' : ¬ (q : Int) < 8 := by omega
     have HPD := Lib.hid (show Buf wr (W0.heap.size + 1) Ao m co (bytesV (padded b)) by
      have h1 := HBF.out
      rw [hqe, List.take_of_length_le (by rw [lenB_length]; omega)] at h1
      exact h1)
     have HPL := Lib.hid (show (padded b).length = m by have := HPD.out.len; rwa [bytesV_length] at this)
     have HW := Lib.hid (show m % 64 = 0 by rw [hm.out, hqe]; unfold spadZ; omega)
     have HG := Lib.hid (show shaG b = bytesU (blocksS shaH (padded b)) from rfl)
     clear hqe hq8 hm HBF
     generalize padded b = PD at *
     obtain ⟨wo, rfl⟩ : ∃ wo : World, wo = wr := ⟨_, rfl⟩
     clear HP
     go_upto_region 11 with fail
     go_wp2_with fail
     refine (parts_any _).mono ?_
     rintro e wk ⟨rfl, hk, hbk⟩
     go_wp2_with fail
     refine (start_any _).mono ?_
     rintro e wh ⟨rfl, hh, hbh⟩
     have HK := Lib.hid (Blk.below hk hbh (Blk.lt hk))
     have HH := Lib.hid hh
     have HBH := Lib.hid (show Below wo.heap.size wo wh from hbk.trans (hbh.mono hbk.size))
     have HSK := Lib.hid (show wo.heap.size < wk.heap.size from Blk.lt hk)
     have HSH := Lib.hid (show wk.heap.size < wh.heap.size from Blk.lt hh)
     clear hk hbk hh hbh
     have HPD2 := Lib.hid (HPD.out.sl.below HBH.out)
     have HR4 := Lib.hid (HR2.out.below HBH.out (by omega))
     have HB4 := Lib.hid (HB2.out.trans (HBH.out.mono (by omega)))
     have HAT := Lib.hid (show ∀ h : 0 < m, ∃ g off, Ao = some ⟨g, off, none⟩ ∧ g < wo.heap.size from fun h => by
      obtain ⟨g, off, e, _, hl⟩ := HPD.out.at (by have := HPD.out.le; omega)
      exact ⟨g, off, e, hl⟩)
     generalize hgk : wo.heap.size = gk at *
     generalize hgh : wk.heap.size = gh at *
     have HGK := Lib.hid hgk
     clear hgk hgh HR2 HB2 HPD2
     have HRG := Lib.hid (show W0.heap.size + 1 ≤ gk from hsz2)
     go_wp2_with fail
     go_loopw [10] (fun i wr => ∃ (a : Nat) (s : List UInt32), i = .int .i64 (a : Int) ∧ a ≤ m ∧ Hid (a % 64 = 0) ∧ Hid (s.length = 8) ∧ Hid (QBlk wr gh s) ∧ Hid (blocksS shaH PD = blocksS s (PD.drop a)) ∧ Hid (Below gh wh wr)) (fun i _ => m - (intOf i).toNat)
     case atStart => exact ⟨0, shaH, rfl, by omega, Lib.hid rfl, Lib.hid rfl, HH, Lib.hid rfl, Lib.hid (Below.refl _ _)⟩
     case round =>
      obtain ⟨a, s, rfl, ham, ha64, HS8, HHs, HBL, HBh⟩ := hrel
      have HSZ := Lib.hid (show gh < wr.heap.size from Blk.lt HHs.out)
      by_cases hlt : a < m
      ·have hlt' : (a : Int) < (m : Int) := by omega
       have ha2 : a + 64 ≤ m := by have h1 := ha64.out; have h2 := HW.out; omega
       obtain ⟨g, off, rfl, hgl⟩ := HAT.out (by omega)
       obtain ⟨wa, rfl⟩ : ∃ wa : World, wa = wr := ⟨_, rfl⟩
       have hmk := HMK.out
       have HLW := Lib.hid (show ∀ w : World, wa.heap.size ≤ w.heap.size → Below wa.heap.size wa w → Sl w 1 (some ⟨g, off, none⟩) m (bytesV PD) from fun w hw hb => HPD.out.sl.belowB (HBH.out.trans ((HBh.out.mono (by have := HSK.out; omega)).trans (hb.mono (by have := HSK.out; have := HSZ.out; omega)))) HGK.out)
       have HLK := Lib.hid (show ∀ w : World, Below wa.heap.size wa w → QBlk w gk shaK from fun w hb => Blk.below (Blk.below HK.out HBh.out HSK.out) hb (by have := HSK.out; have := HSZ.out; omega))
       have HLR := Lib.hid (show ∀ w : World, Below wa.heap.size wa w → QBlk w gh s from fun w hb => Blk.below HHs.out hb HSZ.out)
       have HNB := Lib.hid (block_next (PD := PD) (s := s) (a := a) (by rw [HPL.out]; exact ha2))
       have HY := Lib.hid (show ∀ (w : World) (k : Nat), k < 64 → wa.heap.size ≤ w.heap.size → Below wa.heap.size wa w → ∃ y : UInt8, w.cell? ⟨g, off + (a + k), none⟩ = some (.int .u8 (y.toNat : Int)) ∧ (PD.drop a)[k]? = some y from fun w k hk hw hb => by
        obtain ⟨b', o', y, eb, hbl, hcy, hdy⟩ := bytesV_look (k := a + k) (HLW.out w hw hb) (by omega)
        injection eb with eb
        injection eb with eb1 eb2
        subst eb1 eb2
        refine ⟨y, hcy, ?_⟩
        have h1 : (PD.drop (a + k))[0]? = some y := by rw [hdy]; rfl
        rw [List.getElem?_drop, Nat.add_zero] at h1
        rw [List.getElem?_drop]; exact h1)
       obtain ⟨blk, hblk⟩ : ∃ blk, blk = PD.drop a := ⟨_, rfl⟩
       rw [← hblk] at HY HNB
       have HBK := Lib.hid hblk
       clear hblk HLW HAT
       have HPS := Lib.hid (show ∀ M, M < 16 → (schedW blk 48).getD M 0 = wordB blk M from fun M h => sched_first blk h)
       have HSR := Lib.hid (show ∀ M, 16 ≤ M → M < 64 → (schedW blk 48).getD M 0 = (schedW blk 48).getD (M - 16) 0 + (schedW blk 48).getD (M - 7) 0 + sg0 ((schedW blk 48).getD (M - 15) 0) + sg1 ((schedW blk 48).getD (M - 2) 0) from fun M h h2 => sched_rec blk h h2)
       have HSL := Lib.hid (show (schedW blk 48).length = 64 by rw [schedW_length])
       have HBS := Lib.hid (show blockS s blk = addL s (rndsW (schedW blk 48) s 64) from rfl)
       obtain ⟨S, hS⟩ : ∃ S, S = schedW blk 48 := ⟨_, rfl⟩
       rw [← hS] at HPS HSR HSL HBS
       clear hS
       have HW0 := Lib.hid (show QBlk (wa.alloc (.cells (q64 (List.replicate 64 0)).toArray 91)) wa.heap.size (rowW S 0) from Blk.new wa _ _)
       have HB0 := Lib.hid (show Below wa.heap.size wa (wa.alloc (.cells (q64 (List.replicate 64 0)).toArray 91)) from (Below.refl _ _).alloc (Nat.le_refl _) _)
       go_wp2_with fail
       clear hmk
       generalize hgw : wa.heap.size = gw at *
       have HGW := Lib.hid hgw
       clear hgw
       go_loopw [12] (fun i wr => ∃ M : Nat, i = .int .i64 (M : Int) ∧ M ≤ 64 ∧ Hid (QBlk wr gw (rowW S M)) ∧ Hid (Below gw wa wr)) (fun i _ => 64 - (intOf i).toNat)
       case atStart => exact ⟨0, rfl, by omega, HW0, HB0⟩
       case round =>
        obtain ⟨M, rfl, hM, HQ, HBw⟩ := hrel
        by_cases hM64 : M < 64
        ·have hM64' : (M : Int) < 64 := by omega
         have HQX := Lib.hid (show QBlk wr gw (rowX S M 0) by rw [← rowW_X hM64]; exact HQ.out)
         have hk1 : IntKind.i64.wrap ((M : Int) + 1) = (M : Int) + 1 := IntWalk.i64_in _ (by omega)
         by_cases hM16 : M < 16
         ·have hM16' : (M : Int) < 16 := by omega
          have HFI := Lib.hid (HPS.out M hM16)
          go_wp2_with fail
          obtain ⟨wi, rfl⟩ : ∃ wi : World, wi = wr := ⟨_, rfl⟩
          go_loopw [13] (fun i wr => ∃ j : Nat, i = .int .i64 (j : Int) ∧ j ≤ 4 ∧ Hid (QBlk wr gw (rowX S M (partB blk M j))) ∧ Hid (Below gw wa wr)) (fun i _ => 4 - (intOf i).toNat)
          case atStart => exact ⟨0, rfl, by omega, HQX, HBw⟩
          case round =>
           obtain ⟨j, rfl, hj, HQj, HBj⟩ := hrel
           by_cases hj4 : j < 4
           ·as_aux_lemma =>
            have hj4' : (j : Int) < 4 := by omega
            obtain ⟨y, cy, hy⟩ := HY.out wr (4 * M + j) (by omega) (Nat.le_of_lt (Blk.lt HQj.out)) HBj.out
            have HP := Lib.hid (partB_succ hy)
            have hx := partB_lt blk M j hj
            have hx24 : (partB blk M j).toNat < 16777216 := Nat.lt_of_lt_of_le hx (Nat.pow_le_pow_right (n := 2) (by omega) (show 8 * j ≤ 24 by omega))
            obtain ⟨mq, ml⟩ := mix_q (y := y) hx24
            rw [← HP.out] at mq ml
            have cx := QBlk.at HQj.out (rowX_get (by rw [HSL.out]; exact hM) (partB blk M j))
            have fx := Blk.frozen HQj.out M
            have hN := QBlk.put HQj.out M (partB blk M (j + 1))
            rw [rowX_set (by rw [HSL.out]; exact hM)] at hN
            have HN := Lib.hid hN
            have HNB2 := Lib.hid (HBj.out.setCell (p := ⟨gw, M, none⟩) (Nat.le_refl _) (.int .u64 (qI (up (partB blk M (j + 1))))))
            clear hN hx hx24 hy
            generalize partB blk M j = x at *
            generalize hz : partB blk M (j + 1) = z at *
            have HZ := Lib.hid hz
            clear hz
            have hyl := y.toNat_lt
            have q0 := qI_nonneg (up x)
            have e1 : IntKind.u64.wrap (qI (up x) * 256) = qI (up x) * 256 := IntWalk.u64_in _ (by omega)
            have e1' : (qI (up x) * 256) % 18446744073709551616 = qI (up x) * 256 := by omega
            have e2 : IntKind.u64.wrap (y.toNat : Int) = (y.toNat : Int) := IntWalk.u64_in _ (by omega)
            have e2' : (y.toNat : Int) % 18446744073709551616 = (y.toNat : Int) := by omega
            have e3 : IntKind.u64.wrap (qI (up z)) = qI (up z) := IntWalk.u64_in _ (by omega)
            have e3' : (qI (up z)) % 18446744073709551616 = qI (up z) := by omega
            have m1 : IntKind.i64.wrap (4 * (M : Int)) = 4 * (M : Int) := IntWalk.i64_in _ (by omega)
            have m2 : IntKind.i64.wrap ((a : Int) + 4 * (M : Int)) = (a : Int) + 4 * (M : Int) := IntWalk.i64_in _ (by omega)
            have m3 : IntKind.i64.wrap ((a : Int) + 4 * (M : Int) + (j : Int)) = (a : Int) + 4 * (M : Int) + (j : Int) := IntWalk.i64_in _ (by omega)
            have m4 : (0 : Int) ≤ (a : Int) + 4 * (M : Int) + (j : Int) := by omega
            have m5 : (a : Int) + 4 * (M : Int) + (j : Int) < (m : Int) := by omega
            have m6 : ((a : Int) + 4 * (M : Int) + (j : Int)).toNat = a + (4 * M + j) := by omega
            have hj1 : IntKind.i64.wrap ((j : Int) + 1) = (j : Int) + 1 := IntWalk.i64_in _ (by omega)
            clear ml q0
            go_wp2_with fail
            refine wp_region_late (S := fun W => Same wr W) (s := 19) (by kernel_rfl) ?_
            refine rgL 0 rfl (fun _ _ _ h => h) (fun _ => (Same.refl wr).drew) ?_
            refine rgL 1 rfl (fun _ _ _ h => h) (fun _ => (Same.refl wr).drew) ?_
            refine rgL 2 rfl (fun _ _ _ h => h) (fun _ => (Same.refl wr).drew) ?_
            refine rgL 3 rfl (fun _ _ _ h => h) (fun _ => (Same.refl wr).drew) ?_
            refine rgL 4 rfl (fun _ _ _ h => h) (fun _ => (Same.refl wr).drew) ?_
            refine late_load (i := 5) (m := 5) (v := ?_) (a' := ?_) rfl (by kernel_rfl) (by kernel_rfl) (by kernel_rfl) (by kernel_rfl) (by rfl) (fun _ _ _ h => h) (by rfl) (Same.refl wr).drew ?_ ?_ ?_
            rotate_left 2
            ·(intro w hS; have t := (hS.cell ⟨gw, M, none⟩).trans cx; go_simp; try with_reducible rfl)
            ·(go_simp; try with_reducible rfl)
            refine rgL 6 rfl (fun _ _ _ h => h) (fun _ => (Same.refl wr).drew) ?_
            refine rgL 7 rfl (fun _ _ _ h => h) (fun _ => (Same.refl wr).drew) ?_
            refine rgL 8 rfl (fun _ _ _ h => h) (fun _ => (Same.refl wr).drew) ?_
            refine rgL 9 rfl (fun _ _ _ h => h) (fun _ => (Same.refl wr).drew) ?_
            refine rgL 10 rfl (fun _ _ _ h => h) (fun _ => (Same.refl wr).drew) ?_
            refine rgL 11 rfl (fun _ _ _ h => h) (fun _ => (Same.refl wr).drew) ?_
            refine rgL 12 rfl (fun _ _ _ h => h) (fun _ => (Same.refl wr).drew) ?_
            refine rgL 13 rfl (fun _ _ _ h => h) (fun _ => (Same.refl wr).drew) ?_
            refine rgL 14 rfl (fun _ _ _ h => h) (fun _ => (Same.refl wr).drew) ?_
            refine late_load (i := 15) (m := 15) (v := ?_) (a' := ?_) rfl (by kernel_rfl) (by kernel_rfl) (by kernel_rfl) (by kernel_rfl) (by rfl) (fun _ _ _ h => h) (by rfl) (Same.refl wr).drew ?_ ?_ ?_
            rotate_left 2
            ·(intro w hS; have t := (hS.cell ⟨g, off + (a + (4 * M + j)), none⟩).trans cy; go_simp; try with_reducible rfl)
            ·(go_simp; try with_reducible rfl)
            refine late_load (i := 16) (m := 16) (v := ?_) (a' := ?_) rfl (by kernel_rfl) (by kernel_rfl) (by kernel_rfl) (by kernel_rfl) (by rfl) (fun _ _ _ h => h) (by rfl) (Same.refl wr).drew ?_ ?_ ?_
            rotate_left 2
            ·(intro w hS; go_simp; try with_reducible rfl)
            ·(go_simp; try with_reducible rfl)
            refine rgL 17 rfl (fun _ _ _ h => h) (fun _ => (Same.refl wr).drew) ?_
            refine rgL 18 rfl (fun _ _ _ h => h) (fun _ => (Same.refl wr).drew) ?_
            refine late_one (i := 19) (by kernel_rfl) rfl (fun KR hKR => ?_)
            go_simp
            refine hKR _ _ (fun h0 => Bool.noConfusion (show (true : Bool) = false from h0)) ?_
            clear hKR KR
            refine late_done' (by kernel_rfl) ?_ _
            go_wp2_with fail
            go_roundw
            case rel => exact ⟨j + 1, by go_num, by omega, Lib.hid (by rw [HZ.out]; exact Blk.same HN.out ⟨1, rfl⟩), Lib.hid (HNB2.out.trans (Same.below ⟨1, rfl⟩ _))⟩
            case measure => simp [intOf]; omega
           ·have hje : j = 4 := by omega
            have hj4' : ¬ (j : Int) < 4 := by omega
            have HN := Lib.hid (show QBlk wr gw (rowW S (M + 1)) by
             rw [← rowX_next (by rw [HSL.out]; exact hM64) hM64, HFI.out]
             have h1 := HQj.out
             rw [hje] at h1
             exact h1)
            clear hje
            go_wp2_with fail
            go_roundw
            case rel => exact ⟨M + 1, by go_num, by omega, HN, HBj⟩
            case measure => simp [intOf]; omega
         ·as_aux_lemma =>
          have hM16' : ¬ (M : Int) < 16 := by omega
          have hM16n : 16 ≤ M := by omega
          have hSl : M ≤ S.length := by rw [HSL.out]; exact hM
          have a1 := QBlk.at HQ.out (rowW_get hSl (i := M - 15) (by omega))
          have a2 := QBlk.at HQ.out (rowW_get hSl (i := M - 2) (by omega))
          have a3 := QBlk.at HQ.out (rowW_get hSl (i := M - 16) (by omega))
          have a4 := QBlk.at HQ.out (rowW_get hSl (i := M - 7) (by omega))
          have a5 := QBlk.at HQX.out (rowX_get hSl 0)
          have f5 := Blk.frozen HQX.out M
          have HN := Lib.hid (show ∀ W : World, Same wr W → QBlk (W.setCell ⟨gw, M, none⟩ (.int .u64 (qI (up (S.getD M 0))))) gw (rowW S (M + 1)) from fun W hs => by
           have h1 := QBlk.put (Blk.same HQX.out hs) M (S.getD M 0)
           rwa [rowX_set hSl, rowX_next (by rw [HSL.out]; exact hM64) hM64] at h1)
          have HNB2 := Lib.hid (show ∀ W : World, Same wr W → Below gw wa (W.setCell ⟨gw, M, none⟩ (.int .u64 (qI (up (S.getD M 0))))) from fun W hs =>
           (HBw.out.trans (hs.below _)).setCell (p := ⟨gw, M, none⟩) (Nat.le_refl _) (.int .u64 (qI (up (S.getD M 0)))))
          have HNX := Lib.hid (HSR.out M hM16n hM64)
          clear hSl
          generalize S.getD M 0 = nx at *
          generalize S.getD (M - 15) 0 = x1 at *
          generalize S.getD (M - 2) 0 = x2 at *
          generalize S.getD (M - 16) 0 = x3 at *
          generalize S.getD (M - 7) 0 = x4 at *
          have i1 : IntKind.i64.wrap ((M : Int) - 15) = (M : Int) - 15 := IntWalk.i64_in _ (by omega)
          have i2 : IntKind.i64.wrap ((M : Int) - 2) = (M : Int) - 2 := IntWalk.i64_in _ (by omega)
          have i3 : IntKind.i64.wrap ((M : Int) - 16) = (M : Int) - 16 := IntWalk.i64_in _ (by omega)
          have i4 : IntKind.i64.wrap ((M : Int) - 7) = (M : Int) - 7 := IntWalk.i64_in _ (by omega)
          have j1 : (0 : Int) ≤ (M : Int) - 15 := by omega
          have j2 : (0 : Int) ≤ (M : Int) - 2 := by omega
          have j3 : (0 : Int) ≤ (M : Int) - 16 := by omega
          have j4 : (0 : Int) ≤ (M : Int) - 7 := by omega
          have o1 : (15 : Int) ≤ (M : Int) := by omega
          have o2 : (2 : Int) ≤ (M : Int) := by omega
          have o3 : (16 : Int) ≤ (M : Int) := by omega
          have o4 : (7 : Int) ≤ (M : Int) := by omega
          have k1 : (M : Int) - 15 < 64 := by omega
          have k2 : (M : Int) - 2 < 64 := by omega
          have k3 : (M : Int) - 16 < 64 := by omega
          have k4 : (M : Int) - 7 < 64 := by omega
          have l1 : ((M : Int) - 15).toNat = M - 15 := by omega
          have l2 : ((M : Int) - 2).toNat = M - 2 := by omega
          have l3 : ((M : Int) - 16).toNat = M - 16 := by omega
          have l4 : ((M : Int) - 7).toNat = M - 7 := by omega
          go_wp2_with fail
          refine wp_region_late (S := fun W => Same wr W) (s := 34) (by kernel_rfl) ?_
          refine rgL 0 rfl (fun _ _ _ h => h) (fun _ => (Same.refl wr).drew) ?_
          refine rgL 1 rfl (fun _ _ _ h => h) (fun _ => (Same.refl wr).drew) ?_
          refine rgL 2 rfl (fun _ _ _ h => h) (fun _ => (Same.refl wr).drew) ?_
          refine rgL 3 rfl (fun _ _ _ h => h) (fun _ => (Same.refl wr).drew) ?_
          refine rgL 4 rfl (fun _ _ _ h => h) (fun _ => (Same.refl wr).drew) ?_
          refine rgL 5 rfl (fun _ _ _ h => h) (fun _ => (Same.refl wr).drew) ?_
          refine late_load (i := 6) (m := 6) (v := ?_) (a' := ?_) rfl (by kernel_rfl) (by kernel_rfl) (by kernel_rfl) (by kernel_rfl) (by rfl) (fun _ _ _ h => h) (by rfl) (Same.refl wr).drew ?_ ?_ ?_
          rotate_left 2
          ·(intro w hS; have t := (hS.cell ⟨gw, M - 16, none⟩).trans a3; go_simp; try with_reducible rfl)
          ·(go_simp; try with_reducible rfl)
          refine rgL 7 rfl (fun _ _ _ h => h) (fun _ => (Same.refl wr).drew) ?_
          refine rgL 8 rfl (fun _ _ _ h => h) (fun _ => (Same.refl wr).drew) ?_
          refine rgL 9 rfl (fun _ _ _ h => h) (fun _ => (Same.refl wr).drew) ?_
          refine rgL 10 rfl (fun _ _ _ h => h) (fun _ => (Same.refl wr).drew) ?_
          refine late_load (i := 11) (m := 11) (v := ?_) (a' := ?_) rfl (by kernel_rfl) (by kernel_rfl) (by kernel_rfl) (by kernel_rfl) (by rfl) (fun _ _ _ h => h) (by rfl) (Same.refl wr).drew ?_ ?_ ?_
          rotate_left 2
          ·(intro w hS; have t := (hS.cell ⟨gw, M - 7, none⟩).trans a4; go_simp; try with_reducible rfl)
          ·(go_simp; try with_reducible rfl)
          refine rgL 12 rfl (fun _ _ _ h => h) (fun _ => (Same.refl wr).drew) ?_
          refine rgL 13 rfl (fun _ _ _ h => h) (fun _ => (Same.refl wr).drew) ?_
          refine rgL 15 rfl (fun _ _ _ h => h) (fun _ => (Same.refl wr).drew) ?_
          refine rgL 18 rfl (fun _ _ _ h => h) (fun _ => (Same.refl wr).drew) ?_
          refine rgL 22 rfl (fun _ _ _ h => h) (fun _ => (Same.refl wr).drew) ?_
          refine rgL 24 rfl (fun _ _ _ h => h) (fun _ => (Same.refl wr).drew) ?_
          refine rgL 27 rfl (fun _ _ _ h => h) (fun _ => (Same.refl wr).drew) ?_
          refine rgL 31 rfl (fun _ _ _ h => h) (fun _ => (Same.refl wr).drew) ?_
          refine late_one (i := 14) (by kernel_rfl) rfl (fun KR hKR => ?_)
          go_simp
          refine (turn_lit _ 7 (by decide) _).mono ?_
          rintro e wx ⟨rfl, hsm⟩
          have hS14 := ((Same.refl wr).drew).trans hsm
          refine hKR _ _ (fun _ => hS14) ?_
          clear hKR KR
          refine late_one (i := 16) (by kernel_rfl) rfl (fun KR hKR => ?_)
          go_simp
          refine (turn_lit _ 18 (by decide) _).mono ?_
          rintro e wx ⟨rfl, hsm⟩
          have hS16 := hS14.trans hsm
          refine hKR _ _ (fun _ => hS16) ?_
          clear hKR KR
          refine rgL 17 rfl (fun _ _ _ h => h) (fun _ => hS16) ?_
          refine late_one (i := 19) (by kernel_rfl) rfl (fun KR hKR => ?_)
          go_simp
          refine (drop_lit _ 3 (by decide) _).mono ?_
          rintro e wx ⟨rfl, rfl⟩
          refine hKR _ _ (fun _ => hS16) ?_
          clear hKR KR
          refine rgL 20 rfl (fun _ _ _ h => h) (fun _ => hS16) ?_
          refine rgL 21 rfl (fun _ _ _ h => h) (fun _ => hS16) ?_
          refine late_one (i := 23) (by kernel_rfl) rfl (fun KR hKR => ?_)
          go_simp
          refine (turn_lit _ 17 (by decide) _).mono ?_
          rintro e wx ⟨rfl, hsm⟩
          have hS23 := hS16.trans hsm
          refine hKR _ _ (fun _ => hS23) ?_
          clear hKR KR
          refine late_one (i := 25) (by kernel_rfl) rfl (fun KR hKR => ?_)
          go_simp
          refine (turn_lit _ 19 (by decide) _).mono ?_
          rintro e wx ⟨rfl, hsm⟩
          have hS25 := hS23.trans hsm
          refine hKR _ _ (fun _ => hS25) ?_
          clear hKR KR
          refine rgL 26 rfl (fun _ _ _ h => h) (fun _ => hS25) ?_
          refine late_one (i := 28) (by kernel_rfl) rfl (fun KR hKR => ?_)
          go_simp
          refine (drop_lit _ 10 (by decide) _).mono ?_
          rintro e wx ⟨rfl, rfl⟩
          refine hKR _ _ (fun _ => hS25) ?_
          clear hKR KR
          refine rgL 29 rfl (fun _ _ _ h => h) (fun _ => hS25) ?_
          refine rgL 30 rfl (fun _ _ _ h => h) (fun _ => hS25) ?_
          refine rgL 32 rfl (fun _ _ _ h => h) (fun _ => hS25) ?_
          refine rgL 33 rfl (fun _ _ _ h => h) (fun _ => hS25) ?_
          refine late_one (i := 34) (by kernel_rfl) rfl (fun KR hKR => ?_)
          have t := (hS25.cell ⟨gw, M, none⟩).trans a5
          have u := (hS25.frozen ⟨gw, M, none⟩).trans f5
          go_simp
          refine hKR _ _ (fun h0 => Bool.noConfusion (show (true : Bool) = false from h0)) ?_
          clear hKR KR
          refine late_done' (by kernel_rfl) ?_ _
          go_wp2_with fail
          rw [HNX.out] at HN HNB2
          go_roundw
          case rel => exact ⟨M + 1, by go_num, by omega, Lib.hid (HN.out _ hS25), Lib.hid (HNB2.out _ hS25)⟩
          case measure => simp [intOf]; omega
        ·have hMe : M = 64 := by omega
         have hM64' : ¬ (M : Int) < 64 := by omega
         have HQS := Lib.hid (show QBlk wr gw S by
          have h1 := HQ.out
          rw [hMe, rowW_all HSL.out] at h1
          exact h1)
         clear hMe hM64 hM HQ HW0 HB0 HPS HSR HY
         have hgw : gw < wr.heap.size := Blk.lt HQS.out
         have hH := HLR.out wr HBw.out
         obtain ⟨A3, c3, w3, hrun3, hap, hc1, hc2⟩ := append_sl elemU64 (own_made wr 91 1 (Nat.le_refl wr.heap.size)) ((QBlk.sl hH HS8.out).alloc (.cells #[] 91)) (q64_one s) (by omega) (by simp only [maxLen]; omega) (by simp) 108 8
         obtain ⟨gv, rfl, hgv1, hgv2⟩ := own_at hap.own (by omega)
         have HQA := Lib.hid (show QAt w3 gv s from QAt.ofSl (n := 0 + 8) (by have h1 := Sl.ofOwn hap.own; simpa using h1) (by omega))
         have HB3 := Lib.hid (show Below (gw + 1) wr w3 from (((Below.refl wr.heap.size wr).alloc (Nat.le_refl _) (.cells #[] 91)).trans hap.below).mono (by omega))
         have HG3 := Lib.hid (show gw < gv by omega)
         clear hap hH hgv1 hgv2
         go_wp2_with (at_builtin; refine wpList_run_append hrun3 ?_ ?_ ?_; exact rfl; exact rfl)
         clear hrun3 hgw
         obtain ⟨wb, rfl⟩ : ∃ wb : World, wb = wr := ⟨_, rfl⟩
         have HWW := Lib.hid (show ∀ R, R < 64 → ∃ x, S[R]? = some x from fun R hR => ⟨_, getD_get (by rw [HSL.out]; omega)⟩)
         go_loopw [16, 17] (fun v i wr => ∃ (R gv cv : Nat), v = .slice (some ⟨gv, 0, none⟩) 8 cv ∧ i = .int .i64 (R : Int) ∧ R ≤ 64 ∧ gw < gv ∧ Hid (QAt wr gv (rndsW S s R)) ∧ Hid (Below (gw + 1) wb wr)) (fun _ i _ => 64 - (intOf i).toNat)
         case atStart => exact ⟨0, gv, c3, rfl, rfl, by omega, HG3.out, HQA, HB3⟩
         case round =>
          obtain ⟨R, gv, cv, rfl, rfl, hR, hgg, HV, HBr⟩ := hrel
          have HBRA := Lib.hid (show Below gw wa wr from HBw.out.trans (HBr.out.mono (by omega)))
          by_cases hR64 : R < 64
          ·have hR64' : (R : Int) < 64 := by omega
           obtain ⟨x, hx⟩ := HWW.out R hR64
           have hkx : shaK[R]? = some (shaK.getD R 0) := getD_get (by rw [shaK_length]; exact hR64)
           have ck := QBlk.at (HLK.out wr HBRA.out) hkx
           have cw := QBlk.at (show QBlk wr gw S from Blk.below HQS.out HBr.out (by omega)) hx
           have hstep : rndsW S s (R + 1) = rnd (shaK.getD R 0) x (rndsW S s R) := by
            rw [rndsW, show S.getD R 0 = x by rw [List.getD_eq_getElem?_getD, hx]; rfl]
           have HST := Lib.hid hstep
           obtain ⟨a0, b', c', d, e, f, g', h, hl8⟩ := list8 (rndsW_length S s HS8.out R)
           rw [hl8] at HV HST
           have v0 := HV.out.cell 0 _ rfl
           have v1 := HV.out.cell 1 _ rfl
           have v2 := HV.out.cell 2 _ rfl
           have v3 := HV.out.cell 3 _ rfl
           have v4 := HV.out.cell 4 _ rfl
           have v5 := HV.out.cell 5 _ rfl
           have v6 := HV.out.cell 6 _ rfl
           have v7 := HV.out.cell 7 _ rfl
           have hk1 : IntKind.i64.wrap ((R : Int) + 1) = (R : Int) + 1 := IntWalk.i64_in _ (by omega)
           clear hx hkx hstep hl8
           generalize shaK.getD R 0 = kk at *
           have hrn : rnd kk x [a0, b', c', d, e, f, g', h] = [(h + (rotr e 6 ^^^ rotr e 11 ^^^ rotr e 25) + ((e &&& f) ^^^ (~~~e &&& g')) + kk + x) + ((rotr a0 2 ^^^ rotr a0 13 ^^^ rotr a0 22) + ((a0 &&& b') ^^^ (a0 &&& c') ^^^ (b' &&& c'))), a0, b', c', d + (h + (rotr e 6 ^^^ rotr e 11 ^^^ rotr e 25) + ((e &&& f) ^^^ (~~~e &&& g')) + kk + x), e, f, g'] := rfl
           rw [hrn] at HST
           clear hrn
           have HW8 := Lib.hid (show ∀ W : World, Same wr W → QAt (W.alloc (.cells (q64 (rndsW S s (R + 1))).toArray 91)) wr.heap.size (rndsW S s (R + 1)) from fun W hs => by
            have h1 := QBlk.qat (Blk.new W 91 (q64 (rndsW S s (R + 1))).toArray)
            rwa [hs.size] at h1)
           have HW9 := Lib.hid (show ∀ (W : World) (o : Obj), Same wr W → Below (gw + 1) wb (W.alloc o) from fun W o hs => by
            have hz := HBr.out.size
            have hz2 := Blk.lt HQS.out
            exact (HBr.out.trans (hs.below _)).alloc (by rw [hs.size]; omega) _)
           have HWG := Lib.hid (show gw < wr.heap.size by have hz := HBr.out.size; have hz2 := Blk.lt HQS.out; omega)
           rw [HST.out] at HW8
           go_wp2_with fail
           go_quiet (fail)
           go_wp2_with fail
           go_quiet (fail)
           go_wp2_with fail
           go_quiet ((go_at_call 46; exact quiet_s2 (turn_lit _ _ (by decide) _)))
           go_wp2_with fail
           go_quiet ((go_at_call 46; exact quiet_s2 (turn_lit _ _ (by decide) _)))
           go_upto_region 36 with fail
           refine wp_region_late (S := fun W => Same wr W) (s := 30) (by kernel_rfl) ?_
           refine rgL 0 rfl (fun _ _ _ h => h) (fun _ => (((((Same.refl wr).drewN _).drewN _).drewN _).drewN _).drew) ?_
           refine rgL 1 rfl (fun _ _ _ h => h) (fun _ => (((((Same.refl wr).drewN _).drewN _).drewN _).drewN _).drew) ?_
           refine rgL 2 rfl (fun _ _ _ h => h) (fun _ => (((((Same.refl wr).drewN _).drewN _).drewN _).drewN _).drew) ?_
           refine rgL 3 rfl (fun _ _ _ h => h) (fun _ => (((((Same.refl wr).drewN _).drewN _).drewN _).drewN _).drew) ?_
           refine rgL 4 rfl (fun _ _ _ h => h) (fun _ => (((((Same.refl wr).drewN _).drewN _).drewN _).drewN _).drew) ?_
           refine rgL 5 rfl (fun _ _ _ h => h) (fun _ => (((((Same.refl wr).drewN _).drewN _).drewN _).drewN _).drew) ?_
           refine rgL 6 rfl (fun _ _ _ h => h) (fun _ => (((((Same.refl wr).drewN _).drewN _).drewN _).drewN _).drew) ?_
           refine late_load (i := 7) (m := 7) (v := ?_) (a' := ?_) rfl (by kernel_rfl) (by kernel_rfl) (by kernel_rfl) (by kernel_rfl) (by rfl) (fun _ _ _ h => h) (by rfl) (((((Same.refl wr).drewN _).drewN _).drewN _).drewN _).drew ?_ ?_ ?_
           rotate_left 2
           ·(intro w hS; have t := (hS.cell ⟨gv, 0, none⟩).trans v0; go_simp; try with_reducible rfl)
           ·(go_simp; try with_reducible rfl)
           refine rgL 8 rfl (fun _ _ _ h => h) (fun _ => (((((Same.refl wr).drewN _).drewN _).drewN _).drewN _).drew) ?_
           refine rgL 9 rfl (fun _ _ _ h => h) (fun _ => (((((Same.refl wr).drewN _).drewN _).drewN _).drewN _).drew) ?_
           refine late_load (i := 10) (m := 10) (v := ?_) (a' := ?_) rfl (by kernel_rfl) (by kernel_rfl) (by kernel_rfl) (by kernel_rfl) (by rfl) (fun _ _ _ h => h) (by rfl) (((((Same.refl wr).drewN _).drewN _).drewN _).drewN _).drew ?_ ?_ ?_
           rotate_left 2
           ·(intro w hS; have t := (hS.cell ⟨gv, 1, none⟩).trans v1; go_simp; try with_reducible rfl)
           ·(go_simp; try with_reducible rfl)
           refine rgL 11 rfl (fun _ _ _ h => h) (fun _ => (((((Same.refl wr).drewN _).drewN _).drewN _).drewN _).drew) ?_
           refine rgL 12 rfl (fun _ _ _ h => h) (fun _ => (((((Same.refl wr).drewN _).drewN _).drewN _).drewN _).drew) ?_
           refine late_load (i := 13) (m := 13) (v := ?_) (a' := ?_) rfl (by kernel_rfl) (by kernel_rfl) (by kernel_rfl) (by kernel_rfl) (by rfl) (fun _ _ _ h => h) (by rfl) (((((Same.refl wr).drewN _).drewN _).drewN _).drewN _).drew ?_ ?_ ?_
           rotate_left 2
           ·(intro w hS; have t := (hS.cell ⟨gv, 2, none⟩).trans v2; go_simp; try with_reducible rfl)
           ·(go_simp; try with_reducible rfl)
           refine rgL 14 rfl (fun _ _ _ h => h) (fun _ => (((((Same.refl wr).drewN _).drewN _).drewN _).drewN _).drew) ?_
           refine rgL 15 rfl (fun _ _ _ h => h) (fun _ => (((((Same.refl wr).drewN _).drewN _).drewN _).drewN _).drew) ?_
           refine late_loadc (i := 16) [20, 18] (v := ?_) (a' := ?_) rfl (by kernel_rfl) (by kernel_rfl) (by kernel_rfl) (by kernel_rfl) (by rfl) (fun _ _ _ h => h) (by rfl) (((((Same.refl wr).drewN _).drewN _).drewN _).drewN _).drew ?_ ?_ ?_
           rotate_left 2
           ·(intro w hS; have t := (hS.cell ⟨gv, 3, none⟩).trans v3; go_simp; try with_reducible rfl)
           ·(go_simp; try with_reducible rfl)
           refine rgL 17 rfl (fun _ _ _ h => h) (fun _ => (((((Same.refl wr).drewN _).drewN _).drewN _).drewN _).drew) ?_
           refine rgL 18 rfl (fun _ _ _ h => h) (fun _ => (((((Same.refl wr).drewN _).drewN _).drewN _).drewN _).drew) ?_
           refine rgL 19 rfl (fun _ _ _ h => h) (fun _ => (((((Same.refl wr).drewN _).drewN _).drewN _).drewN _).drew) ?_
           refine rgL 20 rfl (fun _ _ _ h => h) (fun _ => (((((Same.refl wr).drewN _).drewN _).drewN _).drewN _).drew) ?_
           refine rgL 21 rfl (fun _ _ _ h => h) (fun _ => (((((Same.refl wr).drewN _).drewN _).drewN _).drewN _).drew) ?_
           refine rgL 22 rfl (fun _ _ _ h => h) (fun _ => (((((Same.refl wr).drewN _).drewN _).drewN _).drewN _).drew) ?_
           refine late_load (i := 23) (m := 23) (v := ?_) (a' := ?_) rfl (by kernel_rfl) (by kernel_rfl) (by kernel_rfl) (by kernel_rfl) (by rfl) (fun _ _ _ h => h) (by rfl) (((((Same.refl wr).drewN _).drewN _).drewN _).drewN _).drew ?_ ?_ ?_
           rotate_left 2
           ·(intro w hS; have t := (hS.cell ⟨gv, 4, none⟩).trans v4; go_simp; try with_reducible rfl)
           ·(go_simp; try with_reducible rfl)
           refine rgL 24 rfl (fun _ _ _ h => h) (fun _ => (((((Same.refl wr).drewN _).drewN _).drewN _).drewN _).drew) ?_
           refine rgL 25 rfl (fun _ _ _ h => h) (fun _ => (((((Same.refl wr).drewN _).drewN _).drewN _).drewN _).drew) ?_
           refine late_load (i := 26) (m := 26) (v := ?_) (a' := ?_) rfl (by kernel_rfl) (by kernel_rfl) (by kernel_rfl) (by kernel_rfl) (by rfl) (fun _ _ _ h => h) (by rfl) (((((Same.refl wr).drewN _).drewN _).drewN _).drewN _).drew ?_ ?_ ?_
           rotate_left 2
           ·(intro w hS; have t := (hS.cell ⟨gv, 5, none⟩).trans v5; go_simp; try with_reducible rfl)
           ·(go_simp; try with_reducible rfl)
           refine rgL 27 rfl (fun _ _ _ h => h) (fun _ => (((((Same.refl wr).drewN _).drewN _).drewN _).drewN _).drew) ?_
           refine rgL 28 rfl (fun _ _ _ h => h) (fun _ => (((((Same.refl wr).drewN _).drewN _).drewN _).drewN _).drew) ?_
           refine late_load (i := 29) (m := 29) (v := ?_) (a' := ?_) rfl (by kernel_rfl) (by kernel_rfl) (by kernel_rfl) (by kernel_rfl) (by rfl) (fun _ _ _ h => h) (by rfl) (((((Same.refl wr).drewN _).drewN _).drewN _).drewN _).drew ?_ ?_ ?_
           rotate_left 2
           ·(intro w hS; have t := (hS.cell ⟨gv, 6, none⟩).trans v6; go_simp; try with_reducible rfl)
           ·(go_simp; try with_reducible rfl)
           refine late_one (i := 30) (by kernel_rfl) rfl (fun KR hKR => ?_)
           go_simp
           refine hKR _ _ (fun h0 => Bool.noConfusion (show (true : Bool) = false from h0)) ?_
           clear hKR KR
           refine rgL 31 rfl (fun _ _ _ h => h) (fun h0 => Bool.noConfusion (show (true : Bool) = false from h0)) ?_
           refine late_done' (by kernel_rfl) ?_ _
           go_wp2_with fail
           go_roundw
           case rel =>
            refine ⟨R + 1, wr.heap.size, 8, rfl, by go_num, by omega, HWG.out, Lib.hid ?_, Lib.hid ?_⟩
            ·rw [HST.out]
             exact HW8.out _ (Same.drewN (Same.refl wr) _)
            ·exact HW9.out _ _ (Same.drewN (Same.refl wr) _)
           case measure => simp [intOf]; omega
          ·as_aux_lemma =>
           have hRe : R = 64 := by omega
           have hR64' : ¬ (R : Int) < 64 := by omega
           obtain ⟨V, hV⟩ : ∃ V, V = rndsW S s 64 := ⟨_, rfl⟩
           have HVV := Lib.hid (show QAt wr gv V by have h1 := HV.out; rw [hRe, ← hV] at h1; exact h1)
           have HVL := Lib.hid (show V.length = 8 by rw [hV]; exact rndsW_length S s HS8.out 64)
           have HEND := Lib.hid (show addTo s V 8 = blockS s blk by rw [addTo_all HS8.out HVL.out, HBS.out, hV])
           have HA0 := Lib.hid (show QBlk wr gh (addTo s V 0) from HLR.out wr HBRA.out)
           have HBT := Lib.hid (show Below gh wh wr from HBh.out.trans (HBRA.out.mono (by have := HSZ.out; omega)))
           have HNE := Lib.hid (show gv ≠ gh by have := HSZ.out; omega)
           clear hRe hV hR64 HV HQA HB3 HG3 HWW hR HBS
           go_wp2_with fail
           go_loopw [22] (fun i wr => ∃ R : Nat, i = .int .i64 (R : Int) ∧ R ≤ 8 ∧ Hid (QBlk wr gh (addTo s V R)) ∧ Hid (QAt wr gv V) ∧ Hid (Below gh wh wr)) (fun i _ => 8 - (intOf i).toNat)
           case atStart => exact ⟨0, rfl, by omega, HA0, HVV, HBT⟩
           case round =>
            obtain ⟨R, rfl, hR, HA, HV, HBt⟩ := hrel
            by_cases hR8 : R < 8
            ·have hR8' : (R : Int) < 8 := by omega
             have g1 := QBlk.at HA.out (getD_get (l := addTo s V R) (i := R) (by rw [addTo_length, HS8.out]; exact hR8))
             have g2 := HV.out.cell R _ (getD_get (l := V) (i := R) (by rw [HVL.out]; exact hR8))
             have g3 := Blk.frozen HA.out R
             have HNX := Lib.hid (show QBlk (wr.setCell ⟨gh, R, none⟩ (.int .u64 (qI (up ((addTo s V R).getD R 0 + V.getD R 0))))) gh (addTo s V (R + 1)) from QBlk.put HA.out R _)
             have HNV := Lib.hid (HV.out.other HNE.out R (.int .u64 (qI (up ((addTo s V R).getD R 0 + V.getD R 0)))))
             have HNG := Lib.hid (HBt.out.setCell (p := ⟨gh, R, none⟩) (Nat.le_refl _) (.int .u64 (qI (up ((addTo s V R).getD R 0 + V.getD R 0)))))
             have hk1 : IntKind.i64.wrap ((R : Int) + 1) = (R : Int) + 1 := IntWalk.i64_in _ (by omega)
             generalize (addTo s V R).getD R 0 = x1 at *
             generalize V.getD R 0 = x2 at *
             go_wp2_with fail
             refine wp_region_late (S := fun W => Same wr W) (s := 14) (by kernel_rfl) ?_
             refine rgL 0 rfl (fun _ _ _ h => h) (fun _ => (Same.refl wr).drew) ?_
             refine rgL 1 rfl (fun _ _ _ h => h) (fun _ => (Same.refl wr).drew) ?_
             refine rgL 2 rfl (fun _ _ _ h => h) (fun _ => (Same.refl wr).drew) ?_
             refine rgL 3 rfl (fun _ _ _ h => h) (fun _ => (Same.refl wr).drew) ?_
             refine rgL 4 rfl (fun _ _ _ h => h) (fun _ => (Same.refl wr).drew) ?_
             refine late_load (i := 5) (m := 5) (v := ?_) (a' := ?_) rfl (by kernel_rfl) (by kernel_rfl) (by kernel_rfl) (by kernel_rfl) (by rfl) (fun _ _ _ h => h) (by rfl) (Same.refl wr).drew ?_ ?_ ?_
             rotate_left 2
             ·(intro w hS; have t := (hS.cell ⟨gh, R, none⟩).trans g1; go_simp; try with_reducible rfl)
             ·(go_simp; try with_reducible rfl)
             refine rgL 6 rfl (fun _ _ _ h => h) (fun _ => (Same.refl wr).drew) ?_
             refine rgL 7 rfl (fun _ _ _ h => h) (fun _ => (Same.refl wr).drew) ?_
             refine rgL 8 rfl (fun _ _ _ h => h) (fun _ => (Same.refl wr).drew) ?_
             refine late_load (i := 9) (m := 9) (v := ?_) (a' := ?_) rfl (by kernel_rfl) (by kernel_rfl) (by kernel_rfl) (by kernel_rfl) (by rfl) (fun _ _ _ h => h) (by rfl) (Same.refl wr).drew ?_ ?_ ?_
             rotate_left 2
             ·(intro w hS; have t := (hS.cell ⟨gv, R, none⟩).trans g2; go_simp; try with_reducible rfl)
             ·(go_simp; try with_reducible rfl)
             refine rgL 10 rfl (fun _ _ _ h => h) (fun _ => (Same.refl wr).drew) ?_
             refine rgL 11 rfl (fun _ _ _ h => h) (fun _ => (Same.refl wr).drew) ?_
             refine rgL 12 rfl (fun _ _ _ h => h) (fun _ => (Same.refl wr).drew) ?_
             refine rgL 13 rfl (fun _ _ _ h => h) (fun _ => (Same.refl wr).drew) ?_
             refine late_one (i := 14) (by kernel_rfl) rfl (fun KR hKR => ?_)
             go_simp
             refine hKR _ _ (fun h0 => Bool.noConfusion (show (true : Bool) = false from h0)) ?_
             clear hKR KR
             refine late_done' (by kernel_rfl) ?_ _
             go_wp2_with fail
             go_roundw
             case rel => exact ⟨R + 1, by go_num, by omega, Lib.hid (Blk.same HNX.out ⟨1, rfl⟩), Lib.hid (HNV.out.same ⟨1, rfl⟩), Lib.hid (HNG.out.trans (Same.below ⟨1, rfl⟩ _))⟩
             case measure => simp [intOf]; omega
            ·have hRe : R = 8 := by omega
             have hR8' : ¬ (R : Int) < 8 := by omega
             have HF := Lib.hid (show QBlk wr gh (blockS s blk) by rw [← HEND.out, ← hRe]; exact HA.out)
             have ha1 : IntKind.i64.wrap ((a : Int) + 64) = (a : Int) + 64 := IntWalk.i64_in _ (by omega)
             have HAM := Lib.hid (show (a + 64) % 64 = 0 by have := ha64.out; omega)
             clear hRe
             go_wp2_with fail
             go_roundw
             case rel => exact ⟨a + 64, blockS s blk, by go_num, ha2, HAM, Lib.hid (blockS_length HS8.out _), HF, Lib.hid (by rw [HBL.out, ← HBK.out, HNB.out]), HBt⟩
             case measure => simp [intOf]; omega
      ·as_aux_lemma =>
       have hae : a = m := by omega
       have hlt' : ¬ (a : Int) < (m : Int) := by omega
       have HGE := Lib.hid (show shaG b = bytesU s by
        rw [HG.out, HBL.out, hae, blocksS_short (by rw [List.length_drop, HPL.out]; omega)])
       have HOL := Lib.hid (show (bytesU s).length = 32 by rw [bytesU_length, HS8.out])
       have HRW := Lib.hid (show Blk wr W0.heap.size 33 zID from Blk.below HR4.out HBh.out (by have := HRG.out; have := HSK.out; omega))
       have HBW := Lib.hid (show Below W0.heap.size W0 wr from HB4.out.trans (HBh.out.mono (by have := HRG.out; have := HSK.out; omega)))
       clear hae HMK HPD HR4 HB4 HAT HK HH HBH HBh hlt
       have HI0 := Lib.hid (Blk.new wr 33 zID)
       have HRA := Lib.hid (HRW.out.alloc (.cells zID 33))
       have HBA := Lib.hid (HBW.out.alloc HBW.out.size (.cells zID 33))
       have HHA := Lib.hid (Blk.alloc HHs.out (.cells zID 33))
       have HGO := Lib.hid (show W0.heap.size < wr.heap.size ∧ gh < wr.heap.size from ⟨HRW.out.lt, Blk.lt HHs.out⟩)
       go_upto_region 42 with (refine wpList_store_row rfl _ _ _ rfl wr.heap.size zID rfl rfl 33 _ (heap_alloc_new wr _) (id_size (by simp)) rfl (id_one _) ?_)
       rw [World.setRow_alloc_new]
       go_frame
       change Code.wp _ _ _ _ (wr.alloc (.cells zID 33))
       generalize wr.alloc (.cells zID 33) = wz at *
       generalize hgo : wr.heap.size = go at *
       clear hgo HRW HBW HHs
       have HI1 := Lib.hid (show Blk wz go 33 (bytesV (fill (bytesU s) 0)).toArray by rw [fill_zero, HOL.out]; exact HI0.out)
       go_wp2_with fail
       go_loopw [24] (fun i wr => ∃ q : Nat, i = .int .i64 (q : Int) ∧ q ≤ 32 ∧ Hid (Blk wr go 33 (bytesV (fill (bytesU s) q)).toArray) ∧ Hid (Blk wr W0.heap.size 33 zID) ∧ Hid (Below W0.heap.size W0 wr) ∧ Hid (QBlk wr gh s)) (fun i _ => 32 - (intOf i).toNat)
       case atStart => exact ⟨0, rfl, by omega, HI1, HRA, HBA, HHA⟩
       case round =>
        obtain ⟨q, rfl, hq, HI, HRr, HBr, HHr⟩ := hrel
        by_cases hq32 : q < 32
        ·have hq32' : (q : Int) < 32 := by omega
         have q0 : (0 : Int) ≤ (q : Int) := by omega
         have hx : s[q / 4]? = some (s.getD (q / 4) 0) := getD_get (by rw [HS8.out]; omega)
         have ch := QBlk.at HHr.out hx
         have hby := bytesU_get hx (show q % 4 < 4 by omega)
         rw [show 4 * (q / 4) + q % 4 = q by omega] at hby
         have c1 := (HI.out.cell q).trans (bytesV_arr (fill_hole (l := bytesU s) (m := q) (by rw [HOL.out]; omega)))
         have c2 := HI.out.frozen q
         have hfp := fill_put hby
         generalize s.getD (q / 4) 0 = x at *
         obtain ⟨y, hy⟩ : ∃ y, y = UInt8.ofNat (x.toNat / 2 ^ (24 - 8 * (q % 4))) := ⟨_, rfl⟩
         rw [← hy] at hfp
         have hst := HI.out.set_ q (.int .u8 (y.toNat : Int))
         rw [sbytesV_set, hfp] at hst
         have HIN := Lib.hid hst
         have HRN := Lib.hid (HRr.out.other (g' := go) (by have := HGO.out; omega) q (.int .u8 (y.toNat : Int)))
         have HBN := Lib.hid (HBr.out.setCell (p := ⟨go, q, none⟩) (by have := HGO.out; show W0.heap.size ≤ go; omega) (.int .u8 (y.toNat : Int)))
         have HHN := Lib.hid (Blk.other HHr.out (g' := go) (by have := HGO.out; omega) q (.int .u8 (y.toNat : Int)))
         have r1 : (q : Int).tdiv 4 = ((q / 4 : Nat) : Int) := by rw [Int.tdiv_eq_ediv_of_nonneg q0]; omega
         have r2 : (q : Int).tmod 4 = ((q % 4 : Nat) : Int) := by rw [Int.tmod_eq_emod_of_nonneg q0]; omega
         have r1' : (q : Int) / 4 = ((q / 4 : Nat) : Int) := by omega
         have r2' : (q : Int) % 4 = ((q % 4 : Nat) : Int) := by omega
         have hq4 : q / 4 < 8 := by omega
         have hr4 : q % 4 < 4 := by omega
         have hk1 : IntKind.i64.wrap ((q : Int) + 1) = (q : Int) + 1 := IntWalk.i64_in _ (by omega)
         clear hx hby hst hfp
         generalize q / 4 = qa at *
         generalize q % 4 = qb at *
         have s1 : IntKind.i64.wrap (qa : Int) = (qa : Int) := IntWalk.i64_in _ (by omega)
         have s2 : IntKind.i64.wrap (qb : Int) = (qb : Int) := IntWalk.i64_in _ (by omega)
         have s3 : IntKind.i64.wrap (8 * (qb : Int)) = 8 * (qb : Int) := IntWalk.i64_in _ (by omega)
         have s4 : IntKind.i64.wrap (24 - 8 * (qb : Int)) = ((24 - 8 * qb : Nat) : Int) := by rw [IntWalk.i64_in _ (by omega)]; omega
         have s5 : (0 : Int) ≤ (qa : Int) := by omega
         have s6 : (qa : Int) < 8 := by omega
         obtain ⟨e, he⟩ : ∃ e, e = 24 - 8 * qb := ⟨_, rfl⟩
         rw [← he] at s4 hy
         have he32 : e < 32 := by omega
         have hz := shr_toNat x he32
         have hyz : (y.toNat : Int) = qI (up (x >>> UInt32.ofNat e)) % 256 := by rw [qI_up, hz, hy, UInt8.toNat_ofNat']; omega
         have hyl := y.toNat_lt
         have d1 : (qI (up (x >>> UInt32.ofNat e))).tmod 256 = (y.toNat : Int) := by rw [Int.tmod_eq_emod_of_nonneg (qI_nonneg _), hyz]
         have d2 : qI (up (x >>> UInt32.ofNat e)) % 256 = (y.toNat : Int) := hyz.symm
         have d3 : IntKind.u64.wrap (y.toNat : Int) = (y.toNat : Int) := IntWalk.u64_in _ (by omega)
         have d4 : (y.toNat : Int) % 256 = (y.toNat : Int) := by omega
         have d5 : IntKind.u8.wrap (y.toNat : Int) = (y.toNat : Int) := by simp only [IntKind.wrap, IntKind.bits, IntKind.signed]; simp; omega
         have HDR := Lib.hid (drop_any x e he32 wr)
         clear hyz hz hy he hyl
         generalize x >>> UInt32.ofNat e = z at *
         go_wp2_with fail
         refine HDR.out.mono ?_
         rintro e' wx ⟨rfl, rfl⟩
         go_wp2_with fail
         go_roundw
         case rel => exact ⟨q + 1, by go_num, by omega, HIN, HRN, HBN, HHN⟩
         case measure => simp [intOf]; omega
        ·have hqe : q = 32 := by omega
         have hq32' : ¬ (q : Int) < 32 := by omega
         have HIN := Lib.hid (show Blk wr go 33 (bytesV (bytesU s)).toArray by
          have h1 := HI.out
          rw [hqe, show 32 = (bytesU s).length from HOL.out.symm, sfill_all] at h1
          exact h1)
         obtain ⟨IV, hIV⟩ : ∃ IV, IV = (bytesV (bytesU s)).toArray := ⟨_, rfl⟩
         rw [← hIV] at HIN
         have HII := Lib.hid (show (Tryz.prog.info? 33).map (·.size) = some IV.size by rw [hIV]; exact id_size HOL.out)
         have HON := Lib.hid (show IV.all (·.oneCell') = true by rw [hIV]; exact id_one _)
         have HSI := Lib.hid (show IV.size = 32 by rw [hIV]; simp [bytesV, HOL.out])
         have HIV := Lib.hid hIV
         clear hIV hqe hq32 HI
         go_upto_region 46 with fail
         go_wp2_with (first | (refine wpList_load_row rfl _ _ rfl go rfl 33 IV (0, 0) _ HIN.out Tryz.underlying33 rfl HII.out ?_) | (refine wpList_store_row rfl _ _ _ rfl W0.heap.size IV rfl rfl 33 _ HRr.out HII.out (by rw [HSI.out]; rfl) HON.out ?_))
         refine bodyPost_ret (v := .agg IV) (results_cell_row rfl _ _ W0.heap.size 33 IV (0, 0) _ rfl (setRow_heap wr W0.heap.size _ _ _ _ HRr.out) Tryz.underlying33 rfl HII.out) rfl ⟨?_, below_setRow HBr.out (Nat.le_refl _) _⟩
         rw [HIV.out, HGE.out]
end Go.Proofs.YtgmbkcjihgphmaaGreat
