/- sha.Sum. -/
import Derived.Test.YtknbbekinpamjaaShaBlock1
import Derived.Test.YtknbbekinpamjaaShaSumLaw
set_option linter.unusedVariables false
namespace Go.Proofs.Ytknbbekinpamjaa
open Go.RowKit
attribute [local go_sem ↓] cutA_eq

theorem elemU8 : ElemOf Try.prog 22 5 (.int .u8 0) 1 1 := ⟨Try.underlying22, by kernel_rfl, rfl, by decide⟩

/-- what stands while a sum is made: the state, the result's cells, all else as it was -/
structure SumS (w wr : World) (s : List UInt32) : Prop where
  st : WBlk wr (w.heap.size + 1) 56 s
  res : Blk wr w.heap.size 25 (bytesV (List.replicate 32 0)).toArray
  below : Below w.heap.size w wr
  size : w.heap.size + 2 ≤ wr.heap.size
  len : s.length = 8
section
variable {w wr w' : World} {s s' : List UInt32}
theorem SumS.start (w : World) : SumS w ((w.alloc (.cells (bytesV (List.replicate 32 0)).toArray 25)).alloc (.cells (wV shaH).toArray 56)) shaH :=
  ⟨by have := Blk.new (w.alloc (.cells (bytesV (List.replicate 32 0)).toArray 25)) 56 (wV shaH).toArray; simpa using this, (Blk.new w _ _).alloc _,
    ((Below.refl _ _).alloc (Nat.le_refl _) _).alloc (by simp) _, by simp, rfl⟩
theorem SumS.app (h : SumS w wr s) (hb : Below (w.heap.size + 2) wr w') : SumS w w' s :=
  ⟨h.st.below hb (by omega), h.res.below hb (by omega), h.below.trans (hb.mono (by omega)), Nat.le_trans h.size hb.size, h.len⟩
theorem SumS.turn (h : SumS w wr s) (hg : wr.grownBy w' (some (w.heap.size + 1))) (hs : WBlk w' (w.heap.size + 1) 56 s') (hl : s'.length = 8) : SumS w w' s' :=
  ⟨hs, h.res.grown hg (by intro e; injection e with e; omega), h.below.grown hg (by have := h.size; omega) (by intro k e; injection e with e; omega), Nat.le_trans h.size hg.size, hl⟩
theorem SumS.alloc (h : SumS w wr s) (o : Obj) : SumS w (wr.alloc o) s := h.app ((Below.refl _ _).alloc h.size o)
end
theorem block_buf {w wr : World} {s : List UInt32} (hS : SumS w wr s) {A : Option Addr} {n c : Nat} {R : List UInt8} (hb : Buf wr (w.heap.size + 2) A n c (bytesV R)) (h64 : 64 ≤ n) :
    Calls Try.prog 24 #[.pointer (some ⟨w.heap.size + 1, 0, none⟩), .slice A n c] wr fun e w' => e = .returned (.tuple #[]) ∧ SumS w w' (blockS s (R.take 64)) ∧ Buf w' (w.heap.size + 2) A n c (bytesV R) := by
  obtain ⟨g, off, rfl, hg, hl⟩ := hb.at (by have := hb.le; omega)
  refine (block_any (w.heap.size + 1) g n c off s R wr hS.st hS.len hb.sl h64 hb.le hb.max (by omega)).mono ?_
  rintro e w' ⟨rfl, h1, h2⟩
  exact ⟨rfl, hS.turn h2 h1 (blockS_length hS.len _), hb.grown h2 (by omega)⟩

set_option maxRecDepth 100000 in
set_option maxHeartbeats 4000000 in
theorem sum_any (A : Option Addr) (n c : Nat) (vs : List Value) (ls : List (List UInt8)) (w : World) (hs : Sl w 1 A n vs) (hv : AllB w vs ls) (hn : n ≤ 1000000000) (hf : ls.flatten.length ≤ 1000000000) :
    Calls Try.prog 11 #[.slice A n c] w fun e w' => e = .returned (.agg (bytesV (shaG ls.flatten)).toArray) ∧ Below w.heap.size w w' := by
  have hl : ls.length = n := by have := hs.1; have := hv.1; omega
  have HL := Lib.hid hl
  have HIS := Lib.hid hs
  have HV := Lib.hid hv
  have HST := Lib.hid (SumS.start w)
  clear hl hs hv
  go_enter Try.func11, Try.ntmps11
  go_wp2_with fail
  go_loopw [4, 5, 16] (fun r u i wr => ∃ (k : Nat) (F R : List UInt8) (Ao : Option Addr) (co : Nat), k ≤ n ∧ i = .int .i64 k ∧ u = .int .u64 (F.length : Nat) ∧ r = .slice Ao R.length co ∧
      Hid (F = (ls.take k).flatten) ∧ Hid (R = tailS F) ∧ Hid (Buf wr (w.heap.size + 2) Ao R.length co (bytesV R)) ∧ Hid (SumS w wr (blocksS shaH F))) (fun _ _ i _ => n - (intOf i).toNat)
  case atStart =>
    refine ⟨0, [], [], none, 0, by omega, rfl, rfl, rfl, Lib.hid (by simp), Lib.hid ?_, Lib.hid Buf.nil, Lib.hid ?_⟩
    · exact (tailS_short (by simp)).symm
    · rw [blocksS_short (by simp)]; exact HST.out
  case round =>
    obtain ⟨k, F, R, Ao, co, hk, rfl, rfl, rfl, HF, HR, HB, HS⟩ := hrel
    by_cases hlt : k < n
    · obtain ⟨b, off, A', c', l, rfl, hb, hc, hlk, hsl, hl1, hl2⟩ := HV.out.look HIS.out hlt
      have hcr := (HS.out.below.cell (p := ⟨b, off + k, none⟩) hb).trans hc
      have hfs := flat_take_succ hlk
      rw [← HF.out] at hfs
      have hle := flat_take_le ls (k + 1)
      rw [hfs, List.length_append] at hle
      have hRl : R.length < 64 := by rw [HR.out, tailS_length]; exact Nat.mod_lt _ (by omega)
      obtain ⟨A2, c2, w2, hrun, hb2, hbe2⟩ := buf_append elemU8 HB.out (hsl.below (HS.out.below.mono (Nat.le_refl _))) (bytesV_one l) (by omega) (by simp only [maxLen]; omega) HS.out.size 22 c'
      have HB2 := Lib.hid (show Buf w2 (w.heap.size + 2) A2 (R.length + l.length) c2 (bytesV (R ++ l)) by simpa [bytesV] using hb2)
      have HS2 := Lib.hid (HS.out.app hbe2)
      have HQ1 := Lib.hid (show blocksS (blocksS shaH F) (R ++ l) = blocksS shaH (F ++ l) by rw [blocksS_append shaH, HR.out])
      have HQ2 := Lib.hid (show tailS (R ++ l) = tailS (F ++ l) by rw [tailS_append F, ← HR.out])
      have hln : l.length ≤ 1000000000 := by omega
      have hw1 : IntKind.u64.wrap (l.length : Int) = (l.length : Int) := IntWalk.u64_in _ (by omega)
      have hw2 : IntKind.u64.wrap ((F.length : Int) + (l.length : Int)) = (F.length : Int) + (l.length : Int) := IntWalk.u64_in _ (by omega)
      have HLE := Lib.hid hle
      have HFS := Lib.hid hfs
      clear hc hfs hlk hsl hb2 hbe2 hle
      have HLR := Lib.hid (show (R ++ l).length = R.length + l.length from List.length_append)
      obtain ⟨R2, hR2⟩ : ∃ R2, R2 = R ++ l := ⟨_, rfl⟩
      rw [← hR2] at HB2 HQ1 HQ2 HLR
      clear hR2
      have hk1 : IntKind.i64.wrap ((k : Int) + 1) = (k : Int) + 1 := IntWalk.i64_in _ (by omega)
      have HLF := Lib.hid (show (F ++ l).length = F.length + l.length from List.length_append)
      obtain ⟨F2, hF2⟩ : ∃ F2, F2 = F ++ l := ⟨_, rfl⟩
      rw [← hF2] at HQ1 HQ2 HLF HFS
      clear hF2
      go_wp2_with (at_builtin; refine wpList_run_append hrun ?_ ?_ ?_; exact rfl; exact rfl)
      go_loopw [4] (fun r wr => ∃ (Q : List UInt8) (s : List UInt32) (Ao : Option Addr) (m co : Nat), r = .slice Ao m co ∧ Hid (Buf wr (w.heap.size + 2) Ao m co (bytesV Q)) ∧ Hid (SumS w wr s) ∧ Hid (blocksS s Q = blocksS shaH F2) ∧ Hid (tailS Q = tailS F2)) (fun r _ => lenOf r)
      case atStart => exact ⟨R2, _, A2, _, c2, rfl, HB2, HS2, HQ1, HQ2⟩
      case round =>
        obtain ⟨Q, s, Ao, m, co, rfl, HB3, HS3, HQ3, HQ4⟩ := hrel
        have HQl := Lib.hid (show Q.length = m by have := HB3.out.len; rwa [bytesV_length] at this)
        have hmc := HB3.out.le
        have hmm := HB3.out.max
        simp only [maxLen] at hmm
        by_cases h64 : 64 ≤ m
        · have h64' : (64 : Int) ≤ (m : Int) := by omega
          have h65' : (64 : Int) ≤ (co : Int) := by omega
          have HBC := Lib.hid (HB3.out.cut h64)
          go_wp2_with fail
          refine (block_buf HS3.out HB3.out h64).mono ?_
          rintro e wk ⟨rfl, hS4, hB4⟩
          have HB5 := Lib.hid (hB4.cut h64)
          have HS4 := Lib.hid hS4
          clear hS4 hB4 HBC
          go_wp2_with fail
          go_roundw
          case rel =>
            refine ⟨Q.drop 64, _, _, _, _, rfl, Lib.hid (by rw [← bytesV_drop]; exact HB5.out), HS4, Lib.hid ?_, Lib.hid ?_⟩
            · rw [← HQ3.out, blocksS_step (s := s) (b := Q) (by rw [HQl.out]; exact h64)]
            · rw [← HQ4.out, tailS_step (b := Q) (by rw [HQl.out]; exact h64)]
          case measure => simp [lenOf]; omega
        · have h64' : ¬ (64 : Int) ≤ (m : Int) := by omega
          go_wp2_with fail
          go_roundw
          case rel =>
            have e1 := HQ3.out
            have e2 := HQ4.out
            rw [blocksS_short (by rw [HQl.out]; omega)] at e1
            rw [tailS_short (by rw [HQl.out]; omega)] at e2
            exact ⟨k + 1, F2, Q, Ao, co, by omega, by go_num, by rw [HLF.out]; go_num, by rw [HQl.out], Lib.hid HFS.out.symm, Lib.hid e2, by rw [HQl.out]; exact HB3, by rw [← e1]; exact HS3⟩
          case measure => simp [intOf]; omega
    · have hkn : k = n := by omega
      have hkk : ¬ (k : Int) < (n : Int) := by omega
      have HT := Lib.hid (show F = ls.flatten by rw [HF.out, List.take_of_length_le (by rw [HL.out]; omega)])
      have HRl := Lib.hid (show R.length = F.length % 64 by rw [HR.out, tailS_length])
      have hRl : R.length < 64 := by rw [HRl.out]; exact Nat.mod_lt _ (by omega)
      have hFl : F.length ≤ 1000000000 := by rw [HT.out]; exact hf
      obtain ⟨A2, c2, w2, hrun, hb2, hbe2⟩ := buf_append elemU8 (HB.out.alloc (.cells #[.int .u8 128] 5)) (Sl.one wr (.int .u8 128) 5) (by simp [Value.oneCell']) (by omega) (by simp only [maxLen]; omega) (by have := HS.out.size; simp; omega) 22 1
      have HB2 := Lib.hid (show Buf w2 (w.heap.size + 2) A2 (R.length + 1) c2 (bytesV (R ++ 128 :: List.replicate 0 0)) by simpa [bytesV] using hb2)
      have HS2 := Lib.hid ((HS.out.alloc (.cells #[.int .u8 128] 5)).app hbe2)
      clear hb2 hbe2 hkn hlt HST HV HIS HL HF HB HS
      go_wp2_with (at_builtin; refine wpList_run_append hrun ?_ ?_ ?_; exact rfl; exact rfl)
      go_loopw [4] (fun r wr => ∃ (j : Nat) (Ao : Option Addr) (m co : Nat), r = .slice Ao m co ∧ Hid (m = R.length + 1 + j) ∧ j ≤ padZ F.length ∧ Hid (Buf wr (w.heap.size + 2) Ao m co (bytesV (R ++ 128 :: List.replicate j 0))) ∧ Hid (SumS w wr (blocksS shaH F))) (fun r _ => 128 - lenOf r)
      case atStart => exact ⟨0, A2, _, c2, rfl, Lib.hid rfl, Nat.zero_le _, HB2, HS2⟩
      case round =>
        obtain ⟨j, Ao, m, co, rfl, hm, hj, HB3, HS3⟩ := hrel
        have hend := padZ_end HRl.out hj
        rw [← hm.out] at hend
        have hpz := padZ_lt F.length
        have hml : m ≤ 128 := by rw [hm.out]; omega
        by_cases hjl : j < padZ F.length
        · have hg : ¬ m % 64 = 56 := fun h => by have := hend.1 h; omega
          obtain ⟨A3, c3, w3, hrun3, hb3, hbe3⟩ := buf_append elemU8 (HB3.out.alloc (.cells #[.int .u8 0] 5)) (Sl.one wr (.int .u8 0) 5) (by simp [Value.oneCell']) (by omega) (by simp only [maxLen]; omega) (by have := HS3.out.size; simp; omega) 22 1
          have HB4 := Lib.hid (show Buf w3 (w.heap.size + 2) A3 (m + 1) c3 (bytesV (R ++ 128 :: List.replicate (j + 1) 0)) by rw [List.replicate_succ', ← List.cons_append, ← List.append_assoc]; simpa [bytesV] using hb3)
          have HS4 := Lib.hid ((HS3.out.alloc (.cells #[.int .u8 0] 5)).app hbe3)
          have hgi : ¬ (m : Int) % 64 = 56 := by omega
          clear hb3 hbe3 hend
          go_wp2_with (at_builtin; refine wpList_run_append hrun3 ?_ ?_ ?_; exact rfl; exact rfl)
          go_roundw
          case rel => exact ⟨j + 1, A3, m + 1, c3, rfl, Lib.hid (by rw [hm.out]; omega), by omega, HB4, HS4⟩
          case measure => have hmo := hm.out; simp [lenOf]; omega
        · have hje : j = padZ F.length := by omega
          have hg : m % 64 = 56 := hend.2 hje
          have hgi : (m : Int) % 64 = 56 := by omega
          clear hend
          have HP0 := Lib.hid (show R ++ 128 :: List.replicate j 0 = R ++ 128 :: (List.replicate (padZ F.length) 0 ++ (lenB F.length).take 0) by rw [hje, List.take_zero, List.append_nil])
          rw [HP0.out] at HB3
          have HM := Lib.hid (show m = R.length + 1 + padZ F.length + 0 by have := hm.out; omega)
          clear hje hjl hm HP0
          go_wp2_with fail
          clear hg hgi
          obtain ⟨wo, rfl⟩ : ∃ wo : World, wo = wr := ⟨_, rfl⟩
          go_loopw [4, 8] (fun r i wr => ∃ (k : Nat) (Ao : Option Addr) (m co : Nat), k ≤ 8 ∧ i = .int .i64 (56 - 8 * (k : Int)) ∧ r = .slice Ao m co ∧ Hid (m = R.length + 1 + padZ F.length + k) ∧ Hid (Buf wr (w.heap.size + 2) Ao m co (bytesV (R ++ 128 :: (List.replicate (padZ F.length) 0 ++ (lenB F.length).take k)))) ∧ Hid (SumS w wr (blocksS shaH F))) (fun _ i _ => (intOf i + 8).toNat)
          case atStart => exact ⟨0, Ao, m, co, by omega, rfl, rfl, HM, HB3, HS3⟩
          case round =>
            obtain ⟨q, Ao, m, co, hq, rfl, rfl, hm, HB3, HS3⟩ := hrel
            have hml : m ≤ 200 := by rw [hm.out]; omega
            by_cases hq8 : q < 8
            · have hi0 : 8 * (q : Int) ≤ 56 := by omega
              have hi1 : (0 : Int) ≤ 56 - 8 * (q : Int) := by omega
              have hx : ((UInt8.ofNat (8 * F.length / 2 ^ (56 - 8 * q))).toNat : Int) = (F.length : Int) * 8 / 2 ^ (56 - 8 * q) % 256 := by
                rw [UInt8.toNat_ofNat', Nat.mul_comm]; push_cast; rfl
              obtain ⟨A3, c3, w3, hrun3, hb3, hbe3⟩ := buf_append elemU8 (HB3.out.alloc (.cells #[.int .u8 ((F.length : Int) * 8 / 2 ^ (56 - 8 * q) % 256)] 5)) (Sl.one wr (.int .u8 ((F.length : Int) * 8 / 2 ^ (56 - 8 * q) % 256)) 5) (by simp [Value.oneCell']) (by omega) (by simp only [maxLen]; omega) (by have := HS3.out.size; simp; omega) 22 1
              have HB4 := Lib.hid (show Buf w3 (w.heap.size + 2) A3 (m + 1) c3 (bytesV (R ++ 128 :: (List.replicate (padZ F.length) 0 ++ (lenB F.length).take (q + 1)))) by
                rw [lenB_succ hq8, ← List.append_assoc (List.replicate _ _), ← List.cons_append, ← List.append_assoc]
                rw [← hx] at hb3
                simpa [bytesV] using hb3)
              have HS4 := Lib.hid ((HS3.out.alloc (.cells #[.int .u8 ((F.length : Int) * 8 / 2 ^ (56 - 8 * q) % 256)] 5)).app hbe3)
              have hi8 : IntKind.i64.wrap (56 - 8 * (q : Int) - 8) = 56 - 8 * ((q : Int) + 1) := by rw [IntWalk.i64_in _ (by omega)]; omega
              clear hb3 hbe3 hx
              go_wp2_with (at_builtin; refine wpList_run_append hrun3 ?_ ?_ ?_; exact rfl; exact rfl)
              go_roundw
              case rel =>
                exact ⟨q + 1, A3, m + 1, c3, by omega, by first | rfl | go_num | (simp; omega), rfl, Lib.hid (by rw [hm.out]; omega), HB4, HS4⟩
              case measure => simp [intOf]; omega
            · have hqe : q = 8 := by omega
              have hi0 : ¬ 8 * (q : Int) ≤ 56 := by omega
              have HPW := Lib.hid (padL_whole F)
              have HG := Lib.hid (shaG_tail F)
              rw [← HR.out] at HPW HG
              have HB4 := Lib.hid (show Buf wr (w.heap.size + 2) Ao m co (bytesV (R ++ padL F.length)) by
                have h1 := HB3.out
                rw [hqe, List.take_of_length_le (by rw [lenB_length]; omega)] at h1
                exact h1)
              have HW := Lib.hid (show (R ++ padL F.length).length % 64 = 0 from HPW.out)
              clear HPW hqe hq8 hm
              obtain ⟨S8, hS8⟩ : ∃ S8, S8 = blocksS (blocksS shaH F) (R ++ padL F.length) := ⟨_, rfl⟩
              rw [← hS8] at HG
              have HS8 := Lib.hid hS8.symm
              clear hS8 HB3
              generalize blocksS shaH F = s0 at *
              generalize R ++ padL F.length = Q0 at *
              go_wp2_with fail
              obtain ⟨wo, rfl⟩ : ∃ wo : World, wo = wr := ⟨_, rfl⟩
              go_loopw [4] (fun r wr => ∃ (Q : List UInt8) (s : List UInt32) (Ao : Option Addr) (m co : Nat), r = .slice Ao m co ∧ Hid (Buf wr (w.heap.size + 2) Ao m co (bytesV Q)) ∧ Hid (SumS w wr s) ∧ Hid (blocksS s Q = S8) ∧ Hid (Q.length % 64 = 0)) (fun r _ => lenOf r)
              case atStart => exact ⟨Q0, s0, Ao, m, co, rfl, HB4, HS3, HS8, HW⟩
              case round =>
                obtain ⟨Q, s, Ao, m, co, rfl, HB3, HS3, HQ3, HQ4⟩ := hrel
                have HQl := Lib.hid (show Q.length = m by have := HB3.out.len; rwa [bytesV_length] at this)
                have hmc := HB3.out.le
                have hmm := HB3.out.max
                simp only [maxLen] at hmm
                by_cases h0 : 0 < m
                · have h64 : 64 ≤ m := by have h1 := HQ4.out; rw [HQl.out] at h1; omega
                  have h64' : (64 : Int) ≤ (m : Int) := by omega
                  have h65' : (64 : Int) ≤ (co : Int) := by omega
                  have h0' : (0 : Int) < (m : Int) := by omega
                  go_wp2_with fail
                  refine (block_buf HS3.out HB3.out h64).mono ?_
                  rintro e wk ⟨rfl, hS4, hB4⟩
                  have HB5 := Lib.hid (hB4.cut h64)
                  have HS4 := Lib.hid hS4
                  clear hS4 hB4
                  go_wp2_with fail
                  go_roundw
                  case rel =>
                    refine ⟨Q.drop 64, _, _, _, _, rfl, Lib.hid (by rw [← bytesV_drop]; exact HB5.out), HS4, Lib.hid ?_, Lib.hid ?_⟩
                    · rw [← HQ3.out, blocksS_step (s := s) (b := Q) (by rw [HQl.out]; exact h64)]
                    · have h1 := HQ4.out
                      rw [List.length_drop]; rw [HQl.out] at h1 ⊢; omega
                  case measure => simp [lenOf]; omega
                · have h0' : ¬ (0 : Int) < (m : Int) := by omega
                  have HE := Lib.hid (show s = S8 by rw [← HQ3.out, blocksS_short (by rw [HQl.out]; omega)])
                  have hst := HS3.out.st
                  have hss := Blk.alloc hst (.cells (bytesV (List.replicate 32 0)).toArray 25)
                  have HS5 := Lib.hid (HS3.out.alloc (.cells (bytesV (List.replicate 32 0)).toArray 25))
                  have HI0 := Lib.hid (Blk.new wr 25 (bytesV (List.replicate 32 0)).toArray)
                  have HOL := Lib.hid (show (bytesU s).length = 32 by rw [bytesU_length, HS3.out.len])
                  have HL8 := Lib.hid HS3.out.len
                  have HSZ := Lib.hid HS3.out.size
                  obtain ⟨KV, hKV⟩ : ∃ KV, KV = (wV s).toArray := ⟨_, rfl⟩
                  rw [← hKV] at hss
                  have hks : (Try.prog.info? 56).map (·.size) = some KV.size := by
                    have : KV.size = 8 := by rw [hKV]; simp [wV, HL8.out]
                    have h2 : (Try.prog.info? 56).map (·.size) = some 8 := by kernel_rfl
                    rw [this]; exact h2
                  have HKV := Lib.hid hKV
                  have HSS := Lib.hid hss
                  have HKS := Lib.hid hks
                  clear hKV hst hss hks HB3 HS3 HQ3 HQ4 HB4 HW HS8
                  go_upto_region 24 with fail
                  go_wp2_with (refine wpList_load_row rfl _ _ rfl (w.heap.size + 1) rfl 56 KV (0, 0) _ HSS.out Try.underlying56 rfl HKS.out ?_)
                  clear h0' h0 hi0
                  obtain ⟨wo, rfl⟩ : ∃ wo : World, wo = wr := ⟨_, rfl⟩
                  have HB0 := Lib.hid HS5.out.below
                  have HR0 := Lib.hid HS5.out.res
                  have HI1 := Lib.hid (show Blk (wo.alloc (.cells (bytesV (List.replicate 32 0)).toArray 25)) wo.heap.size 25 (bytesV (fill (bytesU s) (4 * 0))).toArray by rw [Nat.mul_zero, fill_zero, HOL.out]; exact HI0.out)
                  clear HS5 HSS HI0
                  go_loopw [66] (fun i wr => ∃ q : Nat, i = .int .i64 q ∧ q ≤ 8 ∧ Hid (Blk wr wo.heap.size 25 (bytesV (fill (bytesU s) (4 * q))).toArray) ∧ Hid (Blk wr w.heap.size 25 (bytesV (List.replicate 32 0)).toArray) ∧ Hid (Below w.heap.size w wr)) (fun i _ => 8 - (intOf i).toNat)
                  case atStart => exact ⟨0, rfl, by omega, HI1, HR0, HB0⟩
                  case round =>
                    obtain ⟨q, rfl, hq, HI, HRr, HBr⟩ := hrel
                    by_cases hlt : q < 8
                    · have hlt' : (q : Int) < 8 := by omega
                      have hx : s[q]? = some (s.getD q 0) := getD_get (by rw [HL8.out]; exact hlt)
                      have hidx := run_index_agg (P := Try.prog) Try.underlying56 (by kernel_rfl) Try.underlying54 hlt (show KV[q]? = some (.int .u32 (uI (s.getD q 0))) by rw [HKV.out]; exact wV_arr hx)
                      have HX := Lib.hid hx
                      have hq1 : IntKind.i64.wrap ((q : Int) + 1) = (q : Int) + 1 := IntWalk.i64_in _ (by omega)
                      clear hx
                      generalize s.getD q 0 = x at *
                      go_wp2_with fail
                      clear hidx
                      obtain ⟨wp, rfl⟩ : ∃ wp : World, wp = wr := ⟨_, rfl⟩
                      go_loopw [70] (fun i wr => ∃ p : Nat, i = .int .i64 p ∧ p ≤ 4 ∧ Hid (Blk wr wo.heap.size 25 (bytesV (fill (bytesU s) (4 * q + p))).toArray) ∧ Hid (Blk wr w.heap.size 25 (bytesV (List.replicate 32 0)).toArray) ∧ Hid (Below w.heap.size w wr)) (fun i _ => 4 - (intOf i).toNat)
                      case atStart => exact ⟨0, rfl, by omega, HI, HRr, HBr⟩
                      case round =>
                        obtain ⟨p, rfl, hp, HI2, HR2, HB2'⟩ := hrel
                        by_cases hp4 : p < 4
                        · have hp4' : (p : Int) < 4 := by omega
                          have hb := bytesU_get HX.out hp4
                          have hfp := fill_put hb
                          have c1 := (HI2.out.cell (4 * q + p)).trans (bytesV_arr (fill_hole (l := bytesU s) (m := 4 * q + p) (by rw [HOL.out]; omega)))
                          have c2 := HI2.out.frozen (4 * q + p)
                          have hst := HI2.out.set_ (4 * q + p) (.int .u8 ((UInt8.ofNat (x.toNat / 2 ^ (24 - 8 * p))).toNat : Int))
                          rw [bytesV_set, hfp, shr_byte] at hst
                          have HIN := Lib.hid hst
                          have HRN := Lib.hid (HR2.out.other (g' := wo.heap.size) (by have := HSZ.out; omega) (4 * q + p) (.int .u8 (uI x / 2 ^ (24 - 8 * p) % 256)))
                          have HBN := Lib.hid (HB2'.out.setCell (p := ⟨wo.heap.size, 4 * q + p, none⟩) (by have := HSZ.out; show w.heap.size ≤ wo.heap.size; omega) (.int .u8 (uI x / 2 ^ (24 - 8 * p) % 256)))
                          have m1 : IntKind.i64.wrap (4 * (q : Int)) = 4 * (q : Int) := IntWalk.i64_in _ (by omega)
                          have m2 : IntKind.i64.wrap (4 * (q : Int) + (p : Int)) = 4 * (q : Int) + (p : Int) := IntWalk.i64_in _ (by omega)
                          have m3 : IntKind.i64.wrap (8 * (p : Int)) = 8 * (p : Int) := IntWalk.i64_in _ (by omega)
                          have m4 : IntKind.i64.wrap (24 - 8 * (p : Int)) = 24 - 8 * (p : Int) := IntWalk.i64_in _ (by omega)
                          have m5 : (0 : Int) ≤ 24 - 8 * (p : Int) := by omega
                          have m6 : 8 * (p : Int) ≤ 24 := by omega
                          have m7 : (24 - 8 * (p : Int)).toNat = 24 - 8 * p := by omega
                          have m8 : (0 : Int) ≤ 4 * (q : Int) + (p : Int) := by omega
                          have m9 : 4 * (q : Int) + (p : Int) < 32 := by omega
                          have m10 : (4 * (q : Int) + (p : Int)).toNat = 4 * q + p := by omega
                          have hp1 : IntKind.i64.wrap ((p : Int) + 1) = (p : Int) + 1 := IntWalk.i64_in _ (by omega)
                          clear hb hfp hst
                          go_wp2_with fail
                          go_roundw
                          case rel => exact ⟨p + 1, by go_num, by omega, HIN, HRN, HBN⟩
                          case measure => simp [intOf]; omega
                        · have hpe : p = 4 := by omega
                          have hp4' : ¬ (p : Int) < 4 := by omega
                          have HIN := Lib.hid (show Blk wr wo.heap.size 25 (bytesV (fill (bytesU s) (4 * (q + 1)))).toArray by have h1 := HI2.out; rw [hpe] at h1; exact h1)
                          go_wp2_with fail
                          go_roundw
                          case rel => exact ⟨q + 1, by go_num, by omega, HIN, HR2, HB2'⟩
                          case measure => simp [intOf]; omega
                    · have hqe : q = 8 := by omega
                      have hlt' : ¬ (q : Int) < 8 := by omega
                      have HIN := Lib.hid (show Blk wr wo.heap.size 25 (bytesV (bytesU s)).toArray by
                        have h1 := HI.out
                        rw [hqe, show 4 * 8 = (bytesU s).length from HOL.out.symm, fill_all] at h1
                        exact h1)
                      obtain ⟨IV, hIV⟩ : ∃ IV, IV = (bytesV (bytesU s)).toArray := ⟨_, rfl⟩
                      rw [← hIV] at HIN
                      have hiv : IV.size = 32 := by rw [hIV]; simp [bytesV, HOL.out]
                      have hone : IV.all (·.oneCell') = true := by
                        rw [hIV, Array.all_eq_true']
                        intro v hv
                        exact bytesV_one _ v (by simpa using hv)
                      have hii : (Try.prog.info? 25).map (·.size) = some IV.size := by
                        have h2 : (Try.prog.info? 25).map (·.size) = some 32 := by kernel_rfl
                        rw [hiv]; exact h2
                      have HIV := Lib.hid hIV
                      have HSI := Lib.hid hiv
                      have HON := Lib.hid hone
                      have HII := Lib.hid hii
                      clear hIV hiv hone hii hqe hlt
                      go_upto_region 33 with fail
                      go_wp2_with (first | (refine wpList_load_row rfl _ _ rfl wo.heap.size rfl 25 IV (0, 0) _ HIN.out Try.underlying25 rfl HII.out ?_) | (refine wpList_store_row rfl _ _ _ rfl w.heap.size IV rfl rfl 25 _ HRr.out HII.out (by rw [HSI.out]; rfl) HON.out ?_))
                      refine bodyPost_ret (v := .agg IV) (results_cell_row rfl _ _ w.heap.size 25 IV (0, 0) _ rfl (setRow_heap wr w.heap.size _ _ _ _ HRr.out) Try.underlying25 rfl HII.out) rfl ⟨?_, below_setRow HBr.out (Nat.le_refl _) _⟩
                      rw [HIV.out, HE.out, ← HG.out, HT.out]
end Go.Proofs.Ytknbbekinpamjaa
