/- towlinelaw21.TalkServes: true for every input. -/
import Derived.Test.YtgmbkcjihgphmaaJn27
import Derived.Test.YtgmbkcjihgphmaaJn30
import Derived.Test.YtgmbkcjihgphmaaJn31
import Derived.Test.YtgmbkcjihgphmaaJn7
import Derived.Deep.CutBlock
import Derived.Deep.DeepCutAuto
import Derived.Deep.OwnRows
set_option linter.unusedVariables false
set_option linter.unusedSimpArgs false
namespace Go.Proofs.Ytgmbkcjihgphmaa
open Go.RowKit
attribute [local go_sem ↓] bsId_eq cvt_eq bsRec_eq

theorem mkBytes (M : Nat) (hM : M ≤ 4294967280) (w : World) : (Instr.makeSlice 28 (.int .i64 (M : Int)) (.int .i64 (M : Int))).run Try.prog w = .ok (.slice (some ⟨w.heap.size, 0, none⟩) M M) (w.alloc (.cells (madeCells #[.int .u8 0] M) 5)) :=
  run_make_row' (P := Try.prog) 28 5 (.int .u8 0) 1 Try.underlying28 (by kernel_rfl) rfl .i64 .i64 M (by omega) (by omega) w
theorem made_zero (M : Nat) : (madeCells #[.int .u8 0] M).toList = bytesV (List.replicate M 0) := by
  apply List.ext_getElem?
  intro i
  unfold madeCells bytesV
  by_cases hi : i < M
  · simp [hi, Nat.mod_one]
  · simp [hi]
set_option maxRecDepth 100000 in
theorem idB_built (x : UInt8) : Try.prog.built 33 [(0, .int .u8 (x.toNat : Int))] = some (bytesV (x :: List.replicate 31 0)).toArray := by kernel_rfl

set_option maxRecDepth 100000 in
set_option maxHeartbeats 16000000 in
theorem talkServes_any (A0 : Option Addr) (c0 : Nat) (l0 : List MkT) (A1 : Option Addr) (c1 : Nat) (l1 : List Int) (x2 : Int) (W0 : World) (nc0 : l0.length ≤ c0) (cm0 : c0 ≤ maxLen) (s0 : SlOf mkR W0 no A0 l0) (b0 : bulkL bulkM l0 + 1 ≤ 1048576)
    (nc1 : l1.length ≤ c1) (cm1 : c1 ≤ maxLen) (s1 : SlOf (intR .i64) W0 no A1 l1) (b1 : bulkL (fun _ => 1) l1 + 1 ≤ 1048576) (w2 : (Lit.int .i64 x2).wf = true) :
    Calls Try.prog 3 #[.slice A0 l0.length c0, .slice A1 l1.length c1, .int .i64 x2] W0 fun e w' => e = .returned (.bool true) ∧ Below W0.heap.size W0 w' := by
  have HMS := Lib.hid (makes_small b0)
  have HS0 := Lib.hid s0
  have HS1 := Lib.hid s1
  obtain ⟨n0, hn0⟩ : ∃ n0, n0 = l0.length := ⟨_, rfl⟩
  obtain ⟨n1, hn1⟩ : ∃ n1, n1 = l1.length := ⟨_, rfl⟩
  have HN0 := Lib.hid hn0
  have HN1 := Lib.hid hn1.symm
  rw [← hn0, ← hn1]
  have HWF := Lib.hid w2
  clear nc0 cm0 s0 b0 nc1 cm1 s1 b1 w2 hn0 hn1
  go_enter Try.func3, Try.ntmps3
  go_wp2_with fail
  refine (awake_talk _).mono ?_
  rintro e w1 ⟨rfl, hb1⟩
  have HB1 := Lib.hid hb1
  have HS01 := Lib.hid (HS0.out.below hb1)
  have HS11 := Lib.hid (HS1.out.below hb1)
  clear hb1
  by_cases hbig : 24 < n0 ∨ (n0 ≤ 24 ∧ 40 < n1)
  · rcases hbig with h | ⟨h, h'⟩
    · have h1 : (24 : Int) < (n0 : Int) := by omega
      go_wp2_with fail
      go_ret
      exact ⟨rfl, HB1.out⟩
    · have h1 : ¬ (24 : Int) < (n0 : Int) := by omega
      have h2 : (40 : Int) < (n1 : Int) := by omega
      have h3 : ¬ 24 < n0 := by omega
      go_wp2_with fail
      go_ret
      exact ⟨rfl, HB1.out⟩
  have h1 : ¬ (24 : Int) < (n0 : Int) := by omega
  have h2 : ¬ (40 : Int) < (n1 : Int) := by omega
  have h3 : ¬ 24 < n0 := by omega
  have h4 : ¬ 40 < n1 := by omega
  have HLE := Lib.hid (show n0 ≤ 24 ∧ n1 ≤ 40 by omega)
  have HMD := Lib.hid (made_any A0 n0 c0 l0 w1 HS01.out HN0.out (by omega) HMS.out)
  clear hbig
  go_wp2_with fail
  refine HMD.out.mono ?_
  rintro e w2 ⟨Ao, m, co, Bo, mb, cb, rs, bs, rfl, hmi, hrl, hbl⟩
  have HMI := Lib.hid hmi
  have HRL := Lib.hid (show m = n0 ∧ m ≤ 24 from by have := hmi.len; have := HLE.out; omega)
  have HS12 := Lib.hid (HS11.out.below hmi.below)
  clear hmi hrl hbl h1 h2 h3 h4 HMD HS01 HS12 HS0 HS1
  go_upto_region 6 with fail
  go_cut [34] (fun s34 wx => s34 = .bool (decide (0 < x2) && decide (x2 < 65536)) ∧ w2 = wx)
  case first =>
    by_cases h0 : 0 < x2
    · have h0' : decide (0 < x2) = true := by simpa using h0
      have h1 := Lib.hid (show (decide (0 < x2) && decide (x2 < 65536)) = decide (x2 < 65536) by rw [h0']; rfl)
      go_wp2_with fail
      go_meet
      case rel => exact ⟨by rw [h1.out], rfl⟩
    · have h0' : decide (0 < x2) = false := by simpa using h0
      go_wp2_with fail
      go_meet
      case rel => exact ⟨by rw [h0']; rfl, rfl⟩
  case rest =>
  obtain ⟨rfl, rfl⟩ := hcut
  go_upto_if 34 with fail
  go_cut [7] (fun s7 wx => ∃ (A : Option Addr) (k c : Nat) (rs : List RecT), s7 = .slice A k c ∧ k ≤ 25 ∧ Hid (MI w1 wx A k c Bo mb cb rs bs))
  case first =>
    by_cases h0 : 0 < x2 ∧ x2 < 65536
    · have hd : (decide (0 < x2) && decide (x2 < 65536)) = true := by simpa using h0
      rw [hd]
      obtain ⟨M, rfl⟩ : ∃ M : Nat, x2 = (M : Int) := ⟨x2.toNat, by omega⟩
      have hM : M ≤ 65536 := by omega
      have hmk := mkBytes M (by omega)
      have hsl : Sl (w2.alloc (.cells (madeCells #[.int .u8 0] M) 5)) 1 (some ⟨w2.heap.size, 0, none⟩) M (bytesV (List.replicate M 0)) := by
        rw [← made_zero]
        exact Sl.fresh w2 (madeCells #[.int .u8 0] M) 5 (0, 0) M 1 (by simp [madeCells])
      have HPC := Lib.hid (putChunk_any _ M M _ _ hsl (Nat.le_refl _) (by simp only [maxLen]; omega))
      have HBA := Lib.hid (show Below w2.heap.size w2 (w2.alloc (.cells (madeCells #[.int .u8 0] M) 5)) from (Below.refl _ _).alloc (Nat.le_refl _) _)
      clear hsl hd h0
      go_wp2_with fail
      refine HPC.out.mono ?_
      rintro e w5 hp
      obtain ⟨D2, nd2, cd2, d2, z5, rfl, hda, hb5⟩ := enc_data hp (fun o h => chunk_len h)
      have HDX := Lib.hid hda
      have HI5 := Lib.hid ((HMI.out.go HBA.out).go hb5)
      clear hp hda hb5 HPC HBA hmk HMI
      obtain ⟨sm, hsm⟩ : ∃ sm, sm = shaG d2 := ⟨_, rfl⟩
      have h32 : sm.length = 32 := by rw [hsm]; exact shaG_len32 _
      obtain ⟨KB, hKB⟩ : ∃ KB, KB = (bytesV sm).toArray := ⟨_, rfl⟩
      obtain ⟨sq, hsq⟩ : ∃ sq : ByteArray, sq = ⟨d2.toArray⟩ := ⟨_, rfl⟩
      have HCV := Lib.hid (fun w (h : Below w5.heap.size w5 w) => show cvt w D2 nd2 cd2 = .ok (.string sq) w from by rw [hsq]; exact cvt_of (HDX.out.sl.below h) cd2)
      obtain ⟨KE, hKE⟩ : ∃ KE, KE = recK sm sq := ⟨_, rfl⟩
      have hbe := Lib.hid (show ∀ w, (Instr.build 36 #[(0, .agg KB), (1, .string sq)]).run Try.prog w = .ok (.agg KE) w from fun w => by rw [hKB, hKE]; exact run_build w _ _ _ (built_rec sq sm h32))
      have hKs : KE.size = 33 := by rw [hKE]; exact recK_size h32 _
      have HGR := Lib.hid (show sm = shaG (dB sq) ∧ sq.size ≤ 1048576 from ⟨by rw [hsq]; simp [dB, hsm], by rw [hsq]; have := HDX.out.len; have := HDX.out.small; simp [ByteArray.size]; omega⟩)
      have HKE := Lib.hid hKE
      have hbs := fun w => bsRec_of w KE hKs
      go_upto_region 8 with fail
      obtain ⟨wd, hwd⟩ : ∃ wd, wd = w5.drew := ⟨_, rfl⟩
      have HWD := Lib.hid hwd
      have hbd : Below w5.heap.size w5 wd := by rw [hwd]; exact Same.below ⟨1, rfl⟩ _
      have HBD := Lib.hid hbd
      have hba : Below wd.heap.size wd (wd.alloc (.cells #[.slice D2 nd2 cd2] 28)) := (Below.refl _ _).alloc (Nat.le_refl _) _
      have HBA := Lib.hid (hbd.trans (hba.mono hbd.size))
      have HSU := Lib.hid (show Calls Try.prog 9 #[.slice (some ⟨wd.heap.size, 0, none⟩) 1 1] (wd.alloc (.cells #[.slice D2 nd2 cd2] 28)) fun e w' => e = .returned (.agg KB) ∧ Below (wd.alloc (.cells #[.slice D2 nd2 cd2] 28)).heap.size (wd.alloc (.cells #[.slice D2 nd2 cd2] 28)) w' by
        have h := sum_any (some ⟨wd.heap.size, 0, none⟩) 1 1 [.slice D2 nd2 cd2] [d2] (wd.alloc (.cells #[.slice D2 nd2 cd2] 28)) (by have := Sl.one wd (.slice D2 nd2 cd2) 28; simpa using this) ((AllB.nil _).snoc (SlB.of (HDX.out.sl.below HBA.out) HDX.out.cap HDX.out.max)) (by omega) (by have := HDX.out.len; have := HDX.out.small; simp; omega)
        have e : [d2].flatten = d2 := by simp
        rw [e] at h
        rw [hKB, hsm]; exact h)
      clear hsm hKB hsq hKE hKs h32 HDX hwd hbd hba
      refine wp_region_late (S := fun w' => Below w5.heap.size w5 w') (s := 8) (by kernel_rfl) ?_
      change wpAnyL _ _ _ _ _ _ _ _ _ (World.drew _)
      rw [← HWD.out]
      refine late_pure (i := 0) (v := ?_) (a' := ?_) rfl (by kernel_rfl) (by kernel_rfl) (by kernel_rfl) (by rfl) (fun _ _ _ h => h) (by rfl) (fun _ => HBD.out) ?_ ?_ ?_
      rotate_left 2
      · (intro w; go_simp; try with_reducible rfl)
      · (go_simp; try with_reducible rfl)
      refine late_pure (i := 1) (v := ?_) (a' := ?_) rfl (by kernel_rfl) (by kernel_rfl) (by kernel_rfl) (by rfl) (fun _ _ _ h => h) (by rfl) (fun _ => HBD.out) ?_ ?_ ?_
      rotate_left 2
      · (intro w; go_simp; try with_reducible rfl)
      · (go_simp; try with_reducible rfl)
      refine late_pure (i := 4) (v := ?_) (a' := ?_) rfl (by kernel_rfl) (by kernel_rfl) (by kernel_rfl) (by rfl) (fun _ _ _ h => h) (by rfl) (fun _ => HBD.out) ?_ ?_ ?_
      rotate_left 2
      · (intro w; go_simp; try with_reducible rfl)
      · (go_simp; try with_reducible rfl)
      refine late_loadc (i := 5) [7, 6] (v := ?_) (a' := ?_) rfl (by kernel_rfl) (by kernel_rfl) (by kernel_rfl) (by kernel_rfl) (by rfl) (fun _ _ _ h => h) (by rfl) HBD.out ?_ ?_ ?_
      rotate_left 2
      · (intro w hS; have t := HCV.out w hS; go_simp; try with_reducible rfl)
      · (go_simp; try with_reducible rfl)
      refine late_one (i := 2) (by kernel_rfl) rfl (fun KR hKR => ?_)
      go_simp
      skip
      refine hKR _ _ (fun _ => HBA.out) ?_
      clear hKR KR
      refine late_one (i := 3) (by kernel_rfl) rfl (fun KR hKR => ?_)
      go_simp
      refine HSU.out.mono ?_
      rintro e w6 ⟨rfl, hb6⟩
      have hc3 := HBA.out.trans (hb6.mono HBA.out.size)
      obtain ⟨A7, c7, w7, run7, hI7, hg7⟩ := (HI5.out.go hc3).push_out (r := (sm, sq)) HGR.out (by have := HRL.out; omega)
      rw [show recK (sm, sq).1 (sm, sq).2 = KE from HKE.out.symm] at run7
      have HI7 := Lib.hid hI7
      refine hKR _ _ (fun _ => hc3) ?_
      clear hKR KR
      refine late_load (i := 6) (m := 7) (v := ?_) (a' := ?_) rfl (by kernel_rfl) (by kernel_rfl) (by kernel_rfl) (by kernel_rfl) (by rfl) (fun _ _ _ h => h) (by rfl) hc3 ?_ ?_ ?_
      rotate_left 2
      · (intro w hS; refine exec_b2 36 0 1 (.tmp 44) (.tmp 46) ?_ (.agg KB) (.string sq) (.agg KE) ?_ ?_ (hbe.out w); exact rfl; exact rfl; exact rfl)
      · (go_simp; try with_reducible rfl)
      refine late_one (i := 7) (by kernel_rfl) rfl (fun KR hKR => ?_)
      refine step_build (by rfl) (.tmp 47) (by rfl) (by rfl) (hbs _) ?_
      refine hKR _ _ (fun _ => (hc3.alloc hc3.size _)) ?_
      clear hKR KR
      refine late_one (i := 8) (by kernel_rfl) rfl (fun KR hKR => ?_)
      refine step_run_append (by rfl) (.tmp 41) (.tmp 48) (by rfl) (by rfl) (by rfl) run7 ?_
      refine hKR _ _ (fun h0 => Bool.noConfusion (show (true : Bool) = false from h0)) ?_
      clear hKR KR
      refine late_pure (i := 9) (v := ?_) (a' := ?_) rfl (by kernel_rfl) (by kernel_rfl) (by kernel_rfl) (by rfl) (fun _ _ _ h => h) (by rfl) (fun h0 => Bool.noConfusion (show (true : Bool) = false from h0)) ?_ ?_ ?_
      rotate_left 2
      · (intro w; go_simp; try with_reducible rfl)
      · (go_simp; try with_reducible rfl)
      refine late_done' (by kernel_rfl) ?_ _
      go_wp2_with fail
      go_meet
      case rel => exact ⟨A7, m + 1, c7, rs ++ [(sm, sq)], rfl, by have := HRL.out; omega, HI7⟩
    · have hd : (decide (0 < x2) && decide (x2 < 65536)) = false := by simp; omega
      rw [hd]
      go_wp2_with fail
      go_meet
      case rel => exact ⟨Ao, m, co, rs, rfl, by have := HRL.out; omega, HMI⟩
  case rest =>
  obtain ⟨Ar, nr, cr, rs, rfl, hk25, HMR⟩ := hcut
  rename World => wx
  have HRS := Lib.hid HMR.out.out.sl
  have HRN := Lib.hid HMR.out.out.len.symm
  have HGD := Lib.hid HMR.out.good
  have HSX := Lib.hid (HS11.out.below HMR.out.below)
  have HBX := Lib.hid (HB1.out.trans (HMR.out.below.mono HB1.out.size))
  have HCR := Lib.hid HMR.out.out.cap
  clear HMR HMI HS11 HB1 HMS
  go_wp2_with fail
  go_loopw [11, 52] (fun s11 s52 wr => ∃ (j co : Nat) (Aw : Option Addr) (want : List (List UInt8)), j ≤ n1 ∧ s52 = .int .i64 (j : Int) ∧ s11 = .slice Aw j co ∧ Hid (RowR oidR 33 wr wx.heap.size Aw j co want) ∧ Hid (Below wx.heap.size wx wr)) (fun s11 s52 wr => n1 - (intOf s52).toNat)
  case atStart => exact ⟨0, 0, none, [], by omega, rfl, rfl, Lib.hid (RowR.nil _ _ _ _), Lib.hid (Below.refl _ _)⟩
  case round =>
    obtain ⟨j, co, Aw, want, hj, rfl, rfl, HRW, HBL⟩ := hrel
    by_cases hlt : j < n1
    · have hltI : (j : Int) < (n1 : Int) := by omega
      have hj40 : j ≤ 40 := by have := HLE.out; omega
      obtain ⟨b1, o1, z, rfl, hb1, hcz, hwf⟩ := int_look (HSX.out.below HBL.out) HN1.out hlt
      have hnr : (nr : Int) ≤ 25 := by omega
      by_cases hz : 0 ≤ z ∧ z < (nr : Int)
      · obtain ⟨i, rfl⟩ : ∃ i : Nat, z = (i : Int) := ⟨z.toNat, by omega⟩
        obtain ⟨hz0, hz1⟩ := hz
        have hzN : i < nr := by omega
        obtain ⟨b2, o2, r, rfl, hb2, hx, h32, hat, _⟩ := recs_look (HRS.out.below HBL.out) HRN.out hzN
        obtain ⟨KX, hKX⟩ : ∃ KX, KX = (bytesV r.1).toArray := ⟨_, rfl⟩
        have HI := Lib.hid (show (Try.prog.info? 33).map (·.size) = some KX.size by rw [hKX]; exact oid_size h32)
        have hks : KX.size = 32 := by rw [hKX]; simp [bytesV, h32]
        have hbs := fun w => bsId_of w KX hks
        rw [← hKX] at hat
        have HAT := Lib.hid hat
        obtain ⟨A7, c7, w7, hrun, hr7, hb7, _, _, _, _⟩ := HRW.out.push elemId HBL.out.size (av := fun _ => True) (oid_of wr _ h32) (fun _ _ _ => trivial) (by omega) (by simp only [maxLen]; omega) 37 1
        rw [← hKX] at hrun
        have HR7 := Lib.hid hr7
        have HB7 := Lib.hid (HBL.out.trans hb7)
        clear hat hr7 hb7 hKX hks hx h32 HRW
        go_wp2_with (first
          | (refine wpList_load_at rfl _ _ rfl b2 (o2 + i * 33) rfl KX _ HAT.out Try.underlying33 rfl HI.out ?_)
          | (refine wpList_build1 rfl (.tmp 69) rfl (.agg KX) _ rfl (hbs _) ?_)
          | (at_builtin; refine wpList_run_append hrun ?_ ?_ ?_; exact rfl; exact rfl) | fail)
        go_roundw
        case rel => exact ⟨j + 1, c7, A7, _, by omega, by go_num, rfl, HR7, HB7⟩
        case measure => simp [intOf]; omega
      · obtain ⟨zb, hzb⟩ : ∃ zb : UInt8, z % 256 = (zb.toNat : Int) := ⟨UInt8.ofNat (z % 256).toNat, by
          rw [UInt8.toNat_ofNat']
          omega⟩
        have hzw : IntKind.u8.wrap z = (zb.toNat : Int) := by rw [IntKind.wrap_u8]; exact hzb
        have h32 : (zb :: List.replicate 31 0 : List UInt8).length = 32 := rfl
        obtain ⟨KX, hKX⟩ : ∃ KX, KX = (bytesV (zb :: List.replicate 31 0)).toArray := ⟨_, rfl⟩
        have HBU := Lib.hid (show Try.prog.built 33 [(0, .int .u8 (zb.toNat : Int))] = some KX by rw [hKX]; exact idB_built zb)
        have hks : KX.size = 32 := by rw [hKX]; simp [bytesV]
        have hbs := fun w => bsId_of w KX hks
        obtain ⟨A7, c7, w7, hrun, hr7, hb7, _, _, _, _⟩ := HRW.out.push elemId HBL.out.size (av := fun _ => True) (oid_of wr _ h32) (fun _ _ _ => trivial) (by omega) (by simp only [maxLen]; omega) 37 1
        rw [← hKX] at hrun
        have HR7 := Lib.hid hr7
        have HB7 := Lib.hid (HBL.out.trans hb7)
        clear hr7 hb7 hKX hks h32 HRW
        have hz3 : ¬ 0 ≤ z ∨ (0 ≤ z ∧ ¬ z < (nr : Int)) := by omega
        clear hz
        rcases hz3 with hz3 | ⟨hz3, hz4⟩
        all_goals
          go_wp2_with (first
            | (refine wpList_built1 rfl 33 (.tmp 74) rfl KX rfl HBU.out ?_)
            | (refine wpList_build1 rfl (.tmp 75) rfl (.agg KX) _ rfl (hbs _) ?_)
            | (at_builtin; refine wpList_run_append hrun ?_ ?_ ?_; exact rfl; exact rfl) | fail)
          go_roundw
          case rel => exact ⟨j + 1, c7, A7, _, by omega, by go_num, rfl, HR7, HB7⟩
          case measure => simp [intOf]; omega
    · have hltI : ¬ (j : Int) < (n1 : Int) := by omega
      have hj40 : j ≤ 40 := by have := HLE.out; omega
      have HWS := Lib.hid HRW.out.sl
      have HWN := Lib.hid HRW.out.len
      have HWC := Lib.hid HRW.out.cap
      have HRB := Lib.hid (HRS.out.below HBL.out)
      have HG1 := Lib.hid (fun r (hr : r ∈ rs) => show r.2.size ≤ 1000000000 by have := (HGD.out r hr).2; omega)
      have HSV := Lib.hid (serve_any 42 (.agg #[.slice Ar nr cr]) _ (getB rs) Aw j co want wr (shelf_src wr Ar nr cr rs HRB.out HRN.out.symm (by omega) HG1.out) HWS.out HWN.out (by omega) HWC.out.1 HWC.out.2)
      clear HRW
      go_wp2_with fail
      refine HSV.out.mono ?_
      rintro e w8 ⟨hb8, A8, m8, c8, rfl, hr8⟩
      have HR8 := Lib.hid hr8
      have HB8 := Lib.hid (HBL.out.trans (hb8.mono HBL.out.size))
      have HRF := Lib.hid (refServe_any Ar nr cr rs Aw j co want w8 (HRB.out.below hb8) HRN.out.symm (by omega) HG1.out (HWS.out.below hb8) HWN.out (by omega))
      clear hb8 hr8 HSV
      go_wp2_with fail
      refine HRF.out.mono ?_
      rintro e w9 ⟨hb9, A9, m9, c9, ss, rfl, hr9, hss⟩
      have HB9 := Lib.hid (HB8.out.trans (hb9.mono HB8.out.size))
      have h89 := HR8.out.below hb9
      have HTX := Lib.hid (texts_same A8 A9 m8 m9 c8 c9 ss w9 (by rw [hss]; exact h89.sl) hr9.sl (by have := HR8.out.len; rw [← hss] at this; simpa using this) hr9.len (by
        have h1 := HR8.out.len
        have h2 : ∀ (S : List UInt8 → Option (List UInt8)) (l : List (List UInt8)) (z : Nat) (out : List (List UInt8)), (serveF S l z out).length ≤ out.length + l.length := by
          intro S l
          induction l with
          | nil => intro z out; simp [serveF]
          | cons x r ih =>
            intro z out
            unfold serveF
            split
            · have := ih z out; simp <;> omega
            · split
              · simp <;> omega
              · rename_i b _ _
                have := ih (z + b.length) (out ++ [b]); simp at this ⊢; omega
        have h3 := h2 (getB rs) (want.take 16) 0 []
        simp at h3
        omega))
      clear hb9 h89 hr9 hss HRF
      go_wp2_with fail
      refine HTX.out.mono ?_
      rintro e w10 ⟨rfl, hb10⟩
      have HB10 := Lib.hid (HB9.out.trans (hb10.mono HB9.out.size))
      clear hb10
      go_wp2_with fail
      go_ret
      exact ⟨rfl, HBX.out.trans (HB10.out.mono HBX.out.size)⟩
end Go.Proofs.Ytgmbkcjihgphmaa
