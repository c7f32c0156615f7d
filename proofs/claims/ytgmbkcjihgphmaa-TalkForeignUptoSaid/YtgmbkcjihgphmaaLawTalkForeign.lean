/- towlinelaw21.TalkForeign: true for every input. -/
import Derived.Test.YtgmbkcjihgphmaaJn30
import Derived.Test.YtgmbkcjihgphmaaJn31
set_option linter.unusedVariables false
set_option linter.unusedSimpArgs false
namespace Go.Proofs.Ytgmbkcjihgphmaa
open Go.RowKit
attribute [local go_sem ↓] bsId_eq eqlId_eq cvs_eq

set_option maxRecDepth 100000 in
set_option maxHeartbeats 16000000 in
theorem talkForeign_any (A0 : Option Addr) (c0 : Nat) (l0 : List MkT) (A1 : Option Addr) (c1 : Nat) (l1 : List (List UInt8)) (x2 : Int) (W0 : World) (nc0 : l0.length ≤ c0) (cm0 : c0 ≤ maxLen) (s0 : SlOf mkR W0 no A0 l0) (b0 : bulkL bulkM l0 + 1 ≤ 1048576)
    (nc1 : l1.length ≤ c1) (cm1 : c1 ≤ maxLen) (s1 : SlOf byR W0 no A1 l1) (b1 : bulkL (fun l : List UInt8 => bulkL (fun _ => 1) l + 1) l1 + 1 ≤ 1048576) (w2 : (Lit.int .i64 x2).wf = true) :
    Calls Try.prog 4 #[.slice A0 l0.length c0, .slice A1 l1.length c1, .int .i64 x2] W0 fun e w' => e = .returned (.bool true) ∧ Below W0.heap.size W0 w' := by
  have HMS := Lib.hid (makes_small b0)
  have HRS := Lib.hid (raws_small b1)
  have HS0 := Lib.hid s0
  have HS1 := Lib.hid s1
  obtain ⟨n0, hn0⟩ : ∃ n0, n0 = l0.length := ⟨_, rfl⟩
  obtain ⟨n1, hn1⟩ : ∃ n1, n1 = l1.length := ⟨_, rfl⟩
  have HN0 := Lib.hid hn0
  have HN1 := Lib.hid hn1.symm
  rw [← hn0, ← hn1]
  have HWF := Lib.hid w2
  clear nc0 cm0 s0 b0 nc1 cm1 s1 b1 w2 hn0 hn1
  go_enter Try.func4, Try.ntmps4
  go_wp2_with fail
  refine (awake_talk _).mono ?_
  rintro e w1 ⟨rfl, hb1⟩
  have HB1 := Lib.hid hb1
  have HS01 := Lib.hid (HS0.out.below hb1)
  have HS11 := Lib.hid (HS1.out.below hb1)
  clear hb1
  by_cases hbig : 24 < n0 ∨ (n0 ≤ 24 ∧ 24 < n1)
  · rcases hbig with h | ⟨h, h'⟩
    · have h1 : (24 : Int) < (n0 : Int) := by omega
      go_wp2_with fail
      go_ret
      exact ⟨rfl, HB1.out⟩
    · have h1 : ¬ (24 : Int) < (n0 : Int) := by omega
      have h2 : (24 : Int) < (n1 : Int) := by omega
      have h3 : ¬ 24 < n0 := by omega
      go_wp2_with fail
      go_ret
      exact ⟨rfl, HB1.out⟩
  have h1 : ¬ (24 : Int) < (n0 : Int) := by omega
  have h2 : ¬ (24 : Int) < (n1 : Int) := by omega
  have h3 : ¬ 24 < n0 := by omega
  have h4 : ¬ 24 < n1 := by omega
  have HLE := Lib.hid (show n0 ≤ 24 ∧ n1 ≤ 24 by omega)
  have HMD := Lib.hid (made_any A0 n0 c0 l0 w1 HS01.out HN0.out (by omega) HMS.out)
  clear hbig
  go_wp2_with fail
  refine HMD.out.mono ?_
  rintro e w2 ⟨Ao, m, co, Bo, mb, cb, rs, bs, rfl, hmi, hrl, hbl⟩
  have HMI := Lib.hid hmi
  have HRL := Lib.hid (show m = n0 ∧ m ≤ 24 ∧ mb ≤ 24 from by have := hmi.len; have := HLE.out; have := hmi.both.len; omega)
  have HS12 := Lib.hid (HS11.out.below hmi.below)
  have HB2 := Lib.hid (HB1.out.trans (hmi.below.mono HB1.out.size))
  have HOS := Lib.hid hmi.out.sl
  have HON := Lib.hid hmi.out.len.symm
  have HOC := Lib.hid hmi.out.cap
  have HBS := Lib.hid hmi.both.sl
  have HBN := Lib.hid hmi.both.len.symm
  have HGD := Lib.hid hmi.good
  have HSU := Lib.hid hmi.sub
  have hm24 : m ≤ 24 := HRL.out.2.1
  have hmc : m ≤ co := hmi.out.cap.1
  clear hmi hrl hbl h1 h2 h3 h4 HMD HS01 HS11 HS0 HS1 HMI HB1 HMS
  by_cases hr0 : x2 < 0
  · have hr1 : decide (x2 < 0) = true := by simpa using hr0
    go_wp2_with fail
    go_ret
    exact ⟨rfl, HB2.out⟩
  obtain ⟨i, rfl⟩ : ∃ i : Nat, x2 = (i : Int) := ⟨x2.toNat, by omega⟩
  by_cases him : i < m
  case neg =>
    have hr1 : (m : Int) ≤ (i : Int) := by omega
    have hr2 : m ≤ i := by omega
    go_wp2_with fail
    go_ret
    exact ⟨rfl, HB2.out⟩
  have hr1 : ¬ (m : Int) ≤ (i : Int) := by omega
  have hr2 : ¬ m ≤ i := by omega
  have hiI : (i : Int) < (m : Int) := by omega
  have hi0 : (0 : Int) ≤ (i : Int) := by omega
  have HTW := Lib.hid (twins_any Ao m co rs w2 HOS.out HON.out.symm (by omega) hmc)
  go_wp2_with fail
  refine HTW.out.mono ?_
  rintro e w3 ⟨b, rfl, hb3, hlone⟩
  have HB3 := Lib.hid (HB2.out.trans (hb3.mono HB2.out.size))
  cases b with
  | true =>
    clear hb3 HTW hlone
    go_wp2_with fail
    go_ret
    exact ⟨rfl, HB3.out⟩
  | false =>
  have HLO := Lib.hid (hlone rfl)
  have HOS3 := Lib.hid (HOS.out.below hb3)
  have HBS3 := Lib.hid (HBS.out.below hb3)
  have HS13 := Lib.hid (HS12.out.below hb3)
  clear hb3 HTW hlone HOS HBS HS12 HB2
  obtain ⟨b1, o1, r, rfl, hb1, hxr, h32, hatr⟩ := recs_row HOS3.out HON.out him
  obtain ⟨root, hroot⟩ : ∃ root, root = r.1 := ⟨_, rfl⟩
  rw [← hroot] at h32
  have hatx : At w3 ⟨b1, o1 + i * 33, none⟩ (bytesV root).toArray := fun j u hu => hatr j u (by
    have hu : (bytesV root)[j]? = some u := by simpa using hu
    rw [hroot] at hu
    unfold recK
    rw [List.getElem?_toArray, List.getElem?_append_left (List.getElem?_eq_some_iff.1 hu).1, hu])
  obtain ⟨KX, hKX⟩ : ∃ KX, KX = (bytesV root).toArray := ⟨_, rfl⟩
  have HI := Lib.hid (show (Try.prog.info? 33).map (·.size) = some KX.size by rw [hKX]; exact oid_size h32)
  have hks : KX.size = 32 := by rw [hKX]; simp [bytesV, h32]
  have HZZ := Lib.hid (show zID.size = KX.size by rw [hks]; rfl)
  have HO := Lib.hid (show KX.all (·.oneCell') = true by rw [hKX]; exact oid_one _)
  rw [← hKX] at hatx
  have HAT := Lib.hid hatx
  have HNB := Lib.hid (Blk.new w3 33 zID)
  have hba : Below w3.heap.size w3 (w3.alloc (.cells KX 33)) := (Below.refl _ _).alloc (Nat.le_refl _) _
  have HBA := Lib.hid hba
  have HK4 := Lib.hid (Blk.new w3 33 KX)
  have HKX := Lib.hid hKX
  have HR32 := Lib.hid h32
  clear hatr hatx hba hxr hKX hroot h32
  go_upto_region 9 with (first | (refine wpList_load_at rfl _ _ rfl b1 (o1 + i * 33) rfl KX _ HAT.out Try.underlying33 rfl HI.out ?_) | (refine wpList_store_row rfl _ _ _ rfl w3.heap.size KX rfl rfl 33 _ HNB.out HI.out HZZ.out HO.out ?_) | fail)
  rw [World.setRow_alloc_new]
  go_frame
  change Code.wp _ _ _ _ (w3.alloc (.cells KX 33))
  generalize hg3 : w3.heap.size = g3 at *
  have HG3 := Lib.hid hg3
  generalize w3.alloc (.cells KX 33) = w4 at *
  clear HNB hg3 HAT
  have HOS4 := Lib.hid (HOS3.out.below (HG3.out.symm ▸ HBA.out))
  have HBS4 := Lib.hid (HBS3.out.below (HG3.out.symm ▸ HBA.out))
  have HS14 := Lib.hid (HS13.out.below (HG3.out.symm ▸ HBA.out))
  have HB4 := Lib.hid (HB3.out.trans (HBA.out.mono (by have := HB3.out.size; rw [HG3.out] at this; exact this)))
  have hbs := bsId_of w4 KX hks
  have hba : Below w4.heap.size w4 (w4.alloc (.cells KX 33)) := (Below.refl _ _).alloc (Nat.le_refl _) _
  have hsl : SlOf oidR (w4.alloc (.cells KX 33)) no (some ⟨w4.heap.size, 0, none⟩) [root] := by
    rw [HKX.out]
    exact ⟨bytesV root, Sl.fresh w4 (bytesV root).toArray 33 (0, 0) 1 32 (by simp [bytesV_length, HR32.out]), by simpa using (Each.nil (R := oidR.R _ no)).snoc (oid_of _ no HR32.out), fun _ _ _ _ q => q⟩
  have HG1 := Lib.hid (fun r (hr : r ∈ rs) => show r.2.size ≤ 1000000000 by have := (HGD.out r hr).2; omega)
  have HSM := Lib.hid (shelf_src w4 (some ⟨b1, o1, none⟩) m co rs HOS4.out HON.out.symm (by omega) HG1.out)
  have HMA := Lib.hid (mark_any w4 (w4.alloc (.cells KX 33)) HSM.out hba (getB_fin rs) (by rw [HON.out]; omega) _ 1 root hsl)
  obtain ⟨MM, hMM⟩ : ∃ MM, MM = markL (getB rs) root := ⟨_, rfl⟩
  rw [← hMM] at HMA
  have HMM := Lib.hid hMM
  have HBA4 := Lib.hid hba
  have hgl4 := HK4.out.lt
  clear hMM hsl hba hks
  go_wp2_with (first
    | (refine wpList_load_at rfl _ _ rfl g3 0 rfl KX _ (At.of_row HK4.out) Try.underlying33 rfl HI.out ?_)
    | (refine wpList_build1 rfl (.tmp 64) rfl (.agg KX) _ rfl hbs ?_) | fail)
  refine HMA.out.mono ?_
  rintro e w5 ⟨hb5, hm5⟩
  have HB45 := Lib.hid (HBA4.out.trans (hb5.mono HBA4.out.size))
  have HB5 := Lib.hid (HB4.out.trans (HB45.out.mono HB4.out.size))
  clear hb5 HMA hbs
  cases MM with
  | error z =>
    obtain ⟨rfl, hz⟩ := hm5
    have hz2 : (z != 0) = true := by simpa using hz
    clear hz
    go_wp2_with fail
    go_ret
    exact ⟨rfl, HB5.out⟩
  | ok ids =>
  obtain ⟨A5, ni, ci, rfl, hr5⟩ := hm5
  have HIN := Lib.hid hr5.len.symm
  have HIS5 := Lib.hid hr5.sl
  have HK5 := Lib.hid (HK4.out.below HB45.out hgl4)
  have HOS5 := Lib.hid (HOS4.out.below HB45.out)
  have HBS5 := Lib.hid (HBS4.out.below HB45.out)
  have HS15 := Lib.hid (HS14.out.below HB45.out)
  have HNI := Lib.hid (show ni ≤ 1000000 by
    have h1 := (getB_fin rs).markL root
    rw [← HMM.out] at h1
    have h2 := markP_len h1
    have h3 := HON.out
    have h4 := HIN.out
    rw [h4, h3] at h2
    omega)
  have hni := HNI.out
  have HSR := Lib.hid (shelf_src w5 Bo mb cb bs HBS5.out HBN.out.symm (by have := HRL.out; omega) (fun r hr => HG1.out r (HSU.out r hr)))
  have HNE := Lib.hid (new_any 42 (.agg #[.slice Bo mb cb]) root w5 HR32.out)
  rw [show idV root = .agg KX by rw [HKX.out]] at HNE
  have hgl5 := HK5.out.lt
  clear hr5 HK4 HOS3 HOS4 HBS3 HBS4 HS13 HS14 HBA HBA4 HSM
  go_wp2_with (first
    | (refine wpList_load_at rfl _ _ rfl g3 0 rfl KX _ (At.of_row HK5.out) Try.underlying33 rfl HI.out ?_) | fail)
  refine HNE.out.mono ?_
  rintro e w6 ⟨hb6, g, mp, rfl, hft⟩
  have HF6 := Lib.hid hft
  have HB6 := Lib.hid hb6
  have HL := Lib.hid (lack_law (g := g) (mb := mp) (root := root) w5 HSR.out (getB_fin bs) 100 (by rw [HBN.out]; have := HRL.out; omega))
  obtain ⟨LL, hLL⟩ : ∃ LL : AsT → List (List UInt8), LL = fun ad => lackL (srcF (getB bs) ad) root := ⟨_, rfl⟩
  have HLL := Lib.hid hLL
  rw [← hLL] at HL
  clear hb6 hft HNE hLL
  go_upto_region 14 with fail
  go_loopw [78] (fun s78 wr => ∃ (k : Nat) (m' : IM) (ad : AsT), k ≤ m ∧ s78 = .int .i64 (k : Int) ∧ Hid (FT wr w5.heap.size g 42 (.agg #[.slice Bo mb cb]) root mp m' ad) ∧ Hid (FitsR rs ad ∧ ad.length ≤ k) ∧ Hid (Below w5.heap.size w5 wr)) (fun s78 wr => m - (intOf s78).toNat)
  case atStart => exact ⟨0, [], [], by omega, rfl, HF6, Lib.hid ⟨FitsR.nil, by simp⟩, HB6⟩
  case round =>
    obtain ⟨k, m', ad, hk, rfl, HFR, HAD, HBR⟩ := hrel
    by_cases hlt : k < m
    · have hltI : (k : Int) < (m : Int) := by omega
      obtain ⟨b2, o2, q, e2, hb2, hxq, hq32, hatq⟩ := recs_row (HOS5.out.below HBR.out) HON.out hlt
      injection e2 with e2
      injection e2 with e2 e3
      subst e2 e3
      have hqr := List.mem_of_getElem? hxq
      have HQ := Lib.hid hqr
      have HQG := Lib.hid (HGD.out q hqr)
      obtain ⟨qi, hqi⟩ : ∃ qi, qi = q.1 := ⟨_, rfl⟩
      obtain ⟨qs, hqs⟩ : ∃ qs, qs = q.2 := ⟨_, rfl⟩
      obtain ⟨KE, hKE⟩ : ∃ KE, KE = recK qi qs := ⟨_, rfl⟩
      rw [← hqi] at hq32
      rw [← hqi, ← hqs, ← hKE] at hatq
      have HIE := Lib.hid (show (Try.prog.info? 36).map (·.size) = some KE.size by rw [hKE]; exact recK_info hq32 _)
      have HSE := Lib.hid (show zRec.size = KE.size by rw [hKE, recK_size hq32, recK_size (by simp)])
      have HOE := Lib.hid (show KE.all (·.oneCell') = true by rw [hKE]; exact recK_one _ _)
      have HAE := Lib.hid hatq
      have HNR := Lib.hid (Blk.new wr 36 zRec)
      have hba : Below wr.heap.size wr (wr.alloc (.cells KE 36)) := (Below.refl _ _).alloc (Nat.le_refl _) _
      have HB7 := Lib.hid (HBR.out.trans (hba.mono HBR.out.size))
      have HF7 := Lib.hid (HFR.out.go hba)
      have HE7 := Lib.hid (Blk.new wr 36 KE)
      have HKE := Lib.hid hKE
      have HQ32 := Lib.hid hq32
      have HQI := Lib.hid hqi
      have HQS := Lib.hid hqs
      clear hatq hba hxq hqr hq32 hqi hqs hKE
      go_upto_region 16 with (first | (refine wpList_load_at rfl _ _ rfl b1 (o1 + k * 33) rfl KE _ HAE.out Try.underlying36 rfl HIE.out ?_) | (refine wpList_store_row rfl _ _ _ rfl wr.heap.size KE rfl rfl 36 _ HNR.out HIE.out HSE.out HOE.out ?_) | fail)
      rw [World.setRow_alloc_new]
      go_frame
      change Code.wp _ _ _ _ (wr.alloc (.cells KE 36))
      generalize hgr : wr.heap.size = gr at *
      generalize wr.alloc (.cells KE 36) = w7 at *
      have hgr7 := HE7.out.lt
      clear HNR hgr HAE HBR HFR
      go_wp2_with fail
      go_loopw [15, 84] (fun s15 s84 wr => ∃ (j : Nat) (B : Bool), j ≤ ni ∧ s84 = .int .i64 (j : Int) ∧ s15 = .bool B ∧ Hid (B = (ids.take j).contains qi) ∧ Hid (Below w7.heap.size w7 wr)) (fun s15 s84 wr => ni - (intOf s84).toNat)
      case atStart => exact ⟨0, false, by omega, rfl, rfl, Lib.hid (by simp), Lib.hid (Below.refl _ _)⟩
      case round =>
        obtain ⟨j, B, hj, rfl, rfl, HIB, HBJ⟩ := hrel
        by_cases hlj : j < ni
        · have hljI : (j : Int) < (ni : Int) := by omega
          obtain ⟨b3, o3, y, rfl, hb3, hy, hy32, haty⟩ := oids_look (HIS5.out.below (HB7.out.trans (HBJ.out.mono HB7.out.size))) HIN.out hlj
          obtain ⟨KY, hKY⟩ : ∃ KY, KY = (bytesV y).toArray := ⟨_, rfl⟩
          obtain ⟨KQ, hKQ⟩ : ∃ KQ, KQ = (bytesV qi).toArray := ⟨_, rfl⟩
          have HIY := Lib.hid (show (Try.prog.info? 33).map (·.size) = some KY.size by rw [hKY]; exact oid_size hy32)
          have HIQ := Lib.hid (show (Try.prog.info? 33).map (·.size) = some KQ.size by rw [hKQ]; exact oid_size HQ32.out)
          rw [← hKY] at haty
          have HATY := Lib.hid haty
          have HZY := Lib.hid (show zID.size = KY.size by rw [hKY]; simp [bytesV, hy32])
          have HOY := Lib.hid (show KY.all (·.oneCell') = true by rw [hKY]; exact oid_one _)
          have HNB := Lib.hid (Blk.new wr 33 zID)
          have hba : Below wr.heap.size wr (wr.alloc (.cells KY 33)) := (Below.refl _ _).alloc (Nat.le_refl _) _
          have HB9 := Lib.hid (HBJ.out.trans (hba.mono HBJ.out.size))
          have HK9 := Lib.hid (Blk.new wr 33 KY)
          have HE9 := Lib.hid (show Blk (wr.alloc (.cells KY 33)) gr 36 KE from HE7.out.below HB9.out hgr7)
          have HQ9 := Lib.hid (show At (wr.alloc (.cells KY 33)) ⟨gr, 0, none⟩ KQ by rw [hKQ]; have := HE9.out; rw [HKE.out] at this; exact rec_id_at this)
          have he := fun w => eqlId_of hy32 HQ32.out w
          rw [← hKY, ← hKQ] at he
          have HTC := Lib.hid (take_contains (x := qi) hy)
          clear haty hba hy hKY hKQ hy32
          go_upto_region 20 with (first | (refine wpList_load_at rfl _ _ rfl b3 (o3 + j * 32) rfl KY _ HATY.out Try.underlying33 rfl HIY.out ?_) | (refine wpList_store_row rfl _ _ _ rfl wr.heap.size KY rfl rfl 33 _ HNB.out HIY.out HZY.out HOY.out ?_) | fail)
          rw [World.setRow_alloc_new]
          go_frame
          change Code.wp _ _ _ _ (wr.alloc (.cells KY 33))
          generalize hg9 : wr.heap.size = g9 at *
          generalize wr.alloc (.cells KY 33) = w9 at *
          clear HNB hg9 HATY HZY HOY HE9
          cases B with
          | true =>
            have HT2 := Lib.hid (show true = (ids.take (j + 1)).contains qi by rw [HTC.out, ← HIB.out]; rfl)
            clear HIB HTC he
            go_wp2_with fail
            go_roundw
            case rel => exact ⟨j + 1, _, by omega, by go_num, rfl, HT2, HB9⟩
            case measure => simp [intOf]; omega
          | false =>
            obtain ⟨B2, hB2⟩ : ∃ B2, B2 = (y == qi) := ⟨_, rfl⟩
            rw [← hB2] at he
            have HT2 := Lib.hid (show B2 = (ids.take (j + 1)).contains qi by rw [HTC.out, ← HIB.out, hB2]; rfl)
            clear HIB HTC hB2
            go_wp2_with (first
              | (refine wpList_val_g (by rfl) (exec_load_at 33 (.tmp 17) rfl g9 0 rfl KY _ (At.of_row HK9.out) Try.underlying33 rfl HIY.out) ?_)
              | (refine wpList_val_g (by rfl) (exec_load_at 33 (.tmp 91) rfl gr 0 rfl KQ _ HQ9.out Try.underlying33 rfl HIQ.out) ?_) | fail)
            go_roundw
            case rel => exact ⟨j + 1, _, by omega, by go_num, rfl, HT2, HB9⟩
            case measure => simp [intOf]; omega
        · have hljI : ¬ (j : Int) < (ni : Int) := by omega
          have HJT := Lib.hid (show B = ids.contains qi by rw [HIB.out, List.take_of_length_le]; rw [HIN.out]; omega)
          have HB8 := Lib.hid (HB7.out.trans (HBJ.out.mono HB7.out.size))
          have HF8 := Lib.hid (HF7.out.go HBJ.out)
          have t1 : wr.cell? ⟨gr, 32, none⟩ = some (.string qs) := (HBJ.out.cell (p := ⟨gr, 32, none⟩) hgr7).trans (by have := HE7.out; rw [HKE.out] at this; exact rec_str HQ32.out this)
          have hqz : qs.size ≤ 1048576 := by have := HQG.out.2; rw [← HQS.out] at this; exact this
          obtain ⟨A8, c8, w8, hrun8, hsl8, hc8, hcm8, hb8, g8, rfl, hg8⟩ := toBytes wr qs (by simp only [maxLen]; omega)
          have hst : cvs wr qs = .ok (.slice (some ⟨g8, 0, none⟩) qs.size c8) w8 := hrun8
          have HTA := Lib.hid (take_one w5 w8 HL.out (HB8.out.trans (hb8.mono HB8.out.size)) (HF8.out.go hb8) _ qs.size c8 (dB qs) hsl8 Array.length_toList.symm hc8 hcm8 (by omega) (by have := HAD.out.2; omega))
          have HAF := Lib.hid (show FitsR rs (take1 LL ad (dB qs)).1 by rw [HQS.out]; exact HAD.out.1.take HLO.out HQ.out HQG.out.1 LL)
          have HAL := Lib.hid (show (take1 LL ad (dB qs)).1.length ≤ k + 1 by have := take1_len LL ad (dB qs); have := HAD.out.2; omega)
          have HFAR := Lib.hid (fun (e : ids.contains qi = false) => show take1 LL ad (dB qs) = (ad, 0) by
            rw [HLL.out]
            exact take1_far HMM.out.symm HAD.out.1 HLO.out HSU.out (by rw [HQS.out, ← HQG.out.1, ← HQI.out]; exact e))
          clear hrun8 hsl8 hc8 hcm8 hb8 hg8 HIB hqz
          obtain ⟨tk, htk⟩ : ∃ tk, tk = take1 LL ad (dB qs) := ⟨_, rfl⟩
          rw [← htk] at HTA HAF HAL HFAR
          cases B with
          | true =>
            clear HFAR HJT htk
            go_wp2_with fail
            refine HTA.out.mono ?_
            rintro e w9 ⟨m9, rfl, hft9, hb9, _⟩
            have HF9 := Lib.hid hft9
            have HB9 := Lib.hid hb9
            clear hft9 hb9 HTA hst t1
            go_wp2_with fail
            go_roundw
            case rel => exact ⟨k + 1, m9, tk.1, by omega, by go_num, HF9, Lib.hid ⟨HAF.out, HAL.out⟩, HB9⟩
            case measure => simp [intOf]; omega
          | false =>
            have hz := HFAR.out HJT.out.symm
            rw [hz] at HTA HAF HAL
            clear HFAR HJT htk hz
            go_wp2_with fail
            refine HTA.out.mono ?_
            rintro e w9 ⟨m9, rfl, hft9, hb9, _⟩
            have HF9 := Lib.hid hft9
            have HB9 := Lib.hid hb9
            clear hft9 hb9 HTA hst t1
            go_wp2_with fail
            go_roundw
            case rel => exact ⟨k + 1, m9, ad, by omega, by go_num, HF9, Lib.hid ⟨HAF.out, HAL.out⟩, HB9⟩
            case measure => simp [intOf]; omega
    · have hltI : ¬ (k : Int) < (m : Int) := by omega
      have HAJ := Lib.hid (show FitsR rs ad ∧ ad.length ≤ 24 from ⟨HAD.out.1, by have := HAD.out.2; omega⟩)
      clear HAD
      obtain ⟨wL, rfl⟩ : ∃ wo : World, wo = wr := ⟨_, rfl⟩
      go_wp2_with fail
      go_loopw [111] (fun s111 wr => ∃ (k : Nat) (m' : IM), k ≤ n1 ∧ s111 = .int .i64 (k : Int) ∧ Hid (FT wr w5.heap.size g 42 (.agg #[.slice Bo mb cb]) root mp m' ad) ∧ Hid (Below w5.heap.size w5 wr)) (fun s111 wr => n1 - (intOf s111).toNat)
      case atStart => exact ⟨0, m', by omega, rfl, HFR, HBR⟩
      case round =>
        obtain ⟨k, m', hk, rfl, HFR, HBR⟩ := hrel
        by_cases hlt : k < n1
        · have hltI : (k : Int) < (n1 : Int) := by omega
          obtain ⟨b2, o2, x, AX, cx, rfl, hb2, hxr, hcell, hxc, hxm, hsx⟩ := bys_look (HS15.out.below HBR.out) HN1.out hlt
          have hxz := HRS.out x (List.mem_of_getElem? hxr)
          obtain ⟨nx, hnx⟩ : ∃ nx, nx = x.length := ⟨_, rfl⟩
          have HSX := Lib.hid (slOf_bytes hsx)
          rw [← hnx] at hcell HSX hxc hxz
          obtain ⟨qi, hqi⟩ : ∃ qi, qi = shaG x := ⟨_, rfl⟩
          obtain ⟨KQ, hKQ⟩ : ∃ KQ, KQ = (bytesV qi).toArray := ⟨_, rfl⟩
          have HQ32 := Lib.hid (show qi.length = 32 by rw [hqi]; exact shaG_len32 x)
          have HSU1 := Lib.hid (fun w' (hb : Below wr.heap.size wr w') => show Calls Try.prog 9 #[.slice (some ⟨w'.heap.size, 0, none⟩) 1 1] (w'.alloc (.cells #[.slice AX nx cx] 28)) fun e w2 => e = .returned (.agg KQ) ∧ Below (w'.alloc (.cells #[.slice AX nx cx] 28)).heap.size (w'.alloc (.cells #[.slice AX nx cx] 28)) w2 by
            have hba : Below w'.heap.size w' (w'.alloc (.cells #[.slice AX nx cx] 28)) := (Below.refl _ _).alloc (Nat.le_refl _) _
            have hh := sum_any (some ⟨w'.heap.size, 0, none⟩) 1 1 [.slice AX nx cx] [x] (w'.alloc (.cells #[.slice AX nx cx] 28)) (by have := Sl.one w' (.slice AX nx cx) 28; simpa using this) ((AllB.nil _).snoc (SlB.of ((HSX.out.below hb).below hba) hxc hxm)) (by omega) (by simp; omega)
            have e : [x].flatten = x := by simp
            rw [e] at hh
            rw [hKQ, hqi]; exact hh)
          have HTA := Lib.hid (fun w' (hb : Below wr.heap.size wr w') => take_one w5 w' HL.out (HBR.out.trans (hb.mono HBR.out.size)) (HFR.out.go hb) AX nx cx x (HSX.out.below hb) hnx hxc hxm (by omega) (by have := HAJ.out.2; omega))
          have HFAR := Lib.hid (fun (e : ids.contains qi = false) => show take1 LL ad x = (ad, 0) by
            rw [HLL.out]
            exact take1_far HMM.out.symm HAJ.out.1 HLO.out HSU.out (by rw [← hqi]; exact e))
          have HKQ := Lib.hid hKQ
          have HIQ := Lib.hid (show (Try.prog.info? 33).map (·.size) = some KQ.size by rw [hKQ]; exact oid_size HQ32.out)
          obtain ⟨w7, hw7⟩ : ∃ w7 : World, w7 = wr := ⟨_, rfl⟩
          rw [← hw7] at HSU1 HTA HFR HBR hcell HSX ⊢
          clear hsx hxr hxc hxm hnx hqi hKQ hw7
          go_wp2_with fail
          go_loopw [21, 117] (fun s21 s117 wr => ∃ (j : Nat) (B : Bool), j ≤ ni ∧ s117 = .int .i64 (j : Int) ∧ s21 = .bool B ∧ Hid (B = (ids.take j).contains qi) ∧ Hid (Below w7.heap.size w7 wr)) (fun s21 s117 wr => ni - (intOf s117).toNat)
          case atStart => exact ⟨0, false, by omega, rfl, rfl, Lib.hid (by simp), Lib.hid (Below.refl _ _)⟩
          case round =>
            obtain ⟨j, B, hj, rfl, rfl, HIB, HBJ⟩ := hrel
            by_cases hlj : j < ni
            · have hljI : (j : Int) < (ni : Int) := by omega
              obtain ⟨b3, o3, y, rfl, hb3, hy, hy32, haty⟩ := oids_look (HIS5.out.below (HBR.out.trans (HBJ.out.mono HBR.out.size))) HIN.out hlj
              obtain ⟨KY, hKY⟩ : ∃ KY, KY = (bytesV y).toArray := ⟨_, rfl⟩
              have HIY := Lib.hid (show (Try.prog.info? 33).map (·.size) = some KY.size by rw [hKY]; exact oid_size hy32)
              rw [← hKY] at haty
              have HATY := Lib.hid haty
              have HZY := Lib.hid (show zID.size = KY.size by rw [hKY]; simp [bytesV, hy32])
              have HOY := Lib.hid (show KY.all (·.oneCell') = true by rw [hKY]; exact oid_one _)
              have HNB := Lib.hid (Blk.new wr 33 zID)
              have hba : Below wr.heap.size wr (wr.alloc (.cells KY 33)) := (Below.refl _ _).alloc (Nat.le_refl _) _
              have HB9 := Lib.hid (HBJ.out.trans (hba.mono HBJ.out.size))
              have HK9 := Lib.hid (Blk.new wr 33 KY)
              have he := fun w => eqlId_of hy32 HQ32.out w
              rw [← hKY, ← HKQ.out] at he
              have HTC := Lib.hid (take_contains (x := qi) hy)
              clear haty hba hy hKY hy32
              go_upto_region 33 with (first | (refine wpList_load_at rfl _ _ rfl b3 (o3 + j * 32) rfl KY _ HATY.out Try.underlying33 rfl HIY.out ?_) | (refine wpList_store_row rfl _ _ _ rfl wr.heap.size KY rfl rfl 33 _ HNB.out HIY.out HZY.out HOY.out ?_) | fail)
              rw [World.setRow_alloc_new]
              go_frame
              change Code.wp _ _ _ _ (wr.alloc (.cells KY 33))
              generalize hg9 : wr.heap.size = g9 at *
              generalize wr.alloc (.cells KY 33) = w9 at *
              clear HNB hg9 HATY HZY HOY
              obtain ⟨wd, hwd⟩ : ∃ wd, wd = w9.drew := ⟨_, rfl⟩
              have hbd : Below w9.heap.size w9 wd := by rw [hwd]; exact Same.below ⟨1, rfl⟩ _
              have HBD := Lib.hid (HB9.out.trans (hbd.mono HB9.out.size))
              have HKD := Lib.hid (HK9.out.below hbd HK9.out.lt)
              have hgd := HKD.out.lt
              have HWD := Lib.hid hwd
              clear hwd hbd
              cases B with
              | true =>
                have HT2 := Lib.hid (show true = (ids.take (j + 1)).contains qi by rw [HTC.out, ← HIB.out]; rfl)
                clear HIB HTC he HSU1 HTA
                refine wp_region_held (S := fun w => w = wd) (by kernel_rfl) ?_
                change wpAnyH _ _ _ _ _ _ _ _ (World.drew _)
                rw [← HWD.out]
                refine held_take (i := 0) (v := ?_) (a' := ?_) rfl (by kernel_rfl) (by kernel_rfl) (by kernel_rfl) (fun _ _ _ h => h) (by rfl) rfl ?_ ?_ ?_
                rotate_left 2
                · (intro w hS; go_simp; try with_reducible rfl)
                · (go_simp; try with_reducible rfl)
                refine held_take (i := 1) (v := ?_) (a' := ?_) rfl (by kernel_rfl) (by kernel_rfl) (by kernel_rfl) (fun _ _ _ h => h) (by rfl) rfl ?_ ?_ ?_
                rotate_left 2
                · (intro w hS; go_simp; try with_reducible rfl)
                · (go_simp; try with_reducible rfl)
                refine held_no (i := 2) (a' := ?_) rfl (by kernel_rfl) (by kernel_rfl) (by kernel_rfl) (fun _ _ _ h => h) (by rfl) rfl ?_ ?_
                rotate_left 1
                · (go_simp; try with_reducible rfl)
                refine held_no (i := 3) (a' := ?_) rfl (by kernel_rfl) (by kernel_rfl) (by kernel_rfl) (fun _ _ _ h => h) (by rfl) rfl ?_ ?_
                rotate_left 1
                · (go_simp; try with_reducible rfl)
                refine held_no (i := 4) (a' := ?_) rfl (by kernel_rfl) (by kernel_rfl) (by kernel_rfl) (fun _ _ _ h => h) (by rfl) rfl ?_ ?_
                rotate_left 1
                · (go_simp; try with_reducible rfl)
                refine held_no (i := 5) (a' := ?_) rfl (by kernel_rfl) (by kernel_rfl) (by kernel_rfl) (fun _ _ _ h => h) (by rfl) rfl ?_ ?_
                rotate_left 1
                · (go_simp; try with_reducible rfl)
                refine held_no (i := 6) (a' := ?_) rfl (by kernel_rfl) (by kernel_rfl) (by kernel_rfl) (fun _ _ _ h => h) (by rfl) rfl ?_ ?_
                rotate_left 1
                · (go_simp; try with_reducible rfl)
                refine held_take (i := 7) (v := ?_) (a' := ?_) rfl (by kernel_rfl) (by kernel_rfl) (by kernel_rfl) (fun _ _ _ h => h) (by rfl) rfl ?_ ?_ ?_
                rotate_left 2
                · (intro w hS; go_simp; try with_reducible rfl)
                · (go_simp; try with_reducible rfl)
                refine held_take (i := 8) (v := ?_) (a' := ?_) rfl (by kernel_rfl) (by kernel_rfl) (by kernel_rfl) (fun _ _ _ h => h) (by rfl) rfl ?_ ?_ ?_
                rotate_left 2
                · (intro w hS; go_simp; try with_reducible rfl)
                · (go_simp; try with_reducible rfl)
                refine wpAnyH_done (by kernel_rfl) ?_ _
                go_wp2_with fail
                go_roundw
                case rel => exact ⟨j + 1, _, by omega, by go_num, rfl, HT2, HBD⟩
                case measure => simp [intOf]; omega
              | false =>
                obtain ⟨B2, hB2⟩ : ∃ B2, B2 = (y == qi) := ⟨_, rfl⟩
                rw [← hB2] at he
                have HT2 := Lib.hid (show B2 = (ids.take (j + 1)).contains qi by rw [HTC.out, ← HIB.out, hB2]; rfl)
                have HSU2 := Lib.hid (HSU1.out wd HBD.out)
                have hba : Below wd.heap.size wd (wd.alloc (.cells #[.slice AX nx cx] 28)) := (Below.refl _ _).alloc (Nat.le_refl _) _
                have HBA := Lib.hid hba
                clear HIB HTC hB2 HTA hba
                refine wp_region_held (S := fun w' => Below wd.heap.size wd w') (by kernel_rfl) ?_
                change wpAnyH _ _ _ _ _ _ _ _ (World.drew _)
                rw [← HWD.out]
                refine held_take (i := 0) (v := ?_) (a' := ?_) rfl (by kernel_rfl) (by kernel_rfl) (by kernel_rfl) (fun _ _ _ h => h) (by rfl) (Below.refl _ _) ?_ ?_ ?_
                rotate_left 2
                · (intro w hS; go_simp; try with_reducible rfl)
                · (go_simp; try with_reducible rfl)
                refine held_take (i := 1) (v := ?_) (a' := ?_) rfl (by kernel_rfl) (by kernel_rfl) (by kernel_rfl) (fun _ _ _ h => h) (by rfl) (Below.refl _ _) ?_ ?_ ?_
                rotate_left 2
                · (intro w hS; go_simp; try with_reducible rfl)
                · (go_simp; try with_reducible rfl)
                refine held_take (i := 2) (v := ?_) (a' := ?_) rfl (by kernel_rfl) (by kernel_rfl) (by kernel_rfl) (fun _ _ _ h => h) (by rfl) (Below.refl _ _) ?_ ?_ ?_
                rotate_left 2
                · (intro w hS; refine exec_load_at 33 (.tmp 23) ?_ g9 0 ?_ KY _ (At.of_row (HKD.out.below hS hgd)) Try.underlying33 rfl HIY.out; exact rfl; exact rfl)
                · (go_simp; try with_reducible rfl)
                refine held_take (i := 3) (v := ?_) (a' := ?_) rfl (by kernel_rfl) (by kernel_rfl) (by kernel_rfl) (fun _ _ _ h => h) (by rfl) (Below.refl _ _) ?_ ?_ ?_
                rotate_left 2
                · (intro w hS; go_simp; try with_reducible rfl)
                · (go_simp; try with_reducible rfl)
                refine held_ready (rs := [4]) (by kernel_rfl) (by simp) ?_
                refine AllHeld.cons rfl (fun KR hKR => ?_) ?_
                · go_simp
                  skip
                  refine hKR _ _ HBA.out ?_
                  clear hKR KR
                  refine held_ready (rs := [5]) (by kernel_rfl) (by simp) ?_
                  refine AllHeld.cons rfl (fun KR hKR => ?_) ?_
                  · go_simp
                    refine HSU2.out.mono ?_
                    rintro e w10 ⟨rfl, hb10⟩
                    have hc5 := HBA.out.trans (hb10.mono HBA.out.size)
                    have HB10 := Lib.hid (HBD.out.trans (hc5.mono HBD.out.size))
                    refine hKR _ _ hc5 ?_
                    clear hKR KR
                    refine held_take (i := 6) (v := ?_) (a' := ?_) rfl (by kernel_rfl) (by kernel_rfl) (by kernel_rfl) (fun _ _ _ h => h) (by rfl) hc5 ?_ ?_ ?_
                    rotate_left 2
                    · (intro w hS; go_simp; try with_reducible rfl)
                    · (go_simp; try with_reducible rfl)
                    refine held_take (i := 7) (v := ?_) (a' := ?_) rfl (by kernel_rfl) (by kernel_rfl) (by kernel_rfl) (fun _ _ _ h => h) (by rfl) hc5 ?_ ?_ ?_
                    rotate_left 2
                    · (intro w hS; go_simp; try with_reducible rfl)
                    · (go_simp; try with_reducible rfl)
                    refine held_take (i := 8) (v := ?_) (a' := ?_) rfl (by kernel_rfl) (by kernel_rfl) (by kernel_rfl) (fun _ _ _ h => h) (by rfl) hc5 ?_ ?_ ?_
                    rotate_left 2
                    · (intro w hS; go_simp; try with_reducible rfl)
                    · (go_simp; try with_reducible rfl)
                    refine wpAnyH_done (by kernel_rfl) ?_ _
                    go_wp2_with fail
                    go_roundw
                    case rel => exact ⟨j + 1, _, by omega, by go_num, rfl, HT2, HB10⟩
                    case measure => simp [intOf]; omega
                  exact AllHeld.nil
                exact AllHeld.nil
            · have hljI : ¬ (j : Int) < (ni : Int) := by omega
              have HJT := Lib.hid (show B = ids.contains qi by rw [HIB.out, List.take_of_length_le]; rw [HIN.out]; omega)
              have HB8 := Lib.hid (HBR.out.trans (HBJ.out.mono HBR.out.size))
              have HF8 := Lib.hid (HFR.out.go HBJ.out)
              clear HIB
              cases B with
              | true =>
                clear HFAR HJT HTA HSU1
                go_wp2_with fail
                go_roundw
                case rel => exact ⟨k + 1, m', by omega, by go_num, HF8, HB8⟩
                case measure => simp [intOf]; omega
              | false =>
                have hz := HFAR.out HJT.out.symm
                have HT8 := Lib.hid (HTA.out wr HBJ.out)
                rw [hz] at HT8
                clear HFAR HJT hz HTA HSU1
                go_wp2_with fail
                refine HT8.out.mono ?_
                rintro e w9 ⟨m9, rfl, hft9, hb9, _⟩
                have HF9 := Lib.hid hft9
                have HB9 := Lib.hid hb9
                clear hft9 hb9 HT8
                go_wp2_with fail
                go_roundw
                case rel => exact ⟨k + 1, m9, by omega, by go_num, HF9, HB9⟩
                case measure => simp [intOf]; omega
        · have hltI : ¬ (k : Int) < (n1 : Int) := by omega
          have hlad := HAJ.out.2
          have hmb := HRL.out.2.2
          have HLR := Lib.hid (fun w' (hb : Below wr.heap.size wr w') => HL.out.run w' m' ad (HBR.out.trans (hb.mono HBR.out.size)) (HFR.out.go hb) (by omega))
          have HRE := Lib.hid (fun w' (hb : Below wr.heap.size wr w') => records_any w5 w' HSR.out (HBR.out.trans (hb.mono HBR.out.size)) (HFR.out.go hb) (getB_fin bs) (by rw [HBN.out]; omega))
          have HGE := Lib.hid (fun w' (hb : Below wr.heap.size wr w') y (hy : y.length = 32) (hy2 : y ∈ (LL ad).take 16) => show Calls Try.prog 18 #[.pointer (some ⟨g, 0, none⟩), idV y] w' (SrcPost w' none) by
            have h1 := fget_any w5 w' HSR.out (HBR.out.trans (hb.mono HBR.out.size)) (HFR.out.go hb) y hy
            have h2 : srcF (getB bs) ad y = none := by
              have h3 := List.mem_of_mem_take hy2
              rw [HLL.out] at h3
              exact ((srcF_fin (getB_fin bs) ad).re h3).2
            rw [h2] at h1
            exact h1)
          obtain ⟨lz, hlz⟩ : ∃ lz, lz = LL ad := ⟨_, rfl⟩
          have HNO := Lib.hid (fun (e : lz ≠ []) => show recsF (getB bs) ad root = [] from recs_none (srcF_fin (getB_fin bs) ad) (by rw [hlz, HLL.out] at e; exact e))
          rw [← hlz] at HLR HGE
          have HBW := Lib.hid (HB5.out.trans (HBR.out.mono HB5.out.size))
          obtain ⟨wM, hwM⟩ : ∃ wM : World, wM = wr := ⟨_, rfl⟩
          rw [← hwM] at HLR HRE HGE HBW ⊢
          clear hlz HAJ hwM HFR HBR
          go_wp2_with fail
          refine (want_any wM g lz (HLR.out wM (Below.refl _ _))).mono ?_
          rintro e w9 ⟨hb9, AW, nw, cw, rfl, hnw, hwc, hwm, hsw⟩
          have HB9 := Lib.hid hb9
          have HNW := Lib.hid hnw.symm
          have HSW := Lib.hid hsw
          have hnw16 : nw ≤ 16 := by rw [hnw, List.length_take]; omega
          clear hb9 hnw hwc hwm hsw
          go_wp2_with fail
          go_loopw [143] (fun s143 wr => ∃ k : Nat, k ≤ nw ∧ s143 = .int .i64 (k : Int) ∧ Hid (Below w9.heap.size w9 wr)) (fun s143 wr => nw - (intOf s143).toNat)
          case atStart => exact ⟨0, by omega, rfl, Lib.hid (Below.refl _ _)⟩
          case round =>
            obtain ⟨k, hk, rfl, HBK⟩ := hrel
            by_cases hlt : k < nw
            · have hltI : (k : Int) < (nw : Int) := by omega
              obtain ⟨b3, o3, y, rfl, hb3, hy, hy32, haty⟩ := oids_look (HSW.out.below HBK.out) HNW.out hlt
              obtain ⟨KY, hKY⟩ : ∃ KY, KY = (bytesV y).toArray := ⟨_, rfl⟩
              have HIY := Lib.hid (show (Try.prog.info? 33).map (·.size) = some KY.size by rw [hKY]; exact oid_size hy32)
              rw [← hKY] at haty
              have HATY := Lib.hid haty
              have HZY := Lib.hid (show zID.size = KY.size by rw [hKY]; simp [bytesV, hy32])
              have HOY := Lib.hid (show KY.all (·.oneCell') = true by rw [hKY]; exact oid_one _)
              have HNB := Lib.hid (Blk.new wr 33 zID)
              have hba : Below wr.heap.size wr (wr.alloc (.cells KY 33)) := (Below.refl _ _).alloc (Nat.le_refl _) _
              have HB10 := Lib.hid (HBK.out.trans (hba.mono HBK.out.size))
              have HK10 := Lib.hid (Blk.new wr 33 KY)
              have HG10 := Lib.hid (HGE.out (wr.alloc (.cells KY 33)) (HB9.out.trans (HB10.out.mono HB9.out.size)) y hy32 (List.mem_of_getElem? hy))
              rw [show idV y = .agg KY by rw [hKY]] at HG10
              clear haty hba hy hKY hy32
              go_upto_region 41 with (first | (refine wpList_load_at rfl _ _ rfl b3 (o3 + k * 32) rfl KY _ HATY.out Try.underlying33 rfl HIY.out ?_) | (refine wpList_store_row rfl _ _ _ rfl wr.heap.size KY rfl rfl 33 _ HNB.out HIY.out HZY.out HOY.out ?_) | fail)
              rw [World.setRow_alloc_new]
              go_frame
              change Code.wp _ _ _ _ (wr.alloc (.cells KY 33))
              generalize hg9 : wr.heap.size = g9 at *
              generalize wr.alloc (.cells KY 33) = w10 at *
              clear HNB hg9 HATY HZY HOY
              go_wp2_with (first | (refine wpList_load_at rfl _ _ rfl g9 0 rfl KY _ (At.of_row HK10.out) Try.underlying33 rfl HIY.out ?_) | fail)
              refine HG10.out.mono ?_
              rintro e w11 ⟨hb11, A11, n11, c11, rfl⟩
              have HB11 := Lib.hid (HB10.out.trans (hb11.mono HB10.out.size))
              clear hb11 HG10
              go_wp2_with fail
              go_roundw
              case rel => exact ⟨k + 1, by omega, by go_num, HB11⟩
              case measure => simp [intOf]; omega
            · have hltI : ¬ (k : Int) < (nw : Int) := by omega
              have HBX := Lib.hid (HB9.out.trans (HBK.out.mono HB9.out.size))
              go_wp2_with fail
              refine (want_any wr g lz (HLR.out wr HBX.out)).mono ?_
              rintro e w12 ⟨hb12, A12, n12, c12, rfl, hn12, _, _, _⟩
              have HB12 := Lib.hid (HBX.out.trans (hb12.mono HBX.out.size))
              have h16 : n12 ≤ 16 := by rw [hn12, List.length_take]; omega
              have h16I : (n12 : Int) ≤ 16 := by omega
              clear hb12 hn12
              have HDN := Lib.hid (done_any w12 g lz (HLR.out w12 HB12.out))
              cases lz with
              | nil =>
                go_wp2_with fail
                refine HDN.out.mono ?_
                rintro e w13 ⟨rfl, hb13⟩
                have HB13 := Lib.hid (HB12.out.trans (hb13.mono HB12.out.size))
                clear hb13
                go_wp2_with fail
                go_ret
                exact ⟨rfl, HBW.out.trans (HB13.out.mono HBW.out.size)⟩
              | cons x lz =>
                have HRN := HNO.out (by simp)
                go_wp2_with fail
                refine HDN.out.mono ?_
                rintro e w13 ⟨rfl, hb13⟩
                have HB13 := Lib.hid (HB12.out.trans (hb13.mono HB12.out.size))
                have HRC := Lib.hid (HRE.out w13 HB13.out)
                rw [HRN] at HRC
                clear hb13 HRN
                go_wp2_with fail
                refine HRC.out.mono ?_
                rintro e w14 ⟨hb14, A14, m14, c14, rfl, hr14⟩
                obtain rfl : m14 = 0 := hr14.len
                have HB14 := Lib.hid (HB13.out.trans (hb14.mono HB13.out.size))
                clear hb14 hr14
                go_wp2_with fail
                go_ret
                exact ⟨rfl, HBW.out.trans (HB14.out.mono HBW.out.size)⟩
end Go.Proofs.Ytgmbkcjihgphmaa
