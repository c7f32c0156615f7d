/- towlinelaw21.TalkTakes: true for every input. -/
import Derived.Test.YtgmbkcjihgphmaaGreatJn33
import Derived.Test.YtgmbkcjihgphmaaGreatJn34
set_option linter.unusedVariables false
set_option linter.unusedSimpArgs false
namespace Go.Proofs.YtgmbkcjihgphmaaGreat
open Go.RowKit
attribute [local go_sem ↓] cvs_eq cvt_eq eqlId_eq
theorem turns_small {l : List TurnT} (h : bulkL bulkT l + 1 ≤ 1048576) : ∀ x ∈ l, x.2.2.length ≤ 1048576 := fun x hx => by
 have h1 : (1 + (1 + (bulkL (fun _ => 1) x.2.2 + 1))) + 1 ≤ bulkL bulkT l := bulkL_mem (b := bulkT) hx
 rw [bulk_ones] at h1
 omega
set_option maxRecDepth 100000 in
set_option maxHeartbeats 16000000 in
theorem talkTakes_any (A0 : Option Addr) (c0 : Nat) (l0 : List MkT) (A1 : Option Addr) (c1 : Nat) (l1 : List TurnT) (x2 : Int) (W0 : World) (nc0 : l0.length ≤ c0) (cm0 : c0 ≤ maxLen) (s0 : SlOf mkR W0 no A0 l0) (b0 : bulkL bulkM l0 + 1 ≤ 1048576)
  (nc1 : l1.length ≤ c1) (cm1 : c1 ≤ maxLen) (s1 : SlOf turnR W0 no A1 l1) (b1 : bulkL bulkT l1 + 1 ≤ 1048576) (w2 : (Lit.int .i64 x2).wf = true) :
  Calls Tryz.prog 3 #[.slice A0 l0.length c0, .slice A1 l1.length c1, .int .i64 x2] W0 fun e w' => e = .returned (.bool true) ∧ Below W0.heap.size W0 w' := by
 have HMS := Lib.hid (makes_small b0)
 have HRS := Lib.hid (turns_small b1)
 have HS0 := Lib.hid s0
 have HS1 := Lib.hid s1
 obtain ⟨n0, hn0⟩ : ∃ n0, n0 = l0.length := ⟨_, rfl⟩
 obtain ⟨n1, hn1⟩ : ∃ n1, n1 = l1.length := ⟨_, rfl⟩
 have HN0 := Lib.hid hn0
 have HN1 := Lib.hid hn1.symm
 rw [← hn0, ← hn1]
 have HWF := Lib.hid w2
 clear nc0 cm0 s0 b0 nc1 cm1 s1 b1 w2 hn0 hn1
 go_enter Tryz.func3, Tryz.ntmps3
 go_wp2_with fail
 refine (awake_talk _).mono ?_
 rintro e w1 ⟨rfl, hb1⟩
 have HB1 := Lib.hid hb1
 have HS01 := Lib.hid (HS0.out.below hb1)
 have HS11 := Lib.hid (HS1.out.below hb1)
 clear hb1
 by_cases hbig : 24 < n0 ∨ (n0 ≤ 24 ∧ 24 < n1)
 ·rcases hbig with h | ⟨h, h'⟩
  ·have h1 : (24 : Int) < (n0 : Int) := by omega
   go_wp2_with fail
   go_ret
   exact ⟨rfl, HB1.out⟩
  ·have h1 : ¬ (24 : Int) < (n0 : Int) := by omega
   have h2 : (24 : Int) < (n1 : Int) := by omega
   have h3 : ¬ 24 < n0 := by omega
   go_wp2_with fail
   go_ret
   exact ⟨rfl, HB1.out⟩
 have h1 : ¬ (24 : Int) < (n0 : Int) := by omega
 have h2 : ¬ (24 : Int) < (n1 : Int) := by omega
 have h3 : ¬ 24 < n0 := by omega
 have h4 : ¬ 24 < n1 := by omega
 have HLE := Lib.hid (show n0 ≤ 24 ∧ n1 ≤ 24 by omega)
 have HMD := Lib.hid (made_any A0 n0 c0 l0 w1 HS01.out HN0.out (by omega) HMS.out)
 clear hbig
 go_wp2_with fail
 refine HMD.out.mono ?_
 rintro e w2 ⟨Ao, m, co, Bo, mb, cb, rs, bs, rfl, hmi, hrl, hbl⟩
 have HMI := Lib.hid hmi
 have HRL := Lib.hid (show m = n0 ∧ m ≤ 24 ∧ mb ≤ 24 from by have := hmi.len; have := HLE.out; have := hmi.both.len; omega)
 have HS12 := Lib.hid (HS11.out.below hmi.below)
 have HB2 := Lib.hid (HB1.out.trans (hmi.below.mono HB1.out.size))
 have HOS := Lib.hid hmi.out.sl
 have HON := Lib.hid hmi.out.len.symm
 have HOC := Lib.hid hmi.out.cap
 have HBS := Lib.hid hmi.both.sl
 have HBN := Lib.hid hmi.both.len.symm
 have HGD := Lib.hid hmi.good
 have HSU := Lib.hid hmi.sub
 have hm24 : m ≤ 24 := HRL.out.2.1
 have hmc : m ≤ co := hmi.out.cap.1
 clear hmi hrl hbl h1 h2 h3 h4 HMD HS01 HS11 HS0 HS1 HMI HB1 HMS
 by_cases hr0 : x2 < 0
 ·have hr1 : decide (x2 < 0) = true := by simpa using hr0
  go_wp2_with fail
  go_ret
  exact ⟨rfl, HB2.out⟩
 obtain ⟨i, rfl⟩ : ∃ i : Nat, x2 = (i : Int) := ⟨x2.toNat, by omega⟩
 by_cases him : i < m
 case neg =>
  have hr1 : (m : Int) ≤ (i : Int) := by omega
  have hr2 : m ≤ i := by omega
  go_wp2_with fail
  go_ret
  exact ⟨rfl, HB2.out⟩
 have hr1 : ¬ (m : Int) ≤ (i : Int) := by omega
 have hr2 : ¬ m ≤ i := by omega
 have hiI : (i : Int) < (m : Int) := by omega
 have hi0 : (0 : Int) ≤ (i : Int) := by omega
 have hn1b : n1 ≤ 24 := HLE.out.2
 obtain ⟨b1, o1, r, rfl, hb1, hxr, h32, hatr⟩ := recs_row HOS.out HON.out him
 obtain ⟨root, hroot⟩ : ∃ root, root = r.1 := ⟨_, rfl⟩
 rw [← hroot] at h32
 obtain ⟨w5, hw5⟩ : ∃ w5, w5 = w2 := ⟨_, rfl⟩
 rw [← hw5] at HOS HBS HS12 HB2 hatr hb1 ⊢
 have hatx : At w5 ⟨b1, o1 + i * 33, none⟩ (bytesV root).toArray := fun j u hu => hatr j u (by
  have hu : (bytesV root)[j]? = some u := by simpa using hu
  rw [hroot] at hu
  unfold recK
  rw [List.getElem?_toArray, List.getElem?_append_left (List.getElem?_eq_some_iff.1 hu).1, hu])
 obtain ⟨KX, hKX⟩ : ∃ KX, KX = (bytesV root).toArray := ⟨_, rfl⟩
 have HI := Lib.hid (show (Tryz.prog.info? 33).map (·.size) = some KX.size by rw [hKX]; exact oid_size h32)
 rw [← hKX] at hatx
 have HAT := Lib.hid hatx
 have HKX := Lib.hid hKX
 have HR32 := Lib.hid h32
 have HG1 := Lib.hid (fun r (hr : r ∈ rs) => show r.2.size ≤ 1000000000 by have := (HGD.out r hr).2; omega)
 have HSR := Lib.hid (shelf_src w5 Bo mb cb bs HBS.out HBN.out.symm (by have := HRL.out; omega) (fun r hr => HG1.out r (HSU.out r hr)))
 have HNE := Lib.hid (new_any 31 (.agg #[.slice Bo mb cb]) root w5 h32)
 rw [show idV root = .agg KX by rw [hKX]] at HNE
 clear hw5 hxr hKX hroot h32 hatr hatx
 go_wp2_with (first
  | (refine wpList_load_at rfl _ _ rfl b1 (o1 + i * 33) rfl KX _ HAT.out Tryz.underlying33 rfl HI.out ?_) | fail)
 refine HNE.out.mono ?_
 rintro e w6 ⟨hb6, g, mp, rfl, hft⟩
 have HF6 := Lib.hid hft
 have HB6 := Lib.hid hb6
 have HL := Lib.hid (lack_law (g := g) (mb := mp) (root := root) w5 HSR.out (getB_fin bs) 100 (by rw [HBN.out]; have := HRL.out; omega))
 have HAT6 := Lib.hid (HAT.out.below hb6 hb1)
 obtain ⟨K0, hK0⟩ : ∃ K0, K0 = fK Bo mb cb none 0 0 root := ⟨_, rfl⟩
 have HBU := Lib.hid (show Tryz.prog.built 37 [(0, .slice Bo mb cb), (2, .agg KX)] = some K0 by rw [hK0, HKX.out]; exact built_f21 Bo mb cb root HR32.out)
 have hks0 : K0.size = 34 := by rw [hK0]; exact fK_size HR32.out _ _ _ _ _ _
 have HIK0 := Lib.hid (show (Tryz.prog.info? 37).map (·.size) = some K0.size by rw [hks0]; exact fetch21_info)
 have HSK0 := Lib.hid (show zF.size = K0.size by rw [hks0]; exact fK_size (by simp) _ _ _ _ _ _)
 have HOK0 := Lib.hid (show K0.all (·.oneCell') = true by rw [hK0]; exact fK_one _ _ _ _ _ _ _)
 have HNB := Lib.hid (Blk.new w6 37 zF)
 have hba6 : Below w6.heap.size w6 (w6.alloc (.cells K0 37)) := (Below.refl _ _).alloc (Nat.le_refl _) _
 have HF7 := Lib.hid (hft.go hba6)
 have HB7 := Lib.hid (hb6.trans (hba6.mono hb6.size))
 have HK7 := Lib.hid (Blk.new w6 37 K0)
 have HRF7 := Lib.hid (show RF (w6.alloc (.cells K0 37)) K0 bs [] root from
  ⟨⟨Bo, mb, cb, none, 0, 0, hK0, HBN.out.symm, rfl, HBS.out.below (hb6.trans (hba6.mono hb6.size)), ⟨[], ⟨rfl, fun h => absurd h (by decide)⟩, .nil, fun h => absurd h (by decide)⟩⟩, HR32.out⟩)
 have HGE := Lib.hid (show w5.heap.size ≤ w6.heap.size from hb6.size)
 have HNG := Lib.hid (show g ≠ w6.heap.size from Nat.ne_of_lt hft.blk.lt)
 clear hb6 hft HNE hK0 hks0 hba6
 go_upto_region 10 with (first
  | (refine wpList_load_at rfl _ _ rfl b1 (o1 + i * 33) rfl KX _ HAT6.out Tryz.underlying33 rfl HI.out ?_)
  | (refine wpList_built2 rfl 37 (.tmp 48) (.tmp 53) rfl K0 rfl rfl HBU.out ?_)
  | (refine wpList_store_row rfl _ _ _ rfl w6.heap.size K0 rfl rfl 37 _ HNB.out HIK0.out HSK0.out HOK0.out ?_) | fail)
 rw [World.setRow_alloc_new]
 go_frame
 change Code.wp _ _ _ _ (w6.alloc (.cells K0 37))
 generalize hg10 : w6.heap.size = g10 at *
 generalize w6.alloc (.cells K0 37) = w7 at *
 clear HNB hg10 HAT6 HBU
 go_wp2_with fail
 go_loopw [57] (fun s57 wr => ∃ (k : Nat) (K : Array Value) (m' : IM) (ad : AsT) (ax : List RecT), k ≤ n1 ∧ s57 = .int .i64 (k : Int) ∧ Hid (FT wr w5.heap.size g 31 (.agg #[.slice Bo mb cb]) root mp m' ad) ∧ Hid (Blk wr g10 37 K) ∧ Hid (RF wr K bs ax root) ∧ Hid (AlikeA ax ad ∧ ax.length ≤ k ∧ ad.length ≤ k) ∧ Hid (Below w5.heap.size w5 wr)) (fun s57 wr => n1 - (intOf s57).toNat)
 case atStart => exact ⟨0, K0, [], [], [], by omega, rfl, HF7, HK7, HRF7, Lib.hid ⟨AlikeA.nil, by simp, by simp⟩, HB7⟩
 case round =>
  obtain ⟨k, K, m', ad, ax, hk, rfl, HFR, HKR, HRR, HAD, HBR⟩ := hrel
  by_cases hlt : k < n1
  ·have hltI : (k : Int) < (n1 : Int) := by omega
   obtain ⟨b3, o3, x, D, cd, rfl, hb3, hx, hat3, hd1, hd2, hd3⟩ := turn_look (HS12.out.below HBR.out) HN1.out hlt
   have hxl : x.2.2.length ≤ 1048576 := HRS.out x (List.mem_of_getElem? hx)
   obtain ⟨kd, nn, d⟩ := x
   obtain ⟨nd, hnd⟩ : ∃ nd, nd = d.length := ⟨_, rfl⟩
   have hat4 : At wr ⟨b3, o3 + k * 3, none⟩ (turnK kd nn D nd cd) := by rw [hnd]; exact hat3
   have hndl : nd ≤ 1048576 := by rw [hnd]; exact hxl
   obtain ⟨KT, hKT⟩ : ∃ KT, KT = turnK kd nn D nd cd := ⟨_, rfl⟩
   rw [← hKT] at hat4
   have HAT4 := Lib.hid hat4
   have HIT := Lib.hid (show (Tryz.prog.info? 40).map (·.size) = some KT.size by rw [hKT]; kernel_rfl)
   have HOT := Lib.hid (show KT.all (·.oneCell') = true by rw [hKT]; simp [turnK, Value.oneCell'])
   have HZT := Lib.hid (show (turnK 0 0 none 0 0).size = KT.size by rw [hKT]; rfl)
   have HNT := Lib.hid (Blk.new wr 40 (turnK 0 0 none 0 0))
   have hba : Below wr.heap.size wr (wr.alloc (.cells KT 40)) := (Below.refl _ _).alloc (Nat.le_refl _) _
   have hdd : DataAt wr D nd cd d := ⟨by rw [hnd]; exact slOf_bytes hd3, by rw [hnd]; exact hd1, hd2, hnd.symm, hndl⟩
   have HDD := Lib.hid (show DataAt (wr.alloc (.cells KT 40)) D nd cd d from ⟨hdd.sl.below hba, hdd.cap, hdd.max, hdd.len, hdd.small⟩)
   have HFS := Lib.hid (HFR.out.go hba)
   have HKS := Lib.hid (HKR.out.below hba HKR.out.lt)
   have HRS2 := Lib.hid (HRR.out.go hba)
   have HBS2 := Lib.hid (HBR.out.trans (hba.mono HBR.out.size))
   have hk1 := Blk.new wr 40 KT
   have t0 : (wr.alloc (.cells KT 40)).cell? ⟨wr.heap.size, 0, none⟩ = some (.int .i64 kd) := by rw [hk1.cell, hKT]; rfl
   have t1 : (wr.alloc (.cells KT 40)).cell? ⟨wr.heap.size, 1, none⟩ = some (.int .i64 nn) := by rw [hk1.cell, hKT]; rfl
   have t2 : (wr.alloc (.cells KT 40)).cell? ⟨wr.heap.size, 2, none⟩ = some (.slice D nd cd) := by rw [hk1.cell, hKT]; rfl
   have HT1 := Lib.hid t1
   clear hx hat3 hat4 hd1 hd2 hd3 hxl hnd hKT hba hdd hk1 HFR HRR HBR HKR
   go_upto_region 13 with (first
    | (refine wpList_load_at rfl _ _ rfl b3 (o3 + k * 3) rfl KT _ HAT4.out Tryz.underlying40 rfl HIT.out ?_)
    | (refine wpList_store_row rfl _ _ _ rfl wr.heap.size KT rfl rfl 40 _ HNT.out HIT.out HZT.out HOT.out ?_) | fail)
   rw [World.setRow_alloc_new]
   go_frame
   change Code.wp _ _ _ _ (wr.alloc (.cells KT 40))
   generalize hgt : wr.heap.size = gt at *
   generalize wr.alloc (.cells KT 40) = w8 at *
   clear HNT HAT4 HIT HOT HZT hgt
   go_upto_region 14 with fail
   go_cut [77] (fun s77 wx => ∃ bb : Bool, s77 = .bool bb ∧ (bb = true → 0 ≤ nn ∧ nn < (m : Int)) ∧ w8 = wx)
   case first =>
    by_cases q0 : kd = 0
    ·subst q0
     by_cases q1 : 0 ≤ nn
     ·have q1' : (0 : Int) ≤ nn := q1
      by_cases q2 : nn < (m : Int)
      ·go_wp2_with fail
       go_meet
       case rel => exact ⟨true, rfl, fun _ => ⟨q1, q2⟩, rfl⟩
      ·go_wp2_with fail
       go_meet
       case rel => exact ⟨false, rfl, fun h => absurd h (by decide), rfl⟩
     ·go_wp2_with fail
      go_meet
      case rel => exact ⟨false, rfl, fun h => absurd h (by decide), rfl⟩
    ·have q0' : (kd == 0) = false := by rw [beq_eq_false_iff_ne]; exact q0
     go_wp2_with fail
     go_meet
     case rel => exact ⟨false, rfl, fun h => absurd h (by decide), rfl⟩
   case rest =>
   obtain ⟨bb, rfl, hbb, rfl⟩ := hcut
   go_upto_if 77 with fail
   go_cut [13] (fun s13 wx => ∃ (D : Option Addr) (nd cd : Nat) (d : List UInt8), s13 = .slice D nd cd ∧ Hid (DataAt wx D nd cd d) ∧ Hid (Below w8.heap.size w8 wx))
   case first =>
    cases bb with
    | true =>
     obtain ⟨j, rfl⟩ : ∃ j : Nat, nn = (j : Int) := ⟨nn.toNat, by have := (hbb rfl).1; omega⟩
     have hjm : j < m := by have := (hbb rfl).2; omega
     have hjI : (j : Int) < (m : Int) := by omega
     obtain ⟨b2, o2, q, e2, hb2, hxq, hq32, hatq⟩ := recs_row (HOS.out.below HBS2.out) HON.out hjm
     injection e2 with e2
     injection e2 with e2 e3
     subst e2 e3
     have HQG := Lib.hid (HGD.out q (List.mem_of_getElem? hxq))
     obtain ⟨qs, hqs⟩ : ∃ qs, qs = q.2 := ⟨_, rfl⟩
     have t3 : w8.cell? ⟨b1, o1 + j * 33 + 32, none⟩ = some (.string qs) := by
      have := hatq 32 (.string q.2) (by unfold recK; rw [List.getElem?_toArray, List.getElem?_append_right (by rw [bytesV_length, hq32]; exact Nat.le_refl _), bytesV_length, hq32]; rfl)
      rw [hqs]; exact this
     have hqz : qs.size ≤ 1048576 := by have := HQG.out.2; rw [← hqs] at this; exact this
     obtain ⟨A8, c8, w9, hrun8, hsl8, hc8, hcm8, hb8, g8, rfl, hg8⟩ := toBytes w8 qs (by simp only [maxLen]; omega)
     have hst : cvs w8 qs = .ok (.slice (some ⟨g8, 0, none⟩) qs.size c8) w9 := hrun8
     have HDX := Lib.hid (show DataAt w9 (some ⟨g8, 0, none⟩) qs.size c8 qs.data.toList from ⟨hsl8, hc8, hcm8, Array.length_toList, hqz⟩)
     have HBX := Lib.hid hb8
     clear hatq hxq hqs hrun8 hsl8 hc8 hcm8 hb8 hg8 hqz HDD HFS HKS HRS2
     go_wp2_with fail
     go_meet
     case rel => exact ⟨_, _, _, _, rfl, HDX, HBX⟩
    | false =>
     clear HFS HKS HRS2
     go_wp2_with fail
     go_meet
     case rel => exact ⟨D, nd, cd, d, rfl, HDD, Lib.hid (Below.refl _ _)⟩
   case rest =>
   clear HDD HT1 t0 t1 t2 hbb
   obtain ⟨D2, nd2, cd2, d2, rfl, HDX, HBX⟩ := hcut
   rename World => wx
   have HF9 := Lib.hid (HFS.out.go HBX.out)
   have HK9 := Lib.hid (HKS.out.below HBX.out HKS.out.lt)
   have HR9 := Lib.hid (HRS2.out.go HBX.out)
   have HB9 := Lib.hid (HBS2.out.trans (HBX.out.mono HBS2.out.size))
   clear HFS HKS HRS2 HBS2 HBX
   by_cases hbig : 1000 < nd2
   ·have hbI : (1000 : Int) < (nd2 : Int) := by omega
    go_wp2_with fail
    go_ret
    exact ⟨rfl, HB2.out.trans (HB9.out.mono HB2.out.size)⟩
   have hbI : ¬ (1000 : Int) < (nd2 : Int) := by omega
   obtain ⟨sq, hsq⟩ : ∃ sq : ByteArray, sq = ⟨d2.toArray⟩ := ⟨_, rfl⟩
   have hdb : dB sq = d2 := by rw [hsq]
   have hcv : cvt wx D2 nd2 cd2 = .ok (.string sq) wx := by rw [hsq]; exact cvt_of HDX.out.sl cd2
   have hqz : sq.size ≤ 1000000000 := by
    have h1 : (dB sq).length = sq.size := Array.length_toList
    have h2 := HDX.out.len
    rw [hdb] at h1
    omega
   have hlen : ax.length + bs.length ≤ 50 := by
    have h1 := HAD.out.2.1
    have h2 := HRL.out.2.2
    have h3 := HBN.out
    omega
   obtain ⟨tk, htk⟩ : ∃ tk, tk = take1 (fun ad => lackL (srcF (getB bs) ad) root) ad d2 := ⟨_, rfl⟩
   obtain ⟨tb, htb⟩ : ∃ tb, tb = takeB bs ax root sq := ⟨_, rfl⟩
   have halk := HAD.out.1.take (bs := bs) (root := root) sq
   rw [hdb, ← htk, ← htb] at halk
   have HAL := Lib.hid halk
   have htbl : tb.1.length ≤ k + 1 := by rw [htb]; exact Nat.le_trans (takeB_len sq) (by have := HAD.out.2.1; omega)
   have htkl : tk.1.length ≤ k + 1 := by rw [htk]; exact Nat.le_trans (take1_len _ _ _) (by have := HAD.out.2.2; omega)
   have hbs24 : bs.length ≤ 24 := by rw [HBN.out]; exact HRL.out.2.2
   have HRT := Lib.hid (show Calls Tryz.prog 7 #[.agg K, .slice (some ⟨wx.heap.size, 0, none⟩) 1 1] (wx.alloc (.cells #[.string sq] 9)) (RTakePost (wx.alloc (.cells #[.string sq] 9)) bs root tb) by
    have hb1 : Below wx.heap.size wx (wx.alloc (.cells #[.string sq] 9)) := (Below.refl _ _).alloc (Nat.le_refl _) _
    rw [htb]
    exact refTake_any _ (HR9.out.go hb1) (by omega) _ 1 sq ⟨[.string sq], Sl.one wx _ 9, .cons (cs := [.string sq]) rfl .nil, fun _ _ _ _ k => k⟩ hqz)
   have HBS := Lib.hid (show Below wx.heap.size wx (wx.alloc (.cells #[.string sq] 9)) from (Below.refl _ _).alloc (Nat.le_refl _) _)
   have HIK := Lib.hid HR9.out.size
   have HTAK := Lib.hid (fun w (hb : Below w5.heap.size w5 w) (hft : FT w w5.heap.size g 31 (.agg #[.slice Bo mb cb]) root mp m' ad) (hsl : Sl w 1 D2 nd2 (bytesV d2)) => take_one w5 w HL.out hb hft D2 nd2 cd2 d2 hsl HDX.out.len.symm HDX.out.cap HDX.out.max (by omega) (by have := HAD.out.2.2; omega))
   rw [← htk] at HTAK
   obtain ⟨tn, htn⟩ : ∃ tn, tn = tk.2 := ⟨_, rfl⟩
   have htn2 : tb.2 = tn := by rw [htn]; exact halk.2
   rw [← htn] at HTAK
   clear hsq hdb hqz htk htb halk htn hbig
   go_wp2_with (first
    | (refine wpList_load_at rfl _ _ rfl g10 0 rfl K _ (At.of_row HK9.out) Tryz.underlying37 rfl HIK.out ?_) | fail)
   refine HRT.out.mono ?_
   rintro e wb ⟨hbb, K', rfl, hrfb⟩
   rw [htn2]
   have hbw := HBS.out.trans (hbb.mono HBS.out.size)
   have HNF := Lib.hid (Blk.new wb 37 zF)
   have HIK' := Lib.hid hrfb.size
   have HZK := Lib.hid (show zF.size = K'.size by rw [hrfb.sz]; exact fK_size (by simp) _ _ _ _ _ _)
   have HSK := Lib.hid (show K.size = K'.size by rw [hrfb.sz, HR9.out.sz])
   have HOK := Lib.hid hrfb.one
   have hbc : Below wb.heap.size wb (wb.alloc (.cells K' 37)) := (Below.refl _ _).alloc (Nat.le_refl _) _
   have hbx := hbw.trans (hbc.mono hbw.size)
   have HFC := Lib.hid (HF9.out.go hbx)
   have HKC := Lib.hid (HK9.out.below hbx HK9.out.lt)
   have HRC := Lib.hid (hrfb.go hbc)
   have HDC := Lib.hid (HDX.out.sl.below hbx)
   have HBC := Lib.hid (HB9.out.trans (hbx.mono HB9.out.size))
   have HKN := Lib.hid (Blk.new wb 37 K')
   have HKK := Lib.hid HR9.out.k
   have HKK' := Lib.hid hrfb.k
   clear hbb hrfb hbw hbc hbx HF9 HK9 HR9 HRT hcv HB9 HBS
   go_upto_region 19 with (first
    | (refine wpList_store_row rfl _ _ _ rfl wb.heap.size K' rfl rfl 37 _ HNF.out HIK'.out HZK.out HOK.out ?_) | fail)
   rw [World.setRow_alloc_new]
   try go_frame
   change Code.wp _ _ _ _ (wb.alloc (.cells K' 37))
   generalize hgs : wb.heap.size = gs at *
   generalize wb.alloc (.cells K' 37) = wc at *
   clear HNF hgs HZK
   go_upto_region 20 with (first
    | (refine wpList_load_at rfl _ _ rfl gs 0 rfl K' _ (At.of_row HKN.out) Tryz.underlying37 rfl HIK'.out ?_)
    | (refine wpList_store_row rfl _ _ _ rfl g10 K' rfl rfl 37 _ HKC.out HIK'.out HSK.out HOK.out ?_) | fail)
   have HFE := Lib.hid (HFC.out.row HKC.out HKK.out HKK'.out HNG.out)
   have HRE := Lib.hid (HRC.out.row HKK.out HKC.out K')
   have HKE := Lib.hid (show Blk (wc.setRow g10 K') g10 37 K' from setRow_heap _ g10 _ _ _ _ HKC.out)
   have HBE := Lib.hid (below_setRow HBC.out HGE.out K')
   have HDE := Lib.hid (show Sl (wc.setRow g10 K') 1 D2 nd2 (bytesV d2) from by
    obtain ⟨_, _, _, _, _, _, e1⟩ := HKK.out
    obtain ⟨_, _, _, _, _, _, e2⟩ := HKK'.out
    have h1 := HKC.out
    rw [e1] at h1
    rw [e2]
    have h2 : SlOf byteR wc no D2 d2 := ⟨bytesV d2, by rw [HDX.out.len]; exact HDC.out, bytes_each _ _ _, fun _ _ _ _ q => q⟩
    rw [show nd2 = d2.length from HDX.out.len.symm]
    exact slOf_bytes (bytes_row h1 h2))
   clear HFC HKC HRC HDC HBC HKN HIK HSK HOK
   generalize wc.setRow g10 K' = wf at *
   have hdr : Below wf.heap.size wf wf.drew := Same.below ⟨1, rfl⟩ _
   obtain ⟨wd, hwd⟩ : ∃ wd, wd = wf.drew := ⟨_, rfl⟩
   rw [← hwd] at hdr
   have HWD := Lib.hid hwd
   have HFD := Lib.hid (HFE.out.go hdr)
   have HKD := Lib.hid (HKE.out.below hdr HKE.out.lt)
   have HRD := Lib.hid (HRE.out.go hdr)
   have HBD := Lib.hid (HBE.out.trans (hdr.mono HBE.out.size))
   have HTA := Lib.hid (HTAK.out wd HBD.out HFD.out (HDE.out.below hdr))
   have HMD := Lib.hid HFD.out.map
   obtain ⟨L, hL⟩ : ∃ L, L = lackL (srcF (getB bs) tk.1) root := ⟨_, rfl⟩
   obtain ⟨rl, hrl⟩ : ∃ rl, rl = recsF (getB bs) tk.1 root := ⟨_, rfl⟩
   have hsrc := HAL.out.1.src (bs := bs)
   have hlen2 : tb.1.length + bs.length ≤ 100 := by omega
   have HWA := Lib.hid (fun w m (hb : Below w5.heap.size w5 w) (hft : FT w w5.heap.size g 31 (.agg #[.slice Bo mb cb]) root mp m tk.1) => want_any w g _ (HL.out.run w m tk.1 hb hft (by omega)))
   have HDO := Lib.hid (fun w m (hb : Below w5.heap.size w5 w) (hft : FT w w5.heap.size g 31 (.agg #[.slice Bo mb cb]) root mp m tk.1) => done_any w g _ (HL.out.run w m tk.1 hb hft (by omega)))
   have HRA := Lib.hid (fun w m (hb : Below w5.heap.size w5 w) (hft : FT w w5.heap.size g 31 (.agg #[.slice Bo mb cb]) root mp m tk.1) => records_any w5 w HSR.out hb hft (getB_fin bs) (by omega))
   have HRW := Lib.hid (fun w (h : RF w K' bs tb.1 root) => refWant_any w h (by omega))
   have HRK := Lib.hid (fun w (h : RF w K' bs tb.1 root) => refLack_any w h (by omega))
   have HRB := Lib.hid (fun w (h : RF w K' bs tb.1 root) => refRecs_any w h (by omega))
   rw [hsrc] at HRW HRK HRB
   rw [← hL] at HWA HDO HRW HRK
   rw [← hsrc, HAL.out.1.recs, ← hrl] at HRB
   rw [← hrl] at HRA
   obtain ⟨dn, hdn⟩ : ∃ dn, dn = L.isEmpty := ⟨_, rfl⟩
   rw [← hdn] at HDO
   have HDN := Lib.hid hdn
   have HLN := Lib.hid (show L.length ≤ 1000000000 by
    have h1 := (srcF_fin (getB_fin bs) tk.1).lack_len (root := root)
    rw [← hL] at h1
    have h2 : (bs.length + tk.1.length) * 4096 ≤ 100 * 4096 := Nat.mul_le_mul_right _ (by omega)
    omega)
   have HRLN := Lib.hid (show rl.length ≤ 1000000000 by
    rw [hrl]
    unfold recsF
    have hf := srcF_fin (getB_fin bs) tk.1
    cases hm : markL (srcF (getB bs) tk.1) root with
    | error z => simp [recM]
    | ok R =>
     have h1 := hf.markL root
     rw [hm] at h1
     have h2 := markP_len h1
     have h3 := List.length_filterMap_le (getA tk.1) R
     have h5 : (bs.length + tk.1.length) * 4098 ≤ 100 * 4098 := Nat.mul_le_mul_right _ (by omega)
     show (R.filterMap (getA tk.1)).length ≤ _
     omega)
   have hST : Below w5.heap.size w5 wd ∧ Blk wd g10 37 K' := ⟨HBD.out, HKD.out⟩
   clear hdr hwd HFE HKE HRE HBE HDE HTAK hL hrl hsrc hdn HBD HKD htn2
   refine wp_region_held (S := fun w' => Below w5.heap.size w5 w' ∧ Blk w' g10 37 K') (by kernel_rfl) ?_
   change wpAnyH _ _ _ _ _ _ _ _ (World.drew _)
   rw [← HWD.out]
   refine rgT 0 hST ?_
   refine rgT 1 hST ?_
   refine rgT 4 hST ?_
   refine held_ready (rs := [2]) (by kernel_rfl) (by simp) ?_
   refine AllHeld.cons rfl (fun KR hKR => ?_) ?_
   ·go_simp
    have hc2 : Below w5.heap.size w5 (wd.alloc (.cells #[.slice D2 nd2 cd2] 38)) ∧ Blk (wd.alloc (.cells #[.slice D2 nd2 cd2] 38)) g10 37 K' := ⟨hST.1.alloc hST.1.size _, hST.2.alloc _⟩
    refine hKR _ _ hc2 ?_
    clear hKR KR
    refine held_ready (rs := [3]) (by kernel_rfl) (by simp) ?_
    refine AllHeld.cons rfl (fun KR hKR => ?_) ?_
    ·go_simp
     refine HTA.out.mono ?_
     rintro e w8 ⟨m8, rfl, hft8, hb8, hgr8⟩
     have hc3 : Below w5.heap.size w5 w8 ∧ Blk w8 g10 37 K' := ⟨hb8, hST.2.grown hgr8 (fun e => blk_map hST.2 HMD.out (Option.some.inj e))⟩
     have HF8 := Lib.hid hft8
     have HR8 := Lib.hid (HRD.out.map HMD.out hgr8)
     clear hft8 hb8 hgr8 HTA
     refine hKR _ _ hc3 ?_
     clear hKR KR
     refine rgT 5 hc3 ?_
     refine rgT 6 hc3 ?_
     refine rgT 7 hc3 ?_
     refine rgU 9 (v := ?_) (a' := ?_) hc3 ?_ ?_ ?_
     rotate_left 2
     ·(intro w hS; refine exec_load_at 37 (.tmp 10) ?_ g10 0 ?_ K' _ (At.of_row hS.2) Tryz.underlying37 rfl HIK'.out; exact rfl; exact rfl)
     ·(go_simp; try with_reducible rfl)
     refine held_ready (rs := [8]) (by kernel_rfl) (by simp) ?_
     refine AllHeld.cons rfl (fun KR hKR => ?_) ?_
     ·go_simp
      refine (HWA.out w8 _ hc3.1 HF8.out).mono ?_
      rintro e w9 ⟨hb9, A9, n9, c9, rfl, hn9, _, _, hs9⟩
      have hc8 : Below w5.heap.size w5 w9 ∧ Blk w9 g10 37 K' := ⟨hc3.1.trans (hb9.mono hc3.1.size), hc3.2.below hb9 hc3.2.lt⟩
      have HF9 := Lib.hid (HF8.out.go hb9)
      have HR9 := Lib.hid (HR8.out.go hb9)
      have HS9 := Lib.hid hs9
      have HN9 := Lib.hid hn9
      clear hb9 hs9 hn9
      refine hKR _ _ hc8 ?_
      clear hKR KR
      refine held_ready (rs := [10]) (by kernel_rfl) (by simp) ?_
      refine AllHeld.cons rfl (fun KR hKR => ?_) ?_
      ·go_simp
       refine (HRW.out w9 HR9.out).mono ?_
       rintro e w10 ⟨hb10, A10, n10, c10, rfl, hn10, _, _, hs10⟩
       have hc10 : Below w5.heap.size w5 w10 ∧ Blk w10 g10 37 K' := ⟨hc8.1.trans (hb10.mono hc8.1.size), hc8.2.below hb10 hc8.2.lt⟩
       have HF10 := Lib.hid (HF9.out.go hb10)
       have HR10 := Lib.hid (HR9.out.go hb10)
       have HIS := Lib.hid (ids_same A9 A10 n9 c9 n10 c10 _ w10 (HS9.out.below hb10) hs10 HN9.out hn10 (by rw [HN9.out, List.length_take]; omega))
       clear hb10 hs10 hn10
       refine hKR _ _ hc10 ?_
       clear hKR KR
       refine held_ready (rs := [11]) (by kernel_rfl) (by simp) ?_
       refine AllHeld.cons rfl (fun KR hKR => ?_) ?_
       ·go_simp
        refine HIS.out.mono ?_
        rintro e w11 ⟨rfl, hb11⟩
        have hc11 : Below w5.heap.size w5 w11 ∧ Blk w11 g10 37 K' := ⟨hc10.1.trans (hb11.mono hc10.1.size), hc10.2.below hb11 hc10.2.lt⟩
        have HF11 := Lib.hid (HF10.out.go hb11)
        have HR11 := Lib.hid (HR10.out.go hb11)
        clear hb11
        refine hKR _ _ hc11 ?_
        clear hKR KR
        refine rgT 12 hc11 ?_
        refine rgT 13 hc11 ?_
        refine rgT 14 hc11 ?_
        refine rgT 15 hc11 ?_
        refine rgU 17 (v := ?_) (a' := ?_) hc11 ?_ ?_ ?_
        rotate_left 2
        ·(intro w hS; refine exec_load_at 37 (.tmp 10) ?_ g10 0 ?_ K' _ (At.of_row hS.2) Tryz.underlying37 rfl HIK'.out; exact rfl; exact rfl)
        ·(go_simp; try with_reducible rfl)
        refine held_ready (rs := [16]) (by kernel_rfl) (by simp) ?_
        refine AllHeld.cons rfl (fun KR hKR => ?_) ?_
        ·go_simp
         refine (HDO.out w11 _ hc11.1 HF11.out).mono ?_
         rintro e w12 ⟨rfl, hb12⟩
         have hc16 : Below w5.heap.size w5 w12 ∧ Blk w12 g10 37 K' := ⟨hc11.1.trans (hb12.mono hc11.1.size), hc11.2.below hb12 hc11.2.lt⟩
         have HF12 := Lib.hid (HF11.out.go hb12)
         have HR12 := Lib.hid (HR11.out.go hb12)
         clear hb12
         refine hKR _ _ hc16 ?_
         clear hKR KR
         refine held_ready (rs := [18]) (by kernel_rfl) (by simp) ?_
         refine AllHeld.cons rfl (fun KR hKR => ?_) ?_
         ·go_simp
          refine (HRK.out w12 HR12.out).mono ?_
          rintro e w13 ⟨hb13, A13, n13, c13, rfl, hr13⟩
          have hc18 : Below w5.heap.size w5 w13 ∧ Blk w13 g10 37 K' := ⟨hc16.1.trans (hb13.mono hc16.1.size), hc16.2.below hb13 hc16.2.lt⟩
          have HF13 := Lib.hid (HF12.out.go hb13)
          have HR13 := Lib.hid (HR12.out.go hb13)
          have hz : ((n13 : Int) == 0) = dn := by rw [HDN.out, hr13.len]; cases L <;> simp <;> omega
          clear hb13 hr13
          refine hKR _ _ hc18 ?_
          clear hKR KR
          refine rgT 19 hc18 ?_
          refine rgT 20 hc18 ?_
          refine rgT 21 hc18 ?_
          refine rgT 22 hc18 ?_
          refine rgT 23 hc18 ?_
          refine rgT 24 hc18 ?_
          refine rgU 26 (v := ?_) (a' := ?_) hc18 ?_ ?_ ?_
          rotate_left 2
          ·(intro w hS; refine exec_load_at 37 (.tmp 10) ?_ g10 0 ?_ K' _ (At.of_row hS.2) Tryz.underlying37 rfl HIK'.out; exact rfl; exact rfl)
          ·(go_simp; try with_reducible rfl)
          refine held_ready (rs := [25]) (by kernel_rfl) (by simp) ?_
          refine AllHeld.cons rfl (fun KR hKR => ?_) ?_
          ·go_simp
           refine (HRA.out w13 _ hc18.1 HF13.out).mono ?_
           rintro e w14 ⟨hb14, A14, n14, c14, rfl, hr14⟩
           have hc25 : Below w5.heap.size w5 w14 ∧ Blk w14 g10 37 K' := ⟨hc18.1.trans (hb14.mono hc18.1.size), hc18.2.below hb14 hc18.2.lt⟩
           have HF14 := Lib.hid (HF13.out.go hb14)
           have HR14 := Lib.hid (HR13.out.go hb14)
           have HS14 := Lib.hid hr14.sl
           have HN14 := Lib.hid hr14.len
           clear hb14 hr14
           refine hKR _ _ hc25 ?_
           clear hKR KR
           refine held_ready (rs := [27]) (by kernel_rfl) (by simp) ?_
           refine AllHeld.cons rfl (fun KR hKR => ?_) ?_
           ·go_simp
            refine (HRB.out w14 HR14.out).mono ?_
            rintro e w15 ⟨hb15, A15, n15, c15, ss, rfl, hr15, hss⟩
            have hc27 : Below w5.heap.size w5 w15 ∧ Blk w15 g10 37 K' := ⟨hc25.1.trans (hb15.mono hc25.1.size), hc25.2.below hb15 hc25.2.lt⟩
            have HF15 := Lib.hid (HF14.out.go hb15)
            have HR15 := Lib.hid (HR14.out.go hb15)
            have hn15 : n14 = ss.length := by rw [HN14.out, ← hss, List.length_map]
            have HTS := Lib.hid (texts_same A14 A15 n14 n15 c14 c15 ss w15 (by rw [hss]; exact HS14.out.below hb15) hr15.sl hn15 hr15.len (by rw [HN14.out]; exact HRLN.out))
            clear hb15 hr15 hn15 hss
            refine hKR _ _ hc27 ?_
            clear hKR KR
            refine held_ready (rs := [28]) (by kernel_rfl) (by simp) ?_
            refine AllHeld.cons rfl (fun KR hKR => ?_) ?_
            ·go_simp
             refine HTS.out.mono ?_
             rintro e w16 ⟨rfl, hb16⟩
             have hc28 : Below w5.heap.size w5 w16 ∧ Blk w16 g10 37 K' := ⟨hc27.1.trans (hb16.mono hc27.1.size), hc27.2.below hb16 hc27.2.lt⟩
             have HF16 := Lib.hid (HF15.out.go hb16)
             have HR16 := Lib.hid (HR15.out.go hb16)
             clear hb16
             refine hKR _ _ hc28 ?_
             clear hKR KR
             refine rgT 29 hc28 ?_
             refine rgT 30 hc28 ?_
             refine wpAnyH_done (by kernel_rfl) ?_ _
             go_wp2_with fail
             go_roundw
             case rel => exact ⟨k + 1, K', m8, tk.1, tb.1, by omega, by go_num, HF16, Lib.hid hc28.2, HR16, Lib.hid ⟨HAL.out.1, htbl, htkl⟩, Lib.hid hc28.1⟩
             case measure => simp [intOf]; omega
            exact AllHeld.nil
           exact AllHeld.nil
          exact AllHeld.nil
         exact AllHeld.nil
        exact AllHeld.nil
       exact AllHeld.nil
      exact AllHeld.nil
     exact AllHeld.nil
    exact AllHeld.nil
   exact AllHeld.nil
  ·have hltI : ¬ (k : Int) < (n1 : Int) := by omega
   have HRO := Lib.hid (fun w (hb : Below wr.heap.size wr w) => root_any w (HFR.out.go hb))
   rw [show idV root = .agg KX by rw [HKX.out]] at HRO
   have HATK := Lib.hid (show At wr ⟨g10, 2, none⟩ KX by
    obtain ⟨_, _, _, _, _, _, h⟩ := HRR.out.k
    have h2 := HKR.out
    rw [h] at h2
    rw [HKX.out]
    exact fK_id_at h2)
   have hgl := HKR.out.lt
   have he := fun w => eqlId_of HR32.out HR32.out w
   rw [← HKX.out] at he
   simp only [beq_self_eq_true] at he
   have hcls : Below wr.heap.size wr wr.drew := Same.below ⟨1, rfl⟩ _
   clear HFR HRR HKR HAD
   go_upto_region 23 with fail
   refine wp_region_held (S := fun w => Below wr.heap.size wr w) (by kernel_rfl) ?_
   change wpAnyH _ _ _ _ _ _ _ _ (World.drew _)
   generalize World.drew wr = wd at hcls ⊢
   refine rgT 0 hcls ?_
   refine rgT 2 hcls ?_
   refine rgU 3 (v := ?_) (a' := ?_) hcls ?_ ?_ ?_
   rotate_left 2
   ·(intro w hS; refine exec_load_at 33 (.tmp 131) ?_ g10 2 ?_ KX _ (HATK.out.below hS hgl) Tryz.underlying33 rfl HI.out; exact rfl; exact rfl)
   ·(go_simp; try with_reducible rfl)
   refine held_ready (rs := [1]) (by kernel_rfl) (by simp) ?_
   refine AllHeld.cons rfl (fun KR hKR => ?_) ?_
   ·go_simp
    refine (HRO.out _ hcls).mono ?_
    rintro e wn ⟨rfl, hbn⟩
    have hcls := hcls.trans (hbn.mono hcls.size)
    clear hbn
    refine hKR _ _ hcls ?_
    clear hKR KR
    refine rgT 4 hcls ?_
    refine rgT 5 hcls ?_
    refine wpAnyH_done (by kernel_rfl) ?_ _
    go_wp2_with fail
    go_ret
    exact ⟨rfl, HB2.out.trans ((HBR.out.trans (hcls.mono HBR.out.size)).mono HB2.out.size)⟩
   exact AllHeld.nil
end Go.Proofs.YtgmbkcjihgphmaaGreat
