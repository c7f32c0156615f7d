/- towlinelaw21.TalkOrder: true for every input. -/
import Derived.Test.YtgmbkcjihgphmaaTalkOrder
import Derived.Test.YtgmbkcjihgphmaaJn30
import Derived.Test.YtgmbkcjihgphmaaJn31
set_option linter.unusedVariables false
set_option linter.unusedSimpArgs false
namespace Go.Proofs.Ytgmbkcjihgphmaa
open Go.RowKit
attribute [local go_sem ↓] cvs_eq cvt_eq

set_option maxRecDepth 100000 in
set_option maxHeartbeats 16000000 in
theorem talkOrder_any (A0 : Option Addr) (c0 : Nat) (l0 : List MkT) (x1 : Int) (A2 : Option Addr) (c2 : Nat) (l2 : List Int) (W0 : World) (nc0 : l0.length ≤ c0) (cm0 : c0 ≤ maxLen) (s0 : SlOf mkR W0 no A0 l0) (b0 : bulkL bulkM l0 + 1 ≤ 1048576)
    (wf1 : (Lit.int .i64 x1).wf = true) (nc2 : l2.length ≤ c2) (cm2 : c2 ≤ maxLen) (s2 : SlOf (intR .i64) W0 no A2 l2) (b2 : bulkL (fun _ => 1) l2 + 1 ≤ 1048576) :
    Calls Try.prog 5 #[.slice A0 l0.length c0, .int .i64 x1, .slice A2 l2.length c2] W0 fun e w' => e = .returned (.bool true) ∧ Below W0.heap.size W0 w' := by
  have HMS := Lib.hid (makes_small b0)
  have HS0 := Lib.hid s0
  have HS2 := Lib.hid s2
  obtain ⟨n0, hn0⟩ : ∃ n0, n0 = l0.length := ⟨_, rfl⟩
  obtain ⟨n2, hn2⟩ : ∃ n2, n2 = l2.length := ⟨_, rfl⟩
  have HN0 := Lib.hid hn0
  have HN2 := Lib.hid hn2.symm
  rw [← hn0, ← hn2]
  have HWF := Lib.hid wf1
  clear nc0 cm0 s0 b0 nc2 cm2 s2 b2 wf1 hn0 hn2
  go_enter Try.func5, Try.ntmps5
  go_wp2_with fail
  refine (awake_talk _).mono ?_
  rintro e w1 ⟨rfl, hb1⟩
  have HB1 := Lib.hid hb1
  have HS01 := Lib.hid (HS0.out.below hb1)
  have HS21 := Lib.hid (HS2.out.below hb1)
  clear hb1
  by_cases hbig : 14 < n0
  · have h1 : (14 : Int) < (n0 : Int) := by omega
    go_wp2_with fail
    go_ret
    exact ⟨rfl, HB1.out⟩
  have h1 : ¬ (14 : Int) < (n0 : Int) := by omega
  have HLE := Lib.hid (show n0 ≤ 14 by omega)
  have HMD := Lib.hid (made_any A0 n0 c0 l0 w1 HS01.out HN0.out (by omega) HMS.out)
  clear hbig
  go_wp2_with fail
  refine HMD.out.mono ?_
  rintro e w2 ⟨Ao, m, co, Bo, mb, cb, rs, bs, rfl, hmi, hrl, hbl⟩
  have HMI := Lib.hid hmi
  have HRL := Lib.hid (show m = n0 ∧ m ≤ 14 ∧ mb ≤ 14 from by have := hmi.len; have := HLE.out; have := hmi.both.len; omega)
  have HS22 := Lib.hid (HS21.out.below hmi.below)
  have HB2 := Lib.hid (HB1.out.trans (hmi.below.mono HB1.out.size))
  have HOS := Lib.hid hmi.out.sl
  have HON := Lib.hid hmi.out.len.symm
  have HOC := Lib.hid hmi.out.cap
  have HBS := Lib.hid hmi.both.sl
  have HBN := Lib.hid hmi.both.len.symm
  have HGD := Lib.hid hmi.good
  have HSU := Lib.hid hmi.sub
  have hm24 : m ≤ 14 := HRL.out.2.1
  have hmc : m ≤ co := hmi.out.cap.1
  clear hmi hrl hbl h1 HMD HS01 HS21 HS0 HS2 HMI HB1 HMS
  by_cases hr0 : x1 < 0
  · have hr1 : decide (x1 < 0) = true := by simpa using hr0
    go_wp2_with fail
    go_ret
    exact ⟨rfl, HB2.out⟩
  obtain ⟨i, rfl⟩ : ∃ i : Nat, x1 = (i : Int) := ⟨x1.toNat, by omega⟩
  by_cases him : i < m
  case neg =>
    have hr1 : (m : Int) ≤ (i : Int) := by omega
    have hr2 : m ≤ i := by omega
    go_wp2_with fail
    go_ret
    exact ⟨rfl, HB2.out⟩
  have hr1 : ¬ (m : Int) ≤ (i : Int) := by omega
  have hr2 : ¬ m ≤ i := by omega
  have hiI : (i : Int) < (m : Int) := by omega
  have hi0 : (0 : Int) ≤ (i : Int) := by omega
  have HTW := Lib.hid (twins_any Ao m co rs w2 HOS.out HON.out.symm (by omega) hmc)
  go_wp2_with fail
  refine HTW.out.mono ?_
  rintro e w3 ⟨b, rfl, hb3, hlone⟩
  have HB3 := Lib.hid (HB2.out.trans (hb3.mono HB2.out.size))
  cases b with
  | true =>
    clear hb3 HTW hlone
    go_wp2_with fail
    go_ret
    exact ⟨rfl, HB3.out⟩
  | false =>
  have HLO := Lib.hid (hlone rfl)
  have HOS5 := Lib.hid (HOS.out.below hb3)
  have HBS5 := Lib.hid (HBS.out.below hb3)
  have HS25 := Lib.hid (HS22.out.below hb3)
  clear hb3 HTW hlone HOS HBS HS22 HB2
  obtain ⟨w5, hw5⟩ : ∃ w5, w5 = w3 := ⟨_, rfl⟩
  rw [← hw5] at HOS5 HBS5 HS25 HB3 ⊢
  obtain ⟨b1, o1, r, rfl, hb1, hxr, h32, hatr⟩ := recs_row HOS5.out HON.out him
  obtain ⟨root, hroot⟩ : ∃ root, root = r.1 := ⟨_, rfl⟩
  rw [← hroot] at h32
  have hatx : At w5 ⟨b1, o1 + i * 33, none⟩ (bytesV root).toArray := fun j u hu => hatr j u (by
    have hu : (bytesV root)[j]? = some u := by simpa using hu
    rw [hroot] at hu
    unfold recK
    rw [List.getElem?_toArray, List.getElem?_append_left (List.getElem?_eq_some_iff.1 hu).1, hu])
  obtain ⟨KX, hKX⟩ : ∃ KX, KX = (bytesV root).toArray := ⟨_, rfl⟩
  have HI := Lib.hid (show (Try.prog.info? 33).map (·.size) = some KX.size by rw [hKX]; exact oid_size h32)
  rw [← hKX] at hatx
  have HAT := Lib.hid hatx
  have HG1 := Lib.hid (fun r (hr : r ∈ rs) => show r.2.size ≤ 1000000000 by have := (HGD.out r hr).2; omega)
  have HSR := Lib.hid (shelf_src w5 Bo mb cb bs HBS5.out HBN.out.symm (by have := HRL.out; omega) (fun r hr => HG1.out r (HSU.out r hr)))
  obtain ⟨wd, hwd⟩ : ∃ wd, wd = w5.drew := ⟨_, rfl⟩
  have HWD := Lib.hid hwd
  have hbd : Below w5.heap.size w5 wd := by rw [hwd]; exact Same.below ⟨1, rfl⟩ _
  have HBD := Lib.hid hbd
  have HNW := Lib.hid (fun w => new_any 42 (.agg #[.slice Bo mb cb]) root w h32)
  rw [show idV root = .agg KX by rw [hKX]] at HNW
  have HLL := Lib.hid (fun g mp => lack_law (g := g) (mb := mp) (root := root) w5 HSR.out (getB_fin bs) 100 (by rw [HBN.out]; have := HRL.out; omega))
  clear hw5 hatr hatx hxr hKX hroot h32 hwd hbd
  go_upto_region 8 with fail
  refine wp_region_held (S := fun w' => Below w5.heap.size w5 w') (by kernel_rfl) ?_
  change wpAnyH _ _ _ _ _ _ _ _ (World.drew _)
  rw [← HWD.out]
  refine held_take (i := 0) (v := ?_) (a' := ?_) rfl (by kernel_rfl) (by kernel_rfl) (by kernel_rfl) (fun _ _ _ h => h) (by rfl) HBD.out ?_ ?_ ?_
  rotate_left 2
  · (intro w hS; go_simp; try with_reducible rfl)
  · (go_simp; try with_reducible rfl)
  refine held_take (i := 1) (v := ?_) (a' := ?_) rfl (by kernel_rfl) (by kernel_rfl) (by kernel_rfl) (fun _ _ _ h => h) (by rfl) HBD.out ?_ ?_ ?_
  rotate_left 2
  · (intro w hS; go_simp; try with_reducible rfl)
  · (go_simp; try with_reducible rfl)
  refine held_take (i := 2) (v := ?_) (a' := ?_) rfl (by kernel_rfl) (by kernel_rfl) (by kernel_rfl) (fun _ _ _ h => h) (by rfl) HBD.out ?_ ?_ ?_
  rotate_left 2
  · (intro w hS; go_simp; try with_reducible rfl)
  · (go_simp; try with_reducible rfl)
  refine held_take (i := 3) (v := ?_) (a' := ?_) rfl (by kernel_rfl) (by kernel_rfl) (by kernel_rfl) (fun _ _ _ h => h) (by rfl) HBD.out ?_ ?_ ?_
  rotate_left 2
  · (intro w hS; go_simp; try with_reducible rfl)
  · (go_simp; try with_reducible rfl)
  refine held_take (i := 4) (v := ?_) (a' := ?_) rfl (by kernel_rfl) (by kernel_rfl) (by kernel_rfl) (fun _ _ _ h => h) (by rfl) HBD.out ?_ ?_ ?_
  rotate_left 2
  · (intro w hS; go_simp; try with_reducible rfl)
  · (go_simp; try with_reducible rfl)
  refine held_take (i := 5) (v := ?_) (a' := ?_) rfl (by kernel_rfl) (by kernel_rfl) (by kernel_rfl) (fun _ _ _ h => h) (by rfl) HBD.out ?_ ?_ ?_
  rotate_left 2
  · (intro w hS; go_simp; try with_reducible rfl)
  · (go_simp; try with_reducible rfl)
  refine held_take (i := 6) (v := ?_) (a' := ?_) rfl (by kernel_rfl) (by kernel_rfl) (by kernel_rfl) (fun _ _ _ h => h) (by rfl) HBD.out ?_ ?_ ?_
  rotate_left 2
  · (intro w hS; go_simp; try with_reducible rfl)
  · (go_simp; try with_reducible rfl)
  refine held_take (i := 7) (v := ?_) (a' := ?_) rfl (by kernel_rfl) (by kernel_rfl) (by kernel_rfl) (fun _ _ _ h => h) (by rfl) HBD.out ?_ ?_ ?_
  rotate_left 2
  · (intro w hS; refine exec_load_at 33 (.tmp 47) ?_ b1 (o1 + i * 33) ?_ KX _ (HAT.out.below hS hb1) Try.underlying33 rfl HI.out; exact rfl; exact rfl)
  · (go_simp; try with_reducible rfl)
  refine held_take (i := 9) (v := ?_) (a' := ?_) rfl (by kernel_rfl) (by kernel_rfl) (by kernel_rfl) (fun _ _ _ h => h) (by rfl) HBD.out ?_ ?_ ?_
  rotate_left 2
  · (intro w hS; go_simp; try with_reducible rfl)
  · (go_simp; try with_reducible rfl)
  refine held_take (i := 10) (v := ?_) (a' := ?_) rfl (by kernel_rfl) (by kernel_rfl) (by kernel_rfl) (fun _ _ _ h => h) (by rfl) HBD.out ?_ ?_ ?_
  rotate_left 2
  · (intro w hS; go_simp; try with_reducible rfl)
  · (go_simp; try with_reducible rfl)
  refine held_take (i := 11) (v := ?_) (a' := ?_) rfl (by kernel_rfl) (by kernel_rfl) (by kernel_rfl) (fun _ _ _ h => h) (by rfl) HBD.out ?_ ?_ ?_
  rotate_left 2
  · (intro w hS; go_simp; try with_reducible rfl)
  · (go_simp; try with_reducible rfl)
  refine held_take (i := 12) (v := ?_) (a' := ?_) rfl (by kernel_rfl) (by kernel_rfl) (by kernel_rfl) (fun _ _ _ h => h) (by rfl) HBD.out ?_ ?_ ?_
  rotate_left 2
  · (intro w hS; go_simp; try with_reducible rfl)
  · (go_simp; try with_reducible rfl)
  refine held_take (i := 13) (v := ?_) (a' := ?_) rfl (by kernel_rfl) (by kernel_rfl) (by kernel_rfl) (fun _ _ _ h => h) (by rfl) HBD.out ?_ ?_ ?_
  rotate_left 2
  · (intro w hS; go_simp; try with_reducible rfl)
  · (go_simp; try with_reducible rfl)
  refine held_take (i := 14) (v := ?_) (a' := ?_) rfl (by kernel_rfl) (by kernel_rfl) (by kernel_rfl) (fun _ _ _ h => h) (by rfl) HBD.out ?_ ?_ ?_
  rotate_left 2
  · (intro w hS; go_simp; try with_reducible rfl)
  · (go_simp; try with_reducible rfl)
  refine held_take (i := 15) (v := ?_) (a' := ?_) rfl (by kernel_rfl) (by kernel_rfl) (by kernel_rfl) (fun _ _ _ h => h) (by rfl) HBD.out ?_ ?_ ?_
  rotate_left 2
  · (intro w hS; go_simp; try with_reducible rfl)
  · (go_simp; try with_reducible rfl)
  refine held_take (i := 16) (v := ?_) (a' := ?_) rfl (by kernel_rfl) (by kernel_rfl) (by kernel_rfl) (fun _ _ _ h => h) (by rfl) HBD.out ?_ ?_ ?_
  rotate_left 2
  · (intro w hS; refine exec_load_at 33 (.tmp 56) ?_ b1 (o1 + i * 33) ?_ KX _ (HAT.out.below hS hb1) Try.underlying33 rfl HI.out; exact rfl; exact rfl)
  · (go_simp; try with_reducible rfl)
  refine held_ready (rs := [8]) (by kernel_rfl) (by simp) ?_
  refine AllHeld.cons rfl (fun KR hKR => ?_) ?_
  · go_simp
    refine (HNW.out wd).mono ?_
    rintro e w6 ⟨hb6, gA, mpA, rfl, hftA⟩
    have hc8 := HBD.out.trans (hb6.mono HBD.out.size)
    have HF6 := Lib.hid (hftA.lower (B' := w5.heap.size) HBD.out.size)
    have HM6 := Lib.hid hftA.map.lt
    clear hb6 hftA
    refine hKR _ _ hc8 ?_
    clear hKR KR
    refine held_ready (rs := [17]) (by kernel_rfl) (by simp) ?_
    refine AllHeld.cons rfl (fun KR hKR => ?_) ?_
    · go_simp
      refine (HNW.out w6).mono ?_
      rintro e w7 ⟨hb7, gB, mpB, rfl, hftB⟩
      have hc17 := hc8.trans (hb7.mono hc8.size)
      have HF7A := Lib.hid (HF6.out.go hb7)
      have HF7B := Lib.hid (hftB.lower (B' := w5.heap.size) hc8.size)
      have HNE := Lib.hid (show mpB ≠ mpA by have := hftB.basem; have := HM6.out; omega)
      have HB7 := Lib.hid hc17
      clear hb7 hftB
      refine hKR _ _ hc17 ?_
      clear hKR KR
      refine held_take (i := 18) (v := ?_) (a' := ?_) rfl (by kernel_rfl) (by kernel_rfl) (by kernel_rfl) (fun _ _ _ h => h) (by rfl) hc17 ?_ ?_ ?_
      rotate_left 2
      · (intro w hS; go_simp; try with_reducible rfl)
      · (go_simp; try with_reducible rfl)
      refine held_take (i := 19) (v := ?_) (a' := ?_) rfl (by kernel_rfl) (by kernel_rfl) (by kernel_rfl) (fun _ _ _ h => h) (by rfl) hc17 ?_ ?_ ?_
      rotate_left 2
      · (intro w hS; go_simp; try with_reducible rfl)
      · (go_simp; try with_reducible rfl)
      refine wpAnyH_done (by kernel_rfl) ?_ _
      go_wp2_with fail
      have HLA := Lib.hid (HLL.out gA mpA)
      have HLB := Lib.hid (HLL.out gB mpB)
      clear HLL HF6 HM6 HNW hc8 hc17 HAT
      go_loopw [61] (fun s61 wr => ∃ (k : Nat) (mA : IM) (adA : AsT) (mB : IM) (adB : AsT), k ≤ m ∧ s61 = .int .i64 (k : Int) ∧ Hid (FT wr w5.heap.size gA 42 (.agg #[.slice Bo mb cb]) root mpA mA adA) ∧ Hid (FT wr w5.heap.size gB 42 (.agg #[.slice Bo mb cb]) root mpB mB adB) ∧ Hid (OA rs bs adA ∧ GA rs (lackO bs root) k adA) ∧ Hid (OA rs bs adB ∧ GA rs (lackO bs root) k adB) ∧ Hid (Below w5.heap.size w5 wr)) (fun s61 wr => m - (intOf s61).toNat)
      case atStart => exact ⟨0, [], [], [], [], by omega, rfl, HF7A, HF7B, Lib.hid ⟨OA.nil rs bs, GA.start _ _⟩, Lib.hid ⟨OA.nil rs bs, GA.start _ _⟩, HB7⟩
      case round =>
        obtain ⟨k, mA, adA, mB, adB, hk, rfl, HFA, HFB, HOA, HOB, HBW⟩ := hrel
        by_cases hlt : k < m
        · have hltI : (k : Int) < (m : Int) := by omega
          obtain ⟨wL, rfl⟩ : ∃ wo : World, wo = wr := ⟨_, rfl⟩
          have HPA0 := Lib.hid (show OA rs bs adA ∧ PA rs (lackO bs root) k 0 adA from ⟨HOA.out.1, HOA.out.2.pass⟩)
          go_wp2_with fail
          go_loopw [65] (fun s65 wr => ∃ (j : Nat) (mA : IM) (adA : AsT), j ≤ m ∧ s65 = .int .i64 (j : Int) ∧ Hid (FT wr w5.heap.size gA 42 (.agg #[.slice Bo mb cb]) root mpA mA adA) ∧ Hid (FT wr w5.heap.size gB 42 (.agg #[.slice Bo mb cb]) root mpB mB adB) ∧ Hid (OA rs bs adA ∧ PA rs (lackO bs root) k j adA) ∧ Hid (Below w5.heap.size w5 wr)) (fun s65 wr => m - (intOf s65).toNat)
          case atStart => exact ⟨0, mA, adA, by omega, rfl, HFA, HFB, HPA0, HBW⟩
          case round =>
            clear HFA HFB HOA HPA0 HBW
            obtain ⟨j, mA, adA, hj, rfl, HFA, HFB, HOA, HBW⟩ := hrel
            by_cases hlj : j < m
            · have hljI : (j : Int) < (m : Int) := by omega
              obtain ⟨b2, o2, q, e2, hb2, hxq, hq32, hatq⟩ := recs_row (HOS5.out.below HBW.out) HON.out hlj
              injection e2 with e2
              injection e2 with e2 e3
              subst e2 e3
              have hqr := List.mem_of_getElem? hxq
              have HQ := Lib.hid hqr
              have HXQ := Lib.hid hxq
              have HQG := Lib.hid (HGD.out q hqr)
              obtain ⟨qs, hqs⟩ : ∃ qs, qs = q.2 := ⟨_, rfl⟩
              have HQS := Lib.hid hqs
              obtain ⟨KE, hKE⟩ : ∃ KE, KE = recK q.1 qs := ⟨_, rfl⟩
              rw [← hqs, ← hKE] at hatq
              have HIE := Lib.hid (show (Try.prog.info? 36).map (·.size) = some KE.size by rw [hKE]; exact recK_info hq32 _)
              have HSE := Lib.hid (show zRec.size = KE.size by rw [hKE, recK_size hq32, recK_size (by simp)])
              have HOE := Lib.hid (show KE.all (·.oneCell') = true by rw [hKE]; exact recK_one _ _)
              have HAE := Lib.hid hatq
              have HNR := Lib.hid (Blk.new wr 36 zRec)
              have hba : Below wr.heap.size wr (wr.alloc (.cells KE 36)) := (Below.refl _ _).alloc (Nat.le_refl _) _
              have HBQ := Lib.hid (HBW.out.trans (hba.mono HBW.out.size))
              have HFA2 := Lib.hid (HFA.out.go hba)
              have HFB2 := Lib.hid (HFB.out.go hba)
              have t1 : (wr.alloc (.cells KE 36)).cell? ⟨wr.heap.size, 32, none⟩ = some (.string qs) := by
                have := Blk.new wr 36 KE
                rw [hKE] at this ⊢
                exact rec_str hq32 this
              clear hatq hba hxq hqr hq32 hqs hKE HFA HFB HBW
              go_upto_region 14 with (first | (refine wpList_load_at rfl _ _ rfl b1 (o1 + j * 33) rfl KE _ HAE.out Try.underlying36 rfl HIE.out ?_) | (refine wpList_store_row rfl _ _ _ rfl wr.heap.size KE rfl rfl 36 _ HNR.out HIE.out HSE.out HOE.out ?_) | fail)
              rw [World.setRow_alloc_new]
              go_frame
              change Code.wp _ _ _ _ (wr.alloc (.cells KE 36))
              generalize hgr : wr.heap.size = gr at *
              generalize wr.alloc (.cells KE 36) = w7' at *
              clear HNR hgr HAE
              have HFA := HFA2
              have HFB := HFB2
              have HBW := HBQ
              have hqz : qs.size ≤ 1048576 := by have := HQG.out.2; rw [← HQS.out] at this; exact this
              obtain ⟨A8, c8, w8, hrun8, hsl8, hc8, hcm8, hb8, g8, rfl, hg8⟩ := toBytes w7' qs (by simp only [maxLen]; omega)
              have hst : cvs w7' qs = .ok (.slice (some ⟨g8, 0, none⟩) qs.size c8) w8 := hrun8
              have HTA := Lib.hid (take_one w5 w8 HLA.out (HBW.out.trans (hb8.mono HBW.out.size)) (HFA.out.go hb8) _ qs.size c8 (dB qs) hsl8 Array.length_toList.symm hc8 hcm8 (by omega) (by have h1 := HOA.out.1.len; have h2 := HON.out; omega))
              have HMP := Lib.hid (HFA.out.go hb8).map
              have HFO := Lib.hid (HFB.out.go hb8)
              obtain ⟨tk, htk⟩ : ∃ tk, tk = take1 (lackO bs root) adA (dB qs) := ⟨_, rfl⟩
              have HOT := Lib.hid (show OA rs bs tk.1 by rw [htk, HQS.out]; exact (HOA.out.1.take HLO.out HQ.out HQG.out.1).1)
              have HPT := Lib.hid (show PA rs (lackO bs root) k (j + 1) tk.1 by rw [htk, HQS.out]; exact HOA.out.2.take HOA.out.1 HLO.out HXQ.out HQG.out.1)
              rw [show take1 (fun ad => lackL (srcF (getB bs) ad) root) adA (dB qs) = tk from htk.symm] at HTA
              clear hrun8 hsl8 hc8 hcm8 hb8 hg8 hqz htk
              go_wp2_with fail
              refine HTA.out.mono ?_
              rintro e w9 ⟨m9, rfl, hft9, hb9, hgr9⟩
              have HF9 := Lib.hid hft9
              have HB9 := Lib.hid hb9
              have HG9 := Lib.hid (HFO.out.other HMP.out HNE.out hgr9)
              clear hft9 hb9 hgr9 HTA HMP HFO hst
              go_wp2_with fail
              go_roundw
              case rel => exact ⟨j + 1, m9, tk.1, by omega, by go_num, HF9, HG9, Lib.hid ⟨HOT.out, HPT.out⟩, HB9⟩
              case measure => simp [intOf]; omega
            · have hljI : ¬ (j : Int) < (m : Int) := by omega
              have HOA1 := Lib.hid (show OA rs bs adA ∧ GA rs (lackO bs root) (k + 1) adA from ⟨HOA.out.1, (show PA rs (lackO bs root) k rs.length adA by rw [HON.out]; have := HOA.out.2; rw [show j = m by omega] at this; exact this).whole⟩)
              clear HOA
              obtain ⟨wL2, rfl⟩ : ∃ wo : World, wo = wr := ⟨_, rfl⟩
              go_wp2_with fail
              go_loopw [78] (fun s78 wr => ∃ (i : Nat) (mB : IM) (adB : AsT), i ≤ m ∧ s78 = .int .i64 (i : Int) ∧ Hid (FT wr w5.heap.size gA 42 (.agg #[.slice Bo mb cb]) root mpA mA adA) ∧ Hid (FT wr w5.heap.size gB 42 (.agg #[.slice Bo mb cb]) root mpB mB adB) ∧ Hid (OA rs bs adB ∧ GA rs (lackO bs root) k adB) ∧ Hid (Below w5.heap.size w5 wr)) (fun s78 wr => m - (intOf s78).toNat)
              case atStart => exact ⟨0, mB, adB, by omega, rfl, HFA, HFB, HOB, HBW⟩
              case round =>
                clear HFA HFB HOB HBW
                obtain ⟨i, mB, adB, hi, rfl, HFA, HFB, HOB, HBW⟩ := hrel
                by_cases hli : i < m
                · have hliI : (i : Int) < (m : Int) := by omega
                  obtain ⟨x0, hx0⟩ : ∃ x0 : Nat, (m : Int) - 1 - (i : Int) = (x0 : Int) := ⟨m - 1 - i, by omega⟩
                  have hx0m : x0 < m := by omega
                  have hx0I : (x0 : Int) < (m : Int) := by omega
                  go_upto_if 89 with fail
                  go_cut [14] (fun s14 wx => ∃ x : Nat, x < m ∧ s14 = .int .i64 (x : Int) ∧ wr = wx)
                  case first =>
                    by_cases hi2 : i < n2
                    · have hi2I : (i : Int) < (n2 : Int) := by omega
                      obtain ⟨b4, o4, z, rfl, hb4, hcz, hwz⟩ := int_look (HS25.out.below HBW.out) HN2.out hi2
                      obtain ⟨t, ht⟩ : ∃ t, z.tmod 20 = t := ⟨_, rfl⟩
                      have ht1 : t < 20 := by rw [← ht]; exact Int.tmod_lt_of_pos z (by omega)
                      have ht2 : -20 < t := by
                        rw [← ht]
                        have := Int.tmod_lt_of_pos (-z) (show (0 : Int) < 20 by omega)
                        rw [Int.neg_tmod] at this; omega
                      obtain ⟨v, hv⟩ : ∃ v, ((x0 : Int) + t).tmod (m : Int) = v := ⟨_, rfl⟩
                      have hm1 : (0 : Int) < (m : Int) := by omega
                      have hv1 : v < (m : Int) := by rw [← hv]; exact Int.tmod_lt_of_pos _ hm1
                      have hv2 : -(m : Int) < v := by
                        rw [← hv]
                        have := Int.tmod_lt_of_pos (-((x0 : Int) + t)) hm1
                        rw [Int.neg_tmod] at this; omega
                      obtain ⟨x, hx⟩ : ∃ x : Nat, (v + (m : Int)).tmod (m : Int) = (x : Int) := ⟨((v + (m : Int)).tmod (m : Int)).toNat, by
                        have := Int.tmod_nonneg (m : Int) (show 0 ≤ v + (m : Int) by omega)
                        omega⟩
                      have hxm : x < m := by
                        have := Int.tmod_lt_of_pos (v + (m : Int)) hm1
                        rw [hx] at this; omega
                      have hm2 : ¬ (m : Int) = 0 := by omega
                      have hm3 : ¬ m = 0 := by omega
                      go_wp2_with fail
                      go_meet
                      case rel => exact ⟨x, hxm, rfl, rfl⟩
                    · have hi2I : ¬ (i : Int) < (n2 : Int) := by omega
                      go_wp2_with fail
                      go_meet
                      case rel => exact ⟨x0, hx0m, rfl, rfl⟩
                  case rest =>
                  obtain ⟨x, hxm, rfl, rfl⟩ := hcut
                  have hxmI : (x : Int) < (m : Int) := by omega
                  obtain ⟨b2, o2, q, e2, hb2, hxq, hq32, hatq⟩ := recs_row (HOS5.out.below HBW.out) HON.out hxm
                  injection e2 with e2
                  injection e2 with e2 e3
                  subst e2 e3
                  have hqr := List.mem_of_getElem? hxq
                  have HQ := Lib.hid hqr
                  have HXQ := Lib.hid hxq
                  have HQG := Lib.hid (HGD.out q hqr)
                  obtain ⟨qs, hqs⟩ : ∃ qs, qs = q.2 := ⟨_, rfl⟩
                  have HQS := Lib.hid hqs
                  have t1 : wr.cell? ⟨b1, o1 + x * 33 + 32, none⟩ = some (.string qs) := by
                    have := hatq 32 (.string q.2) (by unfold recK; rw [List.getElem?_toArray, List.getElem?_append_right (by rw [bytesV_length, hq32]; exact Nat.le_refl _), bytesV_length, hq32]; rfl)
                    rw [hqs]; exact this
                  clear hatq hxq hqr hq32 hqs
                  have hqz : qs.size ≤ 1048576 := by have := HQG.out.2; rw [← HQS.out] at this; exact this
                  obtain ⟨A8, c8, w8, hrun8, hsl8, hc8, hcm8, hb8, g8, rfl, hg8⟩ := toBytes wr qs (by simp only [maxLen]; omega)
                  have hst : cvs wr qs = .ok (.slice (some ⟨g8, 0, none⟩) qs.size c8) w8 := hrun8
                  have HTA := Lib.hid (take_one w5 w8 HLB.out (HBW.out.trans (hb8.mono HBW.out.size)) (HFB.out.go hb8) _ qs.size c8 (dB qs) hsl8 Array.length_toList.symm hc8 hcm8 (by omega) (by have h1 := HOB.out.1.len; have h2 := HON.out; omega))
                  have HMP := Lib.hid (HFB.out.go hb8).map
                  have HFO := Lib.hid (HFA.out.go hb8)
                  obtain ⟨tk, htk⟩ : ∃ tk, tk = take1 (lackO bs root) adB (dB qs) := ⟨_, rfl⟩
                  have HOT := Lib.hid (show OA rs bs tk.1 by rw [htk, HQS.out]; exact (HOB.out.1.take HLO.out HQ.out HQG.out.1).1)
                  have HGT := Lib.hid (show GA rs (lackO bs root) k tk.1 by rw [htk, HQS.out]; exact HOB.out.2.take HOB.out.1 HLO.out HQ.out HQG.out.1)
                  rw [show take1 (fun ad => lackL (srcF (getB bs) ad) root) adB (dB qs) = tk from htk.symm] at HTA
                  clear hrun8 hsl8 hc8 hcm8 hb8 hg8 hqz htk
                  go_wp2_with fail
                  refine HTA.out.mono ?_
                  rintro e w9 ⟨m9, rfl, hft9, hb9, hgr9⟩
                  have HF9 := Lib.hid hft9
                  have HB9 := Lib.hid hb9
                  have HG9 := Lib.hid (HFO.out.other HMP.out HNE.out.symm hgr9)
                  clear hft9 hb9 hgr9 HTA HMP HFO hst
                  go_wp2_with fail
                  go_roundw
                  case rel => exact ⟨i + 1, m9, tk.1, by omega, by go_num, HG9, HF9, Lib.hid ⟨HOT.out, HGT.out⟩, HB9⟩
                  case measure => simp [intOf]; omega
                · have hliI : ¬ (i : Int) < (m : Int) := by omega
                  obtain ⟨wL3, rfl⟩ : ∃ wo : World, wo = wr := ⟨_, rfl⟩
                  have HPB0 := Lib.hid (show OA rs bs adB ∧ PA rs (lackO bs root) k 0 adB from ⟨HOB.out.1, HOB.out.2.pass⟩)
                  go_wp2_with fail
                  go_loopw [118] (fun s118 wr => ∃ (j : Nat) (mB : IM) (adB : AsT), j ≤ m ∧ s118 = .int .i64 (j : Int) ∧ Hid (FT wr w5.heap.size gA 42 (.agg #[.slice Bo mb cb]) root mpA mA adA) ∧ Hid (FT wr w5.heap.size gB 42 (.agg #[.slice Bo mb cb]) root mpB mB adB) ∧ Hid (OA rs bs adB ∧ PA rs (lackO bs root) k j adB) ∧ Hid (Below w5.heap.size w5 wr)) (fun s118 wr => m - (intOf s118).toNat)
                  case atStart => exact ⟨0, mB, adB, by omega, rfl, HFA, HFB, HPB0, HBW⟩
                  case round =>
                    clear HFA HFB HOB HPB0 HBW
                    obtain ⟨j, mB, adB, hj, rfl, HFA, HFB, HOB, HBW⟩ := hrel
                    by_cases hlj : j < m
                    · have hljI : (j : Int) < (m : Int) := by omega
                      obtain ⟨b2, o2, q, e2, hb2, hxq, hq32, hatq⟩ := recs_row (HOS5.out.below HBW.out) HON.out hlj
                      injection e2 with e2
                      injection e2 with e2 e3
                      subst e2 e3
                      have hqr := List.mem_of_getElem? hxq
                      have HQ := Lib.hid hqr
                      have HXQ := Lib.hid hxq
                      have HQG := Lib.hid (HGD.out q hqr)
                      obtain ⟨qs, hqs⟩ : ∃ qs, qs = q.2 := ⟨_, rfl⟩
                      have HQS := Lib.hid hqs
                      have t1 : wr.cell? ⟨b1, o1 + j * 33 + 32, none⟩ = some (.string qs) := by
                        have := hatq 32 (.string q.2) (by unfold recK; rw [List.getElem?_toArray, List.getElem?_append_right (by rw [bytesV_length, hq32]; exact Nat.le_refl _), bytesV_length, hq32]; rfl)
                        rw [hqs]; exact this
                      clear hatq hxq hqr hq32 hqs
                      have hqz : qs.size ≤ 1048576 := by have := HQG.out.2; rw [← HQS.out] at this; exact this
                      obtain ⟨A8, c8, w8, hrun8, hsl8, hc8, hcm8, hb8, g8, rfl, hg8⟩ := toBytes wr qs (by simp only [maxLen]; omega)
                      have hst : cvs wr qs = .ok (.slice (some ⟨g8, 0, none⟩) qs.size c8) w8 := hrun8
                      have HTA := Lib.hid (take_one w5 w8 HLB.out (HBW.out.trans (hb8.mono HBW.out.size)) (HFB.out.go hb8) _ qs.size c8 (dB qs) hsl8 Array.length_toList.symm hc8 hcm8 (by omega) (by have h1 := HOB.out.1.len; have h2 := HON.out; omega))
                      have HMP := Lib.hid (HFB.out.go hb8).map
                      have HFO := Lib.hid (HFA.out.go hb8)
                      obtain ⟨tk, htk⟩ : ∃ tk, tk = take1 (lackO bs root) adB (dB qs) := ⟨_, rfl⟩
                      have HOT := Lib.hid (show OA rs bs tk.1 by rw [htk, HQS.out]; exact (HOB.out.1.take HLO.out HQ.out HQG.out.1).1)
                      have HPT := Lib.hid (show PA rs (lackO bs root) k (j + 1) tk.1 by rw [htk, HQS.out]; exact HOB.out.2.take HOB.out.1 HLO.out HXQ.out HQG.out.1)
                      rw [show take1 (fun ad => lackL (srcF (getB bs) ad) root) adB (dB qs) = tk from htk.symm] at HTA
                      clear hrun8 hsl8 hc8 hcm8 hb8 hg8 hqz htk
                      go_wp2_with fail
                      refine HTA.out.mono ?_
                      rintro e w9 ⟨m9, rfl, hft9, hb9, hgr9⟩
                      have HF9 := Lib.hid hft9
                      have HB9 := Lib.hid hb9
                      have HG9 := Lib.hid (HFO.out.other HMP.out HNE.out.symm hgr9)
                      clear hft9 hb9 hgr9 HTA HMP HFO hst
                      go_wp2_with fail
                      go_roundw
                      case rel => exact ⟨j + 1, m9, tk.1, by omega, by go_num, HG9, HF9, Lib.hid ⟨HOT.out, HPT.out⟩, HB9⟩
                      case measure => simp [intOf]; omega
                    · have hljI : ¬ (j : Int) < (m : Int) := by omega
                      have HOB1 := Lib.hid (show OA rs bs adB ∧ GA rs (lackO bs root) (k + 1) adB from ⟨HOB.out.1, (show PA rs (lackO bs root) k rs.length adB by rw [HON.out]; have := HOB.out.2; rw [show j = m by omega] at this; exact this).whole⟩)
                      clear HOB
                      go_wp2_with fail
                      go_roundw
                      case rel => exact ⟨k + 1, mA, adA, mB, adB, by omega, by go_num, HFA, HFB, HOA1, HOB1, HBW⟩
                      case measure => simp [intOf]; omega
        · have hltI : ¬ (k : Int) < (m : Int) := by omega
          have HON2 := Lib.hid (show OA rs bs adA ∧ QuietA rs (lackO bs root) adA ∧ OA rs bs adB ∧ QuietA rs (lackO bs root) adB from by
            have hg := fun r hr => (HGD.out r hr).1
            have e : k = rs.length := by rw [HON.out]; omega
            have h1 := HOA.out.2
            have h2 := HOB.out.2
            rw [e] at h1 h2
            exact ⟨HOA.out.1, h1.quiet hg, HOB.out.1, h2.quiet hg⟩)
          have HSAME := Lib.hid (quiet_same (fun r hr => (HGD.out r hr).1) HON2.out.1 HON2.out.2.2.1 HON2.out.2.1 HON2.out.2.2.2)
          have hlA : adA.length ≤ 14 := by have := HOA.out.1.len; have := HON.out; omega
          have hlB : adB.length ≤ 14 := by have := HOB.out.1.len; have := HON.out; omega
          have hmb := HRL.out.2.2
          have HRA := Lib.hid (fun w' (hb : Below wr.heap.size wr w') => records_any w5 w' HSR.out (HBW.out.trans (hb.mono HBW.out.size)) (HFA.out.go hb) (getB_fin bs) (by rw [HBN.out]; omega))
          have HRB := Lib.hid (fun w' (hb : Below wr.heap.size wr w') => records_any w5 w' HSR.out (HBW.out.trans (hb.mono HBW.out.size)) (HFB.out.go hb) (getB_fin bs) (by rw [HBN.out]; omega))
          have HDA := Lib.hid (fun w' (hb : Below wr.heap.size wr w') => done_any w' gA _ (HLA.out.run w' mA adA (HBW.out.trans (hb.mono HBW.out.size)) (HFA.out.go hb) (by omega)))
          have HDB := Lib.hid (fun w' (hb : Below wr.heap.size wr w') => done_any w' gB _ (HLB.out.run w' mB adB (HBW.out.trans (hb.mono HBW.out.size)) (HFB.out.go hb) (by omega)))
          rw [show lackL (srcF (getB bs) adB) root = lackL (srcF (getB bs) adA) root from HSAME.out.1.symm] at HDB
          rw [← HSAME.out.2] at HRB
          obtain ⟨dn, hdn⟩ : ∃ dn, dn = (lackL (srcF (getB bs) adA) root).isEmpty := ⟨_, rfl⟩
          obtain ⟨rl, hrl⟩ : ∃ rl, rl = recsF (getB bs) adA root := ⟨_, rfl⟩
          rw [← hdn] at HDA HDB
          rw [← hrl] at HRA HRB
          have HRLN := Lib.hid (show rl.length ≤ 1000000000 by
            rw [hrl]
            unfold recsF
            have hf := srcF_fin (getB_fin bs) adA
            cases hm : markL (srcF (getB bs) adA) root with
            | error z => simp [recM]
            | ok R =>
              have h1 := hf.markL root
              rw [hm] at h1
              have h2 := markP_len h1
              have h3 := List.length_filterMap_le (getA adA) R
              have h4 := HBN.out
              have h5 : (bs.length + adA.length) * 4098 ≤ 28 * 4098 := Nat.mul_le_mul_right _ (by omega)
              show (R.filterMap (getA adA)).length ≤ _
              omega)
          have HBW5 := Lib.hid (HB3.out.trans (HBW.out.mono HB3.out.size))
          clear HON2 HSAME hdn hrl HOA HOB HFA HFB HLA HLB HF7A HF7B HB7
          obtain ⟨wM, hwM⟩ : ∃ wM : World, wM = wr := ⟨_, rfl⟩
          rw [← hwM] at HRA HRB HDA HDB HBW5 ⊢
          clear hwM
          go_wp2_with fail
          refine (HRA.out wM (Below.refl _ _)).mono ?_
          rintro e w8 ⟨hb8, A8, n8, c8, rfl, hr8⟩
          have HB8 := Lib.hid hb8
          have HR8 := Lib.hid hr8.sl
          have HN8 := Lib.hid hr8.len.symm
          clear hb8 hr8
          go_wp2_with fail
          refine (HRB.out w8 HB8.out).mono ?_
          rintro e w9 ⟨hb9, A9, n9, c9, rfl, hr9⟩
          have HB9 := Lib.hid (HB8.out.trans (hb9.mono HB8.out.size))
          have HR89 := Lib.hid (HR8.out.below hb9)
          have HR9 := Lib.hid hr9.sl
          obtain rfl : n9 = n8 := hr9.len.trans HN8.out
          clear hb9 hr9
          go_wp2_with fail
          refine (HDA.out w9 HB9.out).mono ?_
          rintro e w10 ⟨rfl, hb10⟩
          have HB10 := Lib.hid (HB9.out.trans (hb10.mono HB9.out.size))
          have HR8X := Lib.hid (HR89.out.below hb10)
          have HR9X := Lib.hid (HR9.out.below hb10)
          clear hb10
          go_wp2_with fail
          refine (HDB.out w10 HB10.out).mono ?_
          rintro e w11 ⟨rfl, hb11⟩
          have HB11 := Lib.hid (HB10.out.trans (hb11.mono HB10.out.size))
          have HR8Y := Lib.hid (HR8X.out.below hb11)
          have HR9Y := Lib.hid (HR9X.out.below hb11)
          have hnl := HRLN.out
          have hn8 := HN8.out
          clear hb11 HR8X HR9X HR89 HR9 HR8 HRA HRB HDA HDB
          cases dn
          all_goals
            go_wp2_with fail
            go_loopw [150] (fun s150 wr => ∃ k : Nat, k ≤ n9 ∧ s150 = .int .i64 (k : Int) ∧ Hid (Same w11 wr)) (fun s150 wr => n9 - (intOf s150).toNat)
            case atStart => exact ⟨0, by omega, rfl, Lib.hid (Same.refl _)⟩
            case round =>
              obtain ⟨k, hk, rfl, HSM⟩ := hrel
              by_cases hlk : k < n9
              · have hlkI : (k : Int) < (n9 : Int) := by omega
                obtain ⟨b2, o2, x, AX, cx, rfl, hb2, hx, hcell, hxc, hxm, hsx⟩ := bys_look (HR8Y.out.below (HSM.out.below _)) HN8.out hlk
                obtain ⟨b3, o3, y, AY, cy, rfl, hb3, hy, hcelly, hyc, hym, hsy⟩ := bys_look (HR9Y.out.below (HSM.out.below _)) HN8.out hlk
                rw [hx] at hy
                have hy := Option.some.inj hy
                subst hy
                obtain ⟨wd, hwd⟩ : ∃ wd, wd = wr.drew := ⟨_, rfl⟩
                have HSD := Lib.hid (show Same w11 wd by rw [hwd]; exact HSM.out.drew)
                have hsd : Same wr wd := by rw [hwd]; exact (Same.refl _).drew
                have HCX := Lib.hid ((hsd.cell ⟨b2, o2 + k, none⟩).trans hcell)
                have HCY := Lib.hid ((hsd.cell ⟨b3, o3 + k, none⟩).trans hcelly)
                have HVX := Lib.hid (cvt_of (slOf_bytes (hsx.below (hsd.below _))) cx)
                have HVY := Lib.hid (cvt_of (slOf_bytes (hsy.below (hsd.below _))) cy)
                have HWD := Lib.hid hwd
                clear hx hcell hxc hxm hsx hcelly hyc hym hsy hwd hsd
                go_upto_region 36 with fail
                refine wp_region_held (S := fun w => w = wd) (by kernel_rfl) ?_
                change wpAnyH _ _ _ _ _ _ _ _ (World.drew _)
                rw [← HWD.out]
                refine held_take (i := 0) (v := ?_) (a' := ?_) rfl (by kernel_rfl) (by kernel_rfl) (by kernel_rfl) (fun _ _ _ h => h) (by rfl) rfl ?_ ?_ ?_
                rotate_left 2
                · (intro w hS; go_simp; try with_reducible rfl)
                · (go_simp; try with_reducible rfl)
                refine held_take (i := 1) (v := ?_) (a' := ?_) rfl (by kernel_rfl) (by kernel_rfl) (by kernel_rfl) (fun _ _ _ h => h) (by rfl) rfl ?_ ?_ ?_
                rotate_left 2
                · (intro w hS; go_simp; try with_reducible rfl)
                · (go_simp; try with_reducible rfl)
                refine held_take (i := 2) (v := ?_) (a' := ?_) rfl (by kernel_rfl) (by kernel_rfl) (by kernel_rfl) (fun _ _ _ h => h) (by rfl) rfl ?_ ?_ ?_
                rotate_left 2
                · (intro w hS; go_simp; try with_reducible rfl)
                · (go_simp; try with_reducible rfl)
                refine held_take (i := 3) (v := ?_) (a' := ?_) rfl (by kernel_rfl) (by kernel_rfl) (by kernel_rfl) (fun _ _ _ h => h) (by rfl) rfl ?_ ?_ ?_
                rotate_left 2
                · (intro w hS; subst hS; have t := HCX.out; go_simp; try with_reducible rfl)
                · (go_simp; try with_reducible rfl)
                refine held_take (i := 4) (v := ?_) (a' := ?_) rfl (by kernel_rfl) (by kernel_rfl) (by kernel_rfl) (fun _ _ _ h => h) (by rfl) rfl ?_ ?_ ?_
                rotate_left 2
                · (intro w hS; subst hS; have t := HVX.out; go_simp; try with_reducible rfl)
                · (go_simp; try with_reducible rfl)
                refine held_take (i := 5) (v := ?_) (a' := ?_) rfl (by kernel_rfl) (by kernel_rfl) (by kernel_rfl) (fun _ _ _ h => h) (by rfl) rfl ?_ ?_ ?_
                rotate_left 2
                · (intro w hS; go_simp; try with_reducible rfl)
                · (go_simp; try with_reducible rfl)
                refine held_take (i := 6) (v := ?_) (a' := ?_) rfl (by kernel_rfl) (by kernel_rfl) (by kernel_rfl) (fun _ _ _ h => h) (by rfl) rfl ?_ ?_ ?_
                rotate_left 2
                · (intro w hS; go_simp; try with_reducible rfl)
                · (go_simp; try with_reducible rfl)
                refine held_take (i := 7) (v := ?_) (a' := ?_) rfl (by kernel_rfl) (by kernel_rfl) (by kernel_rfl) (fun _ _ _ h => h) (by rfl) rfl ?_ ?_ ?_
                rotate_left 2
                · (intro w hS; go_simp; try with_reducible rfl)
                · (go_simp; try with_reducible rfl)
                refine held_take (i := 8) (v := ?_) (a' := ?_) rfl (by kernel_rfl) (by kernel_rfl) (by kernel_rfl) (fun _ _ _ h => h) (by rfl) rfl ?_ ?_ ?_
                rotate_left 2
                · (intro w hS; subst hS; have t := HCY.out; go_simp; try with_reducible rfl)
                · (go_simp; try with_reducible rfl)
                refine held_take (i := 9) (v := ?_) (a' := ?_) rfl (by kernel_rfl) (by kernel_rfl) (by kernel_rfl) (fun _ _ _ h => h) (by rfl) rfl ?_ ?_ ?_
                rotate_left 2
                · (intro w hS; subst hS; have t := HVY.out; go_simp; try with_reducible rfl)
                · (go_simp; try with_reducible rfl)
                refine held_take (i := 10) (v := ?_) (a' := ?_) rfl (by kernel_rfl) (by kernel_rfl) (by kernel_rfl) (fun _ _ _ h => h) (by rfl) rfl ?_ ?_ ?_
                rotate_left 2
                · (intro w hS; go_simp; try with_reducible rfl)
                · (go_simp; try with_reducible rfl)
                refine wpAnyH_done (by kernel_rfl) ?_ _
                go_wp2_with fail
                go_roundw
                case rel => exact ⟨k + 1, by omega, by go_num, HSD⟩
                case measure => simp [intOf]; omega
              · have hlkI : ¬ (k : Int) < (n9 : Int) := by omega
                have HBZ := Lib.hid (HB11.out.trans ((HSM.out.below _).mono HB11.out.size))
                go_wp2_with fail
                go_ret
                exact ⟨rfl, HBW5.out.trans (HBZ.out.mono HBW5.out.size)⟩
    exact AllHeld.nil
  exact AllHeld.nil
end Go.Proofs.Ytgmbkcjihgphmaa
