/- The walk of the law ObjectOnly: bytes are a record of one kind at most, and those that it is written as. -/
import Derived.Test.YtpafhajpnepecaaJn18
import Derived.Test.YtpafhajpnepecaaLawObjectReads
set_option linter.unusedVariables false
set_option linter.unusedSimpArgs false
namespace Go.Proofs.Ytpafhajpnepecaa
open Go.RowKit
attribute [local go_sem ↓] cvt_eq

set_option maxRecDepth 100000 in
set_option maxHeartbeats 8000000 in
theorem only_chunk (A : Option Addr) (n c : Nat) (l : List UInt8) (W0 : World) (hs : Sl W0 1 A n (bytesV l)) (hnc : n ≤ c) (hcm : c ≤ maxLen) {y : List UInt8} (h1 : getChunk l = .ok y) (hput : putChunk y = .ok l) {z2 : Int} (h2 : getBlob l = .error z2) (hz2 : z2 ≠ 0) {z3 : Int} (h3 : getTree l = .error z3) (hz3 : z3 ≠ 0) {z4 : Int} (h4 : getCommit l = .error z4) (hz4 : z4 ≠ 0) (h6 : linksG l = .ok []) (h5 : kindG l = .ok 1)  :
    Calls Try.prog 6 #[.slice A n c] W0 fun e w' => e = .returned (.bool true) ∧ Below W0.heap.size W0 w' := by
  have P1 := Lib.hid (fun w (h : Below W0.heap.size W0 w) => getChunk_any A n c l w (hs.below h) hnc hcm)
  rw [h1] at P1
  have P2 := Lib.hid (fun w (h : Below W0.heap.size W0 w) => getBlob_any A n c l w (hs.below h) hnc hcm)
  rw [h2] at P2
  have P3 := Lib.hid (fun w (h : Below W0.heap.size W0 w) => getTree_any A n c l w (hs.below h) hnc hcm)
  rw [h3] at P3
  have P4 := Lib.hid (fun w (h : Below W0.heap.size W0 w) => getCommit_any A n c l w (hs.below h) hnc hcm)
  rw [h4] at P4
  have P5 := Lib.hid (fun w (h : Below W0.heap.size W0 w) => kind_any A n c l w (hs.below h) hnc hcm)
  have P6 := Lib.hid (fun w (h : Below W0.heap.size W0 w) => links_any A n c l w (hs.below h) hnc hcm)
  rw [h5] at P5
  rw [h6] at P6
  have HCV := Lib.hid (fun (w : World) (h : Below W0.heap.size W0 w) => cvt_of (hs.below h) c)
  clear hs hnc hcm h1 h2 h3 h4 h6 h5
  go_enter Try.func6, Try.ntmps6
  go_wp2_with fail
  refine (awake_obj _).mono ?_
  rintro e w1 ⟨rfl, hb1⟩
  have HB1 := Lib.hid hb1
  clear hb1
  go_wp2_with fail
  refine (P1.out _ HB1.out).mono ?_
  rintro e w2 ⟨hb, A2, c2, rfl, hs2, hcc, hcm⟩
  have HB2 := Lib.hid (HB1.out.trans (hb.mono HB1.out.size))
  obtain ⟨n1, hn1⟩ : ∃ n1, n1 = y.length := ⟨_, rfl⟩
  rw [← hn1] at hs2 hcc ⊢
  have HP := Lib.hid (putChunk_any A2 n1 c2 y w2 hs2 hcc hcm)
  rw [hput] at HP
  clear hb hs2 hcc hcm hn1 HB1 P1
  go_wp2_with fail
  refine HP.out.mono ?_
  rintro e w3 ⟨hb, A3, m3, c3, rfl, hm3, hown⟩
  have HB3 := Lib.hid (HB2.out.trans (hb.mono HB2.out.size))
  have hc1 : cvt w3 A3 m3 c3 = .ok (.string ⟨l.toArray⟩) w3 := by rw [hm3]; exact cvt_of (by have := Sl.ofOwn hown; rwa [hm3] at this) c3
  have hc2 := HCV.out w3 HB3.out
  clear hb hm3 hown HB2 HP
  go_wp2_with fail
  refine (P2.out _ HB3.out).mono ?_
  rintro e w4 ⟨hb, rfl⟩
  obtain ⟨KX, hKX⟩ : ∃ KX : Array Value, KX = zBlob := ⟨_, rfl⟩
  have HI := Lib.hid (show (Try.prog.info? 24).map (·.size) = some KX.size by rw [hKX]; exact blob_info)
  have HO := Lib.hid (show KX.all (·.oneCell') = true by rw [hKX]; simp [Value.oneCell'])
  have HZ := Lib.hid (show zBlob.size = KX.size by rw [hKX])
  have HBN := Lib.hid (Blk.new w4 24 zBlob)
  have hal : Below w4.heap.size w4 (w4.alloc (.cells KX 24)) := (Below.refl _ _).alloc (Nat.le_refl _) _
  have hb5 := hb.trans (hal.mono hb.size)
  have HB5 := Lib.hid (HB3.out.trans (hb5.mono HB3.out.size))
  rw [← hKX]
  have e2 : (z2 == 0) = false := by simp [hz2]
  clear hb hal hb5 hKX P2
  go_upto_region 11 with (first | (refine wpList_store_row rfl _ _ _ rfl w4.heap.size KX rfl rfl 24 _ HBN.out HI.out HZ.out HO.out ?_) | fail)
  rw [World.setRow_alloc_new]
  clear HBN HO HZ HI
  generalize w4.alloc (.cells KX 24) = w5 at *
  generalize w4.heap.size = g5 at *
  go_wp2_with fail
  refine (P3.out _ HB5.out).mono ?_
  rintro e w7 ⟨hb, rfl⟩
  have HB7 := Lib.hid (HB5.out.trans (hb.mono HB5.out.size))
  have e3 : (z3 == 0) = false := by simp [hz3]
  clear hb P3
  go_wp2_with fail
  refine (P4.out _ HB7.out).mono ?_
  rintro e w9 ⟨hb, rfl⟩
  obtain ⟨KC, hKC⟩ : ∃ KC : Array Value, KC = zCom := ⟨_, rfl⟩
  have HI := Lib.hid (show (Try.prog.info? 30).map (·.size) = some KC.size by rw [hKC]; exact comK_info (by simp) _ _ _ _ _ _)
  have HO := Lib.hid (show KC.all (·.oneCell') = true by rw [hKC]; exact comK_one _ _ _ _ _ _ _)
  have HZ := Lib.hid (show zCom.size = KC.size by rw [hKC])
  have HBN := Lib.hid (Blk.new w9 30 zCom)
  have hal : Below w9.heap.size w9 (w9.alloc (.cells KC 30)) := (Below.refl _ _).alloc (Nat.le_refl _) _
  have hb10 := hb.trans (hal.mono hb.size)
  have HB10 := Lib.hid (HB7.out.trans (hb10.mono HB7.out.size))
  rw [← hKC]
  have e4 : (z4 == 0) = false := by simp [hz4]
  clear hb hal hb10 hKC P4
  go_upto_region 23 with (first | (refine wpList_store_row rfl _ _ _ rfl w9.heap.size KC rfl rfl 30 _ HBN.out HI.out HZ.out HO.out ?_) | fail)
  rw [World.setRow_alloc_new]
  clear HBN HO HZ
  generalize w9.alloc (.cells KC 30) = w10 at *
  generalize w9.heap.size = g9 at *
  clear HI
  go_wp2_with fail
  refine (P6.out _ HB10.out).mono ?_
  rintro e w12 ⟨hb, A12, c12, rfl, _⟩
  have HB12 := Lib.hid (HB10.out.trans (hb.mono HB10.out.size))
  clear hb P6
  go_wp2_with fail
  refine (P5.out _ HB12.out).mono ?_
  rintro e w13 ⟨hb, rfl, _⟩
  have HB13 := Lib.hid (HB12.out.trans (hb.mono HB12.out.size))
  clear hb P5
  go_wp2_with fail
  go_ret
  exact ⟨rfl, HB13.out⟩

set_option maxRecDepth 100000 in
set_option maxHeartbeats 8000000 in
theorem only_blob (A : Option Addr) (n c : Nat) (l : List UInt8) (W0 : World) (hs : Sl W0 1 A n (bytesV l)) (hnc : n ≤ c) (hcm : c ≤ maxLen) {y : BlobT} (h2 : getBlob l = .ok y) (hput : putBlob y = .ok l) {z1 : Int} (h1 : getChunk l = .error z1) (hz1 : z1 ≠ 0) {z3 : Int} (h3 : getTree l = .error z3) (hz3 : z3 ≠ 0) {z4 : Int} (h4 : getCommit l = .error z4) (hz4 : z4 ≠ 0) (h6 : linksG l = .ok y.1) (h5 : kindG l = .ok 2) (hwf : (Lit.int .i64 y.2).wf = true) :
    Calls Try.prog 6 #[.slice A n c] W0 fun e w' => e = .returned (.bool true) ∧ Below W0.heap.size W0 w' := by
  have P1 := Lib.hid (fun w (h : Below W0.heap.size W0 w) => getChunk_any A n c l w (hs.below h) hnc hcm)
  rw [h1] at P1
  have P2 := Lib.hid (fun w (h : Below W0.heap.size W0 w) => getBlob_any A n c l w (hs.below h) hnc hcm)
  rw [h2] at P2
  have P3 := Lib.hid (fun w (h : Below W0.heap.size W0 w) => getTree_any A n c l w (hs.below h) hnc hcm)
  rw [h3] at P3
  have P4 := Lib.hid (fun w (h : Below W0.heap.size W0 w) => getCommit_any A n c l w (hs.below h) hnc hcm)
  rw [h4] at P4
  have P5 := Lib.hid (fun w (h : Below W0.heap.size W0 w) => kind_any A n c l w (hs.below h) hnc hcm)
  have P6 := Lib.hid (fun w (h : Below W0.heap.size W0 w) => links_any A n c l w (hs.below h) hnc hcm)
  rw [h5] at P5
  rw [h6] at P6
  have HCV := Lib.hid (fun (w : World) (h : Below W0.heap.size W0 w) => cvt_of (hs.below h) c)
  clear hs hnc hcm h1 h2 h3 h4 h6 h5
  go_enter Try.func6, Try.ntmps6
  go_wp2_with fail
  refine (awake_obj _).mono ?_
  rintro e w1 ⟨rfl, hb1⟩
  have HB1 := Lib.hid hb1
  clear hb1
  go_wp2_with fail
  refine (P1.out _ HB1.out).mono ?_
  rintro e w2 ⟨hb, rfl⟩
  have HB2 := Lib.hid (HB1.out.trans (hb.mono HB1.out.size))
  have e1 : (z1 == 0) = false := by simp [hz1]
  clear hb HB1 P1
  go_wp2_with fail
  refine (P2.out _ HB2.out).mono ?_
  rintro e w4 ⟨hb, A4, c4, rfl, hs4, hcc, hcm⟩
  obtain ⟨n2, hn2⟩ : ∃ n2, n2 = y.1.length := ⟨_, rfl⟩
  rw [← hn2] at hcc ⊢
  obtain ⟨KX, hKX⟩ : ∃ KX : Array Value, KX = #[.slice A4 n2 c4, .int .i64 y.2] := ⟨_, rfl⟩
  have HI := Lib.hid (show (Try.prog.info? 24).map (·.size) = some KX.size by rw [hKX]; exact blob_info)
  have HO := Lib.hid (show KX.all (·.oneCell') = true by rw [hKX]; simp [Value.oneCell'])
  have HZ := Lib.hid (show zBlob.size = KX.size by rw [hKX]; rfl)
  have HBN := Lib.hid (Blk.new w4 24 zBlob)
  have hal : Below w4.heap.size w4 (w4.alloc (.cells KX 24)) := (Below.refl _ _).alloc (Nat.le_refl _) _
  have hb5 := hb.trans (hal.mono hb.size)
  have HB5 := Lib.hid (HB2.out.trans (hb5.mono HB2.out.size))
  have HG5 := Lib.hid (Blk.new w4 24 KX)
  have HP := Lib.hid (putBlob_any A4 n2 c4 y.1 y.2 (w4.alloc (.cells KX 24)) ((hs4.stable (Moves.forget _ _)).below hal) hn2 hcc hcm hwf)
  rw [show putBlob (y.1, y.2) = .ok l from hput, ← hKX] at HP
  rw [← hKX]
  clear hb hs4 hcc hcm hn2 hal hb5 hKX P2
  go_upto_region 11 with (first | (refine wpList_store_row rfl _ _ _ rfl w4.heap.size KX rfl rfl 24 _ HBN.out HI.out HZ.out HO.out ?_) | fail)
  rw [World.setRow_alloc_new]
  clear HBN HO HZ
  generalize w4.alloc (.cells KX 24) = w5 at *
  generalize w4.heap.size = g5 at *
  go_wp2_with (first | (refine wpList_load_row rfl 24 (.tmp 8) rfl g5 rfl 24 KX (0, 0) _ HG5.out Try.underlying24 rfl HI.out ?_) | fail)
  refine HP.out.mono ?_
  rintro e w6 ⟨hb, A6, m6, c6, rfl, hm6, hown⟩
  have HB6 := Lib.hid (HB5.out.trans (hb.mono HB5.out.size))
  have hc1 : cvt w6 A6 m6 c6 = .ok (.string ⟨l.toArray⟩) w6 := by rw [hm6]; exact cvt_of (by have := Sl.ofOwn hown; rwa [hm6] at this) c6
  have hc2 := HCV.out w6 HB6.out
  clear hb hm6 hown HP HB5 HG5 HI
  go_wp2_with fail
  refine (P3.out _ HB6.out).mono ?_
  rintro e w7 ⟨hb, rfl⟩
  have HB7 := Lib.hid (HB6.out.trans (hb.mono HB6.out.size))
  have e3 : (z3 == 0) = false := by simp [hz3]
  clear hb P3
  go_wp2_with fail
  refine (P4.out _ HB7.out).mono ?_
  rintro e w9 ⟨hb, rfl⟩
  obtain ⟨KC, hKC⟩ : ∃ KC : Array Value, KC = zCom := ⟨_, rfl⟩
  have HI := Lib.hid (show (Try.prog.info? 30).map (·.size) = some KC.size by rw [hKC]; exact comK_info (by simp) _ _ _ _ _ _)
  have HO := Lib.hid (show KC.all (·.oneCell') = true by rw [hKC]; exact comK_one _ _ _ _ _ _ _)
  have HZ := Lib.hid (show zCom.size = KC.size by rw [hKC])
  have HBN := Lib.hid (Blk.new w9 30 zCom)
  have hal : Below w9.heap.size w9 (w9.alloc (.cells KC 30)) := (Below.refl _ _).alloc (Nat.le_refl _) _
  have hb10 := hb.trans (hal.mono hb.size)
  have HB10 := Lib.hid (HB7.out.trans (hb10.mono HB7.out.size))
  rw [← hKC]
  have e4 : (z4 == 0) = false := by simp [hz4]
  clear hb hal hb10 hKC P4
  go_upto_region 23 with (first | (refine wpList_store_row rfl _ _ _ rfl w9.heap.size KC rfl rfl 30 _ HBN.out HI.out HZ.out HO.out ?_) | fail)
  rw [World.setRow_alloc_new]
  clear HBN HO HZ
  generalize w9.alloc (.cells KC 30) = w10 at *
  generalize w9.heap.size = g9 at *
  clear HI
  go_wp2_with fail
  refine (P6.out _ HB10.out).mono ?_
  rintro e w12 ⟨hb, A12, c12, rfl, _⟩
  have HB12 := Lib.hid (HB10.out.trans (hb.mono HB10.out.size))
  clear hb P6
  go_wp2_with fail
  refine (P5.out _ HB12.out).mono ?_
  rintro e w13 ⟨hb, rfl, _⟩
  have HB13 := Lib.hid (HB12.out.trans (hb.mono HB12.out.size))
  clear hb P5
  go_wp2_with fail
  go_ret
  exact ⟨rfl, HB13.out⟩

set_option maxRecDepth 100000 in
set_option maxHeartbeats 8000000 in
theorem only_tree (A : Option Addr) (n c : Nat) (l : List UInt8) (W0 : World) (hs : Sl W0 1 A n (bytesV l)) (hnc : n ≤ c) (hcm : c ≤ maxLen) {y : List EntT} (h3 : getTree l = .ok y) (hput : putTree y = .ok l) {z1 : Int} (h1 : getChunk l = .error z1) (hz1 : z1 ≠ 0) {z2 : Int} (h2 : getBlob l = .error z2) (hz2 : z2 ≠ 0) {z4 : Int} (h4 : getCommit l = .error z4) (hz4 : z4 ≠ 0) (h6 : linksG l = .ok (y.map (·.2.2.1))) (h5 : kindG l = .ok 3) (hsz : ∀ x ∈ y, x.1.size ≤ 1000000000) (hy : y.length ≤ 1024) :
    Calls Try.prog 6 #[.slice A n c] W0 fun e w' => e = .returned (.bool true) ∧ Below W0.heap.size W0 w' := by
  have P1 := Lib.hid (fun w (h : Below W0.heap.size W0 w) => getChunk_any A n c l w (hs.below h) hnc hcm)
  rw [h1] at P1
  have P2 := Lib.hid (fun w (h : Below W0.heap.size W0 w) => getBlob_any A n c l w (hs.below h) hnc hcm)
  rw [h2] at P2
  have P3 := Lib.hid (fun w (h : Below W0.heap.size W0 w) => getTree_any A n c l w (hs.below h) hnc hcm)
  rw [h3] at P3
  have P4 := Lib.hid (fun w (h : Below W0.heap.size W0 w) => getCommit_any A n c l w (hs.below h) hnc hcm)
  rw [h4] at P4
  have P5 := Lib.hid (fun w (h : Below W0.heap.size W0 w) => kind_any A n c l w (hs.below h) hnc hcm)
  have P6 := Lib.hid (fun w (h : Below W0.heap.size W0 w) => links_any A n c l w (hs.below h) hnc hcm)
  rw [h5] at P5
  rw [h6] at P6
  have HCV := Lib.hid (fun (w : World) (h : Below W0.heap.size W0 w) => cvt_of (hs.below h) c)
  clear hs hnc hcm h1 h2 h3 h4 h6 h5
  go_enter Try.func6, Try.ntmps6
  go_wp2_with fail
  refine (awake_obj _).mono ?_
  rintro e w1 ⟨rfl, hb1⟩
  have HB1 := Lib.hid hb1
  clear hb1
  go_wp2_with fail
  refine (P1.out _ HB1.out).mono ?_
  rintro e w2 ⟨hb, rfl⟩
  have HB2 := Lib.hid (HB1.out.trans (hb.mono HB1.out.size))
  have e1 : (z1 == 0) = false := by simp [hz1]
  clear hb HB1 P1
  go_wp2_with fail
  refine (P2.out _ HB2.out).mono ?_
  rintro e w4 ⟨hb, rfl⟩
  obtain ⟨KX, hKX⟩ : ∃ KX : Array Value, KX = zBlob := ⟨_, rfl⟩
  have HI := Lib.hid (show (Try.prog.info? 24).map (·.size) = some KX.size by rw [hKX]; exact blob_info)
  have HO := Lib.hid (show KX.all (·.oneCell') = true by rw [hKX]; simp [Value.oneCell'])
  have HZ := Lib.hid (show zBlob.size = KX.size by rw [hKX])
  have HBN := Lib.hid (Blk.new w4 24 zBlob)
  have hal : Below w4.heap.size w4 (w4.alloc (.cells KX 24)) := (Below.refl _ _).alloc (Nat.le_refl _) _
  have hb5 := hb.trans (hal.mono hb.size)
  have HB5 := Lib.hid (HB2.out.trans (hb5.mono HB2.out.size))
  rw [← hKX]
  have e2 : (z2 == 0) = false := by simp [hz2]
  clear hb hal hb5 hKX P2
  go_upto_region 11 with (first | (refine wpList_store_row rfl _ _ _ rfl w4.heap.size KX rfl rfl 24 _ HBN.out HI.out HZ.out HO.out ?_) | fail)
  rw [World.setRow_alloc_new]
  clear HBN HO HZ HI
  generalize w4.alloc (.cells KX 24) = w5 at *
  generalize w4.heap.size = g5 at *
  go_wp2_with fail
  refine (P3.out _ HB5.out).mono ?_
  rintro e w7 ⟨hb, A7, c7, rfl, hs7, hcc, hcm⟩
  have HB7 := Lib.hid (HB5.out.trans (hb.mono HB5.out.size))
  obtain ⟨n3, hn3⟩ : ∃ n3, n3 = y.length := ⟨_, rfl⟩
  rw [← hn3] at hcc ⊢
  have HP := Lib.hid (putTree_any A7 n3 c7 y w7 (hs7.stable (Moves.forget _ _)) hn3 (by omega) hsz)
  rw [hput] at HP
  clear hb hs7 hcc hcm hn3 P3
  go_wp2_with fail
  refine HP.out.mono ?_
  rintro e w8 ⟨hb, A8, m8, c8, rfl, hm8, hown⟩
  have HB8 := Lib.hid (HB7.out.trans (hb.mono HB7.out.size))
  have hc1 : cvt w8 A8 m8 c8 = .ok (.string ⟨l.toArray⟩) w8 := by rw [hm8]; exact cvt_of (by have := Sl.ofOwn hown; rwa [hm8] at this) c8
  have hc2 := HCV.out w8 HB8.out
  clear hb hm8 hown HP HB7
  go_wp2_with fail
  refine (P4.out _ HB8.out).mono ?_
  rintro e w9 ⟨hb, rfl⟩
  obtain ⟨KC, hKC⟩ : ∃ KC : Array Value, KC = zCom := ⟨_, rfl⟩
  have HI := Lib.hid (show (Try.prog.info? 30).map (·.size) = some KC.size by rw [hKC]; exact comK_info (by simp) _ _ _ _ _ _)
  have HO := Lib.hid (show KC.all (·.oneCell') = true by rw [hKC]; exact comK_one _ _ _ _ _ _ _)
  have HZ := Lib.hid (show zCom.size = KC.size by rw [hKC])
  have HBN := Lib.hid (Blk.new w9 30 zCom)
  have hal : Below w9.heap.size w9 (w9.alloc (.cells KC 30)) := (Below.refl _ _).alloc (Nat.le_refl _) _
  have hb10 := hb.trans (hal.mono hb.size)
  have HB10 := Lib.hid (HB8.out.trans (hb10.mono HB8.out.size))
  rw [← hKC]
  have e4 : (z4 == 0) = false := by simp [hz4]
  clear hb hal hb10 hKC P4
  go_upto_region 23 with (first | (refine wpList_store_row rfl _ _ _ rfl w9.heap.size KC rfl rfl 30 _ HBN.out HI.out HZ.out HO.out ?_) | fail)
  rw [World.setRow_alloc_new]
  clear HBN HO HZ
  generalize w9.alloc (.cells KC 30) = w10 at *
  generalize w9.heap.size = g9 at *
  clear HI
  go_wp2_with fail
  refine (P6.out _ HB10.out).mono ?_
  rintro e w12 ⟨hb, A12, c12, rfl, _⟩
  have HB12 := Lib.hid (HB10.out.trans (hb.mono HB10.out.size))
  clear hb P6
  go_wp2_with fail
  refine (P5.out _ HB12.out).mono ?_
  rintro e w13 ⟨hb, rfl, _⟩
  have HB13 := Lib.hid (HB12.out.trans (hb.mono HB12.out.size))
  clear hb P5
  go_wp2_with fail
  go_ret
  exact ⟨rfl, HB13.out⟩

set_option maxRecDepth 100000 in
set_option maxHeartbeats 8000000 in
theorem only_com (A : Option Addr) (n c : Nat) (l : List UInt8) (W0 : World) (hs : Sl W0 1 A n (bytesV l)) (hnc : n ≤ c) (hcm : c ≤ maxLen) {y : ComT} (h4 : getCommit l = .ok y) (hput : putCommit y = .ok l) {z1 : Int} (h1 : getChunk l = .error z1) (hz1 : z1 ≠ 0) {z2 : Int} (h2 : getBlob l = .error z2) (hz2 : z2 ≠ 0) {z3 : Int} (h3 : getTree l = .error z3) (hz3 : z3 ≠ 0) (h6 : linksG l = .ok (y.1 :: y.2.1)) (h5 : kindG l = .ok 4) (hfl : y.2.2.1 < 2 ^ 64) (hau : y.2.2.2.1.size ≤ maxLen) (hnt : y.2.2.2.2.size ≤ maxLen) :
    Calls Try.prog 6 #[.slice A n c] W0 fun e w' => e = .returned (.bool true) ∧ Below W0.heap.size W0 w' := by
  have P1 := Lib.hid (fun w (h : Below W0.heap.size W0 w) => getChunk_any A n c l w (hs.below h) hnc hcm)
  rw [h1] at P1
  have P2 := Lib.hid (fun w (h : Below W0.heap.size W0 w) => getBlob_any A n c l w (hs.below h) hnc hcm)
  rw [h2] at P2
  have P3 := Lib.hid (fun w (h : Below W0.heap.size W0 w) => getTree_any A n c l w (hs.below h) hnc hcm)
  rw [h3] at P3
  have P4 := Lib.hid (fun w (h : Below W0.heap.size W0 w) => getCommit_any A n c l w (hs.below h) hnc hcm)
  rw [h4] at P4
  have P5 := Lib.hid (fun w (h : Below W0.heap.size W0 w) => kind_any A n c l w (hs.below h) hnc hcm)
  have P6 := Lib.hid (fun w (h : Below W0.heap.size W0 w) => links_any A n c l w (hs.below h) hnc hcm)
  rw [h5] at P5
  rw [h6] at P6
  have HCV := Lib.hid (fun (w : World) (h : Below W0.heap.size W0 w) => cvt_of (hs.below h) c)
  clear hs hnc hcm h1 h2 h3 h4 h6 h5
  go_enter Try.func6, Try.ntmps6
  go_wp2_with fail
  refine (awake_obj _).mono ?_
  rintro e w1 ⟨rfl, hb1⟩
  have HB1 := Lib.hid hb1
  clear hb1
  go_wp2_with fail
  refine (P1.out _ HB1.out).mono ?_
  rintro e w2 ⟨hb, rfl⟩
  have HB2 := Lib.hid (HB1.out.trans (hb.mono HB1.out.size))
  have e1 : (z1 == 0) = false := by simp [hz1]
  clear hb HB1 P1
  go_wp2_with fail
  refine (P2.out _ HB2.out).mono ?_
  rintro e w4 ⟨hb, rfl⟩
  obtain ⟨KX, hKX⟩ : ∃ KX : Array Value, KX = zBlob := ⟨_, rfl⟩
  have HI := Lib.hid (show (Try.prog.info? 24).map (·.size) = some KX.size by rw [hKX]; exact blob_info)
  have HO := Lib.hid (show KX.all (·.oneCell') = true by rw [hKX]; simp [Value.oneCell'])
  have HZ := Lib.hid (show zBlob.size = KX.size by rw [hKX])
  have HBN := Lib.hid (Blk.new w4 24 zBlob)
  have hal : Below w4.heap.size w4 (w4.alloc (.cells KX 24)) := (Below.refl _ _).alloc (Nat.le_refl _) _
  have hb5 := hb.trans (hal.mono hb.size)
  have HB5 := Lib.hid (HB2.out.trans (hb5.mono HB2.out.size))
  rw [← hKX]
  have e2 : (z2 == 0) = false := by simp [hz2]
  clear hb hal hb5 hKX P2
  go_upto_region 11 with (first | (refine wpList_store_row rfl _ _ _ rfl w4.heap.size KX rfl rfl 24 _ HBN.out HI.out HZ.out HO.out ?_) | fail)
  rw [World.setRow_alloc_new]
  clear HBN HO HZ HI
  generalize w4.alloc (.cells KX 24) = w5 at *
  generalize w4.heap.size = g5 at *
  go_wp2_with fail
  refine (P3.out _ HB5.out).mono ?_
  rintro e w7 ⟨hb, rfl⟩
  have HB7 := Lib.hid (HB5.out.trans (hb.mono HB5.out.size))
  have e3 : (z3 == 0) = false := by simp [hz3]
  clear hb P3
  go_wp2_with fail
  refine (P4.out _ HB7.out).mono ?_
  rintro e w9 ⟨hb, A9, c9, rfl, h32, hs9, hcc, hcm⟩
  obtain ⟨n4, hn4⟩ : ∃ n4, n4 = y.2.1.length := ⟨_, rfl⟩
  rw [← hn4] at hcc ⊢
  obtain ⟨KC, hKC⟩ : ∃ KC : Array Value, KC = comK y.1 A9 n4 c9 y.2.2.1 y.2.2.2.1 y.2.2.2.2 := ⟨_, rfl⟩
  have HI := Lib.hid (show (Try.prog.info? 30).map (·.size) = some KC.size by rw [hKC]; exact comK_info h32 _ _ _ _ _ _)
  have HO := Lib.hid (show KC.all (·.oneCell') = true by rw [hKC]; exact comK_one _ _ _ _ _ _ _)
  have HZ := Lib.hid (show zCom.size = KC.size by rw [hKC, comK_size h32, comK_size (by simp)])
  have HBN := Lib.hid (Blk.new w9 30 zCom)
  have hal : Below w9.heap.size w9 (w9.alloc (.cells KC 30)) := (Below.refl _ _).alloc (Nat.le_refl _) _
  have hb10 := hb.trans (hal.mono hb.size)
  have HB10 := Lib.hid (HB7.out.trans (hb10.mono HB7.out.size))
  have HG10 := Lib.hid (Blk.new w9 30 KC)
  have HP := Lib.hid (putCommit_any A9 n4 c9 y.1 y.2.1 y.2.2.1 y.2.2.2.1 y.2.2.2.2 (w9.alloc (.cells KC 30)) h32 ((hs9.stable (Moves.forget _ _)).below hal) hn4 hcc hcm hfl hau hnt)
  rw [show putCommit (y.1, y.2.1, y.2.2.1, y.2.2.2.1, y.2.2.2.2) = .ok l from hput, ← hKC] at HP
  rw [← hKC]
  clear hb h32 hs9 hcc hcm hn4 hal hb10 hKC P4
  go_upto_region 23 with (first | (refine wpList_store_row rfl _ _ _ rfl w9.heap.size KC rfl rfl 30 _ HBN.out HI.out HZ.out HO.out ?_) | fail)
  rw [World.setRow_alloc_new]
  clear HBN HO HZ
  generalize w9.alloc (.cells KC 30) = w10 at *
  generalize w9.heap.size = g9 at *
  go_wp2_with (first | (refine wpList_load_row rfl 30 (.tmp 16) rfl g9 rfl 30 KC (0, 0) _ HG10.out Try.underlying30 rfl HI.out ?_) | fail)
  refine HP.out.mono ?_
  rintro e w11 ⟨hb, A11, m11, c11, rfl, hm11, hown⟩
  have HB11 := Lib.hid (HB10.out.trans (hb.mono HB10.out.size))
  have hc1 : cvt w11 A11 m11 c11 = .ok (.string ⟨l.toArray⟩) w11 := by rw [hm11]; exact cvt_of (by have := Sl.ofOwn hown; rwa [hm11] at this) c11
  have hc2 := HCV.out w11 HB11.out
  clear hb hm11 hown HP HB10 HG10 HI
  go_wp2_with fail
  refine (P6.out _ HB11.out).mono ?_
  rintro e w12 ⟨hb, A12, c12, rfl, _⟩
  have HB12 := Lib.hid (HB11.out.trans (hb.mono HB11.out.size))
  clear hb P6
  go_wp2_with fail
  refine (P5.out _ HB12.out).mono ?_
  rintro e w13 ⟨hb, rfl, _⟩
  have HB13 := Lib.hid (HB12.out.trans (hb.mono HB12.out.size))
  clear hb P5
  go_wp2_with fail
  go_ret
  exact ⟨rfl, HB13.out⟩

set_option maxRecDepth 100000 in
set_option maxHeartbeats 8000000 in
theorem only_none (A : Option Addr) (n c : Nat) (l : List UInt8) (W0 : World) (hs : Sl W0 1 A n (bytesV l)) (hnc : n ≤ c) (hcm : c ≤ maxLen)  {z1 : Int} (h1 : getChunk l = .error z1) (hz1 : z1 ≠ 0) {z2 : Int} (h2 : getBlob l = .error z2) (hz2 : z2 ≠ 0) {z3 : Int} (h3 : getTree l = .error z3) (hz3 : z3 ≠ 0) {z4 : Int} (h4 : getCommit l = .error z4) (hz4 : z4 ≠ 0) {z6 : Int} (h6 : linksG l = .error z6) (hz6 : z6 ≠ 0)  :
    Calls Try.prog 6 #[.slice A n c] W0 fun e w' => e = .returned (.bool true) ∧ Below W0.heap.size W0 w' := by
  have P1 := Lib.hid (fun w (h : Below W0.heap.size W0 w) => getChunk_any A n c l w (hs.below h) hnc hcm)
  rw [h1] at P1
  have P2 := Lib.hid (fun w (h : Below W0.heap.size W0 w) => getBlob_any A n c l w (hs.below h) hnc hcm)
  rw [h2] at P2
  have P3 := Lib.hid (fun w (h : Below W0.heap.size W0 w) => getTree_any A n c l w (hs.below h) hnc hcm)
  rw [h3] at P3
  have P4 := Lib.hid (fun w (h : Below W0.heap.size W0 w) => getCommit_any A n c l w (hs.below h) hnc hcm)
  rw [h4] at P4
  have P5 := Lib.hid (fun w (h : Below W0.heap.size W0 w) => kind_any A n c l w (hs.below h) hnc hcm)
  have P6 := Lib.hid (fun w (h : Below W0.heap.size W0 w) => links_any A n c l w (hs.below h) hnc hcm)
  rw [h6] at P6
  have HCV := Lib.hid (fun (w : World) (h : Below W0.heap.size W0 w) => cvt_of (hs.below h) c)
  clear hs hnc hcm h1 h2 h3 h4 h6
  go_enter Try.func6, Try.ntmps6
  go_wp2_with fail
  refine (awake_obj _).mono ?_
  rintro e w1 ⟨rfl, hb1⟩
  have HB1 := Lib.hid hb1
  clear hb1
  go_wp2_with fail
  refine (P1.out _ HB1.out).mono ?_
  rintro e w2 ⟨hb, rfl⟩
  have HB2 := Lib.hid (HB1.out.trans (hb.mono HB1.out.size))
  have e1 : (z1 == 0) = false := by simp [hz1]
  clear hb HB1 P1
  go_wp2_with fail
  refine (P2.out _ HB2.out).mono ?_
  rintro e w4 ⟨hb, rfl⟩
  obtain ⟨KX, hKX⟩ : ∃ KX : Array Value, KX = zBlob := ⟨_, rfl⟩
  have HI := Lib.hid (show (Try.prog.info? 24).map (·.size) = some KX.size by rw [hKX]; exact blob_info)
  have HO := Lib.hid (show KX.all (·.oneCell') = true by rw [hKX]; simp [Value.oneCell'])
  have HZ := Lib.hid (show zBlob.size = KX.size by rw [hKX])
  have HBN := Lib.hid (Blk.new w4 24 zBlob)
  have hal : Below w4.heap.size w4 (w4.alloc (.cells KX 24)) := (Below.refl _ _).alloc (Nat.le_refl _) _
  have hb5 := hb.trans (hal.mono hb.size)
  have HB5 := Lib.hid (HB2.out.trans (hb5.mono HB2.out.size))
  rw [← hKX]
  have e2 : (z2 == 0) = false := by simp [hz2]
  clear hb hal hb5 hKX P2
  go_upto_region 11 with (first | (refine wpList_store_row rfl _ _ _ rfl w4.heap.size KX rfl rfl 24 _ HBN.out HI.out HZ.out HO.out ?_) | fail)
  rw [World.setRow_alloc_new]
  clear HBN HO HZ HI
  generalize w4.alloc (.cells KX 24) = w5 at *
  generalize w4.heap.size = g5 at *
  go_wp2_with fail
  refine (P3.out _ HB5.out).mono ?_
  rintro e w7 ⟨hb, rfl⟩
  have HB7 := Lib.hid (HB5.out.trans (hb.mono HB5.out.size))
  have e3 : (z3 == 0) = false := by simp [hz3]
  clear hb P3
  go_wp2_with fail
  refine (P4.out _ HB7.out).mono ?_
  rintro e w9 ⟨hb, rfl⟩
  obtain ⟨KC, hKC⟩ : ∃ KC : Array Value, KC = zCom := ⟨_, rfl⟩
  have HI := Lib.hid (show (Try.prog.info? 30).map (·.size) = some KC.size by rw [hKC]; exact comK_info (by simp) _ _ _ _ _ _)
  have HO := Lib.hid (show KC.all (·.oneCell') = true by rw [hKC]; exact comK_one _ _ _ _ _ _ _)
  have HZ := Lib.hid (show zCom.size = KC.size by rw [hKC])
  have HBN := Lib.hid (Blk.new w9 30 zCom)
  have hal : Below w9.heap.size w9 (w9.alloc (.cells KC 30)) := (Below.refl _ _).alloc (Nat.le_refl _) _
  have hb10 := hb.trans (hal.mono hb.size)
  have HB10 := Lib.hid (HB7.out.trans (hb10.mono HB7.out.size))
  rw [← hKC]
  have e4 : (z4 == 0) = false := by simp [hz4]
  clear hb hal hb10 hKC P4
  go_upto_region 23 with (first | (refine wpList_store_row rfl _ _ _ rfl w9.heap.size KC rfl rfl 30 _ HBN.out HI.out HZ.out HO.out ?_) | fail)
  rw [World.setRow_alloc_new]
  clear HBN HO HZ
  generalize w9.alloc (.cells KC 30) = w10 at *
  generalize w9.heap.size = g9 at *
  clear HI
  go_wp2_with fail
  refine (P6.out _ HB10.out).mono ?_
  rintro e w12 ⟨hb, rfl⟩
  have HB12 := Lib.hid (HB10.out.trans (hb.mono HB10.out.size))
  have e6 : (z6 == 0) = false := by simp [hz6]
  clear hb P6
  go_wp2_with fail
  refine (P5.out _ HB12.out).mono ?_
  intro e w13 hp
  obtain ⟨rfl, hb⟩ := hp.use
  have HB13 := Lib.hid (HB12.out.trans (hb.mono HB12.out.size))
  clear hb hp P5
  generalize okK (kindG l) = k5 at *
  generalize okZ (kindG l) = z5 at *
  go_wp2_with fail
  go_ret
  exact ⟨rfl, HB13.out⟩

theorem objectOnly_any (A : Option Addr) (n c : Nat) (l : List UInt8) (W0 : World) (hs : Sl W0 1 A n (bytesV l)) (hnc : n ≤ c) (hcm : c ≤ maxLen) (_ : n ≤ 1048576) :
    Calls Try.prog 6 #[.slice A n c] W0 fun e w' => e = .returned (.bool true) ∧ Below W0.heap.size W0 w' := by
  rcases one_kind l with ⟨y, h1, ⟨z2, h2⟩, ⟨z3, h3⟩, ⟨z4, h4⟩, h6, h5⟩ | ⟨y, h2, ⟨z1, h1⟩, ⟨z3, h3⟩, ⟨z4, h4⟩, h6, h5⟩ | ⟨y, h3, ⟨z1, h1⟩, ⟨z2, h2⟩, ⟨z4, h4⟩, h6, h5⟩ | ⟨y, h4, ⟨z1, h1⟩, ⟨z2, h2⟩, ⟨z3, h3⟩, h6, h5⟩ | ⟨⟨z1, h1⟩, ⟨z2, h2⟩, ⟨z3, h3⟩, ⟨z4, h4⟩, z6, h6⟩
  · exact only_chunk A n c l W0 hs hnc hcm h1 (chunk_only h1).1 h2 (getBlob_err h2) h3 (getTree_err h3) h4 (getCommit_err h4) h6 h5
  · have hp := (blob_only h2).1
    have hwf : (Lit.int .i64 y.2).wf = true := by
      unfold putBlob at hp
      split at hp
      · cases hp
      · split at hp
        · cases hp
        · have e1 : IntKind.i64.min = -9223372036854775808 := rfl
          have e2 : IntKind.i64.max = 9223372036854775807 := rfl
          simp [Lit.wf, e1, e2]
          omega
    exact only_blob A n c l W0 hs hnc hcm h2 hp h1 (getChunk_err h1) h3 (getTree_err h3) h4 (getCommit_err h4) h6 h5 hwf
  · have hp := (tree_only h3).1
    have hsz : ∀ x ∈ y, x.1.size ≤ 1000000000 := by
      unfold putTree at hp
      split at hp
      · cases hp
      · rename_i h0
        have h0 : orderedG y = 0 := by simpa using h0
        have hord : ordG none y = 0 := by
          unfold orderedG at h0
          split at h0
          · omega
          · exact h0
        intro x hx
        have := ordG_ok hord x hx
        simp only [sB, Array.length_toList] at this
        show x.1.data.size ≤ _
        omega
    exact only_tree A n c l W0 hs hnc hcm h3 hp h1 (getChunk_err h1) h2 (getBlob_err h2) h4 (getCommit_err h4) h6 h5 hsz (getTree_len h3)
  · have hp := (com_only h4).1
    have hll : y.2.2.2.1.size ≤ maxLen ∧ y.2.2.2.2.size ≤ maxLen := by
      unfold putCommit at hp
      split at hp
      · cases hp
      · rename_i hc
        simp only [sB, Array.length_toList] at hc
        have e1 : y.2.2.2.1.size = y.2.2.2.1.data.size := rfl
        have e2 : y.2.2.2.2.size = y.2.2.2.2.data.size := rfl
        simp only [maxLen]
        omega
    exact only_com A n c l W0 hs hnc hcm h4 hp h1 (getChunk_err h1) h2 (getBlob_err h2) h3 (getTree_err h3) h6 h5 (com_flt h4) hll.1 hll.2
  · exact only_none A n c l W0 hs hnc hcm h1 (getChunk_err h1) h2 (getBlob_err h2) h3 (getTree_err h3) h4 (getCommit_err h4) h6 (linksG_err h6)
end Go.Proofs.Ytpafhajpnepecaa
