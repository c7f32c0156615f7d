/- The walk of the law ObjectWrites: blobs, trees and commits are written, or refused, as the document says. -/
import Derived.Test.YtpafhajpnepecaaJn18
import Derived.Test.YtpafhajpnepecaaJn19
import Derived.Test.YtpafhajpnepecaaJn26
import Derived.Test.YtpafhajpnepecaaJn29
set_option linter.unusedVariables false
set_option linter.unusedSimpArgs false
namespace Go.Proofs.Ytpafhajpnepecaa
open Go.RowKit
attribute [local go_sem ↓] cvt_eq

abbrev blobR : Rd BlobT := prodR (slR oidR) (intR .i64)
abbrev comR : Rd ComT := prodR oidR (prodR (slR oidR) (prodR fltR (prodR strR strR)))
def bulkI (l : List UInt8) : Nat := bulkL (fun _ => 1) l + 1
def bulkX (x : BlobT) : Nat := ((bulkL bulkI x.1 + 1) + 1) + 1
def bulkE (x : EntT) : Nat := ((x.1.size + 1) + (1 + (bulkI x.2.2.1 + 1))) + 1
def bulkT (l : List EntT) : Nat := bulkL bulkE l + 1
def bulkC (x : ComT) : Nat := (bulkI x.1 + ((bulkL bulkI x.2.1 + 1) + (1 + ((x.2.2.2.1.size + 1) + (x.2.2.2.2.size + 1))))) + 1
theorem bulkL_mem' {α : Type} (f : α → Nat) : ∀ {l : List α} {x : α}, x ∈ l → f x ≤ bulkL f l
  | [], x, h => by cases h
  | v :: r, x, h => by
    rw [bulkL]
    rcases List.mem_cons.1 h with rfl | h
    · omega
    · have := bulkL_mem' f h; omega
theorem bulkL_len' {α : Type} (f : α → Nat) (hf : ∀ x, 1 ≤ f x) : ∀ (l : List α), l.length ≤ bulkL f l
  | [] => by simp
  | v :: r => by
    have := bulkL_len' f hf r
    have hv := hf v
    rw [bulkL, List.length_cons]; omega
theorem bulkI_pos (l : List UInt8) : 1 ≤ bulkI l := by unfold bulkI; omega
theorem bulkE_pos (x : EntT) : 1 ≤ bulkE x := by unfold bulkE; omega
theorem blob_open {W : World} {cs : List Value} {x : BlobT} (h : blobR.R W no cs x) : ∃ A c, cs.toArray = #[.slice A x.1.length c, .int .i64 x.2] ∧ x.1.length ≤ c ∧ c ≤ maxLen ∧ SlOf oidR W no A x.1 ∧ (Lit.int .i64 x.2).wf = true := by
  obtain ⟨c1, c2, rfl, ⟨A, c, rfl, h1, h2, h3⟩, rfl, h4⟩ := h
  exact ⟨A, c, rfl, h1, h2, h3, h4⟩
theorem com_open {W : World} {cs : List Value} {x : ComT} (h : comR.R W no cs x) : ∃ A c, cs.toArray = comK x.1 A x.2.1.length c x.2.2.1 x.2.2.2.1 x.2.2.2.2 ∧ x.1.length = 32 ∧ x.2.1.length ≤ c ∧ c ≤ maxLen ∧ SlOf oidR W no A x.2.1 ∧ x.2.2.1 < 2 ^ 64 := by
  obtain ⟨c1, c2, rfl, h1, d1, d2, rfl, ⟨A, c, rfl, h2, h3, h4⟩, e1, e2, rfl, ⟨rfl, h5⟩, f1, f2, rfl, h6, h7⟩ := h
  have h6 : f1 = _ := h6
  have h7 : f2 = _ := h7
  subst h6 h7
  obtain ⟨rfl, h32⟩ := oid_cells h1
  exact ⟨A, c, rfl, h32, h2, h3, h4, h5⟩

set_option maxRecDepth 100000 in
set_option maxHeartbeats 8000000 in
theorem objectWrites_any (cs0 : List Value) (x0 : BlobT) (A1 : Option Addr) (c1 : Nat) (l1 : List EntT) (cs2 : List Value) (x2 : ComT) (W0 : World) (s0 : blobR.R W0 no cs0 x0) (b0 : bulkX x0 ≤ 1048576) (nc1 : l1.length ≤ c1) (cm1 : c1 ≤ maxLen) (s1 : SlOf entR W0 no A1 l1) (b1 : bulkT l1 ≤ 1048576) (s2 : comR.R W0 no cs2 x2) (b2 : bulkC x2 ≤ 1048576) :
    Calls Try.prog 3 #[.agg cs0.toArray, .slice A1 l1.length c1, .agg cs2.toArray] W0 fun e w' => e = .returned (.bool true) ∧ Below W0.heap.size W0 w' := by
  obtain ⟨A0, c0, e0, nc0, cm0, hs0, wf0⟩ := blob_open s0
  obtain ⟨A2, c2, e2, h32, nc2, cm2, hs2, hf2⟩ := com_open s2
  obtain ⟨is, sz⟩ := x0
  obtain ⟨tr, ps, f, au, nt⟩ := x2
  simp only at nc0 hs0 wf0 h32 nc2 hs2 hf2 e0 e2
  have hn0 : is.length ≤ 1048576 := by
    have := bulkL_len' bulkI bulkI_pos is
    unfold bulkX at b0
    simp only at b0; omega
  have hn1 : l1.length ≤ 1048576 := by
    have := bulkL_len' bulkE bulkE_pos l1
    unfold bulkT at b1; omega
  have hz1 : ∀ x ∈ l1, x.1.size ≤ 1000000000 := fun x hx => by
    have := bulkL_mem' bulkE hx
    unfold bulkT at b1
    unfold bulkE at this b1; omega
  have hau : au.size ≤ maxLen := by unfold bulkC at b2; simp only at b2; simp only [maxLen]; omega
  have hnt : nt.size ≤ maxLen := by unfold bulkC at b2; simp only at b2; simp only [maxLen]; omega
  have hn2 : ps.length ≤ 1048576 := by
    have := bulkL_len' bulkI bulkI_pos ps
    unfold bulkC at b2; simp only at b2; omega
  obtain ⟨n0, hn0e⟩ : ∃ n0, n0 = is.length := ⟨_, rfl⟩
  obtain ⟨n1, hn1e⟩ : ∃ n1, n1 = l1.length := ⟨_, rfl⟩
  obtain ⟨n2, hn2e⟩ : ∃ n2, n2 = ps.length := ⟨_, rfl⟩
  rw [← hn0e] at e0 nc0 hn0
  rw [← hn1e] at nc1 hn1 ⊢
  rw [← hn2e] at e2 nc2 hn2
  rw [e0, e2]
  obtain ⟨K0, hK0⟩ : ∃ K0 : Array Value, K0 = #[.slice A0 n0 c0, .int .i64 sz] := ⟨_, rfl⟩
  obtain ⟨K2, hK2⟩ : ∃ K2 : Array Value, K2 = comK tr A2 n2 c2 f au nt := ⟨_, rfl⟩
  rw [← hK0, ← hK2]
  have HI0 := Lib.hid (show (Try.prog.info? 24).map (·.size) = some K0.size by rw [hK0]; exact blob_info)
  have HI2 := Lib.hid (show (Try.prog.info? 30).map (·.size) = some K2.size by rw [hK2]; exact comK_info h32 _ _ _ _ _ _)
  -- the calls
  have P1 := Lib.hid (fun w (h : Below W0.heap.size W0 w) => putBlob_any A0 n0 c0 is sz w (hs0.below h) hn0e nc0 cm0 wf0)
  have Q1 := Lib.hid (fun w => blob_as A0 n0 c0 sz w)
  have R1 := Lib.hid (fun w (h : Below W0.heap.size W0 w) => refPutBlob_any A0 n0 c0 is sz w (hs0.below h) hn0e nc0 cm0 wf0)
  have P2 := Lib.hid (fun w (h : Below W0.heap.size W0 w) => putTree_any A1 n1 c1 l1 w (s1.below h) hn1e (by omega) hz1)
  have Q2 := Lib.hid (fun w (h : Below W0.heap.size W0 w) => tree_as A1 n1 c1 l1 w (s1.below h) hn1e (by omega))
  have R2 := Lib.hid (fun w A c (h : SlOf entR w no A l1) => refPutTree_any A n1 c l1 w h hn1e (by omega) hz1)
  have P3 := Lib.hid (fun w (h : Below W0.heap.size W0 w) => putCommit_any A2 n2 c2 tr ps f au nt w h32 (hs2.below h) hn2e nc2 cm2 hf2 hau hnt)
  have Q3 := Lib.hid (fun w => com_as tr A2 n2 c2 f au nt w h32)
  have R3 := Lib.hid (fun w (h : Below W0.heap.size W0 w) => refPutCommit_any A2 n2 c2 tr ps f au nt w h32 (hs2.below h) hn2e nc2 cm2 hf2 hau hnt)
  rw [← hK0] at P1 Q1 R1
  rw [← hK2] at P3 Q3 R3
  obtain ⟨D1, hD1⟩ : ∃ D, D = putBlob (is, sz) := ⟨_, rfl⟩
  obtain ⟨D2, hD2⟩ : ∃ D, D = putTree l1 := ⟨_, rfl⟩
  obtain ⟨D3, hD3⟩ : ∃ D, D = putCommit (tr, ps, f, au, nt) := ⟨_, rfl⟩
  rw [← hD1] at P1 R1
  rw [← hD2] at P2 R2
  rw [← hD3] at P3 R3
  obtain ⟨o1, ho1⟩ : ∃ o, o = okB D1 := ⟨_, rfl⟩
  obtain ⟨z1, hz1'⟩ : ∃ z, z = okZ D1 := ⟨_, rfl⟩
  obtain ⟨o2, ho2⟩ : ∃ o, o = okB D2 := ⟨_, rfl⟩
  obtain ⟨z2, hz2'⟩ : ∃ z, z = okZ D2 := ⟨_, rfl⟩
  obtain ⟨o3, ho3⟩ : ∃ o, o = okB D3 := ⟨_, rfl⟩
  obtain ⟨z3, hz3'⟩ : ∃ z, z = okZ D3 := ⟨_, rfl⟩
  have U1 := Lib.hid (fun w e w' (h : EncPost w D1 e w') => EncPost.use h)
  have V1 := Lib.hid (fun w e w' (h : RefEnc w D1 e w') => RefEnc.use h)
  have U2 := Lib.hid (fun w e w' (h : EncPost w D2 e w') => EncPost.use h)
  have V2 := Lib.hid (fun w e w' (h : RefEnc w D2 e w') => RefEnc.use h)
  have U3 := Lib.hid (fun w e w' (h : EncPost w D3 e w') => EncPost.use h)
  have V3 := Lib.hid (fun w e w' (h : RefEnc w D3 e w') => RefEnc.use h)
  rw [← ho1, ← hz1'] at U1 V1
  rw [← ho2, ← hz2'] at U2 V2
  rw [← ho3, ← hz3'] at U3 V3
  obtain ⟨m1, hm1⟩ : ∃ m, m = o1.length := ⟨_, rfl⟩
  obtain ⟨m2, hm2⟩ : ∃ m, m = o2.length := ⟨_, rfl⟩
  obtain ⟨m3, hm3⟩ : ∃ m, m = o3.length := ⟨_, rfl⟩
  rw [← hm1] at U1
  rw [← hm2] at U2
  rw [← hm3] at U3
  have M1 := Lib.hid hm1
  have M2 := Lib.hid hm2
  have M3 := Lib.hid hm3
  have HN1 := Lib.hid hn1e
  have hba : Below W0.heap.size W0 ((W0.alloc (.cells K0 24)).alloc (.cells K2 30)) := ((Below.refl _ _).alloc (Nat.le_refl _) _).alloc (by simp) _
  have HB1 := Lib.hid hba
  have HG1 := Lib.hid ((Blk.new W0 24 K0).alloc (.cells K2 30))
  have HH1 := Lib.hid (show Blk ((W0.alloc (.cells K0 24)).alloc (.cells K2 30)) (W0.heap.size + 1) 30 K2 by
    have := Blk.new (W0.alloc (.cells K0 24)) 30 K2
    simpa using this)
  clear s0 b0 nc1 cm1 s1 b1 s2 b2 e0 nc0 cm0 hs0 wf0 e2 h32 nc2 cm2 hs2 hf2 hn0 hn1 hz1 hau hnt hn2 hn0e hn1e hn2e hK0 hK2 hD1 hD2 hD3 ho1 hz1' ho2 hz2' ho3 hz3' hm1 hm2 hm3 hba
  go_enter Try.func3, Try.ntmps3
  go_upto_region 1 with fail
  generalize (W0.alloc (.cells K0 24)).alloc (.cells K2 30) = w0 at *
  generalize hg : W0.heap.size = g at *
  have HG := Lib.hid hg
  clear hg
  go_wp2_with fail
  refine (awake_obj _).mono ?_
  rintro e w1 ⟨rfl, hb⟩
  have hgl0 := HG1.out.lt
  have hb := hb.mono (Nat.le_refl _)
  have HB2 := Lib.hid (HB1.out.trans (hb.mono (Nat.le_of_lt hgl0)))
  have HG2 := Lib.hid (HG1.out.below hb HG1.out.lt)
  have HH2 := Lib.hid (HH1.out.below hb HH1.out.lt)
  clear hb HB1 HG1 HH1 hgl0
  -- PutBlob
  go_wp2_with (first | (refine wpList_load_row rfl 24 (.tmp 3) rfl g rfl 24 K0 (0, 0) _ HG2.out Try.underlying24 rfl HI0.out ?_) | fail)
  refine (P1.out _ HB2.out).mono ?_
  intro e w2 hp
  obtain ⟨A9, c9, rfl, hown, hb⟩ := U1.out _ _ _ hp
  have HS1 := Lib.hid (Sl.ofOwn hown)
  have HB3 := Lib.hid (HB2.out.trans (hb.mono (Nat.le_of_lt HG2.out.lt)))
  have HG3 := Lib.hid (HG2.out.below hb HG2.out.lt)
  have HH3 := Lib.hid (HH2.out.below hb HH2.out.lt)
  clear hb HB2 HG2 HH2 hown hp P1 U1
  go_wp2_with (first | (refine wpList_load_row rfl 24 (.tmp 3) rfl g rfl 24 K0 (0, 0) _ HG3.out Try.underlying24 rfl HI0.out ?_) | fail)
  refine (Q1.out _).mono ?_
  rintro e w3 ⟨rfl, hb⟩
  have HB4 := Lib.hid (HB3.out.trans (hb.mono (Nat.le_of_lt HG3.out.lt)))
  have HH4 := Lib.hid (HH3.out.below hb HH3.out.lt)
  have HS4 := Lib.hid (HS1.out.below hb)
  have hlh := HH4.out.lt
  clear hb HB3 HG3 HH3 HS1 Q1
  go_wp2_with fail
  refine (R1.out _ HB4.out).mono ?_
  intro e w4 hp
  obtain ⟨rfl, hb⟩ := V1.out _ _ _ hp
  have HB5 := Lib.hid (HB4.out.trans (hb.mono (by omega)))
  have HH5 := Lib.hid (HH4.out.below hb HH4.out.lt)
  have HS5 := Lib.hid (HS4.out.below hb)
  have hlh5 := HH5.out.lt
  clear hb HB4 HH4 HS4 hp R1 V1 hlh
  -- PutTree
  go_wp2_with fail
  refine (P2.out _ HB5.out).mono ?_
  intro e w5 hp
  obtain ⟨B9, d9, rfl, hown, hb⟩ := U2.out _ _ _ hp
  have HT6 := Lib.hid (Sl.ofOwn hown)
  have HB6 := Lib.hid (HB5.out.trans (hb.mono (by omega)))
  have HH6 := Lib.hid (HH5.out.below hb HH5.out.lt)
  have HS6 := Lib.hid (HS5.out.below hb)
  have hlh6 := HH6.out.lt
  clear hb HB5 HH5 HS5 hown hp P2 U2 hlh5
  go_wp2_with fail
  refine (Q2.out _ HB6.out).mono ?_
  rintro e w6 ⟨⟨A7, c7, rfl, hsl, _, _⟩, hb⟩
  rw [← HN1.out]
  have HB7 := Lib.hid (HB6.out.trans (hb.mono (by omega)))
  have HH7 := Lib.hid (HH6.out.below hb HH6.out.lt)
  have HS7 := Lib.hid (HS6.out.below hb)
  have HT7 := Lib.hid (HT6.out.below hb)
  have HR7 := Lib.hid (R2.out w6 A7 c7 (hsl.stable (Moves.forget _ _)))
  have hlh7 := HH7.out.lt
  clear hb HB6 HH6 HS6 HT6 hsl Q2 R2 hlh6
  go_wp2_with fail
  refine HR7.out.mono ?_
  intro e w7 hp
  obtain ⟨rfl, hb⟩ := V2.out _ _ _ hp
  have HB8 := Lib.hid (HB7.out.trans (hb.mono (by omega)))
  have HH8 := Lib.hid (HH7.out.below hb HH7.out.lt)
  have HS8 := Lib.hid (HS7.out.below hb)
  have HT8 := Lib.hid (HT7.out.below hb)
  have hlh8 := HH8.out.lt
  clear hb HB7 HH7 HS7 HT7 hp HR7 V2 hlh7
  -- PutCommit
  go_wp2_with (first | (refine wpList_load_row rfl 30 (.tmp 5) rfl (g + 1) rfl 30 K2 (0, 0) _ HH8.out Try.underlying30 rfl HI2.out ?_) | fail)
  refine (P3.out _ HB8.out).mono ?_
  intro e w8 hp
  obtain ⟨C9, f9, rfl, hown, hb⟩ := U3.out _ _ _ hp
  have HV9 := Lib.hid (Sl.ofOwn hown)
  have HB9 := Lib.hid (HB8.out.trans (hb.mono (by omega)))
  have HH9 := Lib.hid (HH8.out.below hb HH8.out.lt)
  have HS9 := Lib.hid (HS8.out.below hb)
  have HT9 := Lib.hid (HT8.out.below hb)
  have hlh9 := HH9.out.lt
  clear hb HB8 HH8 HS8 HT8 hown hp P3 U3 hlh8
  go_wp2_with (first | (refine wpList_load_row rfl 30 (.tmp 5) rfl (g + 1) rfl 30 K2 (0, 0) _ HH9.out Try.underlying30 rfl HI2.out ?_) | fail)
  refine (Q3.out _).mono ?_
  rintro e w9 ⟨rfl, hb⟩
  have HB10 := Lib.hid (HB9.out.trans (hb.mono (by omega)))
  have HS10 := Lib.hid (HS9.out.below hb)
  have HT10 := Lib.hid (HT9.out.below hb)
  have HV10 := Lib.hid (HV9.out.below hb)
  have HSZ := Lib.hid (show g ≤ w9.heap.size from Nat.le_trans (by omega) hb.size)
  clear hb HB9 HH9 HS9 HT9 HV9 Q3 hlh9
  go_wp2_with fail
  refine (R3.out _ HB10.out).mono ?_
  intro e w10 hp
  obtain ⟨rfl, hb⟩ := V3.out _ _ _ hp
  have HB11 := Lib.hid (HB10.out.trans (hb.mono HSZ.out))
  have hcv1 : cvt w10 A9 m1 c9 = .ok (.string (strL o1)) w10 := by rw [M1.out]; exact cvt_of (by have := HS10.out.below hb; rwa [M1.out] at this) c9
  have hcv2 : cvt w10 B9 m2 d9 = .ok (.string (strL o2)) w10 := by rw [M2.out]; exact cvt_of (by have := HT10.out.below hb; rwa [M2.out] at this) d9
  have hcv3 : cvt w10 C9 m3 f9 = .ok (.string (strL o3)) w10 := by rw [M3.out]; exact cvt_of (by have := HV10.out.below hb; rwa [M3.out] at this) f9
  clear hb HB10 HS10 HT10 HV10 HSZ hp R3 V3
  generalize strL o1 = q1 at *
  generalize strL o2 = q2 at *
  generalize strL o3 = q3 at *
  go_wp2_with fail
  go_ret
  rw [HG.out]
  exact ⟨rfl, HB11.out⟩
end Go.Proofs.Ytpafhajpnepecaa
