/- The walk of the law ObjectBack: what is written is read again as it was. -/
import Derived.Test.YtpafhajpnepecaaJn19
import Derived.Test.YtpafhajpnepecaaJn30
import Derived.Test.YtpafhajpnepecaaJn28
set_option linter.unusedVariables false
set_option linter.unusedSimpArgs false
namespace Go.Proofs.Ytpafhajpnepecaa
open Go.RowKit
attribute [local go_sem ↓] eqlId_eq neqId_eq

abbrev blobR : Rd BlobT := prodR (slR oidR) (intR .i64)
abbrev comR : Rd ComT := prodR oidR (prodR (slR oidR) (prodR fltR (prodR strR strR)))
def bulkI (l : List UInt8) : Nat := bulkL (fun _ => 1) l + 1
def bulkX (x : BlobT) : Nat := ((bulkL bulkI x.1 + 1) + 1) + 1
def bulkE (x : EntT) : Nat := ((x.1.size + 1) + (1 + (bulkI x.2.2.1 + 1))) + 1
def bulkT (l : List EntT) : Nat := bulkL bulkE l + 1
def bulkC (x : ComT) : Nat := (bulkI x.1 + ((bulkL bulkI x.2.1 + 1) + (1 + ((x.2.2.2.1.size + 1) + (x.2.2.2.2.size + 1))))) + 1
theorem bulkL_mem' {α : Type} (f : α → Nat) : ∀ {l : List α} {x : α}, x ∈ l → f x ≤ bulkL f l
  | [], x, h => by cases h
  | v :: r, x, h => by
    rw [bulkL]
    rcases List.mem_cons.1 h with rfl | h
    · omega
    · have := bulkL_mem' f h; omega
theorem bulkL_len' {α : Type} (f : α → Nat) (hf : ∀ x, 1 ≤ f x) : ∀ (l : List α), l.length ≤ bulkL f l
  | [] => by simp
  | v :: r => by
    have := bulkL_len' f hf r
    have hv := hf v
    rw [bulkL, List.length_cons]; omega
theorem bulkI_pos (l : List UInt8) : 1 ≤ bulkI l := by unfold bulkI; omega
theorem bulkE_pos (x : EntT) : 1 ≤ bulkE x := by unfold bulkE; omega
theorem blob_open {W : World} {cs : List Value} {x : BlobT} (h : blobR.R W no cs x) : ∃ A c, cs.toArray = #[.slice A x.1.length c, .int .i64 x.2] ∧ x.1.length ≤ c ∧ c ≤ maxLen ∧ SlOf oidR W no A x.1 ∧ (Lit.int .i64 x.2).wf = true := by
  obtain ⟨c1, c2, rfl, ⟨A, c, rfl, h1, h2, h3⟩, rfl, h4⟩ := h
  exact ⟨A, c, rfl, h1, h2, h3, h4⟩
theorem com_open {W : World} {cs : List Value} {x : ComT} (h : comR.R W no cs x) : ∃ A c, cs.toArray = comK x.1 A x.2.1.length c x.2.2.1 x.2.2.2.1 x.2.2.2.2 ∧ x.1.length = 32 ∧ x.2.1.length ≤ c ∧ c ≤ maxLen ∧ SlOf oidR W no A x.2.1 ∧ x.2.2.1 < 2 ^ 64 := by
  obtain ⟨c1, c2, rfl, h1, d1, d2, rfl, ⟨A, c, rfl, h2, h3, h4⟩, e1, e2, rfl, ⟨rfl, h5⟩, f1, f2, rfl, h6, h7⟩ := h
  have h6 : f1 = _ := h6
  have h7 : f2 = _ := h7
  subst h6 h7
  obtain ⟨rfl, h32⟩ := oid_cells h1
  exact ⟨A, c, rfl, h32, h2, h3, h4, h5⟩

theorem putBlob_z {x : BlobT} (h0 : okZ (putBlob x) = 0) : putBlob x = .ok (okB (putBlob x)) := by
  cases h : putBlob x with
  | ok o => rfl
  | error z =>
    rw [h] at h0
    have h0 : z = 0 := h0
    subst h0
    exfalso
    unfold putBlob at h
    split at h
    · injection h with h; omega
    · split at h
      · injection h with h; omega
      · exact wrV_err 16 [] (lstV [numV 2, lstV (x.1.map txtV), numV x.2.toNat]) 0 h rfl
theorem putTree_z {l : List EntT} (h0 : okZ (putTree l) = 0) : putTree l = .ok (okB (putTree l)) := by
  cases h : putTree l with
  | ok o => rfl
  | error z =>
    rw [h] at h0
    have h0 : z = 0 := h0
    subst h0
    exfalso
    unfold putTree at h
    split at h
    · rename_i hn; injection h with h; exact hn h
    · exact wrV_err 16 [] (lstV [numV 3, lstV (l.map entV)]) 0 h rfl
theorem putCommit_z {x : ComT} (h0 : okZ (putCommit x) = 0) : putCommit x = .ok (okB (putCommit x)) := by
  cases h : putCommit x with
  | ok o => rfl
  | error z =>
    rw [h] at h0
    have h0 : z = 0 := h0
    subst h0
    exfalso
    unfold putCommit at h
    split at h
    · injection h with h; omega
    · split at h
      · injection h with h; omega
      · exact wrV_err 16 [] (lstV [numV 4, txtV x.1, lstV (x.2.1.map txtV), fltV (canonB x.2.2.1), txtV (sB x.2.2.2.1), txtV (sB x.2.2.2.2)]) 0 h rfl
theorem bad_len {D : Res (List UInt8)} (h : okZ D ≠ 0) : (okB D).length = 0 := by
  cases D with
  | ok o => exact absurd rfl h
  | error z => rfl

set_option maxRecDepth 100000 in
set_option maxHeartbeats 8000000 in
theorem objectBack_any (cs0 : List Value) (x0 : BlobT) (A1 : Option Addr) (c1 : Nat) (l1 : List EntT) (cs2 : List Value) (x2 : ComT) (W0 : World) (s0 : blobR.R W0 no cs0 x0) (b0 : bulkX x0 ≤ 1048576) (nc1 : l1.length ≤ c1) (cm1 : c1 ≤ maxLen) (s1 : SlOf entR W0 no A1 l1) (b1 : bulkT l1 ≤ 1048576) (s2 : comR.R W0 no cs2 x2) (b2 : bulkC x2 ≤ 1048576) :
    Calls Try.prog 5 #[.agg cs0.toArray, .slice A1 l1.length c1, .agg cs2.toArray] W0 fun e w' => e = .returned (.bool true) ∧ Below W0.heap.size W0 w' := by
  obtain ⟨A0, c0, e0, nc0, cm0, hs0, wf0⟩ := blob_open s0
  obtain ⟨A2, c2, e2, h32, nc2, cm2, hs2, hf2⟩ := com_open s2
  obtain ⟨is, sz⟩ := x0
  obtain ⟨tr, ps, f, au, nt⟩ := x2
  simp only at nc0 hs0 wf0 h32 nc2 hs2 hf2 e0 e2
  have hn0 : is.length ≤ 1048576 := by
    have := bulkL_len' bulkI bulkI_pos is
    unfold bulkX at b0
    simp only at b0; omega
  have hn1 : l1.length ≤ 1048576 := by
    have := bulkL_len' bulkE bulkE_pos l1
    unfold bulkT at b1; omega
  have hz1 : ∀ x ∈ l1, x.1.size ≤ 1000000000 := fun x hx => by
    have := bulkL_mem' bulkE hx
    unfold bulkT at b1
    unfold bulkE at this b1; omega
  have hau : au.size ≤ maxLen := by unfold bulkC at b2; simp only at b2; simp only [maxLen]; omega
  have hnt : nt.size ≤ maxLen := by unfold bulkC at b2; simp only at b2; simp only [maxLen]; omega
  have hn2 : ps.length ≤ 1048576 := by
    have := bulkL_len' bulkI bulkI_pos ps
    unfold bulkC at b2; simp only at b2; omega
  have h32t : ∀ x ∈ l1, x.2.2.1.length = 32 ∧ x.2.2.2 < 2 ^ 64 := fun x hx => by
    obtain ⟨j, hj⟩ := List.mem_iff_getElem?.1 hx
    have hjl := (List.getElem?_eq_some_iff.1 hj).1
    obtain ⟨_, _, o', _, _, h1, h2, h3, _⟩ := ents_look s1 rfl (i := j) hjl
    rw [hj] at h1; injection h1 with h1; rw [h1]; exact ⟨h2, h3⟩
  have Z1 := Lib.hid (fun (h0 : okZ (putBlob (is, sz)) = 0) => show getBlob (okB (putBlob (is, sz))) = .ok (is, sz) ∧ linksG (okB (putBlob (is, sz))) = .ok is from by
    obtain ⟨h1, _⟩ := blob_back (x := (is, sz)) (fun i hi => oids_32 hs0 i hi) (putBlob_z h0)
    exact ⟨h1, links_blob h1⟩)
  have Z2 := Lib.hid (fun (h0 : okZ (putTree l1) = 0) => show getTree (okB (putTree l1)) = .ok (l1.map normE) ∧ linksG (okB (putTree l1)) = .ok (l1.map (·.2.2.1)) from by
    obtain ⟨h1, _⟩ := tree_back h32t (putTree_z h0)
    refine ⟨h1, ?_⟩
    rw [links_tree h1, List.map_map]
    exact congrArg Except.ok (List.map_congr_left fun x _ => normE_id x))
  have Z3 := Lib.hid (fun (h0 : okZ (putCommit (tr, ps, f, au, nt)) = 0) => show getCommit (okB (putCommit (tr, ps, f, au, nt))) = .ok (tr, ps, canonB f, au, nt) ∧ linksG (okB (putCommit (tr, ps, f, au, nt))) = .ok (tr :: ps) from by
    obtain ⟨h1, _⟩ := com_back (x := (tr, ps, f, au, nt)) h32 (fun i hi => oids_32 hs2 i hi) hf2 (putCommit_z h0)
    exact ⟨h1, links_com h1⟩)
  have Y3 := Lib.hid (bad_len (D := putCommit (tr, ps, f, au, nt)))
  obtain ⟨n0, hn0e⟩ : ∃ n0, n0 = is.length := ⟨_, rfl⟩
  obtain ⟨n1, hn1e⟩ : ∃ n1, n1 = l1.length := ⟨_, rfl⟩
  obtain ⟨n2, hn2e⟩ : ∃ n2, n2 = ps.length := ⟨_, rfl⟩
  rw [← hn0e] at e0 nc0 hn0
  rw [← hn1e] at nc1 hn1 ⊢
  rw [← hn2e] at e2 nc2 hn2
  rw [e0, e2]
  obtain ⟨K0, hK0⟩ : ∃ K0 : Array Value, K0 = #[.slice A0 n0 c0, .int .i64 sz] := ⟨_, rfl⟩
  obtain ⟨K2, hK2⟩ : ∃ K2 : Array Value, K2 = comK tr A2 n2 c2 f au nt := ⟨_, rfl⟩
  rw [← hK0, ← hK2]
  have HI0 := Lib.hid (show (Try.prog.info? 24).map (·.size) = some K0.size by rw [hK0]; exact blob_info)
  have HI2 := Lib.hid (show (Try.prog.info? 30).map (·.size) = some K2.size by rw [hK2]; exact comK_info h32 _ _ _ _ _ _)
  have HK0 := Lib.hid hK0
  have HK2 := Lib.hid hK2
  have H32 := Lib.hid h32
  have HA0 := Lib.hid hs0
  have HA1 := Lib.hid s1
  have HA2 := Lib.hid hs2
  -- the calls
  have P1 := Lib.hid (fun w (h : Below W0.heap.size W0 w) => putBlob_any A0 n0 c0 is sz w (hs0.below h) hn0e nc0 cm0 wf0)
  have P2 := Lib.hid (fun w (h : Below W0.heap.size W0 w) => putTree_any A1 n1 c1 l1 w (s1.below h) hn1e (by omega) hz1)
  have P3 := Lib.hid (fun w (h : Below W0.heap.size W0 w) => putCommit_any A2 n2 c2 tr ps f au nt w h32 (hs2.below h) hn2e nc2 cm2 hf2 hau hnt)
  rw [← hK0] at P1
  rw [← hK2] at P3
  obtain ⟨D1, hD1⟩ : ∃ D, D = putBlob (is, sz) := ⟨_, rfl⟩
  obtain ⟨D2, hD2⟩ : ∃ D, D = putTree l1 := ⟨_, rfl⟩
  obtain ⟨D3, hD3⟩ : ∃ D, D = putCommit (tr, ps, f, au, nt) := ⟨_, rfl⟩
  rw [← hD1] at P1 Z1
  rw [← hD2] at P2 Z2
  rw [← hD3] at P3 Z3 Y3
  obtain ⟨o1, ho1⟩ : ∃ o, o = okB D1 := ⟨_, rfl⟩
  obtain ⟨z1, hz1'⟩ : ∃ z, z = okZ D1 := ⟨_, rfl⟩
  obtain ⟨o2, ho2⟩ : ∃ o, o = okB D2 := ⟨_, rfl⟩
  obtain ⟨z2, hz2'⟩ : ∃ z, z = okZ D2 := ⟨_, rfl⟩
  obtain ⟨o3, ho3⟩ : ∃ o, o = okB D3 := ⟨_, rfl⟩
  obtain ⟨z3, hz3'⟩ : ∃ z, z = okZ D3 := ⟨_, rfl⟩
  have U1 := Lib.hid (fun w e w' (h : EncPost w D1 e w') => EncPost.use h)
  have U2 := Lib.hid (fun w e w' (h : EncPost w D2 e w') => EncPost.use h)
  have U3 := Lib.hid (fun w e w' (h : EncPost w D3 e w') => EncPost.use h)
  rw [← ho1, ← hz1'] at U1 Z1
  rw [← ho2, ← hz2'] at U2 Z2
  rw [← ho3, ← hz3'] at U3 Z3 Y3
  obtain ⟨m1, hm1⟩ : ∃ m, m = o1.length := ⟨_, rfl⟩
  obtain ⟨m2, hm2⟩ : ∃ m, m = o2.length := ⟨_, rfl⟩
  obtain ⟨m3, hm3⟩ : ∃ m, m = o3.length := ⟨_, rfl⟩
  rw [← hm1] at U1
  rw [← hm2] at U2
  rw [← hm3] at U3 Y3
  have HN0 := Lib.hid hn0e
  have HN1 := Lib.hid hn1e
  have HN2 := Lib.hid hn2e
  have HL0 := Lib.hid hn0
  have HL1 := Lib.hid hn1
  have HL2 := Lib.hid hn2
  have hba : Below W0.heap.size W0 ((W0.alloc (.cells K0 24)).alloc (.cells K2 30)) := ((Below.refl _ _).alloc (Nat.le_refl _) _).alloc (by simp) _
  have HB1 := Lib.hid hba
  have HG1 := Lib.hid ((Blk.new W0 24 K0).alloc (.cells K2 30))
  have HH1 := Lib.hid (show Blk ((W0.alloc (.cells K0 24)).alloc (.cells K2 30)) (W0.heap.size + 1) 30 K2 by
    have := Blk.new (W0.alloc (.cells K0 24)) 30 K2
    simpa using this)
  clear s0 b0 nc1 cm1 s1 b1 s2 b2 e0 nc0 cm0 hs0 wf0 e2 h32 nc2 cm2 hs2 hf2 hn0 hn1 hz1 hau hnt hn2 hn0e hn1e hn2e hK0 hK2 hD1 hD2 hD3 ho1 hz1' ho2 hz2' ho3 hz3' hm1 hm2 hm3 hba h32t
  go_enter Try.func5, Try.ntmps5
  go_upto_region 1 with fail
  generalize (W0.alloc (.cells K0 24)).alloc (.cells K2 30) = w0 at *
  generalize hg : W0.heap.size = g at *
  have HG := Lib.hid hg
  clear hg
  go_wp2_with fail
  refine (awake_obj _).mono ?_
  rintro e w1 ⟨rfl, hb⟩
  have hgl0 := HG1.out.lt
  have hb := hb.mono (Nat.le_refl _)
  have HB2 := Lib.hid (HB1.out.trans (hb.mono (Nat.le_of_lt hgl0)))
  have HG2 := Lib.hid (HG1.out.below hb HG1.out.lt)
  have HH2 := Lib.hid (HH1.out.below hb HH1.out.lt)
  have HS1 := Lib.hid (show g ≤ w1.heap.size by rw [← HG.out]; exact HB2.out.size)
  clear hb HB1 HG1 HH1 hgl0
  -- PutBlob
  go_wp2_with (first | (refine wpList_load_row rfl 24 (.tmp 3) rfl g rfl 24 K0 (0, 0) _ HG2.out Try.underlying24 rfl HI0.out ?_) | fail)
  refine (P1.out _ HB2.out).mono ?_
  intro e w2 hp
  obtain ⟨A9, c9, rfl, hown, hb⟩ := U1.out _ _ _ hp
  obtain ⟨hca, hcb⟩ := own_cap hown
  have HS2 := Lib.hid (Sl.ofOwn hown)
  have HC9 := Lib.hid (And.intro hca hcb)
  have HW12 := Lib.hid hb
  clear hp hown hb hca hcb P1 U1
  go_upto_if 35 with fail
  go_cut [] (fun wx => Below w1.heap.size w1 wx)
  case first =>
    as_aux_lemma =>
      by_cases hz : z1 = 0
      · obtain ⟨q1, q2⟩ := Z1.out hz
        subst hz
        have HGB := Lib.hid (fun w (h : Below w2.heap.size w2 w) => getBlob_any A9 m1 c9 o1 w (HS2.out.below h) HC9.out.1 HC9.out.2)
        have HLB := Lib.hid (fun w (h : Below w2.heap.size w2 w) => links_any A9 m1 c9 o1 w (HS2.out.below h) HC9.out.1 HC9.out.2)
        rw [q1] at HGB
        rw [q2] at HLB
        have hlen : (is, sz).1.length = n0 := HN0.out.symm
        have hlen' : is.length = n0 := HN0.out.symm
        clear q1 q2 Z1 Z2 Z3 Y3 P2 P3 U2 U3
        go_wp2_with fail
        refine (HGB.out w2 (Below.refl _ _)).mono ?_
        rintro e w3 ⟨hb, A3, c3, rfl, hs3, hc3, hcm3⟩
        rw [hlen]
        obtain ⟨KX, hKX⟩ : ∃ KX : Array Value, KX = #[.slice A3 n0 c3, .int .i64 sz] := ⟨_, rfl⟩
        have HI := Lib.hid (show (Try.prog.info? 24).map (·.size) = some KX.size by rw [hKX]; exact blob_info)
        have HO := Lib.hid (show KX.all (·.oneCell') = true by rw [hKX]; simp [Value.oneCell'])
        have HZ := Lib.hid (show zBlob.size = KX.size by rw [hKX]; rfl)
        have HBN := Lib.hid (Blk.new w3 24 zBlob)
        have hal : Below w3.heap.size w3 (w3.alloc (.cells KX 24)) := (Below.refl _ _).alloc (Nat.le_refl _) _
        have HW24 := Lib.hid (hb.trans (hal.mono hb.size))
        have HY4 := Lib.hid (Blk.new w3 24 KX)
        have HS4 := Lib.hid ((hs3.stable (Moves.forget _ _)).below hal)
        have HKX := Lib.hid hKX
        rw [show (is, sz).2 = sz from rfl, ← hKX]
        clear hb hs3 hc3 hcm3 hal hKX HGB
        go_upto_region 6 with (first | (refine wpList_store_row rfl _ _ _ rfl w3.heap.size KX rfl rfl 24 _ HBN.out HI.out HZ.out HO.out ?_) | fail)
        rw [World.setRow_alloc_new]
        clear HBN HO HZ
        generalize w3.alloc (.cells KX 24) = w4 at *
        generalize w3.heap.size = gy at *
        go_wp2_with fail
        refine (HLB.out w4 HW24.out).mono ?_
        rintro e w5 ⟨hb, A5, c5, rfl, hs5, hc5, hcm5⟩
        have HW25 := Lib.hid (HW24.out.trans (hb.mono HW24.out.size))
        have HW15 := Lib.hid (HW12.out.trans (HW25.out.mono HW12.out.size))
        have HG5 := Lib.hid (HG2.out.below HW15.out HG2.out.lt)
        have HY5 := Lib.hid (HY4.out.below hb HY4.out.lt)
        have HS5 := Lib.hid (HS4.out.below hb)
        have HX5 := Lib.hid (hs5.stable (Moves.forget _ _))
        have HA5 := Lib.hid (HA0.out.below (by rw [HG.out]; exact HB2.out.trans (HW15.out.mono HS1.out)))
        have x0 : w5.cell? ⟨g, 0, none⟩ = some (.slice A0 n0 c0) := by have := HG5.out.cell 0; rw [HK0.out] at this; exact this
        have x1 : w5.cell? ⟨g, 1, none⟩ = some (.int .i64 sz) := by have := HG5.out.cell 1; rw [HK0.out] at this; exact this
        have y0 : w5.cell? ⟨gy, 0, none⟩ = some (.slice A3 n0 c3) := by have := HY5.out.cell 0; rw [HKX.out] at this; exact this
        have y1 : w5.cell? ⟨gy, 1, none⟩ = some (.int .i64 sz) := by have := HY5.out.cell 1; rw [HKX.out] at this; exact this
        rw [hlen']
        clear hb hs5 hc5 hcm5 HLB HW24 HY4 HS4 HG2
        go_wp2_with fail
        refine (ids_same A3 A0 n0 c3 n0 c0 is w5 HS5.out HA5.out HN0.out HN0.out (by have := HL0.out; omega)).mono ?_
        rintro e w6 ⟨rfl, hb⟩
        have x0' : w6.cell? ⟨g, 0, none⟩ = some (.slice A0 n0 c0) := (hb.cell (p := ⟨g, 0, none⟩) HG5.out.lt).trans x0
        have HX6 := Lib.hid (HX5.out.below hb)
        have HA6 := Lib.hid (HA5.out.below hb)
        have HW16 := Lib.hid (HW15.out.trans (hb.mono HW15.out.size))
        clear hb x0 x1 y0 y1 HS5 HX5 HA5 HG5 HY5
        go_wp2_with fail
        refine (ids_same A5 A0 n0 c5 n0 c0 is w6 HX6.out HA6.out HN0.out HN0.out (by have := HL0.out; omega)).mono ?_
        rintro e w7 ⟨rfl, hb⟩
        have HW17 := Lib.hid (HW16.out.trans (hb.mono HW16.out.size))
        clear hb x0' HX6 HA6
        go_wp2_with fail
        go_meet
        case rel => exact HW17.out
      · have hzb : (z1 == 0) = false := by simp [hz]
        clear hz
        go_wp2_with fail
        go_meet
        case rel => exact HW12.out
  case rest =>
    as_aux_lemma =>
      rename World => wu
      have HB3 := Lib.hid (HB2.out.trans (hcut.mono HS1.out))
      have HH3 := Lib.hid (HH2.out.below hcut HH2.out.lt)
      clear hcut HB2 HH2 HG2 HS2 HC9 HW12 Z1
      -- PutTree
      go_wp2_with fail
      refine (P2.out _ HB3.out).mono ?_
      intro e w2 hp
      obtain ⟨B9, d9, rfl, hown, hb⟩ := U2.out _ _ _ hp
      obtain ⟨hca, hcb⟩ := own_cap hown
      have HS2 := Lib.hid (Sl.ofOwn hown)
      have HC9 := Lib.hid (And.intro hca hcb)
      have HWu := Lib.hid hb
      have HSu := Lib.hid (show g ≤ wu.heap.size by rw [← HG.out]; exact HB3.out.size)
      clear hp hown hb hca hcb P2 U2
      go_upto_if 80 with fail
      go_cut [] (fun wx => Below wu.heap.size wu wx)
      case first =>
        as_aux_lemma =>
          by_cases hz : z2 = 0
          · obtain ⟨q1, q2⟩ := Z2.out hz
            subst hz
            have HGB := Lib.hid (fun w (h : Below w2.heap.size w2 w) => getTree_any B9 m2 d9 o2 w (HS2.out.below h) HC9.out.1 HC9.out.2)
            have HLB := Lib.hid (fun w (h : Below w2.heap.size w2 w) => links_any B9 m2 d9 o2 w (HS2.out.below h) HC9.out.1 HC9.out.2)
            rw [q1] at HGB
            rw [q2] at HLB
            have hlen : (l1.map normE).length = n1 := by rw [List.length_map]; exact HN1.out.symm
            have hlen' : (l1.map fun x => x.2.2.1).length = n1 := by rw [List.length_map]; exact HN1.out.symm
            have HE := Lib.hid hlen
            have HE' := Lib.hid hlen'
            clear q1 q2 Z2 Z3 Y3 P3 U3
            go_wp2_with fail
            refine (HGB.out w2 (Below.refl _ _)).mono ?_
            rintro e w3 ⟨hb, A3, c3, rfl, hs3, hc3, hcm3⟩
            rw [hlen]
            have HW23 := Lib.hid hb
            have HS3 := Lib.hid (hs3.stable (Moves.forget _ _))
            clear hb hs3 hc3 hcm3 HGB hlen
            go_wp2_with fail
            refine (HLB.out w3 HW23.out).mono ?_
            rintro e w5 ⟨hb, A5, c5, rfl, hs5, hc5, hcm5⟩
            rw [hlen']
            have HW25 := Lib.hid (HW23.out.trans (hb.mono HW23.out.size))
            have HWu5 := Lib.hid (HWu.out.trans (HW25.out.mono HWu.out.size))
            have HS5 := Lib.hid (HS3.out.below hb)
            have HX5 := Lib.hid (hs5.stable (Moves.forget _ _))
            have HA5 := Lib.hid (HA1.out.below (by rw [HG.out]; exact HB3.out.trans (HWu5.out.mono HSu.out)))
            have hl1 := HL1.out
            clear hb hs5 hc5 hcm5 HLB HW23 HS3 hlen'
            go_wp2_with fail
            go_loopw [113] (fun s113 wr => ∃ k : Nat, k ≤ n1 ∧ s113 = .int .i64 (k : Int) ∧ Hid (Below w5.heap.size w5 wr)) (fun s113 wr => n1 - (intOf s113).toNat)
            case atStart => exact ⟨0, by omega, rfl, Lib.hid (Below.refl _ _)⟩
            case round =>
              obtain ⟨k, hk, rfl, HBL⟩ := hrel
              by_cases hlt : k < n1
              · have hltI : (k : Int) < (n1 : Int) := by omega
                obtain ⟨b1, o1', x, rfl, hb1, hx, h32, hf, hat⟩ := ents_look (HA5.out.below HBL.out) HN1.out.symm hlt
                obtain ⟨b2, o2', y, rfl, hb2, hy, _, _, hat2⟩ := ents_look (HS5.out.below HBL.out) HE.out hlt
                obtain ⟨b3, o3', i3, rfl, hb3, hi3, _, hat3⟩ := oids_look (HX5.out.below HBL.out) HE'.out hlt
                obtain rfl : y = normE x := by rw [List.getElem?_map, hx] at hy; exact (Option.some.inj hy).symm
                obtain rfl : i3 = x.2.2.1 := by rw [List.getElem?_map, hx] at hi3; exact (Option.some.inj hi3).symm
                obtain ⟨s, e, i, f'⟩ := x
                have h32 : i.length = 32 := h32
                have hne := fun w => neqId_of h32 h32 w
                simp only [beq_self_eq_true, Bool.not_true] at hne
                obtain ⟨KX, hKX⟩ : ∃ KX, KX = (bytesV i).toArray := ⟨_, rfl⟩
                have HI := Lib.hid (show (Try.prog.info? 27).map (·.size) = some KX.size by rw [hKX]; exact oid_size h32)
                rw [← hKX] at hne
                have idat : ∀ b o e f, At wr ⟨b, o, none⟩ (entK s e i f) → At wr ⟨b, o + 2, none⟩ KX := fun b o e f hat => by
                  rw [hKX]
                  intro j u hu
                  have hu : (bytesV i)[j]? = some u := by simpa using hu
                  have hj := (List.getElem?_eq_some_iff.1 hu).1
                  have := hat (2 + j) u (by
                    unfold entK
                    rw [List.getElem?_toArray, show 2 + j = j + 1 + 1 by omega, List.getElem?_cons_succ, List.getElem?_cons_succ, List.getElem?_append_left hj]
                    exact hu)
                  rw [← Nat.add_assoc] at this; exact this
                have hat : At wr ⟨b1, o1' + k * 35, none⟩ (entK s e i f') := hat
                have HAT3 := Lib.hid (show At wr ⟨b3, o3' + k * 32, none⟩ KX by rw [hKX]; exact hat3)
                have x0 : wr.cell? ⟨b1, o1' + k * 35, none⟩ = some (.string s) := by have := hat 0 _ (entK_get h32 _ _ _).1; simpa using this
                have hdr : Below wr.heap.size wr wr.drew := Same.below ⟨1, rfl⟩ _
                have HB2' := Lib.hid (HBL.out.trans (hdr.mono HBL.out.size))
                clear hx hy hi3 hf hat3
                cases e with
                | true =>
                  have hat2 : At wr ⟨b2, o2' + k * 35, none⟩ (entK s true i 0) := hat2
                  have hq : (FloatKind.f64.format.order 0 0 != some .eq) = false := by decide +kernel
                  obtain ⟨mv, hmv⟩ : ∃ mv, mv = 0 := ⟨_, rfl⟩
                  have hat2 : At wr ⟨b2, o2' + k * 35, none⟩ (entK s true i mv) := by rw [hmv]; exact hat2
                  have hq : (FloatKind.f64.format.order mv 0 != some .eq) = false := by rw [hmv]; exact hq
                  clear hmv
                  have x1 : wr.cell? ⟨b1, o1' + k * 35 + 1, none⟩ = some (.bool true) := hat 1 _ (entK_get h32 _ _ _).2.1
                  have x3 : wr.cell? ⟨b1, o1' + k * 35 + 34, none⟩ = some (.float .f64 f') := hat 34 _ (entK_get h32 _ _ _).2.2
                  have HX := Lib.hid (And.intro x0 (And.intro x1 x3))
                  have HY := Lib.hid (show wr.cell? ⟨b2, o2' + k * 35, none⟩ = some (.string s) ∧ wr.cell? ⟨b2, o2' + k * 35 + 1, none⟩ = some (.bool true) ∧ wr.cell? ⟨b2, o2' + k * 35 + 34, none⟩ = some (.float .f64 mv) from ⟨by have := hat2 0 _ (entK_get h32 _ _ _).1; simpa using this, hat2 1 _ (entK_get h32 _ _ _).2.1, hat2 34 _ (entK_get h32 _ _ _).2.2⟩)
                  have HAT := Lib.hid (idat _ _ _ _ hat)
                  have HAT2 := Lib.hid (idat _ _ _ _ hat2)
                  clear hat hat2 x0 h32 idat hKX
                  go_upto_region 21 with fail
                  as_aux_lemma =>
                    clear x1 x3
                    refine wp_region_held (S := fun w => Below wr.heap.size wr w) (by kernel_rfl) ?_
                    change wpAnyH _ _ _ _ _ _ _ _ (World.drew _)
                    refine held_take (i := 0) (v := ?_) (a' := ?_) rfl (by kernel_rfl) (by kernel_rfl) (by kernel_rfl) (fun _ _ _ h => h) (by rfl) hdr ?_ ?_ ?_
                    rotate_left 2
                    · (intro w hS; go_simp; try with_reducible rfl)
                    · (go_simp; try with_reducible rfl)
                    refine held_take (i := 1) (v := ?_) (a' := ?_) rfl (by kernel_rfl) (by kernel_rfl) (by kernel_rfl) (fun _ _ _ h => h) (by rfl) hdr ?_ ?_ ?_
                    rotate_left 2
                    · (intro w hS; go_simp; try with_reducible rfl)
                    · (go_simp; try with_reducible rfl)
                    refine held_take (i := 2) (v := ?_) (a' := ?_) rfl (by kernel_rfl) (by kernel_rfl) (by kernel_rfl) (fun _ _ _ h => h) (by rfl) hdr ?_ ?_ ?_
                    rotate_left 2
                    · (intro w hS; go_simp; try with_reducible rfl)
                    · (go_simp; try with_reducible rfl)
                    refine held_take (i := 3) (v := ?_) (a' := ?_) rfl (by kernel_rfl) (by kernel_rfl) (by kernel_rfl) (fun _ _ _ h => h) (by rfl) hdr ?_ ?_ ?_
                    rotate_left 2
                    · (intro w hS; go_simp; try with_reducible rfl)
                    · (go_simp; try with_reducible rfl)
                    refine held_take (i := 4) (v := ?_) (a' := ?_) rfl (by kernel_rfl) (by kernel_rfl) (by kernel_rfl) (fun _ _ _ h => h) (by rfl) hdr ?_ ?_ ?_
                    rotate_left 2
                    · (intro w hS; have t := (hS.cell (p := ⟨b2, o2' + k * 35, none⟩) hb2).trans HY.out.1; go_simp; try with_reducible rfl)
                    · (go_simp; try with_reducible rfl)
                    refine held_take (i := 5) (v := ?_) (a' := ?_) rfl (by kernel_rfl) (by kernel_rfl) (by kernel_rfl) (fun _ _ _ h => h) (by rfl) hdr ?_ ?_ ?_
                    rotate_left 2
                    · (intro w hS; go_simp; try with_reducible rfl)
                    · (go_simp; try with_reducible rfl)
                    refine held_take (i := 6) (v := ?_) (a' := ?_) rfl (by kernel_rfl) (by kernel_rfl) (by kernel_rfl) (fun _ _ _ h => h) (by rfl) hdr ?_ ?_ ?_
                    rotate_left 2
                    · (intro w hS; go_simp; try with_reducible rfl)
                    · (go_simp; try with_reducible rfl)
                    refine held_take (i := 7) (v := ?_) (a' := ?_) rfl (by kernel_rfl) (by kernel_rfl) (by kernel_rfl) (fun _ _ _ h => h) (by rfl) hdr ?_ ?_ ?_
                    rotate_left 2
                    · (intro w hS; go_simp; try with_reducible rfl)
                    · (go_simp; try with_reducible rfl)
                    refine held_take (i := 8) (v := ?_) (a' := ?_) rfl (by kernel_rfl) (by kernel_rfl) (by kernel_rfl) (fun _ _ _ h => h) (by rfl) hdr ?_ ?_ ?_
                    rotate_left 2
                    · (intro w hS; go_simp; try with_reducible rfl)
                    · (go_simp; try with_reducible rfl)
                    refine held_take (i := 9) (v := ?_) (a' := ?_) rfl (by kernel_rfl) (by kernel_rfl) (by kernel_rfl) (fun _ _ _ h => h) (by rfl) hdr ?_ ?_ ?_
                    rotate_left 2
                    · (intro w hS; have t := (hS.cell (p := ⟨b1, o1' + k * 35, none⟩) hb1).trans HX.out.1; go_simp; try with_reducible rfl)
                    · (go_simp; try with_reducible rfl)
                    refine held_take (i := 10) (v := ?_) (a' := ?_) rfl (by kernel_rfl) (by kernel_rfl) (by kernel_rfl) (fun _ _ _ h => h) (by rfl) hdr ?_ ?_ ?_
                    rotate_left 2
                    · (intro w hS; go_simp; try with_reducible rfl)
                    · (go_simp; try with_reducible rfl)
                    refine held_take (i := 11) (v := ?_) (a' := ?_) rfl (by kernel_rfl) (by kernel_rfl) (by kernel_rfl) (fun _ _ _ h => h) (by rfl) hdr ?_ ?_ ?_
                    rotate_left 2
                    · (intro w hS; go_simp; try with_reducible rfl)
                    · (go_simp; try with_reducible rfl)
                    refine held_take (i := 12) (v := ?_) (a' := ?_) rfl (by kernel_rfl) (by kernel_rfl) (by kernel_rfl) (fun _ _ _ h => h) (by rfl) hdr ?_ ?_ ?_
                    rotate_left 2
                    · (intro w hS; go_simp; try with_reducible rfl)
                    · (go_simp; try with_reducible rfl)
                    refine held_take (i := 13) (v := ?_) (a' := ?_) rfl (by kernel_rfl) (by kernel_rfl) (by kernel_rfl) (fun _ _ _ h => h) (by rfl) hdr ?_ ?_ ?_
                    rotate_left 2
                    · (intro w hS; go_simp; try with_reducible rfl)
                    · (go_simp; try with_reducible rfl)
                    refine held_take (i := 14) (v := ?_) (a' := ?_) rfl (by kernel_rfl) (by kernel_rfl) (by kernel_rfl) (fun _ _ _ h => h) (by rfl) hdr ?_ ?_ ?_
                    rotate_left 2
                    · (intro w hS; go_simp; try with_reducible rfl)
                    · (go_simp; try with_reducible rfl)
                    refine held_take (i := 15) (v := ?_) (a' := ?_) rfl (by kernel_rfl) (by kernel_rfl) (by kernel_rfl) (fun _ _ _ h => h) (by rfl) hdr ?_ ?_ ?_
                    rotate_left 2
                    · (intro w hS; go_simp; try with_reducible rfl)
                    · (go_simp; try with_reducible rfl)
                    refine held_take (i := 16) (v := ?_) (a' := ?_) rfl (by kernel_rfl) (by kernel_rfl) (by kernel_rfl) (fun _ _ _ h => h) (by rfl) hdr ?_ ?_ ?_
                    rotate_left 2
                    · (intro w hS; have t := (hS.cell (p := ⟨b2, o2' + k * 35 + 1, none⟩) hb2).trans HY.out.2.1; go_simp; try with_reducible rfl)
                    · (go_simp; try with_reducible rfl)
                    refine held_take (i := 17) (v := ?_) (a' := ?_) rfl (by kernel_rfl) (by kernel_rfl) (by kernel_rfl) (fun _ _ _ h => h) (by rfl) hdr ?_ ?_ ?_
                    rotate_left 2
                    · (intro w hS; go_simp; try with_reducible rfl)
                    · (go_simp; try with_reducible rfl)
                    refine held_take (i := 18) (v := ?_) (a' := ?_) rfl (by kernel_rfl) (by kernel_rfl) (by kernel_rfl) (fun _ _ _ h => h) (by rfl) hdr ?_ ?_ ?_
                    rotate_left 2
                    · (intro w hS; go_simp; try with_reducible rfl)
                    · (go_simp; try with_reducible rfl)
                    refine held_take (i := 19) (v := ?_) (a' := ?_) rfl (by kernel_rfl) (by kernel_rfl) (by kernel_rfl) (fun _ _ _ h => h) (by rfl) hdr ?_ ?_ ?_
                    rotate_left 2
                    · (intro w hS; go_simp; try with_reducible rfl)
                    · (go_simp; try with_reducible rfl)
                    refine held_take (i := 20) (v := ?_) (a' := ?_) rfl (by kernel_rfl) (by kernel_rfl) (by kernel_rfl) (fun _ _ _ h => h) (by rfl) hdr ?_ ?_ ?_
                    rotate_left 2
                    · (intro w hS; go_simp; try with_reducible rfl)
                    · (go_simp; try with_reducible rfl)
                    refine held_take (i := 21) (v := ?_) (a' := ?_) rfl (by kernel_rfl) (by kernel_rfl) (by kernel_rfl) (fun _ _ _ h => h) (by rfl) hdr ?_ ?_ ?_
                    rotate_left 2
                    · (intro w hS; have t := (hS.cell (p := ⟨b1, o1' + k * 35 + 1, none⟩) hb1).trans HX.out.2.1; go_simp; try with_reducible rfl)
                    · (go_simp; try with_reducible rfl)
                    refine held_take (i := 22) (v := ?_) (a' := ?_) rfl (by kernel_rfl) (by kernel_rfl) (by kernel_rfl) (fun _ _ _ h => h) (by rfl) hdr ?_ ?_ ?_
                    rotate_left 2
                    · (intro w hS; go_simp; try with_reducible rfl)
                    · (go_simp; try with_reducible rfl)
                    refine held_take (i := 23) (v := ?_) (a' := ?_) rfl (by kernel_rfl) (by kernel_rfl) (by kernel_rfl) (fun _ _ _ h => h) (by rfl) hdr ?_ ?_ ?_
                    rotate_left 2
                    · (intro w hS; go_simp; try with_reducible rfl)
                    · (go_simp; try with_reducible rfl)
                    refine held_take (i := 24) (v := ?_) (a' := ?_) rfl (by kernel_rfl) (by kernel_rfl) (by kernel_rfl) (fun _ _ _ h => h) (by rfl) hdr ?_ ?_ ?_
                    rotate_left 2
                    · (intro w hS; go_simp; try with_reducible rfl)
                    · (go_simp; try with_reducible rfl)
                    refine held_take (i := 25) (v := ?_) (a' := ?_) rfl (by kernel_rfl) (by kernel_rfl) (by kernel_rfl) (fun _ _ _ h => h) (by rfl) hdr ?_ ?_ ?_
                    rotate_left 2
                    · (intro w hS; go_simp; try with_reducible rfl)
                    · (go_simp; try with_reducible rfl)
                    refine held_take (i := 26) (v := ?_) (a' := ?_) rfl (by kernel_rfl) (by kernel_rfl) (by kernel_rfl) (fun _ _ _ h => h) (by rfl) hdr ?_ ?_ ?_
                    rotate_left 2
                    · (intro w hS; go_simp; try with_reducible rfl)
                    · (go_simp; try with_reducible rfl)
                    refine held_take (i := 27) (v := ?_) (a' := ?_) rfl (by kernel_rfl) (by kernel_rfl) (by kernel_rfl) (fun _ _ _ h => h) (by rfl) hdr ?_ ?_ ?_
                    rotate_left 2
                    · (intro w hS; go_simp; try with_reducible rfl)
                    · (go_simp; try with_reducible rfl)
                    refine held_take (i := 28) (v := ?_) (a' := ?_) rfl (by kernel_rfl) (by kernel_rfl) (by kernel_rfl) (fun _ _ _ h => h) (by rfl) hdr ?_ ?_ ?_
                    rotate_left 2
                    · (intro w hS; go_simp; try with_reducible rfl)
                    · (go_simp; try with_reducible rfl)
                    refine held_take (i := 29) (v := ?_) (a' := ?_) rfl (by kernel_rfl) (by kernel_rfl) (by kernel_rfl) (fun _ _ _ h => h) (by rfl) hdr ?_ ?_ ?_
                    rotate_left 2
                    · (intro w hS; refine exec_load_at 27 (.tmp 154) ?_ b2 (o2' + k * 35 + 2) ?_ KX _ (HAT2.out.below hS hb2) Try.underlying27 rfl HI.out; exact rfl; exact rfl)
                    · (go_simp; try with_reducible rfl)
                    refine held_take (i := 30) (v := ?_) (a' := ?_) rfl (by kernel_rfl) (by kernel_rfl) (by kernel_rfl) (fun _ _ _ h => h) (by rfl) hdr ?_ ?_ ?_
                    rotate_left 2
                    · (intro w hS; go_simp; try with_reducible rfl)
                    · (go_simp; try with_reducible rfl)
                    refine held_take (i := 31) (v := ?_) (a' := ?_) rfl (by kernel_rfl) (by kernel_rfl) (by kernel_rfl) (fun _ _ _ h => h) (by rfl) hdr ?_ ?_ ?_
                    rotate_left 2
                    · (intro w hS; go_simp; try with_reducible rfl)
                    · (go_simp; try with_reducible rfl)
                    refine held_take (i := 32) (v := ?_) (a' := ?_) rfl (by kernel_rfl) (by kernel_rfl) (by kernel_rfl) (fun _ _ _ h => h) (by rfl) hdr ?_ ?_ ?_
                    rotate_left 2
                    · (intro w hS; go_simp; try with_reducible rfl)
                    · (go_simp; try with_reducible rfl)
                    refine held_take (i := 33) (v := ?_) (a' := ?_) rfl (by kernel_rfl) (by kernel_rfl) (by kernel_rfl) (fun _ _ _ h => h) (by rfl) hdr ?_ ?_ ?_
                    rotate_left 2
                    · (intro w hS; go_simp; try with_reducible rfl)
                    · (go_simp; try with_reducible rfl)
                    refine held_take (i := 34) (v := ?_) (a' := ?_) rfl (by kernel_rfl) (by kernel_rfl) (by kernel_rfl) (fun _ _ _ h => h) (by rfl) hdr ?_ ?_ ?_
                    rotate_left 2
                    · (intro w hS; refine exec_load_at 27 (.tmp 159) ?_ b1 (o1' + k * 35 + 2) ?_ KX _ (HAT.out.below hS hb1) Try.underlying27 rfl HI.out; exact rfl; exact rfl)
                    · (go_simp; try with_reducible rfl)
                    refine held_take (i := 35) (v := ?_) (a' := ?_) rfl (by kernel_rfl) (by kernel_rfl) (by kernel_rfl) (fun _ _ _ h => h) (by rfl) hdr ?_ ?_ ?_
                    rotate_left 2
                    · (intro w hS; go_simp; try with_reducible rfl)
                    · (go_simp; try with_reducible rfl)
                    refine held_take (i := 36) (v := ?_) (a' := ?_) rfl (by kernel_rfl) (by kernel_rfl) (by kernel_rfl) (fun _ _ _ h => h) (by rfl) hdr ?_ ?_ ?_
                    rotate_left 2
                    · (intro w hS; go_simp; try with_reducible rfl)
                    · (go_simp; try with_reducible rfl)
                    refine held_take (i := 37) (v := ?_) (a' := ?_) rfl (by kernel_rfl) (by kernel_rfl) (by kernel_rfl) (fun _ _ _ h => h) (by rfl) hdr ?_ ?_ ?_
                    rotate_left 2
                    · (intro w hS; go_simp; try with_reducible rfl)
                    · (go_simp; try with_reducible rfl)
                    refine held_take (i := 38) (v := ?_) (a' := ?_) rfl (by kernel_rfl) (by kernel_rfl) (by kernel_rfl) (fun _ _ _ h => h) (by rfl) hdr ?_ ?_ ?_
                    rotate_left 2
                    · (intro w hS; go_simp; try with_reducible rfl)
                    · (go_simp; try with_reducible rfl)
                    refine held_take (i := 39) (v := ?_) (a' := ?_) rfl (by kernel_rfl) (by kernel_rfl) (by kernel_rfl) (fun _ _ _ h => h) (by rfl) hdr ?_ ?_ ?_
                    rotate_left 2
                    · (intro w hS; go_simp; try with_reducible rfl)
                    · (go_simp; try with_reducible rfl)
                    refine held_take (i := 40) (v := ?_) (a' := ?_) rfl (by kernel_rfl) (by kernel_rfl) (by kernel_rfl) (fun _ _ _ h => h) (by rfl) hdr ?_ ?_ ?_
                    rotate_left 2
                    · (intro w hS; go_simp; try with_reducible rfl)
                    · (go_simp; try with_reducible rfl)
                    refine held_take (i := 41) (v := ?_) (a' := ?_) rfl (by kernel_rfl) (by kernel_rfl) (by kernel_rfl) (fun _ _ _ h => h) (by rfl) hdr ?_ ?_ ?_
                    rotate_left 2
                    · (intro w hS; refine exec_load_at 27 (.tmp 166) ?_ b3 (o3' + k * 32) ?_ KX _ (HAT3.out.below hS hb3) Try.underlying27 rfl HI.out; exact rfl; exact rfl)
                    · (go_simp; try with_reducible rfl)
                    refine held_take (i := 42) (v := ?_) (a' := ?_) rfl (by kernel_rfl) (by kernel_rfl) (by kernel_rfl) (fun _ _ _ h => h) (by rfl) hdr ?_ ?_ ?_
                    rotate_left 2
                    · (intro w hS; go_simp; try with_reducible rfl)
                    · (go_simp; try with_reducible rfl)
                    refine held_take (i := 43) (v := ?_) (a' := ?_) rfl (by kernel_rfl) (by kernel_rfl) (by kernel_rfl) (fun _ _ _ h => h) (by rfl) hdr ?_ ?_ ?_
                    rotate_left 2
                    · (intro w hS; go_simp; try with_reducible rfl)
                    · (go_simp; try with_reducible rfl)
                    refine held_take (i := 44) (v := ?_) (a' := ?_) rfl (by kernel_rfl) (by kernel_rfl) (by kernel_rfl) (fun _ _ _ h => h) (by rfl) hdr ?_ ?_ ?_
                    rotate_left 2
                    · (intro w hS; go_simp; try with_reducible rfl)
                    · (go_simp; try with_reducible rfl)
                    refine held_take (i := 45) (v := ?_) (a' := ?_) rfl (by kernel_rfl) (by kernel_rfl) (by kernel_rfl) (fun _ _ _ h => h) (by rfl) hdr ?_ ?_ ?_
                    rotate_left 2
                    · (intro w hS; go_simp; try with_reducible rfl)
                    · (go_simp; try with_reducible rfl)
                    refine held_take (i := 46) (v := ?_) (a' := ?_) rfl (by kernel_rfl) (by kernel_rfl) (by kernel_rfl) (fun _ _ _ h => h) (by rfl) hdr ?_ ?_ ?_
                    rotate_left 2
                    · (intro w hS; refine exec_load_at 27 (.tmp 171) ?_ b1 (o1' + k * 35 + 2) ?_ KX _ (HAT.out.below hS hb1) Try.underlying27 rfl HI.out; exact rfl; exact rfl)
                    · (go_simp; try with_reducible rfl)
                    refine held_take (i := 47) (v := ?_) (a' := ?_) rfl (by kernel_rfl) (by kernel_rfl) (by kernel_rfl) (fun _ _ _ h => h) (by rfl) hdr ?_ ?_ ?_
                    rotate_left 2
                    · (intro w hS; go_simp; try with_reducible rfl)
                    · (go_simp; try with_reducible rfl)
                    refine held_take (i := 48) (v := ?_) (a' := ?_) rfl (by kernel_rfl) (by kernel_rfl) (by kernel_rfl) (fun _ _ _ h => h) (by rfl) hdr ?_ ?_ ?_
                    rotate_left 2
                    · (intro w hS; go_simp; try with_reducible rfl)
                    · (go_simp; try with_reducible rfl)
                    refine held_take (i := 49) (v := ?_) (a' := ?_) rfl (by kernel_rfl) (by kernel_rfl) (by kernel_rfl) (fun _ _ _ h => h) (by rfl) hdr ?_ ?_ ?_
                    rotate_left 2
                    · (intro w hS; go_simp; try with_reducible rfl)
                    · (go_simp; try with_reducible rfl)
                    refine held_take (i := 50) (v := ?_) (a' := ?_) rfl (by kernel_rfl) (by kernel_rfl) (by kernel_rfl) (fun _ _ _ h => h) (by rfl) hdr ?_ ?_ ?_
                    rotate_left 2
                    · (intro w hS; go_simp; try with_reducible rfl)
                    · (go_simp; try with_reducible rfl)
                    refine held_take (i := 51) (v := ?_) (a' := ?_) rfl (by kernel_rfl) (by kernel_rfl) (by kernel_rfl) (fun _ _ _ h => h) (by rfl) hdr ?_ ?_ ?_
                    rotate_left 2
                    · (intro w hS; go_simp; try with_reducible rfl)
                    · (go_simp; try with_reducible rfl)
                    refine held_take (i := 52) (v := ?_) (a' := ?_) rfl (by kernel_rfl) (by kernel_rfl) (by kernel_rfl) (fun _ _ _ h => h) (by rfl) hdr ?_ ?_ ?_
                    rotate_left 2
                    · (intro w hS; go_simp; try with_reducible rfl)
                    · (go_simp; try with_reducible rfl)
                    refine held_take (i := 53) (v := ?_) (a' := ?_) rfl (by kernel_rfl) (by kernel_rfl) (by kernel_rfl) (fun _ _ _ h => h) (by rfl) hdr ?_ ?_ ?_
                    rotate_left 2
                    · (intro w hS; go_simp; try with_reducible rfl)
                    · (go_simp; try with_reducible rfl)
                    refine held_take (i := 54) (v := ?_) (a' := ?_) rfl (by kernel_rfl) (by kernel_rfl) (by kernel_rfl) (fun _ _ _ h => h) (by rfl) hdr ?_ ?_ ?_
                    rotate_left 2
                    · (intro w hS; have t := (hS.cell (p := ⟨b2, o2' + k * 35 + 34, none⟩) hb2).trans HY.out.2.2; go_simp; try with_reducible rfl)
                    · (go_simp; try with_reducible rfl)
                    refine held_take (i := 55) (v := ?_) (a' := ?_) rfl (by kernel_rfl) (by kernel_rfl) (by kernel_rfl) (fun _ _ _ h => h) (by rfl) hdr ?_ ?_ ?_
                    rotate_left 2
                    · (intro w hS; go_simp; try with_reducible rfl)
                    · (go_simp; try with_reducible rfl)
                    refine held_take (i := 56) (v := ?_) (a' := ?_) rfl (by kernel_rfl) (by kernel_rfl) (by kernel_rfl) (fun _ _ _ h => h) (by rfl) hdr ?_ ?_ ?_
                    rotate_left 2
                    · (intro w hS; go_simp; try with_reducible rfl)
                    · (go_simp; try with_reducible rfl)
                    refine held_take (i := 57) (v := ?_) (a' := ?_) rfl (by kernel_rfl) (by kernel_rfl) (by kernel_rfl) (fun _ _ _ h => h) (by rfl) hdr ?_ ?_ ?_
                    rotate_left 2
                    · (intro w hS; go_simp; try with_reducible rfl)
                    · (go_simp; try with_reducible rfl)
                    refine held_no (i := 58) (a' := ?_) rfl (by kernel_rfl) (by kernel_rfl) (by kernel_rfl) (fun _ _ _ h => h) (by rfl) hdr ?_ ?_
                    rotate_left 1
                    · (go_simp; try with_reducible rfl)
                    refine held_no (i := 59) (a' := ?_) rfl (by kernel_rfl) (by kernel_rfl) (by kernel_rfl) (fun _ _ _ h => h) (by rfl) hdr ?_ ?_
                    rotate_left 1
                    · (go_simp; try with_reducible rfl)
                    refine held_no (i := 60) (a' := ?_) rfl (by kernel_rfl) (by kernel_rfl) (by kernel_rfl) (fun _ _ _ h => h) (by rfl) hdr ?_ ?_
                    rotate_left 1
                    · (go_simp; try with_reducible rfl)
                    refine held_take (i := 61) (v := ?_) (a' := ?_) rfl (by kernel_rfl) (by kernel_rfl) (by kernel_rfl) (fun _ _ _ h => h) (by rfl) hdr ?_ ?_ ?_
                    rotate_left 2
                    · (intro w hS; go_simp; try with_reducible rfl)
                    · (go_simp; try with_reducible rfl)
                    refine held_take (i := 62) (v := ?_) (a' := ?_) rfl (by kernel_rfl) (by kernel_rfl) (by kernel_rfl) (fun _ _ _ h => h) (by rfl) hdr ?_ ?_ ?_
                    rotate_left 2
                    · (intro w hS; go_simp; try with_reducible rfl)
                    · (go_simp; try with_reducible rfl)
                    refine wpAnyH_done (by kernel_rfl) ?_ _
                    clear hne
                    go_wp2_with fail
                    go_roundw
                    case rel => exact ⟨k + 1, by omega, by go_num, HB2'⟩
                    case measure => simp [intOf]; omega
                | false =>
                  have hat2 : At wr ⟨b2, o2' + k * 35, none⟩ (entK s false i (canonB f')) := hat2
                  obtain ⟨mv, hmv⟩ : ∃ mv, mv = canonB f' := ⟨_, rfl⟩
                  rw [← hmv] at hat2
                  have hqq : (FloatKind.f64.format.order mv f' != some .eq) = false ∨ ((FloatKind.f64.format.order mv f' != some .eq) = true ∧ (FloatKind.f64.format.order f' f' == some .eq) = false) := by
                    by_cases hn : isNan f' = true
                    · have hn' : (FloatKind.f64.format.order f' f' != some .eq) = true := hn
                      cases hQ : (FloatKind.f64.format.order mv f' != some .eq) with
                      | false => exact .inl rfl
                      | true => exact .inr ⟨rfl, by simpa [bne] using hn'⟩
                    · have hc : canonB f' = f' := by simp [canonB, hn]
                      rw [hmv, hc]
                      exact .inl (by simpa [isNan] using hn)
                  clear hmv
                  rcases hqq with hq | ⟨hq, hq2⟩
                  · skip
                    have x1 : wr.cell? ⟨b1, o1' + k * 35 + 1, none⟩ = some (.bool false) := hat 1 _ (entK_get h32 _ _ _).2.1
                    have x3 : wr.cell? ⟨b1, o1' + k * 35 + 34, none⟩ = some (.float .f64 f') := hat 34 _ (entK_get h32 _ _ _).2.2
                    have HX := Lib.hid (And.intro x0 (And.intro x1 x3))
                    have HY := Lib.hid (show wr.cell? ⟨b2, o2' + k * 35, none⟩ = some (.string s) ∧ wr.cell? ⟨b2, o2' + k * 35 + 1, none⟩ = some (.bool false) ∧ wr.cell? ⟨b2, o2' + k * 35 + 34, none⟩ = some (.float .f64 mv) from ⟨by have := hat2 0 _ (entK_get h32 _ _ _).1; simpa using this, hat2 1 _ (entK_get h32 _ _ _).2.1, hat2 34 _ (entK_get h32 _ _ _).2.2⟩)
                    have HAT := Lib.hid (idat _ _ _ _ hat)
                    have HAT2 := Lib.hid (idat _ _ _ _ hat2)
                    clear hat hat2 x0 h32 idat hKX
                    go_upto_region 21 with fail
                    as_aux_lemma =>
                      clear x1 x3
                      refine wp_region_held (S := fun w => Below wr.heap.size wr w) (by kernel_rfl) ?_
                      change wpAnyH _ _ _ _ _ _ _ _ (World.drew _)
                      refine held_take (i := 0) (v := ?_) (a' := ?_) rfl (by kernel_rfl) (by kernel_rfl) (by kernel_rfl) (fun _ _ _ h => h) (by rfl) hdr ?_ ?_ ?_
                      rotate_left 2
                      · (intro w hS; go_simp; try with_reducible rfl)
                      · (go_simp; try with_reducible rfl)
                      refine held_take (i := 1) (v := ?_) (a' := ?_) rfl (by kernel_rfl) (by kernel_rfl) (by kernel_rfl) (fun _ _ _ h => h) (by rfl) hdr ?_ ?_ ?_
                      rotate_left 2
                      · (intro w hS; go_simp; try with_reducible rfl)
                      · (go_simp; try with_reducible rfl)
                      refine held_take (i := 2) (v := ?_) (a' := ?_) rfl (by kernel_rfl) (by kernel_rfl) (by kernel_rfl) (fun _ _ _ h => h) (by rfl) hdr ?_ ?_ ?_
                      rotate_left 2
                      · (intro w hS; go_simp; try with_reducible rfl)
                      · (go_simp; try with_reducible rfl)
                      refine held_take (i := 3) (v := ?_) (a' := ?_) rfl (by kernel_rfl) (by kernel_rfl) (by kernel_rfl) (fun _ _ _ h => h) (by rfl) hdr ?_ ?_ ?_
                      rotate_left 2
                      · (intro w hS; go_simp; try with_reducible rfl)
                      · (go_simp; try with_reducible rfl)
                      refine held_take (i := 4) (v := ?_) (a' := ?_) rfl (by kernel_rfl) (by kernel_rfl) (by kernel_rfl) (fun _ _ _ h => h) (by rfl) hdr ?_ ?_ ?_
                      rotate_left 2
                      · (intro w hS; have t := (hS.cell (p := ⟨b2, o2' + k * 35, none⟩) hb2).trans HY.out.1; go_simp; try with_reducible rfl)
                      · (go_simp; try with_reducible rfl)
                      refine held_take (i := 5) (v := ?_) (a' := ?_) rfl (by kernel_rfl) (by kernel_rfl) (by kernel_rfl) (fun _ _ _ h => h) (by rfl) hdr ?_ ?_ ?_
                      rotate_left 2
                      · (intro w hS; go_simp; try with_reducible rfl)
                      · (go_simp; try with_reducible rfl)
                      refine held_take (i := 6) (v := ?_) (a' := ?_) rfl (by kernel_rfl) (by kernel_rfl) (by kernel_rfl) (fun _ _ _ h => h) (by rfl) hdr ?_ ?_ ?_
                      rotate_left 2
                      · (intro w hS; go_simp; try with_reducible rfl)
                      · (go_simp; try with_reducible rfl)
                      refine held_take (i := 7) (v := ?_) (a' := ?_) rfl (by kernel_rfl) (by kernel_rfl) (by kernel_rfl) (fun _ _ _ h => h) (by rfl) hdr ?_ ?_ ?_
                      rotate_left 2
                      · (intro w hS; go_simp; try with_reducible rfl)
                      · (go_simp; try with_reducible rfl)
                      refine held_take (i := 8) (v := ?_) (a' := ?_) rfl (by kernel_rfl) (by kernel_rfl) (by kernel_rfl) (fun _ _ _ h => h) (by rfl) hdr ?_ ?_ ?_
                      rotate_left 2
                      · (intro w hS; go_simp; try with_reducible rfl)
                      · (go_simp; try with_reducible rfl)
                      refine held_take (i := 9) (v := ?_) (a' := ?_) rfl (by kernel_rfl) (by kernel_rfl) (by kernel_rfl) (fun _ _ _ h => h) (by rfl) hdr ?_ ?_ ?_
                      rotate_left 2
                      · (intro w hS; have t := (hS.cell (p := ⟨b1, o1' + k * 35, none⟩) hb1).trans HX.out.1; go_simp; try with_reducible rfl)
                      · (go_simp; try with_reducible rfl)
                      refine held_take (i := 10) (v := ?_) (a' := ?_) rfl (by kernel_rfl) (by kernel_rfl) (by kernel_rfl) (fun _ _ _ h => h) (by rfl) hdr ?_ ?_ ?_
                      rotate_left 2
                      · (intro w hS; go_simp; try with_reducible rfl)
                      · (go_simp; try with_reducible rfl)
                      refine held_take (i := 11) (v := ?_) (a' := ?_) rfl (by kernel_rfl) (by kernel_rfl) (by kernel_rfl) (fun _ _ _ h => h) (by rfl) hdr ?_ ?_ ?_
                      rotate_left 2
                      · (intro w hS; go_simp; try with_reducible rfl)
                      · (go_simp; try with_reducible rfl)
                      refine held_take (i := 12) (v := ?_) (a' := ?_) rfl (by kernel_rfl) (by kernel_rfl) (by kernel_rfl) (fun _ _ _ h => h) (by rfl) hdr ?_ ?_ ?_
                      rotate_left 2
                      · (intro w hS; go_simp; try with_reducible rfl)
                      · (go_simp; try with_reducible rfl)
                      refine held_take (i := 13) (v := ?_) (a' := ?_) rfl (by kernel_rfl) (by kernel_rfl) (by kernel_rfl) (fun _ _ _ h => h) (by rfl) hdr ?_ ?_ ?_
                      rotate_left 2
                      · (intro w hS; go_simp; try with_reducible rfl)
                      · (go_simp; try with_reducible rfl)
                      refine held_take (i := 14) (v := ?_) (a' := ?_) rfl (by kernel_rfl) (by kernel_rfl) (by kernel_rfl) (fun _ _ _ h => h) (by rfl) hdr ?_ ?_ ?_
                      rotate_left 2
                      · (intro w hS; go_simp; try with_reducible rfl)
                      · (go_simp; try with_reducible rfl)
                      refine held_take (i := 15) (v := ?_) (a' := ?_) rfl (by kernel_rfl) (by kernel_rfl) (by kernel_rfl) (fun _ _ _ h => h) (by rfl) hdr ?_ ?_ ?_
                      rotate_left 2
                      · (intro w hS; go_simp; try with_reducible rfl)
                      · (go_simp; try with_reducible rfl)
                      refine held_take (i := 16) (v := ?_) (a' := ?_) rfl (by kernel_rfl) (by kernel_rfl) (by kernel_rfl) (fun _ _ _ h => h) (by rfl) hdr ?_ ?_ ?_
                      rotate_left 2
                      · (intro w hS; have t := (hS.cell (p := ⟨b2, o2' + k * 35 + 1, none⟩) hb2).trans HY.out.2.1; go_simp; try with_reducible rfl)
                      · (go_simp; try with_reducible rfl)
                      refine held_take (i := 17) (v := ?_) (a' := ?_) rfl (by kernel_rfl) (by kernel_rfl) (by kernel_rfl) (fun _ _ _ h => h) (by rfl) hdr ?_ ?_ ?_
                      rotate_left 2
                      · (intro w hS; go_simp; try with_reducible rfl)
                      · (go_simp; try with_reducible rfl)
                      refine held_take (i := 18) (v := ?_) (a' := ?_) rfl (by kernel_rfl) (by kernel_rfl) (by kernel_rfl) (fun _ _ _ h => h) (by rfl) hdr ?_ ?_ ?_
                      rotate_left 2
                      · (intro w hS; go_simp; try with_reducible rfl)
                      · (go_simp; try with_reducible rfl)
                      refine held_take (i := 19) (v := ?_) (a' := ?_) rfl (by kernel_rfl) (by kernel_rfl) (by kernel_rfl) (fun _ _ _ h => h) (by rfl) hdr ?_ ?_ ?_
                      rotate_left 2
                      · (intro w hS; go_simp; try with_reducible rfl)
                      · (go_simp; try with_reducible rfl)
                      refine held_take (i := 20) (v := ?_) (a' := ?_) rfl (by kernel_rfl) (by kernel_rfl) (by kernel_rfl) (fun _ _ _ h => h) (by rfl) hdr ?_ ?_ ?_
                      rotate_left 2
                      · (intro w hS; go_simp; try with_reducible rfl)
                      · (go_simp; try with_reducible rfl)
                      refine held_take (i := 21) (v := ?_) (a' := ?_) rfl (by kernel_rfl) (by kernel_rfl) (by kernel_rfl) (fun _ _ _ h => h) (by rfl) hdr ?_ ?_ ?_
                      rotate_left 2
                      · (intro w hS; have t := (hS.cell (p := ⟨b1, o1' + k * 35 + 1, none⟩) hb1).trans HX.out.2.1; go_simp; try with_reducible rfl)
                      · (go_simp; try with_reducible rfl)
                      refine held_take (i := 22) (v := ?_) (a' := ?_) rfl (by kernel_rfl) (by kernel_rfl) (by kernel_rfl) (fun _ _ _ h => h) (by rfl) hdr ?_ ?_ ?_
                      rotate_left 2
                      · (intro w hS; go_simp; try with_reducible rfl)
                      · (go_simp; try with_reducible rfl)
                      refine held_take (i := 23) (v := ?_) (a' := ?_) rfl (by kernel_rfl) (by kernel_rfl) (by kernel_rfl) (fun _ _ _ h => h) (by rfl) hdr ?_ ?_ ?_
                      rotate_left 2
                      · (intro w hS; go_simp; try with_reducible rfl)
                      · (go_simp; try with_reducible rfl)
                      refine held_take (i := 24) (v := ?_) (a' := ?_) rfl (by kernel_rfl) (by kernel_rfl) (by kernel_rfl) (fun _ _ _ h => h) (by rfl) hdr ?_ ?_ ?_
                      rotate_left 2
                      · (intro w hS; go_simp; try with_reducible rfl)
                      · (go_simp; try with_reducible rfl)
                      refine held_take (i := 25) (v := ?_) (a' := ?_) rfl (by kernel_rfl) (by kernel_rfl) (by kernel_rfl) (fun _ _ _ h => h) (by rfl) hdr ?_ ?_ ?_
                      rotate_left 2
                      · (intro w hS; go_simp; try with_reducible rfl)
                      · (go_simp; try with_reducible rfl)
                      refine held_take (i := 26) (v := ?_) (a' := ?_) rfl (by kernel_rfl) (by kernel_rfl) (by kernel_rfl) (fun _ _ _ h => h) (by rfl) hdr ?_ ?_ ?_
                      rotate_left 2
                      · (intro w hS; go_simp; try with_reducible rfl)
                      · (go_simp; try with_reducible rfl)
                      refine held_take (i := 27) (v := ?_) (a' := ?_) rfl (by kernel_rfl) (by kernel_rfl) (by kernel_rfl) (fun _ _ _ h => h) (by rfl) hdr ?_ ?_ ?_
                      rotate_left 2
                      · (intro w hS; go_simp; try with_reducible rfl)
                      · (go_simp; try with_reducible rfl)
                      refine held_take (i := 28) (v := ?_) (a' := ?_) rfl (by kernel_rfl) (by kernel_rfl) (by kernel_rfl) (fun _ _ _ h => h) (by rfl) hdr ?_ ?_ ?_
                      rotate_left 2
                      · (intro w hS; go_simp; try with_reducible rfl)
                      · (go_simp; try with_reducible rfl)
                      refine held_take (i := 29) (v := ?_) (a' := ?_) rfl (by kernel_rfl) (by kernel_rfl) (by kernel_rfl) (fun _ _ _ h => h) (by rfl) hdr ?_ ?_ ?_
                      rotate_left 2
                      · (intro w hS; refine exec_load_at 27 (.tmp 154) ?_ b2 (o2' + k * 35 + 2) ?_ KX _ (HAT2.out.below hS hb2) Try.underlying27 rfl HI.out; exact rfl; exact rfl)
                      · (go_simp; try with_reducible rfl)
                      refine held_take (i := 30) (v := ?_) (a' := ?_) rfl (by kernel_rfl) (by kernel_rfl) (by kernel_rfl) (fun _ _ _ h => h) (by rfl) hdr ?_ ?_ ?_
                      rotate_left 2
                      · (intro w hS; go_simp; try with_reducible rfl)
                      · (go_simp; try with_reducible rfl)
                      refine held_take (i := 31) (v := ?_) (a' := ?_) rfl (by kernel_rfl) (by kernel_rfl) (by kernel_rfl) (fun _ _ _ h => h) (by rfl) hdr ?_ ?_ ?_
                      rotate_left 2
                      · (intro w hS; go_simp; try with_reducible rfl)
                      · (go_simp; try with_reducible rfl)
                      refine held_take (i := 32) (v := ?_) (a' := ?_) rfl (by kernel_rfl) (by kernel_rfl) (by kernel_rfl) (fun _ _ _ h => h) (by rfl) hdr ?_ ?_ ?_
                      rotate_left 2
                      · (intro w hS; go_simp; try with_reducible rfl)
                      · (go_simp; try with_reducible rfl)
                      refine held_take (i := 33) (v := ?_) (a' := ?_) rfl (by kernel_rfl) (by kernel_rfl) (by kernel_rfl) (fun _ _ _ h => h) (by rfl) hdr ?_ ?_ ?_
                      rotate_left 2
                      · (intro w hS; go_simp; try with_reducible rfl)
                      · (go_simp; try with_reducible rfl)
                      refine held_take (i := 34) (v := ?_) (a' := ?_) rfl (by kernel_rfl) (by kernel_rfl) (by kernel_rfl) (fun _ _ _ h => h) (by rfl) hdr ?_ ?_ ?_
                      rotate_left 2
                      · (intro w hS; refine exec_load_at 27 (.tmp 159) ?_ b1 (o1' + k * 35 + 2) ?_ KX _ (HAT.out.below hS hb1) Try.underlying27 rfl HI.out; exact rfl; exact rfl)
                      · (go_simp; try with_reducible rfl)
                      refine held_take (i := 35) (v := ?_) (a' := ?_) rfl (by kernel_rfl) (by kernel_rfl) (by kernel_rfl) (fun _ _ _ h => h) (by rfl) hdr ?_ ?_ ?_
                      rotate_left 2
                      · (intro w hS; go_simp; try with_reducible rfl)
                      · (go_simp; try with_reducible rfl)
                      refine held_take (i := 36) (v := ?_) (a' := ?_) rfl (by kernel_rfl) (by kernel_rfl) (by kernel_rfl) (fun _ _ _ h => h) (by rfl) hdr ?_ ?_ ?_
                      rotate_left 2
                      · (intro w hS; go_simp; try with_reducible rfl)
                      · (go_simp; try with_reducible rfl)
                      refine held_take (i := 37) (v := ?_) (a' := ?_) rfl (by kernel_rfl) (by kernel_rfl) (by kernel_rfl) (fun _ _ _ h => h) (by rfl) hdr ?_ ?_ ?_
                      rotate_left 2
                      · (intro w hS; go_simp; try with_reducible rfl)
                      · (go_simp; try with_reducible rfl)
                      refine held_take (i := 38) (v := ?_) (a' := ?_) rfl (by kernel_rfl) (by kernel_rfl) (by kernel_rfl) (fun _ _ _ h => h) (by rfl) hdr ?_ ?_ ?_
                      rotate_left 2
                      · (intro w hS; go_simp; try with_reducible rfl)
                      · (go_simp; try with_reducible rfl)
                      refine held_take (i := 39) (v := ?_) (a' := ?_) rfl (by kernel_rfl) (by kernel_rfl) (by kernel_rfl) (fun _ _ _ h => h) (by rfl) hdr ?_ ?_ ?_
                      rotate_left 2
                      · (intro w hS; go_simp; try with_reducible rfl)
                      · (go_simp; try with_reducible rfl)
                      refine held_take (i := 40) (v := ?_) (a' := ?_) rfl (by kernel_rfl) (by kernel_rfl) (by kernel_rfl) (fun _ _ _ h => h) (by rfl) hdr ?_ ?_ ?_
                      rotate_left 2
                      · (intro w hS; go_simp; try with_reducible rfl)
                      · (go_simp; try with_reducible rfl)
                      refine held_take (i := 41) (v := ?_) (a' := ?_) rfl (by kernel_rfl) (by kernel_rfl) (by kernel_rfl) (fun _ _ _ h => h) (by rfl) hdr ?_ ?_ ?_
                      rotate_left 2
                      · (intro w hS; refine exec_load_at 27 (.tmp 166) ?_ b3 (o3' + k * 32) ?_ KX _ (HAT3.out.below hS hb3) Try.underlying27 rfl HI.out; exact rfl; exact rfl)
                      · (go_simp; try with_reducible rfl)
                      refine held_take (i := 42) (v := ?_) (a' := ?_) rfl (by kernel_rfl) (by kernel_rfl) (by kernel_rfl) (fun _ _ _ h => h) (by rfl) hdr ?_ ?_ ?_
                      rotate_left 2
                      · (intro w hS; go_simp; try with_reducible rfl)
                      · (go_simp; try with_reducible rfl)
                      refine held_take (i := 43) (v := ?_) (a' := ?_) rfl (by kernel_rfl) (by kernel_rfl) (by kernel_rfl) (fun _ _ _ h => h) (by rfl) hdr ?_ ?_ ?_
                      rotate_left 2
                      · (intro w hS; go_simp; try with_reducible rfl)
                      · (go_simp; try with_reducible rfl)
                      refine held_take (i := 44) (v := ?_) (a' := ?_) rfl (by kernel_rfl) (by kernel_rfl) (by kernel_rfl) (fun _ _ _ h => h) (by rfl) hdr ?_ ?_ ?_
                      rotate_left 2
                      · (intro w hS; go_simp; try with_reducible rfl)
                      · (go_simp; try with_reducible rfl)
                      refine held_take (i := 45) (v := ?_) (a' := ?_) rfl (by kernel_rfl) (by kernel_rfl) (by kernel_rfl) (fun _ _ _ h => h) (by rfl) hdr ?_ ?_ ?_
                      rotate_left 2
                      · (intro w hS; go_simp; try with_reducible rfl)
                      · (go_simp; try with_reducible rfl)
                      refine held_take (i := 46) (v := ?_) (a' := ?_) rfl (by kernel_rfl) (by kernel_rfl) (by kernel_rfl) (fun _ _ _ h => h) (by rfl) hdr ?_ ?_ ?_
                      rotate_left 2
                      · (intro w hS; refine exec_load_at 27 (.tmp 171) ?_ b1 (o1' + k * 35 + 2) ?_ KX _ (HAT.out.below hS hb1) Try.underlying27 rfl HI.out; exact rfl; exact rfl)
                      · (go_simp; try with_reducible rfl)
                      refine held_take (i := 47) (v := ?_) (a' := ?_) rfl (by kernel_rfl) (by kernel_rfl) (by kernel_rfl) (fun _ _ _ h => h) (by rfl) hdr ?_ ?_ ?_
                      rotate_left 2
                      · (intro w hS; go_simp; try with_reducible rfl)
                      · (go_simp; try with_reducible rfl)
                      refine held_take (i := 48) (v := ?_) (a' := ?_) rfl (by kernel_rfl) (by kernel_rfl) (by kernel_rfl) (fun _ _ _ h => h) (by rfl) hdr ?_ ?_ ?_
                      rotate_left 2
                      · (intro w hS; go_simp; try with_reducible rfl)
                      · (go_simp; try with_reducible rfl)
                      refine held_take (i := 49) (v := ?_) (a' := ?_) rfl (by kernel_rfl) (by kernel_rfl) (by kernel_rfl) (fun _ _ _ h => h) (by rfl) hdr ?_ ?_ ?_
                      rotate_left 2
                      · (intro w hS; go_simp; try with_reducible rfl)
                      · (go_simp; try with_reducible rfl)
                      refine held_take (i := 50) (v := ?_) (a' := ?_) rfl (by kernel_rfl) (by kernel_rfl) (by kernel_rfl) (fun _ _ _ h => h) (by rfl) hdr ?_ ?_ ?_
                      rotate_left 2
                      · (intro w hS; go_simp; try with_reducible rfl)
                      · (go_simp; try with_reducible rfl)
                      refine held_take (i := 51) (v := ?_) (a' := ?_) rfl (by kernel_rfl) (by kernel_rfl) (by kernel_rfl) (fun _ _ _ h => h) (by rfl) hdr ?_ ?_ ?_
                      rotate_left 2
                      · (intro w hS; go_simp; try with_reducible rfl)
                      · (go_simp; try with_reducible rfl)
                      refine held_take (i := 52) (v := ?_) (a' := ?_) rfl (by kernel_rfl) (by kernel_rfl) (by kernel_rfl) (fun _ _ _ h => h) (by rfl) hdr ?_ ?_ ?_
                      rotate_left 2
                      · (intro w hS; go_simp; try with_reducible rfl)
                      · (go_simp; try with_reducible rfl)
                      refine held_take (i := 53) (v := ?_) (a' := ?_) rfl (by kernel_rfl) (by kernel_rfl) (by kernel_rfl) (fun _ _ _ h => h) (by rfl) hdr ?_ ?_ ?_
                      rotate_left 2
                      · (intro w hS; go_simp; try with_reducible rfl)
                      · (go_simp; try with_reducible rfl)
                      refine held_take (i := 54) (v := ?_) (a' := ?_) rfl (by kernel_rfl) (by kernel_rfl) (by kernel_rfl) (fun _ _ _ h => h) (by rfl) hdr ?_ ?_ ?_
                      rotate_left 2
                      · (intro w hS; have t := (hS.cell (p := ⟨b2, o2' + k * 35 + 34, none⟩) hb2).trans HY.out.2.2; go_simp; try with_reducible rfl)
                      · (go_simp; try with_reducible rfl)
                      refine held_take (i := 55) (v := ?_) (a' := ?_) rfl (by kernel_rfl) (by kernel_rfl) (by kernel_rfl) (fun _ _ _ h => h) (by rfl) hdr ?_ ?_ ?_
                      rotate_left 2
                      · (intro w hS; go_simp; try with_reducible rfl)
                      · (go_simp; try with_reducible rfl)
                      refine held_take (i := 56) (v := ?_) (a' := ?_) rfl (by kernel_rfl) (by kernel_rfl) (by kernel_rfl) (fun _ _ _ h => h) (by rfl) hdr ?_ ?_ ?_
                      rotate_left 2
                      · (intro w hS; go_simp; try with_reducible rfl)
                      · (go_simp; try with_reducible rfl)
                      refine held_take (i := 57) (v := ?_) (a' := ?_) rfl (by kernel_rfl) (by kernel_rfl) (by kernel_rfl) (fun _ _ _ h => h) (by rfl) hdr ?_ ?_ ?_
                      rotate_left 2
                      · (intro w hS; go_simp; try with_reducible rfl)
                      · (go_simp; try with_reducible rfl)
                      refine held_no (i := 58) (a' := ?_) rfl (by kernel_rfl) (by kernel_rfl) (by kernel_rfl) (fun _ _ _ h => h) (by rfl) hdr ?_ ?_
                      rotate_left 1
                      · (go_simp; try with_reducible rfl)
                      refine held_no (i := 59) (a' := ?_) rfl (by kernel_rfl) (by kernel_rfl) (by kernel_rfl) (fun _ _ _ h => h) (by rfl) hdr ?_ ?_
                      rotate_left 1
                      · (go_simp; try with_reducible rfl)
                      refine held_no (i := 60) (a' := ?_) rfl (by kernel_rfl) (by kernel_rfl) (by kernel_rfl) (fun _ _ _ h => h) (by rfl) hdr ?_ ?_
                      rotate_left 1
                      · (go_simp; try with_reducible rfl)
                      refine held_take (i := 61) (v := ?_) (a' := ?_) rfl (by kernel_rfl) (by kernel_rfl) (by kernel_rfl) (fun _ _ _ h => h) (by rfl) hdr ?_ ?_ ?_
                      rotate_left 2
                      · (intro w hS; go_simp; try with_reducible rfl)
                      · (go_simp; try with_reducible rfl)
                      refine held_take (i := 62) (v := ?_) (a' := ?_) rfl (by kernel_rfl) (by kernel_rfl) (by kernel_rfl) (fun _ _ _ h => h) (by rfl) hdr ?_ ?_ ?_
                      rotate_left 2
                      · (intro w hS; go_simp; try with_reducible rfl)
                      · (go_simp; try with_reducible rfl)
                      refine wpAnyH_done (by kernel_rfl) ?_ _
                      clear hne
                      go_wp2_with fail
                      go_roundw
                      case rel => exact ⟨k + 1, by omega, by go_num, HB2'⟩
                      case measure => simp [intOf]; omega
                  · skip
                    have x1 : wr.cell? ⟨b1, o1' + k * 35 + 1, none⟩ = some (.bool false) := hat 1 _ (entK_get h32 _ _ _).2.1
                    have x3 : wr.cell? ⟨b1, o1' + k * 35 + 34, none⟩ = some (.float .f64 f') := hat 34 _ (entK_get h32 _ _ _).2.2
                    have HX := Lib.hid (And.intro x0 (And.intro x1 x3))
                    have HY := Lib.hid (show wr.cell? ⟨b2, o2' + k * 35, none⟩ = some (.string s) ∧ wr.cell? ⟨b2, o2' + k * 35 + 1, none⟩ = some (.bool false) ∧ wr.cell? ⟨b2, o2' + k * 35 + 34, none⟩ = some (.float .f64 mv) from ⟨by have := hat2 0 _ (entK_get h32 _ _ _).1; simpa using this, hat2 1 _ (entK_get h32 _ _ _).2.1, hat2 34 _ (entK_get h32 _ _ _).2.2⟩)
                    have HAT := Lib.hid (idat _ _ _ _ hat)
                    have HAT2 := Lib.hid (idat _ _ _ _ hat2)
                    clear hat hat2 x0 h32 idat hKX
                    go_upto_region 21 with fail
                    as_aux_lemma =>
                      clear x1 x3
                      refine wp_region_held (S := fun w => Below wr.heap.size wr w) (by kernel_rfl) ?_
                      change wpAnyH _ _ _ _ _ _ _ _ (World.drew _)
                      refine held_take (i := 0) (v := ?_) (a' := ?_) rfl (by kernel_rfl) (by kernel_rfl) (by kernel_rfl) (fun _ _ _ h => h) (by rfl) hdr ?_ ?_ ?_
                      rotate_left 2
                      · (intro w hS; go_simp; try with_reducible rfl)
                      · (go_simp; try with_reducible rfl)
                      refine held_take (i := 1) (v := ?_) (a' := ?_) rfl (by kernel_rfl) (by kernel_rfl) (by kernel_rfl) (fun _ _ _ h => h) (by rfl) hdr ?_ ?_ ?_
                      rotate_left 2
                      · (intro w hS; go_simp; try with_reducible rfl)
                      · (go_simp; try with_reducible rfl)
                      refine held_take (i := 2) (v := ?_) (a' := ?_) rfl (by kernel_rfl) (by kernel_rfl) (by kernel_rfl) (fun _ _ _ h => h) (by rfl) hdr ?_ ?_ ?_
                      rotate_left 2
                      · (intro w hS; go_simp; try with_reducible rfl)
                      · (go_simp; try with_reducible rfl)
                      refine held_take (i := 3) (v := ?_) (a' := ?_) rfl (by kernel_rfl) (by kernel_rfl) (by kernel_rfl) (fun _ _ _ h => h) (by rfl) hdr ?_ ?_ ?_
                      rotate_left 2
                      · (intro w hS; go_simp; try with_reducible rfl)
                      · (go_simp; try with_reducible rfl)
                      refine held_take (i := 4) (v := ?_) (a' := ?_) rfl (by kernel_rfl) (by kernel_rfl) (by kernel_rfl) (fun _ _ _ h => h) (by rfl) hdr ?_ ?_ ?_
                      rotate_left 2
                      · (intro w hS; have t := (hS.cell (p := ⟨b2, o2' + k * 35, none⟩) hb2).trans HY.out.1; go_simp; try with_reducible rfl)
                      · (go_simp; try with_reducible rfl)
                      refine held_take (i := 5) (v := ?_) (a' := ?_) rfl (by kernel_rfl) (by kernel_rfl) (by kernel_rfl) (fun _ _ _ h => h) (by rfl) hdr ?_ ?_ ?_
                      rotate_left 2
                      · (intro w hS; go_simp; try with_reducible rfl)
                      · (go_simp; try with_reducible rfl)
                      refine held_take (i := 6) (v := ?_) (a' := ?_) rfl (by kernel_rfl) (by kernel_rfl) (by kernel_rfl) (fun _ _ _ h => h) (by rfl) hdr ?_ ?_ ?_
                      rotate_left 2
                      · (intro w hS; go_simp; try with_reducible rfl)
                      · (go_simp; try with_reducible rfl)
                      refine held_take (i := 7) (v := ?_) (a' := ?_) rfl (by kernel_rfl) (by kernel_rfl) (by kernel_rfl) (fun _ _ _ h => h) (by rfl) hdr ?_ ?_ ?_
                      rotate_left 2
                      · (intro w hS; go_simp; try with_reducible rfl)
                      · (go_simp; try with_reducible rfl)
                      refine held_take (i := 8) (v := ?_) (a' := ?_) rfl (by kernel_rfl) (by kernel_rfl) (by kernel_rfl) (fun _ _ _ h => h) (by rfl) hdr ?_ ?_ ?_
                      rotate_left 2
                      · (intro w hS; go_simp; try with_reducible rfl)
                      · (go_simp; try with_reducible rfl)
                      refine held_take (i := 9) (v := ?_) (a' := ?_) rfl (by kernel_rfl) (by kernel_rfl) (by kernel_rfl) (fun _ _ _ h => h) (by rfl) hdr ?_ ?_ ?_
                      rotate_left 2
                      · (intro w hS; have t := (hS.cell (p := ⟨b1, o1' + k * 35, none⟩) hb1).trans HX.out.1; go_simp; try with_reducible rfl)
                      · (go_simp; try with_reducible rfl)
                      refine held_take (i := 10) (v := ?_) (a' := ?_) rfl (by kernel_rfl) (by kernel_rfl) (by kernel_rfl) (fun _ _ _ h => h) (by rfl) hdr ?_ ?_ ?_
                      rotate_left 2
                      · (intro w hS; go_simp; try with_reducible rfl)
                      · (go_simp; try with_reducible rfl)
                      refine held_take (i := 11) (v := ?_) (a' := ?_) rfl (by kernel_rfl) (by kernel_rfl) (by kernel_rfl) (fun _ _ _ h => h) (by rfl) hdr ?_ ?_ ?_
                      rotate_left 2
                      · (intro w hS; go_simp; try with_reducible rfl)
                      · (go_simp; try with_reducible rfl)
                      refine held_take (i := 12) (v := ?_) (a' := ?_) rfl (by kernel_rfl) (by kernel_rfl) (by kernel_rfl) (fun _ _ _ h => h) (by rfl) hdr ?_ ?_ ?_
                      rotate_left 2
                      · (intro w hS; go_simp; try with_reducible rfl)
                      · (go_simp; try with_reducible rfl)
                      refine held_take (i := 13) (v := ?_) (a' := ?_) rfl (by kernel_rfl) (by kernel_rfl) (by kernel_rfl) (fun _ _ _ h => h) (by rfl) hdr ?_ ?_ ?_
                      rotate_left 2
                      · (intro w hS; go_simp; try with_reducible rfl)
                      · (go_simp; try with_reducible rfl)
                      refine held_take (i := 14) (v := ?_) (a' := ?_) rfl (by kernel_rfl) (by kernel_rfl) (by kernel_rfl) (fun _ _ _ h => h) (by rfl) hdr ?_ ?_ ?_
                      rotate_left 2
                      · (intro w hS; go_simp; try with_reducible rfl)
                      · (go_simp; try with_reducible rfl)
                      refine held_take (i := 15) (v := ?_) (a' := ?_) rfl (by kernel_rfl) (by kernel_rfl) (by kernel_rfl) (fun _ _ _ h => h) (by rfl) hdr ?_ ?_ ?_
                      rotate_left 2
                      · (intro w hS; go_simp; try with_reducible rfl)
                      · (go_simp; try with_reducible rfl)
                      refine held_take (i := 16) (v := ?_) (a' := ?_) rfl (by kernel_rfl) (by kernel_rfl) (by kernel_rfl) (fun _ _ _ h => h) (by rfl) hdr ?_ ?_ ?_
                      rotate_left 2
                      · (intro w hS; have t := (hS.cell (p := ⟨b2, o2' + k * 35 + 1, none⟩) hb2).trans HY.out.2.1; go_simp; try with_reducible rfl)
                      · (go_simp; try with_reducible rfl)
                      refine held_take (i := 17) (v := ?_) (a' := ?_) rfl (by kernel_rfl) (by kernel_rfl) (by kernel_rfl) (fun _ _ _ h => h) (by rfl) hdr ?_ ?_ ?_
                      rotate_left 2
                      · (intro w hS; go_simp; try with_reducible rfl)
                      · (go_simp; try with_reducible rfl)
                      refine held_take (i := 18) (v := ?_) (a' := ?_) rfl (by kernel_rfl) (by kernel_rfl) (by kernel_rfl) (fun _ _ _ h => h) (by rfl) hdr ?_ ?_ ?_
                      rotate_left 2
                      · (intro w hS; go_simp; try with_reducible rfl)
                      · (go_simp; try with_reducible rfl)
                      refine held_take (i := 19) (v := ?_) (a' := ?_) rfl (by kernel_rfl) (by kernel_rfl) (by kernel_rfl) (fun _ _ _ h => h) (by rfl) hdr ?_ ?_ ?_
                      rotate_left 2
                      · (intro w hS; go_simp; try with_reducible rfl)
                      · (go_simp; try with_reducible rfl)
                      refine held_take (i := 20) (v := ?_) (a' := ?_) rfl (by kernel_rfl) (by kernel_rfl) (by kernel_rfl) (fun _ _ _ h => h) (by rfl) hdr ?_ ?_ ?_
                      rotate_left 2
                      · (intro w hS; go_simp; try with_reducible rfl)
                      · (go_simp; try with_reducible rfl)
                      refine held_take (i := 21) (v := ?_) (a' := ?_) rfl (by kernel_rfl) (by kernel_rfl) (by kernel_rfl) (fun _ _ _ h => h) (by rfl) hdr ?_ ?_ ?_
                      rotate_left 2
                      · (intro w hS; have t := (hS.cell (p := ⟨b1, o1' + k * 35 + 1, none⟩) hb1).trans HX.out.2.1; go_simp; try with_reducible rfl)
                      · (go_simp; try with_reducible rfl)
                      refine held_take (i := 22) (v := ?_) (a' := ?_) rfl (by kernel_rfl) (by kernel_rfl) (by kernel_rfl) (fun _ _ _ h => h) (by rfl) hdr ?_ ?_ ?_
                      rotate_left 2
                      · (intro w hS; go_simp; try with_reducible rfl)
                      · (go_simp; try with_reducible rfl)
                      refine held_take (i := 23) (v := ?_) (a' := ?_) rfl (by kernel_rfl) (by kernel_rfl) (by kernel_rfl) (fun _ _ _ h => h) (by rfl) hdr ?_ ?_ ?_
                      rotate_left 2
                      · (intro w hS; go_simp; try with_reducible rfl)
                      · (go_simp; try with_reducible rfl)
                      refine held_take (i := 24) (v := ?_) (a' := ?_) rfl (by kernel_rfl) (by kernel_rfl) (by kernel_rfl) (fun _ _ _ h => h) (by rfl) hdr ?_ ?_ ?_
                      rotate_left 2
                      · (intro w hS; go_simp; try with_reducible rfl)
                      · (go_simp; try with_reducible rfl)
                      refine held_take (i := 25) (v := ?_) (a' := ?_) rfl (by kernel_rfl) (by kernel_rfl) (by kernel_rfl) (fun _ _ _ h => h) (by rfl) hdr ?_ ?_ ?_
                      rotate_left 2
                      · (intro w hS; go_simp; try with_reducible rfl)
                      · (go_simp; try with_reducible rfl)
                      refine held_take (i := 26) (v := ?_) (a' := ?_) rfl (by kernel_rfl) (by kernel_rfl) (by kernel_rfl) (fun _ _ _ h => h) (by rfl) hdr ?_ ?_ ?_
                      rotate_left 2
                      · (intro w hS; go_simp; try with_reducible rfl)
                      · (go_simp; try with_reducible rfl)
                      refine held_take (i := 27) (v := ?_) (a' := ?_) rfl (by kernel_rfl) (by kernel_rfl) (by kernel_rfl) (fun _ _ _ h => h) (by rfl) hdr ?_ ?_ ?_
                      rotate_left 2
                      · (intro w hS; go_simp; try with_reducible rfl)
                      · (go_simp; try with_reducible rfl)
                      refine held_take (i := 28) (v := ?_) (a' := ?_) rfl (by kernel_rfl) (by kernel_rfl) (by kernel_rfl) (fun _ _ _ h => h) (by rfl) hdr ?_ ?_ ?_
                      rotate_left 2
                      · (intro w hS; go_simp; try with_reducible rfl)
                      · (go_simp; try with_reducible rfl)
                      refine held_take (i := 29) (v := ?_) (a' := ?_) rfl (by kernel_rfl) (by kernel_rfl) (by kernel_rfl) (fun _ _ _ h => h) (by rfl) hdr ?_ ?_ ?_
                      rotate_left 2
                      · (intro w hS; refine exec_load_at 27 (.tmp 154) ?_ b2 (o2' + k * 35 + 2) ?_ KX _ (HAT2.out.below hS hb2) Try.underlying27 rfl HI.out; exact rfl; exact rfl)
                      · (go_simp; try with_reducible rfl)
                      refine held_take (i := 30) (v := ?_) (a' := ?_) rfl (by kernel_rfl) (by kernel_rfl) (by kernel_rfl) (fun _ _ _ h => h) (by rfl) hdr ?_ ?_ ?_
                      rotate_left 2
                      · (intro w hS; go_simp; try with_reducible rfl)
                      · (go_simp; try with_reducible rfl)
                      refine held_take (i := 31) (v := ?_) (a' := ?_) rfl (by kernel_rfl) (by kernel_rfl) (by kernel_rfl) (fun _ _ _ h => h) (by rfl) hdr ?_ ?_ ?_
                      rotate_left 2
                      · (intro w hS; go_simp; try with_reducible rfl)
                      · (go_simp; try with_reducible rfl)
                      refine held_take (i := 32) (v := ?_) (a' := ?_) rfl (by kernel_rfl) (by kernel_rfl) (by kernel_rfl) (fun _ _ _ h => h) (by rfl) hdr ?_ ?_ ?_
                      rotate_left 2
                      · (intro w hS; go_simp; try with_reducible rfl)
                      · (go_simp; try with_reducible rfl)
                      refine held_take (i := 33) (v := ?_) (a' := ?_) rfl (by kernel_rfl) (by kernel_rfl) (by kernel_rfl) (fun _ _ _ h => h) (by rfl) hdr ?_ ?_ ?_
                      rotate_left 2
                      · (intro w hS; go_simp; try with_reducible rfl)
                      · (go_simp; try with_reducible rfl)
                      refine held_take (i := 34) (v := ?_) (a' := ?_) rfl (by kernel_rfl) (by kernel_rfl) (by kernel_rfl) (fun _ _ _ h => h) (by rfl) hdr ?_ ?_ ?_
                      rotate_left 2
                      · (intro w hS; refine exec_load_at 27 (.tmp 159) ?_ b1 (o1' + k * 35 + 2) ?_ KX _ (HAT.out.below hS hb1) Try.underlying27 rfl HI.out; exact rfl; exact rfl)
                      · (go_simp; try with_reducible rfl)
                      refine held_take (i := 35) (v := ?_) (a' := ?_) rfl (by kernel_rfl) (by kernel_rfl) (by kernel_rfl) (fun _ _ _ h => h) (by rfl) hdr ?_ ?_ ?_
                      rotate_left 2
                      · (intro w hS; go_simp; try with_reducible rfl)
                      · (go_simp; try with_reducible rfl)
                      refine held_take (i := 36) (v := ?_) (a' := ?_) rfl (by kernel_rfl) (by kernel_rfl) (by kernel_rfl) (fun _ _ _ h => h) (by rfl) hdr ?_ ?_ ?_
                      rotate_left 2
                      · (intro w hS; go_simp; try with_reducible rfl)
                      · (go_simp; try with_reducible rfl)
                      refine held_take (i := 37) (v := ?_) (a' := ?_) rfl (by kernel_rfl) (by kernel_rfl) (by kernel_rfl) (fun _ _ _ h => h) (by rfl) hdr ?_ ?_ ?_
                      rotate_left 2
                      · (intro w hS; go_simp; try with_reducible rfl)
                      · (go_simp; try with_reducible rfl)
                      refine held_take (i := 38) (v := ?_) (a' := ?_) rfl (by kernel_rfl) (by kernel_rfl) (by kernel_rfl) (fun _ _ _ h => h) (by rfl) hdr ?_ ?_ ?_
                      rotate_left 2
                      · (intro w hS; go_simp; try with_reducible rfl)
                      · (go_simp; try with_reducible rfl)
                      refine held_take (i := 39) (v := ?_) (a' := ?_) rfl (by kernel_rfl) (by kernel_rfl) (by kernel_rfl) (fun _ _ _ h => h) (by rfl) hdr ?_ ?_ ?_
                      rotate_left 2
                      · (intro w hS; go_simp; try with_reducible rfl)
                      · (go_simp; try with_reducible rfl)
                      refine held_take (i := 40) (v := ?_) (a' := ?_) rfl (by kernel_rfl) (by kernel_rfl) (by kernel_rfl) (fun _ _ _ h => h) (by rfl) hdr ?_ ?_ ?_
                      rotate_left 2
                      · (intro w hS; go_simp; try with_reducible rfl)
                      · (go_simp; try with_reducible rfl)
                      refine held_take (i := 41) (v := ?_) (a' := ?_) rfl (by kernel_rfl) (by kernel_rfl) (by kernel_rfl) (fun _ _ _ h => h) (by rfl) hdr ?_ ?_ ?_
                      rotate_left 2
                      · (intro w hS; refine exec_load_at 27 (.tmp 166) ?_ b3 (o3' + k * 32) ?_ KX _ (HAT3.out.below hS hb3) Try.underlying27 rfl HI.out; exact rfl; exact rfl)
                      · (go_simp; try with_reducible rfl)
                      refine held_take (i := 42) (v := ?_) (a' := ?_) rfl (by kernel_rfl) (by kernel_rfl) (by kernel_rfl) (fun _ _ _ h => h) (by rfl) hdr ?_ ?_ ?_
                      rotate_left 2
                      · (intro w hS; go_simp; try with_reducible rfl)
                      · (go_simp; try with_reducible rfl)
                      refine held_take (i := 43) (v := ?_) (a' := ?_) rfl (by kernel_rfl) (by kernel_rfl) (by kernel_rfl) (fun _ _ _ h => h) (by rfl) hdr ?_ ?_ ?_
                      rotate_left 2
                      · (intro w hS; go_simp; try with_reducible rfl)
                      · (go_simp; try with_reducible rfl)
                      refine held_take (i := 44) (v := ?_) (a' := ?_) rfl (by kernel_rfl) (by kernel_rfl) (by kernel_rfl) (fun _ _ _ h => h) (by rfl) hdr ?_ ?_ ?_
                      rotate_left 2
                      · (intro w hS; go_simp; try with_reducible rfl)
                      · (go_simp; try with_reducible rfl)
                      refine held_take (i := 45) (v := ?_) (a' := ?_) rfl (by kernel_rfl) (by kernel_rfl) (by kernel_rfl) (fun _ _ _ h => h) (by rfl) hdr ?_ ?_ ?_
                      rotate_left 2
                      · (intro w hS; go_simp; try with_reducible rfl)
                      · (go_simp; try with_reducible rfl)
                      refine held_take (i := 46) (v := ?_) (a' := ?_) rfl (by kernel_rfl) (by kernel_rfl) (by kernel_rfl) (fun _ _ _ h => h) (by rfl) hdr ?_ ?_ ?_
                      rotate_left 2
                      · (intro w hS; refine exec_load_at 27 (.tmp 171) ?_ b1 (o1' + k * 35 + 2) ?_ KX _ (HAT.out.below hS hb1) Try.underlying27 rfl HI.out; exact rfl; exact rfl)
                      · (go_simp; try with_reducible rfl)
                      refine held_take (i := 47) (v := ?_) (a' := ?_) rfl (by kernel_rfl) (by kernel_rfl) (by kernel_rfl) (fun _ _ _ h => h) (by rfl) hdr ?_ ?_ ?_
                      rotate_left 2
                      · (intro w hS; go_simp; try with_reducible rfl)
                      · (go_simp; try with_reducible rfl)
                      refine held_take (i := 48) (v := ?_) (a' := ?_) rfl (by kernel_rfl) (by kernel_rfl) (by kernel_rfl) (fun _ _ _ h => h) (by rfl) hdr ?_ ?_ ?_
                      rotate_left 2
                      · (intro w hS; go_simp; try with_reducible rfl)
                      · (go_simp; try with_reducible rfl)
                      refine held_take (i := 49) (v := ?_) (a' := ?_) rfl (by kernel_rfl) (by kernel_rfl) (by kernel_rfl) (fun _ _ _ h => h) (by rfl) hdr ?_ ?_ ?_
                      rotate_left 2
                      · (intro w hS; go_simp; try with_reducible rfl)
                      · (go_simp; try with_reducible rfl)
                      refine held_take (i := 50) (v := ?_) (a' := ?_) rfl (by kernel_rfl) (by kernel_rfl) (by kernel_rfl) (fun _ _ _ h => h) (by rfl) hdr ?_ ?_ ?_
                      rotate_left 2
                      · (intro w hS; go_simp; try with_reducible rfl)
                      · (go_simp; try with_reducible rfl)
                      refine held_take (i := 51) (v := ?_) (a' := ?_) rfl (by kernel_rfl) (by kernel_rfl) (by kernel_rfl) (fun _ _ _ h => h) (by rfl) hdr ?_ ?_ ?_
                      rotate_left 2
                      · (intro w hS; go_simp; try with_reducible rfl)
                      · (go_simp; try with_reducible rfl)
                      refine held_take (i := 52) (v := ?_) (a' := ?_) rfl (by kernel_rfl) (by kernel_rfl) (by kernel_rfl) (fun _ _ _ h => h) (by rfl) hdr ?_ ?_ ?_
                      rotate_left 2
                      · (intro w hS; go_simp; try with_reducible rfl)
                      · (go_simp; try with_reducible rfl)
                      refine held_take (i := 53) (v := ?_) (a' := ?_) rfl (by kernel_rfl) (by kernel_rfl) (by kernel_rfl) (fun _ _ _ h => h) (by rfl) hdr ?_ ?_ ?_
                      rotate_left 2
                      · (intro w hS; go_simp; try with_reducible rfl)
                      · (go_simp; try with_reducible rfl)
                      refine held_take (i := 54) (v := ?_) (a' := ?_) rfl (by kernel_rfl) (by kernel_rfl) (by kernel_rfl) (fun _ _ _ h => h) (by rfl) hdr ?_ ?_ ?_
                      rotate_left 2
                      · (intro w hS; have t := (hS.cell (p := ⟨b2, o2' + k * 35 + 34, none⟩) hb2).trans HY.out.2.2; go_simp; try with_reducible rfl)
                      · (go_simp; try with_reducible rfl)
                      refine held_take (i := 55) (v := ?_) (a' := ?_) rfl (by kernel_rfl) (by kernel_rfl) (by kernel_rfl) (fun _ _ _ h => h) (by rfl) hdr ?_ ?_ ?_
                      rotate_left 2
                      · (intro w hS; go_simp; try with_reducible rfl)
                      · (go_simp; try with_reducible rfl)
                      refine held_take (i := 56) (v := ?_) (a' := ?_) rfl (by kernel_rfl) (by kernel_rfl) (by kernel_rfl) (fun _ _ _ h => h) (by rfl) hdr ?_ ?_ ?_
                      rotate_left 2
                      · (intro w hS; go_simp; try with_reducible rfl)
                      · (go_simp; try with_reducible rfl)
                      refine held_take (i := 57) (v := ?_) (a' := ?_) rfl (by kernel_rfl) (by kernel_rfl) (by kernel_rfl) (fun _ _ _ h => h) (by rfl) hdr ?_ ?_ ?_
                      rotate_left 2
                      · (intro w hS; go_simp; try with_reducible rfl)
                      · (go_simp; try with_reducible rfl)
                      refine held_take (i := 58) (v := ?_) (a' := ?_) rfl (by kernel_rfl) (by kernel_rfl) (by kernel_rfl) (fun _ _ _ h => h) (by rfl) hdr ?_ ?_ ?_
                      rotate_left 2
                      · (intro w hS; go_simp; try with_reducible rfl)
                      · (go_simp; try with_reducible rfl)
                      refine held_take (i := 59) (v := ?_) (a' := ?_) rfl (by kernel_rfl) (by kernel_rfl) (by kernel_rfl) (fun _ _ _ h => h) (by rfl) hdr ?_ ?_ ?_
                      rotate_left 2
                      · (intro w hS; go_simp; try with_reducible rfl)
                      · (go_simp; try with_reducible rfl)
                      refine held_take (i := 60) (v := ?_) (a' := ?_) rfl (by kernel_rfl) (by kernel_rfl) (by kernel_rfl) (fun _ _ _ h => h) (by rfl) hdr ?_ ?_ ?_
                      rotate_left 2
                      · (intro w hS; go_simp; try with_reducible rfl)
                      · (go_simp; try with_reducible rfl)
                      refine held_take (i := 61) (v := ?_) (a' := ?_) rfl (by kernel_rfl) (by kernel_rfl) (by kernel_rfl) (fun _ _ _ h => h) (by rfl) hdr ?_ ?_ ?_
                      rotate_left 2
                      · (intro w hS; go_simp; try with_reducible rfl)
                      · (go_simp; try with_reducible rfl)
                      refine held_take (i := 62) (v := ?_) (a' := ?_) rfl (by kernel_rfl) (by kernel_rfl) (by kernel_rfl) (fun _ _ _ h => h) (by rfl) hdr ?_ ?_ ?_
                      rotate_left 2
                      · (intro w hS; go_simp; try with_reducible rfl)
                      · (go_simp; try with_reducible rfl)
                      refine wpAnyH_done (by kernel_rfl) ?_ _
                      clear hne
                      go_wp2_with fail
                      go_roundw
                      case rel => exact ⟨k + 1, by omega, by go_num, HB2'⟩
                      case measure => simp [intOf]; omega
              · have hltI : ¬ (k : Int) < (n1 : Int) := by omega
                have hfin := HWu5.out.trans (HBL.out.mono HWu5.out.size)
                go_wp2_with fail
                go_meet
                case rel => exact hfin
          · have hzb : (z2 == 0) = false := by simp [hz]
            clear hz
            go_wp2_with fail
            go_meet
            case rel => exact HWu.out
      case rest =>
        as_aux_lemma =>
          rename World => wv
          have HB4 := Lib.hid (HB3.out.trans (hcut.mono HSu.out))
          have HH4 := Lib.hid (HH3.out.below hcut HH3.out.lt)
          have HSv := Lib.hid (show g ≤ wv.heap.size by rw [← HG.out]; exact HB4.out.size)
          clear hcut HB3 HH3 HS2 HC9 HWu HSu Z2
          -- PutCommit
          go_wp2_with (first | (refine wpList_load_row rfl 30 (.tmp 5) rfl (g + 1) rfl 30 K2 (0, 0) _ HH4.out Try.underlying30 rfl HI2.out ?_) | fail)
          refine (P3.out _ HB4.out).mono ?_
          intro e w8 hp
          obtain ⟨C9, f9, rfl, hown, hb⟩ := U3.out _ _ _ hp
          obtain ⟨hca, hcb⟩ := own_cap hown
          have HV8 := Lib.hid (Sl.ofOwn hown)
          have HC9 := Lib.hid (And.intro hca hcb)
          have HB8 := Lib.hid (HB4.out.trans (hb.mono HSv.out))
          have HH8 := Lib.hid (HH4.out.below hb HH4.out.lt)
          clear hp hown hb hca hcb P3 U3 HB4 HH4 HSv
          by_cases hz : z3 = 0
          · obtain ⟨q1, q2⟩ := Z3.out hz
            subst hz
            obtain ⟨fc, hfc⟩ : ∃ fc, fc = canonB f := ⟨_, rfl⟩
            rw [← hfc] at q1
            have HFC := Lib.hid hfc
            have HGB := Lib.hid (fun w (h : Below w8.heap.size w8 w) => getCommit_any C9 m3 f9 o3 w (HV8.out.below h) HC9.out.1 HC9.out.2)
            have HLB := Lib.hid (fun w (h : Below w8.heap.size w8 w) => links_any C9 m3 f9 o3 w (HV8.out.below h) HC9.out.1 HC9.out.2)
            rw [q1] at HGB
            rw [q2] at HLB
            have hck : ∀ A c, comK (tr, ps, fc, au, nt).1 A (tr, ps, fc, au, nt).2.1.length c (tr, ps, fc, au, nt).2.2.1 (tr, ps, fc, au, nt).2.2.2.1 (tr, ps, fc, au, nt).2.2.2.2 = comK tr A n2 c fc au nt := fun A c => by rw [HN2.out]
            have hlen' : (tr :: ps).length = n2 + 1 := by rw [List.length_cons, HN2.out]
            have HE := Lib.hid hlen'
            clear q1 q2 Z3 Y3 hfc
            go_wp2_with fail
            refine (HGB.out w8 (Below.refl _ _)).mono ?_
            rintro e w9 ⟨hb, A3, c3, rfl, _, hs3, hc3, hcm3⟩
            rw [hck]
            obtain ⟨KD, hKD⟩ : ∃ KD, KD = comK tr A3 n2 c3 fc au nt := ⟨_, rfl⟩
            have HID := Lib.hid (show (Try.prog.info? 30).map (·.size) = some KD.size by rw [hKD]; exact comK_info H32.out _ _ _ _ _ _)
            have HO := Lib.hid (show KD.all (·.oneCell') = true by rw [hKD]; exact comK_one _ _ _ _ _ _ _)
            have HZ := Lib.hid (show zCom.size = KD.size by rw [hKD, comK_size H32.out]; exact comK_size (by simp) _ _ _ _ _ _)
            have HBN := Lib.hid (Blk.new w9 30 zCom)
            have hal : Below w9.heap.size w9 (w9.alloc (.cells KD 30)) := (Below.refl _ _).alloc (Nat.le_refl _) _
            have HW810 := Lib.hid (hb.trans (hal.mono hb.size))
            have HD10 := Lib.hid (Blk.new w9 30 KD)
            have HS10 := Lib.hid (hs3.below hal)
            have HGD := Lib.hid hb.size
            have HKD := Lib.hid hKD
            rw [← hKD]
            clear hb hs3 hc3 hcm3 hal hKD HGB hck
            go_upto_region 28 with (first | (refine wpList_store_row rfl _ _ _ rfl w9.heap.size KD rfl rfl 30 _ HBN.out HID.out HZ.out HO.out ?_) | fail)
            rw [World.setRow_alloc_new]
            clear HBN HO HZ
            generalize w9.alloc (.cells KD 30) = w10 at *
            generalize w9.heap.size = gd at *
            go_wp2_with fail
            refine (HLB.out w10 HW810.out).mono ?_
            rintro e w11 ⟨hb, A5, c5, rfl, hs5, hc5, hcm5⟩
            rw [hlen']
            rw [hlen'] at hc5
            have HW811 := Lib.hid (HW810.out.trans (hb.mono HW810.out.size))
            have HS8 := Lib.hid (show g ≤ w8.heap.size by rw [← HG.out]; exact HB8.out.size)
            have HB11 := Lib.hid (HB8.out.trans (HW811.out.mono HS8.out))
            have HH11 := Lib.hid (HH8.out.below HW811.out HH8.out.lt)
            have HD11 := Lib.hid (HD10.out.below hb HD10.out.lt)
            have HS11 := Lib.hid (HS10.out.below hb)
            have HX11 := Lib.hid (hs5.stable (Moves.less w11 (av' := fun b => b < w8.heap.size) (fun b _ hb8 => Nat.lt_of_lt_of_le hb8 HW810.out.size)))
            have HGM := Lib.hid HH8.out.lt
            have HC5 := Lib.hid (And.intro hc5 hcm5)
            have x33 : w11.cell? ⟨g + 1, 33, none⟩ = some (.float .f64 f) := by have := HH11.out.cell 33; rw [HK2.out, (comK_get H32.out _ _ _ _ _ _).2.1] at this; exact this
            have hfz := HH11.out.frozen 33
            have hK33 : 33 < K2.size := by rw [HK2.out, comK_size H32.out]; omega
            obtain ⟨KC, hKC⟩ : ∃ KC, KC = comK tr A2 n2 c2 fc au nt := ⟨_, rfl⟩
            have HKC := Lib.hid hKC
            clear hb hs5 hc5 hcm5 HLB hlen' HW810 HW811 HD10 HS10 HH8 HB8 HV8 HC9 hKC
            obtain ⟨Q, hQ⟩ : ∃ Q, (FloatKind.f64.format.order f f != some .eq) = Q := ⟨_, rfl⟩
            have HQ := Lib.hid hQ
            go_upto_if 214 with fail
            clear hQ
            go_cut [] (fun wx => Below g W0 wx ∧ Moves w11 wx (fun b => b < w8.heap.size) no ∧ Blk wx (g + 1) 30 KC)
            case first =>
              as_aux_lemma =>
                cases Q with
                | true =>
                  have hn : isNan f = true := HQ.out
                  have hc : canonB f = nanB := by simp [canonB, hn]
                  have hf := ext_from
                  have HFN := Lib.hid (show fc = nanB by rw [HFC.out, hc])
                  have hset := Lib.hid (setCell_eq_setRow w11 (g + 1) 33 K2 _ (0, 0) (.float .f64 nanB) HH11.out)
                  have hrel : Below g W0 (w11.setCell ⟨g + 1, 33, none⟩ (.float .f64 nanB)) ∧ Moves w11 (w11.setCell ⟨g + 1, 33, none⟩ (.float .f64 nanB)) (fun b => b < w8.heap.size) no ∧ Blk (w11.setCell ⟨g + 1, 33, none⟩ (.float .f64 nanB)) (g + 1) 30 KC :=
                    ⟨by rw [hset.out]; exact below_setRow HB11.out (Nat.le_succ g) _, (Moves.grown (grown_set w11 (g + 1) 33 _) HGM.out).trans (Moves.forget _ _), by
                      have := HH11.out.set_ 33 (.float .f64 nanB)
                      rw [HK2.out, (comK_set H32.out A2 A2 n2 n2 c2 c2 f nanB au au nt nt).2.1] at this
                      rw [HKC.out, HFN.out]
                      exact this⟩
                  have HREL := Lib.hid hrel
                  clear hc hn hrel
                  go_wp2_with (first | (refine wpList_store_flt rfl 28 _ _ rfl (g + 1) 33 nanB rfl rfl 30 _ HH11.out flt_info hK33 ?_) | fail)
                  go_meet
                  case rel => exact HREL.out
                | false =>
                  have hn : ¬ isNan f = true := by unfold isNan; rw [HQ.out]; decide
                  have hc : canonB f = f := by simp [canonB, hn]
                  have HREL := Lib.hid (show Below g W0 w11 ∧ Moves w11 w11 (fun b => b < w8.heap.size) no ∧ Blk w11 (g + 1) 30 KC from ⟨HB11.out, Moves.forget _ _, by rw [HKC.out, HFC.out, hc, ← HK2.out]; exact HH11.out⟩)
                  clear hc hn
                  go_wp2_with fail
                  go_meet
                  case rel => exact HREL.out
            case rest =>
              as_aux_lemma =>
                rename World => wx
                obtain ⟨hB, hM, hK⟩ := hcut
                have HBx := Lib.hid hB
                have HKx := Lib.hid hK
                have HDx : Hid (Blk wx gd 30 KD) := Lib.hid ((hM.block gd HD11.out.lt (by have := HGD.out; omega)).trans HD11.out)
                have HSx := Lib.hid (HS11.out.stable hM)
                have HXx := Lib.hid (HX11.out.stable hM)
                have HAx := Lib.hid (HA2.out.below (by rw [HG.out]; exact hB))
                have hgx := HKx.out.lt
                have hgd := HDx.out.lt
                have hl2 := HL2.out
                obtain ⟨KB, hKB⟩ : ∃ KB, KB = (bytesV tr).toArray := ⟨_, rfl⟩
                have HIB := Lib.hid (show (Try.prog.info? 27).map (·.size) = some KB.size by rw [hKB]; exact oid_size H32.out)
                have heq := fun w => eqlId_of H32.out H32.out w
                simp only [beq_self_eq_true] at heq
                rw [← hKB] at heq
                obtain ⟨b5, o5, i0, rfl, hb5, hi0, _, hat0⟩ := oids_look HXx.out HE.out (i := 0) (by omega)
                obtain rfl : i0 = tr := by simpa using hi0.symm
                have HAT0 := Lib.hid (show At wx ⟨b5, o5, none⟩ KB by rw [hKB]; simpa using hat0)
                have HAT1 := Lib.hid (show At wx ⟨g + 1, 0, none⟩ KB by rw [hKB]; exact com_id_at (by rw [← HKC.out]; exact HKx.out))
                have X32 := Lib.hid (show wx.cell? ⟨g + 1, 32, none⟩ = some (.slice A2 n2 c2) by have := HKx.out.cell 32; rw [HKC.out, (comK_get H32.out _ _ _ _ _ _).1] at this; exact this)
                have HIC := Lib.hid (show (Try.prog.info? 30).map (·.size) = some KC.size by rw [HKC.out]; exact comK_info H32.out _ _ _ _ _ _)
                have hcc := HC5.out.1
                have hcm := HC5.out.2
                have hfr := HXx.out.from (k := 1) HE.out (by omega) hcc
                have hcls : Below wx.heap.size wx wx.drew := Same.below ⟨1, rfl⟩ _
                clear hB hM hK hKB hi0 hat0 HS11 HX11 HD11 HH11 HB11 x33 hfz hK33
                have HSX := Lib.hid (show g ≤ wx.heap.size by rw [← HG.out]; exact HBx.out.size)
                rw [List.drop_one, List.tail_cons] at hfr
                by_cases hc1 : c5 = 1
                · rw [if_pos hc1] at hfr
                  have HFR := Lib.hid hfr
                  subst hc1
                  obtain rfl : n2 = 0 := by omega
                  clear hfr
                  go_upto_region 31 with fail
                  as_aux_lemma =>
                    have HIS := Lib.hid (fun w (h : Below wx.heap.size wx w) => ids_same (some ⟨b5, o5, none⟩) A2 0 0 0 c2 ps w (HFR.out.below h) (HAx.out.below h) HN2.out HN2.out (by omega))
                    refine wp_region_held (S := fun w => Below wx.heap.size wx w) (by kernel_rfl) ?_
                    change wpAnyH _ _ _ _ _ _ _ _ (World.drew _)
                    generalize World.drew wx = wd at hcls ⊢
                    refine held_take (i := 0) (v := ?_) (a' := ?_) rfl (by kernel_rfl) (by kernel_rfl) (by kernel_rfl) (fun _ _ _ h => h) (by rfl) hcls ?_ ?_ ?_
                    rotate_left 2
                    · (intro w hS; go_simp; try with_reducible rfl)
                    · (go_simp; try with_reducible rfl)
                    refine held_take (i := 1) (v := ?_) (a' := ?_) rfl (by kernel_rfl) (by kernel_rfl) (by kernel_rfl) (fun _ _ _ h => h) (by rfl) hcls ?_ ?_ ?_
                    rotate_left 2
                    · (intro w hS; go_simp; try with_reducible rfl)
                    · (go_simp; try with_reducible rfl)
                    refine held_take (i := 2) (v := ?_) (a' := ?_) rfl (by kernel_rfl) (by kernel_rfl) (by kernel_rfl) (fun _ _ _ h => h) (by rfl) hcls ?_ ?_ ?_
                    rotate_left 2
                    · (intro w hS; go_simp; try with_reducible rfl)
                    · (go_simp; try with_reducible rfl)
                    refine held_take (i := 3) (v := ?_) (a' := ?_) rfl (by kernel_rfl) (by kernel_rfl) (by kernel_rfl) (fun _ _ _ h => h) (by rfl) hcls ?_ ?_ ?_
                    rotate_left 2
                    · (intro w hS; go_simp; try with_reducible rfl)
                    · (go_simp; try with_reducible rfl)
                    refine held_take (i := 4) (v := ?_) (a' := ?_) rfl (by kernel_rfl) (by kernel_rfl) (by kernel_rfl) (fun _ _ _ h => h) (by rfl) hcls ?_ ?_ ?_
                    rotate_left 2
                    · (intro w hS; go_simp; try with_reducible rfl)
                    · (go_simp; try with_reducible rfl)
                    refine held_take (i := 5) (v := ?_) (a' := ?_) rfl (by kernel_rfl) (by kernel_rfl) (by kernel_rfl) (fun _ _ _ h => h) (by rfl) hcls ?_ ?_ ?_
                    rotate_left 2
                    · (intro w hS; go_simp; try with_reducible rfl)
                    · (go_simp; try with_reducible rfl)
                    refine held_take (i := 6) (v := ?_) (a' := ?_) rfl (by kernel_rfl) (by kernel_rfl) (by kernel_rfl) (fun _ _ _ h => h) (by rfl) hcls ?_ ?_ ?_
                    rotate_left 2
                    · (intro w hS; go_simp; try with_reducible rfl)
                    · (go_simp; try with_reducible rfl)
                    refine held_take (i := 7) (v := ?_) (a' := ?_) rfl (by kernel_rfl) (by kernel_rfl) (by kernel_rfl) (fun _ _ _ h => h) (by rfl) hcls ?_ ?_ ?_
                    rotate_left 2
                    · (intro w hS; refine exec_load_at 30 (.tmp 23) ?_ gd 0 ?_ KD _ (At.of_row (HDx.out.below hS hgd)) Try.underlying30 rfl HID.out; exact rfl; exact rfl)
                    · (go_simp; try with_reducible rfl)
                    refine held_take (i := 9) (v := ?_) (a' := ?_) rfl (by kernel_rfl) (by kernel_rfl) (by kernel_rfl) (fun _ _ _ h => h) (by rfl) hcls ?_ ?_ ?_
                    rotate_left 2
                    · (intro w hS; refine exec_load_at 30 (.tmp 5) ?_ (g + 1) 0 ?_ KC _ (At.of_row (HKx.out.below hS hgx)) Try.underlying30 rfl HIC.out; exact rfl; exact rfl)
                    · (go_simp; try with_reducible rfl)
                    refine held_ready (rs := [8]) (by kernel_rfl) (by simp) ?_
                    refine AllHeld.cons rfl (fun KR hKR => ?_) ?_
                    · go_simp
                      have HCA := Lib.hid (com_as i0 A3 0 c3 fc au nt wd H32.out)
                      rw [← HKD.out] at HCA
                      refine HCA.out.mono ?_
                      rintro e w20 ⟨rfl, hb⟩
                      have hb20 := hcls.trans (hb.mono hcls.size)
                      clear HCA hb
                      refine hKR _ _ hb20 ?_
                      clear hKR KR
                      refine held_ready (rs := [10]) (by kernel_rfl) (by simp) ?_
                      refine AllHeld.cons rfl (fun KR hKR => ?_) ?_
                      · go_simp
                        have HCA := Lib.hid (com_as i0 A2 0 c2 fc au nt w20 H32.out)
                        rw [← HKC.out] at HCA
                        refine HCA.out.mono ?_
                        rintro e w21 ⟨rfl, hb⟩
                        have hb21 := hb20.trans (hb.mono hb20.size)
                        clear HCA hb
                        have HCS := Lib.hid (coms_same i0 A3 A2 0 c3 c2 fc ps au nt w21 H32.out (HSx.out.below hb21) (HAx.out.below hb21) HN2.out (by omega))
                        rw [← HKC.out, ← HKD.out] at HCS
                        refine hKR _ _ hb21 ?_
                        clear hKR KR
                        refine held_ready (rs := [11]) (by kernel_rfl) (by simp) ?_
                        refine AllHeld.cons rfl (fun KR hKR => ?_) ?_
                        · go_simp
                          refine HCS.out.mono ?_
                          rintro e w22 ⟨rfl, hb⟩
                          have hb22 := hb21.trans (hb.mono hb21.size)
                          clear HCS hb
                          refine hKR _ _ hb22 ?_
                          clear hKR KR
                          refine held_take (i := 12) (v := ?_) (a' := ?_) rfl (by kernel_rfl) (by kernel_rfl) (by kernel_rfl) (fun _ _ _ h => h) (by rfl) hb22 ?_ ?_ ?_
                          rotate_left 2
                          · (intro w hS; go_simp; try with_reducible rfl)
                          · (go_simp; try with_reducible rfl)
                          refine held_take (i := 13) (v := ?_) (a' := ?_) rfl (by kernel_rfl) (by kernel_rfl) (by kernel_rfl) (fun _ _ _ h => h) (by rfl) hb22 ?_ ?_ ?_
                          rotate_left 2
                          · (intro w hS; go_simp; try with_reducible rfl)
                          · (go_simp; try with_reducible rfl)
                          refine held_take (i := 14) (v := ?_) (a' := ?_) rfl (by kernel_rfl) (by kernel_rfl) (by kernel_rfl) (fun _ _ _ h => h) (by rfl) hb22 ?_ ?_ ?_
                          rotate_left 2
                          · (intro w hS; go_simp; try with_reducible rfl)
                          · (go_simp; try with_reducible rfl)
                          refine held_take (i := 15) (v := ?_) (a' := ?_) rfl (by kernel_rfl) (by kernel_rfl) (by kernel_rfl) (fun _ _ _ h => h) (by rfl) hb22 ?_ ?_ ?_
                          rotate_left 2
                          · (intro w hS; go_simp; try with_reducible rfl)
                          · (go_simp; try with_reducible rfl)
                          refine held_take (i := 16) (v := ?_) (a' := ?_) rfl (by kernel_rfl) (by kernel_rfl) (by kernel_rfl) (fun _ _ _ h => h) (by rfl) hb22 ?_ ?_ ?_
                          rotate_left 2
                          · (intro w hS; go_simp; try with_reducible rfl)
                          · (go_simp; try with_reducible rfl)
                          refine held_take (i := 17) (v := ?_) (a' := ?_) rfl (by kernel_rfl) (by kernel_rfl) (by kernel_rfl) (fun _ _ _ h => h) (by rfl) hb22 ?_ ?_ ?_
                          rotate_left 2
                          · (intro w hS; have t := (hS.cell (p := ⟨g + 1, 32, none⟩) hgx).trans X32.out; go_simp; try with_reducible rfl)
                          · (go_simp; try with_reducible rfl)
                          refine held_take (i := 18) (v := ?_) (a' := ?_) rfl (by kernel_rfl) (by kernel_rfl) (by kernel_rfl) (fun _ _ _ h => h) (by rfl) hb22 ?_ ?_ ?_
                          rotate_left 2
                          · (intro w hS; go_simp; try with_reducible rfl)
                          · (go_simp; try with_reducible rfl)
                          refine held_take (i := 19) (v := ?_) (a' := ?_) rfl (by kernel_rfl) (by kernel_rfl) (by kernel_rfl) (fun _ _ _ h => h) (by rfl) hb22 ?_ ?_ ?_
                          rotate_left 2
                          · (intro w hS; go_simp; try with_reducible rfl)
                          · (go_simp; try with_reducible rfl)
                          refine held_take (i := 20) (v := ?_) (a' := ?_) rfl (by kernel_rfl) (by kernel_rfl) (by kernel_rfl) (fun _ _ _ h => h) (by rfl) hb22 ?_ ?_ ?_
                          rotate_left 2
                          · (intro w hS; go_simp; try with_reducible rfl)
                          · (go_simp; try with_reducible rfl)
                          refine held_take (i := 21) (v := ?_) (a' := ?_) rfl (by kernel_rfl) (by kernel_rfl) (by kernel_rfl) (fun _ _ _ h => h) (by rfl) hb22 ?_ ?_ ?_
                          rotate_left 2
                          · (intro w hS; go_simp; try with_reducible rfl)
                          · (go_simp; try with_reducible rfl)
                          refine held_take (i := 22) (v := ?_) (a' := ?_) rfl (by kernel_rfl) (by kernel_rfl) (by kernel_rfl) (fun _ _ _ h => h) (by rfl) hb22 ?_ ?_ ?_
                          rotate_left 2
                          · (intro w hS; go_simp; try with_reducible rfl)
                          · (go_simp; try with_reducible rfl)
                          refine held_take (i := 23) (v := ?_) (a' := ?_) rfl (by kernel_rfl) (by kernel_rfl) (by kernel_rfl) (fun _ _ _ h => h) (by rfl) hb22 ?_ ?_ ?_
                          rotate_left 2
                          · (intro w hS; go_simp; try with_reducible rfl)
                          · (go_simp; try with_reducible rfl)
                          refine held_take (i := 24) (v := ?_) (a' := ?_) rfl (by kernel_rfl) (by kernel_rfl) (by kernel_rfl) (fun _ _ _ h => h) (by rfl) hb22 ?_ ?_ ?_
                          rotate_left 2
                          · (intro w hS; go_simp; try with_reducible rfl)
                          · (go_simp; try with_reducible rfl)
                          refine held_take (i := 25) (v := ?_) (a' := ?_) rfl (by kernel_rfl) (by kernel_rfl) (by kernel_rfl) (fun _ _ _ h => h) (by rfl) hb22 ?_ ?_ ?_
                          rotate_left 2
                          · (intro w hS; refine exec_load_at 27 (.tmp 241) ?_ b5 o5 ?_ KB _ (HAT0.out.below hS hb5) Try.underlying27 rfl HIB.out; exact rfl; exact rfl)
                          · (go_simp; try with_reducible rfl)
                          refine held_take (i := 26) (v := ?_) (a' := ?_) rfl (by kernel_rfl) (by kernel_rfl) (by kernel_rfl) (fun _ _ _ h => h) (by rfl) hb22 ?_ ?_ ?_
                          rotate_left 2
                          · (intro w hS; go_simp; try with_reducible rfl)
                          · (go_simp; try with_reducible rfl)
                          refine held_take (i := 27) (v := ?_) (a' := ?_) rfl (by kernel_rfl) (by kernel_rfl) (by kernel_rfl) (fun _ _ _ h => h) (by rfl) hb22 ?_ ?_ ?_
                          rotate_left 2
                          · (intro w hS; refine exec_load_at 27 (.tmp 243) ?_ (g + 1) 0 ?_ KB _ (HAT1.out.below hS hgx) Try.underlying27 rfl HIB.out; exact rfl; exact rfl)
                          · (go_simp; try with_reducible rfl)
                          refine held_take (i := 28) (v := ?_) (a' := ?_) rfl (by kernel_rfl) (by kernel_rfl) (by kernel_rfl) (fun _ _ _ h => h) (by rfl) hb22 ?_ ?_ ?_
                          rotate_left 2
                          · (intro w hS; go_simp; try with_reducible rfl)
                          · (go_simp; try with_reducible rfl)
                          refine held_take (i := 29) (v := ?_) (a' := ?_) rfl (by kernel_rfl) (by kernel_rfl) (by kernel_rfl) (fun _ _ _ h => h) (by rfl) hb22 ?_ ?_ ?_
                          rotate_left 2
                          · (intro w hS; go_simp; try with_reducible rfl)
                          · (go_simp; try with_reducible rfl)
                          refine held_take (i := 30) (v := ?_) (a' := ?_) rfl (by kernel_rfl) (by kernel_rfl) (by kernel_rfl) (fun _ _ _ h => h) (by rfl) hb22 ?_ ?_ ?_
                          rotate_left 2
                          · (intro w hS; go_simp; try with_reducible rfl)
                          · (go_simp; try with_reducible rfl)
                          refine held_take (i := 31) (v := ?_) (a' := ?_) rfl (by kernel_rfl) (by kernel_rfl) (by kernel_rfl) (fun _ _ _ h => h) (by rfl) hb22 ?_ ?_ ?_
                          rotate_left 2
                          · (intro w hS; go_simp; try with_reducible rfl)
                          · (go_simp; try with_reducible rfl)
                          refine held_take (i := 32) (v := ?_) (a' := ?_) rfl (by kernel_rfl) (by kernel_rfl) (by kernel_rfl) (fun _ _ _ h => h) (by rfl) hb22 ?_ ?_ ?_
                          rotate_left 2
                          · (intro w hS; go_simp; try with_reducible rfl)
                          · (go_simp; try with_reducible rfl)
                          refine held_take (i := 33) (v := ?_) (a' := ?_) rfl (by kernel_rfl) (by kernel_rfl) (by kernel_rfl) (fun _ _ _ h => h) (by rfl) hb22 ?_ ?_ ?_
                          rotate_left 2
                          · (intro w hS; go_simp; try with_reducible rfl)
                          · (go_simp; try with_reducible rfl)
                          refine held_take (i := 34) (v := ?_) (a' := ?_) rfl (by kernel_rfl) (by kernel_rfl) (by kernel_rfl) (fun _ _ _ h => h) (by rfl) hb22 ?_ ?_ ?_
                          rotate_left 2
                          · (intro w hS; have t := (hS.cell (p := ⟨g + 1, 32, none⟩) hgx).trans X32.out; go_simp; try with_reducible rfl)
                          · (go_simp; try with_reducible rfl)
                          refine held_ready (rs := [35]) (by kernel_rfl) (by simp) ?_
                          refine AllHeld.cons rfl (fun KR hKR => ?_) ?_
                          · go_simp
                            refine (HIS.out _ hb22).mono ?_
                            rintro e w23 ⟨rfl, hb⟩
                            have hb23 := hb22.trans (hb.mono hb22.size)
                            refine hKR _ _ hb23 ?_
                            clear hKR KR
                            refine held_take (i := 36) (v := ?_) (a' := ?_) rfl (by kernel_rfl) (by kernel_rfl) (by kernel_rfl) (fun _ _ _ h => h) (by rfl) hb23 ?_ ?_ ?_
                            rotate_left 2
                            · (intro w hS; go_simp; try with_reducible rfl)
                            · (go_simp; try with_reducible rfl)
                            refine held_take (i := 37) (v := ?_) (a' := ?_) rfl (by kernel_rfl) (by kernel_rfl) (by kernel_rfl) (fun _ _ _ h => h) (by rfl) hb23 ?_ ?_ ?_
                            rotate_left 2
                            · (intro w hS; go_simp; try with_reducible rfl)
                            · (go_simp; try with_reducible rfl)
                            refine wpAnyH_done (by kernel_rfl) ?_ _
                            clear heq
                            go_wp2_with fail
                            go_ret
                            rw [HG.out]
                            exact ⟨rfl, HBx.out.trans (hb23.mono HSX.out)⟩
                          exact AllHeld.nil
                        exact AllHeld.nil
                      exact AllHeld.nil
                    exact AllHeld.nil
                · rw [if_neg hc1] at hfr
                  have hw1 : IntKind.i64.wrap ((n2 : Int) + 1) = (n2 : Int) + 1 := IntWalk.i64_in _ (by omega)
                  have h1le : (1 : Int) ≤ (n2 : Int) + 1 := by omega
                  have HFR := Lib.hid (show SlOf oidR wx no (some ⟨b5, o5 + 32, none⟩) ps from hfr)
                  clear hfr
                  go_upto_region 31 with fail
                  as_aux_lemma =>
                    have HIS := Lib.hid (fun w (h : Below wx.heap.size wx w) => ids_same (some ⟨b5, o5 + 32, none⟩) A2 n2 (c5 - 1) n2 c2 ps w (HFR.out.below h) (HAx.out.below h) HN2.out HN2.out (by omega))
                    refine wp_region_held (S := fun w => Below wx.heap.size wx w) (by kernel_rfl) ?_
                    change wpAnyH _ _ _ _ _ _ _ _ (World.drew _)
                    generalize World.drew wx = wd at hcls ⊢
                    refine held_take (i := 0) (v := ?_) (a' := ?_) rfl (by kernel_rfl) (by kernel_rfl) (by kernel_rfl) (fun _ _ _ h => h) (by rfl) hcls ?_ ?_ ?_
                    rotate_left 2
                    · (intro w hS; go_simp; try with_reducible rfl)
                    · (go_simp; try with_reducible rfl)
                    refine held_take (i := 1) (v := ?_) (a' := ?_) rfl (by kernel_rfl) (by kernel_rfl) (by kernel_rfl) (fun _ _ _ h => h) (by rfl) hcls ?_ ?_ ?_
                    rotate_left 2
                    · (intro w hS; go_simp; try with_reducible rfl)
                    · (go_simp; try with_reducible rfl)
                    refine held_take (i := 2) (v := ?_) (a' := ?_) rfl (by kernel_rfl) (by kernel_rfl) (by kernel_rfl) (fun _ _ _ h => h) (by rfl) hcls ?_ ?_ ?_
                    rotate_left 2
                    · (intro w hS; go_simp; try with_reducible rfl)
                    · (go_simp; try with_reducible rfl)
                    refine held_take (i := 3) (v := ?_) (a' := ?_) rfl (by kernel_rfl) (by kernel_rfl) (by kernel_rfl) (fun _ _ _ h => h) (by rfl) hcls ?_ ?_ ?_
                    rotate_left 2
                    · (intro w hS; go_simp; try with_reducible rfl)
                    · (go_simp; try with_reducible rfl)
                    refine held_take (i := 4) (v := ?_) (a' := ?_) rfl (by kernel_rfl) (by kernel_rfl) (by kernel_rfl) (fun _ _ _ h => h) (by rfl) hcls ?_ ?_ ?_
                    rotate_left 2
                    · (intro w hS; go_simp; try with_reducible rfl)
                    · (go_simp; try with_reducible rfl)
                    refine held_take (i := 5) (v := ?_) (a' := ?_) rfl (by kernel_rfl) (by kernel_rfl) (by kernel_rfl) (fun _ _ _ h => h) (by rfl) hcls ?_ ?_ ?_
                    rotate_left 2
                    · (intro w hS; go_simp; try with_reducible rfl)
                    · (go_simp; try with_reducible rfl)
                    refine held_take (i := 6) (v := ?_) (a' := ?_) rfl (by kernel_rfl) (by kernel_rfl) (by kernel_rfl) (fun _ _ _ h => h) (by rfl) hcls ?_ ?_ ?_
                    rotate_left 2
                    · (intro w hS; go_simp; try with_reducible rfl)
                    · (go_simp; try with_reducible rfl)
                    refine held_take (i := 7) (v := ?_) (a' := ?_) rfl (by kernel_rfl) (by kernel_rfl) (by kernel_rfl) (fun _ _ _ h => h) (by rfl) hcls ?_ ?_ ?_
                    rotate_left 2
                    · (intro w hS; refine exec_load_at 30 (.tmp 23) ?_ gd 0 ?_ KD _ (At.of_row (HDx.out.below hS hgd)) Try.underlying30 rfl HID.out; exact rfl; exact rfl)
                    · (go_simp; try with_reducible rfl)
                    refine held_take (i := 9) (v := ?_) (a' := ?_) rfl (by kernel_rfl) (by kernel_rfl) (by kernel_rfl) (fun _ _ _ h => h) (by rfl) hcls ?_ ?_ ?_
                    rotate_left 2
                    · (intro w hS; refine exec_load_at 30 (.tmp 5) ?_ (g + 1) 0 ?_ KC _ (At.of_row (HKx.out.below hS hgx)) Try.underlying30 rfl HIC.out; exact rfl; exact rfl)
                    · (go_simp; try with_reducible rfl)
                    refine held_ready (rs := [8]) (by kernel_rfl) (by simp) ?_
                    refine AllHeld.cons rfl (fun KR hKR => ?_) ?_
                    · go_simp
                      have HCA := Lib.hid (com_as i0 A3 n2 c3 fc au nt wd H32.out)
                      rw [← HKD.out] at HCA
                      refine HCA.out.mono ?_
                      rintro e w20 ⟨rfl, hb⟩
                      have hb20 := hcls.trans (hb.mono hcls.size)
                      clear HCA hb
                      refine hKR _ _ hb20 ?_
                      clear hKR KR
                      refine held_ready (rs := [10]) (by kernel_rfl) (by simp) ?_
                      refine AllHeld.cons rfl (fun KR hKR => ?_) ?_
                      · go_simp
                        have HCA := Lib.hid (com_as i0 A2 n2 c2 fc au nt w20 H32.out)
                        rw [← HKC.out] at HCA
                        refine HCA.out.mono ?_
                        rintro e w21 ⟨rfl, hb⟩
                        have hb21 := hb20.trans (hb.mono hb20.size)
                        clear HCA hb
                        have HCS := Lib.hid (coms_same i0 A3 A2 n2 c3 c2 fc ps au nt w21 H32.out (HSx.out.below hb21) (HAx.out.below hb21) HN2.out (by omega))
                        rw [← HKC.out, ← HKD.out] at HCS
                        refine hKR _ _ hb21 ?_
                        clear hKR KR
                        refine held_ready (rs := [11]) (by kernel_rfl) (by simp) ?_
                        refine AllHeld.cons rfl (fun KR hKR => ?_) ?_
                        · go_simp
                          refine HCS.out.mono ?_
                          rintro e w22 ⟨rfl, hb⟩
                          have hb22 := hb21.trans (hb.mono hb21.size)
                          clear HCS hb
                          refine hKR _ _ hb22 ?_
                          clear hKR KR
                          refine held_take (i := 12) (v := ?_) (a' := ?_) rfl (by kernel_rfl) (by kernel_rfl) (by kernel_rfl) (fun _ _ _ h => h) (by rfl) hb22 ?_ ?_ ?_
                          rotate_left 2
                          · (intro w hS; go_simp; try with_reducible rfl)
                          · (go_simp; try with_reducible rfl)
                          refine held_take (i := 13) (v := ?_) (a' := ?_) rfl (by kernel_rfl) (by kernel_rfl) (by kernel_rfl) (fun _ _ _ h => h) (by rfl) hb22 ?_ ?_ ?_
                          rotate_left 2
                          · (intro w hS; go_simp; try with_reducible rfl)
                          · (go_simp; try with_reducible rfl)
                          refine held_take (i := 14) (v := ?_) (a' := ?_) rfl (by kernel_rfl) (by kernel_rfl) (by kernel_rfl) (fun _ _ _ h => h) (by rfl) hb22 ?_ ?_ ?_
                          rotate_left 2
                          · (intro w hS; go_simp; try with_reducible rfl)
                          · (go_simp; try with_reducible rfl)
                          refine held_take (i := 15) (v := ?_) (a' := ?_) rfl (by kernel_rfl) (by kernel_rfl) (by kernel_rfl) (fun _ _ _ h => h) (by rfl) hb22 ?_ ?_ ?_
                          rotate_left 2
                          · (intro w hS; go_simp; try with_reducible rfl)
                          · (go_simp; try with_reducible rfl)
                          refine held_take (i := 16) (v := ?_) (a' := ?_) rfl (by kernel_rfl) (by kernel_rfl) (by kernel_rfl) (fun _ _ _ h => h) (by rfl) hb22 ?_ ?_ ?_
                          rotate_left 2
                          · (intro w hS; go_simp; try with_reducible rfl)
                          · (go_simp; try with_reducible rfl)
                          refine held_take (i := 17) (v := ?_) (a' := ?_) rfl (by kernel_rfl) (by kernel_rfl) (by kernel_rfl) (fun _ _ _ h => h) (by rfl) hb22 ?_ ?_ ?_
                          rotate_left 2
                          · (intro w hS; have t := (hS.cell (p := ⟨g + 1, 32, none⟩) hgx).trans X32.out; go_simp; try with_reducible rfl)
                          · (go_simp; try with_reducible rfl)
                          refine held_take (i := 18) (v := ?_) (a' := ?_) rfl (by kernel_rfl) (by kernel_rfl) (by kernel_rfl) (fun _ _ _ h => h) (by rfl) hb22 ?_ ?_ ?_
                          rotate_left 2
                          · (intro w hS; go_simp; try with_reducible rfl)
                          · (go_simp; try with_reducible rfl)
                          refine held_take (i := 19) (v := ?_) (a' := ?_) rfl (by kernel_rfl) (by kernel_rfl) (by kernel_rfl) (fun _ _ _ h => h) (by rfl) hb22 ?_ ?_ ?_
                          rotate_left 2
                          · (intro w hS; go_simp; try with_reducible rfl)
                          · (go_simp; try with_reducible rfl)
                          refine held_take (i := 20) (v := ?_) (a' := ?_) rfl (by kernel_rfl) (by kernel_rfl) (by kernel_rfl) (fun _ _ _ h => h) (by rfl) hb22 ?_ ?_ ?_
                          rotate_left 2
                          · (intro w hS; go_simp; try with_reducible rfl)
                          · (go_simp; try with_reducible rfl)
                          refine held_take (i := 21) (v := ?_) (a' := ?_) rfl (by kernel_rfl) (by kernel_rfl) (by kernel_rfl) (fun _ _ _ h => h) (by rfl) hb22 ?_ ?_ ?_
                          rotate_left 2
                          · (intro w hS; go_simp; try with_reducible rfl)
                          · (go_simp; try with_reducible rfl)
                          refine held_take (i := 22) (v := ?_) (a' := ?_) rfl (by kernel_rfl) (by kernel_rfl) (by kernel_rfl) (fun _ _ _ h => h) (by rfl) hb22 ?_ ?_ ?_
                          rotate_left 2
                          · (intro w hS; go_simp; try with_reducible rfl)
                          · (go_simp; try with_reducible rfl)
                          refine held_take (i := 23) (v := ?_) (a' := ?_) rfl (by kernel_rfl) (by kernel_rfl) (by kernel_rfl) (fun _ _ _ h => h) (by rfl) hb22 ?_ ?_ ?_
                          rotate_left 2
                          · (intro w hS; go_simp; try with_reducible rfl)
                          · (go_simp; try with_reducible rfl)
                          refine held_take (i := 24) (v := ?_) (a' := ?_) rfl (by kernel_rfl) (by kernel_rfl) (by kernel_rfl) (fun _ _ _ h => h) (by rfl) hb22 ?_ ?_ ?_
                          rotate_left 2
                          · (intro w hS; go_simp; try with_reducible rfl)
                          · (go_simp; try with_reducible rfl)
                          refine held_take (i := 25) (v := ?_) (a' := ?_) rfl (by kernel_rfl) (by kernel_rfl) (by kernel_rfl) (fun _ _ _ h => h) (by rfl) hb22 ?_ ?_ ?_
                          rotate_left 2
                          · (intro w hS; refine exec_load_at 27 (.tmp 241) ?_ b5 o5 ?_ KB _ (HAT0.out.below hS hb5) Try.underlying27 rfl HIB.out; exact rfl; exact rfl)
                          · (go_simp; try with_reducible rfl)
                          refine held_take (i := 26) (v := ?_) (a' := ?_) rfl (by kernel_rfl) (by kernel_rfl) (by kernel_rfl) (fun _ _ _ h => h) (by rfl) hb22 ?_ ?_ ?_
                          rotate_left 2
                          · (intro w hS; go_simp; try with_reducible rfl)
                          · (go_simp; try with_reducible rfl)
                          refine held_take (i := 27) (v := ?_) (a' := ?_) rfl (by kernel_rfl) (by kernel_rfl) (by kernel_rfl) (fun _ _ _ h => h) (by rfl) hb22 ?_ ?_ ?_
                          rotate_left 2
                          · (intro w hS; refine exec_load_at 27 (.tmp 243) ?_ (g + 1) 0 ?_ KB _ (HAT1.out.below hS hgx) Try.underlying27 rfl HIB.out; exact rfl; exact rfl)
                          · (go_simp; try with_reducible rfl)
                          refine held_take (i := 28) (v := ?_) (a' := ?_) rfl (by kernel_rfl) (by kernel_rfl) (by kernel_rfl) (fun _ _ _ h => h) (by rfl) hb22 ?_ ?_ ?_
                          rotate_left 2
                          · (intro w hS; go_simp; try with_reducible rfl)
                          · (go_simp; try with_reducible rfl)
                          refine held_take (i := 29) (v := ?_) (a' := ?_) rfl (by kernel_rfl) (by kernel_rfl) (by kernel_rfl) (fun _ _ _ h => h) (by rfl) hb22 ?_ ?_ ?_
                          rotate_left 2
                          · (intro w hS; go_simp; try with_reducible rfl)
                          · (go_simp; try with_reducible rfl)
                          refine held_take (i := 30) (v := ?_) (a' := ?_) rfl (by kernel_rfl) (by kernel_rfl) (by kernel_rfl) (fun _ _ _ h => h) (by rfl) hb22 ?_ ?_ ?_
                          rotate_left 2
                          · (intro w hS; go_simp; try with_reducible rfl)
                          · (go_simp; try with_reducible rfl)
                          refine held_take (i := 31) (v := ?_) (a' := ?_) rfl (by kernel_rfl) (by kernel_rfl) (by kernel_rfl) (fun _ _ _ h => h) (by rfl) hb22 ?_ ?_ ?_
                          rotate_left 2
                          · (intro w hS; go_simp; try with_reducible rfl)
                          · (go_simp; try with_reducible rfl)
                          refine held_take (i := 32) (v := ?_) (a' := ?_) rfl (by kernel_rfl) (by kernel_rfl) (by kernel_rfl) (fun _ _ _ h => h) (by rfl) hb22 ?_ ?_ ?_
                          rotate_left 2
                          · (intro w hS; go_simp; try with_reducible rfl)
                          · (go_simp; try with_reducible rfl)
                          refine held_take (i := 33) (v := ?_) (a' := ?_) rfl (by kernel_rfl) (by kernel_rfl) (by kernel_rfl) (fun _ _ _ h => h) (by rfl) hb22 ?_ ?_ ?_
                          rotate_left 2
                          · (intro w hS; go_simp; try with_reducible rfl)
                          · (go_simp; try with_reducible rfl)
                          refine held_take (i := 34) (v := ?_) (a' := ?_) rfl (by kernel_rfl) (by kernel_rfl) (by kernel_rfl) (fun _ _ _ h => h) (by rfl) hb22 ?_ ?_ ?_
                          rotate_left 2
                          · (intro w hS; have t := (hS.cell (p := ⟨g + 1, 32, none⟩) hgx).trans X32.out; go_simp; try with_reducible rfl)
                          · (go_simp; try with_reducible rfl)
                          refine held_ready (rs := [35]) (by kernel_rfl) (by simp) ?_
                          refine AllHeld.cons rfl (fun KR hKR => ?_) ?_
                          · go_simp
                            refine (HIS.out _ hb22).mono ?_
                            rintro e w23 ⟨rfl, hb⟩
                            have hb23 := hb22.trans (hb.mono hb22.size)
                            refine hKR _ _ hb23 ?_
                            clear hKR KR
                            refine held_take (i := 36) (v := ?_) (a' := ?_) rfl (by kernel_rfl) (by kernel_rfl) (by kernel_rfl) (fun _ _ _ h => h) (by rfl) hb23 ?_ ?_ ?_
                            rotate_left 2
                            · (intro w hS; go_simp; try with_reducible rfl)
                            · (go_simp; try with_reducible rfl)
                            refine held_take (i := 37) (v := ?_) (a' := ?_) rfl (by kernel_rfl) (by kernel_rfl) (by kernel_rfl) (fun _ _ _ h => h) (by rfl) hb23 ?_ ?_ ?_
                            rotate_left 2
                            · (intro w hS; go_simp; try with_reducible rfl)
                            · (go_simp; try with_reducible rfl)
                            refine wpAnyH_done (by kernel_rfl) ?_ _
                            clear heq
                            go_wp2_with fail
                            go_ret
                            rw [HG.out]
                            exact ⟨rfl, HBx.out.trans (hb23.mono HSX.out)⟩
                          exact AllHeld.nil
                        exact AllHeld.nil
                      exact AllHeld.nil
                    exact AllHeld.nil
          · have hzb : (z3 != 0) = true := by simp [hz]
            obtain rfl : m3 = 0 := Y3.out hz
            clear hz
            go_wp2_with fail
            go_ret
            rw [HG.out]
            exact ⟨rfl, HB8.out⟩
end Go.Proofs.Ytpafhajpnepecaa
