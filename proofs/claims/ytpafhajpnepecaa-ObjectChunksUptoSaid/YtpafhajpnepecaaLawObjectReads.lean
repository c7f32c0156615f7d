/- The walk of the law ObjectReads: bytes are read as records, or refused, as the document says. -/
import Derived.Test.YtpafhajpnepecaaJn19
import Derived.Test.YtpafhajpnepecaaJn28
import Derived.Test.YtpafhajpnepecaaJn30
set_option linter.unusedVariables false
set_option linter.unusedSimpArgs false
namespace Go.Proofs.Ytpafhajpnepecaa
open Go.RowKit
attribute [local go_sem ↓] cvt_eq

def okX : Res BlobT → BlobT
  | .ok x => x
  | .error _ => ([], 0)
def okT : Res (List EntT) → List EntT
  | .ok x => x
  | .error _ => []
def okC : Res ComT → ComT
  | .ok x => x
  | .error _ => (zId, [], 0, ⟨#[]⟩, ⟨#[]⟩)
def okK : Res Nat → Nat
  | .ok x => x
  | .error _ => 0
def okL : Res (List (List UInt8)) → List (List UInt8)
  | .ok x => x
  | .error _ => []
theorem ChunkPost.use {w w' : World} {R : Res (List UInt8)} {e : Ending} (h : ChunkPost w R e w') : (∃ A c, e = .returned (.tuple #[.slice A (okB R).length c, .int .i64 (okZ R)]) ∧ Sl w' 1 A (okB R).length (bytesV (okB R)) ∧ (okB R).length ≤ c ∧ c ≤ maxLen) ∧ Below w.heap.size w w' := by
  obtain ⟨hb, h⟩ := h
  refine ⟨?_, hb⟩
  cases R with
  | error z => exact ⟨none, 0, h, Sl.nil, Nat.le_refl _, Nat.zero_le _⟩
  | ok o => exact h
theorem BlobPost.use {w w' : World} {R : Res BlobT} {e : Ending} (h : BlobPost w R e w') : (∃ A c, e = .returned (.tuple #[.agg #[.slice A (okX R).1.length c, .int .i64 (okX R).2], .int .i64 (okZ R)]) ∧ SlOf oidR w' (fun b => b < w.heap.size) A (okX R).1 ∧ (okX R).1.length ≤ c ∧ c ≤ maxLen) ∧ Below w.heap.size w w' := by
  obtain ⟨hb, h⟩ := h
  refine ⟨?_, hb⟩
  cases R with
  | error z => exact ⟨none, 0, h, SlOf.nil, Nat.le_refl _, Nat.zero_le _⟩
  | ok o => exact h
theorem TreePost.use {w w' : World} {R : Res (List EntT)} {e : Ending} (h : TreePost w R e w') : (∃ A c, e = .returned (.tuple #[.slice A (okT R).length c, .int .i64 (okZ R)]) ∧ SlOf entR w' (fun b => b < w.heap.size) A (okT R) ∧ (okT R).length ≤ c ∧ c ≤ maxLen) ∧ Below w.heap.size w w' := by
  obtain ⟨hb, h⟩ := h
  refine ⟨?_, hb⟩
  cases R with
  | error z => exact ⟨none, 0, h, SlOf.nil, Nat.le_refl _, Nat.zero_le _⟩
  | ok o => exact h
theorem ComPost.use {w w' : World} {R : Res ComT} {e : Ending} (h : ComPost w R e w') : (∃ A c, e = .returned (.tuple #[.agg (comK (okC R).1 A (okC R).2.1.length c (okC R).2.2.1 (okC R).2.2.2.1 (okC R).2.2.2.2), .int .i64 (okZ R)]) ∧ (okC R).1.length = 32 ∧ SlOf oidR w' (fun b => b < w.heap.size) A (okC R).2.1 ∧ (okC R).2.1.length ≤ c ∧ c ≤ maxLen) ∧ Below w.heap.size w w' := by
  obtain ⟨hb, h⟩ := h
  refine ⟨?_, hb⟩
  cases R with
  | error z => exact ⟨none, 0, h, by simp [okC], SlOf.nil, Nat.le_refl _, Nat.zero_le _⟩
  | ok o => obtain ⟨A, c, h1, h2⟩ := h; exact ⟨A, c, h1, h2⟩
theorem KindPost.use {w w' : World} {R : Res Nat} {e : Ending} (h : KindPost w R e w') : e = .returned (.tuple #[.int .i64 (okK R : Int), .int .i64 (okZ R)]) ∧ Below w.heap.size w w' := by
  obtain ⟨hb, h⟩ := h
  refine ⟨?_, hb⟩
  cases R with
  | error z => exact h.1
  | ok o => exact h.1
theorem LinksPost.use {w w' : World} {R : Res (List (List UInt8))} {e : Ending} (h : LinksPost w R e w') : (∃ A c, e = .returned (.tuple #[.slice A (okL R).length c, .int .i64 (okZ R)]) ∧ SlOf oidR w' (fun b => b < w.heap.size) A (okL R) ∧ (okL R).length ≤ c ∧ c ≤ maxLen) ∧ Below w.heap.size w w' := by
  obtain ⟨hb, h⟩ := h
  refine ⟨?_, hb⟩
  cases R with
  | error z => exact ⟨none, 0, h, SlOf.nil, Nat.le_refl _, Nat.zero_le _⟩
  | ok o => exact h
theorem okX_len (l : List UInt8) : (okX (getBlob l)).1.length ≤ 4096 := by
  cases h : getBlob l with
  | error z => simp [okX]
  | ok x =>
    have h1 := (blob_only h).1
    unfold putBlob at h1
    split at h1
    · cases h1
    · simp only [okX]; omega
theorem okT_len (l : List UInt8) : (okT (getTree l)).length ≤ 1024 := by
  cases h : getTree l with
  | error z => simp [okT]
  | ok x => exact getTree_len h
theorem okC_len (l : List UInt8) : (okC (getCommit l)).2.1.length ≤ 8 := by
  cases h : getCommit l with
  | error z => simp [okC]
  | ok x => exact getCommit_len h
theorem okL_len (l : List UInt8) : (okL (linksG l)).length ≤ 10000 := by
  cases h : linksG l with
  | error z => simp [okL]
  | ok x =>
    obtain ⟨k, hk, h2⟩ := links_some h
    simp only [okL]
    rcases h2 with ⟨_, b, hb⟩ | ⟨_, b, hb⟩ | ⟨_, b, hb⟩ | ⟨_, b, hb⟩
    · rw [links_chunk hb] at h; injection h with h; subst h; simp
    · rw [links_blob hb] at h; injection h with h; subst h
      have := okX_len l; rw [hb] at this; simp only [okX] at this; omega
    · rw [links_tree hb] at h; injection h with h; subst h
      have := getTree_len hb; simp; omega
    · rw [links_com hb] at h; injection h with h; subst h
      have := getCommit_len hb; simp; omega

set_option maxRecDepth 100000 in
set_option maxHeartbeats 8000000 in
theorem objectReads_any (A : Option Addr) (n c : Nat) (l : List UInt8) (W0 : World) (hs : Sl W0 1 A n (bytesV l)) (hnc : n ≤ c) (hcm : c ≤ maxLen) (_ : n ≤ 1048576) :
    Calls Try.prog 4 #[.slice A n c] W0 fun e w' => e = .returned (.bool true) ∧ Below W0.heap.size W0 w' := by
  have HS := Lib.hid hs
  have HC := Lib.hid (And.intro hnc hcm)
  have hsl : sB ⟨l.toArray⟩ = l := sB_mk l
  have R1 := Lib.hid (fun w => refGetChunk_any ⟨l.toArray⟩ w)
  have R2 := Lib.hid (fun w => refGetBlob_any ⟨l.toArray⟩ w)
  have R3 := Lib.hid (fun w => refGetTree_any ⟨l.toArray⟩ w)
  have R4 := Lib.hid (fun w => refGetCommit_any ⟨l.toArray⟩ w)
  have R5 := Lib.hid (fun w => refKind_any ⟨l.toArray⟩ w)
  have R6 := Lib.hid (fun w => refLinks_any ⟨l.toArray⟩ w)
  rw [hsl] at R1 R2 R3 R4 R5 R6
  obtain ⟨D1, hD1⟩ : ∃ D, D = getChunk l := ⟨_, rfl⟩
  obtain ⟨D2, hD2⟩ : ∃ D, D = getBlob l := ⟨_, rfl⟩
  obtain ⟨D3, hD3⟩ : ∃ D, D = getTree l := ⟨_, rfl⟩
  obtain ⟨D4, hD4⟩ : ∃ D, D = getCommit l := ⟨_, rfl⟩
  obtain ⟨D5, hD5⟩ : ∃ D, D = kindG l := ⟨_, rfl⟩
  obtain ⟨D6, hD6⟩ : ∃ D, D = linksG l := ⟨_, rfl⟩
  have P1 := Lib.hid (fun w (h : Below W0.heap.size W0 w) => getChunk_any A n c l w (hs.below h) hnc hcm)
  have P2 := Lib.hid (fun w (h : Below W0.heap.size W0 w) => getBlob_any A n c l w (hs.below h) hnc hcm)
  have P3 := Lib.hid (fun w (h : Below W0.heap.size W0 w) => getTree_any A n c l w (hs.below h) hnc hcm)
  have P4 := Lib.hid (fun w (h : Below W0.heap.size W0 w) => getCommit_any A n c l w (hs.below h) hnc hcm)
  have P5 := Lib.hid (fun w (h : Below W0.heap.size W0 w) => kind_any A n c l w (hs.below h) hnc hcm)
  have P6 := Lib.hid (fun w (h : Below W0.heap.size W0 w) => links_any A n c l w (hs.below h) hnc hcm)
  have L2 := Lib.hid (okX_len l)
  have L3 := Lib.hid (okT_len l)
  have L4 := Lib.hid (okC_len l)
  have L6 := Lib.hid (okL_len l)
  rw [← hD1] at R1 P1
  rw [← hD2] at R2 P2 L2
  rw [← hD3] at R3 P3 L3
  rw [← hD4] at R4 P4 L4
  rw [← hD5] at R5 P5
  rw [← hD6] at R6 P6 L6
  clear hs hnc hcm hsl hD1 hD2 hD3 hD4 hD5 hD6
  go_enter Try.func4, Try.ntmps4
  go_wp2_with fail
  refine (awake_obj _).mono ?_
  rintro e w1 ⟨rfl, hb1⟩
  have HB1 := Lib.hid hb1
  have hcv : cvt w1 A n c = .ok (.string ⟨l.toArray⟩) w1 := cvt_of (HS.out.below hb1) c
  clear hb1
  -- GetChunk
  go_wp2_with fail
  refine (P1.out _ HB1.out).mono ?_
  intro e w2 hp
  obtain ⟨⟨A2, c2, rfl, hs2, hcc2, hcm2⟩, hb2⟩ := hp.use
  obtain ⟨o1, ho1⟩ : ∃ o1, o1 = okB D1 := ⟨_, rfl⟩
  obtain ⟨z1, hz1⟩ : ∃ z1, z1 = okZ D1 := ⟨_, rfl⟩
  have R1' := Lib.hid (fun w e w' (h : RefEnc w D1 e w') => RefEnc.use h)
  rw [← ho1] at hs2 hcc2 R1' ⊢
  rw [← hz1] at R1' ⊢
  have HS2 := Lib.hid hs2
  have HB2 := Lib.hid (HB1.out.trans (hb2.mono HB1.out.size))
  obtain ⟨n1, hn1⟩ : ∃ n1, n1 = o1.length := ⟨_, rfl⟩
  rw [← hn1]
  have HN1 := Lib.hid hn1
  clear hs2 hcc2 hcm2 hb2 hp HB1 hcv ho1 hz1 hn1 P1
  go_wp2_with fail
  refine (R1.out _).mono ?_
  intro e w3 hp
  obtain ⟨rfl, hb3⟩ := R1'.out _ _ _ hp
  have HB3 := Lib.hid (HB2.out.trans (hb3.mono HB2.out.size))
  have HS3 := Lib.hid (HS2.out.below hb3)
  clear hb3 hp R1 R1' HB2 HS2
  -- GetBlob
  go_wp2_with fail
  refine (P2.out _ HB3.out).mono ?_
  intro e w4 hp
  obtain ⟨⟨A4, c4, rfl, hs4, hcc4, hcm4⟩, hb4⟩ := hp.use
  obtain ⟨x2, hx2⟩ : ∃ x2, x2 = okX D2 := ⟨_, rfl⟩
  obtain ⟨z2, hz2⟩ : ∃ z2, z2 = okZ D2 := ⟨_, rfl⟩
  have R2' := Lib.hid (fun w e w' (h : BlobPost w D2 e w') => BlobPost.use h)
  rw [← hx2] at hs4 hcc4 R2' L2 ⊢
  rw [← hz2] at R2' ⊢
  obtain ⟨x2, s2⟩ := x2
  simp only at hs4 hcc4 R2' L2 ⊢
  obtain ⟨n2, hn2⟩ : ∃ n2, n2 = x2.length := ⟨_, rfl⟩
  rw [← hn2] at R2' ⊢
  have HN2 := Lib.hid hn2
  have HB4 := Lib.hid (HB3.out.trans (hb4.mono HB3.out.size))
  have HS4 := Lib.hid (HS3.out.below hb4)
  have HX4 := Lib.hid (show SlOf oidR w4 no A4 x2 from hs4.stable (Moves.forget _ _))
  obtain ⟨KX, hKX⟩ : ∃ KX : Array Value, KX = #[.slice A4 n2 c4, .int .i64 s2] := ⟨_, rfl⟩
  have HI := Lib.hid (show (Try.prog.info? 24).map (·.size) = some KX.size by rw [hKX]; exact blob_info)
  have HO := Lib.hid (show KX.all (·.oneCell') = true by rw [hKX]; simp [Value.oneCell'])
  have HZ := Lib.hid (show zBlob.size = KX.size by rw [hKX]; rfl)
  have HBN := Lib.hid (Blk.new w4 24 zBlob)
  have hal : Below w4.heap.size w4 (w4.alloc (.cells KX 24)) := (Below.refl _ _).alloc (Nat.le_refl _) _
  have HB5 := Lib.hid (HB4.out.trans (hal.mono HB4.out.size))
  have HS5 := Lib.hid (HS4.out.below hal)
  have HX5 := Lib.hid (HX4.out.below hal)
  have HG5 := Lib.hid (Blk.new w4 24 KX)
  have HK2 := Lib.hid (show KX[0]? = some (.slice A4 n2 c4) ∧ KX[1]? = some (.int .i64 s2) by rw [hKX]; exact ⟨rfl, rfl⟩)
  rw [← hKX]
  clear hs4 hcc4 hcm4 hb4 hp HB3 HS3 hx2 hz2 hn2 P2 hal hKX HB4 HS4 HX4
  go_upto_region 7 with (first | (refine wpList_store_row rfl _ _ _ rfl w4.heap.size KX rfl rfl 24 _ HBN.out HI.out HZ.out HO.out ?_) | fail)
  rw [World.setRow_alloc_new]
  clear HBN HI HO HZ
  generalize w4.alloc (.cells KX 24) = w5 at *
  generalize w4.heap.size = g5 at *
  go_wp2_with fail
  refine (R2.out _).mono ?_
  intro e w6 hp
  obtain ⟨⟨A6, c6, rfl, hs6, hcc6, hcm6⟩, hb6⟩ := R2'.out _ _ _ hp
  have HB6 := Lib.hid (HB5.out.trans (hb6.mono HB5.out.size))
  have HS6 := Lib.hid (HS5.out.below hb6)
  have HX6 := Lib.hid (HX5.out.below hb6)
  have HG6 := Lib.hid (HG5.out.below hb6 HG5.out.lt)
  have HY6 := Lib.hid (show SlOf oidR w6 no A6 x2 from hs6.stable (Moves.forget _ _))
  obtain ⟨KX, hKX⟩ : ∃ KX : Array Value, KX = #[.slice A6 n2 c6, .int .i64 s2] := ⟨_, rfl⟩
  have HI := Lib.hid (show (Try.prog.info? 38).map (·.size) = some KX.size by rw [hKX]; exact rblob_info)
  have HO := Lib.hid (show KX.all (·.oneCell') = true by rw [hKX]; simp [Value.oneCell'])
  have HZ := Lib.hid (show zBlob.size = KX.size by rw [hKX]; rfl)
  have HBN := Lib.hid (Blk.new w6 38 zBlob)
  have hal : Below w6.heap.size w6 (w6.alloc (.cells KX 38)) := (Below.refl _ _).alloc (Nat.le_refl _) _
  have HB7 := Lib.hid (HB6.out.trans (hal.mono HB6.out.size))
  have HS7 := Lib.hid (HS6.out.below hal)
  have HX7 := Lib.hid (HX6.out.below hal)
  have HG7 := Lib.hid (HG6.out.below hal HG6.out.lt)
  have HY7 := Lib.hid (HY6.out.below hal)
  have HH7 := Lib.hid (Blk.new w6 38 KX)
  have HK3 := Lib.hid (show KX[0]? = some (.slice A6 n2 c6) ∧ KX[1]? = some (.int .i64 s2) by rw [hKX]; exact ⟨rfl, rfl⟩)
  rw [← hKX]
  clear hs6 hcc6 hcm6 hb6 hp R2 R2' HB5 HS5 HX5 HG5 hal hKX HB6 HS6 HX6 HG6 HY6
  go_upto_region 8 with (first | (refine wpList_store_row rfl _ _ _ rfl w6.heap.size KX rfl rfl 38 _ HBN.out HI.out HZ.out HO.out ?_) | fail)
  rw [World.setRow_alloc_new]
  clear HBN HI HO HZ
  generalize w6.alloc (.cells KX 38) = w7 at *
  generalize w6.heap.size = g7 at *
  -- GetTree
  go_wp2_with fail
  refine (P3.out _ HB7.out).mono ?_
  intro e w8 hp
  obtain ⟨⟨A8, c8, rfl, hs8, hcc8, hcm8⟩, hb8⟩ := hp.use
  obtain ⟨x3, hx3⟩ : ∃ x3, x3 = okT D3 := ⟨_, rfl⟩
  obtain ⟨z3, hz3⟩ : ∃ z3, z3 = okZ D3 := ⟨_, rfl⟩
  have R3' := Lib.hid (fun w e w' (h : TreePost w D3 e w') => TreePost.use h)
  rw [← hx3] at hs8 hcc8 R3' L3 ⊢
  rw [← hz3] at R3' ⊢
  obtain ⟨n3, hn3⟩ : ∃ n3, n3 = x3.length := ⟨_, rfl⟩
  rw [← hn3] at R3' ⊢
  have HN3 := Lib.hid hn3
  have HB8 := Lib.hid (HB7.out.trans (hb8.mono HB7.out.size))
  have HS8 := Lib.hid (HS7.out.below hb8)
  have HX8 := Lib.hid (HX7.out.below hb8)
  have HY8 := Lib.hid (HY7.out.below hb8)
  have HG8 := Lib.hid (HG7.out.below hb8 HG7.out.lt)
  have HH8 := Lib.hid (HH7.out.below hb8 HH7.out.lt)
  have HT8 := Lib.hid (show SlOf entR w8 no A8 x3 from hs8.stable (Moves.forget _ _))
  clear hs8 hcc8 hcm8 hb8 hp HB7 HS7 HX7 HY7 HG7 HH7 hx3 hz3 hn3 P3
  go_wp2_with fail
  refine (R3.out _).mono ?_
  intro e w9 hp
  obtain ⟨⟨A9, c9, rfl, hs9, hcc9, hcm9⟩, hb9⟩ := R3'.out _ _ _ hp
  have HB9 := Lib.hid (HB8.out.trans (hb9.mono HB8.out.size))
  have HS9 := Lib.hid (HS8.out.below hb9)
  have HX9 := Lib.hid (HX8.out.below hb9)
  have HY9 := Lib.hid (HY8.out.below hb9)
  have HG9 := Lib.hid (HG8.out.below hb9 HG8.out.lt)
  have HH9 := Lib.hid (HH8.out.below hb9 HH8.out.lt)
  have HT9 := Lib.hid (HT8.out.below hb9)
  have HU9 := Lib.hid (show SlOf entR w9 no A9 x3 from hs9.stable (Moves.forget _ _))
  clear hs9 hcc9 hcm9 hb9 hp HB8 HS8 HX8 HY8 HG8 HH8 HT8 R3 R3'
  -- GetCommit
  go_wp2_with fail
  refine (P4.out _ HB9.out).mono ?_
  intro e w10 hp
  obtain ⟨⟨A10, c10, rfl, h32, hs10, hcc10, hcm10⟩, hb10⟩ := hp.use
  obtain ⟨x4, hx4⟩ : ∃ x4, x4 = okC D4 := ⟨_, rfl⟩
  obtain ⟨z4, hz4⟩ : ∃ z4, z4 = okZ D4 := ⟨_, rfl⟩
  have R4' := Lib.hid (fun w e w' (h : ComPost w D4 e w') => ComPost.use h)
  rw [← hx4] at h32 hs10 hcc10 R4' L4 ⊢
  rw [← hz4] at R4' ⊢
  obtain ⟨tr, ps, f, au, nt⟩ := x4
  simp only at h32 hs10 hcc10 R4' L4 ⊢
  obtain ⟨n4, hn4⟩ : ∃ n4, n4 = ps.length := ⟨_, rfl⟩
  rw [← hn4] at R4' ⊢
  have HN4 := Lib.hid hn4
  have H32 := Lib.hid h32
  have HB10 := Lib.hid (HB9.out.trans (hb10.mono HB9.out.size))
  obtain ⟨KC, hKC⟩ : ∃ KC : Array Value, KC = comK tr A10 n4 c10 f au nt := ⟨_, rfl⟩
  have HI := Lib.hid (show (Try.prog.info? 30).map (·.size) = some KC.size by rw [hKC]; exact comK_info h32 _ _ _ _ _ _)
  have HO := Lib.hid (show KC.all (·.oneCell') = true by rw [hKC]; exact comK_one _ _ _ _ _ _ _)
  have HZ := Lib.hid (show zCom.size = KC.size by rw [hKC, comK_size h32, comK_size (by simp)])
  have HBN := Lib.hid (Blk.new w10 30 zCom)
  have hal : Below w10.heap.size w10 (w10.alloc (.cells KC 30)) := (Below.refl _ _).alloc (Nat.le_refl _) _
  have hb11 : Below w9.heap.size w9 (w10.alloc (.cells KC 30)) := hb10.trans (hal.mono hb10.size)
  have HB11 := Lib.hid (HB9.out.trans (hb11.mono HB9.out.size))
  have HS11 := Lib.hid (HS9.out.below hb11)
  have HX11 := Lib.hid (HX9.out.below hb11)
  have HY11 := Lib.hid (HY9.out.below hb11)
  have HG11 := Lib.hid (HG9.out.below hb11 HG9.out.lt)
  have HH11 := Lib.hid (HH9.out.below hb11 HH9.out.lt)
  have HT11 := Lib.hid (HT9.out.below hb11)
  have HU11 := Lib.hid (HU9.out.below hb11)
  have HP11 := Lib.hid (show SlOf oidR (w10.alloc (.cells KC 30)) no A10 ps from (hs10.stable (Moves.forget _ _)).below hal)
  have HC11 := Lib.hid (Blk.new w10 30 KC)
  have HKC := Lib.hid hKC
  rw [← hKC]
  clear h32 hs10 hcc10 hcm10 hb10 hp HB9 HS9 HX9 HY9 HG9 HH9 HT9 HU9 hx4 hz4 hn4 P4 hal hKC HB10 hb11
  go_upto_region 11 with (first | (refine wpList_store_row rfl _ _ _ rfl w10.heap.size KC rfl rfl 30 _ HBN.out HI.out HZ.out HO.out ?_) | fail)
  rw [World.setRow_alloc_new]
  clear HBN HO HZ
  have HIC := HI
  clear HI
  generalize w10.alloc (.cells KC 30) = w11 at *
  generalize w10.heap.size = g11 at *
  go_wp2_with fail
  refine (R4.out _).mono ?_
  intro e w12 hp
  obtain ⟨⟨A12, c12, rfl, _, hs12, hcc12, hcm12⟩, hb12⟩ := R4'.out _ _ _ hp
  obtain ⟨KD, hKD⟩ : ∃ KD : Array Value, KD = comK tr A12 n4 c12 f au nt := ⟨_, rfl⟩
  have HI := Lib.hid (show (Try.prog.info? 46).map (·.size) = some KD.size by rw [hKD, comK_size H32.out]; exact rcom_info)
  have HO := Lib.hid (show KD.all (·.oneCell') = true by rw [hKD]; exact comK_one _ _ _ _ _ _ _)
  have HZ := Lib.hid (show zCom.size = KD.size by rw [hKD, comK_size H32.out, comK_size (by simp)])
  have HBN := Lib.hid (Blk.new w12 46 zCom)
  have hal : Below w12.heap.size w12 (w12.alloc (.cells KD 46)) := (Below.refl _ _).alloc (Nat.le_refl _) _
  have hb13 : Below w11.heap.size w11 (w12.alloc (.cells KD 46)) := hb12.trans (hal.mono hb12.size)
  have HB13 := Lib.hid (HB11.out.trans (hb13.mono HB11.out.size))
  have HS13 := Lib.hid (HS11.out.below hb13)
  have HX13 := Lib.hid (HX11.out.below hb13)
  have HY13 := Lib.hid (HY11.out.below hb13)
  have HG13 := Lib.hid (HG11.out.below hb13 HG11.out.lt)
  have HH13 := Lib.hid (HH11.out.below hb13 HH11.out.lt)
  have HT13 := Lib.hid (HT11.out.below hb13)
  have HU13 := Lib.hid (HU11.out.below hb13)
  have HP13 := Lib.hid (HP11.out.below hb13)
  have HC13 := Lib.hid (HC11.out.below hb13 HC11.out.lt)
  have HQ13 := Lib.hid (show SlOf oidR (w12.alloc (.cells KD 46)) no A12 ps from (hs12.stable (Moves.forget _ _)).below hal)
  have HD13 := Lib.hid (Blk.new w12 46 KD)
  have HKD := Lib.hid hKD
  rw [← hKD]
  clear hs12 hcc12 hcm12 hb12 hp HB11 HS11 HX11 HY11 HG11 HH11 HT11 HU11 HP11 HC11 R4 R4' hal hKD hb13
  go_upto_region 12 with (first | (refine wpList_store_row rfl _ _ _ rfl w12.heap.size KD rfl rfl 46 _ HBN.out HI.out HZ.out HO.out ?_) | fail)
  rw [World.setRow_alloc_new]
  clear HBN HO HZ
  have HID := HI
  clear HI
  generalize w12.alloc (.cells KD 46) = w13 at *
  generalize w12.heap.size = g13 at *
  -- Kind
  go_wp2_with fail
  refine (P5.out _ HB13.out).mono ?_
  intro e w14 hp
  obtain ⟨rfl, hb14⟩ := hp.use
  obtain ⟨k5, hk5⟩ : ∃ k5, k5 = okK D5 := ⟨_, rfl⟩
  obtain ⟨z5, hz5⟩ : ∃ z5, z5 = okZ D5 := ⟨_, rfl⟩
  have R5' := Lib.hid (fun w e w' (h : KindPost w D5 e w') => KindPost.use h)
  rw [← hk5, ← hz5] at R5' ⊢
  have HB14 := Lib.hid (HB13.out.trans (hb14.mono HB13.out.size))
  have HB1314 := Lib.hid hb14
  clear hp hb14 hk5 hz5 P5
  go_wp2_with fail
  refine (R5.out _).mono ?_
  intro e w15 hp
  obtain ⟨rfl, hb15⟩ := R5'.out _ _ _ hp
  have HB15 := Lib.hid (HB14.out.trans (hb15.mono HB14.out.size))
  have HB1315 := Lib.hid (HB1314.out.trans (hb15.mono HB1314.out.size))
  clear hp hb15 R5 R5' HB14 HB1314
  -- Links
  go_wp2_with fail
  refine (P6.out _ HB15.out).mono ?_
  intro e w16 hp
  obtain ⟨⟨A16, c16, rfl, hs16, hcc16, hcm16⟩, hb16⟩ := hp.use
  obtain ⟨x6, hx6⟩ : ∃ x6, x6 = okL D6 := ⟨_, rfl⟩
  obtain ⟨z6, hz6⟩ : ∃ z6, z6 = okZ D6 := ⟨_, rfl⟩
  have R6' := Lib.hid (fun w e w' (h : LinksPost w D6 e w') => LinksPost.use h)
  rw [← hx6] at hs16 hcc16 R6' L6 ⊢
  rw [← hz6] at R6' ⊢
  obtain ⟨n6, hn6⟩ : ∃ n6, n6 = x6.length := ⟨_, rfl⟩
  rw [← hn6] at R6' ⊢
  have HN6 := Lib.hid hn6
  have HB16 := Lib.hid (HB15.out.trans (hb16.mono HB15.out.size))
  have HB1316 := Lib.hid (HB1315.out.trans (hb16.mono HB1315.out.size))
  have HV16 := Lib.hid (show SlOf oidR w16 no A16 x6 from hs16.stable (Moves.forget _ _))
  clear hs16 hcc16 hcm16 hb16 hp hx6 hz6 hn6 P6 HB15 HB1315
  go_wp2_with fail
  refine (R6.out _).mono ?_
  intro e w17 hp
  obtain ⟨⟨A17, c17, rfl, hs17, hcc17, hcm17⟩, hb17⟩ := R6'.out _ _ _ hp
  have HB17 := Lib.hid (HB16.out.trans (hb17.mono HB16.out.size))
  have hb := HB1316.out.trans (hb17.mono HB1316.out.size)
  have HV17 := Lib.hid (HV16.out.below hb17)
  have HW17 := Lib.hid (show SlOf oidR w17 no A17 x6 from hs17.stable (Moves.forget _ _))
  have HS17 := Lib.hid (HS13.out.below hb)
  have HX17 := Lib.hid (HX13.out.below hb)
  have HY17 := Lib.hid (HY13.out.below hb)
  have HG17 := Lib.hid (HG13.out.below hb HG13.out.lt)
  have HH17 := Lib.hid (HH13.out.below hb HH13.out.lt)
  have HT17 := Lib.hid (HT13.out.below hb)
  have HU17 := Lib.hid (HU13.out.below hb)
  have HP17 := Lib.hid (HP13.out.below hb)
  have HC17 := Lib.hid (HC13.out.below hb HC13.out.lt)
  have HQ17 := Lib.hid (HQ13.out.below hb)
  have HD17 := Lib.hid (HD13.out.below hb HD13.out.lt)
  clear hs17 hcc17 hcm17 hb17 hp hb HB16 HB1316 HV16 HS13 HX13 HY13 HG13 HH13 HT13 HU13 HP13 HC13 HQ13 HD13 HB13 R6 R6'
  -- all compared
  have HCV := Lib.hid (fun (w : World) (h : Below w17.heap.size w17 w) => show cvt w A2 n1 c2 = .ok (.string ⟨o1.toArray⟩) w by rw [HN1.out]; exact cvt_of (HS17.out.below h) c2)
  have HA := Lib.hid (show w17.cell? ⟨g5, 1, none⟩ = some (.int .i64 s2) ∧ w17.cell? ⟨g7, 1, none⟩ = some (.int .i64 s2) ∧ w17.cell? ⟨g5, 0, none⟩ = some (.slice A4 n2 c4) ∧ w17.cell? ⟨g7, 0, none⟩ = some (.slice A6 n2 c6) from ⟨(HG17.out.cell 1).trans HK2.out.2, (HH17.out.cell 1).trans HK3.out.2, (HG17.out.cell 0).trans HK2.out.1, (HH17.out.cell 0).trans HK3.out.1⟩)
  have hg5 := HG17.out.lt
  have hg7 := HH17.out.lt
  have hg11 := HC17.out.lt
  have hg13 := HD17.out.lt
  have hst : strL o1 = ⟨o1.toArray⟩ := rfl
  rw [hst]
  clear hst HS17 HG17 HH17 HK2 HK3
  go_upto_region 16 with fail
  have hcls : Below w17.heap.size w17 w17.drew := Same.below ⟨1, rfl⟩ _
  refine wp_region_held (S := fun w => Below w17.heap.size w17 w) (by kernel_rfl) ?_
  change wpAnyH _ _ _ _ _ _ _ _ (World.drew _)
  generalize World.drew w17 = wd at hcls ⊢
  refine held_take (i := 0) (v := ?_) (a' := ?_) rfl (by kernel_rfl) (by kernel_rfl) (by kernel_rfl) (fun _ _ _ h => h) (by rfl) hcls ?_ ?_ ?_
  rotate_left 2
  · (intro w hS; go_simp; try with_reducible rfl)
  · (go_simp; try with_reducible rfl)
  refine held_take (i := 1) (v := ?_) (a' := ?_) rfl (by kernel_rfl) (by kernel_rfl) (by kernel_rfl) (fun _ _ _ h => h) (by rfl) hcls ?_ ?_ ?_
  rotate_left 2
  · (intro w hS; have t := HCV.out w hS; go_simp; try with_reducible rfl)
  · (go_simp; try with_reducible rfl)
  refine held_take (i := 2) (v := ?_) (a' := ?_) rfl (by kernel_rfl) (by kernel_rfl) (by kernel_rfl) (fun _ _ _ h => h) (by rfl) hcls ?_ ?_ ?_
  rotate_left 2
  · (intro w hS; go_simp; try with_reducible rfl)
  · (go_simp; try with_reducible rfl)
  refine held_take (i := 3) (v := ?_) (a' := ?_) rfl (by kernel_rfl) (by kernel_rfl) (by kernel_rfl) (fun _ _ _ h => h) (by rfl) hcls ?_ ?_ ?_
  rotate_left 2
  · (intro w hS; go_simp; try with_reducible rfl)
  · (go_simp; try with_reducible rfl)
  refine held_take (i := 4) (v := ?_) (a' := ?_) rfl (by kernel_rfl) (by kernel_rfl) (by kernel_rfl) (fun _ _ _ h => h) (by rfl) hcls ?_ ?_ ?_
  rotate_left 2
  · (intro w hS; go_simp; try with_reducible rfl)
  · (go_simp; try with_reducible rfl)
  refine held_take (i := 5) (v := ?_) (a' := ?_) rfl (by kernel_rfl) (by kernel_rfl) (by kernel_rfl) (fun _ _ _ h => h) (by rfl) hcls ?_ ?_ ?_
  rotate_left 2
  · (intro w hS; go_simp; try with_reducible rfl)
  · (go_simp; try with_reducible rfl)
  refine held_take (i := 6) (v := ?_) (a' := ?_) rfl (by kernel_rfl) (by kernel_rfl) (by kernel_rfl) (fun _ _ _ h => h) (by rfl) hcls ?_ ?_ ?_
  rotate_left 2
  · (intro w hS; go_simp; try with_reducible rfl)
  · (go_simp; try with_reducible rfl)
  refine held_take (i := 7) (v := ?_) (a' := ?_) rfl (by kernel_rfl) (by kernel_rfl) (by kernel_rfl) (fun _ _ _ h => h) (by rfl) hcls ?_ ?_ ?_
  rotate_left 2
  · (intro w hS; go_simp; try with_reducible rfl)
  · (go_simp; try with_reducible rfl)
  refine held_take (i := 8) (v := ?_) (a' := ?_) rfl (by kernel_rfl) (by kernel_rfl) (by kernel_rfl) (fun _ _ _ h => h) (by rfl) hcls ?_ ?_ ?_
  rotate_left 2
  · (intro w hS; go_simp; try with_reducible rfl)
  · (go_simp; try with_reducible rfl)
  refine held_take (i := 9) (v := ?_) (a' := ?_) rfl (by kernel_rfl) (by kernel_rfl) (by kernel_rfl) (fun _ _ _ h => h) (by rfl) hcls ?_ ?_ ?_
  rotate_left 2
  · (intro w hS; go_simp; try with_reducible rfl)
  · (go_simp; try with_reducible rfl)
  refine held_take (i := 10) (v := ?_) (a' := ?_) rfl (by kernel_rfl) (by kernel_rfl) (by kernel_rfl) (fun _ _ _ h => h) (by rfl) hcls ?_ ?_ ?_
  rotate_left 2
  · (intro w hS; go_simp; try with_reducible rfl)
  · (go_simp; try with_reducible rfl)
  refine held_take (i := 11) (v := ?_) (a' := ?_) rfl (by kernel_rfl) (by kernel_rfl) (by kernel_rfl) (fun _ _ _ h => h) (by rfl) hcls ?_ ?_ ?_
  rotate_left 2
  · (intro w hS; have t := (hS.cell (p := ⟨g5, 1, none⟩) hg5).trans HA.out.1; go_simp; try with_reducible rfl)
  · (go_simp; try with_reducible rfl)
  refine held_take (i := 12) (v := ?_) (a' := ?_) rfl (by kernel_rfl) (by kernel_rfl) (by kernel_rfl) (fun _ _ _ h => h) (by rfl) hcls ?_ ?_ ?_
  rotate_left 2
  · (intro w hS; go_simp; try with_reducible rfl)
  · (go_simp; try with_reducible rfl)
  refine held_take (i := 13) (v := ?_) (a' := ?_) rfl (by kernel_rfl) (by kernel_rfl) (by kernel_rfl) (fun _ _ _ h => h) (by rfl) hcls ?_ ?_ ?_
  rotate_left 2
  · (intro w hS; have t := (hS.cell (p := ⟨g7, 1, none⟩) hg7).trans HA.out.2.1; go_simp; try with_reducible rfl)
  · (go_simp; try with_reducible rfl)
  refine held_take (i := 14) (v := ?_) (a' := ?_) rfl (by kernel_rfl) (by kernel_rfl) (by kernel_rfl) (fun _ _ _ h => h) (by rfl) hcls ?_ ?_ ?_
  rotate_left 2
  · (intro w hS; go_simp; try with_reducible rfl)
  · (go_simp; try with_reducible rfl)
  refine held_take (i := 15) (v := ?_) (a' := ?_) rfl (by kernel_rfl) (by kernel_rfl) (by kernel_rfl) (fun _ _ _ h => h) (by rfl) hcls ?_ ?_ ?_
  rotate_left 2
  · (intro w hS; go_simp; try with_reducible rfl)
  · (go_simp; try with_reducible rfl)
  refine held_take (i := 16) (v := ?_) (a' := ?_) rfl (by kernel_rfl) (by kernel_rfl) (by kernel_rfl) (fun _ _ _ h => h) (by rfl) hcls ?_ ?_ ?_
  rotate_left 2
  · (intro w hS; go_simp; try with_reducible rfl)
  · (go_simp; try with_reducible rfl)
  refine held_take (i := 17) (v := ?_) (a' := ?_) rfl (by kernel_rfl) (by kernel_rfl) (by kernel_rfl) (fun _ _ _ h => h) (by rfl) hcls ?_ ?_ ?_
  rotate_left 2
  · (intro w hS; go_simp; try with_reducible rfl)
  · (go_simp; try with_reducible rfl)
  refine held_take (i := 18) (v := ?_) (a' := ?_) rfl (by kernel_rfl) (by kernel_rfl) (by kernel_rfl) (fun _ _ _ h => h) (by rfl) hcls ?_ ?_ ?_
  rotate_left 2
  · (intro w hS; have t := (hS.cell (p := ⟨g5, 0, none⟩) hg5).trans HA.out.2.2.1; go_simp; try with_reducible rfl)
  · (go_simp; try with_reducible rfl)
  refine held_take (i := 19) (v := ?_) (a' := ?_) rfl (by kernel_rfl) (by kernel_rfl) (by kernel_rfl) (fun _ _ _ h => h) (by rfl) hcls ?_ ?_ ?_
  rotate_left 2
  · (intro w hS; go_simp; try with_reducible rfl)
  · (go_simp; try with_reducible rfl)
  refine held_take (i := 20) (v := ?_) (a' := ?_) rfl (by kernel_rfl) (by kernel_rfl) (by kernel_rfl) (fun _ _ _ h => h) (by rfl) hcls ?_ ?_ ?_
  rotate_left 2
  · (intro w hS; have t := (hS.cell (p := ⟨g7, 0, none⟩) hg7).trans HA.out.2.2.2; go_simp; try with_reducible rfl)
  · (go_simp; try with_reducible rfl)
  refine held_ready (rs := [21]) (by kernel_rfl) (by simp) ?_
  refine AllHeld.cons rfl (fun KR hKR => ?_) ?_
  · go_simp
    refine (ids_same A4 A6 n2 c4 n2 c6 x2 _ (HX17.out.below hcls) (HY17.out.below hcls) HN2.out HN2.out (by have := L2.out; have := HN2.out; omega)).mono ?_
    rintro e w18 ⟨rfl, hb⟩
    have hb18 := hcls.trans (hb.mono hcls.size)
    refine hKR _ _ hb18 ?_
    clear hKR KR
    refine held_take (i := 22) (v := ?_) (a' := ?_) rfl (by kernel_rfl) (by kernel_rfl) (by kernel_rfl) (fun _ _ _ h => h) (by rfl) hb18 ?_ ?_ ?_
    rotate_left 2
    · (intro w hS; go_simp; try with_reducible rfl)
    · (go_simp; try with_reducible rfl)
    refine held_take (i := 23) (v := ?_) (a' := ?_) rfl (by kernel_rfl) (by kernel_rfl) (by kernel_rfl) (fun _ _ _ h => h) (by rfl) hb18 ?_ ?_ ?_
    rotate_left 2
    · (intro w hS; go_simp; try with_reducible rfl)
    · (go_simp; try with_reducible rfl)
    refine held_take (i := 24) (v := ?_) (a' := ?_) rfl (by kernel_rfl) (by kernel_rfl) (by kernel_rfl) (fun _ _ _ h => h) (by rfl) hb18 ?_ ?_ ?_
    rotate_left 2
    · (intro w hS; go_simp; try with_reducible rfl)
    · (go_simp; try with_reducible rfl)
    refine held_take (i := 25) (v := ?_) (a' := ?_) rfl (by kernel_rfl) (by kernel_rfl) (by kernel_rfl) (fun _ _ _ h => h) (by rfl) hb18 ?_ ?_ ?_
    rotate_left 2
    · (intro w hS; go_simp; try with_reducible rfl)
    · (go_simp; try with_reducible rfl)
    refine held_take (i := 26) (v := ?_) (a' := ?_) rfl (by kernel_rfl) (by kernel_rfl) (by kernel_rfl) (fun _ _ _ h => h) (by rfl) hb18 ?_ ?_ ?_
    rotate_left 2
    · (intro w hS; go_simp; try with_reducible rfl)
    · (go_simp; try with_reducible rfl)
    refine held_take (i := 27) (v := ?_) (a' := ?_) rfl (by kernel_rfl) (by kernel_rfl) (by kernel_rfl) (fun _ _ _ h => h) (by rfl) hb18 ?_ ?_ ?_
    rotate_left 2
    · (intro w hS; go_simp; try with_reducible rfl)
    · (go_simp; try with_reducible rfl)
    refine held_take (i := 28) (v := ?_) (a' := ?_) rfl (by kernel_rfl) (by kernel_rfl) (by kernel_rfl) (fun _ _ _ h => h) (by rfl) hb18 ?_ ?_ ?_
    rotate_left 2
    · (intro w hS; go_simp; try with_reducible rfl)
    · (go_simp; try with_reducible rfl)
    refine held_take (i := 29) (v := ?_) (a' := ?_) rfl (by kernel_rfl) (by kernel_rfl) (by kernel_rfl) (fun _ _ _ h => h) (by rfl) hb18 ?_ ?_ ?_
    rotate_left 2
    · (intro w hS; go_simp; try with_reducible rfl)
    · (go_simp; try with_reducible rfl)
    refine held_take (i := 31) (v := ?_) (a' := ?_) rfl (by kernel_rfl) (by kernel_rfl) (by kernel_rfl) (fun _ _ _ h => h) (by rfl) hb18 ?_ ?_ ?_
    rotate_left 2
    · (intro w hS; go_simp; try with_reducible rfl)
    · (go_simp; try with_reducible rfl)
    refine held_ready (rs := [30]) (by kernel_rfl) (by simp) ?_
    refine AllHeld.cons rfl (fun KR hKR => ?_) ?_
    · go_simp
      refine (tree_as A8 n3 c8 x3 w18 (HT17.out.below hb18) HN3.out (by have := L3.out; have := HN3.out; omega)).mono ?_
      rintro e w19 ⟨⟨A19, c19, rfl, hs19, _, _⟩, hb⟩
      rw [← HN3.out]
      have hb19 := hb18.trans (hb.mono hb18.size)
      have HTR := Lib.hid (trees_same A19 A9 n3 c19 n3 c9 x3 w19 (hs19.stable (Moves.forget _ _)) (HU17.out.below hb19) HN3.out HN3.out (by have := L3.out; have := HN3.out; omega))
      clear hs19
      refine hKR _ _ hb19 ?_
      clear hKR KR
      refine held_ready (rs := [32]) (by kernel_rfl) (by simp) ?_
      refine AllHeld.cons rfl (fun KR hKR => ?_) ?_
      · go_simp
        refine HTR.out.mono ?_
        rintro e w20 ⟨rfl, hb⟩
        have hb20 := hb19.trans (hb.mono hb19.size)
        clear HTR
        refine hKR _ _ hb20 ?_
        clear hKR KR
        refine held_take (i := 33) (v := ?_) (a' := ?_) rfl (by kernel_rfl) (by kernel_rfl) (by kernel_rfl) (fun _ _ _ h => h) (by rfl) hb20 ?_ ?_ ?_
        rotate_left 2
        · (intro w hS; go_simp; try with_reducible rfl)
        · (go_simp; try with_reducible rfl)
        refine held_take (i := 34) (v := ?_) (a' := ?_) rfl (by kernel_rfl) (by kernel_rfl) (by kernel_rfl) (fun _ _ _ h => h) (by rfl) hb20 ?_ ?_ ?_
        rotate_left 2
        · (intro w hS; go_simp; try with_reducible rfl)
        · (go_simp; try with_reducible rfl)
        refine held_take (i := 35) (v := ?_) (a' := ?_) rfl (by kernel_rfl) (by kernel_rfl) (by kernel_rfl) (fun _ _ _ h => h) (by rfl) hb20 ?_ ?_ ?_
        rotate_left 2
        · (intro w hS; go_simp; try with_reducible rfl)
        · (go_simp; try with_reducible rfl)
        refine held_take (i := 36) (v := ?_) (a' := ?_) rfl (by kernel_rfl) (by kernel_rfl) (by kernel_rfl) (fun _ _ _ h => h) (by rfl) hb20 ?_ ?_ ?_
        rotate_left 2
        · (intro w hS; go_simp; try with_reducible rfl)
        · (go_simp; try with_reducible rfl)
        refine held_take (i := 37) (v := ?_) (a' := ?_) rfl (by kernel_rfl) (by kernel_rfl) (by kernel_rfl) (fun _ _ _ h => h) (by rfl) hb20 ?_ ?_ ?_
        rotate_left 2
        · (intro w hS; go_simp; try with_reducible rfl)
        · (go_simp; try with_reducible rfl)
        refine held_take (i := 38) (v := ?_) (a' := ?_) rfl (by kernel_rfl) (by kernel_rfl) (by kernel_rfl) (fun _ _ _ h => h) (by rfl) hb20 ?_ ?_ ?_
        rotate_left 2
        · (intro w hS; go_simp; try with_reducible rfl)
        · (go_simp; try with_reducible rfl)
        refine held_take (i := 39) (v := ?_) (a' := ?_) rfl (by kernel_rfl) (by kernel_rfl) (by kernel_rfl) (fun _ _ _ h => h) (by rfl) hb20 ?_ ?_ ?_
        rotate_left 2
        · (intro w hS; go_simp; try with_reducible rfl)
        · (go_simp; try with_reducible rfl)
        refine held_take (i := 40) (v := ?_) (a' := ?_) rfl (by kernel_rfl) (by kernel_rfl) (by kernel_rfl) (fun _ _ _ h => h) (by rfl) hb20 ?_ ?_ ?_
        rotate_left 2
        · (intro w hS; refine exec_load_at 30 (.tmp 16) ?_ g11 0 ?_ KC _ (At.of_row (HC17.out.below hS hg11)) Try.underlying30 rfl HIC.out; exact rfl; exact rfl)
        · (go_simp; try with_reducible rfl)
        refine held_take (i := 42) (v := ?_) (a' := ?_) rfl (by kernel_rfl) (by kernel_rfl) (by kernel_rfl) (fun _ _ _ h => h) (by rfl) hb20 ?_ ?_ ?_
        rotate_left 2
        · (intro w hS; refine exec_load_at 46 (.tmp 18) ?_ g13 0 ?_ KD _ (At.of_row (HD17.out.below hS hg13)) Try.underlying46 rfl HID.out; exact rfl; exact rfl)
        · (go_simp; try with_reducible rfl)
        refine held_ready (rs := [41]) (by kernel_rfl) (by simp) ?_
        refine AllHeld.cons rfl (fun KR hKR => ?_) ?_
        · go_simp
          have HCA := Lib.hid (com_as tr A10 n4 c10 f au nt w20 H32.out)
          rw [← HKC.out] at HCA
          refine HCA.out.mono ?_
          rintro e w21 ⟨rfl, hb⟩
          have hb21 := hb20.trans (hb.mono hb20.size)
          have HCS := Lib.hid (coms_same tr A10 A12 n4 c10 c12 f ps au nt w21 H32.out (HP17.out.below hb21) (HQ17.out.below hb21) HN4.out (by have := L4.out; have := HN4.out; omega))
          rw [← HKC.out, ← HKD.out] at HCS
          refine hKR _ _ hb21 ?_
          clear hKR KR
          refine held_ready (rs := [43]) (by kernel_rfl) (by simp) ?_
          refine AllHeld.cons rfl (fun KR hKR => ?_) ?_
          · go_simp
            refine HCS.out.mono ?_
            rintro e w22 ⟨rfl, hb⟩
            have hb22 := hb21.trans (hb.mono hb21.size)
            have HIS := Lib.hid (ids_same A16 A17 n6 c16 n6 c17 x6 w22 (HV17.out.below hb22) (HW17.out.below hb22) HN6.out HN6.out (by have := L6.out; have := HN6.out; omega))
            refine hKR _ _ hb22 ?_
            clear hKR KR
            refine held_take (i := 44) (v := ?_) (a' := ?_) rfl (by kernel_rfl) (by kernel_rfl) (by kernel_rfl) (fun _ _ _ h => h) (by rfl) hb22 ?_ ?_ ?_
            rotate_left 2
            · (intro w hS; go_simp; try with_reducible rfl)
            · (go_simp; try with_reducible rfl)
            refine held_take (i := 45) (v := ?_) (a' := ?_) rfl (by kernel_rfl) (by kernel_rfl) (by kernel_rfl) (fun _ _ _ h => h) (by rfl) hb22 ?_ ?_ ?_
            rotate_left 2
            · (intro w hS; go_simp; try with_reducible rfl)
            · (go_simp; try with_reducible rfl)
            refine held_take (i := 46) (v := ?_) (a' := ?_) rfl (by kernel_rfl) (by kernel_rfl) (by kernel_rfl) (fun _ _ _ h => h) (by rfl) hb22 ?_ ?_ ?_
            rotate_left 2
            · (intro w hS; go_simp; try with_reducible rfl)
            · (go_simp; try with_reducible rfl)
            refine held_take (i := 47) (v := ?_) (a' := ?_) rfl (by kernel_rfl) (by kernel_rfl) (by kernel_rfl) (fun _ _ _ h => h) (by rfl) hb22 ?_ ?_ ?_
            rotate_left 2
            · (intro w hS; go_simp; try with_reducible rfl)
            · (go_simp; try with_reducible rfl)
            refine held_take (i := 48) (v := ?_) (a' := ?_) rfl (by kernel_rfl) (by kernel_rfl) (by kernel_rfl) (fun _ _ _ h => h) (by rfl) hb22 ?_ ?_ ?_
            rotate_left 2
            · (intro w hS; go_simp; try with_reducible rfl)
            · (go_simp; try with_reducible rfl)
            refine held_take (i := 49) (v := ?_) (a' := ?_) rfl (by kernel_rfl) (by kernel_rfl) (by kernel_rfl) (fun _ _ _ h => h) (by rfl) hb22 ?_ ?_ ?_
            rotate_left 2
            · (intro w hS; go_simp; try with_reducible rfl)
            · (go_simp; try with_reducible rfl)
            refine held_take (i := 50) (v := ?_) (a' := ?_) rfl (by kernel_rfl) (by kernel_rfl) (by kernel_rfl) (fun _ _ _ h => h) (by rfl) hb22 ?_ ?_ ?_
            rotate_left 2
            · (intro w hS; go_simp; try with_reducible rfl)
            · (go_simp; try with_reducible rfl)
            refine held_take (i := 51) (v := ?_) (a' := ?_) rfl (by kernel_rfl) (by kernel_rfl) (by kernel_rfl) (fun _ _ _ h => h) (by rfl) hb22 ?_ ?_ ?_
            rotate_left 2
            · (intro w hS; go_simp; try with_reducible rfl)
            · (go_simp; try with_reducible rfl)
            refine held_take (i := 52) (v := ?_) (a' := ?_) rfl (by kernel_rfl) (by kernel_rfl) (by kernel_rfl) (fun _ _ _ h => h) (by rfl) hb22 ?_ ?_ ?_
            rotate_left 2
            · (intro w hS; go_simp; try with_reducible rfl)
            · (go_simp; try with_reducible rfl)
            refine held_take (i := 53) (v := ?_) (a' := ?_) rfl (by kernel_rfl) (by kernel_rfl) (by kernel_rfl) (fun _ _ _ h => h) (by rfl) hb22 ?_ ?_ ?_
            rotate_left 2
            · (intro w hS; go_simp; try with_reducible rfl)
            · (go_simp; try with_reducible rfl)
            refine held_take (i := 54) (v := ?_) (a' := ?_) rfl (by kernel_rfl) (by kernel_rfl) (by kernel_rfl) (fun _ _ _ h => h) (by rfl) hb22 ?_ ?_ ?_
            rotate_left 2
            · (intro w hS; go_simp; try with_reducible rfl)
            · (go_simp; try with_reducible rfl)
            refine held_take (i := 55) (v := ?_) (a' := ?_) rfl (by kernel_rfl) (by kernel_rfl) (by kernel_rfl) (fun _ _ _ h => h) (by rfl) hb22 ?_ ?_ ?_
            rotate_left 2
            · (intro w hS; go_simp; try with_reducible rfl)
            · (go_simp; try with_reducible rfl)
            refine held_take (i := 56) (v := ?_) (a' := ?_) rfl (by kernel_rfl) (by kernel_rfl) (by kernel_rfl) (fun _ _ _ h => h) (by rfl) hb22 ?_ ?_ ?_
            rotate_left 2
            · (intro w hS; go_simp; try with_reducible rfl)
            · (go_simp; try with_reducible rfl)
            refine held_take (i := 57) (v := ?_) (a' := ?_) rfl (by kernel_rfl) (by kernel_rfl) (by kernel_rfl) (fun _ _ _ h => h) (by rfl) hb22 ?_ ?_ ?_
            rotate_left 2
            · (intro w hS; go_simp; try with_reducible rfl)
            · (go_simp; try with_reducible rfl)
            refine held_take (i := 58) (v := ?_) (a' := ?_) rfl (by kernel_rfl) (by kernel_rfl) (by kernel_rfl) (fun _ _ _ h => h) (by rfl) hb22 ?_ ?_ ?_
            rotate_left 2
            · (intro w hS; go_simp; try with_reducible rfl)
            · (go_simp; try with_reducible rfl)
            refine held_take (i := 59) (v := ?_) (a' := ?_) rfl (by kernel_rfl) (by kernel_rfl) (by kernel_rfl) (fun _ _ _ h => h) (by rfl) hb22 ?_ ?_ ?_
            rotate_left 2
            · (intro w hS; go_simp; try with_reducible rfl)
            · (go_simp; try with_reducible rfl)
            refine held_take (i := 60) (v := ?_) (a' := ?_) rfl (by kernel_rfl) (by kernel_rfl) (by kernel_rfl) (fun _ _ _ h => h) (by rfl) hb22 ?_ ?_ ?_
            rotate_left 2
            · (intro w hS; go_simp; try with_reducible rfl)
            · (go_simp; try with_reducible rfl)
            refine held_take (i := 61) (v := ?_) (a' := ?_) rfl (by kernel_rfl) (by kernel_rfl) (by kernel_rfl) (fun _ _ _ h => h) (by rfl) hb22 ?_ ?_ ?_
            rotate_left 2
            · (intro w hS; go_simp; try with_reducible rfl)
            · (go_simp; try with_reducible rfl)
            refine held_take (i := 62) (v := ?_) (a' := ?_) rfl (by kernel_rfl) (by kernel_rfl) (by kernel_rfl) (fun _ _ _ h => h) (by rfl) hb22 ?_ ?_ ?_
            rotate_left 2
            · (intro w hS; go_simp; try with_reducible rfl)
            · (go_simp; try with_reducible rfl)
            refine held_ready (rs := [63]) (by kernel_rfl) (by simp) ?_
            refine AllHeld.cons rfl (fun KR hKR => ?_) ?_
            · go_simp
              refine HIS.out.mono ?_
              rintro e w23 ⟨rfl, hb⟩
              have hb23 := hb22.trans (hb.mono hb22.size)
              refine hKR _ _ hb23 ?_
              clear hKR KR
              refine held_take (i := 64) (v := ?_) (a' := ?_) rfl (by kernel_rfl) (by kernel_rfl) (by kernel_rfl) (fun _ _ _ h => h) (by rfl) hb23 ?_ ?_ ?_
              rotate_left 2
              · (intro w hS; go_simp; try with_reducible rfl)
              · (go_simp; try with_reducible rfl)
              refine held_take (i := 65) (v := ?_) (a' := ?_) rfl (by kernel_rfl) (by kernel_rfl) (by kernel_rfl) (fun _ _ _ h => h) (by rfl) hb23 ?_ ?_ ?_
              rotate_left 2
              · (intro w hS; go_simp; try with_reducible rfl)
              · (go_simp; try with_reducible rfl)
              refine held_take (i := 66) (v := ?_) (a' := ?_) rfl (by kernel_rfl) (by kernel_rfl) (by kernel_rfl) (fun _ _ _ h => h) (by rfl) hb23 ?_ ?_ ?_
              rotate_left 2
              · (intro w hS; go_simp; try with_reducible rfl)
              · (go_simp; try with_reducible rfl)
              refine held_take (i := 67) (v := ?_) (a' := ?_) rfl (by kernel_rfl) (by kernel_rfl) (by kernel_rfl) (fun _ _ _ h => h) (by rfl) hb23 ?_ ?_ ?_
              rotate_left 2
              · (intro w hS; go_simp; try with_reducible rfl)
              · (go_simp; try with_reducible rfl)
              refine held_take (i := 68) (v := ?_) (a' := ?_) rfl (by kernel_rfl) (by kernel_rfl) (by kernel_rfl) (fun _ _ _ h => h) (by rfl) hb23 ?_ ?_ ?_
              rotate_left 2
              · (intro w hS; go_simp; try with_reducible rfl)
              · (go_simp; try with_reducible rfl)
              refine held_take (i := 69) (v := ?_) (a' := ?_) rfl (by kernel_rfl) (by kernel_rfl) (by kernel_rfl) (fun _ _ _ h => h) (by rfl) hb23 ?_ ?_ ?_
              rotate_left 2
              · (intro w hS; go_simp; try with_reducible rfl)
              · (go_simp; try with_reducible rfl)
              refine held_take (i := 70) (v := ?_) (a' := ?_) rfl (by kernel_rfl) (by kernel_rfl) (by kernel_rfl) (fun _ _ _ h => h) (by rfl) hb23 ?_ ?_ ?_
              rotate_left 2
              · (intro w hS; go_simp; try with_reducible rfl)
              · (go_simp; try with_reducible rfl)
              refine wpAnyH_done (by kernel_rfl) ?_ _
              go_wp2_with fail
              go_ret
              exact ⟨rfl, HB17.out.trans (hb23.mono HB17.out.size)⟩
            exact AllHeld.nil
          exact AllHeld.nil
        exact AllHeld.nil
      exact AllHeld.nil
    exact AllHeld.nil
  exact AllHeld.nil
end Go.Proofs.Ytpafhajpnepecaa
