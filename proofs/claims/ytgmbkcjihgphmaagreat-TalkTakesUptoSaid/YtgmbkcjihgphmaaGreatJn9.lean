/- Contracts and laws for what the statement reaches, joined: ObjCaught, ObjChunk, ObjBlob, ObjList, ObjBuild, ObjGetBlob. -/
import Derived.Test.YtgmbkcjihgphmaaGreatJn3
import Derived.Test.YtgmbkcjihgphmaaGreatJn5
import Derived.Test.YtgmbkcjihgphmaaGreatJn7
import Derived.Test.YtgmbkcjihgphmaaGreatJn8
/- object.caught: the deferred function that recovers. -/
set_option linter.unusedVariables false
namespace Go.Proofs.YtgmbkcjihgphmaaGreat
open Go.RowKit
set_option maxRecDepth 100000 in
set_option maxHeartbeats 1000000 in
theorem ocaught_flaw (p : Addr) (x z : Int) (older : List PanicEntry) (w : World) (hp : p.block < w.heap.size) (hc : w.cell? p = some (.int .i64 x)) (hz : w.frozen? p = false) :
  CallsD Tryz.prog 41 #[.pointer (some p)] (.panicking ({ v := .iface 152 (.agg #[.int .i64 z]), recovered := false } :: older)) w fun e u' w' =>
   e = .returned (.tuple #[]) ∧ u' = .panicking ({ v := .iface 152 (.agg #[.int .i64 z]), recovered := true } :: older) ∧ w' = (w.alloc (.cells #[.int .i64 z] 152)).setCell p (.int .i64 z) := by
 have hsi : (Tryz.prog.info? 152).map (·.size) = some (#[Value.int .i64 z] : Array Value).size := by kernel_rfl
 refine callsD_of_wpS Tryz.func41 rfl fun c₀ cs hu => ?_
 change Code.wpS _ _ _ { tmps := #[.pointer (some p), undef, undef, undef, undef, undef, undef, undef, undef, undef, undef, undef, undef, undef], defers := [] } _ _
 have hta := run_assert_hit (P := Tryz.prog) (x := 20) Tryz.underlying152
 apply wpS_seq
 apply wpS_region
 refine WpR.out (l := [0, 1, 2, 3, 4, 5, 6, 7]) ?_
 refine WpR.recover (a' := ?_) (v := .iface 152 (.agg #[.int .i64 z])) (cs' := { c₀ with mode := .panicking ({ v := .iface 152 (.agg #[.int .i64 z]), recovered := true } :: older) } :: cs) rfl rfl ?_ ?_ ?_ ?_
 rotate_left 1
 ·go_simp
 ·simp [recoverD, hu]
 ·(go_simp; try with_reducible rfl)
 refine WpR.val (v := ?_) (a' := ?_) (w' := w) rfl rfl ?_ ?_ ?_
 rotate_left 2
 ·(go_simp; try with_reducible rfl)
 ·(go_simp; try with_reducible rfl)
 refine WpR.val (v := ?_) (a' := ?_) (w' := w) rfl rfl ?_ ?_ ?_
 rotate_left 2
 ·(go_simp; try with_reducible rfl)
 ·(go_simp; try with_reducible rfl)
 refine WpR.val (v := ?_) (a' := ?_) (w' := w) rfl rfl ?_ ?_ ?_
 rotate_left 2
 ·(go_simp; try with_reducible rfl)
 ·(go_simp; try with_reducible rfl)
 refine WpR.val (v := ?_) (a' := ?_) (w' := w) rfl rfl ?_ ?_ ?_
 rotate_left 2
 ·(go_simp; try with_reducible rfl)
 ·(go_simp; try with_reducible rfl)
 refine WpR.val (v := ?_) (a' := ?_) (w' := w.alloc (.cells #[.int .i64 0] 152)) rfl rfl ?_ ?_ ?_
 rotate_left 2
 ·(go_simp; try with_reducible rfl)
 ·(go_simp; try with_reducible rfl)
 refine WpR.skip (a' := ?_) (w' := w.alloc (.cells #[.int .i64 z] 152)) rfl rfl ?_ ?_ ?_
 rotate_left 1
 ·(go_simp; try with_reducible rfl)
 ·(go_simp; try with_reducible rfl)
 refine WpR.val (v := ?_) (a' := ?_) (w' := w.alloc (.cells #[.int .i64 z] 152)) rfl rfl ?_ ?_ ?_
 rotate_left 2
 ·(go_simp; try with_reducible rfl)
 ·(go_simp; try with_reducible rfl)
 refine WpR.done ?_
 refine wpS_of_wp ?_
 have hc' : (w.alloc (.cells #[.int .i64 z] 152)).cell? p = some (.int .i64 x) := (World.cell?_alloc_lt _ _ _ hp).trans hc
 have hz' : (w.alloc (.cells #[.int .i64 z] 152)).frozen? p = false := (World.frozen?_alloc_old w _ p (by omega)).trans hz
 go_wp2_with fail
 simp [bodyPostS, results, Tryz.results41]
set_option maxRecDepth 100000 in
set_option maxHeartbeats 1000000 in
theorem ocaught_idle (p : Addr) (w : World) :
  CallsD Tryz.prog 41 #[.pointer (some p)] .returning w fun e u' w' =>
   e = .returned (.tuple #[]) ∧ u' = .returning ∧ w' = w.alloc (.cells #[.int .i64 0] 152) := by
 have hta := fun w : World => run_assert_nil (P := Tryz.prog) (x := 20) (z := .agg #[.int .i64 0]) Tryz.underlying152 w (by kernel_rfl)
 refine callsD_of_wpS Tryz.func41 rfl fun c₀ cs hu => ?_
 change Code.wpS _ _ _ { tmps := #[.pointer (some p), undef, undef, undef, undef, undef, undef, undef, undef, undef, undef, undef, undef, undef], defers := [] } _ _
 apply wpS_seq
 apply wpS_region
 refine WpR.out (l := [0, 1, 2, 3, 4, 5, 6, 7]) ?_
 refine WpR.idle (a' := ?_) rfl rfl ?_ ?_ ?_ ?_
 rotate_left 1
 ·go_simp
 ·simp [recoverD, hu]
 ·(go_simp; try with_reducible rfl)
 refine WpR.val (v := ?_) (a' := ?_) (w' := w) rfl rfl ?_ ?_ ?_
 rotate_left 2
 ·(go_simp; try with_reducible rfl)
 ·(go_simp; try with_reducible rfl)
 refine WpR.val (v := ?_) (a' := ?_) (w' := w) rfl rfl ?_ ?_ ?_
 rotate_left 2
 ·(go_simp; try with_reducible rfl)
 ·(go_simp; try with_reducible rfl)
 refine WpR.val (v := ?_) (a' := ?_) (w' := w) rfl rfl ?_ ?_ ?_
 rotate_left 2
 ·(go_simp; try with_reducible rfl)
 ·(go_simp; try with_reducible rfl)
 refine WpR.val (v := ?_) (a' := ?_) (w' := w) rfl rfl ?_ ?_ ?_
 rotate_left 2
 ·(go_simp; try with_reducible rfl)
 ·(go_simp; try with_reducible rfl)
 refine WpR.val (v := ?_) (a' := ?_) (w' := w.alloc (.cells #[.int .i64 0] 152)) rfl rfl ?_ ?_ ?_
 rotate_left 2
 ·(go_simp; try with_reducible rfl)
 ·(go_simp; try with_reducible rfl)
 refine WpR.skip (a' := ?_) (w' := w.alloc (.cells #[.int .i64 0] 152)) rfl rfl ?_ ?_ ?_
 rotate_left 1
 ·(go_simp; try with_reducible rfl)
 ·(go_simp; try with_reducible rfl)
 refine WpR.val (v := ?_) (a' := ?_) (w' := w.alloc (.cells #[.int .i64 0] 152)) rfl rfl ?_ ?_ ?_
 rotate_left 2
 ·(go_simp; try with_reducible rfl)
 ·(go_simp; try with_reducible rfl)
 refine WpR.done ?_
 refine wpS_of_wp ?_
 go_wp2_with fail
 cases c₀
 simp_all [bodyPostS, results, Tryz.results41]
end Go.Proofs.YtgmbkcjihgphmaaGreat
/- object.GetChunk. -/
namespace Go.Proofs.YtgmbkcjihgphmaaGreat
open Go.RowKit
attribute [local go_sem ↓] cvt_eq
def ChunkPost (w : World) (r : Res (List UInt8)) (e : Ending) (w' : World) : Prop :=
 Below w.heap.size w w' ∧ match r with
  | .ok b => ∃ A c, e = .returned (.tuple #[.slice A b.length c, .int .i64 0]) ∧ Sl w' 1 A b.length (bytesV b) ∧ b.length ≤ c ∧ c ≤ maxLen
  | .error z => e = .returned (.tuple #[.slice none 0 0, .int .i64 z])
/-- a slice's i-th value -/
theorem val_at {w : World} {av : Av} {L : Option Addr} {vs : List Val} {n i : Nat} (h : SlOf valR w av L vs) (hl : vs.length = n) (hi : i < n) :
  ∃ b o cs, L = some ⟨b, o, none⟩ ∧ b < w.heap.size ∧ valR.R w av cs (nthV vs i) ∧ At w ⟨b, o + i * 5, none⟩ cs.toArray := by
 obtain ⟨b, o, cs, x, e, hb, hx, hr, hc⟩ := h.at hl hi
 refine ⟨b, o, cs, e, hb, ?_, hc⟩
 have : nthV vs i = x := by unfold nthV; rw [List.getD_eq_getElem?_getD, hx]; rfl
 rw [this]; exact hr
theorem textG_len {v : Val} {most : Nat} {b : List UInt8} (h : textG v most = .ok b) : b.length ≤ most := by
 unfold textG at h
 split at h
 ·cases h
 ·split at h
  ·cases h
  ·injection h with h; subst h; omega
/-- the door of GetChunk behind a panic that tells an error -/
theorem chunk_door {w w4 : World} {g : Nat} {tmps : Array Value} {z : Int} (HG : w.heap.size = g) (hB : Below g w w4) (he : Blk w4 g 55 #[.int .i64 0])
  (hp : tmps.getD 2 undef = .slice none 0 0) (hq : tmps.getD 3 undef = .pointer (some ⟨g, 0, none⟩)) :
  Leaves Tryz.prog Tryz.f57 tmps (ChunkPost w (.error z)) [{ target := .fn (.func 41) #[], args := #[.pointer (some ⟨g, 0, none⟩)] }] (.panicking (flawE z)) w4 := by
 have hlt : g < w4.heap.size := he.lt
 have E2 := (he.alloc (.cells #[.int .i64 z] 152)).set_ 0 (.int .i64 z)
 have HB5 := (hB.alloc (Nat.le_of_lt hlt) (.cells #[.int .i64 z] 152)).setCell (p := ⟨g, 0, none⟩) (Nat.le_refl g) (.int .i64 z)
 refine leaves_cons (f := 41) (args := #[.pointer (some ⟨g, 0, none⟩)]) (by simp) (by simp [go_sem]) ?_
 refine (ocaught_flaw ⟨g, 0, none⟩ 0 z [] w4 hlt (he.cell 0) (he.frozen 0)).mono ?_
 rintro e u' w7 ⟨rfl, rfl, rfl⟩
 have r2 := E2.cell 0
 have hp' : tmps[2]?.getD undef = .slice none 0 0 := by simpa using hp
 have hq' : tmps[3]?.getD undef = .pointer (some ⟨g, 0, none⟩) := by simpa using hq
 generalize (w4.alloc (.cells #[.int .i64 z] 152)).setCell ⟨g, 0, none⟩ (.int .i64 z) = w8 at *
 simp [settle, Leaves, results, Tryz.results57, go_sem, r2, hp', hq']
 unfold ChunkPost
 rw [HG]
 exact ⟨HB5, rfl⟩
set_option maxRecDepth 100000 in
set_option maxHeartbeats 2000000 in
theorem getChunk_any (A : Option Addr) (n c : Nat) (l : List UInt8) (w : World) (hs : Sl w 1 A n (bytesV l)) (hnc : n ≤ c) (hcm : c ≤ maxLen) :
  Calls Tryz.prog 57 #[.slice A n c] w (ChunkPost w (getChunk l)) := by
 obtain ⟨w1, hw1⟩ : ∃ w1, w1 = w.alloc (.cells #[.int .i64 0] 55) := ⟨_, rfl⟩
 have hb1 : Below w.heap.size w w1 := by rw [hw1]; exact (Below.refl _ _).alloc (Nat.le_refl _) _
 have HE1 := Lib.hid (show Blk w1 w.heap.size 55 #[.int .i64 0] by rw [hw1]; exact Blk.new w _ _)
 have HOP := Lib.hid (open_get A n c l 1 1 w1 (hs.below hb1) hnc hcm (by omega) (by omega) (by omega))
 have HB1 := Lib.hid hb1
 obtain ⟨R, hR⟩ : ∃ R, R = getChunk l := ⟨_, rfl⟩
 obtain ⟨D, hD⟩ : ∃ D, D = openG l 1 1 := ⟨_, rfl⟩
 have HR := Lib.hid (show R = bindR D fun vs => textG (nthV vs 0) 262144 by rw [hR, hD]; rfl)
 have HDL := Lib.hid hD
 rw [← hR]
 rw [← hD] at HOP
 clear hs hnc hcm hb1 hR hD
 go_enter_defers Tryz.func57, Tryz.ntmps57
 go_upto_region 2 with fail
 rw [← hw1]
 clear hw1
 generalize hg : w.heap.size = g at *
 have HG := Lib.hid hg
 clear hg
 go_wp2_with fail
 refine HOP.out.mono ?_
 intro e w2 hp
 obtain ⟨hb2, hp⟩ := hp
 have HE2 := Lib.hid (HE1.out.below hb2 HE1.out.lt)
 have HB2 := Lib.hid (HB1.out.trans (hb2.mono (Nat.le_of_lt HE1.out.lt)))
 cases D with
 | error z =>
  obtain rfl : e = _ := hp
  have hr := HR.out
  rw [hr]
  refine chunk_door HG.out HB2.out HE2.out ?_ ?_ <;> rfl
 | ok vs =>
  obtain ⟨L, cL, rfl, hl1, hl2, hsl⟩ := hp
  have hlen := openG_len HDL.out.symm
  rw [hlen] at hl1 ⊢
  obtain ⟨bL, oL, cs, rfl, hbL, hv, hat⟩ := val_at hsl hlen (i := 0) (by omega)
  have HRR := Lib.hid (show R = textG (nthV vs 0) 262144 from HR.out)
  have HHV := Lib.hid (valR.stable hv (Moves.forget w2 _))
  have hk5 : cs.length = 5 := valR.len hv
  obtain ⟨KV, hKV⟩ : ∃ KV, KV = cs.toArray := ⟨_, rfl⟩
  have HI := Lib.hid (show (Tryz.prog.info? 94).map (·.size) = some KV.size by rw [hKV, show cs.toArray.size = 5 from by simpa using hk5]; exact val_info)
  have HAT := Lib.hid (show At w2 ⟨bL, oL, none⟩ KV by rw [hKV]; simpa using hat)
  have HT := Lib.hid (text_get cs (nthV vs 0) 262144 w2 HHV.out (by omega))
  rw [← hKV] at HT
  obtain ⟨T, hT⟩ : ∃ T, T = textG (nthV vs 0) 262144 := ⟨_, rfl⟩
  have HTT := Lib.hid hT
  rw [← hT] at HT HRR
  clear hlen hsl hv hat hk5 hKV HR HDL HOP hT
  go_wp2_with (first | (refine wpList_load_at rfl _ _ rfl bL oL rfl KV _ HAT.out Tryz.underlying94 rfl HI.out ?_) | fail)
  refine HT.out.mono ?_
  intro e w3 hp
  obtain ⟨hb3, hp⟩ := hp
  have HE3 := Lib.hid (HE2.out.below hb3 HE2.out.lt)
  have HB3 := Lib.hid (HB2.out.trans (hb3.mono (Nat.le_of_lt HE2.out.lt)))
  cases T with
  | error z =>
   obtain rfl : e = _ := hp
   rw [HRR.out]
   refine chunk_door HG.out HB3.out HE3.out ?_ ?_ <;> rfl
  | ok b =>
   obtain rfl : e = _ := hp
   have hlen := textG_len HTT.out.symm
   have hbz : (⟨b.toArray⟩ : ByteArray).size = b.length := by simp [ByteArray.size]
   obtain ⟨Ab, cb, w4, hrun, hsl, hc, hcm, hb4, bb, rfl, hbw⟩ := toBytes w3 ⟨b.toArray⟩ (by rw [hbz]; simp only [maxLen]; omega)
   rw [hbz] at hrun hsl hc
   have HE4 := Lib.hid (HE3.out.below hb4 HE3.out.lt)
   have HB4 := Lib.hid (HB3.out.trans (hb4.mono (Nat.le_of_lt HE3.out.lt)))
   have HSL := Lib.hid (show Sl w4 1 (some ⟨bb, 0, none⟩) b.length (bytesV b) from hsl)
   have HC := Lib.hid (And.intro hc hcm)
   have hq := HE4.out.cell 0
   have hf := HE4.out.frozen 0
   have hg4 := HE4.out.lt
   have hge : g ≤ w3.heap.size := Nat.le_of_lt HE3.out.lt
   have hgne : bb ≠ g := by have := HE3.out.lt; omega
   clear hlen hsl hc hcm hb4 HTT HT HAT HHV HI hb2 hb3
   go_wp2_with fail
   refine leaves_cons (f := 41) (args := #[.pointer (some ⟨g, 0, none⟩)]) (by simp) (by simp [go_sem]) ?_
   refine (ocaught_idle _ _).mono ?_
   rintro e u' w7 ⟨rfl, rfl, rfl⟩
   have E2 := (HE4.out.set_ 0 (.int .i64 0)).alloc (.cells #[.int .i64 0] 152)
   have r2 := E2.cell 0
   have HB5 := (HB4.out.setCell (p := ⟨g, 0, none⟩) (Nat.le_refl g) (.int .i64 0)).alloc (by have := HE4.out.lt; simp; omega) (.cells #[.int .i64 0] 152)
   have hsl5 : Sl ((w4.setCell ⟨g, 0, none⟩ (.int .i64 0)).alloc (.cells #[.int .i64 0] 152)) 1 (some ⟨bb, 0, none⟩) b.length (bytesV b) := by
    refine ⟨HSL.out.1, fun h0 => ?_⟩
    obtain ⟨b', o', he, hb', hc'⟩ := HSL.out.2 h0
    have he := Option.some.inj he
    injection he with e1 e2
    subst e1 e2
    refine ⟨bb, 0, rfl, by simp; omega, fun j u hu => ?_⟩
    rw [World.cell?_alloc_lt _ _ _ (by simpa using hb'), World.cell?_setCell_other _ _ _ _ (by intro e; injection e with e; omega)]
    exact hc' j u hu
   generalize (w4.setCell ⟨g, 0, none⟩ (.int .i64 0)).alloc (.cells #[.int .i64 0] 152) = w8 at *
   simp [settle, Leaves, results, Tryz.results57, go_sem, r2]
   unfold ChunkPost
   rw [HG.out, HRR.out]
   exact ⟨HB5, _, _, rfl, hsl5, HC.out.1, HC.out.2⟩
end Go.Proofs.YtgmbkcjihgphmaaGreat
/- object.GetBlob. -/
namespace Go.Proofs.YtgmbkcjihgphmaaGreat
open Go.RowKit
/-- two results in cells: a row, and an error's number -/
theorem results_row_err {fn : Func} {p q : Tmp} {ty : TypeId} {d : TypeDesc} (h : fn.results = #[.cell p ty, .cell q 55]) (tmps : Array Value) (w : World) (g g' : Nat) (t : TypeId) (cs : Array Value) (z : Int)
  (hp : tmps.getD p undef = .pointer (some ⟨g, 0, none⟩)) (hq : tmps.getD q undef = .pointer (some ⟨g', 0, none⟩)) (hg : w.heap[g]? = some (.cells cs t (0, 0))) (hg' : w.cell? ⟨g', 0, none⟩ = some (.int .i64 z))
  (hu : Tryz.prog.underlying ty = some d) (hd : (match d with | .struct _ | .array _ _ => true | _ => false) = true) (hi : (Tryz.prog.info? ty).map (·.size) = some cs.size) :
  (results fn tmps).run Tryz.prog w = .ok (.tuple #[.agg cs, .int .i64 z]) w := by
 have hp' : tmps[p]?.getD undef = .pointer (some ⟨g, 0, none⟩) := by simpa using hp
 have hq' : tmps[q]?.getD undef = .pointer (some ⟨g', 0, none⟩) := by simpa using hq
 have hl := run_loadVar_row w g t ty cs (0, 0) d hg hu (by cases d <;> simp_all) hi
 have h2 : (loadVar 55 ⟨g', 0, none⟩).run Tryz.prog w = .ok (.int .i64 z) w := by simp [go_sem, hg']
 simp [results, h, hp', hq', asAddr, hl, h2]
abbrev zBlob : Array Value := #[.slice none 0 0, .int .i64 0]
theorem blob_info : (Tryz.prog.info? 127).map (·.size) = some 2 := by kernel_rfl
theorem blobD_ok (pe pv : Addr) (u : FrameMode) (w : World) (he : w.cell? pe = some (.int .i64 0)) :
  CallsD Tryz.prog 78 #[.pointer (some pe), .pointer (some pv)] u w fun e u' w' => u' = u ∧ e = .returned (.tuple #[]) ∧ w' = w := by
 go_enter_d Tryz.func78, Tryz.ntmps78
 go_wp2_with fail
 go_end0
 exact ⟨rfl, rfl⟩
theorem blobD_bad (pe : Addr) (gv : Nat) (z : Int) (K : Array Value) (u : FrameMode) (w : World) (hz : z ≠ 0) (he : w.cell? pe = some (.int .i64 z)) (hK : K.size = 2) (hb : Blk w gv 127 K) :
  CallsD Tryz.prog 78 #[.pointer (some pe), .pointer (some ⟨gv, 0, none⟩)] u w fun e u' w' => u' = u ∧ e = .returned (.tuple #[]) ∧ w' = w.setRow gv zBlob := by
 have hz' : (z != 0) = true := by simp [hz]
 obtain ⟨KV, hKV⟩ : ∃ KV, KV = zBlob := ⟨_, rfl⟩
 have HI := Lib.hid (show (Tryz.prog.info? 127).map (·.size) = some KV.size by rw [hKV]; exact blob_info)
 have HO := Lib.hid (show KV.all (·.oneCell') = true by rw [hKV]; simp [Value.oneCell'])
 have HS := Lib.hid (show K.size = KV.size by rw [hK, hKV]; rfl)
 have HB := Lib.hid hb
 have HKV := Lib.hid hKV
 rw [← hKV]
 clear hz hKV hb hK
 go_enter_d Tryz.func78, Tryz.ntmps78
 go_wp2_with (first | (refine wpList_store_row rfl _ _ _ rfl gv KV rfl (by rw [HKV.out]; try rfl) 127 _ HB.out HI.out HS.out HO.out ?_) | fail)
 go_end0
 exact ⟨rfl, rfl⟩
def BlobPost (w : World) (r : Res BlobT) (e : Ending) (w' : World) : Prop :=
 Below w.heap.size w w' ∧ match r with
  | .ok x => ∃ A c, e = .returned (.tuple #[.agg #[.slice A x.1.length c, .int .i64 x.2], .int .i64 0]) ∧ SlOf oidR w' (fun b => b < w.heap.size) A x.1 ∧ x.1.length ≤ c ∧ c ≤ maxLen
  | .error z => e = .returned (.tuple #[.agg zBlob, .int .i64 z])
/-- the door of GetBlob behind a panic that tells an error -/
theorem blob_door {w w4 : World} {g : Nat} {tmps K : Array Value} {z : Int} (hz : z ≠ 0) (HG : w.heap.size = g) (hB : Below g w w4) (hv : Blk w4 g 127 K) (hK : K.size = 2) (he : Blk w4 (g + 1) 55 #[.int .i64 0])
  (hp : tmps.getD 2 undef = .pointer (some ⟨g, 0, none⟩)) (hq : tmps.getD 3 undef = .pointer (some ⟨g + 1, 0, none⟩)) :
  Leaves Tryz.prog Tryz.f54 tmps (BlobPost w (.error z)) [{ target := .fn (.func 41) #[], args := #[.pointer (some ⟨g + 1, 0, none⟩)] }, { target := .fn (.func 78) #[.pointer (some ⟨g + 1, 0, none⟩), .pointer (some ⟨g, 0, none⟩)], args := #[] }] (.panicking (flawE z)) w4 := by
 have hlt : g + 1 < w4.heap.size := he.lt
 have E1 := (hv.alloc (.cells #[.int .i64 z] 152)).other (g' := g + 1) (by omega) 0 (.int .i64 z)
 have E2 := (he.alloc (.cells #[.int .i64 z] 152)).set_ 0 (.int .i64 z)
 have hgl : g ≤ w4.heap.size := by omega
 have HB5 := (hB.alloc hgl (.cells #[.int .i64 z] 152)).setCell (p := ⟨g + 1, 0, none⟩) (by show g ≤ g + 1; omega) (.int .i64 z)
 refine leaves_cons (f := 41) (args := #[.pointer (some ⟨g + 1, 0, none⟩)]) (by simp) (by simp [go_sem]) ?_
 refine (ocaught_flaw ⟨g + 1, 0, none⟩ 0 z [] w4 hlt (he.cell 0) (he.frozen 0)).mono ?_
 rintro e u' w7 ⟨rfl, rfl, rfl⟩
 refine leaves_cons (f := 78) (args := #[.pointer (some ⟨g + 1, 0, none⟩), .pointer (some ⟨g, 0, none⟩)]) (by simp [settle]) (by simp [go_sem]) ?_
 refine (blobD_bad _ g z K _ _ hz (E2.cell 0) hK E1).mono ?_
 rintro e u' w8 ⟨rfl, rfl, rfl⟩
 have r1 := setRow_heap _ g _ zBlob _ _ E1
 have r2 := (cell_setRow_other ((w4.alloc (.cells #[.int .i64 z] 152)).setCell ⟨g + 1, 0, none⟩ (.int .i64 z)) g zBlob ⟨g + 1, 0, none⟩ (by show g + 1 ≠ g; omega)).trans (E2.cell 0)
 have HB6 := below_setRow HB5 (Nat.le_refl g) zBlob
 refine ⟨_, results_row_err rfl tmps _ g (g + 1) _ zBlob z hp hq r1 r2 Tryz.underlying127 rfl blob_info, ?_⟩
 unfold BlobPost
 rw [HG]
 exact ⟨HB6, rfl⟩
theorem eachG_err {α : Type} {f : Val → Res α} (hf : ∀ v z, f v = .error z → z ≠ 0) : ∀ {l : List Val} {z : Int}, eachG f l = .error z → z ≠ 0
 | [], z, h => by cases h
 | v :: r, z, h => by
  unfold eachG at h
  cases hv : f v with
  | error y => rw [hv] at h; injection h with h; subst h; exact hf v y hv
  | ok x =>
   rw [hv] at h
   cases hr : eachG f r with
   | error y => rw [show bindR (.ok x : Res α) (fun x => bindR (eachG f r) fun xs => .ok (x :: xs)) = bindR (eachG f r) fun xs => .ok (x :: xs) from rfl, hr] at h; injection h with h; subst h; exact eachG_err hf hr
   | ok xs => rw [show bindR (.ok x : Res α) (fun x => bindR (eachG f r) fun xs => .ok (x :: xs)) = bindR (eachG f r) fun xs => .ok (x :: xs) from rfl, hr] at h; cases h
theorem idG_err {v : Val} {z : Int} (h : idG v = .error z) : z ≠ 0 := by
 unfold idG at h
 split at h
 ·injection h with h; omega
 ·cases h
theorem listG_err {v : Val} {m : Nat} {z : Int} (h : listG v m = .error z) : z ≠ 0 := by
 unfold listG at h
 split at h
 ·injection h with h; omega
 ·split at h
  ·injection h with h; omega
  ·cases h
theorem textG_err {v : Val} {m : Nat} {z : Int} (h : textG v m = .error z) : z ≠ 0 := by
 unfold textG at h
 split at h
 ·injection h with h; omega
 ·split at h
  ·injection h with h; omega
  ·cases h
theorem openG_err {l : List UInt8} {k n : Nat} {z : Int} (h : openG l k n = .error z) : z ≠ 0 := by
 unfold openG at h
 cases hd : dec l with
 | error y => rw [hd] at h; injection h with h; subst h; exact dec_err_ne hd
 | ok v =>
  rw [hd] at h
  have h : openV v k n = .error z := h
  unfold openV at h
  split at h
  ·injection h with h; omega
  ·split at h
   ·injection h with h; omega
   ·split at h
    ·injection h with h; omega
    ·split at h
     ·injection h with h; omega
     ·cases h
end Go.Proofs.YtgmbkcjihgphmaaGreat
/- object: a list of ids that is read, one behind the other. -/
namespace Go.Proofs.YtgmbkcjihgphmaaGreat
open Go.RowKit
def conE {α : Type} (pre : List α) (r : Res (List α)) : Res (List α) := bindR r fun xs => .ok (pre ++ xs)
theorem conE_nil {α : Type} (r : Res (List α)) : conE [] r = r := by cases r <;> simp [conE, bindR]
theorem each_drop {α : Type} {f : Val → Res α} {us : List Val} {k : Nat} {v : Val} (hv : us[k]? = some v) : eachG f (us.drop k) = bindR (f v) fun x => bindR (eachG f (us.drop (k + 1))) fun xs => .ok (x :: xs) := by
 obtain ⟨hl, he⟩ := List.getElem?_eq_some_iff.1 hv
 rw [List.drop_eq_getElem_cons hl, he]; rfl
theorem conE_step {α : Type} {f : Val → Res α} {us : List Val} {k : Nat} {v : Val} {x : α} (pre : List α) (hv : us[k]? = some v) (hf : f v = .ok x) : conE pre (eachG f (us.drop k)) = conE (pre ++ [x]) (eachG f (us.drop (k + 1))) := by
 rw [each_drop hv, hf]
 cases eachG f (us.drop (k + 1)) <;> simp [conE, bindR]
theorem conE_err {α : Type} {f : Val → Res α} {us : List Val} {k : Nat} {v : Val} {z : Int} (pre : List α) (hv : us[k]? = some v) (hf : f v = .error z) : conE pre (eachG f (us.drop k)) = .error z := by
 rw [each_drop hv, hf]; rfl
theorem conE_end {α : Type} {f : Val → Res α} {us : List Val} {k : Nat} (pre : List α) (hk : us.length ≤ k) : conE pre (eachG f (us.drop k)) = .ok pre := by
 rw [List.drop_of_length_le hk]; simp [conE, bindR, eachG]
/-- what a row's block may be -/
theorem grown_own {w2 wr w' : World} {g : Nat} {o : Option Nat} (h : w2.grownBy wr (some g)) (k : wr.grownBy w' o) (ho : ∀ b, o = some b → w2.heap.size ≤ b) : w2.grownBy w' (some g) := by
 cases o with
 | none => exact grown_trans h ⟨k.os, k.tape, k.output, k.size, fun b hb _ => k.block b hb (by simp)⟩
 | some b => exact grown_new h k (ho b rfl)
/-- the ids so far, in a row of the call's own, told of in block g -/
structure IL (w2 wr : World) (g : Nat) (A : Option Addr) (m c : Nat) (is : List (List UInt8)) : Prop where
 row : RowR oidR 33 wr w2.heap.size A m c is
 grown : w2.grownBy wr (some g)
 lt : g < w2.heap.size
theorem IL.start {w2 : World} {g : Nat} (h : g < w2.heap.size) : IL w2 w2 g none 0 0 [] := ⟨RowR.nil _ _ _ _, grown_refl _ _, h⟩
theorem IL.below {w2 wr w' : World} {g : Nat} {A : Option Addr} {m c : Nat} {is : List (List UInt8)} (h : IL w2 wr g A m c is) (hb : Below wr.heap.size wr w') : IL w2 w' g A m c is := ⟨h.row.below hb, grown_trans h.grown (grown_below hb _), h.lt⟩
theorem elemId : ElemOf Tryz.prog 46 33 (.agg (bytesV (List.replicate 32 0)).toArray) 32 32 := ⟨Tryz.underlying46, by kernel_rfl, rfl, by decide⟩
/-- one more id -/
theorem IL.push {w2 wr : World} {g : Nat} {A : Option Addr} {m c : Nat} {is : List (List UInt8)} {x : List UInt8} (h : IL w2 wr g A m c is) (hx : x.length = 32) (hm : m ≤ 1000000) (c0 : Nat) :
  ∃ A' c' w', (Builtin.append_ #[46, 46] 46 #[.slice A m c, .slice (some ⟨wr.heap.size, 0, none⟩) 1 c0]).run Tryz.prog (wr.alloc (.cells (bytesV x).toArray 33)) = .ok (.slice A' (m + 1) c') w' ∧ IL w2 w' g A' (m + 1) c' (is ++ [x]) ∧
   wr.grownBy w' (Value.slice A m c).ownBlock ∧ (∀ b, (Value.slice A m c).ownBlock = some b → w2.heap.size ≤ b) := by
 have hsz := h.grown.size
 obtain ⟨A', c', w', run, hrow, _, hg, _, _, _⟩ := h.row.push elemId hsz (av := fun _ => True) (oid_of wr _ hx) (fun _ _ _ => trivial) (by omega) (by simp only [maxLen]; omega) 46 c0
 have hob : ∀ b, (Value.slice A m c).ownBlock = some b → w2.heap.size ≤ b := fun b hb => (h.row.lt hb).1
 exact ⟨A', c', w', run, ⟨hrow, grown_own h.grown hg hob, h.lt⟩, hg, hob⟩
theorem IL.set {w2 wr : World} {g off : Nat} {A : Option Addr} {m c : Nat} {is : List (List UInt8)} (h : IL w2 wr g A m c is) (u : Value) : IL w2 (wr.setCell ⟨g, off, none⟩ u) g A m c is :=
 ⟨h.row.grown (grown_set wr g off u) (fun k e hk => by have e := Option.some.inj e; have := (h.row.lt hk).1; have := h.lt; omega) (fun _ _ _ k => k), grown_trans h.grown (grown_set wr g off u), h.lt⟩
theorem IL.set_row {w2 wr : World} {g : Nat} {A : Option Addr} {m c : Nat} {is : List (List UInt8)} (h : IL w2 wr g A m c is) (K : Array Value) : IL w2 (wr.setRow g K) g A m c is :=
 ⟨h.row.grown (grown_row wr g K) (fun k e hk => by have e := Option.some.inj e; have := (h.row.lt hk).1; have := h.lt; omega) (fun _ _ _ k => k), grown_trans h.grown (grown_row wr g K), h.lt⟩
/-- the ids as a slice in new memory -/
theorem IL.sl {w2 wr : World} {g : Nat} {A : Option Addr} {m c : Nat} {is : List (List UInt8)} (h : IL w2 wr g A m c is) {B : Nat} (hB : B ≤ w2.heap.size) : SlOf oidR wr (fun b => b < B) A is ∧ m = is.length ∧ m ≤ c ∧ c ≤ maxLen := by
 obtain ⟨h1, h2⟩ := h.row.cap
 refine ⟨?_, h.row.len, h1, h2⟩
 refine h.row.sl.away B (fun h0 b off e => ?_) (fun _ _ k => k)
 obtain ⟨g', hg, hb, _⟩ := h.row.at (by rw [h.row.len]; exact h0)
 rw [hg] at e
 have e := Option.some.inj e
 injection e with e
 omega
end Go.Proofs.YtgmbkcjihgphmaaGreat
/- object: one id as a slice of one; panics out of a region that draws its order, in a function that recovers. -/
set_option linter.unusedSimpArgs false
namespace Go.Proofs.YtgmbkcjihgphmaaGreat
open Go.RowKit
theorem fill_get : ∀ (K : List Value) (n off : Nat) (cells : Array Value) (i : Nat), off + n + K.length ≤ cells.size → ((K.zipIdx n).foldl (fun cs (p : Value × Nat) => cs.setIfInBounds (off + p.2) p.1) cells)[i]? = if off + n ≤ i ∧ i < off + n + K.length then K[i - (off + n)]? else cells[i]?
 | [], n, off, cells, i, h => by
  have : ¬ (off + n ≤ i ∧ i < off + n + ([] : List Value).length) := by simp only [List.length_nil]; omega
  rw [if_neg this]
  rfl
 | x :: K, n, off, cells, i, h => by
  rw [List.zipIdx_cons, List.foldl_cons, fill_get K (n + 1) off _ i (by simp at h ⊢; omega)]
  simp at h
  by_cases h1 : off + (n + 1) ≤ i ∧ i < off + (n + 1) + K.length
  ·rw [if_pos h1, if_pos (by simp only [List.length_cons]; omega)]
   have : i - (off + n) = (i - (off + (n + 1))) + 1 := by omega
   rw [this, List.getElem?_cons_succ]
  ·rw [if_neg h1]
   by_cases h2 : i = off + n
   ·subst h2
    rw [if_pos (by simp only [List.length_cons]; omega), Array.getElem?_setIfInBounds_self_of_lt (by omega)]
    try simp
   ·rw [if_neg (by simp only [List.length_cons]; omega), Array.getElem?_setIfInBounds_ne (by omega)]
theorem fill_all (K cells : Array Value) (h : K.size = cells.size) : (K.zipIdx.foldl (fun cs (p : Value × Nat) => cs.setIfInBounds (0 + p.2) p.1) cells) = K := by
 have h1 : K.zipIdx.foldl (fun cs (p : Value × Nat) => cs.setIfInBounds (0 + p.2) p.1) cells = (K.toList.zipIdx 0).foldl (fun cs (p : Value × Nat) => cs.setIfInBounds (0 + p.2) p.1) cells := by
  rw [← Array.foldl_toList, Array.toList_zipIdx]
 rw [h1]
 apply Array.ext_getElem?
 intro i
 rw [fill_get K.toList 0 0 cells i (by simp; omega)]
 by_cases hi : i < K.size
 ·rw [if_pos (by simp only [Array.length_toList]; omega)]; simp
 ·rw [if_neg (by simp only [Array.length_toList]; omega)]
  rw [Array.getElem?_eq_none (by omega), Array.getElem?_eq_none (by omega)]
/-- '[]ID{x}', as an append's last part makes it ('attribute [local go_sem ↓] bsId_eq') -/
noncomputable def bsId (w : World) (v : Value) : Result Value := (Instr.buildSlice 46 1 #[(0, v)]).run Tryz.prog w
theorem bsId_eq (w : World) (v : Value) : (Instr.buildSlice 46 1 #[(0, v)]).run Tryz.prog w = bsId w v := rfl
theorem id_sizeOf (w : World) : (sizeOf 33).run Tryz.prog w = .ok 32 w := by
 have h := oid_info
 cases hq : Tryz.prog.info? 33 with
 | none => rw [hq] at h; simp at h
 | some i =>
  rw [hq] at h
  have h1 : i.size = 32 := by simpa using h
  simp [sizeOf, typeInfo, hq, h1]
theorem id_zero (w : World) : (zeroValue 33).run Tryz.prog w = .ok (.agg (bytesV (List.replicate 32 0)).toArray) w := by kernel_rfl
theorem bsId_of (w : World) (K : Array Value) (hK : K.size = 32) : bsId w (.agg K) = .ok (.slice (some ⟨w.heap.size, 0, none⟩) 1 1) (w.alloc (.cells K 33)) := by
 unfold bsId Instr.buildSlice
 have hf : ∀ cells : Array Value, cells.size = 32 → Instr.fill (fun i => some (i * 32, 32)) cells [(0, .agg K)] = some K := by
  intro cells hc
  have hK2 : (Value.agg K).cells = K := rfl
  have h := fill_all K cells (by omega)
  unfold Instr.fill
  simp only [hK2]
  have hc1 : (decide (K.size ≠ 32) || decide (0 * 32 + K.size > cells.size)) = false := by simp [hK, hc]
  simp only [Nat.zero_mul] at hc1 ⊢
  rw [if_neg (by rw [hc1]; decide)]
  unfold Instr.fill
  rw [h]
 simp [run_underlying Tryz.underlying46, Sem.run_bind, id_sizeOf, id_zero, Value.cells]
 rw [hf _ (by simp)]
 simp [newRow, Sem.run_bind]
/-- the step of a slice of one, in a region that draws its order -/
theorem step_build {P : Program} {Q : Exit → Act → World → Prop} {o : Oper} {a : Act} {w w' : World} {K : Act → World → Prop} {E : Prop} (hgd : o.guard = none) (x : Operand) {t : TypeId}
  (ho : o.op = .buildSlice t 1 #[(0, x)]) {y v' : Value} (hx : a.eval x = y) (hrun : (Instr.buildSlice t 1 #[(0, y)]).run P w = .ok v' w') (h : K (a.put o.dst v') w') :
  ∀ {ops : Array Oper}, if Region.wanted o (yielded ops a.tmps) = true then Oper.wp P o a w K Q else E := by
 intro ops
 have hw : Region.wanted o (yielded ops a.tmps) = true := by simp [Region.wanted, hgd]
 rw [if_pos hw]
 unfold Oper.wp execOp
 simp only [ho, List.map_toArray, List.map_cons, List.map_nil, hx, Sem.run_bind, hrun, Result.andThen_ok, Sem.run_pure]
 exact h
/-! ### panics out of a region, in a function that recovers -/
/-- what a panic's way out must show: the results' slots, the deferred calls, and Pn -/
def Door (Pn : List PanicEntry → World → Prop) (p q : Tmp) (x y : Value) (ds : List Deferred) (Q : Exit → Act → World → Prop) : Exit → Act → World → Prop
 | .panic ch, a, w => a.tmps.getD p undef = x ∧ a.tmps.getD q undef = y ∧ a.defers = ds ∧ Pn ch w
 | e, a, w => Q e a w
theorem wp_door {P : Program} {c : Code} {Q : Exit → Act → World → Prop} {a : Act} {w : World} (Pn : List PanicEntry → World → Prop) (p q : Tmp) (x y : Value) (ds : List Deferred)
  (hq : ∀ ch a w, a.tmps.getD p undef = x → a.tmps.getD q undef = y → a.defers = ds → Pn ch w → Q (.panic ch) a w) (h : Code.wp P c (Door Pn p q x y ds Q) a w) : Code.wp P c Q a w := by
 refine Code.wp_mono (fun e a w he => ?_) h
 cases e with
 | panic ch => exact hq ch a w he.1 he.2.1 he.2.2.1 he.2.2.2
 | _ => exact he
theorem door_normal {Pn : List PanicEntry → World → Prop} {p q : Tmp} {x y : Value} {ds : List Deferred} {Q : Exit → Act → World → Prop} {a : Act} {w : World} (h : Q .normal a w) : Door Pn p q x y ds Q .normal a w := h
theorem door_put {Pn : List PanicEntry → World → Prop} {p q : Tmp} {x y : Value} {ds : List Deferred} {Q : Exit → Act → World → Prop} {dst : Option Tmp} {v : Value} {c : List PanicEntry} {a : Act} {w : World} (h1 : dst ≠ some p) (h2 : dst ≠ some q)
  (h : Door Pn p q x y ds Q (.panic c) (a.put dst v) w) : Door Pn p q x y ds Q (.panic c) a w := by
 cases dst with
 | none => exact h
 | some t =>
  obtain ⟨a1, a2, a3, a4⟩ := h
  have hne : ∀ r : Tmp, some t ≠ some r → (a.put (some t) v).tmps.getD r undef = a.tmps.getD r undef := fun r hr => by
   have hr : t ≠ r := fun e => hr (by rw [e])
   simp [Act.put, Array.getElem?_setIfInBounds_ne hr]
  exact ⟨(hne p h1).symm.trans a1, (hne q h2).symm.trans a2, a3, a4⟩
end Go.Proofs.YtgmbkcjihgphmaaGreat
/- object.GetBlob: the walk. -/
namespace Go.Proofs.YtgmbkcjihgphmaaGreat
open Go.RowKit
attribute [local go_sem ↓] bsId_eq
theorem blobEnd_err {is : List (List UInt8)} {v : Val} {z : Int} (h : blobEnd is v = .error z) : z ≠ 0 := by
 unfold blobEnd at h
 split at h
 ·injection h with h; omega
 ·split at h
  ·injection h with h; omega
  ·cases h
theorem nthV_at {us : List Val} {k : Nat} (hk : k < us.length) : us[k]? = some (nthV us k) := by
 unfold nthV
 rw [List.getD_eq_getElem?_getD, List.getElem?_eq_getElem hk]; rfl
theorem listG_len {v : Val} {m : Nat} {us : List Val} (h : listG v m = .ok us) : us.length ≤ m := by
 unfold listG at h
 split at h
 ·cases h
 ·split at h
  ·cases h
  ·injection h with h; subst h; omega
/-- a value's kind and number in memory -/
theorem val_two {w : World} {av : Av} {b o : Nat} {cs : List Value} {v : Val} (hv : valR.R w av cs v) (hat : At w ⟨b, o, none⟩ cs.toArray) : w.cell? ⟨b, o, none⟩ = some (.int .i64 v.kind) ∧ w.cell? ⟨b, o + 1, none⟩ = some (.int .u64 (v.num : Int)) ∧ w.cell? ⟨b, o + 3, none⟩ = some (.float .f64 v.flt) := by
 obtain ⟨k, u, bs, f, l⟩ := v
 obtain ⟨A, cA, M, cM, rfl, _⟩ := valR_iff.1 hv
 exact ⟨hat 0 _ rfl, hat 1 _ rfl, hat 3 _ rfl⟩
/-- GetBlob's variables ahead of the loop -/
structure BV (w w2 : World) (g : Nat) : Prop where
 below : Below g w w2
 x : Blk w2 g 127 zBlob
 e : Blk w2 (g + 1) 55 #[.int .i64 0]
theorem BV.go {w w2 w3 : World} {g : Nat} (h : BV w w2 g) (hb : Below w2.heap.size w2 w3) : BV w w3 g :=
 ⟨h.below.trans (hb.mono (Nat.le_of_lt h.x.lt)), h.x.below hb h.x.lt, h.e.below hb h.e.lt⟩
set_option maxRecDepth 100000 in
set_option maxHeartbeats 4000000 in
theorem getBlob_any (A : Option Addr) (n c : Nat) (l : List UInt8) (w : World) (hs : Sl w 1 A n (bytesV l)) (hnc : n ≤ c) (hcm : c ≤ maxLen) :
  Calls Tryz.prog 54 #[.slice A n c] w (BlobPost w (getBlob l)) := by
 have hmf : ∀ (fn : Fn) (first cap : Array Value) (w : World), (Instr.makeFunc fn first cap).run Tryz.prog w = .ok (.func fn first cap) w := fun _ _ _ _ => rfl
 obtain ⟨w1, hw1⟩ : ∃ w1, w1 = (w.alloc (.cells zBlob 127)).alloc (.cells #[.int .i64 0] 55) := ⟨_, rfl⟩
 have hb1 : Below w.heap.size w w1 := by rw [hw1]; exact ((Below.refl _ _).alloc (Nat.le_refl _) _).alloc (by simp) _
 have HV1 := Lib.hid (show BV w w1 w.heap.size from ⟨hb1, by rw [hw1]; exact (Blk.new w _ _).alloc _, by rw [hw1]; have := Blk.new (w.alloc (.cells zBlob 127)) 55 #[.int .i64 0]; simpa using this⟩)
 have HSZ := Lib.hid (show w1.heap.size = w.heap.size + 2 by rw [hw1]; simp)
 have HOP := Lib.hid (open_get A n c l 2 2 w1 (hs.below hb1) hnc hcm (by omega) (by omega) (by omega))
 obtain ⟨R, hR⟩ : ∃ R, R = getBlob l := ⟨_, rfl⟩
 obtain ⟨D, hD⟩ : ∃ D, D = openG l 2 2 := ⟨_, rfl⟩
 have HR := Lib.hid (show R = bindR D fun vs => bindR (idsG (nthV vs 0) 4096) fun is => blobEnd is (nthV vs 1) by rw [hR, hD]; rfl)
 have HDL := Lib.hid hD
 rw [← hR]
 rw [← hD] at HOP
 clear hs hnc hcm hb1 hR hD
 go_enter_defers Tryz.func54, Tryz.ntmps54
 go_upto_region 3 with fail
 change Code.wp _ _ _ _ ((w.alloc (.cells zBlob 127)).alloc (.cells #[.int .i64 0] 55))
 rw [← hw1]
 clear hw1
 generalize hg : w.heap.size = g at *
 have HG := Lib.hid hg
 clear hg
 go_wp2_with fail
 refine HOP.out.mono ?_
 intro e w2 hp
 obtain ⟨hb2, hp⟩ := hp
 have HV2 := Lib.hid (HV1.out.go hb2)
 cases D with
 | error z =>
  obtain rfl : e = _ := hp
  have hr := HR.out
  rw [hr]
  refine blob_door (openG_err HDL.out.symm) HG.out HV2.out.below HV2.out.x rfl HV2.out.e ?_ ?_ <;> rfl
 | ok vs =>
  obtain ⟨L, cL, rfl, hl1, hl2, hsl⟩ := hp
  have hlen := openG_len HDL.out.symm
  rw [hlen] at hl1 ⊢
  obtain ⟨bL, oL, cs, rfl, hbL, hv, hat⟩ := val_at hsl hlen (i := 0) (by omega)
  have HRR := Lib.hid (show R = bindR (idsG (nthV vs 0) 4096) fun is => blobEnd is (nthV vs 1) from HR.out)
  have HSV := Lib.hid hsl
  have HVL := Lib.hid hlen
  have hk5 : cs.length = 5 := valR.len hv
  obtain ⟨KV, hKV⟩ : ∃ KV, KV = cs.toArray := ⟨_, rfl⟩
  have HI := Lib.hid (show (Tryz.prog.info? 94).map (·.size) = some KV.size by rw [hKV, show cs.toArray.size = 5 from by simpa using hk5]; exact val_info)
  have HAT := Lib.hid (show At w2 ⟨bL, oL, none⟩ KV by rw [hKV]; simpa using hat)
  have HT := Lib.hid (list_get cs (nthV vs 0) 4096 w2 _ hv (by omega))
  rw [← hKV] at HT
  obtain ⟨T, hT⟩ : ∃ T, T = listG (nthV vs 0) 4096 := ⟨_, rfl⟩
  have HTT := Lib.hid hT
  have HR3 := Lib.hid (show R = bindR (bindR T (eachG idG)) fun is => blobEnd is (nthV vs 1) by rw [HRR.out, hT]; rfl)
  rw [← hT] at HT
  clear hlen hsl hv hat hk5 hKV HR HDL HOP hT HRR HV1
  go_wp2_with (first | (refine wpList_load_at rfl _ _ rfl bL oL rfl KV _ HAT.out Tryz.underlying94 rfl HI.out ?_) | fail)
  refine HT.out.mono ?_
  intro e w3 hp
  obtain ⟨hb3, hp⟩ := hp
  have HV3 := Lib.hid (HV2.out.go hb3)
  have HSV3 := Lib.hid (HSV.out.below hb3)
  cases T with
  | error z =>
   obtain rfl : e = _ := hp
   have hr := HR3.out
   rw [hr]
   refine blob_door (listG_err HTT.out.symm) HG.out HV3.out.below HV3.out.x rfl HV3.out.e ?_ ?_ <;> rfl
  | ok us =>
   obtain ⟨M, cM, rfl, hm1, hm2, hum⟩ := hp
   have HUM := Lib.hid hum
   have hul := listG_len HTT.out.symm
   obtain ⟨nu, hnu⟩ : ∃ nu, nu = us.length := ⟨_, rfl⟩
   rw [← hnu] at hm1 hul ⊢
   have HNU := Lib.hid hnu.symm
   obtain ⟨RR, hRR⟩ : ∃ RR, RR = eachG idG us := ⟨_, rfl⟩
   have HRR := Lib.hid (show conE [] (eachG idG (us.drop 0)) = RR by rw [conE_nil, List.drop_zero, hRR])
   have HR4 := Lib.hid (show R = bindR RR fun is => blobEnd is (nthV vs 1) by rw [HR3.out, hRR]; rfl)
   have HIL := Lib.hid (IL.start HV3.out.x.lt)
   have hsz3 : g + 2 ≤ w3.heap.size := by have := HSZ.out; have := hb2.size; have := hb3.size; omega
   have hbw : Below w3.heap.size w3 w3 := Below.refl _ _
   clear hum hnu hRR HR3 HTT HT hb2 hb3 HV2 HSV HAT HI
   go_wp2_with fail
   go_loopw [15] (fun s15 wr => ∃ (k : Nat) (A' : Option Addr) (c' : Nat) (is : List (List UInt8)), k ≤ nu ∧ s15 = .int .i64 (k : Int) ∧ Hid (conE is (eachG idG (us.drop k)) = RR) ∧ Hid (IL w3 wr g A' k c' is) ∧ Hid (Blk wr g 127 #[.slice A' k c', .int .i64 0])) (fun s15 wr => nu - (intOf s15).toNat)
   case atStart => exact ⟨0, none, 0, [], by omega, rfl, HRR, HIL, Lib.hid HV3.out.x⟩
   case round =>
    obtain ⟨k, A', c', is, hk, rfl, HC, HL, HX⟩ := hrel
    have hE : Blk wr (g + 1) 55 #[.int .i64 0] := HV3.out.e.grown HL.out.grown (fun e => by have := Option.some.inj e; omega)
    have hBW : Below g w wr := HV3.out.below.trans ⟨HL.out.grown.os, HL.out.grown.tape, HL.out.grown.output, HL.out.grown.size, fun b hb => HL.out.grown.block b (by have := HL.out.lt; omega) (fun e => by have := Option.some.inj e; omega)⟩
    have HE := Lib.hid hE
    have HBW := Lib.hid hBW
    clear hE hBW
    by_cases hlt : k < nu
    ·have hltI : (k : Int) < (nu : Int) := by omega
     obtain ⟨bM, oM, cs, rfl, hbM, hv, hat⟩ := val_at (HUM.out.stable (Moves.grown HL.out.grown (show g < w1.heap.size by have := HSZ.out; omega))) HNU.out hlt
     have hvk := nthV_at (us := us) (k := k) (by rw [HNU.out]; exact hlt)
     obtain ⟨KV, hKV, HK, HKV, HI, HO, HS5, HN⟩ := keepNewA wr hv
     have HAT := Lib.hid (show At wr ⟨bM, oM + k * 5, none⟩ KV by rw [hKV]; exact hat)
     have HX6 := Lib.hid (HX.out.alloc (.cells KV 94))
     have HL6 := Lib.hid (HL.out.below ((Below.refl _ _).alloc (Nat.le_refl _) (.cells KV 94)))
     have HE6 := Lib.hid (HE.out.alloc (.cells KV 94))
     have HB6 := Lib.hid (HBW.out.alloc (Nat.le_of_lt (by have := HE.out.lt; omega)) (.cells KV 94))
     have HVK := Lib.hid hvk
     have HOL := Lib.hid (fun b (hb : (Value.slice A' k c').ownBlock = some b) => (HL.out.row.lt hb).2)
     have HID := Lib.hid (id_get KV.toList (nthV us k) ((wr.alloc (.cells KV 94)).drew) (valR.stable HKV.out ((Moves.forget _ _).trans (Moves.of_below (Same.below ⟨1, rfl⟩ _)))))
     have HID := Lib.hid (by have := HID.out; rwa [Array.toArray_toList] at this : Calls Tryz.prog 81 #[.agg KV] ((wr.alloc (.cells KV 94)).drew) (IdPost ((wr.alloc (.cells KV 94)).drew) (idG (nthV us k))))
     clear hv hat hvk hKV HKV
     go_upto_region 7 with (first
      | (refine wpList_load_at rfl _ _ rfl bM (oM + k * 5) rfl KV _ HAT.out Tryz.underlying94 rfl HI.out ?_)
      | (refine wpList_store_row rfl _ _ _ rfl wr.heap.size KV rfl rfl 94 _ HN.out HI.out HS5.out HO.out ?_) | fail)
     rw [World.setRow_alloc_new]
     clear HN HS5 HO HAT HX HL HE HBW
     generalize wr.alloc (.cells KV 94) = w6 at *
     generalize wr.heap.size = gc at *
     have hdr : Below w6.heap.size w6 w6.drew := Same.below ⟨1, rfl⟩ _
     have hg6 : g < w6.heap.size := HX6.out.lt
     have hgc6 : gc < w6.heap.size := HK.out.lt
     have hcx : w6.cell? ⟨g, 0, none⟩ = some (.slice A' k c') := HX6.out.cell 0
     have hs0 : w6.drew.cell? ⟨g, 0, none⟩ = some (.slice A' k c') ∧ Blk w6.drew gc 94 KV := ⟨(hdr.cell (p := ⟨g, 0, none⟩) hg6).trans hcx, HK.out.below hdr hgc6⟩
     refine wp_door (fun ch w' => ∃ z, ch = flawE z ∧ z ≠ 0 ∧ R = .error z ∧ Below g w w' ∧ (∃ K : Array Value, K.size = 2 ∧ Blk w' g 127 K) ∧ Blk w' (g + 1) 55 #[.int .i64 0]) 2 3 (.pointer (some ⟨g, 0, none⟩)) (.pointer (some ⟨g + 1, 0, none⟩))
      [{ target := .fn (.func 41) #[], args := #[.pointer (some ⟨g + 1, 0, none⟩)] }, { target := .fn (.func 78) #[.pointer (some ⟨g + 1, 0, none⟩), .pointer (some ⟨g, 0, none⟩)], args := #[] }] (fun ch a w' h1 h2 h3 hp => ?_) ?_
     ·obtain ⟨z, rfl, hz, hRz, hB, ⟨K, hK, hx⟩, he⟩ := hp
      have key := blob_door (w := w) (z := z) hz HG.out hB hx hK he h1 h2
      rw [← h3, ← hRz] at key
      exact key
     refine wp_region_late (S := fun w => w.cell? ⟨g, 0, none⟩ = some (.slice A' k c') ∧ Blk w gc 94 KV) (s := 7) (by kernel_rfl) ?_
     refine rgL 0 rfl (fun _ _ _ h => door_put (by decide) (by decide) h) (fun _ => hs0) ?_
     refine late_load (i := 1) (m := 1) (v := ?_) (a' := ?_) rfl (by kernel_rfl) (by kernel_rfl) (by kernel_rfl) (by kernel_rfl) (by rfl) (fun _ _ _ h => door_put (by decide) (by decide) h) (by rfl) hs0 ?_ ?_ ?_
     rotate_left 2
     ·(intro w hS; have t := hS.1; go_simp; try with_reducible rfl)
     ·(go_simp; try with_reducible rfl)
     refine late_load (i := 2) (m := 2) (v := ?_) (a' := ?_) rfl (by kernel_rfl) (by kernel_rfl) (by kernel_rfl) (by kernel_rfl) (by rfl) (fun _ _ _ h => door_put (by decide) (by decide) h) (by rfl) hs0 ?_ ?_ ?_
     rotate_left 2
     ·(intro w hS; refine exec_load_at 94 (.tmp 6) ?_ gc 0 ?_ KV _ (At.of_row hS.2) Tryz.underlying94 rfl HI.out; exact rfl; exact rfl)
     ·(go_simp; try with_reducible rfl)
     refine late_one (i := 3) (by kernel_rfl) rfl (fun KR hKR => ?_)
     go_simp
     refine HID.out.mono ?_
     intro e w7 hp
     obtain ⟨hb7, hp⟩ := hp
     have hb67 := hdr.trans (hb7.mono hdr.size)
     have HL7 := Lib.hid (HL6.out.below hb67)
     have HX7 := Lib.hid (HX6.out.below hb67 hg6)
     have HK7 := Lib.hid (HK.out.below hb67 hgc6)
     have HE7 := Lib.hid (HE6.out.below hb67 HE6.out.lt)
     have HB7 := Lib.hid (HB6.out.trans (hb67.mono (Nat.le_of_lt hg6)))
     have hs7 : w7.cell? ⟨g, 0, none⟩ = some (.slice A' k c') ∧ Blk w7 gc 94 KV := ⟨HX7.out.cell 0, HK7.out⟩
     rcases hid : idG (nthV us k) with z | b
     ·rw [hid] at hp
      obtain rfl : e = _ := hp
      have hrr : R = .error z := by rw [HR4.out, ← HC.out, conE_err is HVK.out hid]; rfl
      exact ⟨rfl, rfl, rfl, z, rfl, idG_err hid, hrr, HB7.out, ⟨_, rfl, HX7.out⟩, HE7.out⟩
     rw [hid] at hp
     obtain ⟨rfl, hb32⟩ := hp
     have HC2 := Lib.hid (show conE (is ++ [b]) (eachG idG (us.drop (k + 1))) = RR by rw [← conE_step is HVK.out hid]; exact HC.out)
     obtain ⟨A9, c9, w9, run9, HL9, hg9, hob9⟩ := HL7.out.push hb32 (by omega) 1
     obtain ⟨KB, hKB⟩ : ∃ KB, KB = (bytesV b).toArray := ⟨_, rfl⟩
     have hKs : KB.size = 32 := by rw [hKB]; simp [bytesV, hb32]
     rw [← hKB] at run9 ⊢
     have hbs := fun w => bsId_of w KB hKs
     have HKS := Lib.hid hKs
     clear hKs hKB
     have hal : Below w7.heap.size w7 (w7.alloc (.cells KB 33)) := (Below.refl _ _).alloc (Nat.le_refl _) _
     have hs8 : (w7.alloc (.cells KB 33)).cell? ⟨g, 0, none⟩ = some (.slice A' k c') ∧ Blk (w7.alloc (.cells KB 33)) gc 94 KV := ⟨(HX7.out.alloc _).cell 0, HK7.out.alloc _⟩
     have hgo9 : ∀ b, (Value.slice A' k c').ownBlock = some b → w3.heap.size ≤ b := hob9
     have HX9 := Lib.hid (HX7.out.grown hg9 (fun e => by have := hob9 g e.symm; have := HL6.out.lt; omega))
     have HK9 : w9.cell? ⟨g, 0, none⟩ = some (.slice A' k c') ∧ Blk w9 gc 94 KV := ⟨HX9.out.cell 0, HK7.out.grown hg9 (fun e => by have := HOL.out gc e.symm; omega)⟩
     refine hKR _ _ (fun _ => hs7) ?_
     clear hKR KR
     refine late_one (i := 4) (by kernel_rfl) rfl (fun KR hKR => ?_)
     refine step_build (by rfl) (.tmp 22) (by rfl) (by rfl) (hbs _) ?_
     refine hKR _ _ (fun _ => hs8) ?_
     clear hKR KR
     refine late_one (i := 5) (by kernel_rfl) rfl (fun KR hKR => ?_)
     refine step_run_append (by rfl) (.tmp 20) (.tmp 23) (by rfl) (by rfl) (by rfl) run9 ?_
     have hfz := HX9.out.frozen 0
     have hcz : w9.cell? ⟨g, 0, none⟩ = some (.slice A' k c') := HX9.out.cell 0
     have HL10 := Lib.hid (HL9.set (off := 0) (.slice A9 (k + 1) c9))
     have HX10 : Hid (Blk (w9.setCell ⟨g, 0, none⟩ (.slice A9 (k + 1) c9)) g 127 #[.slice A9 (k + 1) c9, .int .i64 0]) := Lib.hid (HX9.out.set_ 0 _)
     refine hKR _ _ (fun _ => HK9) ?_
     clear hKR KR
     refine rgL 6 rfl (fun _ _ _ h => door_put (by decide) (by decide) h) (fun _ => HK9) ?_
     refine late_one (i := 7) (by kernel_rfl) rfl (fun KR hKR => ?_)
     go_simp
     skip
     refine hKR _ _ (fun h0 => Bool.noConfusion (show (true : Bool) = false from h0)) ?_
     clear hKR KR
     refine late_done' (by kernel_rfl) ?_ _
     clear run9 hbs HID HC HL6 HX6 HE6 HB6 HL7 HX7 HK7 HE7 HB7 HX9 HL9 hs8 HK9 hs7 hs0 hcx
     refine door_normal ?_
     go_wp2_with fail
     go_roundw
     case rel => exact ⟨k + 1, A9, c9, is ++ [b], by omega, by go_num, HC2, HL10, HX10⟩
     case measure => simp [intOf]; omega
    ·have hltI : ¬ (k : Int) < (nu : Int) := by omega
     obtain rfl : k = nu := by omega
     have hrr : RR = .ok is := by rw [← HC.out]; exact conE_end is (by rw [HNU.out]; exact Nat.le_refl _)
     have HR5 := Lib.hid (show R = blobEnd is (nthV vs 1) by rw [HR4.out, hrr]; rfl)
     obtain ⟨bq, oq, cs, e0, hbq, hv, hat⟩ := val_at (HSV3.out.stable (Moves.grown HL.out.grown (show g < w1.heap.size by have := HSZ.out; omega))) HVL.out (i := 1) (by omega)
     have e0 := Option.some.inj e0
     injection e0 with e1 e2
     subst e1 e2
     obtain ⟨p0, p1, p3⟩ := val_two hv hat
     obtain ⟨kq, hkq⟩ : ∃ kq, kq = (nthV vs 1).kind := ⟨_, rfl⟩
     obtain ⟨uq, huq⟩ : ∃ uq, uq = (nthV vs 1).num := ⟨_, rfl⟩
     have HR6 := Lib.hid (show R = if kq ≠ 0 then .error 91 else if 262144 < uq then .error 2 else .ok (is, (uq : Int)) by rw [HR5.out, hkq, huq]; rfl)
     have q0 : wr.cell? ⟨bL, oL + 5, none⟩ = some (.int .i64 kq) := by rw [hkq]; exact p0
     have q1 : wr.cell? ⟨bL, oL + 6, none⟩ = some (.int .u64 (uq : Int)) := by rw [huq]; exact p1
     clear hv hat hkq huq e0 HR5 hrr p0 p1 p3
     by_cases hk0 : kq = 0
     ·have e1 : (kq == 0) = true := by simp [hk0]
      by_cases hu : uq ≤ 262144
      ·have hr : R = .ok (is, (uq : Int)) := by rw [HR6.out, if_neg (by simp [hk0]), if_neg (by omega)]
       have HRR := Lib.hid hr
       have huI : (uq : Int) ≤ 262144 := by omega
       have huw : IntKind.i64.wrap (uq : Int) = (uq : Int) := IntWalk.i64_in _ (by omega)
       have hfz := HX.out.frozen 1
       have hcz : wr.cell? ⟨g, 1, none⟩ = some (.int .i64 0) := HX.out.cell 1
       clear hr hk0 hu
       go_wp2_with fail
       refine (need_yes 91 _).mono ?_
       rintro e w' ⟨rfl, rfl⟩
       go_wp2_with fail
       refine (need_yes 2 _).mono ?_
       rintro e w' ⟨rfl, rfl⟩
       obtain ⟨KX, hKX⟩ : ∃ KX : Array Value, KX = #[.slice A' k c', .int .i64 (uq : Int)] := ⟨_, rfl⟩
       have HX1 : Hid (Blk (w'.setCell ⟨g, 1, none⟩ (.int .i64 (uq : Int))) g 127 KX) := Lib.hid (by rw [hKX]; exact HX.out.set_ 1 _)
       have HE1 : Hid (Blk (w'.setCell ⟨g, 1, none⟩ (.int .i64 (uq : Int))) (g + 1) 55 #[.int .i64 0]) := Lib.hid (HE.out.other (by omega) 1 _)
       have HL1 := Lib.hid (HL.out.set (off := 1) (.int .i64 (uq : Int)))
       have HB1 : Hid (Below g w (w'.setCell ⟨g, 1, none⟩ (.int .i64 (uq : Int)))) := Lib.hid (HBW.out.setCell (p := ⟨g, 1, none⟩) (Nat.le_refl g) _)
       have HIX := Lib.hid (show (Tryz.prog.info? 127).map (·.size) = some KX.size by rw [hKX]; exact blob_info)
       have HOX := Lib.hid (show KX.all (·.oneCell') = true by rw [hKX]; simp [Value.oneCell'])
       have HKX := Lib.hid hKX
       clear hKX HX HE HL HBW
       go_upto_region 12 with fail
       generalize w'.setCell ⟨g, 1, none⟩ (.int .i64 (uq : Int)) = w4 at *
       have HX2 := Lib.hid (show Blk (w4.setRow g KX) g 127 KX from setRow_heap w4 g _ KX _ _ HX1.out)
       have HE2 := Lib.hid (HE1.out.grown (grown_row w4 g KX) (fun e => by have := Option.some.inj e; omega))
       have HL2 := Lib.hid (HL1.out.set_row KX)
       have HB2 := Lib.hid (below_setRow HB1.out (Nat.le_refl g) KX)
       have hfz := HE2.out.frozen 0
       have hcz : (w4.setRow g KX).cell? ⟨g + 1, 0, none⟩ = some (.int .i64 0) := HE2.out.cell 0
       clear HB1 HL1 HE1
       go_wp2_with (first
        | (refine wpList_load_row rfl 127 (.tmp 2) rfl g rfl 127 KX (0, 0) _ HX1.out Tryz.underlying127 rfl HIX.out ?_)
        | (refine wpList_store_row rfl _ _ _ rfl g KX rfl rfl 127 _ HX1.out HIX.out rfl HOX.out ?_) | fail)
       generalize w4.setRow g KX = w5 at *
       have HX3 := HX2.out.other (g' := g + 1) (by omega) 0 (.int .i64 0)
       have HE3 := HE2.out.set_ 0 (.int .i64 0)
       have HB3 := HB2.out.setCell (p := ⟨g + 1, 0, none⟩) (by show g ≤ g + 1; omega) (.int .i64 0)
       have HG3 : w5.grownBy (w5.setCell ⟨g + 1, 0, none⟩ (.int .i64 0)) (some (g + 1)) := grown_set _ _ _ _
       obtain ⟨HS3, hmi, hmc, hcm⟩ := HL2.out.sl (B := g + 2) hsz3
       have HS4 : SlOf oidR (w5.setCell ⟨g + 1, 0, none⟩ (.int .i64 0)) (fun b => b < g + 2) A' is := HS3.stable (Moves.grown HG3 (by show g + 1 < g + 2; omega))
       generalize w5.setCell ⟨g + 1, 0, none⟩ (.int .i64 0) = W at *
       refine leaves_cons (f := 41) (args := #[.pointer (some ⟨g + 1, 0, none⟩)]) (by simp) (by simp [go_sem]) ?_
       refine (ocaught_idle _ _).mono ?_
       rintro e u' w7 ⟨rfl, rfl, rfl⟩
       have V3 := HX3.alloc (.cells #[.int .i64 0] 152)
       have E3 := HE3.alloc (.cells #[.int .i64 0] 152)
       refine leaves_cons (f := 78) (args := #[.pointer (some ⟨g + 1, 0, none⟩), .pointer (some ⟨g, 0, none⟩)]) (by simp [settle]) (by simp [go_sem]) ?_
       refine (blobD_ok _ _ _ _ (E3.cell 0)).mono ?_
       rintro e u' w8 ⟨rfl, rfl, rfl⟩
       refine ⟨_, results_row_err rfl _ _ g (g + 1) _ KX 0 rfl rfl V3 (E3.cell 0) Tryz.underlying127 rfl HIX.out, ?_⟩
       unfold BlobPost
       rw [HG.out, HRR.out]
       have hgW : g ≤ W.heap.size := by have := HX3.lt; omega
       refine ⟨HB3.alloc hgW _, A', c', by rw [HKX.out, hmi], HS4.stable ((Moves.of_below ((Below.refl _ _).alloc (Nat.le_refl _) _)).trans (Moves.less _ (fun b _ e => by show b < g + 2; omega))), by rw [← hmi]; exact hmc, hcm⟩
      ·have HRR := Lib.hid (show R = .error 2 by rw [HR6.out, if_neg (by simp [hk0]), if_pos (by omega)])
       have huI : decide ((uq : Int) ≤ 262144) = false := by simp; omega
       clear hk0 hu
       go_wp2_with fail
       refine (need_yes 91 _).mono ?_
       rintro e w' ⟨rfl, rfl⟩
       go_wp2_with fail
       refine (need_no 2 _).mono ?_
       rintro e w' ⟨rfl, rfl⟩
       rw [HRR.out]
       refine blob_door (by decide) HG.out HBW.out HX.out rfl HE.out ?_ ?_ <;> rfl
     ·have e1 : (kq == 0) = false := by simp [hk0]
      have HRR := Lib.hid (show R = .error 91 by rw [HR6.out, if_pos hk0])
      clear hk0
      go_wp2_with fail
      refine (need_no 91 _).mono ?_
      rintro e w' ⟨rfl, rfl⟩
      rw [HRR.out]
      refine blob_door (by decide) HG.out HBW.out HX.out rfl HE.out ?_ ?_ <;> rfl
end Go.Proofs.YtgmbkcjihgphmaaGreat
