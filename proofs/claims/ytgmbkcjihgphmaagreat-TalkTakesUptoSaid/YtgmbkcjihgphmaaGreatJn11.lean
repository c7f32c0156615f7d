/- Contracts and laws for what the statement reaches, joined: ObjGetCom, ObjTree. -/
import Derived.Test.YtgmbkcjihgphmaaGreatJn10
/- object.GetCommit: the walk. -/
set_option linter.unusedVariables false
set_option linter.unusedSimpArgs false
namespace Go.Proofs.YtgmbkcjihgphmaaGreat
open Go.RowKit
attribute [local go_sem ↓] bsId_eq
/-- a value of a record, as it is loaded -/
theorem val_load {w : World} {av : Av} {b o : Nat} {vs : List Val} {n i : Nat} (h : SlOf valR w av (some ⟨b, o, none⟩) vs) (hl : vs.length = n) (hi : i < n) : ∃ KV : Array Value, Hid (At w ⟨b, o + i * 5, none⟩ KV) ∧ Hid ((Tryz.prog.info? 94).map (·.size) = some KV.size) ∧ Hid (valR.R w av KV.toList (nthV vs i)) ∧ b < w.heap.size := by
 obtain ⟨b', o', cs, e, hb, hv, hat⟩ := val_at h hl hi
 have e := Option.some.inj e
 injection e with e1 e2
 subst e1 e2
 have hk5 : cs.length = 5 := valR.len hv
 exact ⟨cs.toArray, Lib.hid hat, Lib.hid (by rw [show cs.toArray.size = 5 from by simpa using hk5]; exact val_info), Lib.hid (by simpa using hv), hb⟩
/-- GetCommit's variables -/
structure CV (w w2 : World) (g : Nat) (K : Array Value) : Prop where
 below : Below g w w2
 x : Blk w2 g 66 K
 e : Blk w2 (g + 1) 55 #[.int .i64 0]
theorem CV.go {w w2 w3 : World} {g : Nat} {K : Array Value} (h : CV w w2 g K) (hb : Below w2.heap.size w2 w3) : CV w w3 g K :=
 ⟨h.below.trans (hb.mono (Nat.le_of_lt h.x.lt)), h.x.below hb h.x.lt, h.e.below hb h.e.lt⟩
theorem CV.row {w w2 : World} {g : Nat} {K : Array Value} (h : CV w w2 g K) (K' : Array Value) : CV w (w2.setRow g K') g K' :=
 ⟨below_setRow h.below (Nat.le_refl g) K', setRow_heap w2 g _ K' _ _ h.x, h.e.grown (grown_row w2 g K') (fun e => by have := Option.some.inj e; omega)⟩
theorem CV.set {w w2 : World} {g i : Nat} {K : Array Value} (h : CV w w2 g K) (u : Value) : CV w (w2.setCell ⟨g, i, none⟩ u) g (K.setIfInBounds i u) :=
 ⟨h.below.setCell (p := ⟨g, i, none⟩) (Nat.le_refl g) u, h.x.set_ i u, h.e.other (by omega) i u⟩
theorem CV.grown {w w2 w3 : World} {g : Nat} {K : Array Value} {o : Option Nat} (h : CV w w2 g K) (hg : w2.grownBy w3 o) (ho : ∀ b, o = some b → g + 2 ≤ b) : CV w w3 g K := by
 refine ⟨h.below.trans ⟨hg.os, hg.tape, hg.output, hg.size, fun b hb => hg.block b (by have := h.x.lt; omega) (fun e => by have := ho b e.symm; omega)⟩, h.x.grown hg (fun e => by have := ho g e.symm; omega), h.e.grown hg (fun e => by have := ho (g + 1) e.symm; omega)⟩
abbrev comDs (g : Nat) : List Deferred := [{ target := .fn (.func 41) #[], args := #[.pointer (some ⟨g + 1, 0, none⟩)] }, { target := .fn (.func 84) #[.pointer (some ⟨g + 1, 0, none⟩), .pointer (some ⟨g, 0, none⟩)], args := #[] }]
/-- what a panic of GetCommit's must show -/
def comPn (w : World) (g : Nat) (R : Res ComT) (ch : List PanicEntry) (w' : World) : Prop := ∃ z, ch = flawE z ∧ z ≠ 0 ∧ R = .error z ∧ ∃ K, K.size = 36 ∧ CV w w' g K
theorem com_out {w w' : World} {g : Nat} {R : Res ComT} {ch : List PanicEntry} {tmps : Array Value} {ds : List Deferred} (HG : w.heap.size = g) (hp : comPn w g R ch w') (h1 : tmps.getD 2 undef = .pointer (some ⟨g, 0, none⟩)) (h2 : tmps.getD 3 undef = .pointer (some ⟨g + 1, 0, none⟩)) (h3 : ds = comDs g) :
  Leaves Tryz.prog Tryz.f56 tmps (ComPost w R) ds (.panicking ch) w' := by
 obtain ⟨z, rfl, hz, rfl, K, hK, hv⟩ := hp
 subst h3
 exact com_door hz HG hv.below hv.x hK hv.e h1 h2
/-- GetCommit's end -/
theorem com_end {w w5 w15 : World} {g : Nat} {A' : Option Addr} {k c' : Nat} {is : List (List UInt8)} {tr : List UInt8} {fq : Nat} {a n : ByteArray} {KX : Array Value} {R : Res ComT} {tmps : Array Value} {ds : List Deferred} (HG : w.heap.size = g) (HX : CV w w15 g KX) (HL : IL w5 w15 g A' k c' is) (H32 : tr.length = 32) (hsz : g + 2 ≤ w5.heap.size)
  (hR : R = .ok (tr, is, fq, a, n)) (hK : KX = comK tr A' k c' fq a n) (hI : (Tryz.prog.info? 66).map (·.size) = some KX.size)
  (h1 : tmps.getD 2 undef = .pointer (some ⟨g, 0, none⟩) := by rfl) (h2 : tmps.getD 3 undef = .pointer (some ⟨g + 1, 0, none⟩) := by rfl) (h3 : ds = comDs g := by rfl) :
  Leaves Tryz.prog Tryz.f56 tmps (ComPost w R) ds .returning (w15.setCell ⟨g + 1, 0, none⟩ (.int .i64 0)) := by
 subst h3
 have HX3 := HX.x.other (g' := g + 1) (by omega) 0 (.int .i64 0)
 have HE3 := HX.e.set_ 0 (.int .i64 0)
 have HB3 := HX.below.setCell (p := ⟨g + 1, 0, none⟩) (by show g ≤ g + 1; omega) (.int .i64 0)
 have HG3 : w15.grownBy (w15.setCell ⟨g + 1, 0, none⟩ (.int .i64 0)) (some (g + 1)) := grown_set _ _ _ _
 obtain ⟨HS3, hmi, hmc, hcm⟩ := HL.sl (B := g + 2) hsz
 have HS4 : SlOf oidR (w15.setCell ⟨g + 1, 0, none⟩ (.int .i64 0)) (fun b => b < g + 2) A' is := HS3.stable (Moves.grown HG3 (by show g + 1 < g + 2; omega))
 generalize w15.setCell ⟨g + 1, 0, none⟩ (.int .i64 0) = W at *
 refine leaves_cons (f := 41) (args := #[.pointer (some ⟨g + 1, 0, none⟩)]) (by simp) (by simp [go_sem]) ?_
 refine (ocaught_idle _ _).mono ?_
 rintro e u' w7 ⟨rfl, rfl, rfl⟩
 have V3 := HX3.alloc (.cells #[.int .i64 0] 152)
 have E3 := HE3.alloc (.cells #[.int .i64 0] 152)
 refine leaves_cons (f := 84) (args := #[.pointer (some ⟨g + 1, 0, none⟩), .pointer (some ⟨g, 0, none⟩)]) (by simp [settle]) (by simp [go_sem]) ?_
 refine (comD_ok _ _ _ _ (E3.cell 0)).mono ?_
 rintro e u' w8 ⟨rfl, rfl, rfl⟩
 refine ⟨_, results_row_err rfl tmps _ g (g + 1) _ KX 0 h1 h2 V3 (E3.cell 0) Tryz.underlying66 rfl hI, ?_⟩
 unfold ComPost
 rw [HG, hR]
 have hgW : g ≤ W.heap.size := by have := HX3.lt; omega
 refine ⟨HB3.alloc hgW _, A', c', by rw [hK, hmi], H32, HS4.stable ((Moves.of_below ((Below.refl _ _).alloc (Nat.le_refl _) _)).trans (Moves.less _ (fun b _ e => by show b < g + 2; omega))), by rw [← hmi]; exact hmc, hcm⟩
set_option maxRecDepth 100000 in
set_option maxHeartbeats 8000000 in
theorem getCommit_any (A : Option Addr) (n c : Nat) (l : List UInt8) (w : World) (hs : Sl w 1 A n (bytesV l)) (hnc : n ≤ c) (hcm : c ≤ maxLen) :
  Calls Tryz.prog 56 #[.slice A n c] w (ComPost w (getCommit l)) := by
 have hmf : ∀ (fn : Fn) (first cap : Array Value) (w : World), (Instr.makeFunc fn first cap).run Tryz.prog w = .ok (.func fn first cap) w := fun _ _ _ _ => rfl
 obtain ⟨w1, hw1⟩ : ∃ w1, w1 = (w.alloc (.cells zCom 66)).alloc (.cells #[.int .i64 0] 55) := ⟨_, rfl⟩
 have hb1 : Below w.heap.size w w1 := by rw [hw1]; exact ((Below.refl _ _).alloc (Nat.le_refl _) _).alloc (by simp) _
 have HV1 := Lib.hid (show CV w w1 w.heap.size zCom from ⟨hb1, by rw [hw1]; exact (Blk.new w _ _).alloc _, by rw [hw1]; have := Blk.new (w.alloc (.cells zCom 66)) 55 #[.int .i64 0]; simpa using this⟩)
 have HSZ := Lib.hid (show w1.heap.size = w.heap.size + 2 by rw [hw1]; simp)
 have HOP := Lib.hid (open_get A n c l 4 5 w1 (hs.below hb1) hnc hcm (by omega) (by omega) (by omega))
 obtain ⟨R, hR⟩ : ∃ R, R = getCommit l := ⟨_, rfl⟩
 obtain ⟨D, hD⟩ : ∃ D, D = openG l 4 5 := ⟨_, rfl⟩
 have HR := Lib.hid (show R = bindR D fun vs => bindR (idG (nthV vs 0)) fun t => bindR (idsG (nthV vs 1) 8) fun ps => comEnd vs t ps by rw [hR, hD]; rfl)
 have HDL := Lib.hid hD
 rw [← hR]
 rw [← hD] at HOP
 clear hs hnc hcm hb1 hR hD
 go_enter_defers Tryz.func56, Tryz.ntmps56
 go_upto_region 3 with fail
 change Code.wp _ _ _ _ ((w.alloc (.cells zCom 66)).alloc (.cells #[.int .i64 0] 55))
 rw [← hw1]
 clear hw1
 generalize hg : w.heap.size = g at *
 have HG := Lib.hid hg
 clear hg
 go_wp2_with fail
 refine HOP.out.mono ?_
 intro e w2 hp
 obtain ⟨hb2, hp⟩ := hp
 have HV2 := Lib.hid (HV1.out.go hb2)
 cases D with
 | error z =>
  obtain rfl : e = _ := hp
  have hr := HR.out
  refine com_out HG.out ⟨z, rfl, openG_err HDL.out.symm, hr, _, comK_size (by simp) _ _ _ _ _ _, HV2.out⟩ ?_ ?_ ?_ <;> rfl
 | ok vs =>
  obtain ⟨L, cL, rfl, hl1, hl2, hsl⟩ := hp
  have hlen := openG_len HDL.out.symm
  have HNM := Lib.hid (openG_norm HDL.out.symm)
  rw [hlen] at hl1 ⊢
  obtain ⟨bL, oL, cs, rfl, hbL, hv, hat⟩ := val_at hsl hlen (i := 0) (by omega)
  have HRR := Lib.hid (show R = bindR (idG (nthV vs 0)) fun t => bindR (idsG (nthV vs 1) 8) fun ps => comEnd vs t ps from HR.out)
  have HSV := Lib.hid hsl
  have HVL := Lib.hid hlen
  have hk5 : cs.length = 5 := valR.len hv
  obtain ⟨KV, hKV⟩ : ∃ KV, KV = cs.toArray := ⟨_, rfl⟩
  have HI := Lib.hid (show (Tryz.prog.info? 94).map (·.size) = some KV.size by rw [hKV, show cs.toArray.size = 5 from by simpa using hk5]; exact val_info)
  have HAT := Lib.hid (show At w2 ⟨bL, oL, none⟩ KV by rw [hKV]; simpa using hat)
  have HT := Lib.hid (id_get cs (nthV vs 0) w2 (valR.stable hv (Moves.forget _ _)))
  rw [← hKV] at HT
  obtain ⟨T, hT⟩ : ∃ T, T = idG (nthV vs 0) := ⟨_, rfl⟩
  have HTT := Lib.hid hT
  rw [← hT] at HT HRR
  have hsz2 : g + 2 ≤ w2.heap.size := by have := HSZ.out; have := hb2.size; omega
  clear hlen hsl hv hat hk5 hKV HR HDL HOP hT HV1 hb2
  go_wp2_with (first | (refine wpList_load_at rfl _ _ rfl bL oL rfl KV _ HAT.out Tryz.underlying94 rfl HI.out ?_) | fail)
  refine HT.out.mono ?_
  intro e w3 hp
  obtain ⟨hb3, hp⟩ := hp
  have HV3 := Lib.hid (HV2.out.go hb3)
  have HSV3 := Lib.hid (HSV.out.below hb3)
  cases T with
  | error z =>
   obtain rfl : e = _ := hp
   have hr := HRR.out
   refine com_out HG.out ⟨z, rfl, idG_err HTT.out.symm, hr, _, comK_size (by simp) _ _ _ _ _ _, HV3.out⟩ ?_ ?_ ?_ <;> rfl
  | ok tr =>
   obtain ⟨rfl, h32⟩ := hp
   have HR3 := Lib.hid (show R = bindR (idsG (nthV vs 1) 8) fun ps => comEnd vs tr ps from HRR.out)
   obtain ⟨KB, hKB⟩ : ∃ KB, KB = (bytesV tr).toArray := ⟨_, rfl⟩
   have H32 := Lib.hid h32
   have HIB := Lib.hid (show (Tryz.prog.info? 33).map (·.size) = some KB.size by rw [hKB]; exact oid_size h32)
   have HOB := Lib.hid (show KB.all (·.oneCell') = true by rw [hKB]; exact oid_one tr)
   have HLE := Lib.hid (show 0 + KB.size ≤ zCom.size by rw [hKB, comK_size (by simp)]; simp [bytesV, h32])
   have HROW := Lib.hid (show ((zCom).toList.take 0 ++ KB.toList ++ (zCom).toList.drop (0 + KB.size)).toArray = comK tr none 0 0 0 ⟨#[]⟩ ⟨#[]⟩ by rw [hKB]; exact comK_tree (by simp) h32 _ _ _ _ _ _)
   have HV4 := Lib.hid (HV3.out.row (comK tr none 0 0 0 ⟨#[]⟩ ⟨#[]⟩))
   have HSV4 : Hid (SlOf valR (w3.setRow g (comK tr none 0 0 0 ⟨#[]⟩ ⟨#[]⟩)) (fun b => b < w1.heap.size) (some ⟨bL, oL, none⟩) vs) := Lib.hid (HSV3.out.stable (Moves.grown (grown_row w3 g _) (show g < w1.heap.size by have := HSZ.out; omega)))
   have hsz4 : g + 2 ≤ (w3.setRow g (comK tr none 0 0 0 ⟨#[]⟩ ⟨#[]⟩)).heap.size := by have := hb3.size; simp; omega
   rw [← hKB]
   clear hKB h32 HRR HTT HT hb3 HV2 HSV HAT HI
   go_upto_region 5 with (first | (refine wpList_store_part rfl _ _ _ rfl g 0 KB rfl rfl 66 zCom HV3.out.x HIB.out HLE.out HOB.out ?_) | fail)
   rw [HROW.out]
   clear HV3 HSV3 HLE HROW HIB HOB
   generalize w3.setRow g (comK tr none 0 0 0 ⟨#[]⟩ ⟨#[]⟩) = w4 at *
   obtain ⟨b1, o1, cs, e0, hb1, hv, hat⟩ := val_at HSV4.out HVL.out (i := 1) (by omega)
   have e0 := Option.some.inj e0
   injection e0 with e1 e2
   subst e1 e2
   have hk5 : cs.length = 5 := valR.len hv
   obtain ⟨KW, hKW⟩ : ∃ KW, KW = cs.toArray := ⟨_, rfl⟩
   have HI := Lib.hid (show (Tryz.prog.info? 94).map (·.size) = some KW.size by rw [hKW, show cs.toArray.size = 5 from by simpa using hk5]; exact val_info)
   have HAT := Lib.hid (show At w4 ⟨bL, oL + 5, none⟩ KW by rw [hKW]; simpa using hat)
   have HT := Lib.hid (list_get cs (nthV vs 1) 8 w4 _ hv (by omega))
   rw [← hKW] at HT
   obtain ⟨T, hT⟩ : ∃ T, T = listG (nthV vs 1) 8 := ⟨_, rfl⟩
   have HTT := Lib.hid hT
   have HR4 := Lib.hid (show R = bindR (bindR T (eachG idG)) fun ps => comEnd vs tr ps by rw [HR3.out, hT]; rfl)
   rw [← hT] at HT
   clear hv hat hk5 hKW hT HR3
   go_wp2_with (first | (refine wpList_load_at rfl _ _ rfl bL (oL + 5) rfl KW _ HAT.out Tryz.underlying94 rfl HI.out ?_) | fail)
   refine HT.out.mono ?_
   intro e w5 hp
   obtain ⟨hb5, hp⟩ := hp
   have HV5 := Lib.hid (HV4.out.go hb5)
   have HSV5 := Lib.hid (HSV4.out.below hb5)
   cases T with
   | error z =>
    obtain rfl : e = _ := hp
    have hr := HR4.out
    refine com_out HG.out ⟨z, rfl, listG_err HTT.out.symm, hr, _, comK_size H32.out _ _ _ _ _ _, HV5.out⟩ ?_ ?_ ?_ <;> rfl
   | ok us =>
    obtain ⟨M, cM, rfl, hm1, hm2, hum⟩ := hp
    have HUM := Lib.hid (show SlOf valR w5 (fun b => b < w1.heap.size) M us from hum)
    have hul := listG_len HTT.out.symm
    obtain ⟨nu, hnu⟩ : ∃ nu, nu = us.length := ⟨_, rfl⟩
    rw [← hnu] at hm1 hul ⊢
    have HNU := Lib.hid hnu.symm
    obtain ⟨RR, hRR⟩ : ∃ RR, RR = eachG idG us := ⟨_, rfl⟩
    have HRR := Lib.hid (show conE [] (eachG idG (us.drop 0)) = RR by rw [conE_nil, List.drop_zero, hRR])
    have HR5 := Lib.hid (show R = bindR RR fun ps => comEnd vs tr ps by rw [HR4.out, hRR]; rfl)
    have HIL := Lib.hid (IL.start HV5.out.x.lt)
    have hsz5 : g + 2 ≤ w5.heap.size := by have := hb5.size; omega
    clear hum hnu hRR HR4 HTT HT hb5 HV4 HSV4 HAT HI
    go_wp2_with fail
    go_loopw [20] (fun s20 wr => ∃ (k : Nat) (A' : Option Addr) (c' : Nat) (is : List (List UInt8)), k ≤ nu ∧ s20 = .int .i64 (k : Int) ∧ Hid (conE is (eachG idG (us.drop k)) = RR) ∧ Hid (IL w5 wr g A' k c' is) ∧ Hid (CV w wr g (comK tr A' k c' 0 ⟨#[]⟩ ⟨#[]⟩))) (fun s20 wr => nu - (intOf s20).toNat)
    case atStart => exact ⟨0, none, 0, [], by omega, rfl, HRR, HIL, HV5⟩
    case round =>
     obtain ⟨k, A', c', is, hk, rfl, HC, HL, HX⟩ := hrel
     by_cases hlt : k < nu
     ·have hltI : (k : Int) < (nu : Int) := by omega
      obtain ⟨bM, oM, cs, rfl, hbM, hv, hat⟩ := val_at (HUM.out.stable (Moves.grown HL.out.grown (show g < w1.heap.size by have := HSZ.out; omega))) HNU.out hlt
      have hvk := nthV_at (us := us) (k := k) (by rw [HNU.out]; exact hlt)
      obtain ⟨KV, hKV, HK, HKV, HI, HO, HS5, HN⟩ := keepNewA wr hv
      have HAT := Lib.hid (show At wr ⟨bM, oM + k * 5, none⟩ KV by rw [hKV]; exact hat)
      have hbal : Below wr.heap.size wr (wr.alloc (.cells KV 94)) := (Below.refl _ _).alloc (Nat.le_refl _) _
      have HX6 := Lib.hid (HX.out.go hbal)
      have HL6 := Lib.hid (HL.out.below hbal)
      have HVK := Lib.hid hvk
      have HOL := Lib.hid (fun b (hb : (Value.slice A' k c').ownBlock = some b) => (HL.out.row.lt hb).2)
      have HID := Lib.hid (by
       have := id_get KV.toList (nthV us k) ((wr.alloc (.cells KV 94)).drew) (valR.stable HKV.out ((Moves.forget _ _).trans (Moves.of_below (Same.below ⟨1, rfl⟩ _))))
       rwa [Array.toArray_toList] at this : Calls Tryz.prog 81 #[.agg KV] ((wr.alloc (.cells KV 94)).drew) (IdPost ((wr.alloc (.cells KV 94)).drew) (idG (nthV us k))))
      clear hv hat hvk hKV HKV hbal
      go_upto_region 8 with (first
       | (refine wpList_load_at rfl _ _ rfl bM (oM + k * 5) rfl KV _ HAT.out Tryz.underlying94 rfl HI.out ?_)
       | (refine wpList_store_row rfl _ _ _ rfl wr.heap.size KV rfl rfl 94 _ HN.out HI.out HS5.out HO.out ?_) | fail)
      rw [World.setRow_alloc_new]
      clear HN HS5 HO HAT HX HL
      generalize wr.alloc (.cells KV 94) = w6 at *
      generalize wr.heap.size = gc at *
      have hdr : Below w6.heap.size w6 w6.drew := Same.below ⟨1, rfl⟩ _
      have hg6 : g < w6.heap.size := HX6.out.x.lt
      have hgc6 : gc < w6.heap.size := HK.out.lt
      have hcx : w6.cell? ⟨g, 32, none⟩ = some (.slice A' k c') := (HX6.out.x.cell 32).trans (comK_get H32.out _ _ _ _ _ _).1
      have hs0 : w6.drew.cell? ⟨g, 32, none⟩ = some (.slice A' k c') ∧ Blk w6.drew gc 94 KV := ⟨(hdr.cell (p := ⟨g, 32, none⟩) hg6).trans hcx, HK.out.below hdr hgc6⟩
      refine wp_door (comPn w g R) 2 3 (.pointer (some ⟨g, 0, none⟩)) (.pointer (some ⟨g + 1, 0, none⟩)) (comDs g) (fun ch a w' h1 h2 h3 hp => ?_) ?_
      ·exact com_out HG.out hp h1 h2 h3
      refine wp_region_late (S := fun w => w.cell? ⟨g, 32, none⟩ = some (.slice A' k c') ∧ Blk w gc 94 KV) (s := 7) (by kernel_rfl) ?_
      refine rgL 0 rfl (fun _ _ _ h => door_put (by decide) (by decide) h) (fun _ => hs0) ?_
      refine late_load (i := 1) (m := 1) (v := ?_) (a' := ?_) rfl (by kernel_rfl) (by kernel_rfl) (by kernel_rfl) (by kernel_rfl) (by rfl) (fun _ _ _ h => door_put (by decide) (by decide) h) (by rfl) hs0 ?_ ?_ ?_
      rotate_left 2
      ·(intro w hS; have t := hS.1; go_simp; try with_reducible rfl)
      ·(go_simp; try with_reducible rfl)
      refine late_load (i := 2) (m := 2) (v := ?_) (a' := ?_) rfl (by kernel_rfl) (by kernel_rfl) (by kernel_rfl) (by kernel_rfl) (by rfl) (fun _ _ _ h => door_put (by decide) (by decide) h) (by rfl) hs0 ?_ ?_ ?_
      rotate_left 2
      ·(intro w hS; refine exec_load_at 94 (.tmp 6) ?_ gc 0 ?_ KV _ (At.of_row hS.2) Tryz.underlying94 rfl HI.out; exact rfl; exact rfl)
      ·(go_simp; try with_reducible rfl)
      refine late_one (i := 3) (by kernel_rfl) rfl (fun KR hKR => ?_)
      go_simp
      refine HID.out.mono ?_
      intro e w7 hp
      obtain ⟨hb7, hp⟩ := hp
      have hb67 := hdr.trans (hb7.mono hdr.size)
      have HL7 := Lib.hid (HL6.out.below hb67)
      have HX7 := Lib.hid (HX6.out.go hb67)
      have HK7 := Lib.hid (HK.out.below hb67 hgc6)
      have hs7 : w7.cell? ⟨g, 32, none⟩ = some (.slice A' k c') ∧ Blk w7 gc 94 KV := ⟨(HX7.out.x.cell 32).trans (comK_get H32.out _ _ _ _ _ _).1, HK7.out⟩
      rcases hid : idG (nthV us k) with z | b
      ·rw [hid] at hp
       obtain rfl : e = _ := hp
       have hrr : R = .error z := by rw [HR5.out, ← HC.out, conE_err is HVK.out hid]; rfl
       exact ⟨rfl, rfl, rfl, z, rfl, idG_err hid, hrr, _, comK_size H32.out _ _ _ _ _ _, HX7.out⟩
      rw [hid] at hp
      obtain ⟨rfl, hb32⟩ := hp
      have HC2 := Lib.hid (show conE (is ++ [b]) (eachG idG (us.drop (k + 1))) = RR by rw [← conE_step is HVK.out hid]; exact HC.out)
      obtain ⟨A9, c9, w9, run9, HL9, hg9, hob9⟩ := HL7.out.push hb32 (by omega) 1
      obtain ⟨KB, hKB⟩ : ∃ KB, KB = (bytesV b).toArray := ⟨_, rfl⟩
      have hKs : KB.size = 32 := by rw [hKB]; simp [bytesV, hb32]
      rw [← hKB] at run9 ⊢
      have hbs := fun w => bsId_of w KB hKs
      have HKS := Lib.hid hKs
      clear hKs hKB
      have hs8 : (w7.alloc (.cells KB 33)).cell? ⟨g, 32, none⟩ = some (.slice A' k c') ∧ Blk (w7.alloc (.cells KB 33)) gc 94 KV := ⟨((HX7.out.x.alloc _).cell 32).trans (comK_get H32.out _ _ _ _ _ _).1, HK7.out.alloc _⟩
      have HX9 := Lib.hid (HX7.out.grown hg9 (fun b hb => by have := hob9 b hb; omega))
      have hcz : w9.cell? ⟨g, 32, none⟩ = some (.slice A' k c') := (HX9.out.x.cell 32).trans (comK_get H32.out _ _ _ _ _ _).1
      have HK9 : w9.cell? ⟨g, 32, none⟩ = some (.slice A' k c') ∧ Blk w9 gc 94 KV := ⟨hcz, HK7.out.grown hg9 (fun e => by have := HOL.out gc e.symm; omega)⟩
      have hfz := HX9.out.x.frozen 32
      have HL10 := Lib.hid (HL9.set (off := 32) (.slice A9 (k + 1) c9))
      have HX10 : Hid (CV w (w9.setCell ⟨g, 32, none⟩ (.slice A9 (k + 1) c9)) g (comK tr A9 (k + 1) c9 0 ⟨#[]⟩ ⟨#[]⟩)) := Lib.hid (by
       have := HX9.out.set (i := 32) (.slice A9 (k + 1) c9)
       rwa [(comK_set H32.out A' A9 k (k + 1) c' c9 0 0 ⟨#[]⟩ ⟨#[]⟩ ⟨#[]⟩ ⟨#[]⟩).1] at this)
      refine hKR _ _ (fun _ => hs7) ?_
      clear hKR KR
      refine late_one (i := 4) (by kernel_rfl) rfl (fun KR hKR => ?_)
      refine step_build (by rfl) (.tmp 27) (by rfl) (by rfl) (hbs _) ?_
      refine hKR _ _ (fun _ => hs8) ?_
      clear hKR KR
      refine late_one (i := 5) (by kernel_rfl) rfl (fun KR hKR => ?_)
      refine step_run_append (by rfl) (.tmp 25) (.tmp 28) (by rfl) (by rfl) (by rfl) run9 ?_
      refine hKR _ _ (fun _ => HK9) ?_
      clear hKR KR
      refine rgL 6 rfl (fun _ _ _ h => door_put (by decide) (by decide) h) (fun _ => HK9) ?_
      refine late_one (i := 7) (by kernel_rfl) rfl (fun KR hKR => ?_)
      go_simp
      skip
      refine hKR _ _ (fun h0 => Bool.noConfusion (show (true : Bool) = false from h0)) ?_
      clear hKR KR
      refine late_done' (by kernel_rfl) ?_ _
      clear run9 hbs HID HC HL6 HX6 HL7 HX7 HK7 HX9 HL9 hs8 HK9 hs7 hs0 hcx
      refine door_normal ?_
      go_wp2_with fail
      go_roundw
      case rel => exact ⟨k + 1, A9, c9, is ++ [b], by omega, by go_num, HC2, HL10, HX10⟩
      case measure => simp [intOf]; omega
     ·have hltI : ¬ (k : Int) < (nu : Int) := by omega
      obtain rfl : k = nu := by omega
      have hrr : RR = .ok is := by rw [← HC.out]; exact conE_end is (by rw [HNU.out]; exact Nat.le_refl _)
      have HR6 := Lib.hid (show R = comEnd vs tr is by rw [HR5.out, hrr]; rfl)
      have HSV6 : Hid (SlOf valR wr (fun b => b < w1.heap.size) (some ⟨bL, oL, none⟩) vs) := Lib.hid (HSV5.out.stable (Moves.grown HL.out.grown (show g < w1.heap.size by have := HSZ.out; omega)))
      obtain ⟨HSL, hki, hkc, hcm'⟩ := HL.out.sl (B := g + 2) hsz5
      have HRI := Lib.hid (rising_any A' k c' is wr (HSL.stable (Moves.forget _ _)) hki (by omega))
      have hcx : wr.cell? ⟨g, 32, none⟩ = some (.slice A' k c') := (HX.out.x.cell 32).trans (comK_get H32.out _ _ _ _ _ _).1
      clear HSL hki hkc hcm' hrr HSV5 HUM HC
      go_wp2_with fail
      refine HRI.out.mono ?_
      rintro e w7 ⟨rfl, hb7⟩
      have HX7 := Lib.hid (HX.out.go hb7)
      have HL7 := Lib.hid (HL.out.below hb7)
      have HSV7 := Lib.hid (HSV6.out.below hb7)
      clear hb7 HRI hcx HX HL HSV6
      cases hri : risingG is with
      | false =>
       have hr : R = .error 92 := by rw [HR6.out]; unfold comEnd; rw [if_pos hri]
       have HRR := Lib.hid hr
       clear hr hri
       go_wp2_with fail
       refine (need_no 92 _).mono ?_
       rintro e w' ⟨rfl, rfl⟩
       refine com_out HG.out ⟨92, rfl, by decide, HRR.out, _, comK_size H32.out _ _ _ _ _ _, HX7.out⟩ ?_ ?_ ?_ <;> rfl
      | true =>
       have HR7 := Lib.hid (show R = if (nthV vs 2).kind ≠ 2 then .error 91 else bindR (textG (nthV vs 3) 64) fun a => bindR (textG (nthV vs 4) 1024) fun n => .ok (tr, is, (nthV vs 2).flt, ⟨a.toArray⟩, ⟨n.toArray⟩) by rw [HR6.out]; unfold comEnd; rw [if_neg (by simp [hri])])
       clear hri HR6
       go_wp2_with fail
       refine (need_yes 92 _).mono ?_
       rintro e w' ⟨rfl, rfl⟩
       obtain ⟨b2, o2, cs, e0, hb2, hv, hat⟩ := val_at HSV7.out HVL.out (i := 2) (by omega)
       have e0 := Option.some.inj e0
       injection e0 with e1 e2
       subst e1 e2
       obtain ⟨p0, p1, p3⟩ := val_two hv hat
       obtain ⟨kq, hkq⟩ : ∃ kq, kq = (nthV vs 2).kind := ⟨_, rfl⟩
       obtain ⟨fq, hfq⟩ : ∃ fq, fq = (nthV vs 2).flt := ⟨_, rfl⟩
       have HFQ := Lib.hid (show kq = 2 → canonB fq = fq by
        intro h
        rw [hfq]
        refine norm_flt (HNM.out _ ?_) (by rw [← hkq]; exact h)
        exact List.mem_of_getElem? (nthV_at (us := vs) (k := 2) (by rw [HVL.out]; omega)))
       rw [← hkq, ← hfq] at HR7
       have q0 : w'.cell? ⟨bL, oL + 10, none⟩ = some (.int .i64 kq) := by rw [hkq]; exact p0
       have q3 : w'.cell? ⟨bL, oL + 13, none⟩ = some (.float .f64 fq) := by rw [hfq]; exact p3
       clear hv hat hkq hfq p0 p1 p3 e0
       by_cases hk2 : kq = 2
       ·have e1 : (kq == 2) = true := by simp [hk2]
        have HR8 := Lib.hid (show R = bindR (textG (nthV vs 3) 64) fun a => bindR (textG (nthV vs 4) 1024) fun n => .ok (tr, is, fq, ⟨a.toArray⟩, ⟨n.toArray⟩) by rw [HR7.out, if_neg (by simp [hk2])])
        have hfc := HFQ.out hk2
        have HCA := Lib.hid (fun w => canon_any fq w)
        rw [hfc] at HCA
        clear hk2 HR7 hfc HFQ
        go_wp2_with fail
        refine (need_yes 91 _).mono ?_
        rintro e w8 ⟨rfl, rfl⟩
        go_wp2_with fail
        refine (HCA.out _).mono ?_
        rintro e w9 ⟨rfl, hs9⟩
        have hb9 := hs9.below w8.heap.size
        have HX9 := Lib.hid (HX7.out.go hb9)
        have HL9 := Lib.hid (HL7.out.below hb9)
        have HSV9 := Lib.hid (HSV7.out.below hb9)
        have hcz : w9.cell? ⟨g, 33, none⟩ = some (.float .f64 0) := (HX9.out.x.cell 33).trans (comK_get H32.out _ _ _ _ _ _).2.1
        have hfz := HX9.out.x.frozen 33
        have HX10 : Hid (CV w (w9.setCell ⟨g, 33, none⟩ (.float .f64 fq)) g (comK tr A' k c' fq ⟨#[]⟩ ⟨#[]⟩)) := Lib.hid (by
         have := HX9.out.set (i := 33) (.float .f64 fq)
         rwa [(comK_set H32.out A' A' k k c' c' 0 fq ⟨#[]⟩ ⟨#[]⟩ ⟨#[]⟩ ⟨#[]⟩).2.1] at this)
        have HL10 := Lib.hid (HL9.out.set (off := 33) (.float .f64 fq))
        have HSV10 : Hid (SlOf valR (w9.setCell ⟨g, 33, none⟩ (.float .f64 fq)) (fun b => b < w1.heap.size) (some ⟨bL, oL, none⟩) vs) := Lib.hid (HSV9.out.stable (Moves.grown (grown_set w9 g 33 _) (show g < w1.heap.size by have := HSZ.out; omega)))
        clear hs9 hb9 HX7 HL7 HSV7 q0 q3 HCA
        have hK33 : 33 < (comK tr A' k c' 0 ⟨#[]⟩ ⟨#[]⟩).size := by rw [comK_size H32.out]; omega
        go_upto_region 13 with (first | (refine wpList_store_flt rfl 64 _ _ rfl g 33 fq rfl rfl 66 _ HX9.out.x flt_info hK33 ?_) | fail)
        clear hcz hfz HX9 HL9 HSV9 hK33
        generalize w9.setCell ⟨g, 33, none⟩ (.float .f64 fq) = w10 at *
        obtain ⟨K3, HA3, HI3, HV3, hbL3⟩ := val_load HSV10.out HVL.out (i := 3) (by omega)
        obtain ⟨K4, HA4, HI4, HV4, _⟩ := val_load HSV10.out HVL.out (i := 4) (by omega)
        have hdr : Below w10.heap.size w10 w10.drew := Same.below ⟨1, rfl⟩ _
        have HT3 := Lib.hid (by
         have := text_get K3.toList (nthV vs 3) 64 w10.drew (valR.stable HV3.out ((Moves.forget _ _).trans (Moves.of_below hdr))) (by omega)
         rwa [Array.toArray_toList] at this : Calls Tryz.prog 83 #[.agg K3, .int .i64 ((64 : Nat) : Int)] w10.drew (TxtPost w10.drew (textG (nthV vs 3) 64)))
        have HT4 : Hid (∀ W, Below w10.heap.size w10 W → Calls Tryz.prog 83 #[.agg K4, .int .i64 ((1024 : Nat) : Int)] W (TxtPost W (textG (nthV vs 4) 1024))) := Lib.hid (fun W h => by
         have := text_get K4.toList (nthV vs 4) 1024 W (valR.stable HV4.out ((Moves.forget _ _).trans (Moves.of_below h))) (by omega)
         rwa [Array.toArray_toList] at this)
        refine wp_door (comPn w g R) 2 3 (.pointer (some ⟨g, 0, none⟩)) (.pointer (some ⟨g + 1, 0, none⟩)) (comDs g) (fun ch a w' h1 h2 h3 hp => ?_) ?_
        ·exact com_out HG.out hp h1 h2 h3
        refine wp_region_late (S := fun w => Below w10.heap.size w10 w) (s := 9) (by kernel_rfl) ?_
        refine rgL 0 rfl (fun _ _ _ h => door_put (by decide) (by decide) h) (fun _ => hdr) ?_
        refine rgL 1 rfl (fun _ _ _ h => door_put (by decide) (by decide) h) (fun _ => hdr) ?_
        refine late_load (i := 2) (m := 2) (v := ?_) (a' := ?_) rfl (by kernel_rfl) (by kernel_rfl) (by kernel_rfl) (by kernel_rfl) (by rfl) (fun _ _ _ h => door_put (by decide) (by decide) h) (by rfl) hdr ?_ ?_ ?_
        rotate_left 2
        ·(intro w hS; refine exec_load_at 94 (.tmp 49) ?_ bL (oL + 3 * 5) ?_ K3 _ (HA3.out.below hS hbL3) Tryz.underlying94 rfl HI3.out; exact rfl; exact rfl)
        ·(go_simp; try with_reducible rfl)
        refine rgL 4 rfl (fun _ _ _ h => door_put (by decide) (by decide) h) (fun _ => hdr) ?_
        refine rgL 5 rfl (fun _ _ _ h => door_put (by decide) (by decide) h) (fun _ => hdr) ?_
        refine late_load (i := 6) (m := 7) (v := ?_) (a' := ?_) rfl (by kernel_rfl) (by kernel_rfl) (by kernel_rfl) (by kernel_rfl) (by rfl) (fun _ _ _ h => door_put (by decide) (by decide) h) (by rfl) hdr ?_ ?_ ?_
        rotate_left 2
        ·(intro w hS; refine exec_load_at 94 (.tmp 53) ?_ bL (oL + 4 * 5) ?_ K4 _ (HA4.out.below hS hbL3) Tryz.underlying94 rfl HI4.out; exact rfl; exact rfl)
        ·(go_simp; try with_reducible rfl)
        refine late_one (i := 3) (by kernel_rfl) rfl (fun KR hKR => ?_)
        go_simp
        refine HT3.out.mono ?_
        intro e w11 hp
        obtain ⟨hb11, hp⟩ := hp
        have hbA := hdr.trans (hb11.mono hdr.size)
        have HX11 := Lib.hid (HX10.out.go hbA)
        rcases ht3 : textG (nthV vs 3) 64 with z | ta
        ·rw [ht3] at hp
         obtain rfl : e = _ := hp
         have hrr : R = .error z := by rw [HR8.out, ht3]; rfl
         exact ⟨rfl, rfl, rfl, z, rfl, textG_err ht3, hrr, _, comK_size H32.out _ _ _ _ _ _, HX11.out⟩
        rw [ht3] at hp
        obtain rfl : e = _ := hp
        have HR9 := Lib.hid (show R = bindR (textG (nthV vs 4) 1024) fun n => .ok (tr, is, fq, ⟨ta.toArray⟩, ⟨n.toArray⟩) by rw [HR8.out, ht3]; rfl)
        have HT4' := Lib.hid (HT4.out w11 hbA)
        clear ht3
        refine hKR _ _ (fun _ => hbA) ?_
        clear hKR KR
        refine rgL 8 rfl (fun _ _ _ h => door_put (by decide) (by decide) h) (fun _ => hbA) ?_
        refine late_one (i := 7) (by kernel_rfl) rfl (fun KR hKR => ?_)
        go_simp
        refine HT4'.out.mono ?_
        intro e w12 hp
        obtain ⟨hb12, hp⟩ := hp
        have hbB := hbA.trans (hb12.mono hbA.size)
        have HX12 := Lib.hid (HX10.out.go hbB)
        rcases ht4 : textG (nthV vs 4) 1024 with z | tn
        ·rw [ht4] at hp
         obtain rfl : e = _ := hp
         have hrr : R = .error z := by rw [HR9.out, ht4]; rfl
         exact ⟨rfl, rfl, rfl, z, rfl, textG_err ht4, hrr, _, comK_size H32.out _ _ _ _ _ _, HX12.out⟩
        rw [ht4] at hp
        obtain rfl : e = _ := hp
        have HR10 := Lib.hid (show R = .ok (tr, is, fq, ⟨ta.toArray⟩, ⟨tn.toArray⟩) by rw [HR9.out, ht4]; rfl)
        have HL12 := Lib.hid (HL10.out.below hbB)
        clear ht4
        have hcy : w12.cell? ⟨g, 34, none⟩ = some (.string ⟨#[]⟩) := (HX12.out.x.cell 34).trans (comK_get H32.out _ _ _ _ _ _).2.2.1
        have hfy := HX12.out.x.frozen 34
        have HX13 : Hid (CV w (w12.setCell ⟨g, 34, none⟩ (.string ⟨ta.toArray⟩)) g (comK tr A' k c' fq ⟨ta.toArray⟩ ⟨#[]⟩)) := Lib.hid (by
         have := HX12.out.set (i := 34) (.string ⟨ta.toArray⟩)
         rwa [(comK_set H32.out A' A' k k c' c' fq fq ⟨#[]⟩ ⟨ta.toArray⟩ ⟨#[]⟩ ⟨#[]⟩).2.2.1] at this)
        have hcx : (w12.setCell ⟨g, 34, none⟩ (.string ⟨ta.toArray⟩)).cell? ⟨g, 35, none⟩ = some (.string ⟨#[]⟩) := (HX13.out.x.cell 35).trans (comK_get H32.out _ _ _ _ _ _).2.2.2
        have hfx := HX13.out.x.frozen 35
        have HX14 : Hid (CV w ((w12.setCell ⟨g, 34, none⟩ (.string ⟨ta.toArray⟩)).setCell ⟨g, 35, none⟩ (.string ⟨tn.toArray⟩)) g (comK tr A' k c' fq ⟨ta.toArray⟩ ⟨tn.toArray⟩)) := Lib.hid (by
         have := HX13.out.set (i := 35) (.string ⟨tn.toArray⟩)
         rwa [(comK_set H32.out A' A' k k c' c' fq fq ⟨ta.toArray⟩ ⟨ta.toArray⟩ ⟨#[]⟩ ⟨tn.toArray⟩).2.2.2] at this)
        have HL14 := Lib.hid ((HL12.out.set (off := 34) (.string ⟨ta.toArray⟩)).set (off := 35) (.string ⟨tn.toArray⟩))
        refine hKR _ _ (fun _ => hbB) ?_
        clear hKR KR
        refine late_one (i := 9) (by kernel_rfl) rfl (fun KR hKR => ?_)
        go_simp
        skip
        refine hKR _ _ (fun h0 => Bool.noConfusion (show (true : Bool) = false from h0)) ?_
        clear hKR KR
        refine rgL 10 rfl (fun _ _ _ h => door_put (by decide) (by decide) h) (fun h0 => Bool.noConfusion (show (true : Bool) = false from h0)) ?_
        refine late_one (i := 11) (by kernel_rfl) rfl (fun KR hKR => ?_)
        go_simp
        skip
        refine hKR _ _ (fun h0 => Bool.noConfusion (show (true : Bool) = false from h0)) ?_
        clear hKR KR
        refine late_done' (by kernel_rfl) ?_ _
        clear HT3 HT4 HT4' HA3 HA4 HI3 HI4 HV3 HV4 HX10 HX11 HX12 HX13 HL10 HL12 HSV10 hcx hcy hfx hfy
        refine door_normal ?_
        generalize (w12.setCell ⟨g, 34, none⟩ (.string ⟨ta.toArray⟩)).setCell ⟨g, 35, none⟩ (.string ⟨tn.toArray⟩) = w14 at *
        obtain ⟨KX, hKX⟩ : ∃ KX : Array Value, KX = comK tr A' k c' fq ⟨ta.toArray⟩ ⟨tn.toArray⟩ := ⟨_, rfl⟩
        have HIX := Lib.hid (show (Tryz.prog.info? 66).map (·.size) = some KX.size by rw [hKX]; exact comK_info H32.out _ _ _ _ _ _)
        have HOX := Lib.hid (show KX.all (·.oneCell') = true by rw [hKX]; exact comK_one _ _ _ _ _ _ _)
        have HKX := Lib.hid hKX
        rw [← hKX] at HX14
        have HX15 := Lib.hid (HX14.out.row KX)
        have HL15 := Lib.hid (HL14.out.set_row KX)
        have hfz := HX15.out.e.frozen 0
        have hcz : (w14.setRow g KX).cell? ⟨g + 1, 0, none⟩ = some (.int .i64 0) := HX15.out.e.cell 0
        clear hKX HL14
        go_wp2_with (first
         | (refine wpList_load_row rfl 66 (.tmp 2) rfl g rfl 66 KX (0, 0) _ HX14.out.x Tryz.underlying66 rfl HIX.out ?_)
         | (refine wpList_store_row rfl _ _ _ rfl g KX rfl rfl 66 _ HX14.out.x HIX.out rfl HOX.out ?_) | fail)
        generalize w14.setRow g KX = w15 at *
        exact com_end HG.out HX15.out HL15.out H32.out hsz5 HR10.out HKX.out HIX.out
       ·have e1 : (kq == 2) = false := by simp [hk2]
        have HRR := Lib.hid (show R = .error 91 by rw [HR7.out, if_pos hk2])
        clear hk2
        go_wp2_with fail
        refine (need_no 91 _).mono ?_
        rintro e w8 ⟨rfl, rfl⟩
        refine com_out HG.out ⟨91, rfl, by decide, HRR.out, _, comK_size H32.out _ _ _ _ _ _, HX7.out⟩ ?_ ?_ ?_ <;> rfl
end Go.Proofs.YtgmbkcjihgphmaaGreat
/- object.GetTree: its entries' row, its deferred function, its door. -/
namespace Go.Proofs.YtgmbkcjihgphmaaGreat
open Go.RowKit
/-- the entries so far, in a row of the call's own, told of in block g -/
structure EL (w2 wr : World) (g : Nat) (A : Option Addr) (m c : Nat) (is : List EntT) : Prop where
 row : RowR entR 70 wr w2.heap.size A m c is
 grown : w2.grownBy wr (some g)
 lt : g < w2.heap.size
theorem EL.start {w2 : World} {g : Nat} (h : g < w2.heap.size) : EL w2 w2 g none 0 0 [] := ⟨RowR.nil _ _ _ _, grown_refl _ _, h⟩
theorem EL.below {w2 wr w' : World} {g : Nat} {A : Option Addr} {m c : Nat} {is : List EntT} (h : EL w2 wr g A m c is) (hb : Below wr.heap.size wr w') : EL w2 w' g A m c is := ⟨h.row.below hb, grown_trans h.grown (grown_below hb _), h.lt⟩
/-- one more entry -/
theorem EL.push {w2 wr : World} {g : Nat} {A : Option Addr} {m c : Nat} {is : List EntT} {x : EntT} (h : EL w2 wr g A m c is) (hx : x.2.2.1.length = 32) (hf : x.2.2.2 < 2 ^ 64) (hm : m ≤ 1000000) (c0 : Nat) :
  ∃ A' c' w', (Builtin.append_ #[68, 68] 68 #[.slice A m c, .slice (some ⟨wr.heap.size, 0, none⟩) 1 c0]).run Tryz.prog (wr.alloc (.cells (entK x.1 x.2.1 x.2.2.1 x.2.2.2) 70)) = .ok (.slice A' (m + 1) c') w' ∧ EL w2 w' g A' (m + 1) c' (is ++ [x]) ∧
   wr.grownBy w' (Value.slice A m c).ownBlock ∧ (∀ b, (Value.slice A m c).ownBlock = some b → w2.heap.size ≤ b) := by
 have hsz := h.grown.size
 obtain ⟨A', c', w', run, hrow, _, hg, _, _, _⟩ := h.row.push elemEnt hsz (av := fun _ => True) (ent_of wr _ hx hf) (fun _ _ _ => trivial) (by omega) (by simp only [maxLen]; omega) 68 c0
 have hob : ∀ b, (Value.slice A m c).ownBlock = some b → w2.heap.size ≤ b := fun b hb => (h.row.lt hb).1
 exact ⟨A', c', w', run, ⟨hrow, grown_own h.grown hg hob, h.lt⟩, hg, hob⟩
theorem EL.set {w2 wr : World} {g off : Nat} {A : Option Addr} {m c : Nat} {is : List EntT} (h : EL w2 wr g A m c is) (u : Value) : EL w2 (wr.setCell ⟨g, off, none⟩ u) g A m c is :=
 ⟨h.row.grown (grown_set wr g off u) (fun k e hk => by have e := Option.some.inj e; have := (h.row.lt hk).1; have := h.lt; omega) (fun _ _ _ k => k), grown_trans h.grown (grown_set wr g off u), h.lt⟩
/-- the entries as a slice in new memory -/
theorem EL.sl {w2 wr : World} {g : Nat} {A : Option Addr} {m c : Nat} {is : List EntT} (h : EL w2 wr g A m c is) {B : Nat} (hB : B ≤ w2.heap.size) : SlOf entR wr (fun b => b < B) A is ∧ m = is.length ∧ m ≤ c ∧ c ≤ maxLen := by
 obtain ⟨h1, h2⟩ := h.row.cap
 refine ⟨?_, h.row.len, h1, h2⟩
 refine h.row.sl.away B (fun h0 b off e => ?_) (fun _ _ k => k)
 obtain ⟨g', hg, hb, _⟩ := h.row.at (by rw [h.row.len]; exact h0)
 rw [hg] at e
 have e := Option.some.inj e
 injection e with e
 omega
/-- 'Entry{..}', as the loop makes it ('attribute [local go_sem ↓] bEnt_eq') -/
noncomputable def bEnt (w : World) (a b c : Value) : Result Value := (Instr.build 70 #[(0, a), (2, b), (1, c)]).run Tryz.prog w
set_option maxRecDepth 100000 in
theorem built_ent (s : ByteArray) (d : Bool) : ∀ (i : List UInt8), i.length = 32 → Tryz.prog.built 70 [(0, .string s), (2, .agg (bytesV i).toArray), (1, .bool d)] = some (entK s d i 0)
 | [x0, x1, x2, x3, x4, x5, x6, x7, x8, x9, x10, x11, x12, x13, x14, x15, x16, x17, x18, x19, x20, x21, x22, x23, x24, x25, x26, x27, x28, x29, x30, x31], _ => by kernel_rfl
theorem bEnt_of (w : World) (s : ByteArray) (d : Bool) {i : List UInt8} (h : i.length = 32) : bEnt w (.string s) (.agg (bytesV i).toArray) (.bool d) = .ok (.agg (entK s d i 0)) w := run_build w _ _ _ (built_ent s d i h)
/-- '[]Entry{x}', as an append's last part makes it -/
noncomputable def bsEnt (w : World) (v : Value) : Result Value := (Instr.buildSlice 68 1 #[(0, v)]).run Tryz.prog w
theorem bsEnt_eq (w : World) (v : Value) : (Instr.buildSlice 68 1 #[(0, v)]).run Tryz.prog w = bsEnt w v := rfl
theorem ent_sizeOf (w : World) : (sizeOf 70).run Tryz.prog w = .ok 35 w := by
 have h := ent_info
 cases hq : Tryz.prog.info? 70 with
 | none => rw [hq] at h; simp at h
 | some i =>
  rw [hq] at h
  have h1 : i.size = 35 := by simpa using h
  simp [sizeOf, typeInfo, hq, h1]
theorem ent_zero (w : World) : (zeroValue 70).run Tryz.prog w = .ok (.agg zEnt) w := by kernel_rfl
theorem bsEnt_of (w : World) (K : Array Value) (hK : K.size = 35) : bsEnt w (.agg K) = .ok (.slice (some ⟨w.heap.size, 0, none⟩) 1 1) (w.alloc (.cells K 70)) := by
 unfold bsEnt Instr.buildSlice
 have hf : ∀ cells : Array Value, cells.size = 35 → Instr.fill (fun i => some (i * 35, 35)) cells [(0, .agg K)] = some K := by
  intro cells hc
  have hK2 : (Value.agg K).cells = K := rfl
  have h := fill_all K cells (by omega)
  unfold Instr.fill
  simp only [hK2]
  have hc1 : (decide (K.size ≠ 35) || decide (0 * 35 + K.size > cells.size)) = false := by simp [hK, hc]
  simp only [Nat.zero_mul] at hc1 ⊢
  rw [if_neg (by rw [hc1]; decide)]
  unfold Instr.fill
  rw [h]
 simp [run_underlying Tryz.underlying68, Sem.run_bind, ent_sizeOf, ent_zero, Value.cells]
 rw [hf _ (by simp)]
 simp [newRow, Sem.run_bind]
/-! ### the deferred function, the door -/
theorem treeD_ok (pe pv : Addr) (u : FrameMode) (w : World) (he : w.cell? pe = some (.int .i64 0)) :
  CallsD Tryz.prog 82 #[.pointer (some pe), .pointer (some pv)] u w fun e u' w' => u' = u ∧ e = .returned (.tuple #[]) ∧ w' = w := by
 go_enter_d Tryz.func82, Tryz.ntmps82
 go_wp2_with fail
 go_end0
 exact ⟨rfl, rfl⟩
theorem treeD_bad (pe : Addr) (gv : Nat) (z : Int) (v : Value) (u : FrameMode) (w : World) (hz : z ≠ 0) (he : w.cell? pe = some (.int .i64 z)) (hb : Blk w gv 68 #[v]) (hv : ∃ A n c, v = .slice A n c) :
  CallsD Tryz.prog 82 #[.pointer (some pe), .pointer (some ⟨gv, 0, none⟩)] u w fun e u' w' => u' = u ∧ e = .returned (.tuple #[]) ∧ w' = w.setCell ⟨gv, 0, none⟩ (.slice none 0 0) := by
 have hz' : (z != 0) = true := by simp [hz]
 obtain ⟨A, n, c, rfl⟩ := hv
 have hc := hb.cell 0
 have hf := hb.frozen 0
 have hl := hb.lt
 clear hz hb
 go_enter_d Tryz.func82, Tryz.ntmps82
 go_wp2_with fail
 go_end0
 exact ⟨rfl, rfl⟩
theorem results_sl_err {fn : Func} {p q : Tmp} (h : fn.results = #[.cell p 68, .cell q 55]) (tmps : Array Value) (w : World) (g g' : Nat) (A : Option Addr) (n c : Nat) (z : Int)
  (hp : tmps.getD p undef = .pointer (some ⟨g, 0, none⟩)) (hq : tmps.getD q undef = .pointer (some ⟨g', 0, none⟩)) (hg : w.cell? ⟨g, 0, none⟩ = some (.slice A n c)) (hg' : w.cell? ⟨g', 0, none⟩ = some (.int .i64 z)) :
  (results fn tmps).run Tryz.prog w = .ok (.tuple #[.slice A n c, .int .i64 z]) w := by
 have hp' : tmps[p]?.getD undef = .pointer (some ⟨g, 0, none⟩) := by simpa using hp
 have hq' : tmps[q]?.getD undef = .pointer (some ⟨g', 0, none⟩) := by simpa using hq
 have hl : (loadVar 68 ⟨g, 0, none⟩).run Tryz.prog w = .ok (.slice A n c) w := by simp [go_sem, hg]
 have h2 : (loadVar 55 ⟨g', 0, none⟩).run Tryz.prog w = .ok (.int .i64 z) w := by simp [go_sem, hg']
 simp [results, h, hp', hq', asAddr, hl, h2]
def TreePost (w : World) (r : Res (List EntT)) (e : Ending) (w' : World) : Prop :=
 Below w.heap.size w w' ∧ match r with
  | .ok x => ∃ A c, e = .returned (.tuple #[.slice A x.length c, .int .i64 0]) ∧ SlOf entR w' (fun b => b < w.heap.size) A x ∧ x.length ≤ c ∧ c ≤ maxLen
  | .error z => e = .returned (.tuple #[.slice none 0 0, .int .i64 z])
/-- GetTree's variables -/
structure TV (w w2 : World) (g : Nat) (v : Value) : Prop where
 below : Below g w w2
 x : Blk w2 g 68 #[v]
 e : Blk w2 (g + 1) 55 #[.int .i64 0]
theorem TV.go {w w2 w3 : World} {g : Nat} {v : Value} (h : TV w w2 g v) (hb : Below w2.heap.size w2 w3) : TV w w3 g v :=
 ⟨h.below.trans (hb.mono (Nat.le_of_lt h.x.lt)), h.x.below hb h.x.lt, h.e.below hb h.e.lt⟩
theorem TV.set {w w2 : World} {g : Nat} {v : Value} (h : TV w w2 g v) (u : Value) : TV w (w2.setCell ⟨g, 0, none⟩ u) g u :=
 ⟨h.below.setCell (p := ⟨g, 0, none⟩) (Nat.le_refl g) u, h.x.set_ 0 u, h.e.other (by omega) 0 u⟩
theorem TV.grown {w w2 w3 : World} {g : Nat} {v : Value} {o : Option Nat} (h : TV w w2 g v) (hg : w2.grownBy w3 o) (ho : ∀ b, o = some b → g + 2 ≤ b) : TV w w3 g v := by
 refine ⟨h.below.trans ⟨hg.os, hg.tape, hg.output, hg.size, fun b hb => hg.block b (by have := h.x.lt; omega) (fun e => by have := ho b e.symm; omega)⟩, h.x.grown hg (fun e => by have := ho g e.symm; omega), h.e.grown hg (fun e => by have := ho (g + 1) e.symm; omega)⟩
abbrev treeDs (g : Nat) : List Deferred := [{ target := .fn (.func 41) #[], args := #[.pointer (some ⟨g + 1, 0, none⟩)] }, { target := .fn (.func 82) #[.pointer (some ⟨g + 1, 0, none⟩), .pointer (some ⟨g, 0, none⟩)], args := #[] }]
/-- what a panic of GetTree's must show -/
def treePn (w : World) (g : Nat) (R : Res (List EntT)) (ch : List PanicEntry) (w' : World) : Prop := ∃ z, ch = flawE z ∧ z ≠ 0 ∧ R = .error z ∧ ∃ A n c, TV w w' g (.slice A n c)
theorem tree_out {w w4 : World} {g : Nat} {R : Res (List EntT)} {ch : List PanicEntry} {tmps : Array Value} {ds : List Deferred} (HG : w.heap.size = g) (hpn : treePn w g R ch w4) (hp : tmps.getD 2 undef = .pointer (some ⟨g, 0, none⟩)) (hq : tmps.getD 3 undef = .pointer (some ⟨g + 1, 0, none⟩)) (h3 : ds = treeDs g) :
  Leaves Tryz.prog Tryz.f55 tmps (TreePost w R) ds (.panicking ch) w4 := by
 obtain ⟨z, rfl, hz, rfl, A, n, c, hv⟩ := hpn
 subst h3
 have hlt : g + 1 < w4.heap.size := hv.e.lt
 have E1 := (hv.x.alloc (.cells #[.int .i64 z] 152)).other (g' := g + 1) (by omega) 0 (.int .i64 z)
 have E2 := (hv.e.alloc (.cells #[.int .i64 z] 152)).set_ 0 (.int .i64 z)
 have hgl : g ≤ w4.heap.size := by omega
 have HB5 := (hv.below.alloc hgl (.cells #[.int .i64 z] 152)).setCell (p := ⟨g + 1, 0, none⟩) (by show g ≤ g + 1; omega) (.int .i64 z)
 refine leaves_cons (f := 41) (args := #[.pointer (some ⟨g + 1, 0, none⟩)]) (by simp) (by simp [go_sem]) ?_
 refine (ocaught_flaw ⟨g + 1, 0, none⟩ 0 z [] w4 hlt (hv.e.cell 0) (hv.e.frozen 0)).mono ?_
 rintro e u' w7 ⟨rfl, rfl, rfl⟩
 refine leaves_cons (f := 82) (args := #[.pointer (some ⟨g + 1, 0, none⟩), .pointer (some ⟨g, 0, none⟩)]) (by simp [settle]) (by simp [go_sem]) ?_
 refine (treeD_bad _ g z _ _ _ hz (E2.cell 0) E1 ⟨_, _, _, rfl⟩).mono ?_
 rintro e u' w8 ⟨rfl, rfl, rfl⟩
 have F1 := E1.set_ 0 (.slice none 0 0)
 have F2 := E2.other (g' := g) (by omega) 0 (.slice none 0 0)
 have HB6 := HB5.setCell (p := ⟨g, 0, none⟩) (Nat.le_refl g) (.slice none 0 0)
 refine ⟨_, results_sl_err rfl tmps _ g (g + 1) none 0 0 z hp hq (F1.cell 0) (F2.cell 0), ?_⟩
 unfold TreePost
 rw [HG]
 exact ⟨HB6, rfl⟩
/-- GetTree's end -/
theorem tree_end {w w5 w15 : World} {g : Nat} {A' : Option Addr} {k c' : Nat} {is : List EntT} {R : Res (List EntT)} {tmps : Array Value} {ds : List Deferred} (HG : w.heap.size = g) (HX : TV w w15 g (.slice A' k c')) (HL : EL w5 w15 g A' k c' is) (hsz : g + 2 ≤ w5.heap.size)
  (hR : R = .ok is) (h1 : tmps.getD 2 undef = .pointer (some ⟨g, 0, none⟩) := by rfl) (h2 : tmps.getD 3 undef = .pointer (some ⟨g + 1, 0, none⟩) := by rfl) (h3 : ds = treeDs g := by rfl) :
  Leaves Tryz.prog Tryz.f55 tmps (TreePost w R) ds .returning (w15.setCell ⟨g + 1, 0, none⟩ (.int .i64 0)) := by
 subst h3
 have HX3 := HX.x.other (g' := g + 1) (by omega) 0 (.int .i64 0)
 have HE3 := HX.e.set_ 0 (.int .i64 0)
 have HB3 := HX.below.setCell (p := ⟨g + 1, 0, none⟩) (by show g ≤ g + 1; omega) (.int .i64 0)
 have HG3 : w15.grownBy (w15.setCell ⟨g + 1, 0, none⟩ (.int .i64 0)) (some (g + 1)) := grown_set _ _ _ _
 obtain ⟨HS3, hmi, hmc, hcm⟩ := HL.sl (B := g + 2) hsz
 have HS4 : SlOf entR (w15.setCell ⟨g + 1, 0, none⟩ (.int .i64 0)) (fun b => b < g + 2) A' is := HS3.stable (Moves.grown HG3 (by show g + 1 < g + 2; omega))
 generalize w15.setCell ⟨g + 1, 0, none⟩ (.int .i64 0) = W at *
 refine leaves_cons (f := 41) (args := #[.pointer (some ⟨g + 1, 0, none⟩)]) (by simp) (by simp [go_sem]) ?_
 refine (ocaught_idle _ _).mono ?_
 rintro e u' w7 ⟨rfl, rfl, rfl⟩
 have V3 := HX3.alloc (.cells #[.int .i64 0] 152)
 have E3 := HE3.alloc (.cells #[.int .i64 0] 152)
 refine leaves_cons (f := 82) (args := #[.pointer (some ⟨g + 1, 0, none⟩), .pointer (some ⟨g, 0, none⟩)]) (by simp [settle]) (by simp [go_sem]) ?_
 refine (treeD_ok _ _ _ _ (E3.cell 0)).mono ?_
 rintro e u' w8 ⟨rfl, rfl, rfl⟩
 refine ⟨_, results_sl_err rfl tmps _ g (g + 1) A' k c' 0 h1 h2 (V3.cell 0) (E3.cell 0), ?_⟩
 unfold TreePost
 rw [HG, hR]
 have hgW : g ≤ W.heap.size := by have := HX3.lt; omega
 refine ⟨HB3.alloc hgW _, A', c', by rw [hmi], HS4.stable ((Moves.of_below ((Below.refl _ _).alloc (Nat.le_refl _) _)).trans (Moves.less _ (fun b _ e => by show b < g + 2; omega))), by rw [← hmi]; exact hmc, hcm⟩
/-! ### errors -/
theorem entEnd_err {row : List Val} {s i : List UInt8} {z : Int} (h : entEnd row s i = .error z) : z ≠ 0 := by
 unfold entEnd at h
 split at h
 ·cases h
 ·split at h
  ·injection h with h; omega
  ·cases h
/-- a struct stored whole, in a region that draws its order -/
theorem step_store_row {P : Program} {Q : Exit → Act → World → Prop} {o : Oper} {a : Act} {w : World} {K : Act → World → Prop} {E : Prop} (hgd : o.guard = none) (x y : Operand) {ty : TypeId} (ho : o.op = .store ty x y)
  (g : Nat) (cells : Array Value) (hx : a.eval x = .pointer (some ⟨g, 0, none⟩)) (hy : a.eval y = .agg cells) (t : TypeId) (cur : Array Value) (hg : w.heap[g]? = some (.cells cur t (0, 0)))
  (hi : (P.info? ty).map (·.size) = some cells.size) (hl : cur.size = cells.size) (h1 : cells.all (·.oneCell') = true) (h : K (a.put o.dst undef) (w.setRow g cells)) :
  ∀ {ops : Array Oper}, if Region.wanted o (yielded ops a.tmps) = true then Oper.wp P o a w K Q else E := by
 intro ops
 have hr := run_storeCells_at (P := P) g 0 t cells.toList 0 cur w hg (by simp; omega) (fun v hv => (Array.all_eq_true_iff_forall_mem.1 h1) v (by simpa using hv))
 have hrow : (cur.toList.take 0 ++ cells.toList ++ cur.toList.drop (0 + cells.size)).toArray = cells := by
  rw [List.drop_of_length_le (by simp; omega)]; simp
 have hs : (storeVar ty ⟨g, 0, none⟩ (.agg cells)).run P w = .ok () (w.setRow g cells) := by
  cases hq : P.info? ty with
  | none => simp [hq] at hi
  | some i =>
   have hs : cells.size = i.size := by simp [hq] at hi; omega
   simp only [Nat.add_zero, Array.length_toList] at hr
   rw [hrow] at hr
   simp [storeVar, sizeOf, typeInfo, hq, Value.cells, hs]
   simpa [hs] using hr
 have hw : Region.wanted o (yielded ops a.tmps) = true := by simp [Region.wanted, hgd]
 rw [if_pos hw]
 unfold Oper.wp execOp
 simp only [ho, hx, hy, Instr.storeAt, Instr.sureAddr, Sem.run_bind, Sem.run_pure, Result.andThen_ok, hs]
 exact h
/-- a slice of one, made outside of a drawn region -/
theorem wpList_build1 {P : Program} {ops : Array Oper} {rest : List Oper} {o : Oper} {a : Act} {w w' : World} {Q : Exit → Act → World → Prop} (hgd : o.guard = none) (x : Operand) {t : TypeId} (ho : o.op = .buildSlice t 1 #[(0, x)]) (y v' : Value) (hx : a.eval x = y)
  (hrun : (Instr.buildSlice t 1 #[(0, y)]).run P w = .ok v' w') (h : wpList P ops Q rest (a.put o.dst v') w') : wpList P ops Q (o :: rest) a w := by
 refine wpList_plain hgd fun _ hK => ?_
 unfold Oper.wp execOp
 simp only [ho, List.map_toArray, List.map_cons, List.map_nil, hx, Sem.run_bind, hrun, Result.andThen_ok, Sem.run_pure]
 exact hK _ _ h
theorem exec_build3 {P : Program} {o : Oper} {a : Act} {w : World} (t : TypeId) (i j k : Nat) (x y z : Operand) (ho : o.op = .build t #[(i, x), (j, y), (k, z)]) (vx vy vz v : Value) (hx : a.eval x = vx) (hy : a.eval y = vy) (hz : a.eval z = vz)
  (h : (Instr.build t #[(i, vx), (j, vy), (k, vz)]).run P w = .ok v w) : (execOp a.eval o).run P w = .ok (.value v) w := by
 subst hx hy hz
 unfold execOp
 simp only [ho, List.map_toArray, List.map_cons, List.map_nil, Sem.run_bind, h, Result.andThen_ok, Sem.run_pure]
theorem ent_alloc {w8 W : World} (h : Below w8.heap.size w8 W) : ∃ W' ge, W.alloc (.cells zEnt 70) = W' ∧ W.heap.size = ge ∧ Below w8.heap.size w8 W' ∧ w8.heap.size ≤ ge ∧ Blk W' ge 70 zEnt := ⟨_, _, rfl, rfl, h.alloc h.size _, h.size, Blk.new _ _ _⟩
theorem TV.other {w w2 : World} {g ge i : Nat} {v : Value} (h : TV w w2 g v) (hg : g + 2 ≤ ge) (u : Value) : TV w (w2.setCell ⟨ge, i, none⟩ u) g v :=
 ⟨h.below.setCell (p := ⟨ge, i, none⟩) (by show g ≤ ge; omega) u, h.x.other (by omega) i u, h.e.other (by omega) i u⟩
theorem EL.other {w2 wr : World} {g ge off : Nat} {A : Option Addr} {m c : Nat} {is : List EntT} (h : EL w2 wr g A m c is) (hne : ∀ b, own (.slice A m c) b → b ≠ ge) (hge : w2.heap.size ≤ ge) (u : Value) : EL w2 (wr.setCell ⟨ge, off, none⟩ u) g A m c is :=
 ⟨h.row.grown (grown_set wr ge off u) (fun k e hk => by have e := Option.some.inj e; exact hne k hk e.symm) (fun _ _ _ k => k), grown_new h.grown (grown_set wr ge off u) hge, h.lt⟩
theorem val_flt {w : World} {av : Av} {cs : List Value} {v : Val} (hv : valR.R w av cs v) : v.flt < 2 ^ 64 := by
 obtain ⟨k, u, bs, f, l⟩ := v
 obtain ⟨A, cA, M, cM, rfl, _, _, h, _⟩ := valR_iff.1 hv
 exact h
end Go.Proofs.YtgmbkcjihgphmaaGreat
