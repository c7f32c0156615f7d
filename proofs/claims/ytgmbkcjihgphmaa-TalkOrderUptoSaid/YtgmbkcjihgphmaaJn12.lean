/- Contracts and laws for what the statement reaches, joined: ObjGetBlob, ObjCom, StrL, ObjName, ObjName2. -/
import Derived.Test.YtgmbkcjihgphmaaJn1
import Derived.Test.YtgmbkcjihgphmaaJn11
import Derived.Test.YtgmbkcjihgphmaaJn2
import Derived.Test.YtgmbkcjihgphmaaJn3
import Derived.Laws.CopyRow
import Derived.Laws.RangeAny
/- object.GetBlob: the walk. -/
set_option linter.unusedVariables false
namespace Go.Proofs.Ytgmbkcjihgphmaa
open Go.RowKit
attribute [local go_sem ↓] bsId_eq

theorem blobEnd_err {is : List (List UInt8)} {v : Val} {z : Int} (h : blobEnd is v = .error z) : z ≠ 0 := by
  unfold blobEnd at h
  split at h
  · injection h with h; omega
  · split at h
    · injection h with h; omega
    · cases h
theorem nthV_at {us : List Val} {k : Nat} (hk : k < us.length) : us[k]? = some (nthV us k) := by
  unfold nthV
  rw [List.getD_eq_getElem?_getD, List.getElem?_eq_getElem hk]; rfl
theorem listG_len {v : Val} {m : Nat} {us : List Val} (h : listG v m = .ok us) : us.length ≤ m := by
  unfold listG at h
  split at h
  · cases h
  · split at h
    · cases h
    · injection h with h; subst h; omega

/-- a value's kind and number in memory -/
theorem val_two {w : World} {av : Av} {b o : Nat} {cs : List Value} {v : Val} (hv : valR.R w av cs v) (hat : At w ⟨b, o, none⟩ cs.toArray) : w.cell? ⟨b, o, none⟩ = some (.int .i64 v.kind) ∧ w.cell? ⟨b, o + 1, none⟩ = some (.int .u64 (v.num : Int)) ∧ w.cell? ⟨b, o + 3, none⟩ = some (.float .f64 v.flt) := by
  obtain ⟨k, u, bs, f, l⟩ := v
  obtain ⟨A, cA, M, cM, rfl, _⟩ := valR_iff.1 hv
  exact ⟨hat 0 _ rfl, hat 1 _ rfl, hat 3 _ rfl⟩

/-- GetBlob's variables ahead of the loop -/
structure BV (w w2 : World) (g : Nat) : Prop where
  below : Below g w w2
  x : Blk w2 g 116 zBlob
  e : Blk w2 (g + 1) 29 #[.int .i64 0]
theorem BV.go {w w2 w3 : World} {g : Nat} (h : BV w w2 g) (hb : Below w2.heap.size w2 w3) : BV w w3 g :=
  ⟨h.below.trans (hb.mono (Nat.le_of_lt h.x.lt)), h.x.below hb h.x.lt, h.e.below hb h.e.lt⟩

set_option maxRecDepth 100000 in
set_option maxHeartbeats 4000000 in
theorem getBlob_any (A : Option Addr) (n c : Nat) (l : List UInt8) (w : World) (hs : Sl w 1 A n (bytesV l)) (hnc : n ≤ c) (hcm : c ≤ maxLen) :
    Calls Try.prog 45 #[.slice A n c] w (BlobPost w (getBlob l)) := by
  have hmf : ∀ (fn : Fn) (first cap : Array Value) (w : World), (Instr.makeFunc fn first cap).run Try.prog w = .ok (.func fn first cap) w := fun _ _ _ _ => rfl
  obtain ⟨w1, hw1⟩ : ∃ w1, w1 = (w.alloc (.cells zBlob 116)).alloc (.cells #[.int .i64 0] 29) := ⟨_, rfl⟩
  have hb1 : Below w.heap.size w w1 := by rw [hw1]; exact ((Below.refl _ _).alloc (Nat.le_refl _) _).alloc (by simp) _
  have HV1 := Lib.hid (show BV w w1 w.heap.size from ⟨hb1, by rw [hw1]; exact (Blk.new w _ _).alloc _, by rw [hw1]; have := Blk.new (w.alloc (.cells zBlob 116)) 29 #[.int .i64 0]; simpa using this⟩)
  have HSZ := Lib.hid (show w1.heap.size = w.heap.size + 2 by rw [hw1]; simp)
  have HOP := Lib.hid (open_get A n c l 2 2 w1 (hs.below hb1) hnc hcm (by omega) (by omega) (by omega))
  obtain ⟨R, hR⟩ : ∃ R, R = getBlob l := ⟨_, rfl⟩
  obtain ⟨D, hD⟩ : ∃ D, D = openG l 2 2 := ⟨_, rfl⟩
  have HR := Lib.hid (show R = bindR D fun vs => bindR (idsG (nthV vs 0) 4096) fun is => blobEnd is (nthV vs 1) by rw [hR, hD]; rfl)
  have HDL := Lib.hid hD
  rw [← hR]
  rw [← hD] at HOP
  clear hs hnc hcm hb1 hR hD
  go_enter_defers Try.func45, Try.ntmps45
  go_upto_region 3 with fail
  change Code.wp _ _ _ _ ((w.alloc (.cells zBlob 116)).alloc (.cells #[.int .i64 0] 29))
  rw [← hw1]
  clear hw1
  generalize hg : w.heap.size = g at *
  have HG := Lib.hid hg
  clear hg
  go_wp2_with fail
  refine HOP.out.mono ?_
  intro e w2 hp
  obtain ⟨hb2, hp⟩ := hp
  have HV2 := Lib.hid (HV1.out.go hb2)
  cases D with
  | error z =>
    obtain rfl : e = _ := hp
    have hr := HR.out
    rw [hr]
    refine blob_door (openG_err HDL.out.symm) HG.out HV2.out.below HV2.out.x rfl HV2.out.e ?_ ?_ <;> rfl
  | ok vs =>
    obtain ⟨L, cL, rfl, hl1, hl2, hsl⟩ := hp
    have hlen := openG_len HDL.out.symm
    rw [hlen] at hl1 ⊢
    obtain ⟨bL, oL, cs, rfl, hbL, hv, hat⟩ := val_at hsl hlen (i := 0) (by omega)
    have HRR := Lib.hid (show R = bindR (idsG (nthV vs 0) 4096) fun is => blobEnd is (nthV vs 1) from HR.out)
    have HSV := Lib.hid hsl
    have HVL := Lib.hid hlen
    have hk5 : cs.length = 5 := valR.len hv
    obtain ⟨KV, hKV⟩ : ∃ KV, KV = cs.toArray := ⟨_, rfl⟩
    have HI := Lib.hid (show (Try.prog.info? 72).map (·.size) = some KV.size by rw [hKV, show cs.toArray.size = 5 from by simpa using hk5]; exact val_info)
    have HAT := Lib.hid (show At w2 ⟨bL, oL, none⟩ KV by rw [hKV]; simpa using hat)
    have HT := Lib.hid (list_get cs (nthV vs 0) 4096 w2 _ hv (by omega))
    rw [← hKV] at HT
    obtain ⟨T, hT⟩ : ∃ T, T = listG (nthV vs 0) 4096 := ⟨_, rfl⟩
    have HTT := Lib.hid hT
    have HR3 := Lib.hid (show R = bindR (bindR T (eachG idG)) fun is => blobEnd is (nthV vs 1) by rw [HRR.out, hT]; rfl)
    rw [← hT] at HT
    clear hlen hsl hv hat hk5 hKV HR HDL HOP hT HRR HV1
    go_wp2_with (first | (refine wpList_load_at rfl _ _ rfl bL oL rfl KV _ HAT.out Try.underlying72 rfl HI.out ?_) | fail)
    refine HT.out.mono ?_
    intro e w3 hp
    obtain ⟨hb3, hp⟩ := hp
    have HV3 := Lib.hid (HV2.out.go hb3)
    have HSV3 := Lib.hid (HSV.out.below hb3)
    cases T with
    | error z =>
      obtain rfl : e = _ := hp
      have hr := HR3.out
      rw [hr]
      refine blob_door (listG_err HTT.out.symm) HG.out HV3.out.below HV3.out.x rfl HV3.out.e ?_ ?_ <;> rfl
    | ok us =>
      obtain ⟨M, cM, rfl, hm1, hm2, hum⟩ := hp
      have HUM := Lib.hid hum
      have hul := listG_len HTT.out.symm
      obtain ⟨nu, hnu⟩ : ∃ nu, nu = us.length := ⟨_, rfl⟩
      rw [← hnu] at hm1 hul ⊢
      have HNU := Lib.hid hnu.symm
      obtain ⟨RR, hRR⟩ : ∃ RR, RR = eachG idG us := ⟨_, rfl⟩
      have HRR := Lib.hid (show conE [] (eachG idG (us.drop 0)) = RR by rw [conE_nil, List.drop_zero, hRR])
      have HR4 := Lib.hid (show R = bindR RR fun is => blobEnd is (nthV vs 1) by rw [HR3.out, hRR]; rfl)
      have HIL := Lib.hid (IL.start HV3.out.x.lt)
      have hsz3 : g + 2 ≤ w3.heap.size := by have := HSZ.out; have := hb2.size; have := hb3.size; omega
      have hbw : Below w3.heap.size w3 w3 := Below.refl _ _
      clear hum hnu hRR HR3 HTT HT hb2 hb3 HV2 HSV HAT HI
      go_wp2_with fail
      go_loopw [15] (fun s15 wr => ∃ (k : Nat) (A' : Option Addr) (c' : Nat) (is : List (List UInt8)), k ≤ nu ∧ s15 = .int .i64 (k : Int) ∧ Hid (conE is (eachG idG (us.drop k)) = RR) ∧ Hid (IL w3 wr g A' k c' is) ∧ Hid (Blk wr g 116 #[.slice A' k c', .int .i64 0])) (fun s15 wr => nu - (intOf s15).toNat)
      case atStart => exact ⟨0, none, 0, [], by omega, rfl, HRR, HIL, Lib.hid HV3.out.x⟩
      case round =>
        obtain ⟨k, A', c', is, hk, rfl, HC, HL, HX⟩ := hrel
        have hE : Blk wr (g + 1) 29 #[.int .i64 0] := HV3.out.e.grown HL.out.grown (fun e => by have := Option.some.inj e; omega)
        have hBW : Below g w wr := HV3.out.below.trans ⟨HL.out.grown.os, HL.out.grown.tape, HL.out.grown.output, HL.out.grown.size, fun b hb => HL.out.grown.block b (by have := HL.out.lt; omega) (fun e => by have := Option.some.inj e; omega)⟩
        have HE := Lib.hid hE
        have HBW := Lib.hid hBW
        clear hE hBW
        by_cases hlt : k < nu
        · have hltI : (k : Int) < (nu : Int) := by omega
          obtain ⟨bM, oM, cs, rfl, hbM, hv, hat⟩ := val_at (HUM.out.stable (Moves.grown HL.out.grown (show g < w1.heap.size by have := HSZ.out; omega))) HNU.out hlt
          have hvk := nthV_at (us := us) (k := k) (by rw [HNU.out]; exact hlt)
          obtain ⟨KV, hKV, HK, HKV, HI, HO, HS5, HN⟩ := keepNewA wr hv
          have HAT := Lib.hid (show At wr ⟨bM, oM + k * 5, none⟩ KV by rw [hKV]; exact hat)
          have HX6 := Lib.hid (HX.out.alloc (.cells KV 72))
          have HL6 := Lib.hid (HL.out.below ((Below.refl _ _).alloc (Nat.le_refl _) (.cells KV 72)))
          have HE6 := Lib.hid (HE.out.alloc (.cells KV 72))
          have HB6 := Lib.hid (HBW.out.alloc (Nat.le_of_lt (by have := HE.out.lt; omega)) (.cells KV 72))
          have HVK := Lib.hid hvk
          have HOL := Lib.hid (fun b (hb : (Value.slice A' k c').ownBlock = some b) => (HL.out.row.lt hb).2)
          have HID := Lib.hid (id_get KV.toList (nthV us k) ((wr.alloc (.cells KV 72)).drew) (valR.stable HKV.out ((Moves.forget _ _).trans (Moves.of_below (Same.below ⟨1, rfl⟩ _)))))
          have HID := Lib.hid (by have := HID.out; rwa [Array.toArray_toList] at this : Calls Try.prog 61 #[.agg KV] ((wr.alloc (.cells KV 72)).drew) (IdPost ((wr.alloc (.cells KV 72)).drew) (idG (nthV us k))))
          clear hv hat hvk hKV HKV
          go_upto_region 7 with (first
            | (refine wpList_load_at rfl _ _ rfl bM (oM + k * 5) rfl KV _ HAT.out Try.underlying72 rfl HI.out ?_)
            | (refine wpList_store_row rfl _ _ _ rfl wr.heap.size KV rfl rfl 72 _ HN.out HI.out HS5.out HO.out ?_) | fail)
          rw [World.setRow_alloc_new]
          clear HN HS5 HO HAT HX HL HE HBW
          generalize wr.alloc (.cells KV 72) = w6 at *
          generalize wr.heap.size = gc at *
          have hdr : Below w6.heap.size w6 w6.drew := Same.below ⟨1, rfl⟩ _
          have hg6 : g < w6.heap.size := HX6.out.lt
          have hgc6 : gc < w6.heap.size := HK.out.lt
          have hcx : w6.cell? ⟨g, 0, none⟩ = some (.slice A' k c') := HX6.out.cell 0
          have hs0 : w6.drew.cell? ⟨g, 0, none⟩ = some (.slice A' k c') ∧ Blk w6.drew gc 72 KV := ⟨(hdr.cell (p := ⟨g, 0, none⟩) hg6).trans hcx, HK.out.below hdr hgc6⟩
          refine wp_door (fun ch w' => ∃ z, ch = flawE z ∧ z ≠ 0 ∧ R = .error z ∧ Below g w w' ∧ (∃ K : Array Value, K.size = 2 ∧ Blk w' g 116 K) ∧ Blk w' (g + 1) 29 #[.int .i64 0]) 2 3 (.pointer (some ⟨g, 0, none⟩)) (.pointer (some ⟨g + 1, 0, none⟩))
            [{ target := .fn (.func 36) #[], args := #[.pointer (some ⟨g + 1, 0, none⟩)] }, { target := .fn (.func 58) #[.pointer (some ⟨g + 1, 0, none⟩), .pointer (some ⟨g, 0, none⟩)], args := #[] }] (fun ch a w' h1 h2 h3 hp => ?_) ?_
          · obtain ⟨z, rfl, hz, hRz, hB, ⟨K, hK, hx⟩, he⟩ := hp
            have key := blob_door (w := w) (z := z) hz HG.out hB hx hK he h1 h2
            rw [← h3, ← hRz] at key
            exact key
          refine wp_region_late (S := fun w => w.cell? ⟨g, 0, none⟩ = some (.slice A' k c') ∧ Blk w gc 72 KV) (s := 7) (by kernel_rfl) ?_
          refine late_pure (i := 0) (v := ?_) (a' := ?_) rfl (by kernel_rfl) (by kernel_rfl) (by kernel_rfl) (by rfl) (fun _ _ _ h => door_put (by decide) (by decide) h) (by rfl) (fun _ => hs0) ?_ ?_ ?_
          rotate_left 2
          · (intro w; go_simp; try with_reducible rfl)
          · (go_simp; try with_reducible rfl)
          refine late_load (i := 1) (m := 1) (v := ?_) (a' := ?_) rfl (by kernel_rfl) (by kernel_rfl) (by kernel_rfl) (by kernel_rfl) (by rfl) (fun _ _ _ h => door_put (by decide) (by decide) h) (by rfl) hs0 ?_ ?_ ?_
          rotate_left 2
          · (intro w hS; have t := hS.1; go_simp; try with_reducible rfl)
          · (go_simp; try with_reducible rfl)
          refine late_load (i := 2) (m := 2) (v := ?_) (a' := ?_) rfl (by kernel_rfl) (by kernel_rfl) (by kernel_rfl) (by kernel_rfl) (by rfl) (fun _ _ _ h => door_put (by decide) (by decide) h) (by rfl) hs0 ?_ ?_ ?_
          rotate_left 2
          · (intro w hS; refine exec_load_at 72 (.tmp 6) ?_ gc 0 ?_ KV _ (At.of_row hS.2) Try.underlying72 rfl HI.out; exact rfl; exact rfl)
          · (go_simp; try with_reducible rfl)
          refine late_one (i := 3) (by kernel_rfl) rfl (fun KR hKR => ?_)
          go_simp
          refine HID.out.mono ?_
          intro e w7 hp
          obtain ⟨hb7, hp⟩ := hp
          have hb67 := hdr.trans (hb7.mono hdr.size)
          have HL7 := Lib.hid (HL6.out.below hb67)
          have HX7 := Lib.hid (HX6.out.below hb67 hg6)
          have HK7 := Lib.hid (HK.out.below hb67 hgc6)
          have HE7 := Lib.hid (HE6.out.below hb67 HE6.out.lt)
          have HB7 := Lib.hid (HB6.out.trans (hb67.mono (Nat.le_of_lt hg6)))
          have hs7 : w7.cell? ⟨g, 0, none⟩ = some (.slice A' k c') ∧ Blk w7 gc 72 KV := ⟨HX7.out.cell 0, HK7.out⟩
          rcases hid : idG (nthV us k) with z | b
          · rw [hid] at hp
            obtain rfl : e = _ := hp
            have hrr : R = .error z := by rw [HR4.out, ← HC.out, conE_err is HVK.out hid]; rfl
            exact ⟨rfl, rfl, rfl, z, rfl, idG_err hid, hrr, HB7.out, ⟨_, rfl, HX7.out⟩, HE7.out⟩
          rw [hid] at hp
          obtain ⟨rfl, hb32⟩ := hp
          have HC2 := Lib.hid (show conE (is ++ [b]) (eachG idG (us.drop (k + 1))) = RR by rw [← conE_step is HVK.out hid]; exact HC.out)
          obtain ⟨A9, c9, w9, run9, HL9, hg9, hob9⟩ := HL7.out.push hb32 (by omega) 1
          obtain ⟨KB, hKB⟩ : ∃ KB, KB = (bytesV b).toArray := ⟨_, rfl⟩
          have hKs : KB.size = 32 := by rw [hKB]; simp [bytesV, hb32]
          rw [← hKB] at run9 ⊢
          have hbs := fun w => bsId_of w KB hKs
          have HKS := Lib.hid hKs
          clear hKs hKB
          have hal : Below w7.heap.size w7 (w7.alloc (.cells KB 33)) := (Below.refl _ _).alloc (Nat.le_refl _) _
          have hs8 : (w7.alloc (.cells KB 33)).cell? ⟨g, 0, none⟩ = some (.slice A' k c') ∧ Blk (w7.alloc (.cells KB 33)) gc 72 KV := ⟨(HX7.out.alloc _).cell 0, HK7.out.alloc _⟩
          have hgo9 : ∀ b, (Value.slice A' k c').ownBlock = some b → w3.heap.size ≤ b := hob9
          have HX9 := Lib.hid (HX7.out.grown hg9 (fun e => by have := hob9 g e.symm; have := HL6.out.lt; omega))
          have HK9 : w9.cell? ⟨g, 0, none⟩ = some (.slice A' k c') ∧ Blk w9 gc 72 KV := ⟨HX9.out.cell 0, HK7.out.grown hg9 (fun e => by have := HOL.out gc e.symm; omega)⟩
          refine hKR _ _ (fun _ => hs7) ?_
          clear hKR KR
          refine late_one (i := 4) (by kernel_rfl) rfl (fun KR hKR => ?_)
          refine step_build (by rfl) (.tmp 22) (by rfl) (by rfl) (hbs _) ?_
          refine hKR _ _ (fun _ => hs8) ?_
          clear hKR KR
          refine late_one (i := 5) (by kernel_rfl) rfl (fun KR hKR => ?_)
          refine step_run_append (by rfl) (.tmp 20) (.tmp 23) (by rfl) (by rfl) (by rfl) run9 ?_
          have hfz := HX9.out.frozen 0
          have hcz : w9.cell? ⟨g, 0, none⟩ = some (.slice A' k c') := HX9.out.cell 0
          have HL10 := Lib.hid (HL9.set (off := 0) (.slice A9 (k + 1) c9))
          have HX10 : Hid (Blk (w9.setCell ⟨g, 0, none⟩ (.slice A9 (k + 1) c9)) g 116 #[.slice A9 (k + 1) c9, .int .i64 0]) := Lib.hid (HX9.out.set_ 0 _)
          refine hKR _ _ (fun _ => HK9) ?_
          clear hKR KR
          refine late_pure (i := 6) (v := ?_) (a' := ?_) rfl (by kernel_rfl) (by kernel_rfl) (by kernel_rfl) (by rfl) (fun _ _ _ h => door_put (by decide) (by decide) h) (by rfl) (fun _ => HK9) ?_ ?_ ?_
          rotate_left 2
          · (intro w; go_simp; try with_reducible rfl)
          · (go_simp; try with_reducible rfl)
          refine late_one (i := 7) (by kernel_rfl) rfl (fun KR hKR => ?_)
          go_simp
          skip
          refine hKR _ _ (fun h0 => Bool.noConfusion (show (true : Bool) = false from h0)) ?_
          clear hKR KR
          refine late_done' (by kernel_rfl) ?_ _
          clear run9 hbs HID HC HL6 HX6 HE6 HB6 HL7 HX7 HK7 HE7 HB7 HX9 HL9 hs8 HK9 hs7 hs0 hcx
          refine door_normal ?_
          go_wp2_with fail
          go_roundw
          case rel => exact ⟨k + 1, A9, c9, is ++ [b], by omega, by go_num, HC2, HL10, HX10⟩
          case measure => simp [intOf]; omega
        · have hltI : ¬ (k : Int) < (nu : Int) := by omega
          obtain rfl : k = nu := by omega
          have hrr : RR = .ok is := by rw [← HC.out]; exact conE_end is (by rw [HNU.out]; exact Nat.le_refl _)
          have HR5 := Lib.hid (show R = blobEnd is (nthV vs 1) by rw [HR4.out, hrr]; rfl)
          obtain ⟨bq, oq, cs, e0, hbq, hv, hat⟩ := val_at (HSV3.out.stable (Moves.grown HL.out.grown (show g < w1.heap.size by have := HSZ.out; omega))) HVL.out (i := 1) (by omega)
          have e0 := Option.some.inj e0
          injection e0 with e1 e2
          subst e1 e2
          obtain ⟨p0, p1, p3⟩ := val_two hv hat
          obtain ⟨kq, hkq⟩ : ∃ kq, kq = (nthV vs 1).kind := ⟨_, rfl⟩
          obtain ⟨uq, huq⟩ : ∃ uq, uq = (nthV vs 1).num := ⟨_, rfl⟩
          have HR6 := Lib.hid (show R = if kq ≠ 0 then .error 91 else if 262144 < uq then .error 2 else .ok (is, (uq : Int)) by rw [HR5.out, hkq, huq]; rfl)
          have q0 : wr.cell? ⟨bL, oL + 5, none⟩ = some (.int .i64 kq) := by rw [hkq]; exact p0
          have q1 : wr.cell? ⟨bL, oL + 6, none⟩ = some (.int .u64 (uq : Int)) := by rw [huq]; exact p1
          clear hv hat hkq huq e0 HR5 hrr p0 p1 p3
          by_cases hk0 : kq = 0
          · have e1 : (kq == 0) = true := by simp [hk0]
            by_cases hu : uq ≤ 262144
            · have hr : R = .ok (is, (uq : Int)) := by rw [HR6.out, if_neg (by simp [hk0]), if_neg (by omega)]
              have HRR := Lib.hid hr
              have huI : (uq : Int) ≤ 262144 := by omega
              have huw : IntKind.i64.wrap (uq : Int) = (uq : Int) := IntWalk.i64_in _ (by omega)
              have hfz := HX.out.frozen 1
              have hcz : wr.cell? ⟨g, 1, none⟩ = some (.int .i64 0) := HX.out.cell 1
              clear hr hk0 hu
              go_wp2_with fail
              refine (need_yes 91 _).mono ?_
              rintro e w' ⟨rfl, rfl⟩
              go_wp2_with fail
              refine (need_yes 2 _).mono ?_
              rintro e w' ⟨rfl, rfl⟩
              obtain ⟨KX, hKX⟩ : ∃ KX : Array Value, KX = #[.slice A' k c', .int .i64 (uq : Int)] := ⟨_, rfl⟩
              have HX1 : Hid (Blk (w'.setCell ⟨g, 1, none⟩ (.int .i64 (uq : Int))) g 116 KX) := Lib.hid (by rw [hKX]; exact HX.out.set_ 1 _)
              have HE1 : Hid (Blk (w'.setCell ⟨g, 1, none⟩ (.int .i64 (uq : Int))) (g + 1) 29 #[.int .i64 0]) := Lib.hid (HE.out.other (by omega) 1 _)
              have HL1 := Lib.hid (HL.out.set (off := 1) (.int .i64 (uq : Int)))
              have HB1 : Hid (Below g w (w'.setCell ⟨g, 1, none⟩ (.int .i64 (uq : Int)))) := Lib.hid (HBW.out.setCell (p := ⟨g, 1, none⟩) (Nat.le_refl g) _)
              have HIX := Lib.hid (show (Try.prog.info? 116).map (·.size) = some KX.size by rw [hKX]; exact blob_info)
              have HOX := Lib.hid (show KX.all (·.oneCell') = true by rw [hKX]; simp [Value.oneCell'])
              have HKX := Lib.hid hKX
              clear hKX HX HE HL HBW
              go_upto_region 12 with fail
              generalize w'.setCell ⟨g, 1, none⟩ (.int .i64 (uq : Int)) = w4 at *
              have HX2 := Lib.hid (show Blk (w4.setRow g KX) g 116 KX from setRow_heap w4 g _ KX _ _ HX1.out)
              have HE2 := Lib.hid (HE1.out.grown (grown_row w4 g KX) (fun e => by have := Option.some.inj e; omega))
              have HL2 := Lib.hid (HL1.out.set_row KX)
              have HB2 := Lib.hid (below_setRow HB1.out (Nat.le_refl g) KX)
              have hfz := HE2.out.frozen 0
              have hcz : (w4.setRow g KX).cell? ⟨g + 1, 0, none⟩ = some (.int .i64 0) := HE2.out.cell 0
              clear HB1 HL1 HE1
              go_wp2_with (first
                | (refine wpList_load_row rfl 116 (.tmp 2) rfl g rfl 116 KX (0, 0) _ HX1.out Try.underlying116 rfl HIX.out ?_)
                | (refine wpList_store_row rfl _ _ _ rfl g KX rfl rfl 116 _ HX1.out HIX.out rfl HOX.out ?_) | fail)
              generalize w4.setRow g KX = w5 at *
              have HX3 := HX2.out.other (g' := g + 1) (by omega) 0 (.int .i64 0)
              have HE3 := HE2.out.set_ 0 (.int .i64 0)
              have HB3 := HB2.out.setCell (p := ⟨g + 1, 0, none⟩) (by show g ≤ g + 1; omega) (.int .i64 0)
              have HG3 : w5.grownBy (w5.setCell ⟨g + 1, 0, none⟩ (.int .i64 0)) (some (g + 1)) := grown_set _ _ _ _
              obtain ⟨HS3, hmi, hmc, hcm⟩ := HL2.out.sl (B := g + 2) hsz3
              have HS4 : SlOf oidR (w5.setCell ⟨g + 1, 0, none⟩ (.int .i64 0)) (fun b => b < g + 2) A' is := HS3.stable (Moves.grown HG3 (by show g + 1 < g + 2; omega))
              generalize w5.setCell ⟨g + 1, 0, none⟩ (.int .i64 0) = W at *
              refine leaves_cons (f := 36) (args := #[.pointer (some ⟨g + 1, 0, none⟩)]) (by simp) (by simp [go_sem]) ?_
              refine (ocaught_idle _ _).mono ?_
              rintro e u' w7 ⟨rfl, rfl, rfl⟩
              have V3 := HX3.alloc (.cells #[.int .i64 0] 127)
              have E3 := HE3.alloc (.cells #[.int .i64 0] 127)
              refine leaves_cons (f := 58) (args := #[.pointer (some ⟨g + 1, 0, none⟩), .pointer (some ⟨g, 0, none⟩)]) (by simp [settle]) (by simp [go_sem]) ?_
              refine (blobD_ok _ _ _ _ (E3.cell 0)).mono ?_
              rintro e u' w8 ⟨rfl, rfl, rfl⟩
              refine ⟨_, results_row_err rfl _ _ g (g + 1) _ KX 0 rfl rfl V3 (E3.cell 0) Try.underlying116 rfl HIX.out, ?_⟩
              unfold BlobPost
              rw [HG.out, HRR.out]
              have hgW : g ≤ W.heap.size := by have := HX3.lt; omega
              refine ⟨HB3.alloc hgW _, A', c', by rw [HKX.out, hmi], HS4.stable ((Moves.of_below ((Below.refl _ _).alloc (Nat.le_refl _) _)).trans (Moves.less _ (fun b _ e => by show b < g + 2; omega))), by rw [← hmi]; exact hmc, hcm⟩
            · have HRR := Lib.hid (show R = .error 2 by rw [HR6.out, if_neg (by simp [hk0]), if_pos (by omega)])
              have huI : decide ((uq : Int) ≤ 262144) = false := by simp; omega
              clear hk0 hu
              go_wp2_with fail
              refine (need_yes 91 _).mono ?_
              rintro e w' ⟨rfl, rfl⟩
              go_wp2_with fail
              refine (need_no 2 _).mono ?_
              rintro e w' ⟨rfl, rfl⟩
              rw [HRR.out]
              refine blob_door (by decide) HG.out HBW.out HX.out rfl HE.out ?_ ?_ <;> rfl
          · have e1 : (kq == 0) = false := by simp [hk0]
            have HRR := Lib.hid (show R = .error 91 by rw [HR6.out, if_pos hk0])
            clear hk0
            go_wp2_with fail
            refine (need_no 91 _).mono ?_
            rintro e w' ⟨rfl, rfl⟩
            rw [HRR.out]
            refine blob_door (by decide) HG.out HBW.out HX.out rfl HE.out ?_ ?_ <;> rfl
end Go.Proofs.Ytgmbkcjihgphmaa

/- object.GetCommit: its row, its deferred function, its door. -/
set_option linter.unusedVariables false
set_option linter.unusedSimpArgs false
namespace Go.Proofs.Ytgmbkcjihgphmaa
open Go.RowKit

/-- a part of a row stored -/
theorem wpList_store_part {P : Program} {ops : Array Oper} {rest : List Oper} {o : Oper} {a : Act} {w : World} {Q : Exit → Act → World → Prop} (hgd : o.guard = none) (ty : TypeId) (x y : Operand) (ho : o.op = .store ty x y)
    (g off : Nat) (cells : Array Value) (hx : a.eval x = .pointer (some ⟨g, off, none⟩)) (hy : a.eval y = .agg cells) (t : TypeId) (cur : Array Value) (hg : w.heap[g]? = some (.cells cur t (0, 0)))
    (hi : (P.info? ty).map (·.size) = some cells.size) (hl : off + cells.size ≤ cur.size) (h1 : cells.all (·.oneCell') = true)
    (h : wpList P ops Q rest (a.put o.dst undef) (w.setRow g (cur.toList.take off ++ cells.toList ++ cur.toList.drop (off + cells.size)).toArray)) : wpList P ops Q (o :: rest) a w := by
  have hr := run_storeCells_at (P := P) g off t cells.toList 0 cur w hg (by simpa using hl) (fun v hv => (Array.all_eq_true_iff_forall_mem.1 h1) v (by simpa using hv))
  have hs : (storeVar ty ⟨g, off, none⟩ (.agg cells)).run P w = .ok () (w.setRow g (cur.toList.take off ++ cells.toList ++ cur.toList.drop (off + cells.size)).toArray) := by
    cases hq : P.info? ty with
    | none => simp [hq] at hi
    | some i =>
      have hs : cells.size = i.size := by simp [hq] at hi; omega
      simp only [Nat.add_zero, Array.length_toList] at hr
      simp [storeVar, sizeOf, typeInfo, hq, Value.cells, hs]
      simpa [hs] using hr
  refine wpList_plain hgd fun _ hK => ?_
  unfold Oper.wp execOp
  simp only [ho, hx, hy, Instr.storeAt, Instr.sureAddr, Sem.run_bind, Sem.run_pure, Result.andThen_ok, hs]
  exact hK _ _ h

theorem set_parts (cur : Array Value) (i : Nat) (v : Value) (h : i < cur.size) : (cur.toList.take i ++ [v] ++ cur.toList.drop (i + 1)).toArray = cur.setIfInBounds i v := by
  apply Array.ext'
  rw [Array.toList_setIfInBounds, List.set_eq_take_append_cons_drop, if_pos (by simpa using h)]
  simp
/-- a number with a point stored (go_simp has no such rule) -/
theorem wpList_store_flt {P : Program} {ops : Array Oper} {rest : List Oper} {o : Oper} {a : Act} {w : World} {Q : Exit → Act → World → Prop} (hgd : o.guard = none) (ty : TypeId) (x y : Operand) (ho : o.op = .store ty x y)
    (g i f : Nat) (hx : a.eval x = .pointer (some ⟨g, i, none⟩)) (hy : a.eval y = .float .f64 f) (t : TypeId) (cur : Array Value) (hg : w.heap[g]? = some (.cells cur t (0, 0)))
    (hi : (P.info? ty).map (·.size) = some 1) (hl : i < cur.size)
    (h : wpList P ops Q rest (a.put o.dst undef) (w.setCell ⟨g, i, none⟩ (.float .f64 f))) : wpList P ops Q (o :: rest) a w := by
  have hr := run_storeCells_at (P := P) g i t [.float .f64 f] 0 cur w hg (by simp; omega) (fun v hv => by simp at hv; subst hv; rfl)
  have he : w.setCell ⟨g, i, none⟩ (.float .f64 f) = w.setRow g (cur.toList.take i ++ [Value.float .f64 f] ++ cur.toList.drop (i + 1)).toArray := by
    rw [set_parts cur i _ hl, setCell_eq_setRow w g i cur t (0, 0) _ hg]
  have hs : (storeVar ty ⟨g, i, none⟩ (.float .f64 f)).run P w = .ok () (w.setCell ⟨g, i, none⟩ (.float .f64 f)) := by
    rw [he]
    cases hq : P.info? ty with
    | none => simp [hq] at hi
    | some j =>
      have hs : j.size = 1 := by simpa [hq] using hi
      simp only [Nat.add_zero, List.length_cons, List.length_nil, Nat.zero_add] at hr
      simp [storeVar, sizeOf, typeInfo, hq, Value.cells, hs]
      simpa using hr
  refine wpList_plain hgd fun _ hK => ?_
  unfold Oper.wp execOp
  simp only [ho, hx, hy, Instr.storeAt, Instr.sureAddr, Sem.run_bind, Sem.run_pure, Result.andThen_ok, hs]
  exact hK _ _ h
theorem flt_info : (Try.prog.info? 60).map (·.size) = some 1 := by kernel_rfl

/-- a commit's cells -/
def comK (T : List UInt8) (A : Option Addr) (m c : Nat) (f : Nat) (a n : ByteArray) : Array Value := (bytesV T ++ [Value.slice A m c, Value.float .f64 f, Value.string a, Value.string n]).toArray
abbrev zId : List UInt8 := List.replicate 32 0
abbrev zCom : Array Value := comK zId none 0 0 0 ⟨#[]⟩ ⟨#[]⟩
theorem com_info : (Try.prog.info? 62).map (·.size) = some 36 := by kernel_rfl
theorem comK_size {T : List UInt8} (h : T.length = 32) (A : Option Addr) (m c f : Nat) (a n : ByteArray) : (comK T A m c f a n).size = 36 := by simp [comK, bytesV, h]
theorem comK_one (T : List UInt8) (A : Option Addr) (m c f : Nat) (a n : ByteArray) : (comK T A m c f a n).all (·.oneCell') = true := by
  rw [Array.all_eq_true_iff_forall_mem]
  intro v hv
  simp [comK] at hv
  rcases hv with hv | rfl | rfl | rfl | rfl
  · exact bytesV_one T v hv
  all_goals rfl
theorem comK_info {T : List UInt8} (h : T.length = 32) (A : Option Addr) (m c f : Nat) (a n : ByteArray) : (Try.prog.info? 62).map (·.size) = some (comK T A m c f a n).size := by rw [comK_size h]; exact com_info
theorem comK_tree {T U : List UInt8} (hT : T.length = 32) (hU : U.length = 32) (A : Option Addr) (m c f : Nat) (a n : ByteArray) :
    ((comK T A m c f a n).toList.take 0 ++ (bytesV U).toArray.toList ++ (comK T A m c f a n).toList.drop (0 + (bytesV U).toArray.size)).toArray = comK U A m c f a n := by
  have h1 : (bytesV T).length = 32 := by rw [bytesV_length, hT]
  have h2 : (bytesV U).length = 32 := by rw [bytesV_length, hU]
  unfold comK
  simp only [List.take_zero, List.nil_append, Nat.zero_add, List.size_toArray, h2]
  rw [List.drop_append, h1, List.drop_of_length_le (by omega)]
  simp
theorem comK_get {T : List UInt8} (h : T.length = 32) (A : Option Addr) (m c f : Nat) (a n : ByteArray) : (comK T A m c f a n)[32]? = some (.slice A m c) ∧ (comK T A m c f a n)[33]? = some (.float .f64 f) ∧ (comK T A m c f a n)[34]? = some (.string a) ∧ (comK T A m c f a n)[35]? = some (.string n) := by
  have h1 : (bytesV T).length = 32 := by rw [bytesV_length, h]
  unfold comK
  refine ⟨?_, ?_, ?_, ?_⟩ <;> (rw [List.getElem?_toArray, List.getElem?_append_right (by omega), h1]; rfl)
theorem comK_set {T : List UInt8} (h : T.length = 32) (A A' : Option Addr) (m m' c c' f f' : Nat) (a a' n n' : ByteArray) : (comK T A m c f a n).setIfInBounds 32 (.slice A' m' c') = comK T A' m' c' f a n ∧ (comK T A m c f a n).setIfInBounds 33 (.float .f64 f') = comK T A m c f' a n ∧
    (comK T A m c f a n).setIfInBounds 34 (.string a') = comK T A m c f a' n ∧ (comK T A m c f a n).setIfInBounds 35 (.string n') = comK T A m c f a n' := by
  have h1 : (bytesV T).length = 32 := by rw [bytesV_length, h]
  unfold comK
  refine ⟨?_, ?_, ?_, ?_⟩ <;> (rw [List.setIfInBounds_toArray, List.set_append_right _ _ (by omega), h1]; rfl)

theorem comD_ok (pe pv : Addr) (u : FrameMode) (w : World) (he : w.cell? pe = some (.int .i64 0)) :
    CallsD Try.prog 64 #[.pointer (some pe), .pointer (some pv)] u w fun e u' w' => u' = u ∧ e = .returned (.tuple #[]) ∧ w' = w := by
  go_enter_d Try.func64, Try.ntmps64
  go_wp2_with fail
  go_end0
  exact ⟨rfl, rfl⟩
set_option maxRecDepth 100000 in
theorem comD_bad (pe : Addr) (gv : Nat) (z : Int) (K : Array Value) (u : FrameMode) (w : World) (hz : z ≠ 0) (he : w.cell? pe = some (.int .i64 z)) (hK : K.size = 36) (hb : Blk w gv 62 K) :
    CallsD Try.prog 64 #[.pointer (some pe), .pointer (some ⟨gv, 0, none⟩)] u w fun e u' w' => u' = u ∧ e = .returned (.tuple #[]) ∧ w' = w.setRow gv zCom := by
  have hz' : (z != 0) = true := by simp [hz]
  obtain ⟨KV, hKV⟩ : ∃ KV, KV = zCom := ⟨_, rfl⟩
  have HI := Lib.hid (show (Try.prog.info? 62).map (·.size) = some KV.size by rw [hKV]; exact comK_info (by simp) _ _ _ _ _ _)
  have HO := Lib.hid (show KV.all (·.oneCell') = true by rw [hKV]; exact comK_one _ _ _ _ _ _ _)
  have HS := Lib.hid (show K.size = KV.size by rw [hK, hKV]; exact (comK_size (by simp) _ _ _ _ _ _).symm)
  have HB := Lib.hid hb
  have HKV := Lib.hid hKV
  rw [← hKV]
  clear hz hKV hb hK
  go_enter_d Try.func64, Try.ntmps64
  go_wp2_with (first | (refine wpList_store_row rfl _ _ _ rfl gv KV rfl (by rw [HKV.out]; try rfl) 62 _ HB.out HI.out HS.out HO.out ?_) | fail)
  go_end0
  exact ⟨rfl, rfl⟩

def ComPost (w : World) (r : Res ComT) (e : Ending) (w' : World) : Prop :=
  Below w.heap.size w w' ∧ match r with
    | .ok x => ∃ A c, e = .returned (.tuple #[.agg (comK x.1 A x.2.1.length c x.2.2.1 x.2.2.2.1 x.2.2.2.2), .int .i64 0]) ∧ x.1.length = 32 ∧ SlOf oidR w' (fun b => b < w.heap.size) A x.2.1 ∧ x.2.1.length ≤ c ∧ c ≤ maxLen
    | .error z => e = .returned (.tuple #[.agg zCom, .int .i64 z])

/-- the door of GetCommit behind a panic that tells an error -/
theorem com_door {w w4 : World} {g : Nat} {tmps K : Array Value} {z : Int} (hz : z ≠ 0) (HG : w.heap.size = g) (hB : Below g w w4) (hv : Blk w4 g 62 K) (hK : K.size = 36) (he : Blk w4 (g + 1) 29 #[.int .i64 0])
    (hp : tmps.getD 2 undef = .pointer (some ⟨g, 0, none⟩)) (hq : tmps.getD 3 undef = .pointer (some ⟨g + 1, 0, none⟩)) :
    Leaves Try.prog Try.f47 tmps (ComPost w (.error z)) [{ target := .fn (.func 36) #[], args := #[.pointer (some ⟨g + 1, 0, none⟩)] }, { target := .fn (.func 64) #[.pointer (some ⟨g + 1, 0, none⟩), .pointer (some ⟨g, 0, none⟩)], args := #[] }] (.panicking (flawE z)) w4 := by
  have hlt : g + 1 < w4.heap.size := he.lt
  have E1 := (hv.alloc (.cells #[.int .i64 z] 127)).other (g' := g + 1) (by omega) 0 (.int .i64 z)
  have E2 := (he.alloc (.cells #[.int .i64 z] 127)).set_ 0 (.int .i64 z)
  have hgl : g ≤ w4.heap.size := by omega
  have HB5 := (hB.alloc hgl (.cells #[.int .i64 z] 127)).setCell (p := ⟨g + 1, 0, none⟩) (by show g ≤ g + 1; omega) (.int .i64 z)
  refine leaves_cons (f := 36) (args := #[.pointer (some ⟨g + 1, 0, none⟩)]) (by simp) (by simp [go_sem]) ?_
  refine (ocaught_flaw ⟨g + 1, 0, none⟩ 0 z [] w4 hlt (he.cell 0) (he.frozen 0)).mono ?_
  rintro e u' w7 ⟨rfl, rfl, rfl⟩
  refine leaves_cons (f := 64) (args := #[.pointer (some ⟨g + 1, 0, none⟩), .pointer (some ⟨g, 0, none⟩)]) (by simp [settle]) (by simp [go_sem]) ?_
  refine (comD_bad _ g z K _ _ hz (E2.cell 0) hK E1).mono ?_
  rintro e u' w8 ⟨rfl, rfl, rfl⟩
  have r1 := setRow_heap _ g _ zCom _ _ E1
  have r2 := (cell_setRow_other ((w4.alloc (.cells #[.int .i64 z] 127)).setCell ⟨g + 1, 0, none⟩ (.int .i64 z)) g zCom ⟨g + 1, 0, none⟩ (by show g + 1 ≠ g; omega)).trans (E2.cell 0)
  have HB6 := below_setRow HB5 (Nat.le_refl g) zCom
  refine ⟨_, results_row_err rfl tmps _ g (g + 1) _ zCom z hp hq r1 r2 Try.underlying62 rfl (comK_info (by simp) _ _ _ _ _ _), ?_⟩
  unfold ComPost
  rw [HG]
  exact ⟨HB6, rfl⟩

/-- what was read is in its one form -/
theorem openG_norm {l : List UInt8} {kind count : Nat} {vs : List Val} (h : openG l kind count = .ok vs) : ∀ v ∈ vs, norm 15 v = v := by
  unfold openG at h
  cases hd : dec l with
  | error z => rw [hd] at h; cases h
  | ok v =>
    rw [hd] at h
    obtain ⟨_, hn, _, _⟩ := dec_back hd
    obtain ⟨k, u, b, f, l'⟩ := v
    have h : openV (.mk k u b f l') kind count = .ok vs := h
    unfold openV at h
    split at h
    · cases h
    · rename_i hc
      have hk : k = 3 := by
        apply Classical.byContradiction
        intro h; exact hc (.inl h)
      subst hk
      have hl : l'.map (norm 15) = l' := by
        have := congrArg Val.list hn
        simpa [norm, Val.kind, Val.list] using this
      have hall : ∀ v ∈ l', norm 15 v = v := by
        intro v hv
        obtain ⟨i, hi⟩ := List.mem_iff_getElem?.1 hv
        have h2 : (l'.map (norm 15))[i]? = some (norm 15 v) := by rw [List.getElem?_map, hi]; rfl
        rw [hl, hi] at h2
        exact (Option.some.inj h2).symm
      cases l' with
      | nil => cases h
      | cons a t =>
        simp only [Val.list] at h
        split at h
        · cases h
        · split at h
          · cases h
          · injection h with h; subst h
            exact fun v hv => hall v (by simp [hv])
theorem norm_flt {v : Val} (h : norm 15 v = v) (hk : v.kind = 2) : canonB v.flt = v.flt := by
  obtain ⟨k, u, b, f, l⟩ := v
  have hk : k = 2 := hk
  subst hk
  have h2 : norm 15 (.mk 2 u b f l) = .mk 2 0 [] (canonB f) [] := rfl
  rw [h2] at h
  exact congrArg Val.flt h
end Go.Proofs.Ytgmbkcjihgphmaa

/- strings out of bytes. -/
set_option linter.unusedVariables false
namespace Go.Proofs.Ytgmbkcjihgphmaa

def strL (l : List UInt8) : ByteArray := ⟨l.toArray⟩
theorem strL_size (l : List UInt8) : (strL l).size = l.length := by simp [strL, ByteArray.size]
theorem strL_list (l : List UInt8) : (strL l).data.toList = l := by simp [strL]
theorem strL_append (l r : List UInt8) : strL l ++ strL r = strL (l ++ r) := by
  apply ByteArray.ext
  simp [strL, ByteArray.data_append]
end Go.Proofs.Ytgmbkcjihgphmaa

/- path.Name: is it a name? (strings.IndexFunc with the program's own test) -/
set_option linter.unusedVariables false
set_option linter.unusedSimpArgs false
namespace Go.Proofs.Ytgmbkcjihgphmaa
open Go.RowKit

/-- the bytes that one rune takes up are all high, where the first is -/
theorem decode_highs (s : ByteArray) (pos : Nat) (h : pos < s.size) (ha : 128 ≤ (s[pos]'h).toNat) : pos + (Utf8.decode s pos).2 ≤ s.size ∧ ∀ k, k < (Utf8.decode s pos).2 → 128 ≤ (s.get! (pos + k)).toNat := by
  have hn : ¬ (s[pos]'h).toNat < 128 := by omega
  have h0 : 128 ≤ (s.get! (pos + 0)).toNat := by rw [get_at s pos h]; exact ha
  have key : ∀ w : Nat, (∀ k, 0 < k → k < w → pos + k < s.size ∧ (s.get! (pos + k)).toNat / 64 = 2) → pos + w ≤ s.size ∧ ∀ k, k < w → 128 ≤ (s.get! (pos + k)).toNat := by
    intro w hw
    refine ⟨?_, fun k hk => ?_⟩
    · rcases Nat.lt_or_ge 1 w with h1 | h1
      · have := (hw (w - 1) (by omega) (by omega)).1; omega
      · omega
    · rcases Nat.eq_zero_or_pos k with rfl | hp
      · exact h0
      · have := (hw k hp hk).2; omega
  simp only [Utf8.decode, get_at s pos h, hn, if_false]
  split
  · rename_i hc
    simp at hc
    split
    · refine key 2 fun k h1 h2 => ?_
      obtain rfl : k = 1 := by omega
      exact ⟨by omega, by omega⟩
    · exact key 1 fun k h1 h2 => by omega
  split
  · rename_i hc
    simp at hc
    split
    · refine key 3 fun k h1 h2 => ?_
      rcases (by omega : k = 1 ∨ k = 2) with rfl | rfl <;> exact ⟨by omega, by omega⟩
    · exact key 1 fun k h1 h2 => by omega
  split
  · rename_i hc
    simp at hc
    split
    · refine key 4 fun k h1 h2 => ?_
      rcases (by omega : k = 1 ∨ k = 2 ∨ k = 3) with rfl | rfl | rfl <;> exact ⟨by omega, by omega⟩
    · exact key 1 fun k h1 h2 => by omega
  · exact key 1 fun k h1 h2 => by omega

theorem get_list (s : ByteArray) (k : Nat) (hk : k < s.size) : (sB s)[k]? = some (s.get! k) := by
  have h1 : s.get! k = s[k]'hk := get_at s k hk
  rw [h1]
  unfold sB
  rw [Array.getElem?_toList, Array.getElem?_eq_getElem (by simpa using hk)]
  rfl

/-- path.bad -/
theorem bad_any (r : Nat) (w : World) (hr : r ≤ 2147483647) : Calls Try.prog 68 #[.int .i32 (r : Int)] w fun e w' => e = .returned (.bool (decide (r < 32 ∨ r = 127 ∨ r = 47))) ∧ w' = w := by
  by_cases h1 : r < 32
  · have a1 : decide ((r : Int) < 32) = true := by simp; omega
    have hd := Lib.hid (show decide (r < 32 ∨ r = 127 ∨ r = 47) = true by simp [h1])
    clear h1
    go_enter Try.func68, Try.ntmps68
    go_wp2_with fail
    go_ret
    exact ⟨by rw [hd.out]; rfl, rfl⟩
  · have a1 : decide ((r : Int) < 32) = false := by simp; omega
    by_cases h2 : r = 127
    · have a2 : ((r : Int) == 127) = true := by simp; omega
      have hd := Lib.hid (show decide (r < 32 ∨ r = 127 ∨ r = 47) = true by simp [h2])
      clear h1 h2
      go_enter Try.func68, Try.ntmps68
      go_wp2_with fail
      go_ret
      exact ⟨by rw [hd.out]; rfl, rfl⟩
    · have a2 : ((r : Int) == 127) = false := by simp; omega
      by_cases h3 : r = 47
      · have a3 : ((r : Int) == 47) = true := by simp; omega
        have hd := Lib.hid (show decide (r < 32 ∨ r = 127 ∨ r = 47) = true by simp [h3])
        clear h1 h2 h3
        go_enter Try.func68, Try.ntmps68
        go_wp2_with fail
        go_ret
        exact ⟨by rw [hd.out]; rfl, rfl⟩
      · have a3 : ((r : Int) == 47) = false := by simp; omega
        have hd := Lib.hid (show decide (r < 32 ∨ r = 127 ∨ r = 47) = false by simp [h1, h2, h3])
        clear h1 h2 h3
        go_enter Try.func68, Try.ntmps68
        go_wp2_with fail
        go_ret
        exact ⟨by rw [hd.out]; rfl, rfl⟩

theorem badB_high {x : UInt8} (h : 128 ≤ x.toNat) : badB x = false := by
  have h1 : ¬ x < 32 := by intro h2; have := UInt8.lt_iff_toNat_lt.1 h2; simp at this; omega
  have h2 : ¬ x = 127 := by rintro rfl; simp at h
  have h3 : ¬ x = 47 := by rintro rfl; simp at h
  simp [badB, h1, h2, h3]
/-- what one rune says of the bytes that it takes up -/
theorem rune_bad (s : ByteArray) (p : Nat) (h : p < s.size) : ∃ c d, Utf8.decode s p = (c, d) ∧ c ≤ 2147483647 ∧ 1 ≤ d ∧ p + d ≤ s.size ∧ decide (c < 32 ∨ c = 127 ∨ c = 47) = badB (s.get! p) ∧ (badB (s.get! p) = false → ∀ k, p ≤ k → k < p + d → badB (s.get! k) = false) := by
  have hg : s.get! p = s[p]'h := get_at s p h
  have hle := decode_le s p
  by_cases ha : (s[p]'h).toNat < 128
  · refine ⟨(s[p]'h).toNat, 1, decode_ascii s p h ha, by omega, Nat.le_refl _, by omega, ?_, fun hb k h1 h2 => ?_⟩
    · rw [hg]
      obtain ⟨x, hx⟩ : ∃ x, x = s[p]'h := ⟨_, rfl⟩
      rw [← hx]
      have e1 : (x < 32) = (x.toNat < 32) := by rw [UInt8.lt_iff_toNat_lt]; rfl
      have e2 : (x = 127) = (x.toNat = 127) := by rw [← UInt8.toNat_inj]; rfl
      have e3 : (x = 47) = (x.toNat = 47) := by rw [← UInt8.toNat_inj]; rfl
      rw [Bool.eq_iff_iff]
      simp [badB, e1, e2, e3, or_assoc]
    · obtain rfl : k = p := by omega
      exact hb
  · obtain ⟨h1, h2⟩ := decode_high s p h (by omega)
    obtain ⟨h3, h4⟩ := decode_highs s p h (by omega)
    have hb : badB (s.get! p) = false := badB_high (by rw [hg]; omega)
    rcases hq : Utf8.decode s p with ⟨c, d⟩
    rw [hq] at h1 h2 h3 h4 hle
    refine ⟨c, d, rfl, hle, h2, h3, ?_, fun _ k k1 k2 => ?_⟩
    · rw [hb]; simp only [] at h1; simp; omega
    · have := h4 (k - p) (by simp only []; omega)
      rw [show p + (k - p) = k from by omega] at this
      exact badB_high this
theorem all_get (s : ByteArray) : ((sB s).all (fun x => !badB x) = true) ↔ ∀ k, k < s.size → badB (s.get! k) = false := by
  rw [List.all_eq_true]
  constructor
  · intro h k hk
    have := h _ (List.mem_of_getElem? (get_list s k hk))
    simpa using this
  · intro h x hx
    obtain ⟨k, hk⟩ := List.mem_iff_getElem?.1 hx
    have hl := (List.getElem?_eq_some_iff.1 hk).1
    have hk2 : k < s.size := by simpa [sB] using hl
    rw [get_list s k hk2] at hk
    injection hk with hk
    rw [← hk, h k hk2]; rfl

theorem iter_below (w : World) (s : ByteArray) (p : Nat) : Below w.heap.size w (w.iter s p) := (Below.refl _ _).alloc (Nat.le_refl _) _

set_option maxRecDepth 100000 in
set_option maxHeartbeats 1000000 in
theorem indexFunc0_any (s : ByteArray) (w : World) (hs : s.size ≤ 1000000000) : Calls Try.prog 74 #[.string s, .func (.func 68) #[] #[], .bool true] w fun e w' =>
    ∃ k : Int, e = .returned (.int .i64 k) ∧ decide (k < 0) = (sB s).all (fun x => !badB x) ∧ Below w.heap.size w w' := by
  go_enter Try.func74, Try.ntmps74
  go_wp2_with fail
  go_loopw [7] (fun s7 wr => ∃ p, p ≤ s.size ∧ wr = w.iter s p ∧ Hid (∀ k, k < p → badB (s.get! k) = false)) (fun _ wr => s.size - wr.iterPos w.heap.size)
  case atStart => exact ⟨0, by omega, rfl, Lib.hid (fun k h => by omega)⟩
  case round =>
    obtain ⟨p, hp, rfl, HP⟩ := hrel
    by_cases hlt : p < s.size
    · obtain ⟨c, d, hcd, hc, hd, hpd, hbad, hnext⟩ := rune_bad s p hlt
      have hnx : ∀ ty, (Instr.next (.pointer (some ⟨w.heap.size, 0, none⟩)) true ty).run Try.prog (w.iter s p) = .ok (.tuple #[.bool true, .int .i64 p, .int .i32 c]) (w.iter s (p + d)) := fun ty => by
        have := run_next_any (P := Try.prog) w s p ty hlt
        rwa [hcd] at this
      have HNX := Lib.hid hnext
      have HBA := Lib.hid hbad
      clear hcd hnext hbad
      go_wp2_with fail
      refine (bad_any c _ hc).mono ?_
      rintro e w2 ⟨rfl, rfl⟩
      rw [HBA.out]
      by_cases hb : badB (s.get! p) = true
      · rw [hb]
        have hall : (sB s).all (fun x => !badB x) = false := by
          rw [← Bool.not_eq_true, all_get]
          intro h
          have := h p hlt
          rw [hb] at this
          cases this
        have HA := Lib.hid hall
        clear hnx hall hb
        go_wp2_with fail
        go_ret
        exact ⟨(p : Int), rfl, by rw [HA.out]; simp, iter_below _ _ _⟩
      · have hb' : badB (s.get! p) = false := by simpa using hb
        rw [hb']
        have HN2 := Lib.hid (HNX.out hb')
        clear hnx hb hb'
        go_wp2_with fail
        go_roundw
        case rel =>
          refine ⟨p + d, hpd, rfl, Lib.hid fun k hk => ?_⟩
          rcases Nat.lt_or_ge k p with h1 | h1
          · exact HP.out k h1
          · exact HN2.out k h1 hk
        case measure => simp; omega
    · have hnx : ∀ ty, (Instr.next (.pointer (some ⟨w.heap.size, 0, none⟩)) true ty).run Try.prog (w.iter s p) = .ok (.tuple #[.bool false]) (w.iter s p) := fun ty => run_next_end (P := Try.prog) w s p ty hlt
      have HA := Lib.hid ((all_get s).2 (fun k hk => HP.out k (by omega)))
      go_wp2_with fail
      go_ret
      exact ⟨-1, rfl, by rw [HA.out]; rfl, iter_below _ _ _⟩

theorem indexFunc_any (s : ByteArray) (w : World) (hs : s.size ≤ 1000000000) : Calls Try.prog 67 #[.string s, .func (.func 68) #[] #[]] w fun e w' =>
    ∃ k : Int, e = .returned (.int .i64 k) ∧ decide (k < 0) = (sB s).all (fun x => !badB x) ∧ Below w.heap.size w w' := by
  go_enter Try.func67, Try.ntmps67
  go_wp2_with fail
  refine (indexFunc0_any s w hs).mono ?_
  rintro e w2 ⟨k, rfl, hk, hb⟩
  have HK := Lib.hid hk
  clear hk
  go_wp2_with fail
  go_ret
  exact ⟨k, rfl, HK.out, hb⟩
end Go.Proofs.Ytgmbkcjihgphmaa

/- path.Name and the document's Name. -/
set_option linter.unusedVariables false
set_option linter.unusedSimpArgs false
namespace Go.Proofs.Ytgmbkcjihgphmaa
open Go.RowKit

/-- the tests on a name's text, as the walk has them -/
theorem name_tests (s : ByteArray) : s.toList.isEmpty = (sB s == []) ∧ (s.toList == [46]) = (sB s == [46]) ∧ (s.toList == [46, 46]) = (sB s == [46, 46]) ∧ (sB s).length = s.size := by
  unfold sB
  rw [ByteArray.toList_eq]
  refine ⟨?_, rfl, rfl, by simp⟩
  cases s.data.toList <;> rfl

set_option maxRecDepth 100000 in
set_option maxHeartbeats 2000000 in
theorem name_any (s : ByteArray) (w : World) (hs : s.size ≤ 1000000000) : Calls Try.prog 53 #[.string s] w fun e w' => e = .returned (.bool (nameG (sB s))) ∧ Below w.heap.size w w' := by
  obtain ⟨t0, t1, t2, t3⟩ := name_tests s
  have k1 : ({ data := #[46] } : ByteArray).toList = [46] := ByteArray.toList_mk [46]
  have k2 : ({ data := #[46, 46] } : ByteArray).toList = [46, 46] := ByteArray.toList_mk [46, 46]
  have HIF := Lib.hid (fun w => indexFunc_any s w hs)
  obtain ⟨G, hG⟩ : ∃ G, G = nameG (sB s) := ⟨_, rfl⟩
  have HG := Lib.hid hG
  rw [← hG]
  by_cases h0 : (sB s == []) = true
  · have hg := Lib.hid (show G = false by rw [hG]; simp [nameG] at h0 ⊢; simp [h0])
    rw [h0] at t0
    clear hG h0 t1 t2 t3
    go_enter Try.func53, Try.ntmps53
    go_wp2_with fail
    go_ret
    exact ⟨by rw [hg.out]; rfl, Below.refl _ _⟩
  have h0' : (sB s == []) = false := by simpa using h0
  rw [h0'] at t0
  by_cases h1 : (sB s == [46]) = true
  · have hg := Lib.hid (show G = false by rw [hG]; simp at h1; simp [nameG, h1])
    rw [h1] at t1
    clear hG h0 h1 t2 t3
    go_enter Try.func53, Try.ntmps53
    go_wp2_with fail
    go_ret
    exact ⟨by rw [hg.out]; rfl, Below.refl _ _⟩
  have h1' : (sB s == [46]) = false := by simpa using h1
  rw [h1'] at t1
  by_cases h2 : (sB s == [46, 46]) = true
  · have hg := Lib.hid (show G = false by rw [hG]; simp at h2; simp [nameG, h2])
    rw [h2] at t2
    clear hG h0 h1 h2 t3
    go_enter Try.func53, Try.ntmps53
    go_wp2_with fail
    go_ret
    exact ⟨by rw [hg.out]; rfl, Below.refl _ _⟩
  have h2' : (sB s == [46, 46]) = false := by simpa using h2
  rw [h2'] at t2
  by_cases h3 : s.size ≤ 64
  · have h3I : (s.size : Int) ≤ 64 := by omega
    have hg := Lib.hid (show G = (sB s).all (fun x => !badB x) by
      rw [hG]; unfold nameG
      rw [show (sB s != []) = true by simp [bne, h0'], show (sB s != [46]) = true by simp [bne, h1'], show (sB s != [46, 46]) = true by simp [bne, h2'], t3]
      simp [h3])
    clear hG h0 h1 h2 h0' h1' h2' t3
    go_enter Try.func53, Try.ntmps53
    go_wp2_with fail
    refine (HIF.out w).mono ?_
    rintro e w2 ⟨k, rfl, hk, hb⟩
    rw [← hg.out] at hk
    have HK := Lib.hid hk
    obtain ⟨D, hD⟩ : ∃ D, D = decide (k < 0) := ⟨_, rfl⟩
    have HD := Lib.hid hD
    have hD' := hD.symm
    clear hk hD
    go_wp2_with fail
    go_ret
    exact ⟨by rw [← HK.out, ← HD.out]; rfl, hb⟩
  · have h3I : ¬ (s.size : Int) ≤ 64 := by omega
    have hg := Lib.hid (show G = false by rw [hG]; unfold nameG; rw [t3]; simp [h3])
    clear hG h0 h1 h2 h0' h1' h2' t3
    go_enter Try.func53, Try.ntmps53
    go_wp2_with fail
    go_ret
    exact ⟨by rw [hg.out]; rfl, Below.refl _ _⟩
end Go.Proofs.Ytgmbkcjihgphmaa
