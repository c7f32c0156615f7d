/- Contracts and laws for what the statement reaches, joined: ObjBuild, ObjGetBlob, ObjCom, AppStr, GrainRefHead. -/
import Derived.Test.YtpafhajpnepecaaJn1
import Derived.Test.YtpafhajpnepecaaJn3
import Derived.Test.YtpafhajpnepecaaJn9
import Derived.Laws.CopyRow
import Derived.Lib.AppendStr
/- object: one id as a slice of one; panics out of a region that draws its order, in a function that recovers. -/
set_option linter.unusedVariables false
set_option linter.unusedSimpArgs false
namespace Go.Proofs.Ytpafhajpnepecaa
open Go.RowKit

theorem fill_get : ∀ (K : List Value) (n off : Nat) (cells : Array Value) (i : Nat), off + n + K.length ≤ cells.size → ((K.zipIdx n).foldl (fun cs (p : Value × Nat) => cs.setIfInBounds (off + p.2) p.1) cells)[i]? = if off + n ≤ i ∧ i < off + n + K.length then K[i - (off + n)]? else cells[i]?
  | [], n, off, cells, i, h => by
    have : ¬ (off + n ≤ i ∧ i < off + n + ([] : List Value).length) := by simp only [List.length_nil]; omega
    rw [if_neg this]
    rfl
  | x :: K, n, off, cells, i, h => by
    rw [List.zipIdx_cons, List.foldl_cons, fill_get K (n + 1) off _ i (by simp at h ⊢; omega)]
    simp at h
    by_cases h1 : off + (n + 1) ≤ i ∧ i < off + (n + 1) + K.length
    · rw [if_pos h1, if_pos (by simp only [List.length_cons]; omega)]
      have : i - (off + n) = (i - (off + (n + 1))) + 1 := by omega
      rw [this, List.getElem?_cons_succ]
    · rw [if_neg h1]
      by_cases h2 : i = off + n
      · subst h2
        rw [if_pos (by simp only [List.length_cons]; omega), Array.getElem?_setIfInBounds_self_of_lt (by omega)]
        try simp
      · rw [if_neg (by simp only [List.length_cons]; omega), Array.getElem?_setIfInBounds_ne (by omega)]
theorem fill_all (K cells : Array Value) (h : K.size = cells.size) : (K.zipIdx.foldl (fun cs (p : Value × Nat) => cs.setIfInBounds (0 + p.2) p.1) cells) = K := by
  have h1 : K.zipIdx.foldl (fun cs (p : Value × Nat) => cs.setIfInBounds (0 + p.2) p.1) cells = (K.toList.zipIdx 0).foldl (fun cs (p : Value × Nat) => cs.setIfInBounds (0 + p.2) p.1) cells := by
    rw [← Array.foldl_toList, Array.toList_zipIdx]
  rw [h1]
  apply Array.ext_getElem?
  intro i
  rw [fill_get K.toList 0 0 cells i (by simp; omega)]
  by_cases hi : i < K.size
  · rw [if_pos (by simp only [Array.length_toList]; omega)]; simp
  · rw [if_neg (by simp only [Array.length_toList]; omega)]
    rw [Array.getElem?_eq_none (by omega), Array.getElem?_eq_none (by omega)]

/-- '[]ID{x}', as an append's last part makes it ('attribute [local go_sem ↓] bsId_eq') -/
noncomputable def bsId (w : World) (v : Value) : Result Value := (Instr.buildSlice 22 1 #[(0, v)]).run Try.prog w
theorem bsId_eq (w : World) (v : Value) : (Instr.buildSlice 22 1 #[(0, v)]).run Try.prog w = bsId w v := rfl
theorem id_sizeOf (w : World) : (sizeOf 27).run Try.prog w = .ok 32 w := by
  have h := oid_info
  cases hq : Try.prog.info? 27 with
  | none => rw [hq] at h; simp at h
  | some i =>
    rw [hq] at h
    have h1 : i.size = 32 := by simpa using h
    simp [sizeOf, typeInfo, hq, h1]
theorem id_zero (w : World) : (zeroValue 27).run Try.prog w = .ok (.agg (bytesV (List.replicate 32 0)).toArray) w := by kernel_rfl
theorem bsId_of (w : World) (K : Array Value) (hK : K.size = 32) : bsId w (.agg K) = .ok (.slice (some ⟨w.heap.size, 0, none⟩) 1 1) (w.alloc (.cells K 27)) := by
  unfold bsId Instr.buildSlice
  have hf : ∀ cells : Array Value, cells.size = 32 → Instr.fill (fun i => some (i * 32, 32)) cells [(0, .agg K)] = some K := by
    intro cells hc
    have hK2 : (Value.agg K).cells = K := rfl
    have h := fill_all K cells (by omega)
    unfold Instr.fill
    simp only [hK2]
    have hc1 : (decide (K.size ≠ 32) || decide (0 * 32 + K.size > cells.size)) = false := by simp [hK, hc]
    simp only [Nat.zero_mul] at hc1 ⊢
    rw [if_neg (by rw [hc1]; decide)]
    unfold Instr.fill
    rw [h]
  simp [run_underlying Try.underlying22, Sem.run_bind, id_sizeOf, id_zero, Value.cells]
  rw [hf _ (by simp)]
  simp [newRow, Sem.run_bind]

/-- the step of a slice of one, in a region that draws its order -/
theorem step_build {P : Program} {Q : Exit → Act → World → Prop} {o : Oper} {a : Act} {w w' : World} {K : Act → World → Prop} {E : Prop} (hgd : o.guard = none) (x : Operand) {t : TypeId}
    (ho : o.op = .buildSlice t 1 #[(0, x)]) {y v' : Value} (hx : a.eval x = y) (hrun : (Instr.buildSlice t 1 #[(0, y)]).run P w = .ok v' w') (h : K (a.put o.dst v') w') :
    ∀ {ops : Array Oper}, if Region.wanted o (yielded ops a.tmps) = true then Oper.wp P o a w K Q else E := by
  intro ops
  have hw : Region.wanted o (yielded ops a.tmps) = true := by simp [Region.wanted, hgd]
  rw [if_pos hw]
  unfold Oper.wp execOp
  simp only [ho, List.map_toArray, List.map_cons, List.map_nil, hx, Sem.run_bind, hrun, Result.andThen_ok, Sem.run_pure]
  exact h

/-! ### panics out of a region, in a function that recovers -/
/-- what a panic's way out must show: the results' slots, the deferred calls, and Pn -/
def Door (Pn : List PanicEntry → World → Prop) (p q : Tmp) (x y : Value) (ds : List Deferred) (Q : Exit → Act → World → Prop) : Exit → Act → World → Prop
  | .panic ch, a, w => a.tmps.getD p undef = x ∧ a.tmps.getD q undef = y ∧ a.defers = ds ∧ Pn ch w
  | e, a, w => Q e a w
theorem wp_door {P : Program} {c : Code} {Q : Exit → Act → World → Prop} {a : Act} {w : World} (Pn : List PanicEntry → World → Prop) (p q : Tmp) (x y : Value) (ds : List Deferred)
    (hq : ∀ ch a w, a.tmps.getD p undef = x → a.tmps.getD q undef = y → a.defers = ds → Pn ch w → Q (.panic ch) a w) (h : Code.wp P c (Door Pn p q x y ds Q) a w) : Code.wp P c Q a w := by
  refine Code.wp_mono (fun e a w he => ?_) h
  cases e with
  | panic ch => exact hq ch a w he.1 he.2.1 he.2.2.1 he.2.2.2
  | _ => exact he
theorem door_normal {Pn : List PanicEntry → World → Prop} {p q : Tmp} {x y : Value} {ds : List Deferred} {Q : Exit → Act → World → Prop} {a : Act} {w : World} (h : Q .normal a w) : Door Pn p q x y ds Q .normal a w := h
theorem door_put {Pn : List PanicEntry → World → Prop} {p q : Tmp} {x y : Value} {ds : List Deferred} {Q : Exit → Act → World → Prop} {dst : Option Tmp} {v : Value} {c : List PanicEntry} {a : Act} {w : World} (h1 : dst ≠ some p) (h2 : dst ≠ some q)
    (h : Door Pn p q x y ds Q (.panic c) (a.put dst v) w) : Door Pn p q x y ds Q (.panic c) a w := by
  cases dst with
  | none => exact h
  | some t =>
    obtain ⟨a1, a2, a3, a4⟩ := h
    have hne : ∀ r : Tmp, some t ≠ some r → (a.put (some t) v).tmps.getD r undef = a.tmps.getD r undef := fun r hr => by
      have hr : t ≠ r := fun e => hr (by rw [e])
      simp [Act.put, Array.getElem?_setIfInBounds_ne hr]
    exact ⟨(hne p h1).symm.trans a1, (hne q h2).symm.trans a2, a3, a4⟩
end Go.Proofs.Ytpafhajpnepecaa

/- object.GetBlob: the walk. -/
set_option linter.unusedVariables false
namespace Go.Proofs.Ytpafhajpnepecaa
open Go.RowKit
attribute [local go_sem ↓] bsId_eq

theorem blobEnd_err {is : List (List UInt8)} {v : Val} {z : Int} (h : blobEnd is v = .error z) : z ≠ 0 := by
  unfold blobEnd at h
  split at h
  · injection h with h; omega
  · split at h
    · injection h with h; omega
    · cases h
theorem nthV_at {us : List Val} {k : Nat} (hk : k < us.length) : us[k]? = some (nthV us k) := by
  unfold nthV
  rw [List.getD_eq_getElem?_getD, List.getElem?_eq_getElem hk]; rfl
theorem listG_len {v : Val} {m : Nat} {us : List Val} (h : listG v m = .ok us) : us.length ≤ m := by
  unfold listG at h
  split at h
  · cases h
  · split at h
    · cases h
    · injection h with h; subst h; omega

/-- a value's kind and number in memory -/
theorem val_two {w : World} {av : Av} {b o : Nat} {cs : List Value} {v : Val} (hv : valR.R w av cs v) (hat : At w ⟨b, o, none⟩ cs.toArray) : w.cell? ⟨b, o, none⟩ = some (.int .i64 v.kind) ∧ w.cell? ⟨b, o + 1, none⟩ = some (.int .u64 (v.num : Int)) ∧ w.cell? ⟨b, o + 3, none⟩ = some (.float .f64 v.flt) := by
  obtain ⟨k, u, bs, f, l⟩ := v
  obtain ⟨A, cA, M, cM, rfl, _⟩ := valR_iff.1 hv
  exact ⟨hat 0 _ rfl, hat 1 _ rfl, hat 3 _ rfl⟩

/-- GetBlob's variables ahead of the loop -/
structure BV (w w2 : World) (g : Nat) : Prop where
  below : Below g w w2
  x : Blk w2 g 24 zBlob
  e : Blk w2 (g + 1) 33 #[.int .i64 0]
theorem BV.go {w w2 w3 : World} {g : Nat} (h : BV w w2 g) (hb : Below w2.heap.size w2 w3) : BV w w3 g :=
  ⟨h.below.trans (hb.mono (Nat.le_of_lt h.x.lt)), h.x.below hb h.x.lt, h.e.below hb h.e.lt⟩

set_option maxRecDepth 100000 in
set_option maxHeartbeats 4000000 in
theorem getBlob_any (A : Option Addr) (n c : Nat) (l : List UInt8) (w : World) (hs : Sl w 1 A n (bytesV l)) (hnc : n ≤ c) (hcm : c ≤ maxLen) :
    Calls Try.prog 20 #[.slice A n c] w (BlobPost w (getBlob l)) := by
  have hmf : ∀ (fn : Fn) (first cap : Array Value) (w : World), (Instr.makeFunc fn first cap).run Try.prog w = .ok (.func fn first cap) w := fun _ _ _ _ => rfl
  obtain ⟨w1, hw1⟩ : ∃ w1, w1 = (w.alloc (.cells zBlob 24)).alloc (.cells #[.int .i64 0] 33) := ⟨_, rfl⟩
  have hb1 : Below w.heap.size w w1 := by rw [hw1]; exact ((Below.refl _ _).alloc (Nat.le_refl _) _).alloc (by simp) _
  have HV1 := Lib.hid (show BV w w1 w.heap.size from ⟨hb1, by rw [hw1]; exact (Blk.new w _ _).alloc _, by rw [hw1]; have := Blk.new (w.alloc (.cells zBlob 24)) 33 #[.int .i64 0]; simpa using this⟩)
  have HSZ := Lib.hid (show w1.heap.size = w.heap.size + 2 by rw [hw1]; simp)
  have HOP := Lib.hid (open_get A n c l 2 2 w1 (hs.below hb1) hnc hcm (by omega) (by omega) (by omega))
  obtain ⟨R, hR⟩ : ∃ R, R = getBlob l := ⟨_, rfl⟩
  obtain ⟨D, hD⟩ : ∃ D, D = openG l 2 2 := ⟨_, rfl⟩
  have HR := Lib.hid (show R = bindR D fun vs => bindR (idsG (nthV vs 0) 4096) fun is => blobEnd is (nthV vs 1) by rw [hR, hD]; rfl)
  have HDL := Lib.hid hD
  rw [← hR]
  rw [← hD] at HOP
  clear hs hnc hcm hb1 hR hD
  go_enter_defers Try.func20, Try.ntmps20
  go_upto_region 3 with fail
  change Code.wp _ _ _ _ ((w.alloc (.cells zBlob 24)).alloc (.cells #[.int .i64 0] 33))
  rw [← hw1]
  clear hw1
  generalize hg : w.heap.size = g at *
  have HG := Lib.hid hg
  clear hg
  go_wp2_with fail
  refine HOP.out.mono ?_
  intro e w2 hp
  obtain ⟨hb2, hp⟩ := hp
  have HV2 := Lib.hid (HV1.out.go hb2)
  cases D with
  | error z =>
    obtain rfl : e = _ := hp
    have hr := HR.out
    rw [hr]
    refine blob_door (openG_err HDL.out.symm) HG.out HV2.out.below HV2.out.x rfl HV2.out.e ?_ ?_ <;> rfl
  | ok vs =>
    obtain ⟨L, cL, rfl, hl1, hl2, hsl⟩ := hp
    have hlen := openG_len HDL.out.symm
    rw [hlen] at hl1 ⊢
    obtain ⟨bL, oL, cs, rfl, hbL, hv, hat⟩ := val_at hsl hlen (i := 0) (by omega)
    have HRR := Lib.hid (show R = bindR (idsG (nthV vs 0) 4096) fun is => blobEnd is (nthV vs 1) from HR.out)
    have HSV := Lib.hid hsl
    have HVL := Lib.hid hlen
    have hk5 : cs.length = 5 := valR.len hv
    obtain ⟨KV, hKV⟩ : ∃ KV, KV = cs.toArray := ⟨_, rfl⟩
    have HI := Lib.hid (show (Try.prog.info? 84).map (·.size) = some KV.size by rw [hKV, show cs.toArray.size = 5 from by simpa using hk5]; exact val_info)
    have HAT := Lib.hid (show At w2 ⟨bL, oL, none⟩ KV by rw [hKV]; simpa using hat)
    have HT := Lib.hid (list_get cs (nthV vs 0) 4096 w2 _ hv (by omega))
    rw [← hKV] at HT
    obtain ⟨T, hT⟩ : ∃ T, T = listG (nthV vs 0) 4096 := ⟨_, rfl⟩
    have HTT := Lib.hid hT
    have HR3 := Lib.hid (show R = bindR (bindR T (eachG idG)) fun is => blobEnd is (nthV vs 1) by rw [HRR.out, hT]; rfl)
    rw [← hT] at HT
    clear hlen hsl hv hat hk5 hKV HR HDL HOP hT HRR HV1
    go_wp2_with (first | (refine wpList_load_at rfl _ _ rfl bL oL rfl KV _ HAT.out Try.underlying84 rfl HI.out ?_) | fail)
    refine HT.out.mono ?_
    intro e w3 hp
    obtain ⟨hb3, hp⟩ := hp
    have HV3 := Lib.hid (HV2.out.go hb3)
    have HSV3 := Lib.hid (HSV.out.below hb3)
    cases T with
    | error z =>
      obtain rfl : e = _ := hp
      have hr := HR3.out
      rw [hr]
      refine blob_door (listG_err HTT.out.symm) HG.out HV3.out.below HV3.out.x rfl HV3.out.e ?_ ?_ <;> rfl
    | ok us =>
      obtain ⟨M, cM, rfl, hm1, hm2, hum⟩ := hp
      have HUM := Lib.hid hum
      have hul := listG_len HTT.out.symm
      obtain ⟨nu, hnu⟩ : ∃ nu, nu = us.length := ⟨_, rfl⟩
      rw [← hnu] at hm1 hul ⊢
      have HNU := Lib.hid hnu.symm
      obtain ⟨RR, hRR⟩ : ∃ RR, RR = eachG idG us := ⟨_, rfl⟩
      have HRR := Lib.hid (show conE [] (eachG idG (us.drop 0)) = RR by rw [conE_nil, List.drop_zero, hRR])
      have HR4 := Lib.hid (show R = bindR RR fun is => blobEnd is (nthV vs 1) by rw [HR3.out, hRR]; rfl)
      have HIL := Lib.hid (IL.start HV3.out.x.lt)
      have hsz3 : g + 2 ≤ w3.heap.size := by have := HSZ.out; have := hb2.size; have := hb3.size; omega
      have hbw : Below w3.heap.size w3 w3 := Below.refl _ _
      clear hum hnu hRR HR3 HTT HT hb2 hb3 HV2 HSV HAT HI
      go_wp2_with fail
      go_loopw [15] (fun s15 wr => ∃ (k : Nat) (A' : Option Addr) (c' : Nat) (is : List (List UInt8)), k ≤ nu ∧ s15 = .int .i64 (k : Int) ∧ Hid (conE is (eachG idG (us.drop k)) = RR) ∧ Hid (IL w3 wr g A' k c' is) ∧ Hid (Blk wr g 24 #[.slice A' k c', .int .i64 0])) (fun s15 wr => nu - (intOf s15).toNat)
      case atStart => exact ⟨0, none, 0, [], by omega, rfl, HRR, HIL, Lib.hid HV3.out.x⟩
      case round =>
        obtain ⟨k, A', c', is, hk, rfl, HC, HL, HX⟩ := hrel
        have hE : Blk wr (g + 1) 33 #[.int .i64 0] := HV3.out.e.grown HL.out.grown (fun e => by have := Option.some.inj e; omega)
        have hBW : Below g w wr := HV3.out.below.trans ⟨HL.out.grown.os, HL.out.grown.tape, HL.out.grown.output, HL.out.grown.size, fun b hb => HL.out.grown.block b (by have := HL.out.lt; omega) (fun e => by have := Option.some.inj e; omega)⟩
        have HE := Lib.hid hE
        have HBW := Lib.hid hBW
        clear hE hBW
        by_cases hlt : k < nu
        · have hltI : (k : Int) < (nu : Int) := by omega
          obtain ⟨bM, oM, cs, rfl, hbM, hv, hat⟩ := val_at (HUM.out.stable (Moves.grown HL.out.grown (show g < w1.heap.size by have := HSZ.out; omega))) HNU.out hlt
          have hvk := nthV_at (us := us) (k := k) (by rw [HNU.out]; exact hlt)
          obtain ⟨KV, hKV, HK, HKV, HI, HO, HS5, HN⟩ := keepNewA wr hv
          have HAT := Lib.hid (show At wr ⟨bM, oM + k * 5, none⟩ KV by rw [hKV]; exact hat)
          have HX6 := Lib.hid (HX.out.alloc (.cells KV 84))
          have HL6 := Lib.hid (HL.out.below ((Below.refl _ _).alloc (Nat.le_refl _) (.cells KV 84)))
          have HE6 := Lib.hid (HE.out.alloc (.cells KV 84))
          have HB6 := Lib.hid (HBW.out.alloc (Nat.le_of_lt (by have := HE.out.lt; omega)) (.cells KV 84))
          have HVK := Lib.hid hvk
          have HOL := Lib.hid (fun b (hb : (Value.slice A' k c').ownBlock = some b) => (HL.out.row.lt hb).2)
          have HID := Lib.hid (id_get KV.toList (nthV us k) ((wr.alloc (.cells KV 84)).drew) (valR.stable HKV.out ((Moves.forget _ _).trans (Moves.of_below (Same.below ⟨1, rfl⟩ _)))))
          have HID := Lib.hid (by have := HID.out; rwa [Array.toArray_toList] at this : Calls Try.prog 60 #[.agg KV] ((wr.alloc (.cells KV 84)).drew) (IdPost ((wr.alloc (.cells KV 84)).drew) (idG (nthV us k))))
          clear hv hat hvk hKV HKV
          go_upto_region 7 with (first
            | (refine wpList_load_at rfl _ _ rfl bM (oM + k * 5) rfl KV _ HAT.out Try.underlying84 rfl HI.out ?_)
            | (refine wpList_store_row rfl _ _ _ rfl wr.heap.size KV rfl rfl 84 _ HN.out HI.out HS5.out HO.out ?_) | fail)
          rw [World.setRow_alloc_new]
          clear HN HS5 HO HAT HX HL HE HBW
          generalize wr.alloc (.cells KV 84) = w6 at *
          generalize wr.heap.size = gc at *
          have hdr : Below w6.heap.size w6 w6.drew := Same.below ⟨1, rfl⟩ _
          have hg6 : g < w6.heap.size := HX6.out.lt
          have hgc6 : gc < w6.heap.size := HK.out.lt
          have hcx : w6.cell? ⟨g, 0, none⟩ = some (.slice A' k c') := HX6.out.cell 0
          have hs0 : w6.drew.cell? ⟨g, 0, none⟩ = some (.slice A' k c') ∧ Blk w6.drew gc 84 KV := ⟨(hdr.cell (p := ⟨g, 0, none⟩) hg6).trans hcx, HK.out.below hdr hgc6⟩
          refine wp_door (fun ch w' => ∃ z, ch = flawE z ∧ z ≠ 0 ∧ R = .error z ∧ Below g w w' ∧ (∃ K : Array Value, K.size = 2 ∧ Blk w' g 24 K) ∧ Blk w' (g + 1) 33 #[.int .i64 0]) 2 3 (.pointer (some ⟨g, 0, none⟩)) (.pointer (some ⟨g + 1, 0, none⟩))
            [{ target := .fn (.func 44) #[], args := #[.pointer (some ⟨g + 1, 0, none⟩)] }, { target := .fn (.func 58) #[.pointer (some ⟨g + 1, 0, none⟩), .pointer (some ⟨g, 0, none⟩)], args := #[] }] (fun ch a w' h1 h2 h3 hp => ?_) ?_
          · obtain ⟨z, rfl, hz, hRz, hB, ⟨K, hK, hx⟩, he⟩ := hp
            have key := blob_door (w := w) (z := z) hz HG.out hB hx hK he h1 h2
            rw [← h3, ← hRz] at key
            exact key
          refine wp_region_late (S := fun w => w.cell? ⟨g, 0, none⟩ = some (.slice A' k c') ∧ Blk w gc 84 KV) (s := 7) (by kernel_rfl) ?_
          refine late_pure (i := 0) (v := ?_) (a' := ?_) rfl (by kernel_rfl) (by kernel_rfl) (by kernel_rfl) (by rfl) (fun _ _ _ h => door_put (by decide) (by decide) h) (by rfl) (fun _ => hs0) ?_ ?_ ?_
          rotate_left 2
          · (intro w; go_simp; try with_reducible rfl)
          · (go_simp; try with_reducible rfl)
          refine late_load (i := 1) (m := 1) (v := ?_) (a' := ?_) rfl (by kernel_rfl) (by kernel_rfl) (by kernel_rfl) (by kernel_rfl) (by rfl) (fun _ _ _ h => door_put (by decide) (by decide) h) (by rfl) hs0 ?_ ?_ ?_
          rotate_left 2
          · (intro w hS; have t := hS.1; go_simp; try with_reducible rfl)
          · (go_simp; try with_reducible rfl)
          refine late_load (i := 2) (m := 2) (v := ?_) (a' := ?_) rfl (by kernel_rfl) (by kernel_rfl) (by kernel_rfl) (by kernel_rfl) (by rfl) (fun _ _ _ h => door_put (by decide) (by decide) h) (by rfl) hs0 ?_ ?_ ?_
          rotate_left 2
          · (intro w hS; refine exec_load_at 84 (.tmp 6) ?_ gc 0 ?_ KV _ (At.of_row hS.2) Try.underlying84 rfl HI.out; exact rfl; exact rfl)
          · (go_simp; try with_reducible rfl)
          refine late_one (i := 3) (by kernel_rfl) rfl (fun KR hKR => ?_)
          go_simp
          refine HID.out.mono ?_
          intro e w7 hp
          obtain ⟨hb7, hp⟩ := hp
          have hb67 := hdr.trans (hb7.mono hdr.size)
          have HL7 := Lib.hid (HL6.out.below hb67)
          have HX7 := Lib.hid (HX6.out.below hb67 hg6)
          have HK7 := Lib.hid (HK.out.below hb67 hgc6)
          have HE7 := Lib.hid (HE6.out.below hb67 HE6.out.lt)
          have HB7 := Lib.hid (HB6.out.trans (hb67.mono (Nat.le_of_lt hg6)))
          have hs7 : w7.cell? ⟨g, 0, none⟩ = some (.slice A' k c') ∧ Blk w7 gc 84 KV := ⟨HX7.out.cell 0, HK7.out⟩
          rcases hid : idG (nthV us k) with z | b
          · rw [hid] at hp
            obtain rfl : e = _ := hp
            have hrr : R = .error z := by rw [HR4.out, ← HC.out, conE_err is HVK.out hid]; rfl
            exact ⟨rfl, rfl, rfl, z, rfl, idG_err hid, hrr, HB7.out, ⟨_, rfl, HX7.out⟩, HE7.out⟩
          rw [hid] at hp
          obtain ⟨rfl, hb32⟩ := hp
          have HC2 := Lib.hid (show conE (is ++ [b]) (eachG idG (us.drop (k + 1))) = RR by rw [← conE_step is HVK.out hid]; exact HC.out)
          obtain ⟨A9, c9, w9, run9, HL9, hg9, hob9⟩ := HL7.out.push hb32 (by omega) 1
          obtain ⟨KB, hKB⟩ : ∃ KB, KB = (bytesV b).toArray := ⟨_, rfl⟩
          have hKs : KB.size = 32 := by rw [hKB]; simp [bytesV, hb32]
          rw [← hKB] at run9 ⊢
          have hbs := fun w => bsId_of w KB hKs
          have HKS := Lib.hid hKs
          clear hKs hKB
          have hal : Below w7.heap.size w7 (w7.alloc (.cells KB 27)) := (Below.refl _ _).alloc (Nat.le_refl _) _
          have hs8 : (w7.alloc (.cells KB 27)).cell? ⟨g, 0, none⟩ = some (.slice A' k c') ∧ Blk (w7.alloc (.cells KB 27)) gc 84 KV := ⟨(HX7.out.alloc _).cell 0, HK7.out.alloc _⟩
          have hgo9 : ∀ b, (Value.slice A' k c').ownBlock = some b → w3.heap.size ≤ b := hob9
          have HX9 := Lib.hid (HX7.out.grown hg9 (fun e => by have := hob9 g e.symm; have := HL6.out.lt; omega))
          have HK9 : w9.cell? ⟨g, 0, none⟩ = some (.slice A' k c') ∧ Blk w9 gc 84 KV := ⟨HX9.out.cell 0, HK7.out.grown hg9 (fun e => by have := HOL.out gc e.symm; omega)⟩
          refine hKR _ _ (fun _ => hs7) ?_
          clear hKR KR
          refine late_one (i := 4) (by kernel_rfl) rfl (fun KR hKR => ?_)
          refine step_build (by rfl) (.tmp 22) (by rfl) (by rfl) (hbs _) ?_
          refine hKR _ _ (fun _ => hs8) ?_
          clear hKR KR
          refine late_one (i := 5) (by kernel_rfl) rfl (fun KR hKR => ?_)
          refine step_run_append (by rfl) (.tmp 20) (.tmp 23) (by rfl) (by rfl) (by rfl) run9 ?_
          have hfz := HX9.out.frozen 0
          have hcz : w9.cell? ⟨g, 0, none⟩ = some (.slice A' k c') := HX9.out.cell 0
          have HL10 := Lib.hid (HL9.set (off := 0) (.slice A9 (k + 1) c9))
          have HX10 : Hid (Blk (w9.setCell ⟨g, 0, none⟩ (.slice A9 (k + 1) c9)) g 24 #[.slice A9 (k + 1) c9, .int .i64 0]) := Lib.hid (HX9.out.set_ 0 _)
          refine hKR _ _ (fun _ => HK9) ?_
          clear hKR KR
          refine late_pure (i := 6) (v := ?_) (a' := ?_) rfl (by kernel_rfl) (by kernel_rfl) (by kernel_rfl) (by rfl) (fun _ _ _ h => door_put (by decide) (by decide) h) (by rfl) (fun _ => HK9) ?_ ?_ ?_
          rotate_left 2
          · (intro w; go_simp; try with_reducible rfl)
          · (go_simp; try with_reducible rfl)
          refine late_one (i := 7) (by kernel_rfl) rfl (fun KR hKR => ?_)
          go_simp
          skip
          refine hKR _ _ (fun h0 => Bool.noConfusion (show (true : Bool) = false from h0)) ?_
          clear hKR KR
          refine late_done' (by kernel_rfl) ?_ _
          clear run9 hbs HID HC HL6 HX6 HE6 HB6 HL7 HX7 HK7 HE7 HB7 HX9 HL9 hs8 HK9 hs7 hs0 hcx
          refine door_normal ?_
          go_wp2_with fail
          go_roundw
          case rel => exact ⟨k + 1, A9, c9, is ++ [b], by omega, by go_num, HC2, HL10, HX10⟩
          case measure => simp [intOf]; omega
        · have hltI : ¬ (k : Int) < (nu : Int) := by omega
          obtain rfl : k = nu := by omega
          have hrr : RR = .ok is := by rw [← HC.out]; exact conE_end is (by rw [HNU.out]; exact Nat.le_refl _)
          have HR5 := Lib.hid (show R = blobEnd is (nthV vs 1) by rw [HR4.out, hrr]; rfl)
          obtain ⟨bq, oq, cs, e0, hbq, hv, hat⟩ := val_at (HSV3.out.stable (Moves.grown HL.out.grown (show g < w1.heap.size by have := HSZ.out; omega))) HVL.out (i := 1) (by omega)
          have e0 := Option.some.inj e0
          injection e0 with e1 e2
          subst e1 e2
          obtain ⟨p0, p1, p3⟩ := val_two hv hat
          obtain ⟨kq, hkq⟩ : ∃ kq, kq = (nthV vs 1).kind := ⟨_, rfl⟩
          obtain ⟨uq, huq⟩ : ∃ uq, uq = (nthV vs 1).num := ⟨_, rfl⟩
          have HR6 := Lib.hid (show R = if kq ≠ 0 then .error 91 else if 262144 < uq then .error 2 else .ok (is, (uq : Int)) by rw [HR5.out, hkq, huq]; rfl)
          have q0 : wr.cell? ⟨bL, oL + 5, none⟩ = some (.int .i64 kq) := by rw [hkq]; exact p0
          have q1 : wr.cell? ⟨bL, oL + 6, none⟩ = some (.int .u64 (uq : Int)) := by rw [huq]; exact p1
          clear hv hat hkq huq e0 HR5 hrr p0 p1 p3
          by_cases hk0 : kq = 0
          · have e1 : (kq == 0) = true := by simp [hk0]
            by_cases hu : uq ≤ 262144
            · have hr : R = .ok (is, (uq : Int)) := by rw [HR6.out, if_neg (by simp [hk0]), if_neg (by omega)]
              have HRR := Lib.hid hr
              have huI : (uq : Int) ≤ 262144 := by omega
              have huw : IntKind.i64.wrap (uq : Int) = (uq : Int) := IntWalk.i64_in _ (by omega)
              have hfz := HX.out.frozen 1
              have hcz : wr.cell? ⟨g, 1, none⟩ = some (.int .i64 0) := HX.out.cell 1
              clear hr hk0 hu
              go_wp2_with fail
              refine (need_yes 91 _).mono ?_
              rintro e w' ⟨rfl, rfl⟩
              go_wp2_with fail
              refine (need_yes 2 _).mono ?_
              rintro e w' ⟨rfl, rfl⟩
              obtain ⟨KX, hKX⟩ : ∃ KX : Array Value, KX = #[.slice A' k c', .int .i64 (uq : Int)] := ⟨_, rfl⟩
              have HX1 : Hid (Blk (w'.setCell ⟨g, 1, none⟩ (.int .i64 (uq : Int))) g 24 KX) := Lib.hid (by rw [hKX]; exact HX.out.set_ 1 _)
              have HE1 : Hid (Blk (w'.setCell ⟨g, 1, none⟩ (.int .i64 (uq : Int))) (g + 1) 33 #[.int .i64 0]) := Lib.hid (HE.out.other (by omega) 1 _)
              have HL1 := Lib.hid (HL.out.set (off := 1) (.int .i64 (uq : Int)))
              have HB1 : Hid (Below g w (w'.setCell ⟨g, 1, none⟩ (.int .i64 (uq : Int)))) := Lib.hid (HBW.out.setCell (p := ⟨g, 1, none⟩) (Nat.le_refl g) _)
              have HIX := Lib.hid (show (Try.prog.info? 24).map (·.size) = some KX.size by rw [hKX]; exact blob_info)
              have HOX := Lib.hid (show KX.all (·.oneCell') = true by rw [hKX]; simp [Value.oneCell'])
              have HKX := Lib.hid hKX
              clear hKX HX HE HL HBW
              go_upto_region 12 with fail
              generalize w'.setCell ⟨g, 1, none⟩ (.int .i64 (uq : Int)) = w4 at *
              have HX2 := Lib.hid (show Blk (w4.setRow g KX) g 24 KX from setRow_heap w4 g _ KX _ _ HX1.out)
              have HE2 := Lib.hid (HE1.out.grown (grown_row w4 g KX) (fun e => by have := Option.some.inj e; omega))
              have HL2 := Lib.hid (HL1.out.set_row KX)
              have HB2 := Lib.hid (below_setRow HB1.out (Nat.le_refl g) KX)
              have hfz := HE2.out.frozen 0
              have hcz : (w4.setRow g KX).cell? ⟨g + 1, 0, none⟩ = some (.int .i64 0) := HE2.out.cell 0
              clear HB1 HL1 HE1
              go_wp2_with (first
                | (refine wpList_load_row rfl 24 (.tmp 2) rfl g rfl 24 KX (0, 0) _ HX1.out Try.underlying24 rfl HIX.out ?_)
                | (refine wpList_store_row rfl _ _ _ rfl g KX rfl rfl 24 _ HX1.out HIX.out rfl HOX.out ?_) | fail)
              generalize w4.setRow g KX = w5 at *
              have HX3 := HX2.out.other (g' := g + 1) (by omega) 0 (.int .i64 0)
              have HE3 := HE2.out.set_ 0 (.int .i64 0)
              have HB3 := HB2.out.setCell (p := ⟨g + 1, 0, none⟩) (by show g ≤ g + 1; omega) (.int .i64 0)
              have HG3 : w5.grownBy (w5.setCell ⟨g + 1, 0, none⟩ (.int .i64 0)) (some (g + 1)) := grown_set _ _ _ _
              obtain ⟨HS3, hmi, hmc, hcm⟩ := HL2.out.sl (B := g + 2) hsz3
              have HS4 : SlOf oidR (w5.setCell ⟨g + 1, 0, none⟩ (.int .i64 0)) (fun b => b < g + 2) A' is := HS3.stable (Moves.grown HG3 (by show g + 1 < g + 2; omega))
              generalize w5.setCell ⟨g + 1, 0, none⟩ (.int .i64 0) = W at *
              refine leaves_cons (f := 44) (args := #[.pointer (some ⟨g + 1, 0, none⟩)]) (by simp) (by simp [go_sem]) ?_
              refine (ocaught_idle _ _).mono ?_
              rintro e u' w7 ⟨rfl, rfl, rfl⟩
              have V3 := HX3.alloc (.cells #[.int .i64 0] 125)
              have E3 := HE3.alloc (.cells #[.int .i64 0] 125)
              refine leaves_cons (f := 58) (args := #[.pointer (some ⟨g + 1, 0, none⟩), .pointer (some ⟨g, 0, none⟩)]) (by simp [settle]) (by simp [go_sem]) ?_
              refine (blobD_ok _ _ _ _ (E3.cell 0)).mono ?_
              rintro e u' w8 ⟨rfl, rfl, rfl⟩
              refine ⟨_, results_row_err rfl _ _ g (g + 1) _ KX 0 rfl rfl V3 (E3.cell 0) Try.underlying24 rfl HIX.out, ?_⟩
              unfold BlobPost
              rw [HG.out, HRR.out]
              have hgW : g ≤ W.heap.size := by have := HX3.lt; omega
              refine ⟨HB3.alloc hgW _, A', c', by rw [HKX.out, hmi], HS4.stable ((Moves.of_below ((Below.refl _ _).alloc (Nat.le_refl _) _)).trans (Moves.less _ (fun b _ e => by show b < g + 2; omega))), by rw [← hmi]; exact hmc, hcm⟩
            · have HRR := Lib.hid (show R = .error 2 by rw [HR6.out, if_neg (by simp [hk0]), if_pos (by omega)])
              have huI : decide ((uq : Int) ≤ 262144) = false := by simp; omega
              clear hk0 hu
              go_wp2_with fail
              refine (need_yes 91 _).mono ?_
              rintro e w' ⟨rfl, rfl⟩
              go_wp2_with fail
              refine (need_no 2 _).mono ?_
              rintro e w' ⟨rfl, rfl⟩
              rw [HRR.out]
              refine blob_door (by decide) HG.out HBW.out HX.out rfl HE.out ?_ ?_ <;> rfl
          · have e1 : (kq == 0) = false := by simp [hk0]
            have HRR := Lib.hid (show R = .error 91 by rw [HR6.out, if_pos hk0])
            clear hk0
            go_wp2_with fail
            refine (need_no 91 _).mono ?_
            rintro e w' ⟨rfl, rfl⟩
            rw [HRR.out]
            refine blob_door (by decide) HG.out HBW.out HX.out rfl HE.out ?_ ?_ <;> rfl
end Go.Proofs.Ytpafhajpnepecaa

/- object.GetCommit: its row, its deferred function, its door. -/
set_option linter.unusedVariables false
set_option linter.unusedSimpArgs false
namespace Go.Proofs.Ytpafhajpnepecaa
open Go.RowKit

/-- a part of a row stored -/
theorem wpList_store_part {P : Program} {ops : Array Oper} {rest : List Oper} {o : Oper} {a : Act} {w : World} {Q : Exit → Act → World → Prop} (hgd : o.guard = none) (ty : TypeId) (x y : Operand) (ho : o.op = .store ty x y)
    (g off : Nat) (cells : Array Value) (hx : a.eval x = .pointer (some ⟨g, off, none⟩)) (hy : a.eval y = .agg cells) (t : TypeId) (cur : Array Value) (hg : w.heap[g]? = some (.cells cur t (0, 0)))
    (hi : (P.info? ty).map (·.size) = some cells.size) (hl : off + cells.size ≤ cur.size) (h1 : cells.all (·.oneCell') = true)
    (h : wpList P ops Q rest (a.put o.dst undef) (w.setRow g (cur.toList.take off ++ cells.toList ++ cur.toList.drop (off + cells.size)).toArray)) : wpList P ops Q (o :: rest) a w := by
  have hr := run_storeCells_at (P := P) g off t cells.toList 0 cur w hg (by simpa using hl) (fun v hv => (Array.all_eq_true_iff_forall_mem.1 h1) v (by simpa using hv))
  have hs : (storeVar ty ⟨g, off, none⟩ (.agg cells)).run P w = .ok () (w.setRow g (cur.toList.take off ++ cells.toList ++ cur.toList.drop (off + cells.size)).toArray) := by
    cases hq : P.info? ty with
    | none => simp [hq] at hi
    | some i =>
      have hs : cells.size = i.size := by simp [hq] at hi; omega
      simp only [Nat.add_zero, Array.length_toList] at hr
      simp [storeVar, sizeOf, typeInfo, hq, Value.cells, hs]
      simpa [hs] using hr
  refine wpList_plain hgd fun _ hK => ?_
  unfold Oper.wp execOp
  simp only [ho, hx, hy, Instr.storeAt, Instr.sureAddr, Sem.run_bind, Sem.run_pure, Result.andThen_ok, hs]
  exact hK _ _ h

theorem set_parts (cur : Array Value) (i : Nat) (v : Value) (h : i < cur.size) : (cur.toList.take i ++ [v] ++ cur.toList.drop (i + 1)).toArray = cur.setIfInBounds i v := by
  apply Array.ext'
  rw [Array.toList_setIfInBounds, List.set_eq_take_append_cons_drop, if_pos (by simpa using h)]
  simp
/-- a number with a point stored (go_simp has no such rule) -/
theorem wpList_store_flt {P : Program} {ops : Array Oper} {rest : List Oper} {o : Oper} {a : Act} {w : World} {Q : Exit → Act → World → Prop} (hgd : o.guard = none) (ty : TypeId) (x y : Operand) (ho : o.op = .store ty x y)
    (g i f : Nat) (hx : a.eval x = .pointer (some ⟨g, i, none⟩)) (hy : a.eval y = .float .f64 f) (t : TypeId) (cur : Array Value) (hg : w.heap[g]? = some (.cells cur t (0, 0)))
    (hi : (P.info? ty).map (·.size) = some 1) (hl : i < cur.size)
    (h : wpList P ops Q rest (a.put o.dst undef) (w.setCell ⟨g, i, none⟩ (.float .f64 f))) : wpList P ops Q (o :: rest) a w := by
  have hr := run_storeCells_at (P := P) g i t [.float .f64 f] 0 cur w hg (by simp; omega) (fun v hv => by simp at hv; subst hv; rfl)
  have he : w.setCell ⟨g, i, none⟩ (.float .f64 f) = w.setRow g (cur.toList.take i ++ [Value.float .f64 f] ++ cur.toList.drop (i + 1)).toArray := by
    rw [set_parts cur i _ hl, setCell_eq_setRow w g i cur t (0, 0) _ hg]
  have hs : (storeVar ty ⟨g, i, none⟩ (.float .f64 f)).run P w = .ok () (w.setCell ⟨g, i, none⟩ (.float .f64 f)) := by
    rw [he]
    cases hq : P.info? ty with
    | none => simp [hq] at hi
    | some j =>
      have hs : j.size = 1 := by simpa [hq] using hi
      simp only [Nat.add_zero, List.length_cons, List.length_nil, Nat.zero_add] at hr
      simp [storeVar, sizeOf, typeInfo, hq, Value.cells, hs]
      simpa using hr
  refine wpList_plain hgd fun _ hK => ?_
  unfold Oper.wp execOp
  simp only [ho, hx, hy, Instr.storeAt, Instr.sureAddr, Sem.run_bind, Sem.run_pure, Result.andThen_ok, hs]
  exact hK _ _ h
theorem flt_info : (Try.prog.info? 28).map (·.size) = some 1 := by kernel_rfl

/-- a commit's cells -/
def comK (T : List UInt8) (A : Option Addr) (m c : Nat) (f : Nat) (a n : ByteArray) : Array Value := (bytesV T ++ [Value.slice A m c, Value.float .f64 f, Value.string a, Value.string n]).toArray
abbrev zId : List UInt8 := List.replicate 32 0
abbrev zCom : Array Value := comK zId none 0 0 0 ⟨#[]⟩ ⟨#[]⟩
theorem com_info : (Try.prog.info? 30).map (·.size) = some 36 := by kernel_rfl
theorem comK_size {T : List UInt8} (h : T.length = 32) (A : Option Addr) (m c f : Nat) (a n : ByteArray) : (comK T A m c f a n).size = 36 := by simp [comK, bytesV, h]
theorem comK_one (T : List UInt8) (A : Option Addr) (m c f : Nat) (a n : ByteArray) : (comK T A m c f a n).all (·.oneCell') = true := by
  rw [Array.all_eq_true_iff_forall_mem]
  intro v hv
  simp [comK] at hv
  rcases hv with hv | rfl | rfl | rfl | rfl
  · exact bytesV_one T v hv
  all_goals rfl
theorem comK_info {T : List UInt8} (h : T.length = 32) (A : Option Addr) (m c f : Nat) (a n : ByteArray) : (Try.prog.info? 30).map (·.size) = some (comK T A m c f a n).size := by rw [comK_size h]; exact com_info
theorem comK_tree {T U : List UInt8} (hT : T.length = 32) (hU : U.length = 32) (A : Option Addr) (m c f : Nat) (a n : ByteArray) :
    ((comK T A m c f a n).toList.take 0 ++ (bytesV U).toArray.toList ++ (comK T A m c f a n).toList.drop (0 + (bytesV U).toArray.size)).toArray = comK U A m c f a n := by
  have h1 : (bytesV T).length = 32 := by rw [bytesV_length, hT]
  have h2 : (bytesV U).length = 32 := by rw [bytesV_length, hU]
  unfold comK
  simp only [List.take_zero, List.nil_append, Nat.zero_add, List.size_toArray, h2]
  rw [List.drop_append, h1, List.drop_of_length_le (by omega)]
  simp
theorem comK_get {T : List UInt8} (h : T.length = 32) (A : Option Addr) (m c f : Nat) (a n : ByteArray) : (comK T A m c f a n)[32]? = some (.slice A m c) ∧ (comK T A m c f a n)[33]? = some (.float .f64 f) ∧ (comK T A m c f a n)[34]? = some (.string a) ∧ (comK T A m c f a n)[35]? = some (.string n) := by
  have h1 : (bytesV T).length = 32 := by rw [bytesV_length, h]
  unfold comK
  refine ⟨?_, ?_, ?_, ?_⟩ <;> (rw [List.getElem?_toArray, List.getElem?_append_right (by omega), h1]; rfl)
theorem comK_set {T : List UInt8} (h : T.length = 32) (A A' : Option Addr) (m m' c c' f f' : Nat) (a a' n n' : ByteArray) : (comK T A m c f a n).setIfInBounds 32 (.slice A' m' c') = comK T A' m' c' f a n ∧ (comK T A m c f a n).setIfInBounds 33 (.float .f64 f') = comK T A m c f' a n ∧
    (comK T A m c f a n).setIfInBounds 34 (.string a') = comK T A m c f a' n ∧ (comK T A m c f a n).setIfInBounds 35 (.string n') = comK T A m c f a n' := by
  have h1 : (bytesV T).length = 32 := by rw [bytesV_length, h]
  unfold comK
  refine ⟨?_, ?_, ?_, ?_⟩ <;> (rw [List.setIfInBounds_toArray, List.set_append_right _ _ (by omega), h1]; rfl)

theorem comD_ok (pe pv : Addr) (u : FrameMode) (w : World) (he : w.cell? pe = some (.int .i64 0)) :
    CallsD Try.prog 65 #[.pointer (some pe), .pointer (some pv)] u w fun e u' w' => u' = u ∧ e = .returned (.tuple #[]) ∧ w' = w := by
  go_enter_d Try.func65, Try.ntmps65
  go_wp2_with fail
  go_end0
  exact ⟨rfl, rfl⟩
set_option maxRecDepth 100000 in
theorem comD_bad (pe : Addr) (gv : Nat) (z : Int) (K : Array Value) (u : FrameMode) (w : World) (hz : z ≠ 0) (he : w.cell? pe = some (.int .i64 z)) (hK : K.size = 36) (hb : Blk w gv 30 K) :
    CallsD Try.prog 65 #[.pointer (some pe), .pointer (some ⟨gv, 0, none⟩)] u w fun e u' w' => u' = u ∧ e = .returned (.tuple #[]) ∧ w' = w.setRow gv zCom := by
  have hz' : (z != 0) = true := by simp [hz]
  obtain ⟨KV, hKV⟩ : ∃ KV, KV = zCom := ⟨_, rfl⟩
  have HI := Lib.hid (show (Try.prog.info? 30).map (·.size) = some KV.size by rw [hKV]; exact comK_info (by simp) _ _ _ _ _ _)
  have HO := Lib.hid (show KV.all (·.oneCell') = true by rw [hKV]; exact comK_one _ _ _ _ _ _ _)
  have HS := Lib.hid (show K.size = KV.size by rw [hK, hKV]; exact (comK_size (by simp) _ _ _ _ _ _).symm)
  have HB := Lib.hid hb
  have HKV := Lib.hid hKV
  rw [← hKV]
  clear hz hKV hb hK
  go_enter_d Try.func65, Try.ntmps65
  go_wp2_with (first | (refine wpList_store_row rfl _ _ _ rfl gv KV rfl (by rw [HKV.out]; try rfl) 30 _ HB.out HI.out HS.out HO.out ?_) | fail)
  go_end0
  exact ⟨rfl, rfl⟩

def ComPost (w : World) (r : Res ComT) (e : Ending) (w' : World) : Prop :=
  Below w.heap.size w w' ∧ match r with
    | .ok x => ∃ A c, e = .returned (.tuple #[.agg (comK x.1 A x.2.1.length c x.2.2.1 x.2.2.2.1 x.2.2.2.2), .int .i64 0]) ∧ x.1.length = 32 ∧ SlOf oidR w' (fun b => b < w.heap.size) A x.2.1 ∧ x.2.1.length ≤ c ∧ c ≤ maxLen
    | .error z => e = .returned (.tuple #[.agg zCom, .int .i64 z])

/-- the door of GetCommit behind a panic that tells an error -/
theorem com_door {w w4 : World} {g : Nat} {tmps K : Array Value} {z : Int} (hz : z ≠ 0) (HG : w.heap.size = g) (hB : Below g w w4) (hv : Blk w4 g 30 K) (hK : K.size = 36) (he : Blk w4 (g + 1) 33 #[.int .i64 0])
    (hp : tmps.getD 2 undef = .pointer (some ⟨g, 0, none⟩)) (hq : tmps.getD 3 undef = .pointer (some ⟨g + 1, 0, none⟩)) :
    Leaves Try.prog Try.f24 tmps (ComPost w (.error z)) [{ target := .fn (.func 44) #[], args := #[.pointer (some ⟨g + 1, 0, none⟩)] }, { target := .fn (.func 65) #[.pointer (some ⟨g + 1, 0, none⟩), .pointer (some ⟨g, 0, none⟩)], args := #[] }] (.panicking (flawE z)) w4 := by
  have hlt : g + 1 < w4.heap.size := he.lt
  have E1 := (hv.alloc (.cells #[.int .i64 z] 125)).other (g' := g + 1) (by omega) 0 (.int .i64 z)
  have E2 := (he.alloc (.cells #[.int .i64 z] 125)).set_ 0 (.int .i64 z)
  have hgl : g ≤ w4.heap.size := by omega
  have HB5 := (hB.alloc hgl (.cells #[.int .i64 z] 125)).setCell (p := ⟨g + 1, 0, none⟩) (by show g ≤ g + 1; omega) (.int .i64 z)
  refine leaves_cons (f := 44) (args := #[.pointer (some ⟨g + 1, 0, none⟩)]) (by simp) (by simp [go_sem]) ?_
  refine (ocaught_flaw ⟨g + 1, 0, none⟩ 0 z [] w4 hlt (he.cell 0) (he.frozen 0)).mono ?_
  rintro e u' w7 ⟨rfl, rfl, rfl⟩
  refine leaves_cons (f := 65) (args := #[.pointer (some ⟨g + 1, 0, none⟩), .pointer (some ⟨g, 0, none⟩)]) (by simp [settle]) (by simp [go_sem]) ?_
  refine (comD_bad _ g z K _ _ hz (E2.cell 0) hK E1).mono ?_
  rintro e u' w8 ⟨rfl, rfl, rfl⟩
  have r1 := setRow_heap _ g _ zCom _ _ E1
  have r2 := (cell_setRow_other ((w4.alloc (.cells #[.int .i64 z] 125)).setCell ⟨g + 1, 0, none⟩ (.int .i64 z)) g zCom ⟨g + 1, 0, none⟩ (by show g + 1 ≠ g; omega)).trans (E2.cell 0)
  have HB6 := below_setRow HB5 (Nat.le_refl g) zCom
  refine ⟨_, results_row_err rfl tmps _ g (g + 1) _ zCom z hp hq r1 r2 Try.underlying30 rfl (comK_info (by simp) _ _ _ _ _ _), ?_⟩
  unfold ComPost
  rw [HG]
  exact ⟨HB6, rfl⟩

/-- what was read is in its one form -/
theorem openG_norm {l : List UInt8} {kind count : Nat} {vs : List Val} (h : openG l kind count = .ok vs) : ∀ v ∈ vs, norm 15 v = v := by
  unfold openG at h
  cases hd : dec l with
  | error z => rw [hd] at h; cases h
  | ok v =>
    rw [hd] at h
    obtain ⟨_, hn, _, _⟩ := dec_back hd
    obtain ⟨k, u, b, f, l'⟩ := v
    have h : openV (.mk k u b f l') kind count = .ok vs := h
    unfold openV at h
    split at h
    · cases h
    · rename_i hc
      have hk : k = 3 := by
        apply Classical.byContradiction
        intro h; exact hc (.inl h)
      subst hk
      have hl : l'.map (norm 15) = l' := by
        have := congrArg Val.list hn
        simpa [norm, Val.kind, Val.list] using this
      have hall : ∀ v ∈ l', norm 15 v = v := by
        intro v hv
        obtain ⟨i, hi⟩ := List.mem_iff_getElem?.1 hv
        have h2 : (l'.map (norm 15))[i]? = some (norm 15 v) := by rw [List.getElem?_map, hi]; rfl
        rw [hl, hi] at h2
        exact (Option.some.inj h2).symm
      cases l' with
      | nil => cases h
      | cons a t =>
        simp only [Val.list] at h
        split at h
        · cases h
        · split at h
          · cases h
          · injection h with h; subst h
            exact fun v hv => hall v (by simp [hv])
theorem norm_flt {v : Val} (h : norm 15 v = v) (hk : v.kind = 2) : canonB v.flt = v.flt := by
  obtain ⟨k, u, b, f, l⟩ := v
  have hk : k = 2 := hk
  subst hk
  have h2 : norm 15 (.mk 2 u b f l) = .mk 2 0 [] (canonB f) [] := rfl
  rw [h2] at h
  exact congrArg Val.flt h
end Go.Proofs.Ytpafhajpnepecaa

/- append of a string's bytes onto a slice of bytes of the call's own. -/
set_option linter.unusedVariables false
namespace Go.Proofs.Ytpafhajpnepecaa
open Go.RowKit

theorem append_str {P : Program} {w : World} {t u e : TypeId} (E : ElemOf P t e (.int .u8 0) 1 1) (hu : P.underlying u = some .string)
    {base : Nat} {v : Value} {n : Nat} {xs : List Value} (hown : w.ownsRow base e 1 v n xs) (s : ByteArray)
    (hbytes : n + s.size ≤ 140737488355328) (h63 : n + s.size ≤ maxLen) (hbase : base ≤ w.heap.size) (ty : TypeId) :
    ∃ A' c' w', (Builtin.append_ #[t, u] ty #[v, .string s]).run P w = .ok (.slice A' (n + s.size) c') w' ∧ Appended w w' base e 1 v (.slice A' (n + s.size) c') (n + s.size) (xs ++ bytesV s.data.toList) ∧ n + s.size ≤ c' ∧ c' ≤ maxLen := by
  obtain ⟨ht, hi, hzs, hsz⟩ := E
  obtain ⟨i, hi, hz, hsize, hby⟩ := info_parts hi
  obtain ⟨v', w', hr, hown', hg, hnil⟩ := Lib.run_append_own_string (P := P) w base t u ty e i ht hu hi hz hsize hby v n xs hown s h63 hbytes hbase
  have hxl : xs.length = n := by simpa using hown.1
  have hplace : v'.ownBlock = v.ownBlock ∨ v'.ownBlock = some w.heap.size := by
    rcases hown.2 with ⟨rfl, rfl⟩ | ⟨g, cap, cur, rfl, hbg, hgc, hnc, hcm, hcs, htake⟩
    · by_cases hm : s.size = 0
      · exact .inl (by rw [hnil.2 ⟨rfl, hm⟩])
      · have hr2 := run_append_nil_string (P := P) w t u ty e i (.int .u8 0) ht hu hi hz s (by omega) (by simp only [maxLen] at h63; omega) (by rw [hby]; omega)
        rw [hr] at hr2
        injection hr2 with hv _
        subst hv
        exact .inr rfl
    · by_cases hroom : n + s.size ≤ cap
      · have hcs' : cur.size = cap := by simpa using hcs
        have hr2 := Lib.run_append_room_string (P := P) w t u ty e i ht hu hi hsize g n cap cur hgc s hroom (by omega)
        rw [hr] at hr2
        injection hr2 with hv _
        subst hv
        exact .inl rfl
      · have holds : ∀ j u, xs[j]? = some u → w.cell? ((⟨g, 0, none⟩ : Addr).add j) = some u := hown.cells (g := g) rfl
        have hr2 := Lib.run_append_grow_string (P := P) w t u ty e i (.int .u8 0) ht hu hi hz ⟨g, 0, none⟩ n cap xs (by rw [hsize]; simpa using hxl) holds s (by omega) (by simp only [maxLen] at h63; omega) (by rw [hby]; exact growslice_fits (by omega) (by omega))
        rw [hr] at hr2
        injection hr2 with hv _
        subst hv
        exact .inr rfl
  obtain ⟨A', c', rfl, h3, h4⟩ := own_form hown'
  exact ⟨A', c', w', hr, ⟨hown', hg, (Below.refl _ _).grown hg hbase (fun k hk => (hown.lt k hk).1), hplace, ⟨A', c', rfl, h3, h4⟩⟩, h3, h4⟩
end Go.Proofs.Ytpafhajpnepecaa

/- towlineref02.Head: a head as a string. -/
set_option linter.unusedVariables false
namespace Go.Proofs.Ytpafhajpnepecaa
open Go.RowKit
attribute [local go_sem ↓] cvt_eq

def strL (l : List UInt8) : ByteArray := ⟨l.toArray⟩
theorem strL_size (l : List UInt8) : (strL l).size = l.length := by simp [strL, ByteArray.size]
theorem strL_list (l : List UInt8) : (strL l).data.toList = l := by simp [strL]
theorem strL_append (l r : List UInt8) : strL l ++ strL r = strL (l ++ r) := by
  apply ByteArray.ext
  simp [strL, ByteArray.data_append]
theorem cvt_one (w : World) (x : UInt8) (c : Nat) : cvt (w.alloc (.cells #[.int .u8 (x.toNat : Int)] 5)) (some ⟨w.heap.size, 0, none⟩) 1 c = .ok (.string (strL [x])) (w.alloc (.cells #[.int .u8 (x.toNat : Int)] 5)) :=
  cvt_of (l := [x]) (Sl.one w (.int .u8 (x.toNat : Int)) 5) c

set_option maxRecDepth 100000 in
set_option maxHeartbeats 1000000 in
theorem refHead_any (k n : Nat) (w : World) (hk : k < 4) (hn : n < 2 ^ 64) :
    Calls Try.prog 100 #[.int .i64 (k : Int), .int .u64 (n : Int)] w fun e w' => e = .returned (.string (strL (headL k n))) ∧ Below w.heap.size w w' := by
  obtain ⟨R, hR⟩ : ∃ R, R = headL k n := ⟨_, rfl⟩
  rw [← hR]
  have hlen : R.length ≤ 10 := by rw [hR]; exact headL_length hn
  obtain ⟨x0, hx0⟩ : ∃ x0, x0 = n % 32 * 4 + k := ⟨_, rfl⟩
  have hx0l : x0 < 128 := by omega
  obtain ⟨q0, hq0⟩ : ∃ q0, q0 = n / 32 := ⟨_, rfl⟩
  have HRT := Lib.hid (show R = tailL x0 q0 by rw [hR, hx0, hq0]; rfl)
  have HX0 := Lib.hid hx0
  have HQ0 := Lib.hid hq0
  clear hR hx0 hq0
  go_enter Try.func100, Try.ntmps100
  go_wp2_with fail
  go_loopw [1, 5, 6] (fun s1 s5 s6 wr => ∃ (x q : Nat) (acc : List UInt8), s1 = .int .u64 (q : Int) ∧ s5 = .int .i64 (x : Int) ∧ s6 = .string (strL acc) ∧ x < 128 ∧ q < 2 ^ 64 ∧ Hid (acc ++ tailL x q = R) ∧ Below w.heap.size w wr)
    (fun s1 s5 s6 wr => (intOf s1).toNat)
  case atStart => exact ⟨x0, q0, [], by have := HQ0.out; go_num, by have := HX0.out; go_num, rfl, hx0l, by have := HQ0.out; omega, Lib.hid HRT.out.symm, Below.refl _ _⟩
  case round =>
    obtain ⟨x, q, acc, rfl, rfl, rfl, hx, hq64, HA, hbl⟩ := hrel
    have hal : acc.length ≤ R.length := by rw [← HA.out]; simp
    have hcat : ∀ y : UInt8, (strL acc).size + (strL [y]).size ≤ 9223372036854775807 := fun y => by rw [strL_size, strL_size]; simp; omega
    by_cases hq0 : 0 < q
    · have hqI : (0 : Int) < (q : Int) := by omega
      have ht := tailL_pos x (by omega : q ≠ 0)
      obtain ⟨y, hy⟩ : ∃ y : UInt8, y.toNat = x + 128 := ⟨UInt8.ofNat (x + 128), u8_ofNat (by omega)⟩
      have hye : UInt8.ofNat (x + 128) = y := u8_ext (by rw [u8_ofNat (by omega), hy])
      obtain ⟨q1, hq1⟩ : ∃ q1, q1 = q / 128 := ⟨_, rfl⟩
      obtain ⟨y1, hy1⟩ : ∃ y1, y1 = q % 128 := ⟨_, rfl⟩
      rw [hye, ← hy1, ← hq1] at ht
      have hyI : (x : Int) + 128 = (y.toNat : Int) := by omega
      have hy256 : (y.toNat : Int) % 256 = (y.toNat : Int) := by have := u8_lt y; omega
      have e128 : (q : Int) / 128 = (q1 : Int) := by omega
      have m128 : (q : Int) % 128 = (y1 : Int) := by omega
      have hcv := cvt_one wr y 1
      have happ := strL_append acc [y]
      have hcaty := hcat y
      clear hcat
      have hbl2 : Below w.heap.size w (wr.alloc (.cells #[.int .u8 (y.toNat : Int)] 5)) := hbl.alloc hbl.size _
      have hq1q : q1 < q := by omega
      have hy128 : y1 < 128 := by omega
      have hq164 : q1 < 2 ^ 64 := by omega
      have HA2 : Hid (acc ++ [y] ++ tailL y1 q1 = R) := Lib.hid (by rw [← HA.out, ht]; simp)
      clear hye hq1 hy1 ht HA hy
      go_wp2_with fail
      go_roundw
      case rel => exact ⟨y1, q1, acc ++ [y], by go_num, by go_num, rfl, hy128, hq164, HA2, hbl2⟩
      case measure => simp [intOf]; omega
    · obtain rfl : q = 0 := by omega
      have ha := HA.out
      rw [tailL_zero] at ha
      obtain ⟨y, hy⟩ : ∃ y : UInt8, y.toNat = x := ⟨UInt8.ofNat x, u8_ofNat (by omega)⟩
      have hye : UInt8.ofNat x = y := u8_ext (by rw [u8_ofNat (by omega), hy])
      have hyI : (x : Int) = (y.toNat : Int) := by omega
      rw [hye] at ha
      have hy256 : (y.toNat : Int) % 256 = (y.toNat : Int) := by have := u8_lt y; omega
      have hcv := cvt_one wr y 1
      have happ := strL_append acc [y]
      have hcaty := hcat y
      clear hcat
      rw [ha] at happ
      have hbl2 : Below w.heap.size w (wr.alloc (.cells #[.int .u8 (y.toNat : Int)] 5)) := hbl.alloc hbl.size _
      clear ha hye HA hy
      go_wp2_with fail
      go_ret
      exact ⟨rfl, hbl2⟩
end Go.Proofs.Ytpafhajpnepecaa
