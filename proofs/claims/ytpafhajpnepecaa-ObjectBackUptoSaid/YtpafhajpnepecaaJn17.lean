/- Contracts and laws for what the statement reaches, joined: ObjIdsV, ObjBuildN, ObjPutBlob. -/
import Derived.Test.YtpafhajpnepecaaJn16
/- object.ids. -/
set_option linter.unusedVariables false
set_option linter.unusedSimpArgs false
namespace Go.Proofs.Ytpafhajpnepecaa
open Go.RowKit
attribute [local go_sem ↓] cvt_eq

set_option maxRecDepth 100000 in
set_option maxHeartbeats 1000000 in
/-- row_any, away from what was there ahead of B -/
theorem row_anyA (B : Nat) (L : Option Addr) (m c : Nat) (vs : List Val) (w : World) (hB : B ≤ w.heap.size) (hs : SlOf valR w (fun b => b < B) L vs) (hm : m = vs.length) (hml : m ≤ 1048576) : Calls Try.prog 46 #[.slice L m c] w fun e w' => (∃ cs : List Value, e = .returned (.agg cs.toArray) ∧ valR.R w' (fun b => b < B) cs (.mk 3 0 [] 0 vs)) ∧ Below w.heap.size w w' := by
  subst hm
  obtain ⟨xs, hsl, hes, _⟩ := hs
  have hb2 : Below w.heap.size w ((w.alloc (.cells #[.int .i64 0, .int .u64 0, .slice none 0 0, .float .f64 0, .slice none 0 0] 84)).alloc (.cells #[] 84)) := ((Below.refl _ _).alloc (Nat.le_refl _) _).alloc (by simp) _
  have hown := own_made (base := w.heap.size + 1) (w.alloc (.cells #[.int .i64 0, .int .u64 0, .slice none 0 0, .float .f64 0, .slice none 0 0] 84)) 84 5 (by simp)
  obtain ⟨A7, c7, w7, run7, ap7, hc7, hm7⟩ := append_sl elemVal hown (hsl.below hb2) (hes.all (p := fun u => u.oneCell' = true) (fun _ _ h => valR.one h)) (by omega) (by simp only [maxLen]; omega) (by simp) 82 c
  simp only [Nat.zero_add, List.nil_append] at run7 ap7 hc7
  have hb7 : Below w.heap.size w w7 := hb2.trans (ap7.below.mono (Nat.le_succ _))
  have HR7 := Lib.hid ap7.own
  have HES := Lib.hid (hes.mono fun _ _ h => valR.stable h ((show Moves w w (fun b => b < B) (fun b => b < B ∨ w.heap.size ≤ b) from ⟨Nat.le_refl _, fun _ _ _ => rfl, fun b h h1 h' => by have h1 : ¬ b < B := h1; have h' : b < B ∨ w.heap.size ≤ b := h'; omega⟩).trans (Moves.of_below hb7)))
  have HB7 := Lib.hid hb7
  have HBL := Lib.hid (((Blk.new w 84 #[.int .i64 0, .int .u64 0, .slice none 0 0, .float .f64 0, .slice none 0 0]).alloc (.cells #[] 84)).below ap7.below (Nat.lt_succ_self _))
  obtain ⟨KV, hKV⟩ : ∃ KV, KV = cellsV 3 0 none 0 0 0 A7 vs.length c7 := ⟨_, rfl⟩
  have HI := Lib.hid (show (Try.prog.info? 84).map (·.size) = some KV.size by rw [hKV]; exact cellsV_info _ _ _ _ _ _ _ _ _)
  have HO := Lib.hid (show KV.all (·.oneCell') = true by rw [hKV]; exact cellsV_one _ _ _ _ _ _ _ _ _)
  have HKV := Lib.hid hKV
  have HC := Lib.hid (And.intro hc7 hm7)
  clear hKV hsl hes hb2 hown hb7 ap7 hc7 hm7
  have hsz : (w.alloc (.cells #[.int .i64 0, .int .u64 0, .slice none 0 0, .float .f64 0, .slice none 0 0] 84)).heap.size = w.heap.size + 1 := by simp
  rw [hsz] at run7
  go_enter Try.func46, Try.ntmps46
  go_wp2_with (first | (at_builtin; refine wpList_run_append run7 ?_ ?_ ?_; exact rfl; exact rfl) | (refine wpList_store_row rfl _ _ _ rfl w.heap.size KV rfl (by rw [HKV.out]; rfl) 84 _ HBL.out HI.out (by rw [HKV.out]; rfl) HO.out ?_) | fail)
  refine bodyPost_ret (results_cell_row rfl _ _ w.heap.size 84 KV (0, 0) _ rfl (setRow_heap _ w.heap.size _ _ _ _ HBL.out) Try.underlying84 rfl HI.out) rfl ?_
  refine ⟨⟨KV.toList, by simp, ?_⟩, below_setRow HB7.out (Nat.le_refl _) KV⟩
  have hrow := own_row HR7.out (g := w.heap.size) (cs := KV) (Nat.lt_succ_self _)
  have hmv : Moves w7 (w7.setRow w.heap.size KV) (fun b => b < B ∨ w.heap.size ≤ b) (fun b => b < B) := (Moves.grown (grown_row w7 w.heap.size KV) (.inr (Nat.le_refl _))).trans (Moves.less _ (fun b _ h => .inl h))
  rw [show KV.toList = (cellsV 3 0 none 0 0 0 A7 vs.length c7).toList from by rw [HKV.out]]
  exact valR_iff.2 ⟨none, 0, A7, c7, rfl, by decide, by omega, by omega, ⟨Nat.le_refl _, Nat.zero_le _, SlOf.nil⟩, HC.out.1, HC.out.2, xs, Sl.ofOwn hrow, HES.out.mono fun _ _ k => valR.stable k hmv, fun h0 b off e => by
    subst e
    have := (hrow.lt b rfl).1
    show ¬ b < B
    omega⟩

set_option maxRecDepth 100000 in
set_option maxHeartbeats 4000000 in
theorem idsV_any (A : Option Addr) (n c : Nat) (is : List (List UInt8)) (w : World) (hs : SlOf oidR w no A is) (hn : n = is.length) (hnl : n ≤ 1000000) :
    Calls Try.prog 39 #[.slice A n c] w fun e w' => (∃ cs : List Value, e = .returned (.agg cs.toArray) ∧ valR.R w' no cs (lstV (is.map txtV))) ∧ Below w.heap.size w w' := by
  have hba : Below w.heap.size w (w.alloc (.cells zVal 84)) := (Below.refl _ _).alloc (Nat.le_refl _) _
  have HS := Lib.hid (hs.below hba)
  have HN := Lib.hid hn.symm
  have HB1 := Lib.hid hba
  have HZ := Lib.hid (Blk.new w 84 zVal)
  clear hs hn hba
  go_enter Try.func39, Try.ntmps39
  go_upto_region 1 with fail
  change Code.wp _ _ _ _ (w.alloc (.cells zVal 84))
  generalize w.alloc (.cells zVal 84) = w1 at *
  have HR0 := Lib.hid (show RowB valR 84 w1 w1.heap.size none 0 0 ((is.take 0).map txtV) from RowB.nil _ _ _ _)
  go_wp2_with fail
  go_loopw [3, 8] (fun s3 s8 wr => ∃ (k : Nat) (A' : Option Addr) (c' : Nat), k ≤ n ∧ s3 = .slice A' k c' ∧ s8 = .int .i64 (k : Int) ∧ Hid (Below w1.heap.size w1 wr) ∧ Hid (RowB valR 84 wr w1.heap.size A' k c' ((is.take k).map txtV))) (fun s3 s8 wr => n - (intOf s8).toNat)
  case atStart => exact ⟨0, none, 0, by omega, rfl, rfl, Lib.hid (Below.refl _ _), HR0⟩
  case round =>
    obtain ⟨k, A', c', hk, rfl, rfl, HBL, HRW⟩ := hrel
    by_cases hlt : k < n
    · have hltI : (k : Int) < (n : Int) := by omega
      obtain ⟨b1, o1, x, hA, hb1, hx, h32, hat⟩ := oids_look (HS.out.below HBL.out) HN.out hlt
      obtain ⟨KX, hKX⟩ : ∃ KX, KX = (bytesV x).toArray := ⟨_, rfl⟩
      have HI := Lib.hid (show (Try.prog.info? 27).map (·.size) = some KX.size by rw [hKX]; exact oid_size h32)
      have HO := Lib.hid (show KX.all (·.oneCell') = true by rw [hKX]; exact oid_one x)
      have HZS := Lib.hid (show (bytesV (List.replicate 32 0)).toArray.size = KX.size by rw [hKX]; simp [bytesV, h32])
      rw [← hKX] at hat
      have HAT := Lib.hid hat
      have HBN := Lib.hid (Blk.new wr 27 (bytesV (List.replicate 32 0)).toArray)
      have hba : Below wr.heap.size wr (wr.alloc (.cells KX 27)) := (Below.refl _ _).alloc (Nat.le_refl _) _
      have HBL2 := Lib.hid (HBL.out.trans (hba.mono HBL.out.size))
      have HRW2 := Lib.hid (HRW.out.below hba)
      have hsx : Sl (wr.alloc (.cells KX 27)) 1 (some ⟨wr.heap.size, 0, none⟩) 32 (bytesV x) := by
        have := sl_at (l := x) (At.of_row (show Blk (wr.alloc (.cells KX 27)) wr.heap.size 27 (bytesV x).toArray by rw [hKX]; exact Blk.new _ _ _)) (by simp)
        rwa [h32] at this
      have hcv : cvt (wr.alloc (.cells KX 27)) (some ⟨wr.heap.size, 0, none⟩) 32 32 = .ok (.string ⟨x.toArray⟩) (wr.alloc (.cells KX 27)) := by
        have := cvt_of (l := x) (show Sl (wr.alloc (.cells KX 27)) 1 (some ⟨wr.heap.size, 0, none⟩) x.length (bytesV x) by rw [h32]; exact hsx) 32
        rwa [h32] at this
      have HTX := Lib.hid (text_any ⟨x.toArray⟩ (wr.alloc (.cells KX 27)) (by simp only [ByteArray.size, maxLen, List.size_toArray]; omega))
      have htk : (is.take (k + 1)).map txtV = (is.take k).map txtV ++ [txtV x] := by rw [List.take_add_one, hx]; simp
      have HTK := Lib.hid htk
      subst hA
      clear hx h32 hat hKX hsx htk hba HRW HBL
      go_upto_region 5 with (first
        | (refine wpList_load_at rfl _ _ rfl b1 (o1 + k * 32) rfl KX _ HAT.out Try.underlying27 rfl HI.out ?_)
        | (refine wpList_store_row rfl _ _ _ rfl wr.heap.size KX rfl rfl 27 _ HBN.out HI.out HZS.out HO.out ?_) | fail)
      rw [World.setRow_alloc_new]
      clear HBN HI HO HZS HAT
      generalize wr.alloc (.cells KX 27) = w8 at *
      generalize wr.heap.size = gx at *
      go_wp2_with fail
      refine HTX.out.mono ?_
      rintro e w9 ⟨⟨cs, rfl, hv⟩, hb9⟩
      have hv : valR.R w9 (fun b => b < w8.heap.size) cs (txtV x) := by simpa [txtV] using hv
      have hk5 : cs.length = 5 := valR.len hv
      obtain ⟨K, hK⟩ : ∃ K, K = cs.toArray := ⟨_, rfl⟩
      have hKs : K.size = 5 := by rw [hK]; simpa using hk5
      have hbs := fun w => bsVal_of w K hKs
      have hbl9 := HBL2.out.trans (hb9.mono HBL2.out.size)
      obtain ⟨A9, c9, w10, run9, hrow, hb10, _, _, _⟩ := (HRW2.out.below hb9).push elemVal hbl9.size hv (fun b _ ho => by
        show b < w8.heap.size
        rcases ho with ho | ho
        · exact Nat.lt_of_lt_of_le ho HBL2.out.size
        · exact (HRW2.out.lt ho).2) (by omega) (by simp only [maxLen]; omega) 82 1
      rw [← HTK.out] at hrow
      rw [← hK] at run9 ⊢
      have HR9 := Lib.hid hrow
      have HB9 := Lib.hid (hbl9.trans hb10)
      clear hv hk5 hK hKs hbl9 hrow hb10 hb9 HRW2 HBL2 HTK HTX hcv
      go_wp2_with (first
        | (refine wpList_build1 rfl (.tmp 15) rfl (.agg K) _ rfl (hbs _) ?_)
        | (at_builtin; refine wpList_run_append run9 ?_ ?_ ?_; exact rfl; exact rfl)
        | fail)
      go_roundw
      case rel => exact ⟨k + 1, A9, c9, by omega, rfl, by go_num, HB9, HR9⟩
      case measure => simp [intOf]; omega
    · have hltI : ¬ (k : Int) < (n : Int) := by omega
      obtain rfl : k = n := by omega
      have htk : is.take k = is := List.take_of_length_le (by rw [HN.out]; exact Nat.le_refl _)
      have hrow := HRW.out
      rw [htk] at hrow
      have hslw : SlOf valR wr (fun b => b < w1.heap.size) A' (is.map txtV) := hrow.sl
      have HROW := Lib.hid (row_anyA w1.heap.size A' k c' (is.map txtV) wr HBL.out.size hslw hrow.len (by omega))
      clear hrow hslw htk HRW
      go_wp2_with fail
      refine HROW.out.mono ?_
      rintro e w5 ⟨⟨cs, rfl, hv⟩, hb5⟩
      have hk5 : cs.length = 5 := valR.len hv
      have hone := valR.one hv
      obtain ⟨KV, hKV⟩ : ∃ KV, KV = cs.toArray := ⟨_, rfl⟩
      have HI := Lib.hid (show (Try.prog.info? 84).map (·.size) = some KV.size by rw [hKV, show cs.toArray.size = 5 from by simpa using hk5]; exact val_info)
      have HO := Lib.hid (show KV.all (·.oneCell') = true by rw [hKV]; simpa using hone)
      have HS5 := Lib.hid (show zVal.size = KV.size by rw [hKV]; simpa using hk5.symm)
      have hg1 : w.heap.size < w1.heap.size := HZ.out.lt
      have hbw5 := HBL.out.trans (hb5.mono HBL.out.size)
      have HZ5 := Lib.hid (HZ.out.below hbw5 hg1)
      have HB5 := Lib.hid (HB1.out.trans (hbw5.mono HB1.out.size))
      have HV := Lib.hid (show KV.toList = cs by rw [hKV])
      have HVV := Lib.hid (show valR.R w5 (fun b => b < w1.heap.size) cs (lstV (is.map txtV)) from hv)
      rw [← hKV]
      clear hKV hone hk5 hv hb5 hbw5 HROW
      go_wp2_with (first | (refine wpList_store_row rfl _ _ _ rfl w.heap.size KV rfl rfl 84 _ HZ5.out HI.out HS5.out HO.out ?_) | fail)
      refine bodyPost_ret (results_cell_row rfl _ _ w.heap.size 84 KV (0, 0) _ rfl (setRow_heap _ w.heap.size _ _ _ _ HZ5.out) Try.underlying84 rfl HI.out) rfl ?_
      refine ⟨⟨cs, by rw [← HV.out], ?_⟩, below_setRow HB5.out (Nat.le_refl _) KV⟩
      exact valR.stable HVV.out ((Moves.grown (grown_row w5 w.heap.size KV) hg1).trans (Moves.forget _ _))
end Go.Proofs.Ytpafhajpnepecaa

/- object: a slice of some values, built. -/
set_option linter.unusedVariables false
set_option linter.unusedSimpArgs false
namespace Go.Proofs.Ytpafhajpnepecaa
open Go.RowKit

theorem fill_step (K cells : Array Value) (off : Nat) (h : off + K.size ≤ cells.size) :
    (K.zipIdx.foldl (fun cs (p : Value × Nat) => cs.setIfInBounds (off + p.2) p.1) cells) = (cells.toList.take off ++ K.toList ++ cells.toList.drop (off + K.size)).toArray := by
  have h1 : K.zipIdx.foldl (fun cs (p : Value × Nat) => cs.setIfInBounds (off + p.2) p.1) cells = (K.toList.zipIdx 0).foldl (fun cs (p : Value × Nat) => cs.setIfInBounds (off + p.2) p.1) cells := by
    rw [← Array.foldl_toList, Array.toList_zipIdx]
  rw [h1]
  apply Array.ext_getElem?
  intro i
  rw [fill_get K.toList 0 off cells i (by simp; omega)]
  simp only [Nat.add_zero, Array.length_toList, List.getElem?_toArray]
  have ht : (cells.toList.take off).length = off := by rw [List.length_take, Array.length_toList]; omega
  by_cases h2 : i < off
  · rw [if_neg (by omega), List.append_assoc, List.getElem?_append_left (by rw [ht]; exact h2), List.getElem?_take, if_pos h2]; simp
  · by_cases h3 : i < off + K.size
    · rw [if_pos (by omega), List.append_assoc, List.getElem?_append_right (by rw [ht]; omega), ht, List.getElem?_append_left (by rw [Array.length_toList]; omega)]
    · rw [if_neg (by omega), List.getElem?_append_right (by rw [List.length_append, ht, Array.length_toList]; omega), List.length_append, ht, Array.length_toList, List.getElem?_drop]
      rw [show off + K.size + (i - (off + K.size)) = i by omega]; simp

theorem fill_seq : ∀ (Ks : List (Array Value)) (n : Nat) (cells : Array Value), (∀ K ∈ Ks, K.size = 5) → cells.size = (n + Ks.length) * 5 →
    Instr.fill (fun i => some (i * 5, 5)) cells ((Ks.zipIdx n).map fun p => (p.2, Value.agg p.1)) = some (cells.toList.take (n * 5) ++ Ks.flatMap (·.toList)).toArray
  | [], n, cells, h, hc => by
    have : cells.toList.take (n * 5) = cells.toList := List.take_of_length_le (by simp at hc ⊢; omega)
    simp [Instr.fill, this]
  | K :: r, n, cells, h, hc => by
    have hK : K.size = 5 := h K (by simp)
    simp only [List.length_cons] at hc
    have hK2 : (Value.agg K).cells = K := rfl
    rw [List.zipIdx_cons, List.map_cons]
    unfold Instr.fill
    simp only [hK2]
    have hc1 : (decide (K.size ≠ 5) || decide (n * 5 + K.size > cells.size)) = false := by
      have : ¬ (n * 5 + 5 > cells.size) := by omega
      simp [hK]; omega
    rw [if_neg (by rw [hc1]; decide), fill_step K cells (n * 5) (by omega)]
    rw [fill_seq r (n + 1) _ (fun K hk => h K (by simp [hk])) (by simp; omega)]
    congr 1
    have ht : (cells.toList.take (n * 5)).length = n * 5 := by rw [List.length_take, Array.length_toList]; omega
    rw [List.flatMap_cons, List.take_append_of_le_length (by rw [List.length_append, ht, Array.length_toList]; omega), List.take_of_length_le (by rw [List.length_append, ht, Array.length_toList]; omega), List.append_assoc]
theorem bsVals_of (w : World) (Ks : List (Array Value)) (n : Nat) (hn : Ks.length = n) (h0 : 0 < n) (h8 : n ≤ 8) (h5 : ∀ K ∈ Ks, K.size = 5) :
    (Instr.buildSlice 82 n ((Ks.zipIdx 0).map fun p => (p.2, Value.agg p.1)).toArray).run Try.prog w = .ok (.slice (some ⟨w.heap.size, 0, none⟩) n n) (w.alloc (.cells (Ks.flatMap (·.toList)).toArray 84)) := by
  unfold Instr.buildSlice
  have hf := fun (cells : Array Value) (hc : cells.size = n * 5) => fill_seq Ks 0 cells h5 (by rw [hc, hn]; simp)
  have h24 : ¬ (n * 5 > 2 ^ 24) := by omega
  have hne : ¬ (n * 5 = 0) := by omega
  simp only [run_underlying Try.underlying82, Sem.run_bind, value_sizeOf, value_zero, Value.cells, Result.andThen_ok, Sem.run_pure, if_neg h24, if_neg hne]
  rw [hf _ (by simp)]
  simp [newRow, Sem.run_bind]
end Go.Proofs.Ytpafhajpnepecaa

/- object.PutBlob. -/
set_option linter.unusedVariables false
set_option linter.unusedSimpArgs false
namespace Go.Proofs.Ytpafhajpnepecaa
open Go.RowKit

theorem sl_built {w : World} {cells : List Value} {vs : List Val} (h : Each (valR.R w no) cells vs) : SlOf valR (w.alloc (.cells cells.toArray 84)) no (some ⟨w.heap.size, 0, none⟩) vs := by
  have hba : Below w.heap.size w (w.alloc (.cells cells.toArray 84)) := (Below.refl _ _).alloc (Nat.le_refl _) _
  have hl : cells.length = vs.length * 5 := h.length fun _ _ => valR.len
  exact ⟨cells, Sl.fresh w cells.toArray 84 (0, 0) vs.length 5 (by simpa using hl), h.mono fun _ _ k => valR.stable k (Moves.of_below hba), fun _ _ _ _ h => h⟩
theorem step_build2 {P : Program} {Q : Exit → Act → World → Prop} {o : Oper} {a : Act} {w w' : World} {K : Act → World → Prop} {E : Prop} (hgd : o.guard = none) (x y : Operand) {t : TypeId}
    (ho : o.op = .buildSlice t 2 #[(0, x), (1, y)]) {vx vy v' : Value} (hx : a.eval x = vx) (hy : a.eval y = vy) (hrun : (Instr.buildSlice t 2 #[(0, vx), (1, vy)]).run P w = .ok v' w') (h : K (a.put o.dst v') w') :
    ∀ {ops : Array Oper}, if Region.wanted o (yielded ops a.tmps) = true then Oper.wp P o a w K Q else E := by
  intro ops
  have hw : Region.wanted o (yielded ops a.tmps) = true := by simp [Region.wanted, hgd]
  rw [if_pos hw]
  unfold Oper.wp execOp
  simp only [ho, List.map_toArray, List.map_cons, List.map_nil, hx, hy, Sem.run_bind, hrun, Result.andThen_ok, Sem.run_pure]
  exact h
theorem bulk_ids : ∀ (is : List (List UInt8)), (∀ i ∈ is, i.length = 32) → bulkVs (is.map txtV) = is.length * 33
  | [], _ => rfl
  | i :: r, h => by
    have := bulk_ids r (fun j hj => h j (by simp [hj]))
    have hi := h i (by simp)
    simp only [List.map_cons, bulkVs, bulkV, txtV, List.length_cons] at this ⊢
    omega

set_option maxRecDepth 100000 in
set_option maxHeartbeats 4000000 in
theorem putBlob_any (A : Option Addr) (n c : Nat) (is : List (List UInt8)) (sz : Int) (w : World) (hs : SlOf oidR w no A is) (hn : n = is.length) (hnc : n ≤ c) (hcm : c ≤ maxLen) (hwf : (Lit.int .i64 sz).wf = true) :
    Calls Try.prog 9 #[.agg #[.slice A n c, .int .i64 sz]] w (EncPost w (putBlob (is, sz))) := by
  obtain ⟨R, hR⟩ : ∃ R, R = putBlob (is, sz) := ⟨_, rfl⟩
  have HR := Lib.hid (show R = if 4096 < n ∨ 262144 < sz then .error 2 else if sz < 0 then .error 1 else sealG 2 [lstV (is.map txtV), numV sz.toNat] by rw [hR, hn]; rfl)
  rw [← hR]
  have hba : Below w.heap.size w (w.alloc (.cells #[.slice A n c, .int .i64 sz] 24)) := (Below.refl _ _).alloc (Nat.le_refl _) _
  have HS := Lib.hid (hs.below hba)
  have HN := Lib.hid hn
  have HBK := Lib.hid (bulk_ids is (oids_32 hs))
  have HB1 := Lib.hid hba
  have HK := Blk.new w 24 #[.slice A n c, .int .i64 sz]
  have hc0 : (w.alloc (.cells #[.slice A n c, .int .i64 sz] 24)).cell? ⟨w.heap.size, 0, none⟩ = some (.slice A n c) := HK.cell 0
  have hc1 : (w.alloc (.cells #[.slice A n c, .int .i64 sz] 24)).cell? ⟨w.heap.size, 1, none⟩ = some (.int .i64 sz) := HK.cell 1
  have hlt := HK.lt
  clear hR hs hn hba HK
  go_enter Try.func9, Try.ntmps9
  go_upto_region 1 with fail
  generalize w.alloc (.cells #[.slice A n c, .int .i64 sz] 24) = w1 at *
  generalize hg : w.heap.size = g at *
  have HG := Lib.hid hg
  clear hg
  by_cases h1 : 4096 < n
  · have hI : (4096 : Int) < (n : Int) := by omega
    have HRR := Lib.hid (show R = .error 2 by rw [HR.out, if_pos (.inl h1)])
    go_wp2_with fail
    go_ret2
    exact ⟨by rw [HG.out]; exact HB1.out, by rw [HRR.out]; rfl⟩
  · have hI : decide ((4096 : Int) < (n : Int)) = false := by simp; omega
    have hI2 : ¬ (4096 : Int) < (n : Int) := by omega
    by_cases h2 : 262144 < sz
    · have hJ : (262144 : Int) < sz := h2
      have HRR := Lib.hid (show R = .error 2 by rw [HR.out, if_pos (.inr h2)])
      go_wp2_with fail
      go_ret2
      exact ⟨by rw [HG.out]; exact HB1.out, by rw [HRR.out]; rfl⟩
    · have hJ : decide ((262144 : Int) < sz) = false := by simp; omega
      have hJ2 : ¬ (262144 : Int) < sz := h2
      by_cases h3 : sz < 0
      · have HRR := Lib.hid (show R = .error 1 by rw [HR.out, if_neg (by omega), if_pos h3])
        go_wp2_with fail
        go_ret2
        exact ⟨by rw [HG.out]; exact HB1.out, by rw [HRR.out]; rfl⟩
      · have hL : decide (sz < 0) = false := by simp; omega
        have HRR := Lib.hid (show R = sealG 2 [lstV (is.map txtV), numV sz.toNat] by rw [HR.out, if_neg (by omega), if_neg h3])
        have hcw : IntKind.u64.wrap sz = (sz.toNat : Int) := by rw [wrap_u64]; omega
        have hn4 : n ≤ 1000000 := by omega
        clear HR
        go_upto_region 5 with fail
        obtain ⟨zn, hzn⟩ : ∃ zn, zn = sz.toNat := ⟨_, rfl⟩
        rw [← hzn] at HRR hcw
        have hdr : Below w1.heap.size w1 w1.drew := Same.below ⟨1, rfl⟩ _
        have HSZ := Lib.hid (show zn < 2 ^ 64 by rw [hzn]; omega)
        clear hzn
        have HN4 := Lib.hid (show n ≤ 4096 by omega)
        refine wp_region_held (S := fun w => Below w1.heap.size w1 w) (by kernel_rfl) ?_
        change wpAnyH _ _ _ _ _ _ _ _ (World.drew _)
        refine held_take (i := 0) (v := ?_) (a' := ?_) rfl (by kernel_rfl) (by kernel_rfl) (by kernel_rfl) (fun _ _ _ h => h) (by rfl) hdr ?_ ?_ ?_
        rotate_left 2
        · (intro w hS; go_simp; try with_reducible rfl)
        · (go_simp; try with_reducible rfl)
        refine held_take (i := 1) (v := ?_) (a' := ?_) rfl (by kernel_rfl) (by kernel_rfl) (by kernel_rfl) (fun _ _ _ h => h) (by rfl) hdr ?_ ?_ ?_
        rotate_left 2
        · (intro w hS; have t := (hS.cell (p := ⟨g, 0, none⟩) hlt).trans hc0; go_simp; try with_reducible rfl)
        · (go_simp; try with_reducible rfl)
        refine held_take (i := 3) (v := ?_) (a' := ?_) rfl (by kernel_rfl) (by kernel_rfl) (by kernel_rfl) (fun _ _ _ h => h) (by rfl) hdr ?_ ?_ ?_
        rotate_left 2
        · (intro w hS; go_simp; try with_reducible rfl)
        · (go_simp; try with_reducible rfl)
        refine held_take (i := 4) (v := ?_) (a' := ?_) rfl (by kernel_rfl) (by kernel_rfl) (by kernel_rfl) (fun _ _ _ h => h) (by rfl) hdr ?_ ?_ ?_
        rotate_left 2
        · (intro w hS; have t := (hS.cell (p := ⟨g, 1, none⟩) hlt).trans hc1; go_simp; try with_reducible rfl)
        · (go_simp; try with_reducible rfl)
        refine held_take (i := 5) (v := ?_) (a' := ?_) rfl (by kernel_rfl) (by kernel_rfl) (by kernel_rfl) (fun _ _ _ h => h) (by rfl) hdr ?_ ?_ ?_
        rotate_left 2
        · (intro w hS; go_simp; try with_reducible rfl)
        · (go_simp; try with_reducible rfl)
        refine held_ready (rs := [2]) (by kernel_rfl) (by simp) ?_
        refine AllHeld.cons rfl (fun KR hKR => ?_) ?_
        · go_simp
          refine (idsV_any A n c is w1.drew (HS.out.below hdr) HN.out hn4).mono ?_
          rintro e w3 ⟨⟨cs, rfl, hv⟩, hb3⟩
          have hbA := hdr.trans (hb3.mono hdr.size)
          have hk5 : cs.length = 5 := valR.len hv
          obtain ⟨K0, hK0⟩ : ∃ K0, K0 = cs.toArray := ⟨_, rfl⟩
          have HV0 := Lib.hid (show valR.R w3 no K0.toList (lstV (is.map txtV)) by rw [hK0]; simpa using hv)
          have HK0 := Lib.hid (show K0.size = 5 by rw [hK0]; simpa using hk5)
          rw [← hK0]
          clear hv hk5 hK0 hb3
          refine hKR _ _ hbA ?_
          clear hKR KR
          refine held_ready (rs := [6]) (by kernel_rfl) (by simp) ?_
          refine AllHeld.cons rfl (fun KR hKR => ?_) ?_
          · go_simp
            refine (num_any zn _).mono ?_
            rintro e w4 ⟨rfl, hb4⟩
            have hbB := hbA.trans (hb4.mono hbA.size)
            obtain ⟨K1, hK1⟩ : ∃ K1, K1 = cellsV 0 zn none 0 0 0 none 0 0 := ⟨_, rfl⟩
            have HV1 := Lib.hid (show valR.R w4 no K1.toList (numV zn) by
              rw [hK1]
              exact valR_iff.2 ⟨none, 0, none, 0, rfl, by decide, HSZ.out, by omega, ⟨Nat.le_refl _, Nat.zero_le _, SlOf.nil⟩, Nat.le_refl _, Nat.zero_le _, SlOf.nil⟩)
            have hK15 : K1.size = 5 := by rw [hK1]; rfl
            have hrun : (Instr.buildSlice 82 2 #[(0, .agg K0), (1, .agg K1)]).run Try.prog w4 = .ok (.slice (some ⟨w4.heap.size, 0, none⟩) 2 2) (w4.alloc (.cells ([K0, K1].flatMap (·.toList)).toArray 84)) := bsVals_of w4 [K0, K1] 2 rfl (by omega) (by omega) (fun K hK => by
              rcases List.mem_cons.1 hK with rfl | hK
              · exact HK0.out
              · obtain rfl : K = K1 := by simpa using hK
                exact hK15)
            have hbC : Below w1.heap.size w1 (w4.alloc (.cells ([K0, K1].flatMap (·.toList)).toArray 84)) := hbB.alloc hbB.size _
            have hsl : SlOf valR (w4.alloc (.cells ([K0, K1].flatMap (·.toList)).toArray 84)) no (some ⟨w4.heap.size, 0, none⟩) [lstV (is.map txtV), numV zn] := sl_built (.cons (valR.stable HV0.out (Moves.of_below hb4)) (.cons HV1.out .nil))
            have HSL := Lib.hid hsl
            have HSEAL : Hid (Calls Try.prog 38 #[.int .i64 2, .slice (some ⟨w4.heap.size, 0, none⟩) 2 2] (w4.alloc (.cells ([K0, K1].flatMap (·.toList)).toArray 84)) (EncPost (w4.alloc (.cells ([K0, K1].flatMap (·.toList)).toArray 84)) (sealG 2 [lstV (is.map txtV), numV zn]))) := Lib.hid (seal_any 2 (some ⟨w4.heap.size, 0, none⟩) 2 2 _ _ (by omega) HSL.out rfl (by omega) (by simp only [bulkVs, bulkV, lstV, numV, List.length_nil]; rw [HBK.out]; have := HN.out; have := HN4.out; omega))
            rw [← hK1]
            generalize ([K0, K1].flatMap (·.toList)).toArray = KK at *
            clear hsl hK1 hK15 HV0 HV1 hb4 HSL
            refine hKR _ _ hbB ?_
            clear hKR KR
            refine held_ready (rs := [7]) (by kernel_rfl) (by simp) ?_
            refine AllHeld.cons rfl (fun KR hKR => ?_) ?_
            · refine step_build2 (by rfl) (.tmp 18) (.tmp 22) (by rfl) (by rfl) (by rfl) hrun ?_
              refine hKR _ _ hbC ?_
              clear hKR KR
              refine held_ready (rs := [8]) (by kernel_rfl) (by simp) ?_
              refine AllHeld.cons rfl (fun KR hKR => ?_) ?_
              · go_simp
                refine HSEAL.out.mono ?_
                intro e w5 hp
                have hbD := hbC.trans (hp.1.mono hbC.size)
                have hp2 := hp.lower (w := w) (by rw [HG.out]; exact HB1.out.trans (hbC.mono (Nat.le_of_lt hlt)))
                rw [← HRR.out] at hp2
                obtain ⟨A9, c9, rfl, _⟩ := hp2.use
                have HP := Lib.hid hp2
                clear hp hp2 HSEAL hrun
                refine hKR _ _ hbD ?_
                clear hKR KR
                refine held_take (i := 9) (v := ?_) (a' := ?_) rfl (by kernel_rfl) (by kernel_rfl) (by kernel_rfl) (fun _ _ _ h => h) (by rfl) hbD ?_ ?_ ?_
                rotate_left 2
                · (intro w hS; go_simp; try with_reducible rfl)
                · (go_simp; try with_reducible rfl)
                refine held_take (i := 10) (v := ?_) (a' := ?_) rfl (by kernel_rfl) (by kernel_rfl) (by kernel_rfl) (fun _ _ _ h => h) (by rfl) hbD ?_ ?_ ?_
                rotate_left 2
                · (intro w hS; go_simp; try with_reducible rfl)
                · (go_simp; try with_reducible rfl)
                refine held_take (i := 11) (v := ?_) (a' := ?_) rfl (by kernel_rfl) (by kernel_rfl) (by kernel_rfl) (fun _ _ _ h => h) (by rfl) hbD ?_ ?_ ?_
                rotate_left 2
                · (intro w hS; go_simp; try with_reducible rfl)
                · (go_simp; try with_reducible rfl)
                refine held_take (i := 12) (v := ?_) (a' := ?_) rfl (by kernel_rfl) (by kernel_rfl) (by kernel_rfl) (fun _ _ _ h => h) (by rfl) hbD ?_ ?_ ?_
                rotate_left 2
                · (intro w hS; go_simp; try with_reducible rfl)
                · (go_simp; try with_reducible rfl)
                refine wpAnyH_done (by kernel_rfl) ?_ _
                go_wp2_with fail
                go_ret2
                exact HP.out
              exact AllHeld.nil
            exact AllHeld.nil
          exact AllHeld.nil
        exact AllHeld.nil
end Go.Proofs.Ytpafhajpnepecaa
