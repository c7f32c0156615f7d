/- Contracts and laws for what the statement reaches, joined: ObjPutChunk, ObjIdsV, ObjBuildN, TalkAwake, TalkLone, TalkCome. -/
import Derived.Test.YtgmbkcjihgphmaaGreatJn20
import Derived.Test.YtgmbkcjihgphmaaGreatJn4
import Derived.Test.YtgmbkcjihgphmaaGreatJn5
/- object.PutChunk. -/
set_option linter.unusedVariables false
set_option linter.unusedSimpArgs false
namespace Go.Proofs.YtgmbkcjihgphmaaGreat
open Go.RowKit
attribute [local go_sem ↓] cvt_eq
set_option maxRecDepth 100000 in
set_option maxHeartbeats 4000000 in
theorem putChunk_any (A : Option Addr) (n c : Nat) (l : List UInt8) (w : World) (hs : Sl w 1 A n (bytesV l)) (hnc : n ≤ c) (hcm : c ≤ maxLen) :
  Calls Tryz.prog 18 #[.slice A n c] w (EncPost w (putChunk l)) := by
 have hn : n = l.length := by have := hs.1; rw [bytesV_length] at this; omega
 obtain ⟨R, hR⟩ : ∃ R, R = putChunk l := ⟨_, rfl⟩
 have HR := Lib.hid (show R = if 262144 < n then .error 2 else sealG 1 [txtV l] by rw [hR, hn]; rfl)
 rw [← hR]
 have HS := Lib.hid hs
 have HN := Lib.hid hn
 simp only [maxLen] at hcm
 clear hR hs hn
 by_cases hl : 262144 < n
 ·have hI : (262144 : Int) < (n : Int) := by omega
  have HRR := Lib.hid (show R = .error 2 by rw [HR.out, if_pos hl])
  go_enter Tryz.func18, Tryz.ntmps18
  go_wp2_with fail
  go_ret2
  exact ⟨Below.refl _ _, by rw [HRR.out]; rfl⟩
 ·have hI : ¬ (262144 : Int) < (n : Int) := by omega
  have HRR := Lib.hid (show R = sealG 1 [txtV l] by rw [HR.out, if_neg hl])
  have hcv : cvt w A n c = .ok (.string ⟨l.toArray⟩) w := by rw [HN.out]; exact cvt_of (by have := HS.out; rwa [HN.out] at this) c
  have HTX := Lib.hid (text_any ⟨l.toArray⟩ w (by simp only [ByteArray.size, maxLen, List.size_toArray]; have := HN.out; omega))
  go_enter Tryz.func18, Tryz.ntmps18
  go_wp2_with fail
  refine HTX.out.mono ?_
  rintro e w2 ⟨⟨cs, rfl, hv⟩, hb2⟩
  have hk5 : cs.length = 5 := valR.len hv
  obtain ⟨K, hK⟩ : ∃ K, K = cs.toArray := ⟨_, rfl⟩
  have hKs : K.size = 5 := by rw [hK]; simpa using hk5
  have hbs := fun w => bsVal_of w K hKs
  have hba : Below w2.heap.size w2 (w2.alloc (.cells K 94)) := (Below.refl _ _).alloc (Nat.le_refl _) _
  have hsl : SlOf valR (w2.alloc (.cells K 94)) no (some ⟨w2.heap.size, 0, none⟩) [txtV l] := by
   refine SlOf.ofOwn (c := 1) (row_oneV hKs (Nat.le_refl _)) ?_
   have hmv : Moves w2 (w2.alloc (.cells K 94)) (fun b => b < w.heap.size) (own (.slice (some ⟨w2.heap.size, 0, none⟩) 1 1)) := ⟨hba.size, fun b hb _ => hba.block b hb, fun b hb _ ho => by
    have ho : some w2.heap.size = some b := ho
    have := Option.some.inj ho
    omega⟩
   have hv2 := valR.stable hv hmv
   have hKl : K.toList = cs := by rw [hK]
   rw [hKl]
   have := Each.cons (R := valR.R (w2.alloc (.cells K 94)) (own (.slice (some ⟨w2.heap.size, 0, none⟩) 1 1))) hv2 Each.nil
   simpa [txtV] using this
  have HSEAL := Lib.hid (seal_any 1 (some ⟨w2.heap.size, 0, none⟩) 1 1 [txtV l] (w2.alloc (.cells K 94)) (by omega) hsl rfl (by omega) (by simp only [bulkV, bulkVs, txtV]; have := HN.out; omega))
  have HB3 := Lib.hid (hb2.trans (hba.mono hb2.size))
  rw [← hK]
  clear hv hK hKs hba hsl hb2 HTX hk5
  go_wp2_with (first
   | (refine wpList_build1 rfl (.tmp 9) rfl (.agg K) _ rfl (hbs _) ?_)
   | fail)
  refine HSEAL.out.mono ?_
  intro e w5 hp
  have hp := hp.lower HB3.out
  rw [← HRR.out] at hp
  have HP := Lib.hid hp
  clear hp HSEAL
  have hp := HP.out
  cases R with
  | error z =>
   obtain ⟨h1, h2⟩ := hp
   have h2 : e = _ := h2
   subst h2
   have H1 := Lib.hid h1
   clear h1 HP
   go_wp2_with fail
   go_ret2
   exact ⟨H1.out, rfl⟩
  | ok o =>
   obtain ⟨h1, A9, m9, c9, rfl, h3, h4⟩ := hp
   have H1 := Lib.hid (And.intro h1 (And.intro h3 h4))
   clear h1 h3 h4 HP
   go_wp2_with fail
   go_ret2
   exact ⟨H1.out.1, A9, m9, c9, rfl, H1.out.2⟩
end Go.Proofs.YtgmbkcjihgphmaaGreat
/- object.ids. -/
namespace Go.Proofs.YtgmbkcjihgphmaaGreat
open Go.RowKit
attribute [local go_sem ↓] cvt_eq
set_option maxRecDepth 100000 in
set_option maxHeartbeats 1000000 in
/-- row_any, away from what was there ahead of B -/
theorem row_anyA (B : Nat) (L : Option Addr) (m c : Nat) (vs : List Val) (w : World) (hB : B ≤ w.heap.size) (hs : SlOf valR w (fun b => b < B) L vs) (hm : m = vs.length) (hml : m ≤ 1048576) : Calls Tryz.prog 43 #[.slice L m c] w fun e w' => (∃ cs : List Value, e = .returned (.agg cs.toArray) ∧ valR.R w' (fun b => b < B) cs (.mk 3 0 [] 0 vs)) ∧ Below w.heap.size w w' := by
 subst hm
 obtain ⟨xs, hsl, hes, _⟩ := hs
 have hb2 : Below w.heap.size w ((w.alloc (.cells #[.int .i64 0, .int .u64 0, .slice none 0 0, .float .f64 0, .slice none 0 0] 94)).alloc (.cells #[] 94)) := ((Below.refl _ _).alloc (Nat.le_refl _) _).alloc (by simp) _
 have hown := own_made (base := w.heap.size + 1) (w.alloc (.cells #[.int .i64 0, .int .u64 0, .slice none 0 0, .float .f64 0, .slice none 0 0] 94)) 94 5 (by simp)
 obtain ⟨A7, c7, w7, run7, ap7, hc7, hm7⟩ := append_sl elemVal hown (hsl.below hb2) (hes.all (p := fun u => u.oneCell' = true) (fun _ _ h => valR.one h)) (by omega) (by simp only [maxLen]; omega) (by simp) 92 c
 simp only [Nat.zero_add, List.nil_append] at run7 ap7 hc7
 have hb7 : Below w.heap.size w w7 := hb2.trans (ap7.below.mono (Nat.le_succ _))
 have HR7 := Lib.hid ap7.own
 have HES := Lib.hid (hes.mono fun _ _ h => valR.stable h ((show Moves w w (fun b => b < B) (fun b => b < B ∨ w.heap.size ≤ b) from ⟨Nat.le_refl _, fun _ _ _ => rfl, fun b h h1 h' => by have h1 : ¬ b < B := h1; have h' : b < B ∨ w.heap.size ≤ b := h'; omega⟩).trans (Moves.of_below hb7)))
 have HB7 := Lib.hid hb7
 have HBL := Lib.hid (((Blk.new w 94 #[.int .i64 0, .int .u64 0, .slice none 0 0, .float .f64 0, .slice none 0 0]).alloc (.cells #[] 94)).below ap7.below (Nat.lt_succ_self _))
 obtain ⟨KV, hKV⟩ : ∃ KV, KV = cellsV 3 0 none 0 0 0 A7 vs.length c7 := ⟨_, rfl⟩
 have HI := Lib.hid (show (Tryz.prog.info? 94).map (·.size) = some KV.size by rw [hKV]; exact cellsV_info _ _ _ _ _ _ _ _ _)
 have HO := Lib.hid (show KV.all (·.oneCell') = true by rw [hKV]; exact cellsV_one _ _ _ _ _ _ _ _ _)
 have HKV := Lib.hid hKV
 have HC := Lib.hid (And.intro hc7 hm7)
 clear hKV hsl hes hb2 hown hb7 ap7 hc7 hm7
 have hsz : (w.alloc (.cells #[.int .i64 0, .int .u64 0, .slice none 0 0, .float .f64 0, .slice none 0 0] 94)).heap.size = w.heap.size + 1 := by simp
 rw [hsz] at run7
 go_enter Tryz.func43, Tryz.ntmps43
 go_wp2_with (first | (at_builtin; refine wpList_run_append run7 ?_ ?_ ?_; exact rfl; exact rfl) | (refine wpList_store_row rfl _ _ _ rfl w.heap.size KV rfl (by rw [HKV.out]; rfl) 94 _ HBL.out HI.out (by rw [HKV.out]; rfl) HO.out ?_) | fail)
 refine bodyPost_ret (results_cell_row rfl _ _ w.heap.size 94 KV (0, 0) _ rfl (setRow_heap _ w.heap.size _ _ _ _ HBL.out) Tryz.underlying94 rfl HI.out) rfl ?_
 refine ⟨⟨KV.toList, by simp, ?_⟩, below_setRow HB7.out (Nat.le_refl _) KV⟩
 have hrow := own_row HR7.out (g := w.heap.size) (cs := KV) (Nat.lt_succ_self _)
 have hmv : Moves w7 (w7.setRow w.heap.size KV) (fun b => b < B ∨ w.heap.size ≤ b) (fun b => b < B) := (Moves.grown (grown_row w7 w.heap.size KV) (.inr (Nat.le_refl _))).trans (Moves.less _ (fun b _ h => .inl h))
 rw [show KV.toList = (cellsV 3 0 none 0 0 0 A7 vs.length c7).toList from by rw [HKV.out]]
 exact valR_iff.2 ⟨none, 0, A7, c7, rfl, by decide, by omega, by omega, ⟨Nat.le_refl _, Nat.zero_le _, SlOf.nil⟩, HC.out.1, HC.out.2, xs, Sl.ofOwn hrow, HES.out.mono fun _ _ k => valR.stable k hmv, fun h0 b off e => by
  subst e
  have := (hrow.lt b rfl).1
  show ¬ b < B
  omega⟩
set_option maxRecDepth 100000 in
set_option maxHeartbeats 4000000 in
theorem idsV_any (A : Option Addr) (n c : Nat) (is : List (List UInt8)) (w : World) (hs : SlOf oidR w no A is) (hn : n = is.length) (hnl : n ≤ 1000000) :
  Calls Tryz.prog 39 #[.slice A n c] w fun e w' => (∃ cs : List Value, e = .returned (.agg cs.toArray) ∧ valR.R w' no cs (lstV (is.map txtV))) ∧ Below w.heap.size w w' := by
 have hba : Below w.heap.size w (w.alloc (.cells zVal 94)) := (Below.refl _ _).alloc (Nat.le_refl _) _
 have HS := Lib.hid (hs.below hba)
 have HN := Lib.hid hn.symm
 have HB1 := Lib.hid hba
 have HZ := Lib.hid (Blk.new w 94 zVal)
 clear hs hn hba
 go_enter Tryz.func39, Tryz.ntmps39
 go_upto_region 1 with fail
 change Code.wp _ _ _ _ (w.alloc (.cells zVal 94))
 generalize w.alloc (.cells zVal 94) = w1 at *
 have HR0 := Lib.hid (show RowB valR 94 w1 w1.heap.size none 0 0 ((is.take 0).map txtV) from RowB.nil _ _ _ _)
 go_wp2_with fail
 go_loopw [3, 8] (fun s3 s8 wr => ∃ (k : Nat) (A' : Option Addr) (c' : Nat), k ≤ n ∧ s3 = .slice A' k c' ∧ s8 = .int .i64 (k : Int) ∧ Hid (Below w1.heap.size w1 wr) ∧ Hid (RowB valR 94 wr w1.heap.size A' k c' ((is.take k).map txtV))) (fun s3 s8 wr => n - (intOf s8).toNat)
 case atStart => exact ⟨0, none, 0, by omega, rfl, rfl, Lib.hid (Below.refl _ _), HR0⟩
 case round =>
  obtain ⟨k, A', c', hk, rfl, rfl, HBL, HRW⟩ := hrel
  by_cases hlt : k < n
  ·have hltI : (k : Int) < (n : Int) := by omega
   obtain ⟨b1, o1, x, hA, hb1, hx, h32, hat⟩ := oids_look (HS.out.below HBL.out) HN.out hlt
   obtain ⟨KX, hKX⟩ : ∃ KX, KX = (bytesV x).toArray := ⟨_, rfl⟩
   have HI := Lib.hid (show (Tryz.prog.info? 33).map (·.size) = some KX.size by rw [hKX]; exact oid_size h32)
   have HO := Lib.hid (show KX.all (·.oneCell') = true by rw [hKX]; exact oid_one x)
   have HZS := Lib.hid (show (bytesV (List.replicate 32 0)).toArray.size = KX.size by rw [hKX]; simp [bytesV, h32])
   rw [← hKX] at hat
   have HAT := Lib.hid hat
   have HBN := Lib.hid (Blk.new wr 33 (bytesV (List.replicate 32 0)).toArray)
   have hba : Below wr.heap.size wr (wr.alloc (.cells KX 33)) := (Below.refl _ _).alloc (Nat.le_refl _) _
   have HBL2 := Lib.hid (HBL.out.trans (hba.mono HBL.out.size))
   have HRW2 := Lib.hid (HRW.out.below hba)
   have hsx : Sl (wr.alloc (.cells KX 33)) 1 (some ⟨wr.heap.size, 0, none⟩) 32 (bytesV x) := by
    have := sl_at (l := x) (At.of_row (show Blk (wr.alloc (.cells KX 33)) wr.heap.size 33 (bytesV x).toArray by rw [hKX]; exact Blk.new _ _ _)) (by simp)
    rwa [h32] at this
   have hcv : cvt (wr.alloc (.cells KX 33)) (some ⟨wr.heap.size, 0, none⟩) 32 32 = .ok (.string ⟨x.toArray⟩) (wr.alloc (.cells KX 33)) := by
    have := cvt_of (l := x) (show Sl (wr.alloc (.cells KX 33)) 1 (some ⟨wr.heap.size, 0, none⟩) x.length (bytesV x) by rw [h32]; exact hsx) 32
    rwa [h32] at this
   have HTX := Lib.hid (text_any ⟨x.toArray⟩ (wr.alloc (.cells KX 33)) (by simp only [ByteArray.size, maxLen, List.size_toArray]; omega))
   have htk : (is.take (k + 1)).map txtV = (is.take k).map txtV ++ [txtV x] := by rw [List.take_add_one, hx]; simp
   have HTK := Lib.hid htk
   subst hA
   clear hx h32 hat hKX hsx htk hba HRW HBL
   go_upto_region 5 with (first
    | (refine wpList_load_at rfl _ _ rfl b1 (o1 + k * 32) rfl KX _ HAT.out Tryz.underlying33 rfl HI.out ?_)
    | (refine wpList_store_row rfl _ _ _ rfl wr.heap.size KX rfl rfl 33 _ HBN.out HI.out HZS.out HO.out ?_) | fail)
   rw [World.setRow_alloc_new]
   clear HBN HI HO HZS HAT
   generalize wr.alloc (.cells KX 33) = w8 at *
   generalize wr.heap.size = gx at *
   go_wp2_with fail
   refine HTX.out.mono ?_
   rintro e w9 ⟨⟨cs, rfl, hv⟩, hb9⟩
   have hv : valR.R w9 (fun b => b < w8.heap.size) cs (txtV x) := by simpa [txtV] using hv
   have hk5 : cs.length = 5 := valR.len hv
   obtain ⟨K, hK⟩ : ∃ K, K = cs.toArray := ⟨_, rfl⟩
   have hKs : K.size = 5 := by rw [hK]; simpa using hk5
   have hbs := fun w => bsVal_of w K hKs
   have hbl9 := HBL2.out.trans (hb9.mono HBL2.out.size)
   obtain ⟨A9, c9, w10, run9, hrow, hb10, _, _, _⟩ := (HRW2.out.below hb9).push elemVal hbl9.size hv (fun b _ ho => by
    show b < w8.heap.size
    rcases ho with ho | ho
    ·exact Nat.lt_of_lt_of_le ho HBL2.out.size
    ·exact (HRW2.out.lt ho).2) (by omega) (by simp only [maxLen]; omega) 92 1
   rw [← HTK.out] at hrow
   rw [← hK] at run9 ⊢
   have HR9 := Lib.hid hrow
   have HB9 := Lib.hid (hbl9.trans hb10)
   clear hv hk5 hK hKs hbl9 hrow hb10 hb9 HRW2 HBL2 HTK HTX hcv
   go_wp2_with (first
    | (refine wpList_build1 rfl (.tmp 15) rfl (.agg K) _ rfl (hbs _) ?_)
    | (at_builtin; refine wpList_run_append run9 ?_ ?_ ?_; exact rfl; exact rfl)
    | fail)
   go_roundw
   case rel => exact ⟨k + 1, A9, c9, by omega, rfl, by go_num, HB9, HR9⟩
   case measure => simp [intOf]; omega
  ·have hltI : ¬ (k : Int) < (n : Int) := by omega
   obtain rfl : k = n := by omega
   have htk : is.take k = is := List.take_of_length_le (by rw [HN.out]; exact Nat.le_refl _)
   have hrow := HRW.out
   rw [htk] at hrow
   have hslw : SlOf valR wr (fun b => b < w1.heap.size) A' (is.map txtV) := hrow.sl
   have HROW := Lib.hid (row_anyA w1.heap.size A' k c' (is.map txtV) wr HBL.out.size hslw hrow.len (by omega))
   clear hrow hslw htk HRW
   go_wp2_with fail
   refine HROW.out.mono ?_
   rintro e w5 ⟨⟨cs, rfl, hv⟩, hb5⟩
   have hk5 : cs.length = 5 := valR.len hv
   have hone := valR.one hv
   obtain ⟨KV, hKV⟩ : ∃ KV, KV = cs.toArray := ⟨_, rfl⟩
   have HI := Lib.hid (show (Tryz.prog.info? 94).map (·.size) = some KV.size by rw [hKV, show cs.toArray.size = 5 from by simpa using hk5]; exact val_info)
   have HO := Lib.hid (show KV.all (·.oneCell') = true by rw [hKV]; simpa using hone)
   have HS5 := Lib.hid (show zVal.size = KV.size by rw [hKV]; simpa using hk5.symm)
   have hg1 : w.heap.size < w1.heap.size := HZ.out.lt
   have hbw5 := HBL.out.trans (hb5.mono HBL.out.size)
   have HZ5 := Lib.hid (HZ.out.below hbw5 hg1)
   have HB5 := Lib.hid (HB1.out.trans (hbw5.mono HB1.out.size))
   have HV := Lib.hid (show KV.toList = cs by rw [hKV])
   have HVV := Lib.hid (show valR.R w5 (fun b => b < w1.heap.size) cs (lstV (is.map txtV)) from hv)
   rw [← hKV]
   clear hKV hone hk5 hv hb5 hbw5 HROW
   go_wp2_with (first | (refine wpList_store_row rfl _ _ _ rfl w.heap.size KV rfl rfl 94 _ HZ5.out HI.out HS5.out HO.out ?_) | fail)
   refine bodyPost_ret (results_cell_row rfl _ _ w.heap.size 94 KV (0, 0) _ rfl (setRow_heap _ w.heap.size _ _ _ _ HZ5.out) Tryz.underlying94 rfl HI.out) rfl ?_
   refine ⟨⟨cs, by rw [← HV.out], ?_⟩, below_setRow HB5.out (Nat.le_refl _) KV⟩
   exact valR.stable HVV.out ((Moves.grown (grown_row w5 w.heap.size KV) hg1).trans (Moves.forget _ _))
end Go.Proofs.YtgmbkcjihgphmaaGreat
/- object: a slice of some values, built. -/
namespace Go.Proofs.YtgmbkcjihgphmaaGreat
open Go.RowKit
theorem fill_step (K cells : Array Value) (off : Nat) (h : off + K.size ≤ cells.size) :
  (K.zipIdx.foldl (fun cs (p : Value × Nat) => cs.setIfInBounds (off + p.2) p.1) cells) = (cells.toList.take off ++ K.toList ++ cells.toList.drop (off + K.size)).toArray := by
 have h1 : K.zipIdx.foldl (fun cs (p : Value × Nat) => cs.setIfInBounds (off + p.2) p.1) cells = (K.toList.zipIdx 0).foldl (fun cs (p : Value × Nat) => cs.setIfInBounds (off + p.2) p.1) cells := by
  rw [← Array.foldl_toList, Array.toList_zipIdx]
 rw [h1]
 apply Array.ext_getElem?
 intro i
 rw [fill_get K.toList 0 off cells i (by simp; omega)]
 simp only [Nat.add_zero, Array.length_toList, List.getElem?_toArray]
 have ht : (cells.toList.take off).length = off := by rw [List.length_take, Array.length_toList]; omega
 by_cases h2 : i < off
 ·rw [if_neg (by omega), List.append_assoc, List.getElem?_append_left (by rw [ht]; exact h2), List.getElem?_take, if_pos h2]; simp
 ·by_cases h3 : i < off + K.size
  ·rw [if_pos (by omega), List.append_assoc, List.getElem?_append_right (by rw [ht]; omega), ht, List.getElem?_append_left (by rw [Array.length_toList]; omega)]
  ·rw [if_neg (by omega), List.getElem?_append_right (by rw [List.length_append, ht, Array.length_toList]; omega), List.length_append, ht, Array.length_toList, List.getElem?_drop]
   rw [show off + K.size + (i - (off + K.size)) = i by omega]; simp
theorem fill_seq : ∀ (Ks : List (Array Value)) (n : Nat) (cells : Array Value), (∀ K ∈ Ks, K.size = 5) → cells.size = (n + Ks.length) * 5 →
  Instr.fill (fun i => some (i * 5, 5)) cells ((Ks.zipIdx n).map fun p => (p.2, Value.agg p.1)) = some (cells.toList.take (n * 5) ++ Ks.flatMap (·.toList)).toArray
 | [], n, cells, h, hc => by
  have : cells.toList.take (n * 5) = cells.toList := List.take_of_length_le (by simp at hc ⊢; omega)
  simp [Instr.fill, this]
 | K :: r, n, cells, h, hc => by
  have hK : K.size = 5 := h K (by simp)
  simp only [List.length_cons] at hc
  have hK2 : (Value.agg K).cells = K := rfl
  rw [List.zipIdx_cons, List.map_cons]
  unfold Instr.fill
  simp only [hK2]
  have hc1 : (decide (K.size ≠ 5) || decide (n * 5 + K.size > cells.size)) = false := by
   have : ¬ (n * 5 + 5 > cells.size) := by omega
   simp [hK]; omega
  rw [if_neg (by rw [hc1]; decide), fill_step K cells (n * 5) (by omega)]
  rw [fill_seq r (n + 1) _ (fun K hk => h K (by simp [hk])) (by simp; omega)]
  congr 1
  have ht : (cells.toList.take (n * 5)).length = n * 5 := by rw [List.length_take, Array.length_toList]; omega
  rw [List.flatMap_cons, List.take_append_of_le_length (by rw [List.length_append, ht, Array.length_toList]; omega), List.take_of_length_le (by rw [List.length_append, ht, Array.length_toList]; omega), List.append_assoc]
theorem bsVals_of (w : World) (Ks : List (Array Value)) (n : Nat) (hn : Ks.length = n) (h0 : 0 < n) (h8 : n ≤ 8) (h5 : ∀ K ∈ Ks, K.size = 5) :
  (Instr.buildSlice 92 n ((Ks.zipIdx 0).map fun p => (p.2, Value.agg p.1)).toArray).run Tryz.prog w = .ok (.slice (some ⟨w.heap.size, 0, none⟩) n n) (w.alloc (.cells (Ks.flatMap (·.toList)).toArray 94)) := by
 unfold Instr.buildSlice
 have hf := fun (cells : Array Value) (hc : cells.size = n * 5) => fill_seq Ks 0 cells h5 (by rw [hc, hn]; simp)
 have h24 : ¬ (n * 5 > 2 ^ 24) := by omega
 have hne : ¬ (n * 5 = 0) := by omega
 simp only [run_underlying Tryz.underlying92, Sem.run_bind, value_sizeOf, value_zero, Value.cells, Result.andThen_ok, Sem.run_pure, if_neg h24, if_neg hne]
 rw [hf _ (by simp)]
 simp [newRow, Sem.run_bind]
end Go.Proofs.YtgmbkcjihgphmaaGreat
/- towlinelaw21.awake. -/
namespace Go.Proofs.YtgmbkcjihgphmaaGreat
open Go.RowKit
attribute [local go_sem ↓] neqId_eq cvt_eq
theorem step_val {P : Program} {Q : Exit → Act → World → Prop} {o : Oper} {a : Act} {w w' : World} {K : Act → World → Prop} {E : Prop} {ops : Array Oper} (hw : Region.wanted o (yielded ops a.tmps) = true) {v : Value}
  (hr : (execOp a.eval o).run P w = .ok (.value v) w') (h : K (a.put o.dst v) w') : if Region.wanted o (yielded ops a.tmps) = true then Oper.wp P o a w K Q else E := by
 rw [if_pos hw]
 unfold Oper.wp
 rw [hr]
 exact h
theorem wpList_val_g {P : Program} {ops : Array Oper} {rest : List Oper} {o : Oper} {a : Act} {w w' : World} {Q : Exit → Act → World → Prop} (hw : Region.wanted o (yielded ops a.tmps) = true) {v : Value} (hr : (execOp a.eval o).run P w = .ok (.value v) w') (h : wpList P ops Q rest (a.put o.dst v) w') : wpList P ops Q (o :: rest) a w :=
 wpList_step fun _ hK => by
  rw [if_pos (by exact hw)]
  unfold Oper.wp
  rw [hr]
  exact hK _ _ h
theorem exec_b0 {P : Program} {o : Oper} {a : Act} {w : World} (t : TypeId) (ho : o.op = .build t #[]) (v : Value) (h : (Instr.build t #[]).run P w = .ok v w) : (execOp a.eval o).run P w = .ok (.value v) w := by
 unfold execOp
 simp only [ho, List.map_toArray, List.map_nil, Sem.run_bind, h, Result.andThen_ok, Sem.run_pure]
theorem exec_bs2 {P : Program} {o : Oper} {a : Act} {w w' : World} (t : TypeId) (x y : Operand) (ho : o.op = .buildSlice t 2 #[(0, x), (1, y)]) (vx vy v : Value) (hx : a.eval x = vx) (hy : a.eval y = vy) (h : (Instr.buildSlice t 2 #[(0, vx), (1, vy)]).run P w = .ok v w') : (execOp a.eval o).run P w = .ok (.value v) w' := by
 subst hx hy
 unfold execOp
 simp only [ho, List.map_toArray, List.map_cons, List.map_nil, Sem.run_bind, h, Result.andThen_ok, Sem.run_pure]
set_option maxRecDepth 100000 in
theorem zid_build (w : World) : (Instr.build 33 #[]).run Tryz.prog w = .ok (.agg zID) w := by kernel_rfl
theorem fill_ids : ∀ (Ks : List (Array Value)) (n : Nat) (cells : Array Value), (∀ K ∈ Ks, K.size = 32) → cells.size = (n + Ks.length) * 32 →
  Instr.fill (fun i => some (i * 32, 32)) cells ((Ks.zipIdx n).map fun p => (p.2, Value.agg p.1)) = some (cells.toList.take (n * 32) ++ Ks.flatMap (·.toList)).toArray
 | [], n, cells, h, hc => by
  have : cells.toList.take (n * 32) = cells.toList := List.take_of_length_le (by simp at hc ⊢; omega)
  simp [Instr.fill, this]
 | K :: r, n, cells, h, hc => by
  have hK : K.size = 32 := h K (by simp)
  simp only [List.length_cons] at hc
  have hK2 : (Value.agg K).cells = K := rfl
  rw [List.zipIdx_cons, List.map_cons]
  unfold Instr.fill
  simp only [hK2]
  have hc1 : (decide (K.size ≠ 32) || decide (n * 32 + K.size > cells.size)) = false := by
   have : ¬ (n * 32 + 32 > cells.size) := by omega
   simp [hK]; omega
  rw [if_neg (by rw [hc1]; decide), fill_step K cells (n * 32) (by omega)]
  rw [fill_ids r (n + 1) _ (fun K hk => h K (by simp [hk])) (by simp; omega)]
  congr 1
  have ht : (cells.toList.take (n * 32)).length = n * 32 := by rw [List.length_take, Array.length_toList]; omega
  rw [List.flatMap_cons, List.take_append_of_le_length (by rw [List.length_append, ht, Array.length_toList]; omega), List.take_of_length_le (by rw [List.length_append, ht, Array.length_toList]; omega), List.append_assoc]
theorem bsIds2 (w : World) (K L : Array Value) (hK : K.size = 32) (hL : L.size = 32) : (Instr.buildSlice 46 2 #[(0, .agg K), (1, .agg L)]).run Tryz.prog w = .ok (.slice (some ⟨w.heap.size, 0, none⟩) 2 2) (w.alloc (.cells (K.toList ++ L.toList).toArray 33)) := by
 have hf := fun (cells : Array Value) (hc : cells.size = 2 * 32) => fill_ids [K, L] 0 cells (fun M hM => by
  simp only [List.mem_cons, List.not_mem_nil, or_false] at hM
  rcases hM with rfl | rfl <;> assumption) (by rw [hc]; rfl)
 unfold Instr.buildSlice
 simp only [run_underlying Tryz.underlying46, Sem.run_bind, id_sizeOf, id_zero, Value.cells, Result.andThen_ok, Sem.run_pure, if_neg (show ¬ (2 * 32 > 2 ^ 24) by decide), if_neg (show ¬ (2 * 32 = 0) by decide)]
 have h2 : ([K, L].zipIdx 0).map (fun p => (p.2, Value.agg p.1)) = [(0, .agg K), (1, .agg L)] := rfl
 rw [h2] at hf
 rw [hf _ (by simp [bytesV])]
 simp [newRow, Sem.run_bind]
theorem lack_law {T : TypeId} {V : Value} {K : Nat} {S : SrcT} {nv g mb : Nat} {root : List UInt8} (W0 : World) (hS : SrcK W0 T V K S) (hf : FinS S nv) (J : Nat) (hJ : nv + J ≤ 200000) : LackLaw W0 g T V root mb (fun ad => lackL (srcF S ad) root) J :=
 ⟨fun w m ad hb hft hl => lack_any W0 w hS hb hft hf (by omega), fun ad hl => by
  have := (srcF_fin hf ad).lack_len (root := root)
  have h2 : (nv + ad.length) * 4096 ≤ 200000 * 4096 := Nat.mul_le_mul_right _ (by omega)
  omega⟩
theorem take_awake {T : TypeId} {V : Value} {g mb c2 : Nat} {m : IM} {A2 : Option Addr} {w4 w8 : World} (hL : LackLaw w4 g T V rtA mb (fun ad => lackL (srcF (getB []) ad) rtA) 10) (hB : Below w4.heap.size w4 w8) (h : FT w8 w4.heap.size g T V rtA mb m []) (hs : Sl w8 1 A2 6 (bytesV chA)) (hc : 6 ≤ c2 ∧ c2 ≤ maxLen) :
  Calls Tryz.prog 8 #[.pointer (some ⟨g, 0, none⟩), .slice (some ⟨w8.heap.size + 1, 0, none⟩) 3 3] ((w8.alloc (.cells #[.int .u8 110, .int .u8 111] 5 (2, 3))).alloc (.cells #[.slice (some ⟨w8.heap.size, 0, none⟩) 2 2, .slice A2 6 c2, .slice A2 6 c2] 38))
   fun e w' => e = .returned (.int .i64 1) ∧ ∃ m', FT w' w4.heap.size g T V rtA mb m' adA ∧ Below w4.heap.size w4 w' := by
 obtain ⟨w10, hw10⟩ : ∃ w10, w10 = w8.alloc (.cells #[.int .u8 110, .int .u8 111] 5 (2, 3)) := ⟨_, rfl⟩
 have hs10 : w10.heap.size = w8.heap.size + 1 := by rw [hw10]; simp
 have hb10 : Below w8.heap.size w8 w10 := by rw [hw10]; exact (Below.refl _ _).alloc (Nat.le_refl _) _
 have hno : Sl w10 1 (some ⟨w8.heap.size, 0, none⟩) 2 (bytesV [110, 111]) := by rw [hw10]; exact Sl.fresh w8 #[.int .u8 110, .int .u8 111] 5 (2, 3) 2 1 rfl
 rw [← hw10, ← hs10]
 have hf : Sl (w10.alloc (.cells #[.slice (some ⟨w8.heap.size, 0, none⟩) 2 2, .slice A2 6 c2, .slice A2 6 c2] 38)) 1 (some ⟨w10.heap.size, 0, none⟩) 3 [.slice (some ⟨w8.heap.size, 0, none⟩) 2 2, .slice A2 6 c2, .slice A2 6 c2] := Sl.fresh w10 #[.slice (some ⟨w8.heap.size, 0, none⟩) 2 2, .slice A2 6 c2, .slice A2 6 c2] 38 (0, 0) 3 1 rfl
 have hb11 : Below w10.heap.size w10 (w10.alloc (.cells #[.slice (some ⟨w8.heap.size, 0, none⟩) 2 2, .slice A2 6 c2, .slice A2 6 c2] 38)) := (Below.refl _ _).alloc (Nat.le_refl _) _
 generalize w10.alloc (.cells #[.slice (some ⟨w8.heap.size, 0, none⟩) 2 2, .slice A2 6 c2, .slice A2 6 c2] 38) = w11 at *
 have hb8 : Below w8.heap.size w8 w11 := hb10.trans (hb11.mono hb10.size)
 have hft := h.go hb8
 have hno2 : SlOf byteR w11 (fun b => b = mb) (some ⟨w8.heap.size, 0, none⟩) [110, 111] := apart_map ⟨_, hno.below hb11, bytes_each _ _ _, fun _ _ _ _ q => q⟩ hft.map
 have hch2 : SlOf byteR w11 (fun b => b = mb) A2 chA := apart_map ⟨_, hs.below hb8, bytes_each _ _ _, fun _ _ _ _ q => q⟩ hft.map
 have hmb := h.map.lt
 have hsl : SlOf byR w11 (fun b => b = mb) (some ⟨w10.heap.size, 0, none⟩) [[110, 111], chA, chA] :=
  ⟨_, hf, .cons (cs := [.slice (some ⟨w8.heap.size, 0, none⟩) 2 2]) ⟨_, 2, rfl, Nat.le_refl _, by simp [maxLen], hno2⟩ (.cons (cs := [.slice A2 6 c2]) ⟨_, c2, rfl, hc.1, hc.2, hch2⟩ (.cons (cs := [.slice A2 6 c2]) ⟨_, c2, rfl, hc.1, hc.2, hch2⟩ .nil)), fun _ b off e => by
   have e := Option.some.inj e
   injection e with e
   omega⟩
 have hbw := hB.trans (hb8.mono hB.size)
 have ht := takes_any (J := 10) w4 w11 hL hbw hft _ 3 3 [[110, 111], chA, chA] hsl rfl (by omega) (fun b hb => by
  simp at hb
  rcases hb with rfl | rfl <;> simp [chA]) (by simp)
 rw [show takeF (fun ad => lackL (srcF (getB []) ad) rtA) [[110, 111], chA, chA] [] 0 = (adA, 1) from takeA] at ht
 refine ht.mono ?_
 rintro e w' ⟨m', rfl, h1, h2⟩
 exact ⟨rfl, m', h1, hbw.grown h2 hbw.size (fun k e => by have := Option.some.inj e; have := h.basem; omega)⟩
theorem serve_awake {T : TypeId} {V : Value} {K g mb : Nat} {m : IM} {w4 w16 : World} {KX : Array Value} (hS : SrcK w4 T V K (getB [])) (hB : Below w4.heap.size w4 w16) (h : FT w16 w4.heap.size g T V rtA mb m adA) (hKX : KX = (bytesV rtA).toArray) :
  Calls Tryz.prog 21 #[.iface 28 (.pointer (some ⟨g, 0, none⟩)), .slice (some ⟨w16.heap.size, 0, none⟩) 2 2] (w16.alloc (.cells (KX.toList ++ zID.toList).toArray 33))
   fun e w' => Below w16.heap.size w16 w' ∧ True ∧ ∃ A c, e = .returned (.slice A 1 c) := by
 have hba : Below w16.heap.size w16 (w16.alloc (.cells (KX.toList ++ zID.toList).toArray 33)) := (Below.refl _ _).alloc (Nat.le_refl _) _
 have hsl : SlOf oidR (w16.alloc (.cells (KX.toList ++ zID.toList).toArray 33)) no (some ⟨w16.heap.size, 0, none⟩) [rtA, List.replicate 32 0] := by
  refine ⟨KX.toList ++ zID.toList, ?_, ?_, fun _ _ _ _ h => h⟩
  ·exact Sl.fresh w16 (KX.toList ++ zID.toList).toArray 33 (0, 0) 2 32 (by rw [hKX]; simp [bytesV_length, shaG_len32])
  ·rw [hKX]
   exact Each.cons (oid_of _ _ (shaG_len32 chA)) (Each.one (oid_of _ _ rfl))
 have hs := serve_any 28 (.pointer (some ⟨g, 0, none⟩)) _ (srcF (getB []) adA) _ 2 2 [rtA, List.replicate 32 0] _ (fetch_src w4 _ hS (hB.trans (hba.mono hB.size)) (h.go hba)) hsl rfl (by omega) (Nat.le_refl _) (by simp [maxLen])
 rw [show serveF (srcF (getB []) adA) (([rtA, List.replicate 32 0] : List (List UInt8)).take 16) 0 [] = [chA] from serveA] at hs
 refine hs.mono ?_
 rintro e w' ⟨hb, A, m', c, rfl, hr⟩
 obtain rfl : m' = 1 := hr.len
 exact ⟨hba.trans (hb.mono hba.size), trivial, A, c, rfl⟩
set_option maxRecDepth 100000 in
set_option maxHeartbeats 16000000 in
theorem awake_talk (W0 : World) : Calls Tryz.prog 4 #[] W0 fun e w' => e = .returned (.bool true) ∧ Below W0.heap.size W0 w' := by
 have kc := fun (w : World) (C : Array Value) (n c : Nat) => Lib.run_convert_bytes_const (P := Tryz.prog) w 38 5 C n c Tryz.underlying38 Tryz.underlying5
 obtain ⟨w1, hw1⟩ : ∃ w1, w1 = W0.alloc (.cells #[.int .u8 97, .int .u8 98, .int .u8 99] 5 (3, 4)) := ⟨_, rfl⟩
 have HB1 := Lib.hid (show Below W0.heap.size W0 w1 by rw [hw1]; exact (Below.refl _ _).alloc (Nat.le_refl _) _)
 have hs1 : Sl w1 1 (some ⟨W0.heap.size, 0, none⟩) 3 (bytesV [97, 98, 99]) := by rw [hw1]; exact Sl.fresh W0 #[.int .u8 97, .int .u8 98, .int .u8 99] 5 (3, 4) 3 1 rfl
 have HPC := Lib.hid (putChunk_any _ 3 3 [97, 98, 99] w1 hs1 (Nat.le_refl _) (by simp [maxLen]))
 rw [chA_put] at HPC
 have HW1 := Lib.hid hw1
 clear hw1 hs1
 go_enter Tryz.func4, Tryz.ntmps4
 go_wp2_with fail
 rw [← HW1.out]
 refine HPC.out.mono ?_
 rintro e w2 ⟨hb2, A2, m2, c2, rfl, hm2, hown2⟩
 obtain rfl : m2 = 6 := hm2
 obtain ⟨hc6, hcm⟩ := own_cap hown2
 have HB2 := Lib.hid (HB1.out.trans (hb2.mono HB1.out.size))
 have hsl2 : Sl w2 1 A2 6 (bytesV chA) := Sl.ofOwn hown2
 have HC2 := Lib.hid (And.intro hc6 hcm)
 have hba : Below w2.heap.size w2 (w2.alloc (.cells #[.slice A2 6 c2] 38)) := (Below.refl _ _).alloc (Nat.le_refl _) _
 have HSU := Lib.hid (show Calls Tryz.prog 19 #[.slice (some ⟨w2.heap.size, 0, none⟩) 1 1] (w2.alloc (.cells #[.slice A2 6 c2] 38)) fun e w' => e = .returned (.agg (bytesV rtA).toArray) ∧ Below (w2.alloc (.cells #[.slice A2 6 c2] 38)).heap.size (w2.alloc (.cells #[.slice A2 6 c2] 38)) w' from
  sum_any (some ⟨w2.heap.size, 0, none⟩) 1 1 [.slice A2 6 c2] [chA] _ (by have := Sl.one w2 (.slice A2 6 c2) 38; simpa using this) ((AllB.nil _).snoc (SlB.of (hsl2.below hba) hc6 hcm)) (by omega) (by simp [chA]))
 have h32 : rtA.length = 32 := shaG_len32 chA
 obtain ⟨RA, hRA⟩ : ∃ RA, RA = rtA := ⟨_, rfl⟩
 obtain ⟨KX, hKX⟩ : ∃ KX, KX = (bytesV rtA).toArray := ⟨_, rfl⟩
 have HI := Lib.hid (show (Tryz.prog.info? 33).map (·.size) = some KX.size by rw [hKX]; exact oid_size h32)
 have hks : KX.size = 32 := by rw [hKX]; simp [bytesV, h32]
 have HZZ := Lib.hid (show zID.size = KX.size by rw [hks]; rfl)
 have HO := Lib.hid (show KX.all (·.oneCell') = true by rw [hKX]; exact oid_one _)
 have HKX := Lib.hid hKX
 have HKS := Lib.hid hks
 rw [← hKX] at HSU
 have HBA := Lib.hid hba
 have HSL2 := Lib.hid hsl2
 have HLE2 := Lib.hid hb2.size
 clear hb2 hown2 hsl2 hba HPC HW1 hc6 hcm kc hKX hRA hks
 go_wp2_with fail
 refine HSU.out.mono ?_
 rintro e w3 ⟨rfl, hb3⟩
 have HB3 := Lib.hid (HBA.out.trans (hb3.mono HBA.out.size))
 have HNB := Lib.hid (Blk.new w3 33 zID)
 clear hb3 HSU HBA
 go_upto_region 3 with (first | (refine wpList_store_row rfl _ _ _ rfl w3.heap.size KX rfl rfl 33 _ HNB.out HI.out HZZ.out HO.out ?_) | fail)
 rw [World.setRow_alloc_new]
 go_frame
 change Code.wp _ _ _ _ (w3.alloc (.cells KX 33))
 have HK4 := Lib.hid (Blk.new w3 33 KX)
 have HB4 := Lib.hid (show Below w2.heap.size w2 (w3.alloc (.cells KX 33)) from HB3.out.alloc HB3.out.size _)
 generalize hg3 : w3.heap.size = g3 at *
 generalize w3.alloc (.cells KX 33) = w4 at *
 clear HNB hg3 HZZ HO HB3
 have HBB4 := Lib.hid (HB2.out.trans (HB4.out.mono HB2.out.size))
 have HSL4 := Lib.hid (HSL2.out.below HB4.out)
 have HSR := Lib.hid (shelf_src w4 none 0 0 [] SlOf.nil rfl (by omega) (fun r hr => nomatch hr))
 have HNE := Lib.hid (new_any 31 (.agg #[.slice none 0 0]) rtA w4 h32)
 rw [show idV rtA = .agg KX by rw [HKX.out]] at HNE
 clear HSL2 HB4
 go_wp2_with (first | (refine wpList_load_at rfl _ _ rfl g3 0 rfl KX _ (At.of_row HK4.out) Tryz.underlying33 rfl HI.out ?_) | fail)
 refine HNE.out.mono ?_
 rintro e w5 ⟨hb5, g, mb, rfl, hft⟩
 have HF5 := Lib.hid hft
 have HB5 := Lib.hid hb5
 clear hb5 hft HNE
 go_upto_region 4 with fail
 obtain ⟨wd, hwd⟩ : ∃ wd, wd = w5.drew := ⟨_, rfl⟩
 have hbd : Below w5.heap.size w5 wd := by rw [hwd]; exact Same.below ⟨1, rfl⟩ _
 have HWD := Lib.hid hwd
 have HFD := Lib.hid (HF5.out.go hbd)
 have HBD := Lib.hid (HB5.out.trans (hbd.mono HB5.out.size))
 have HL := Lib.hid (lack_law (g := g) (mb := mb) (root := rtA) w4 HSR.out (getB_fin []) 10 (by simp))
 have HDO := Lib.hid (fun w m (hb : Below w4.heap.size w4 w) (hft : FT w w4.heap.size g 31 (.agg #[.slice none 0 0]) rtA mb m []) => show Calls Tryz.prog 12 #[.pointer (some ⟨g, 0, none⟩)] w fun e w' => e = .returned (.bool false) ∧ Below w.heap.size w w' by
  have := done_any w g _ (HL.out.run w m [] hb hft (by simp))
  rw [show lackL (srcF (getB []) []) rtA = [rtA] from lackA0] at this
  exact this)
 have HDO2 := Lib.hid (fun w m (hb : Below w4.heap.size w4 w) (hft : FT w w4.heap.size g 31 (.agg #[.slice none 0 0]) rtA mb m adA) => show Calls Tryz.prog 12 #[.pointer (some ⟨g, 0, none⟩)] w fun e w' => e = .returned (.bool true) ∧ Below w.heap.size w w' by
  have := done_any w g _ (HL.out.run w m adA hb hft (by simp))
  rw [show lackL (srcF (getB []) adA) rtA = [] from lackA1] at this
  exact this)
 have HWA := Lib.hid (fun w m (hb : Below w4.heap.size w4 w) (hft : FT w w4.heap.size g 31 (.agg #[.slice none 0 0]) rtA mb m []) => show Calls Tryz.prog 10 #[.pointer (some ⟨g, 0, none⟩)] w fun e w' => Below w.heap.size w w' ∧ ∃ b off c, e = .returned (.slice (some ⟨b, off, none⟩) 1 c) ∧ At w' ⟨b, off, none⟩ KX by
  have := want_any w g _ (HL.out.run w m [] hb hft (by simp))
  rw [show lackL (srcF (getB []) []) rtA = [rtA] from lackA0] at this
  refine this.mono ?_
  rintro e w' ⟨h1, A, m', c, rfl, hm', _, _, hsl⟩
  obtain rfl : m' = 1 := hm'
  obtain ⟨b, off, o, rfl, _, ho, _, hat⟩ := oids_look hsl rfl (i := 0) (by simp)
  have ho : o = rtA := by simpa using ho.symm
  subst ho
  exact ⟨h1, b, off, c, rfl, by rw [HKX.out]; simpa using hat⟩)
 have he := fun w => neqId_of h32 h32 w
 rw [← HKX.out] at he
 simp only [beq_self_eq_true, Bool.not_true] at he
 have hg3 := HK4.out.lt
 have HL3 := Lib.hid hg3
 clear hwd hbd HB5 HF5
 refine wp_region_held (S := fun w' => Below w4.heap.size w4 w') (by kernel_rfl) ?_
 change wpAnyH _ _ _ _ _ _ _ _ (World.drew _)
 rw [← HWD.out]
 refine rgT 0 HBD.out ?_
 refine rgT 1 HBD.out ?_
 refine rgT 2 HBD.out ?_
 refine rgT 3 HBD.out ?_
 refine held_ready (rs := [4]) (by kernel_rfl) (by simp) ?_
 refine AllHeld.cons rfl (fun KR hKR => ?_) ?_
 ·go_simp
  refine (HDO.out wd _ HBD.out HFD.out).mono ?_
  rintro e w6 ⟨rfl, hb6⟩
  have hc4 := HBD.out.trans (hb6.mono HBD.out.size)
  have HF6 := Lib.hid (HFD.out.go hb6)
  clear hb6
  refine hKR _ _ hc4 ?_
  clear hKR KR
  refine rgT 5 hc4 ?_
  refine rgT 6 hc4 ?_
  refine rgT 7 hc4 ?_
  refine held_ready (rs := [8]) (by kernel_rfl) (by simp) ?_
  refine AllHeld.cons rfl (fun KR hKR => ?_) ?_
  ·go_simp
   refine (HWA.out w6 _ hc4 HF6.out).mono ?_
   rintro e w7 ⟨hb7, b7, o7, c7, rfl, _⟩
   have hc8 := hc4.trans (hb7.mono hc4.size)
   have HF7 := Lib.hid (HF6.out.go hb7)
   clear hb7
   refine hKR _ _ hc8 ?_
   clear hKR KR
   refine rgT 9 hc8 ?_
   refine rgT 10 hc8 ?_
   refine rgT 11 hc8 ?_
   refine rgT 12 hc8 ?_
   refine rgT 13 hc8 ?_
   refine rgU 17 (v := ?_) (a' := ?_) hc8 ?_ ?_ ?_
   rotate_left 2
   ·(intro w hS; refine exec_load_at 33 (.tmp 3) ?_ g3 0 ?_ KX _ (At.of_row (HK4.out.below hS hg3)) Tryz.underlying33 rfl HI.out; exact rfl; exact rfl)
   ·(go_simp; try with_reducible rfl)
   refine held_ready (rs := [14]) (by kernel_rfl) (by simp) ?_
   refine AllHeld.cons rfl (fun KR hKR => ?_) ?_
   ·go_simp
    refine (HWA.out w7 _ hc8 HF7.out).mono ?_
    rintro e w8 ⟨hb8, b8, o8, c8, rfl, hat8⟩
    have hc14 := hc8.trans (hb8.mono hc8.size)
    have HF8 := Lib.hid (HF7.out.go hb8)
    have HAT8 := Lib.hid hat8
    have kc := Lib.run_convert_bytes_const (P := Tryz.prog) w8 38 5 #[.int .u8 110, .int .u8 111] 2 2 Tryz.underlying38 Tryz.underlying5
    have HTK := Lib.hid (take_awake HL.out hc14 HF8.out (HSL4.out.below hc14) HC2.out)
    clear hb8 hat8
    refine hKR _ _ hc14 ?_
    clear hKR KR
    refine rgT 15 hc14 ?_
    refine held_ready (rs := [16]) (by kernel_rfl) (by simp) ?_
    refine AllHeld.cons rfl (fun KR hKR => ?_) ?_
    ·refine step_val (by rfl) (exec_load_at 33 (.tmp 35) rfl b8 o8 rfl KX _ HAT8.out Tryz.underlying33 rfl HI.out) ?_
     refine hKR _ _ hc14 ?_
     clear hKR KR
     refine rgT 18 hc14 ?_
     refine rgT 19 hc14 ?_
     refine rgT 20 hc14 ?_
     refine rgT 21 hc14 ?_
     refine rgT 24 hc14 ?_
     refine rgT 25 hc14 ?_
     refine held_ready (rs := [22]) (by kernel_rfl) (by simp) ?_
     refine AllHeld.cons rfl (fun KR hKR => ?_) ?_
     ·go_simp
      skip
      refine hKR _ _ (hc14.alloc hc14.size _) ?_
      clear hKR KR
      refine held_ready (rs := [23]) (by kernel_rfl) (by simp) ?_
      refine AllHeld.cons rfl (fun KR hKR => ?_) ?_
      ·go_simp
       skip
       refine hKR _ _ (hc14.alloc hc14.size _) ?_
       clear hKR KR
       refine held_ready (rs := [26]) (by kernel_rfl) (by simp) ?_
       refine AllHeld.cons rfl (fun KR hKR => ?_) ?_
       ·go_simp
        have hc26 := (hc14.alloc hc14.size (.cells #[.int .u8 110, .int .u8 111] 5 (2, 3))).alloc (by have := hc14.size; simp; omega) (.cells #[.slice (some ⟨w8.heap.size, 0, none⟩) 2 2, .slice A2 6 c2, .slice A2 6 c2] 38)
        refine hKR _ _ hc26 ?_
        clear hKR KR
        refine held_ready (rs := [27]) (by kernel_rfl) (by simp) ?_
        refine AllHeld.cons rfl (fun KR hKR => ?_) ?_
        ·go_simp
         refine HTK.out.mono ?_
         rintro e w12 ⟨rfl, m12, hft12, hc27⟩
         have HF12 := Lib.hid hft12
         clear hft12 HTK kc
         refine hKR _ _ hc27 ?_
         clear hKR KR
         refine rgT 28 hc27 ?_
         refine rgT 29 hc27 ?_
         refine rgT 30 hc27 ?_
         refine rgT 31 hc27 ?_
         refine held_ready (rs := [32]) (by kernel_rfl) (by simp) ?_
         refine AllHeld.cons rfl (fun KR hKR => ?_) ?_
         ·go_simp
          refine (HDO2.out w12 _ hc27 HF12.out).mono ?_
          rintro e w13 ⟨rfl, hb13⟩
          have hc32 := hc27.trans (hb13.mono hc27.size)
          have HF13 := Lib.hid (HF12.out.go hb13)
          have HRO := Lib.hid (root_any w13 HF13.out)
          rw [show idV rtA = .agg KX by rw [HKX.out]] at HRO
          clear hb13
          refine hKR _ _ hc32 ?_
          clear hKR KR
          refine rgT 33 hc32 ?_
          refine rgT 34 hc32 ?_
          refine rgT 35 hc32 ?_
          refine rgT 36 hc32 ?_
          refine rgU 38 (v := ?_) (a' := ?_) hc32 ?_ ?_ ?_
          rotate_left 2
          ·(intro w hS; refine exec_load_at 33 (.tmp 3) ?_ g3 0 ?_ KX _ (At.of_row (HK4.out.below hS hg3)) Tryz.underlying33 rfl HI.out; exact rfl; exact rfl)
          ·(go_simp; try with_reducible rfl)
          refine held_ready (rs := [37]) (by kernel_rfl) (by simp) ?_
          refine AllHeld.cons rfl (fun KR hKR => ?_) ?_
          ·go_simp
           refine HRO.out.mono ?_
           rintro e w14 ⟨rfl, hb14⟩
           have hc37 := hc32.trans (hb14.mono hc32.size)
           have HF14 := Lib.hid (HF13.out.go hb14)
           clear hb14
           refine hKR _ _ hc37 ?_
           clear hKR KR
           refine rgT 39 hc37 ?_
           refine rgT 40 hc37 ?_
           refine wpAnyH_done (by kernel_rfl) ?_ _
           go_upto_region 6 with fail
           have HK14 := Lib.hid (HK4.out.below hc37 HL3.out)
           have HB14 := Lib.hid hc37
           have HGE := Lib.hid (fget_any w4 w14 HSR.out hc37 HF14.out rtA h32)
           rw [show idV rtA = .agg KX by rw [HKX.out], show srcF (getB []) adA rtA = some chA from srcA] at HGE
           clear hc4 hc8 hc14 hc27 hc32 hc37 HF13 HF12 HF8 HF7 HF6 HRO HAT8 HDO HDO2 HWA HK4
           go_wp2_with (first | (refine wpList_load_at rfl _ _ rfl g3 0 rfl KX _ (At.of_row HK14.out) Tryz.underlying33 rfl HI.out ?_) | fail)
           refine HGE.out.mono ?_
           rintro e w15 ⟨hb15, A5, c5, rfl, hs5, hc5, hm5⟩
           go_upto_region 7 with fail
           have HB15 := Lib.hid (HB14.out.trans (hb15.mono HB14.out.size))
           have HF15 := Lib.hid (HF14.out.go hb15)
           have HK15 := Lib.hid (HK14.out.below hb15 HK14.out.lt)
           have hcv1 := cvt_of (slOf_bytes hs5) c5
           have hcv2 := cvt_of (HSL4.out.below HB15.out) c2
           have HRC := Lib.hid (records_any w4 w15 HSR.out HB15.out HF15.out (getB_fin []) (by simp))
           rw [show recsF (getB []) adA rtA = [chA] from recsA] at HRC
           obtain ⟨n5, hn5⟩ : ∃ n5, n5 = chA.length := ⟨_, rfl⟩
           have HIZ := Lib.hid (show zID.size = 32 from rfl)
           rw [← hn5] at hcv1 ⊢
           clear hb15 hs5 hc5 hm5 HF14 HK14 HB14 HGE hn5
           go_wp2_with fail
           refine HRC.out.mono ?_
           rintro e w16 ⟨hb16, A16, m16, c16, rfl, hr16⟩
           obtain rfl : m16 = 1 := hr16.len
           have HB16 := Lib.hid (HB15.out.trans (hb16.mono HB15.out.size))
           have HK16 := Lib.hid (HK15.out.below hb16 HK15.out.lt)
           have hbs := bsIds2 w16 KX zID HKS.out HIZ.out
           have HSV := Lib.hid (serve_awake HSR.out HB16.out (HF15.out.go hb16) HKX.out)
           clear hr16 hb16 hcv1 hcv2 HRC
           go_wp2_with (first
            | (refine wpList_val_g (by rfl) (exec_load_at 33 (.tmp 3) rfl g3 0 rfl KX _ (At.of_row HK16.out) Tryz.underlying33 rfl HI.out) ?_)
            | (refine wpList_val_g (by rfl) (exec_b0 33 rfl (.agg zID) (zid_build _)) ?_)
            | (refine wpList_val_g (by rfl) (exec_bs2 46 (.tmp 85) (.tmp 86) rfl (.agg KX) (.agg zID) _ rfl rfl hbs) ?_) | fail)
           refine HSV.out.mono ?_
           rintro e w17 ⟨hb17, _, A17, c17, rfl⟩
           have HB17 := Lib.hid (HB16.out.trans (hb17.mono HB16.out.size))
           clear hb17 HSV hbs
           go_wp2_with fail
           go_ret
           exact ⟨rfl, HBB4.out.trans (HB17.out.mono HBB4.out.size)⟩
          exact AllHeld.nil
         exact AllHeld.nil
        exact AllHeld.nil
       exact AllHeld.nil
      exact AllHeld.nil
     exact AllHeld.nil
    exact AllHeld.nil
   exact AllHeld.nil
  exact AllHeld.nil
 exact AllHeld.nil
end Go.Proofs.YtgmbkcjihgphmaaGreat
/- records of which no two unlike ones have one id. -/
namespace Go.Proofs.YtgmbkcjihgphmaaGreat
open Go.RowKit
end Go.Proofs.YtgmbkcjihgphmaaGreat
/- what comes into a fetch, plain: it fits the other one's records; what is lacking can be reached there. -/
namespace Go.Proofs.YtgmbkcjihgphmaaGreat
open Go.RowKit
section
variable {rs bs : List RecT} {ad : AsT} {x b root : List UInt8}
def take1 (L : AsT → List (List UInt8)) (ad : AsT) (b : List UInt8) : AsT × Nat := if (lkB (linksG b) && (L ad).contains (shaG b)) = true then ((shaG b, b) :: ad, 1) else (ad, 0)
theorem takeF_one (L : AsT → List (List UInt8)) (ad : AsT) (b : List UInt8) : takeF L [b] ad 0 = take1 L ad b := by
 unfold takeF take1
 split <;> rfl
theorem take1_len (L : AsT → List (List UInt8)) (ad : AsT) (b : List UInt8) : (take1 L ad b).1.length ≤ ad.length + 1 := by
 unfold take1
 split <;> simp
end
/-- one record comes in -/
theorem take_one {T : TypeId} {V : Value} {g mb J : Nat} {root : List UInt8} {m : IM} {ad : AsT} {L : AsT → List (List UInt8)} (W0 w : World) (hL : LackLaw W0 g T V root mb L J) (hB : Below W0.heap.size W0 w) (h : FT w W0.heap.size g T V root mb m ad)
  (A : Option Addr) (n c : Nat) (b : List UInt8) (hs : Sl w 1 A n (bytesV b)) (hn : n = b.length) (hc : n ≤ c) (hcm : c ≤ maxLen) (hl : n ≤ 1000000000) (hJ : ad.length + 1 ≤ J) :
  Calls Tryz.prog 8 #[.pointer (some ⟨g, 0, none⟩), .slice (some ⟨w.heap.size, 0, none⟩) 1 1] (w.alloc (.cells #[.slice A n c] 38))
   fun e w' => ∃ m', e = .returned (.int .i64 ((take1 L ad b).2 : Int)) ∧ FT w' W0.heap.size g T V root mb m' (take1 L ad b).1 ∧ Below W0.heap.size W0 w' ∧ w.grownBy w' (some mb) := by
 subst hn
 have hb1 : Below w.heap.size w (w.alloc (.cells #[.slice A b.length c] 38)) := (Below.refl _ _).alloc (Nat.le_refl _) _
 have hf := Sl.one w (.slice A b.length c) 38
 have hmb := h.map.lt
 generalize w.alloc (.cells #[.slice A b.length c] 38) = w1 at *
 have hft := h.go hb1
 have hsb : SlOf byteR w1 (fun b => b = mb) A b := apart_map ⟨_, hs.below hb1, bytes_each _ _ _, fun _ _ _ _ q => q⟩ hft.map
 have hsl : SlOf byR w1 (fun b => b = mb) (some ⟨w.heap.size, 0, none⟩) [b] :=
  ⟨_, hf, .cons (cs := [.slice A b.length c]) ⟨_, c, rfl, hc, hcm, hsb⟩ .nil, fun _ k off e => by
   have e := Option.some.inj e
   injection e with e
   omega⟩
 have hbw := hB.trans (hb1.mono hB.size)
 refine (takes_any W0 w1 hL hbw hft _ 1 1 [b] hsl rfl (by omega) (fun y hy => by have : y = b := (by simpa using hy); subst this; exact hl) hJ).mono ?_
 rw [takeF_one]
 rintro e w' ⟨m', he, h1, h2⟩
 exact ⟨m', he, h1, hbw.grown h2 hbw.size (fun k e => by have := Option.some.inj e; have := h.basem; omega), grown_trans (grown_below hb1 _) h2⟩
end Go.Proofs.YtgmbkcjihgphmaaGreat
