/- Contracts and laws for what the statement reaches, joined: ObjPutChunk, ObjIdsV, ObjBuildN. -/
import Derived.Test.YtgmbkcjihgphmaaJn25
import Derived.Test.YtgmbkcjihgphmaaJn6
/- object.PutChunk. -/
set_option linter.unusedVariables false
set_option linter.unusedSimpArgs false
namespace Go.Proofs.Ytgmbkcjihgphmaa
open Go.RowKit
attribute [local go_sem ↓] cvt_eq

set_option maxRecDepth 100000 in
set_option maxHeartbeats 4000000 in
theorem putChunk_any (A : Option Addr) (n c : Nat) (l : List UInt8) (w : World) (hs : Sl w 1 A n (bytesV l)) (hnc : n ≤ c) (hcm : c ≤ maxLen) :
    Calls Try.prog 8 #[.slice A n c] w (EncPost w (putChunk l)) := by
  have hn : n = l.length := by have := hs.1; rw [bytesV_length] at this; omega
  obtain ⟨R, hR⟩ : ∃ R, R = putChunk l := ⟨_, rfl⟩
  have HR := Lib.hid (show R = if 262144 < n then .error 2 else sealG 1 [txtV l] by rw [hR, hn]; rfl)
  rw [← hR]
  have HS := Lib.hid hs
  have HN := Lib.hid hn
  simp only [maxLen] at hcm
  clear hR hs hn
  by_cases hl : 262144 < n
  · have hI : (262144 : Int) < (n : Int) := by omega
    have HRR := Lib.hid (show R = .error 2 by rw [HR.out, if_pos hl])
    go_enter Try.func8, Try.ntmps8
    go_wp2_with fail
    go_ret2
    exact ⟨Below.refl _ _, by rw [HRR.out]; rfl⟩
  · have hI : ¬ (262144 : Int) < (n : Int) := by omega
    have HRR := Lib.hid (show R = sealG 1 [txtV l] by rw [HR.out, if_neg hl])
    have hcv : cvt w A n c = .ok (.string ⟨l.toArray⟩) w := by rw [HN.out]; exact cvt_of (by have := HS.out; rwa [HN.out] at this) c
    have HTX := Lib.hid (text_any ⟨l.toArray⟩ w (by simp only [ByteArray.size, maxLen, List.size_toArray]; have := HN.out; omega))
    go_enter Try.func8, Try.ntmps8
    go_wp2_with fail
    refine HTX.out.mono ?_
    rintro e w2 ⟨⟨cs, rfl, hv⟩, hb2⟩
    have hk5 : cs.length = 5 := valR.len hv
    obtain ⟨K, hK⟩ : ∃ K, K = cs.toArray := ⟨_, rfl⟩
    have hKs : K.size = 5 := by rw [hK]; simpa using hk5
    have hbs := fun w => bsVal_of w K hKs
    have hba : Below w2.heap.size w2 (w2.alloc (.cells K 72)) := (Below.refl _ _).alloc (Nat.le_refl _) _
    have hsl : SlOf valR (w2.alloc (.cells K 72)) no (some ⟨w2.heap.size, 0, none⟩) [txtV l] := by
      refine SlOf.ofOwn (c := 1) (row_oneV hKs (Nat.le_refl _)) ?_
      have hmv : Moves w2 (w2.alloc (.cells K 72)) (fun b => b < w.heap.size) (own (.slice (some ⟨w2.heap.size, 0, none⟩) 1 1)) := ⟨hba.size, fun b hb _ => hba.block b hb, fun b hb _ ho => by
        have ho : some w2.heap.size = some b := ho
        have := Option.some.inj ho
        omega⟩
      have hv2 := valR.stable hv hmv
      have hKl : K.toList = cs := by rw [hK]
      rw [hKl]
      have := Each.cons (R := valR.R (w2.alloc (.cells K 72)) (own (.slice (some ⟨w2.heap.size, 0, none⟩) 1 1))) hv2 Each.nil
      simpa [txtV] using this
    have HSEAL := Lib.hid (seal_any 1 (some ⟨w2.heap.size, 0, none⟩) 1 1 [txtV l] (w2.alloc (.cells K 72)) (by omega) hsl rfl (by omega) (by simp only [bulkV, bulkVs, txtV]; have := HN.out; omega))
    have HB3 := Lib.hid (hb2.trans (hba.mono hb2.size))
    rw [← hK]
    clear hv hK hKs hba hsl hb2 HTX hk5
    go_wp2_with (first
      | (refine wpList_build1 rfl (.tmp 9) rfl (.agg K) _ rfl (hbs _) ?_)
      | fail)
    refine HSEAL.out.mono ?_
    intro e w5 hp
    have hp := hp.lower HB3.out
    rw [← HRR.out] at hp
    have HP := Lib.hid hp
    clear hp HSEAL
    have hp := HP.out
    cases R with
    | error z =>
      obtain ⟨h1, h2⟩ := hp
      have h2 : e = _ := h2
      subst h2
      have H1 := Lib.hid h1
      clear h1 HP
      go_wp2_with fail
      go_ret2
      exact ⟨H1.out, rfl⟩
    | ok o =>
      obtain ⟨h1, A9, m9, c9, rfl, h3, h4⟩ := hp
      have H1 := Lib.hid (And.intro h1 (And.intro h3 h4))
      clear h1 h3 h4 HP
      go_wp2_with fail
      go_ret2
      exact ⟨H1.out.1, A9, m9, c9, rfl, H1.out.2⟩
end Go.Proofs.Ytgmbkcjihgphmaa

/- object.ids. -/
set_option linter.unusedVariables false
set_option linter.unusedSimpArgs false
namespace Go.Proofs.Ytgmbkcjihgphmaa
open Go.RowKit
attribute [local go_sem ↓] cvt_eq

set_option maxRecDepth 100000 in
set_option maxHeartbeats 1000000 in
/-- row_any, away from what was there ahead of B -/
theorem row_anyA (B : Nat) (L : Option Addr) (m c : Nat) (vs : List Val) (w : World) (hB : B ≤ w.heap.size) (hs : SlOf valR w (fun b => b < B) L vs) (hm : m = vs.length) (hml : m ≤ 1048576) : Calls Try.prog 38 #[.slice L m c] w fun e w' => (∃ cs : List Value, e = .returned (.agg cs.toArray) ∧ valR.R w' (fun b => b < B) cs (.mk 3 0 [] 0 vs)) ∧ Below w.heap.size w w' := by
  subst hm
  obtain ⟨xs, hsl, hes, _⟩ := hs
  have hb2 : Below w.heap.size w ((w.alloc (.cells #[.int .i64 0, .int .u64 0, .slice none 0 0, .float .f64 0, .slice none 0 0] 72)).alloc (.cells #[] 72)) := ((Below.refl _ _).alloc (Nat.le_refl _) _).alloc (by simp) _
  have hown := own_made (base := w.heap.size + 1) (w.alloc (.cells #[.int .i64 0, .int .u64 0, .slice none 0 0, .float .f64 0, .slice none 0 0] 72)) 72 5 (by simp)
  obtain ⟨A7, c7, w7, run7, ap7, hc7, hm7⟩ := append_sl elemVal hown (hsl.below hb2) (hes.all (p := fun u => u.oneCell' = true) (fun _ _ h => valR.one h)) (by omega) (by simp only [maxLen]; omega) (by simp) 70 c
  simp only [Nat.zero_add, List.nil_append] at run7 ap7 hc7
  have hb7 : Below w.heap.size w w7 := hb2.trans (ap7.below.mono (Nat.le_succ _))
  have HR7 := Lib.hid ap7.own
  have HES := Lib.hid (hes.mono fun _ _ h => valR.stable h ((show Moves w w (fun b => b < B) (fun b => b < B ∨ w.heap.size ≤ b) from ⟨Nat.le_refl _, fun _ _ _ => rfl, fun b h h1 h' => by have h1 : ¬ b < B := h1; have h' : b < B ∨ w.heap.size ≤ b := h'; omega⟩).trans (Moves.of_below hb7)))
  have HB7 := Lib.hid hb7
  have HBL := Lib.hid (((Blk.new w 72 #[.int .i64 0, .int .u64 0, .slice none 0 0, .float .f64 0, .slice none 0 0]).alloc (.cells #[] 72)).below ap7.below (Nat.lt_succ_self _))
  obtain ⟨KV, hKV⟩ : ∃ KV, KV = cellsV 3 0 none 0 0 0 A7 vs.length c7 := ⟨_, rfl⟩
  have HI := Lib.hid (show (Try.prog.info? 72).map (·.size) = some KV.size by rw [hKV]; exact cellsV_info _ _ _ _ _ _ _ _ _)
  have HO := Lib.hid (show KV.all (·.oneCell') = true by rw [hKV]; exact cellsV_one _ _ _ _ _ _ _ _ _)
  have HKV := Lib.hid hKV
  have HC := Lib.hid (And.intro hc7 hm7)
  clear hKV hsl hes hb2 hown hb7 ap7 hc7 hm7
  have hsz : (w.alloc (.cells #[.int .i64 0, .int .u64 0, .slice none 0 0, .float .f64 0, .slice none 0 0] 72)).heap.size = w.heap.size + 1 := by simp
  rw [hsz] at run7
  go_enter Try.func38, Try.ntmps38
  go_wp2_with (first | (at_builtin; refine wpList_run_append run7 ?_ ?_ ?_; exact rfl; exact rfl) | (refine wpList_store_row rfl _ _ _ rfl w.heap.size KV rfl (by rw [HKV.out]; rfl) 72 _ HBL.out HI.out (by rw [HKV.out]; rfl) HO.out ?_) | fail)
  refine bodyPost_ret (results_cell_row rfl _ _ w.heap.size 72 KV (0, 0) _ rfl (setRow_heap _ w.heap.size _ _ _ _ HBL.out) Try.underlying72 rfl HI.out) rfl ?_
  refine ⟨⟨KV.toList, by simp, ?_⟩, below_setRow HB7.out (Nat.le_refl _) KV⟩
  have hrow := own_row HR7.out (g := w.heap.size) (cs := KV) (Nat.lt_succ_self _)
  have hmv : Moves w7 (w7.setRow w.heap.size KV) (fun b => b < B ∨ w.heap.size ≤ b) (fun b => b < B) := (Moves.grown (grown_row w7 w.heap.size KV) (.inr (Nat.le_refl _))).trans (Moves.less _ (fun b _ h => .inl h))
  rw [show KV.toList = (cellsV 3 0 none 0 0 0 A7 vs.length c7).toList from by rw [HKV.out]]
  exact valR_iff.2 ⟨none, 0, A7, c7, rfl, by decide, by omega, by omega, ⟨Nat.le_refl _, Nat.zero_le _, SlOf.nil⟩, HC.out.1, HC.out.2, xs, Sl.ofOwn hrow, HES.out.mono fun _ _ k => valR.stable k hmv, fun h0 b off e => by
    subst e
    have := (hrow.lt b rfl).1
    show ¬ b < B
    omega⟩

set_option maxRecDepth 100000 in
set_option maxHeartbeats 4000000 in
theorem idsV_any (A : Option Addr) (n c : Nat) (is : List (List UInt8)) (w : World) (hs : SlOf oidR w no A is) (hn : n = is.length) (hnl : n ≤ 1000000) :
    Calls Try.prog 34 #[.slice A n c] w fun e w' => (∃ cs : List Value, e = .returned (.agg cs.toArray) ∧ valR.R w' no cs (lstV (is.map txtV))) ∧ Below w.heap.size w w' := by
  have hba : Below w.heap.size w (w.alloc (.cells zVal 72)) := (Below.refl _ _).alloc (Nat.le_refl _) _
  have HS := Lib.hid (hs.below hba)
  have HN := Lib.hid hn.symm
  have HB1 := Lib.hid hba
  have HZ := Lib.hid (Blk.new w 72 zVal)
  clear hs hn hba
  go_enter Try.func34, Try.ntmps34
  go_upto_region 1 with fail
  change Code.wp _ _ _ _ (w.alloc (.cells zVal 72))
  generalize w.alloc (.cells zVal 72) = w1 at *
  have HR0 := Lib.hid (show RowB valR 72 w1 w1.heap.size none 0 0 ((is.take 0).map txtV) from RowB.nil _ _ _ _)
  go_wp2_with fail
  go_loopw [3, 8] (fun s3 s8 wr => ∃ (k : Nat) (A' : Option Addr) (c' : Nat), k ≤ n ∧ s3 = .slice A' k c' ∧ s8 = .int .i64 (k : Int) ∧ Hid (Below w1.heap.size w1 wr) ∧ Hid (RowB valR 72 wr w1.heap.size A' k c' ((is.take k).map txtV))) (fun s3 s8 wr => n - (intOf s8).toNat)
  case atStart => exact ⟨0, none, 0, by omega, rfl, rfl, Lib.hid (Below.refl _ _), HR0⟩
  case round =>
    obtain ⟨k, A', c', hk, rfl, rfl, HBL, HRW⟩ := hrel
    by_cases hlt : k < n
    · have hltI : (k : Int) < (n : Int) := by omega
      obtain ⟨b1, o1, x, hA, hb1, hx, h32, hat⟩ := oids_look (HS.out.below HBL.out) HN.out hlt
      obtain ⟨KX, hKX⟩ : ∃ KX, KX = (bytesV x).toArray := ⟨_, rfl⟩
      have HI := Lib.hid (show (Try.prog.info? 33).map (·.size) = some KX.size by rw [hKX]; exact oid_size h32)
      have HO := Lib.hid (show KX.all (·.oneCell') = true by rw [hKX]; exact oid_one x)
      have HZS := Lib.hid (show (bytesV (List.replicate 32 0)).toArray.size = KX.size by rw [hKX]; simp [bytesV, h32])
      rw [← hKX] at hat
      have HAT := Lib.hid hat
      have HBN := Lib.hid (Blk.new wr 33 (bytesV (List.replicate 32 0)).toArray)
      have hba : Below wr.heap.size wr (wr.alloc (.cells KX 33)) := (Below.refl _ _).alloc (Nat.le_refl _) _
      have HBL2 := Lib.hid (HBL.out.trans (hba.mono HBL.out.size))
      have HRW2 := Lib.hid (HRW.out.below hba)
      have hsx : Sl (wr.alloc (.cells KX 33)) 1 (some ⟨wr.heap.size, 0, none⟩) 32 (bytesV x) := by
        have := sl_at (l := x) (At.of_row (show Blk (wr.alloc (.cells KX 33)) wr.heap.size 33 (bytesV x).toArray by rw [hKX]; exact Blk.new _ _ _)) (by simp)
        rwa [h32] at this
      have hcv : cvt (wr.alloc (.cells KX 33)) (some ⟨wr.heap.size, 0, none⟩) 32 32 = .ok (.string ⟨x.toArray⟩) (wr.alloc (.cells KX 33)) := by
        have := cvt_of (l := x) (show Sl (wr.alloc (.cells KX 33)) 1 (some ⟨wr.heap.size, 0, none⟩) x.length (bytesV x) by rw [h32]; exact hsx) 32
        rwa [h32] at this
      have HTX := Lib.hid (text_any ⟨x.toArray⟩ (wr.alloc (.cells KX 33)) (by simp only [ByteArray.size, maxLen, List.size_toArray]; omega))
      have htk : (is.take (k + 1)).map txtV = (is.take k).map txtV ++ [txtV x] := by rw [List.take_add_one, hx]; simp
      have HTK := Lib.hid htk
      subst hA
      clear hx h32 hat hKX hsx htk hba HRW HBL
      go_upto_region 5 with (first
        | (refine wpList_load_at rfl _ _ rfl b1 (o1 + k * 32) rfl KX _ HAT.out Try.underlying33 rfl HI.out ?_)
        | (refine wpList_store_row rfl _ _ _ rfl wr.heap.size KX rfl rfl 33 _ HBN.out HI.out HZS.out HO.out ?_) | fail)
      rw [World.setRow_alloc_new]
      clear HBN HI HO HZS HAT
      generalize wr.alloc (.cells KX 33) = w8 at *
      generalize wr.heap.size = gx at *
      go_wp2_with fail
      refine HTX.out.mono ?_
      rintro e w9 ⟨⟨cs, rfl, hv⟩, hb9⟩
      have hv : valR.R w9 (fun b => b < w8.heap.size) cs (txtV x) := by simpa [txtV] using hv
      have hk5 : cs.length = 5 := valR.len hv
      obtain ⟨K, hK⟩ : ∃ K, K = cs.toArray := ⟨_, rfl⟩
      have hKs : K.size = 5 := by rw [hK]; simpa using hk5
      have hbs := fun w => bsVal_of w K hKs
      have hbl9 := HBL2.out.trans (hb9.mono HBL2.out.size)
      obtain ⟨A9, c9, w10, run9, hrow, hb10, _, _, _⟩ := (HRW2.out.below hb9).push elemVal hbl9.size hv (fun b _ ho => by
        show b < w8.heap.size
        rcases ho with ho | ho
        · exact Nat.lt_of_lt_of_le ho HBL2.out.size
        · exact (HRW2.out.lt ho).2) (by omega) (by simp only [maxLen]; omega) 70 1
      rw [← HTK.out] at hrow
      rw [← hK] at run9 ⊢
      have HR9 := Lib.hid hrow
      have HB9 := Lib.hid (hbl9.trans hb10)
      clear hv hk5 hK hKs hbl9 hrow hb10 hb9 HRW2 HBL2 HTK HTX hcv
      go_wp2_with (first
        | (refine wpList_build1 rfl (.tmp 15) rfl (.agg K) _ rfl (hbs _) ?_)
        | (at_builtin; refine wpList_run_append run9 ?_ ?_ ?_; exact rfl; exact rfl)
        | fail)
      go_roundw
      case rel => exact ⟨k + 1, A9, c9, by omega, rfl, by go_num, HB9, HR9⟩
      case measure => simp [intOf]; omega
    · have hltI : ¬ (k : Int) < (n : Int) := by omega
      obtain rfl : k = n := by omega
      have htk : is.take k = is := List.take_of_length_le (by rw [HN.out]; exact Nat.le_refl _)
      have hrow := HRW.out
      rw [htk] at hrow
      have hslw : SlOf valR wr (fun b => b < w1.heap.size) A' (is.map txtV) := hrow.sl
      have HROW := Lib.hid (row_anyA w1.heap.size A' k c' (is.map txtV) wr HBL.out.size hslw hrow.len (by omega))
      clear hrow hslw htk HRW
      go_wp2_with fail
      refine HROW.out.mono ?_
      rintro e w5 ⟨⟨cs, rfl, hv⟩, hb5⟩
      have hk5 : cs.length = 5 := valR.len hv
      have hone := valR.one hv
      obtain ⟨KV, hKV⟩ : ∃ KV, KV = cs.toArray := ⟨_, rfl⟩
      have HI := Lib.hid (show (Try.prog.info? 72).map (·.size) = some KV.size by rw [hKV, show cs.toArray.size = 5 from by simpa using hk5]; exact val_info)
      have HO := Lib.hid (show KV.all (·.oneCell') = true by rw [hKV]; simpa using hone)
      have HS5 := Lib.hid (show zVal.size = KV.size by rw [hKV]; simpa using hk5.symm)
      have hg1 : w.heap.size < w1.heap.size := HZ.out.lt
      have hbw5 := HBL.out.trans (hb5.mono HBL.out.size)
      have HZ5 := Lib.hid (HZ.out.below hbw5 hg1)
      have HB5 := Lib.hid (HB1.out.trans (hbw5.mono HB1.out.size))
      have HV := Lib.hid (show KV.toList = cs by rw [hKV])
      have HVV := Lib.hid (show valR.R w5 (fun b => b < w1.heap.size) cs (lstV (is.map txtV)) from hv)
      rw [← hKV]
      clear hKV hone hk5 hv hb5 hbw5 HROW
      go_wp2_with (first | (refine wpList_store_row rfl _ _ _ rfl w.heap.size KV rfl rfl 72 _ HZ5.out HI.out HS5.out HO.out ?_) | fail)
      refine bodyPost_ret (results_cell_row rfl _ _ w.heap.size 72 KV (0, 0) _ rfl (setRow_heap _ w.heap.size _ _ _ _ HZ5.out) Try.underlying72 rfl HI.out) rfl ?_
      refine ⟨⟨cs, by rw [← HV.out], ?_⟩, below_setRow HB5.out (Nat.le_refl _) KV⟩
      exact valR.stable HVV.out ((Moves.grown (grown_row w5 w.heap.size KV) hg1).trans (Moves.forget _ _))
end Go.Proofs.Ytgmbkcjihgphmaa

/- object: a slice of some values, built. -/
set_option linter.unusedVariables false
set_option linter.unusedSimpArgs false
namespace Go.Proofs.Ytgmbkcjihgphmaa
open Go.RowKit

theorem fill_step (K cells : Array Value) (off : Nat) (h : off + K.size ≤ cells.size) :
    (K.zipIdx.foldl (fun cs (p : Value × Nat) => cs.setIfInBounds (off + p.2) p.1) cells) = (cells.toList.take off ++ K.toList ++ cells.toList.drop (off + K.size)).toArray := by
  have h1 : K.zipIdx.foldl (fun cs (p : Value × Nat) => cs.setIfInBounds (off + p.2) p.1) cells = (K.toList.zipIdx 0).foldl (fun cs (p : Value × Nat) => cs.setIfInBounds (off + p.2) p.1) cells := by
    rw [← Array.foldl_toList, Array.toList_zipIdx]
  rw [h1]
  apply Array.ext_getElem?
  intro i
  rw [fill_get K.toList 0 off cells i (by simp; omega)]
  simp only [Nat.add_zero, Array.length_toList, List.getElem?_toArray]
  have ht : (cells.toList.take off).length = off := by rw [List.length_take, Array.length_toList]; omega
  by_cases h2 : i < off
  · rw [if_neg (by omega), List.append_assoc, List.getElem?_append_left (by rw [ht]; exact h2), List.getElem?_take, if_pos h2]; simp
  · by_cases h3 : i < off + K.size
    · rw [if_pos (by omega), List.append_assoc, List.getElem?_append_right (by rw [ht]; omega), ht, List.getElem?_append_left (by rw [Array.length_toList]; omega)]
    · rw [if_neg (by omega), List.getElem?_append_right (by rw [List.length_append, ht, Array.length_toList]; omega), List.length_append, ht, Array.length_toList, List.getElem?_drop]
      rw [show off + K.size + (i - (off + K.size)) = i by omega]; simp

theorem fill_seq : ∀ (Ks : List (Array Value)) (n : Nat) (cells : Array Value), (∀ K ∈ Ks, K.size = 5) → cells.size = (n + Ks.length) * 5 →
    Instr.fill (fun i => some (i * 5, 5)) cells ((Ks.zipIdx n).map fun p => (p.2, Value.agg p.1)) = some (cells.toList.take (n * 5) ++ Ks.flatMap (·.toList)).toArray
  | [], n, cells, h, hc => by
    have : cells.toList.take (n * 5) = cells.toList := List.take_of_length_le (by simp at hc ⊢; omega)
    simp [Instr.fill, this]
  | K :: r, n, cells, h, hc => by
    have hK : K.size = 5 := h K (by simp)
    simp only [List.length_cons] at hc
    have hK2 : (Value.agg K).cells = K := rfl
    rw [List.zipIdx_cons, List.map_cons]
    unfold Instr.fill
    simp only [hK2]
    have hc1 : (decide (K.size ≠ 5) || decide (n * 5 + K.size > cells.size)) = false := by
      have : ¬ (n * 5 + 5 > cells.size) := by omega
      simp [hK]; omega
    rw [if_neg (by rw [hc1]; decide), fill_step K cells (n * 5) (by omega)]
    rw [fill_seq r (n + 1) _ (fun K hk => h K (by simp [hk])) (by simp; omega)]
    congr 1
    have ht : (cells.toList.take (n * 5)).length = n * 5 := by rw [List.length_take, Array.length_toList]; omega
    rw [List.flatMap_cons, List.take_append_of_le_length (by rw [List.length_append, ht, Array.length_toList]; omega), List.take_of_length_le (by rw [List.length_append, ht, Array.length_toList]; omega), List.append_assoc]
theorem bsVals_of (w : World) (Ks : List (Array Value)) (n : Nat) (hn : Ks.length = n) (h0 : 0 < n) (h8 : n ≤ 8) (h5 : ∀ K ∈ Ks, K.size = 5) :
    (Instr.buildSlice 70 n ((Ks.zipIdx 0).map fun p => (p.2, Value.agg p.1)).toArray).run Try.prog w = .ok (.slice (some ⟨w.heap.size, 0, none⟩) n n) (w.alloc (.cells (Ks.flatMap (·.toList)).toArray 72)) := by
  unfold Instr.buildSlice
  have hf := fun (cells : Array Value) (hc : cells.size = n * 5) => fill_seq Ks 0 cells h5 (by rw [hc, hn]; simp)
  have h24 : ¬ (n * 5 > 2 ^ 24) := by omega
  have hne : ¬ (n * 5 = 0) := by omega
  simp only [run_underlying Try.underlying70, Sem.run_bind, value_sizeOf, value_zero, Value.cells, Result.andThen_ok, Sem.run_pure, if_neg h24, if_neg hne]
  rw [hf _ (by simp)]
  simp [newRow, Sem.run_bind]
end Go.Proofs.Ytgmbkcjihgphmaa
