/- Contracts and laws for what the statement reaches, joined: ObjLinks, TalkFetch, TalkFGet, TalkSrc, TalkLack, TalkWant, ObjLinksErr. -/
import Derived.Test.YtgmbkcjihgphmaaGreatJn12
import Derived.Test.YtgmbkcjihgphmaaGreatJn4
import Derived.Test.YtgmbkcjihgphmaaGreatJn5
import Derived.Test.YtgmbkcjihgphmaaGreatJn9
import Derived.BigQuiet
import Derived.Carry
/- object.Links: the walk. -/
set_option linter.unusedVariables false
set_option linter.unusedSimpArgs false
namespace Go.Proofs.YtgmbkcjihgphmaaGreat
open Go.RowKit
theorem ent_id_at {w : World} {g : Nat} {t : TypeId} {s : ByteArray} {d : Bool} {i : List UInt8} {f : Nat} (h : Blk w g t (entK s d i f)) : At w ⟨g, 2, none⟩ (bytesV i).toArray := fun j u hu => by
 show w.cell? ⟨g, 2 + j, none⟩ = some u
 rw [h.cell (2 + j)]
 have hu : (bytesV i)[j]? = some u := by simpa using hu
 have hlt := (List.getElem?_eq_some_iff.1 hu).1
 unfold entK
 rw [List.getElem?_toArray, show 2 + j = j + 1 + 1 by omega, List.getElem?_cons_succ, List.getElem?_cons_succ, List.getElem?_append_left hlt, hu]
theorem com_id_at {w : World} {g : Nat} {t : TypeId} {T : List UInt8} {A : Option Addr} {m c f : Nat} {a n : ByteArray} (h : Blk w g t (comK T A m c f a n)) : At w ⟨g, 0, none⟩ (bytesV T).toArray := fun j u hu => by
 show w.cell? ⟨g, 0 + j, none⟩ = some u
 rw [Nat.zero_add, h.cell j]
 have hu : (bytesV T)[j]? = some u := by simpa using hu
 have hlt := (List.getElem?_eq_some_iff.1 hu).1
 unfold comK
 rw [List.getElem?_toArray, List.getElem?_append_left hlt, hu]
set_option maxRecDepth 100000 in
set_option maxHeartbeats 8000000 in
theorem links_any (A : Option Addr) (n c : Nat) (l : List UInt8) (w : World) (hs : Sl w 1 A n (bytesV l)) (hnc : n ≤ c) (hcm : c ≤ maxLen) :
  Calls Tryz.prog 27 #[.slice A n c] w (LinksPost w (linksG l)) := by
 have HKD := Lib.hid (kind_any A n c l w hs hnc hcm)
 obtain ⟨R, hR⟩ : ∃ R, R = linksG l := ⟨_, rfl⟩
 obtain ⟨D, hD⟩ : ∃ D, D = kindG l := ⟨_, rfl⟩
 have HR := Lib.hid (show R = bindR D fun k => if k = 2 then bindR (getBlob l) fun x => .ok x.1 else if k = 3 then bindR (getTree l) fun x => .ok (x.map (·.2.2.1)) else if k = 4 then bindR (getCommit l) fun x => .ok (x.1 :: x.2.1) else bindR (getChunk l) fun _ => .ok [] by rw [hR, hD]; rfl)
 rw [← hD] at HKD
 rw [← hR]
 have HSI := Lib.hid (And.intro hs (And.intro hnc hcm))
 clear hs hcm hR hD hnc
 go_enter Tryz.func27, Tryz.ntmps27
 go_wp2_with fail
 refine HKD.out.mono ?_
 intro e w2 hp
 obtain ⟨hb2, hp⟩ := hp
 cases D with
 | error z =>
  obtain ⟨rfl, hz⟩ := hp
  have hzb : (z != 0) = true := by simp [hz]
  have HRR := Lib.hid (show R = .error z from HR.out)
  have HB := Lib.hid hb2
  clear hz hb2 HR
  go_wp2_with fail
  go_ret2
  exact ⟨HB.out, by rw [HRR.out]; rfl⟩
 | ok k =>
  obtain ⟨rfl, hk1, hk4⟩ := hp
  have HB := Lib.hid hb2
  have HS2 := Lib.hid (HSI.out.1.below hb2)
  have hcs : k = 1 ∨ k = 2 ∨ k = 3 ∨ k = 4 := by omega
  clear hb2 hk1 hk4 HKD
  rcases hcs with rfl | rfl | rfl | rfl
  ·have HC := Lib.hid (getChunk_any A n c l w2 HS2.out HSI.out.2.1 HSI.out.2.2)
   obtain ⟨T, hT⟩ : ∃ T, T = getChunk l := ⟨_, rfl⟩
   have HR2 := Lib.hid (show R = bindR T fun _ => .ok [] by rw [HR.out, hT]; rfl)
   rw [← hT] at HC
   clear hT HR
   go_wp2_with fail
   refine HC.out.mono ?_
   intro e w3 hp
   obtain ⟨hb3, hp⟩ := hp
   have HB3 := Lib.hid (HB.out.trans (hb3.mono HB.out.size))
   clear hb3 HC
   cases T with
   | error z =>
    obtain rfl : e = _ := hp
    have HRR := Lib.hid (show R = .error z from HR2.out)
    go_wp2_with fail
    go_ret2
    exact ⟨HB3.out, by rw [HRR.out]; rfl⟩
   | ok b =>
    obtain ⟨A9, c9, rfl, _⟩ := hp
    have HRR := Lib.hid (show R = .ok [] from HR2.out)
    go_wp2_with fail
    go_ret2
    exact ⟨HB3.out, by rw [HRR.out]; exact ⟨none, 0, rfl, SlOf.nil, by simp, by simp [maxLen]⟩⟩
  ·go_upto_region 9 with fail
   change Code.wp _ _ _ _ (w2.alloc (.cells zBlob 127))
   have HK := Lib.hid (Blk.new w2 127 zBlob)
   have hba : Below w2.heap.size w2 (w2.alloc (.cells zBlob 127)) := (Below.refl _ _).alloc (Nat.le_refl _) _
   have HB3 := Lib.hid (HB.out.trans (hba.mono HB.out.size))
   have HC := Lib.hid (getBlob_any A n c l (w2.alloc (.cells zBlob 127)) (HS2.out.below hba) HSI.out.2.1 HSI.out.2.2)
   obtain ⟨T, hT⟩ : ∃ T, T = getBlob l := ⟨_, rfl⟩
   have HR2 := Lib.hid (show R = bindR T fun x => .ok x.1 by rw [HR.out, hT]; rfl)
   have HW2 := Lib.hid HB.out.size
   rw [← hT] at HC
   clear hT HR hba HB HS2
   generalize w2.alloc (.cells zBlob 127) = w3 at *
   generalize w2.heap.size = g at *
   go_wp2_with fail
   refine HC.out.mono ?_
   intro e w4 hp
   obtain ⟨hb4, hp⟩ := hp
   have hg3 : g < w3.heap.size := HK.out.lt
   have HK4 := Lib.hid (HK.out.below hb4 hg3)
   have HB4 := Lib.hid (HB3.out.trans (hb4.mono HB3.out.size))
   have hkey : ∃ (A9 : Option Addr) (m9 c9 : Nat) (sz z : Int), e = .returned (.tuple #[.agg #[.slice A9 m9 c9, .int .i64 sz], .int .i64 z]) ∧ LinksPost w R (.returned (.tuple #[.slice A9 m9 c9, .int .i64 z])) (w4.setRow g #[.slice A9 m9 c9, .int .i64 sz]) := by
    have hbz : ∀ K, Below w.heap.size w (w4.setRow g K) := fun K => below_setRow HB4.out HW2.out K
    cases T with
    | error z =>
     obtain rfl : e = _ := hp
     exact ⟨none, 0, 0, 0, z, rfl, hbz _, by rw [show R = .error z from HR2.out]⟩
    | ok x =>
     obtain ⟨A9, c9, rfl, hsl, h1, h2⟩ := hp
     refine ⟨A9, x.1.length, c9, x.2, 0, rfl, hbz _, ?_⟩
     rw [show R = .ok x.1 from HR2.out]
     exact ⟨A9, c9, rfl, (hsl.stable (Moves.grown (grown_row w4 g _) hg3)).stable (Moves.less _ (fun b _ h => by show b < w3.heap.size; have := HW2.out; have h : b < w.heap.size := h; omega)), h1, h2⟩
   obtain ⟨A9, m9, c9, sz, z, rfl, hpost⟩ := hkey
   have HP := Lib.hid hpost
   obtain ⟨KX, hKX⟩ : ∃ KX : Array Value, KX = #[.slice A9 m9 c9, .int .i64 sz] := ⟨_, rfl⟩
   rw [← hKX] at HP ⊢
   have HI := Lib.hid (show (Tryz.prog.info? 127).map (·.size) = some KX.size by rw [hKX]; exact blob_info)
   have HO := Lib.hid (show KX.all (·.oneCell') = true by rw [hKX]; simp [Value.oneCell'])
   have HZ := Lib.hid (show zBlob.size = KX.size by rw [hKX]; rfl)
   have hcx : (w4.setRow g KX).cell? ⟨g, 0, none⟩ = some (.slice A9 m9 c9) := by
    rw [(show Blk (w4.setRow g KX) g 127 KX from setRow_heap _ g _ KX _ _ HK4.out).cell 0, hKX]; rfl
   clear hKX hpost hp hb4 HR2 HC HK HB3
   go_wp2_with (first | (refine wpList_store_row rfl _ _ _ rfl g KX rfl rfl 127 _ HK4.out HI.out HZ.out HO.out ?_) | fail)
   go_ret2
   exact HP.out
  ·have HC := Lib.hid (getTree_any A n c l w2 HS2.out HSI.out.2.1 HSI.out.2.2)
   obtain ⟨T, hT⟩ : ∃ T, T = getTree l := ⟨_, rfl⟩
   have HR2 := Lib.hid (show R = bindR T fun x => .ok (x.map (·.2.2.1)) by rw [HR.out, hT]; rfl)
   have HTE := Lib.hid (show ∀ z, T = .error z → z ≠ 0 from fun z hz => getTree_err (hT ▸ hz))
   have HTL := Lib.hid (show ∀ x, T = .ok x → x.length ≤ 1024 from fun x hx => getTree_len (hT ▸ hx))
   rw [← hT] at HC
   clear hT HR
   go_wp2_with fail
   refine HC.out.mono ?_
   intro e w3 hp
   obtain ⟨hb3, hp⟩ := hp
   have HB3 := Lib.hid (HB.out.trans (hb3.mono HB.out.size))
   have hkey : ∃ (AE : Option Addr) (es : List EntT) (cE : Nat) (z : Int), e = .returned (.tuple #[.slice AE es.length cE, .int .i64 z]) ∧ SlOf entR w3 no AE es ∧ es.length ≤ 1024 ∧ (R = if z = 0 then .ok (es.map (·.2.2.1)) else .error z) ∧ (z ≠ 0 → es = []) := by
    cases T with
    | error z =>
     obtain rfl : e = _ := hp
     exact ⟨none, [], 0, z, rfl, SlOf.nil, by simp, by rw [if_neg (HTE.out z rfl)]; exact HR2.out, fun _ => rfl⟩
    | ok x =>
     obtain ⟨A9, c9, rfl, hsl, h1, h2⟩ := hp
     exact ⟨A9, x, c9, 0, rfl, hsl.stable (Moves.forget _ _), HTL.out x rfl, by rw [if_pos rfl]; exact HR2.out, fun h => absurd rfl h⟩
   obtain ⟨AE, es, cE, z, rfl, hsl, hel, hr, hze⟩ := hkey
   have HZE := Lib.hid hze
   clear hze
   have HSE := Lib.hid hsl
   obtain ⟨ne, hne⟩ : ∃ ne, ne = es.length := ⟨_, rfl⟩
   rw [← hne] at hel ⊢
   have HNE := Lib.hid hne.symm
   have HRR := Lib.hid hr
   have HR0 := Lib.hid (show RowR oidR 33 w3 w3.heap.size none 0 0 ((es.take 0).map (·.2.2.1)) from RowR.nil _ _ _ _)
   clear hp hb3 hsl hne hr HR2 HTE HTL HC HB HS2
   go_wp2_with fail
   go_loopw [6, 44] (fun s6 s44 wr => ∃ (k : Nat) (A' : Option Addr) (c' : Nat), k ≤ ne ∧ s6 = .slice A' k c' ∧ s44 = .int .i64 (k : Int) ∧ Hid (Below w3.heap.size w3 wr) ∧ Hid (RowR oidR 33 wr w3.heap.size A' k c' ((es.take k).map (·.2.2.1))) ∧ Hid (k = 0 → A' = none ∧ c' = 0)) (fun s6 s44 wr => ne - (intOf s44).toNat)
   case atStart => exact ⟨0, none, 0, by omega, rfl, rfl, Lib.hid (Below.refl _ _), HR0, Lib.hid fun _ => ⟨rfl, rfl⟩⟩
   case round =>
    obtain ⟨k, A', c', hk, rfl, rfl, HBL, HRW, HK0⟩ := hrel
    by_cases hlt : k < ne
    ·have hltI : (k : Int) < (ne : Int) := by omega
     obtain ⟨b1, o1, x, hA, hb1, hx, h32, hf, hat⟩ := ents_look (HSE.out.below HBL.out) HNE.out hlt
     obtain ⟨KX, hKX⟩ : ∃ KX, KX = entK x.1 x.2.1 x.2.2.1 x.2.2.2 := ⟨_, rfl⟩
     have HI := Lib.hid (show (Tryz.prog.info? 70).map (·.size) = some KX.size by rw [hKX]; exact entK_info h32 _ _ _)
     have HO := Lib.hid (show KX.all (·.oneCell') = true by rw [hKX]; exact entK_one _ _ _ _)
     have HZS := Lib.hid (show zEnt.size = KX.size by rw [hKX, entK_size (by simp), entK_size h32])
     rw [← hKX] at hat
     have HAT := Lib.hid hat
     have HBN := Lib.hid (Blk.new wr 70 zEnt)
     have hba : Below wr.heap.size wr (wr.alloc (.cells KX 70)) := (Below.refl _ _).alloc (Nat.le_refl _) _
     have HBL2 := Lib.hid (HBL.out.trans (hba.mono HBL.out.size))
     have HRW2 := Lib.hid (HRW.out.below hba)
     obtain ⟨KB, hKB⟩ : ∃ KB, KB = (bytesV x.2.2.1).toArray := ⟨_, rfl⟩
     have HAI := Lib.hid (show At (wr.alloc (.cells KX 70)) ⟨wr.heap.size, 2, none⟩ KB by rw [hKB]; exact ent_id_at (t := 70) (by rw [hKX]; exact Blk.new _ _ _))
     have HIB := Lib.hid (show (Tryz.prog.info? 33).map (·.size) = some KB.size by rw [hKB]; exact oid_size h32)
     have hKs : KB.size = 32 := by rw [hKB]; simp [bytesV, h32]
     have hbs := fun w => bsId_of w KB hKs
     have htk : (es.take (k + 1)).map (·.2.2.1) = (es.take k).map (·.2.2.1) ++ [x.2.2.1] := by rw [List.take_add_one, hx]; simp
     obtain ⟨A9, c9, w9, run9, hrow, hb9, _, _, _, _⟩ := HRW2.out.push elemId (HBL2.out.size) (av := fun _ => True) (oid_of (wr.alloc (.cells KX 70)) _ h32) (fun _ _ _ => trivial) (by omega) (by simp only [maxLen]; omega) 46 1
     rw [← htk] at hrow
     rw [← hKB] at run9
     have HR9 := Lib.hid hrow
     have HB9 := Lib.hid (HBL2.out.trans hb9)
     subst hA
     clear hx h32 hf hat hKX hKB hKs htk hrow hba HRW HBL hb9 HRW2 HBL2
     go_upto_region 17 with (first
      | (refine wpList_load_at rfl _ _ rfl b1 (o1 + k * 35) rfl KX _ HAT.out Tryz.underlying70 rfl HI.out ?_)
      | (refine wpList_store_row rfl _ _ _ rfl wr.heap.size KX rfl rfl 70 _ HBN.out HI.out HZS.out HO.out ?_) | fail)
     rw [World.setRow_alloc_new]
     clear HBN HI HO HZS HAT
     generalize wr.alloc (.cells KX 70) = w8 at *
     generalize wr.heap.size = gx at *
     go_wp2_with (first
      | (refine wpList_load_at rfl _ _ rfl gx 2 rfl KB _ HAI.out Tryz.underlying33 rfl HIB.out ?_)
      | (refine wpList_build1 rfl (.tmp 50) rfl (.agg KB) _ rfl (hbs _) ?_)
      | (at_builtin; refine wpList_run_append run9 ?_ ?_ ?_; exact rfl; exact rfl)
      | fail)
     go_roundw
     case rel => exact ⟨k + 1, A9, c9, by omega, rfl, by go_num, HB9, HR9, Lib.hid fun h => by omega⟩
     case measure => simp [intOf]; omega
    ·have hltI : ¬ (k : Int) < (ne : Int) := by omega
     obtain rfl : k = ne := by omega
     have hfin : LinksPost w R (.returned (.tuple #[.slice A' k c', .int .i64 z])) wr := by
      refine ⟨HB3.out.trans (HBL.out.mono HB3.out.size), ?_⟩
      rw [HRR.out]
      by_cases hz : z = 0
      ·rw [if_pos hz]
       have htk : es.take k = es := List.take_of_length_le (by rw [HNE.out]; exact Nat.le_refl _)
       have hrow := HRW.out
       rw [htk] at hrow
       obtain ⟨q1, q2⟩ := hrow.cap
       have hB3 := HB3.out.size
       have hlen := hrow.len
       refine ⟨A', c', by rw [← hlen, hz], hrow.sl.away w.heap.size (fun h0 b off e => ?_) (fun _ _ k => k), by rw [← hlen]; exact q1, q2⟩
       obtain ⟨g', hg, hbb, _⟩ := hrow.at (by omega)
       rw [hg] at e
       have e := Option.some.inj e
       injection e with e
       omega
      ·rw [if_neg hz]
       have hk0 : k = 0 := by have := HNE.out; rw [HZE.out hz] at this; simpa using this.symm
       obtain ⟨rfl, rfl⟩ := HK0.out hk0
       subst hk0
       rfl
     have HP := Lib.hid hfin
     clear hfin
     go_wp2_with fail
     go_ret2
     exact HP.out
  ·go_upto_region 21 with fail
   change Code.wp _ _ _ _ (w2.alloc (.cells zCom 66))
   have HK := Lib.hid (Blk.new w2 66 zCom)
   have hba : Below w2.heap.size w2 (w2.alloc (.cells zCom 66)) := (Below.refl _ _).alloc (Nat.le_refl _) _
   have HB3 := Lib.hid (HB.out.trans (hba.mono HB.out.size))
   have HC := Lib.hid (getCommit_any A n c l (w2.alloc (.cells zCom 66)) (HS2.out.below hba) HSI.out.2.1 HSI.out.2.2)
   obtain ⟨T, hT⟩ : ∃ T, T = getCommit l := ⟨_, rfl⟩
   have HR2 := Lib.hid (show R = bindR T fun x => .ok (x.1 :: x.2.1) by rw [HR.out, hT]; rfl)
   have HTE := Lib.hid (show ∀ z, T = .error z → z ≠ 0 from fun z hz => getCommit_err (hT ▸ hz))
   have HTL := Lib.hid (show ∀ x, T = .ok x → x.2.1.length ≤ 8 from fun x hx => getCommit_len (hT ▸ hx))
   have HW2 := Lib.hid HB.out.size
   rw [← hT] at HC
   clear hT HR hba HB HS2
   generalize w2.alloc (.cells zCom 66) = w3 at *
   generalize w2.heap.size = g at *
   go_wp2_with fail
   refine HC.out.mono ?_
   intro e w4 hp
   obtain ⟨hb4, hp⟩ := hp
   have hg3 : g < w3.heap.size := HK.out.lt
   have HK4 := Lib.hid (HK.out.below hb4 hg3)
   have HB4 := Lib.hid (HB3.out.trans (hb4.mono HB3.out.size))
   have hzs : zCom.size = 36 := comK_size (by simp) _ _ _ _ _ _
   cases T with
   | error z =>
    obtain rfl : e = _ := hp
    have hz := HTE.out z rfl
    have hzb : (z == 0) = false := by simp [hz]
    have HRR := Lib.hid (show R = .error z from HR2.out)
    obtain ⟨KX, hKX⟩ : ∃ KX : Array Value, KX = zCom := ⟨_, rfl⟩
    have HI := Lib.hid (show (Tryz.prog.info? 66).map (·.size) = some KX.size by rw [hKX]; exact comK_info (by simp) _ _ _ _ _ _)
    have HO := Lib.hid (show KX.all (·.oneCell') = true by rw [hKX]; exact comK_one _ _ _ _ _ _ _)
    have HZ := Lib.hid (show zCom.size = KX.size by rw [hKX])
    have HB5 := Lib.hid (below_setRow HB4.out HW2.out KX)
    rw [← hKX]
    clear hKX hb4 HR2 HC HK HB3 HTE HTL hz hzs
    go_wp2_with (first | (refine wpList_store_row rfl _ _ _ rfl g KX rfl rfl 66 _ HK4.out HI.out HZ.out HO.out ?_) | fail)
    go_ret2
    exact ⟨HB5.out, by rw [HRR.out]; rfl⟩
   | ok x =>
    obtain ⟨A9, c9, rfl, h32, hsl, h1, h2⟩ := hp
    have h8 := HTL.out x rfl
    obtain ⟨m9, hm9⟩ : ∃ m9, m9 = x.2.1.length := ⟨_, rfl⟩
    rw [← hm9] at h1 h8 ⊢
    have HRR := Lib.hid (show R = .ok (x.1 :: x.2.1) from HR2.out)
    obtain ⟨KX, hKX⟩ : ∃ KX : Array Value, KX = comK x.1 A9 m9 c9 x.2.2.1 x.2.2.2.1 x.2.2.2.2 := ⟨_, rfl⟩
    have HI := Lib.hid (show (Tryz.prog.info? 66).map (·.size) = some KX.size by rw [hKX]; exact comK_info h32 _ _ _ _ _ _)
    have HO := Lib.hid (show KX.all (·.oneCell') = true by rw [hKX]; exact comK_one _ _ _ _ _ _ _)
    have HZ := Lib.hid (show zCom.size = KX.size by rw [hzs, hKX, comK_size h32])
    have HB5 := Lib.hid (below_setRow HB4.out HW2.out KX)
    have hK5 : Blk (w4.setRow g KX) g 66 KX := setRow_heap _ g _ KX _ _ HK4.out
    have hsl5 : SlOf oidR (w4.setRow g KX) (fun b => b < w3.heap.size) A9 x.2.1 := hsl.stable (Moves.grown (grown_row w4 g _) hg3)
    obtain ⟨KB, hKB⟩ : ∃ KB, KB = (bytesV x.1).toArray := ⟨_, rfl⟩
    have HAI := Lib.hid (show At (w4.setRow g KX) ⟨g, 0, none⟩ KB by rw [hKB]; exact com_id_at (by rw [← hKX]; exact hK5))
    have hcx : (w4.setRow g KX).cell? ⟨g, 32, none⟩ = some (.slice A9 m9 c9) := by rw [hK5.cell 32, hKX]; exact (comK_get h32 _ _ _ _ _ _).1
    have HIB := Lib.hid (show (Tryz.prog.info? 33).map (·.size) = some KB.size by rw [hKB]; exact oid_size h32)
    have hKs : KB.size = 32 := by rw [hKB]; simp [bytesV, h32]
    have hbs := fun w => bsId_of w KB hKs
    obtain ⟨A7, c7, w7, run7, hsl7, hb7, hc7, hcm7⟩ := com_links (w := w4.setRow g KX) (base := w.heap.size) h32 HB5.out.size (hsl5.stable (Moves.forget _ _)) hm9 h8 c9
    rw [← hKB] at run7
    have hfin : LinksPost w R (.returned (.tuple #[.slice A7 (1 + m9) c7, .int .i64 0])) w7 := by
     refine ⟨HB5.out.trans hb7, ?_⟩
     rw [HRR.out]
     exact ⟨A7, c7, by rw [List.length_cons, ← hm9, Nat.add_comm], hsl7, by rw [List.length_cons, ← hm9]; omega, hcm7⟩
    have HP := Lib.hid hfin
    have hgl : g < (w4.setRow g KX).heap.size := hK5.lt
    rw [← hKX]
    clear hfin hKX hKB hb4 HR2 HC HK HB3 HTE HTL hzs h32 hsl h1 h2 h8 hm9 hK5 hsl5 hKs hsl7 hb7 hc7 hcm7
    go_upto_region 22 with (first | (refine wpList_store_row rfl _ _ _ rfl g KX rfl rfl 66 _ HK4.out HI.out HZ.out HO.out ?_) | fail)
    clear HK4 HI HZ HO HB4 HB5 hg3
    generalize w4.setRow g KX = w5 at *
    go_wp2_with (first
     | (refine wpList_load_at rfl _ _ rfl g 0 rfl KB _ HAI.out Tryz.underlying33 rfl HIB.out ?_)
     | (refine wpList_build1 rfl (.tmp 64) rfl (.agg KB) _ rfl (hbs _) ?_)
     | (at_builtin; refine wpList_run_append run7 ?_ ?_ ?_; exact rfl; exact rfl)
     | fail)
    go_ret2
    exact HP.out
end Go.Proofs.YtgmbkcjihgphmaaGreat
/- talk.Fetch in memory; New, Root. -/
namespace Go.Proofs.YtgmbkcjihgphmaaGreat
open Go.RowKit
abbrev AsT := List (List UInt8 × List UInt8)
def getA (ad : AsT) (id : List UInt8) : Option (List UInt8) := (ad.find? (fun p => p.1 == id)).map (·.2)
abbrev fetchK (T : TypeId) (V : Value) (root : List UInt8) (mb : Nat) : Array Value := (Value.iface T V :: (bytesV root ++ [Value.map (some mb)])).toArray
/-- an element of the map aside -/
def ElemA (w : World) (v : Option Value) (b : Option (List UInt8)) : Prop := match v with
 | none => b = none
 | some v => ∃ b' A c, b = some b' ∧ v = .slice A b'.length c ∧ SlOf byteR w no A b' ∧ b'.length ≤ c ∧ c ≤ maxLen ∧ b'.length ≤ 1000000000
/-- a fetch at block g, its map at block mb -/
structure FT (w : World) (B g : Nat) (T : TypeId) (V : Value) (root : List UInt8) (mb : Nat) (m : IM) (ad : AsT) : Prop where
 blk : Blk w g 76 (fetchK T V root mb)
 map : MapW w mb m
 els : ∀ id, ElemA w (m.get id) (getA ad id)
 baseg : B ≤ g
 basem : B ≤ mb
 r32 : root.length = 32
theorem ElemA.below {w w' : World} {v : Option Value} {b : Option (List UInt8)} (h : ElemA w v b) (hb : Below w.heap.size w w') : ElemA w' v b := by
 cases v with
 | none => exact h
 | some v =>
  obtain ⟨b', A, c, h1, h2, h3, h4⟩ := h
  exact ⟨b', A, c, h1, h2, h3.below hb, h4⟩
section
variable {w w' : World} {B g mb : Nat} {T : TypeId} {V : Value} {root : List UInt8} {m : IM} {ad : AsT}
theorem FT.go (h : FT w B g T V root mb m ad) (hb : Below w.heap.size w w') : FT w' B g T V root mb m ad :=
 ⟨h.blk.below hb h.blk.lt, h.map.below hb, fun id => (h.els id).below hb, h.baseg, h.basem, h.r32⟩
end
theorem fetch_info : (Tryz.prog.info? 76).map (·.size) = some 34 := by kernel_rfl
theorem fetchK_size {root : List UInt8} (h : root.length = 32) (T : TypeId) (V : Value) (mb : Nat) : (fetchK T V root mb).size = 34 := by simp [fetchK, bytesV_length, h]
theorem fetchK_get {root : List UInt8} (h : root.length = 32) (T : TypeId) (V : Value) (mb : Nat) : (fetchK T V root mb)[0]? = some (.iface T V) ∧ (fetchK T V root mb)[33]? = some (.map (some mb)) := by
 refine ⟨rfl, ?_⟩
 unfold fetchK
 rw [List.getElem?_toArray, List.getElem?_cons_succ, List.getElem?_append_right (by rw [bytesV_length, h]; exact Nat.le_refl _), bytesV_length, h]; rfl
theorem fetch_id_at {w : World} {g : Nat} {t : TypeId} {T : TypeId} {V : Value} {root : List UInt8} {mb : Nat} (h : Blk w g t (fetchK T V root mb)) : At w ⟨g, 1, none⟩ (bytesV root).toArray := fun j u hu => by
 show w.cell? ⟨g, 1 + j, none⟩ = some u
 rw [h.cell (1 + j)]
 have hu : (bytesV root)[j]? = some u := by simpa using hu
 have hlt := (List.getElem?_eq_some_iff.1 hu).1
 unfold fetchK
 rw [List.getElem?_toArray, show 1 + j = j + 1 by omega, List.getElem?_cons_succ, List.getElem?_append_left hlt, hu]
set_option maxRecDepth 100000 in
theorem built_fetch (T : TypeId) (V : Value) (mb : Nat) : ∀ (i : List UInt8), i.length = 32 → Tryz.prog.built 76 [(0, .iface T V), (1, .agg (bytesV i).toArray), (2, .map (some mb))] = some (fetchK T V i mb)
 | [x0, x1, x2, x3, x4, x5, x6, x7, x8, x9, x10, x11, x12, x13, x14, x15, x16, x17, x18, x19, x20, x21, x22, x23, x24, x25, x26, x27, x28, x29, x30, x31], _ => by kernel_rfl
theorem mapW_new (w : World) : MapW (w.alloc (.map #[] 0)) w.heap.size [] := ⟨#[], 0, heap_alloc_new w _, rfl, fun _ h => (nomatch h), .nil, fun _ h => (nomatch h), .nil⟩
theorem wpList_built3 {P : Program} {ops : Array Oper} {rest : List Oper} {o : Oper} {a : Act} {w : World} {Q : Exit → Act → World → Prop} (hg : o.guard = none) (t : TypeId) (x0 x1 x2 : Operand) {i0 i1 i2 : Nat} (ho : o.op = .build t #[(i0, x0), (i1, x1), (i2, x2)]) {v0 v1 v2 : Value} (K : Array Value)
  (h0 : a.eval x0 = v0) (h1 : a.eval x1 = v1) (h2 : a.eval x2 = v2) (hb : P.built t [(i0, v0), (i1, v1), (i2, v2)] = some K) (h : wpList P ops Q rest (a.put o.dst (.agg K)) w) : wpList P ops Q (o :: rest) a w := by
 subst h0 h1 h2
 exact wpList_build hg t _ ho (by simp [hb]) (by simpa [hb] using h)
set_option maxRecDepth 100000 in
set_option maxHeartbeats 4000000 in
theorem new_any (T : TypeId) (V : Value) (root : List UInt8) (W0 : World) (h32 : root.length = 32) :
  Calls Tryz.prog 6 #[.iface T V, idV root] W0 fun e w' => Below W0.heap.size W0 w' ∧ ∃ g mb, e = .returned (.pointer (some ⟨g, 0, none⟩)) ∧ FT w' W0.heap.size g T V root mb [] [] := by
 have hmm := @run_makeMap Tryz.prog
 obtain ⟨KI, hKI⟩ : ∃ KI, KI = (bytesV root).toArray := ⟨_, rfl⟩
 have HII := Lib.hid (show (Tryz.prog.info? 33).map (·.size) = some KI.size by rw [hKI]; exact oid_size h32)
 rw [show idV root = .agg KI by rw [hKI]]
 obtain ⟨w1, hw1⟩ : ∃ w1, w1 = W0.alloc (.cells KI 33) := ⟨_, rfl⟩
 have HB1 := Lib.hid (show Below W0.heap.size W0 w1 by rw [hw1]; exact (Below.refl _ _).alloc (Nat.le_refl _) _)
 have HK1 := Lib.hid (show Blk w1 W0.heap.size 33 KI by rw [hw1]; exact Blk.new W0 _ _)
 obtain ⟨KF, hKF⟩ : ∃ KF, KF = fetchK T V root w1.heap.size := ⟨_, rfl⟩
 have HBU := Lib.hid (show Tryz.prog.built 76 [(0, .iface T V), (1, .agg KI), (2, .map (some w1.heap.size))] = some KF by rw [hKI, hKF]; exact built_fetch T V _ root h32)
 have HIF := Lib.hid (show (Tryz.prog.info? 76).map (·.size) = some KF.size by rw [hKF, fetchK_size h32]; exact fetch_info)
 have HFT := Lib.hid (show FT ((w1.alloc (.map #[] 0)).alloc (.cells KF 76)) W0.heap.size (w1.heap.size + 1) T V root w1.heap.size [] [] from
  ⟨by have h := Blk.new (w1.alloc (.map #[] 0)) 76 KF; rw [hKF] at h ⊢; simpa using h, (mapW_new w1).below ((Below.refl _ _).alloc (Nat.le_refl _) _), fun id => rfl, by have := HB1.out.size; omega, HB1.out.size, h32⟩)
 have HBF := Lib.hid (show Below W0.heap.size W0 ((w1.alloc (.map #[] 0)).alloc (.cells KF 76)) from (HB1.out.alloc HB1.out.size _).alloc (by have := HB1.out.size; simp; omega) _)
 have HW := Lib.hid hw1
 clear hKI hKF hw1
 go_enter Tryz.func6, Tryz.ntmps6
 go_upto_region 1 with fail
 rw [← HW.out]
 clear HW
 generalize hg : W0.heap.size = g at *
 have HG := Lib.hid hg
 clear hg
 go_wp2_with (first
  | (refine wpList_load_at rfl _ _ rfl g 0 rfl KI _ (At.of_row HK1.out) Tryz.underlying33 rfl HII.out ?_)
  | (refine wpList_built3 rfl 76 (.tmp 5) (.tmp 6) (.tmp 7) rfl KF rfl rfl rfl HBU.out ?_) | fail)
 go_ret
 exact ⟨by rw [HG.out]; exact HBF.out, w1.heap.size + 1, w1.heap.size, rfl, by rw [HG.out]; exact HFT.out⟩
end Go.Proofs.YtgmbkcjihgphmaaGreat
/- (*talk.Fetch).Root, Get. -/
namespace Go.Proofs.YtgmbkcjihgphmaaGreat
open Go.RowKit
/-- what a fetch gives: from aside, or one's own -/
def srcF (S : List UInt8 → Option (List UInt8)) (ad : AsT) (id : List UInt8) : Option (List UInt8) := match getA ad id with
 | some b => some b
 | none => S id
set_option maxRecDepth 100000 in
set_option maxHeartbeats 4000000 in
theorem root_any {B g mb : Nat} {T : TypeId} {V : Value} {root : List UInt8} {m : IM} {ad : AsT} (w : World) (h : FT w B g T V root mb m ad) :
  Calls Tryz.prog 17 #[.pointer (some ⟨g, 0, none⟩)] w fun e w' => e = .returned (idV root) ∧ Below w.heap.size w w' := by
 obtain ⟨KI, hKI⟩ : ∃ KI, KI = (bytesV root).toArray := ⟨_, rfl⟩
 have HII := Lib.hid (show (Tryz.prog.info? 33).map (·.size) = some KI.size by rw [hKI]; exact oid_size h.r32)
 have hba : Below w.heap.size w (w.alloc (.cells zID 33)) := (Below.refl _ _).alloc (Nat.le_refl _) _
 have HAT := Lib.hid (show At (w.alloc (.cells zID 33)) ⟨g, 1, none⟩ KI by rw [hKI]; exact fetch_id_at (h.go hba).blk)
 have HB := Lib.hid hba
 have HR := Lib.hid (Blk.new w 33 zID)
 have HO := Lib.hid (show KI.all (·.oneCell') = true by rw [hKI]; exact oid_one _)
 have HZ := Lib.hid (show zID.size = KI.size by rw [hKI]; simp [bytesV, h.r32])
 rw [show idV root = .agg KI by rw [hKI]]
 clear h hba hKI
 go_enter Tryz.func17, Tryz.ntmps17
 go_upto_region 1 with fail
 change Code.wp _ _ _ _ (w.alloc (.cells zID 33))
 generalize w.alloc (.cells zID 33) = w1 at *
 generalize hgw : w.heap.size = gw at *
 have HGW := Lib.hid hgw
 clear hgw
 go_wp2_with (first
  | (refine wpList_load_at rfl _ _ rfl g 1 rfl KI _ HAT.out Tryz.underlying33 rfl HII.out ?_)
  | (refine wpList_store_row rfl _ _ _ rfl gw KI rfl rfl 33 _ HR.out HII.out HZ.out HO.out ?_) | fail)
 refine bodyPost_ret (results_cell_row rfl _ _ gw 33 KI (0, 0) _ rfl (setRow_heap _ gw _ _ _ _ HR.out) Tryz.underlying33 rfl HII.out) rfl ?_
 exact ⟨rfl, by rw [HGW.out]; exact below_setRow HB.out (Nat.le_refl _) KI⟩
theorem SrcPost.up {w wa w' : World} {r : Option (List UInt8)} {e : Ending} (h : SrcPost wa r e w') (hb : Below w.heap.size w wa) : SrcPost w r e w' := by
 obtain ⟨h1, h2⟩ := h
 refine ⟨hb.trans (h1.mono hb.size), ?_⟩
 cases r with
 | none => exact h2
 | some b =>
  obtain ⟨A, c, h3, h4, h5, h6⟩ := h2
  exact ⟨A, c, h3, h4.stable (Moves.less w' (fun x _ hx => Nat.lt_of_lt_of_le hx hb.size)), h5, h6⟩
theorem SrcPost.form {w w' : World} {r : Option (List UInt8)} {e : Ending} (h : SrcPost w r e w') : ∃ A n c z, e = .returned (.tuple #[.slice A n c, .int .i64 z]) := by
 obtain ⟨h1, h2⟩ := h
 cases r with
 | none => obtain ⟨A, n, c, h3⟩ := h2; exact ⟨A, n, c, 4, h3⟩
 | some b => obtain ⟨A, c, h3, _⟩ := h2; exact ⟨A, _, c, 0, h3⟩
theorem zeroSl (w : World) : (zeroValue 38).run Tryz.prog w = .ok (.slice none 0 0) w := by kernel_rfl
set_option maxRecDepth 100000 in
set_option maxHeartbeats 8000000 in
theorem fget_any {T : TypeId} {V : Value} {K : Nat} {S : List UInt8 → Option (List UInt8)} {g mb : Nat} {root : List UInt8} {m : IM} {ad : AsT} (W0 w : World) (hS : SrcK W0 T V K S) (hB : Below W0.heap.size W0 w) (h : FT w W0.heap.size g T V root mb m ad) (id : List UInt8) (hid : id.length = 32) :
  Calls Tryz.prog 20 #[.pointer (some ⟨g, 0, none⟩), idV id] w (SrcPost w (srcF S ad id)) := by
 have hnil := hS.nil
 have hmet := hS.meth
 have hcall := hS.call
 obtain ⟨KI, hKI⟩ : ∃ KI, KI = (bytesV id).toArray := ⟨_, rfl⟩
 have HII := Lib.hid (show (Tryz.prog.info? 33).map (·.size) = some KI.size by rw [hKI]; exact oid_size hid)
 have HSR := Lib.hid (fun w hw => hS.get w hw id hid)
 rw [show idV id = .agg KI by rw [hKI]] at HSR ⊢
 obtain ⟨w1, hw1⟩ : ∃ w1, w1 = w.alloc (.cells KI 33) := ⟨_, rfl⟩
 have HB1 := Lib.hid (show Below w.heap.size w w1 by rw [hw1]; exact (Below.refl _ _).alloc (Nat.le_refl _) _)
 have HK1 := Lib.hid (show Blk w1 w.heap.size 33 KI by rw [hw1]; exact Blk.new w _ _)
 have HF1 := Lib.hid (h.go HB1.out)
 have HBW := Lib.hid (hB.trans (HB1.out.mono hB.size))
 have HLK := Lib.hid (fun w' (hb : Below w1.heap.size w1 w') => by
  have h1 := (HF1.out.map.below hb).lookup hid Tryz.underlying74 (zeroSl w') true
  rw [show idV id = .agg KI by rw [hKI]] at h1
  exact h1)
 have c33 := (HF1.out.blk.cell 33).trans (fetchK_get HF1.out.r32 _ _ _).2
 have c0 := (HF1.out.blk.cell 0).trans (fetchK_get HF1.out.r32 T V mb).1
 have HC33 := Lib.hid c33
 have HC0 := Lib.hid c0
 have hgl := HF1.out.blk.lt
 have hEL := HF1.out.els id
 have hwl : w.heap.size < w1.heap.size := HK1.out.lt
 have HW := Lib.hid hw1
 obtain ⟨RS, hRS⟩ : ∃ RS, RS = srcF S ad id := ⟨_, rfl⟩
 have HRS := Lib.hid hRS
 rw [← hRS]
 clear hS hB h hKI hw1 c33 c0 hRS
 cases hv : m.get id with
 | some v =>
  rw [hv] at hEL
  obtain ⟨b', A, c, e1, rfl, e3, e4, e5, e6⟩ := hEL
  have HR2 := Lib.hid (show RS = some b' by rw [HRS.out]; unfold srcF; rw [e1])
  have HLK2 := Lib.hid (fun w' hb => show (Instr.lookup 74 (.map (some mb)) (.agg KI) true).run Tryz.prog w' = .ok (.tuple #[.slice A b'.length c, .bool true]) w' by
   have := HLK.out w' hb
   rw [hv] at this
   exact this)
  have hdr : Below w1.heap.size w1 w1.drew := Same.below ⟨1, rfl⟩ _
  have HCL := Lib.hid (clone_any A b'.length c b' w1.drew (slOf_bytes (e3.below hdr)) rfl e6)
  have HBD := Lib.hid (HB1.out.trans (hdr.mono HB1.out.size))
  have HDR := Lib.hid hdr
  clear HLK hv e1 e3 e4 e5 e6 HSR HC0 HRS HBW HF1 hdr
  go_enter Tryz.func20, Tryz.ntmps20
  go_upto_region 1 with fail
  rw [← HW.out]
  clear HW
  generalize hgw : w.heap.size = gw at *
  have HGW := Lib.hid hgw
  clear hgw
  refine wp_region_held (S := fun w' => Below w1.heap.size w1 w') (by kernel_rfl) ?_
  change wpAnyH _ _ _ _ _ _ _ _ (World.drew _)
  refine rgT 0 HDR.out ?_
  refine rgT 1 HDR.out ?_
  refine rgT 2 HDR.out ?_
  refine rgU 3 (v := ?_) (a' := ?_) HDR.out ?_ ?_ ?_
  rotate_left 2
  ·(intro w hS; have t := (hS.cell (p := ⟨g, 33, none⟩) hgl).trans HC33.out; go_simp; try with_reducible rfl)
  ·(go_simp; try with_reducible rfl)
  refine rgU 4 (v := ?_) (a' := ?_) HDR.out ?_ ?_ ?_
  rotate_left 2
  ·(intro w hS; refine exec_load_at 33 (.tmp 3) ?_ gw 0 ?_ KI _ (At.of_row (HK1.out.below hS hwl)) Tryz.underlying33 rfl HII.out; exact rfl; exact rfl)
  ·(go_simp; try with_reducible rfl)
  refine rgU 5 (v := ?_) (a' := ?_) HDR.out ?_ ?_ ?_
  rotate_left 2
  ·(intro w hS; have t := HLK2.out w hS; go_simp; try with_reducible rfl)
  ·(go_simp; try with_reducible rfl)
  refine rgT 6 HDR.out ?_
  refine rgT 7 HDR.out ?_
  refine rgT 8 HDR.out ?_
  refine rgT 9 HDR.out ?_
  refine rgT 10 HDR.out ?_
  refine wpAnyH_done (by kernel_rfl) ?_ _
  go_wp2_with fail
  refine HCL.out.mono ?_
  rintro e w2 ⟨hb2, A2, c2, rfl, hs2, hc2, hm2⟩
  have HP2 := Lib.hid (show SrcPost w (some b') _ w2 from SrcPost.up (wa := w1.drew) ⟨hb2, A2, c2, rfl, hs2, hc2, hm2⟩ (by rw [HGW.out]; exact HBD.out))
  clear hb2 hs2 hc2 hm2
  go_wp2_with fail
  go_ret2
  rw [HR2.out]
  exact HP2.out
 | none =>
  rw [hv] at hEL
  have hEL : getA ad id = none := hEL
  have HR2 := Lib.hid (show RS = S id by rw [HRS.out]; unfold srcF; rw [hEL])
  rw [HR2.out]
  have HLK2 := Lib.hid (fun w' hb => show (Instr.lookup 74 (.map (some mb)) (.agg KI) true).run Tryz.prog w' = .ok (.tuple #[.slice none 0 0, .bool false]) w' by
   have := HLK.out w' hb
   rw [hv] at this
   exact this)
  have hdr : Below w1.heap.size w1 w1.drew := Same.below ⟨1, rfl⟩ _
  have HDR := Lib.hid hdr
  clear HLK hv hEL HRS HF1 hdr HR2
  go_enter Tryz.func20, Tryz.ntmps20
  go_upto_region 1 with fail
  rw [← HW.out]
  clear HW
  generalize hgw : w.heap.size = gw at *
  have HGW := Lib.hid hgw
  clear hgw
  refine wp_region_held (S := fun w' => Below w1.heap.size w1 w') (by kernel_rfl) ?_
  change wpAnyH _ _ _ _ _ _ _ _ (World.drew _)
  refine rgT 0 HDR.out ?_
  refine rgT 1 HDR.out ?_
  refine rgT 2 HDR.out ?_
  refine rgU 3 (v := ?_) (a' := ?_) HDR.out ?_ ?_ ?_
  rotate_left 2
  ·(intro w hS; have t := (hS.cell (p := ⟨g, 33, none⟩) hgl).trans HC33.out; go_simp; try with_reducible rfl)
  ·(go_simp; try with_reducible rfl)
  refine rgU 4 (v := ?_) (a' := ?_) HDR.out ?_ ?_ ?_
  rotate_left 2
  ·(intro w hS; refine exec_load_at 33 (.tmp 3) ?_ gw 0 ?_ KI _ (At.of_row (HK1.out.below hS hwl)) Tryz.underlying33 rfl HII.out; exact rfl; exact rfl)
  ·(go_simp; try with_reducible rfl)
  refine rgU 5 (v := ?_) (a' := ?_) HDR.out ?_ ?_ ?_
  rotate_left 2
  ·(intro w hS; have t := HLK2.out w hS; go_simp; try with_reducible rfl)
  ·(go_simp; try with_reducible rfl)
  refine rgT 6 HDR.out ?_
  refine rgT 7 HDR.out ?_
  refine rgT 8 HDR.out ?_
  refine rgT 9 HDR.out ?_
  refine rgT 10 HDR.out ?_
  refine wpAnyH_done (by kernel_rfl) ?_ _
  go_upto_region 4 with fail
  obtain ⟨wq, hwq⟩ : ∃ wq, wq = w1.drew := ⟨_, rfl⟩
  have HQ := Lib.hid (show Below w1.heap.size w1 wq.drew by rw [hwq]; exact HDR.out.trans ((Same.below ⟨1, rfl⟩ _).mono HDR.out.size))
  have HQB := Lib.hid (show Below w.heap.size w wq.drew from by rw [HGW.out]; exact HB1.out.trans (HQ.out.mono (by omega)))
  have HCL := Lib.hid (HSR.out wq.drew (HBW.out.trans (HQ.out.mono HBW.out.size)))
  have HQ2 := Lib.hid (fun w2 (hb : Below wq.drew.heap.size wq.drew w2) => show Below w1.heap.size w1 w2 from HQ.out.trans (hb.mono HQ.out.size))
  rw [← hwq]
  have HWQ := Lib.hid hwq
  clear hwq HSR HDR HLK2
  refine wp_region_held (S := fun w' => Below w1.heap.size w1 w') (by kernel_rfl) ?_
  change wpAnyH _ _ _ _ _ _ _ _ (World.drew _)
  refine rgT 0 HQ.out ?_
  refine rgT 1 HQ.out ?_
  refine rgT 2 HQ.out ?_
  refine rgU 3 (v := ?_) (a' := ?_) HQ.out ?_ ?_ ?_
  rotate_left 2
  ·(intro w hS; have t := (hS.cell (p := ⟨g, 0, none⟩) hgl).trans HC0.out; go_simp; try with_reducible rfl)
  ·(go_simp; try with_reducible rfl)
  refine rgU 4 (v := ?_) (a' := ?_) HQ.out ?_ ?_ ?_
  rotate_left 2
  ·(intro w hS; refine exec_load_at 33 (.tmp 3) ?_ gw 0 ?_ KI _ (At.of_row (HK1.out.below hS hwl)) Tryz.underlying33 rfl HII.out; exact rfl; exact rfl)
  ·(go_simp; try with_reducible rfl)
  refine held_ready (rs := [5]) (by kernel_rfl) (by simp) ?_
  refine AllHeld.cons rfl (fun KR hKR => ?_) ?_
  ·go_simp
   refine HCL.out.mono ?_
   intro e w2 hp
   obtain ⟨A2, n2, c2, z2, rfl⟩ := hp.form
   have hc5 := HQ2.out w2 hp.1
   have HP2 := Lib.hid (hp.up HQB.out)
   clear hp
   refine hKR _ _ hc5 ?_
   clear hKR KR
   refine rgT 6 hc5 ?_
   refine rgT 7 hc5 ?_
   refine rgT 8 hc5 ?_
   refine rgT 9 hc5 ?_
   refine wpAnyH_done (by kernel_rfl) ?_ _
   go_wp2_with fail
   go_ret2
   exact HP2.out
  exact AllHeld.nil
end Go.Proofs.YtgmbkcjihgphmaaGreat
/- the two sources. -/
namespace Go.Proofs.YtgmbkcjihgphmaaGreat
open Go.RowKit
theorem nil_shelf (n : Nat) (x : Value) (w : World) : (nilAhead (n + 1) 31 (.agg #[x]) "Get").run Tryz.prog w = .ok (some false) w := by kernel_rfl
theorem meth_shelf (n : Nat) (x : Value) (w : World) : (method (n + 1) 31 (.agg #[x]) "Get").run Tryz.prog w = .ok (123, .agg #[x]) w := by kernel_rfl
theorem nil_fetch (n : Nat) (a : Addr) (w : World) : (nilAhead (n + 1) 28 (.pointer (some a)) "Get").run Tryz.prog w = .ok (some false) w := by kernel_rfl
theorem meth_fetch (n : Nat) (a : Addr) (w : World) : (method (n + 1) 28 (.pointer (some a)) "Get").run Tryz.prog w = .ok (20, .pointer (some a)) w := by kernel_rfl
theorem call_shelf (args : Array Value) (w : World) : (callFunc 123 args).run Tryz.prog w = .ok (.enter 123 args) w := by kernel_rfl
theorem call_fetch (args : Array Value) (w : World) : (callFunc 20 args).run Tryz.prog w = .ok (.enter 20 args) w := by kernel_rfl
theorem getB_len {rs : List RecT} (h : ∀ r ∈ rs, r.2.size ≤ 1000000000) (id b : List UInt8) (hb : getB rs id = some b) : b.length ≤ 1000000000 := by
 unfold getB getS at hb
 cases hf : rs.find? (fun r => r.1 == id) with
 | none => rw [hf] at hb; cases hb
 | some r =>
  rw [hf] at hb
  cases hb
  have h1 := h r (List.mem_of_find?_eq_some hf)
  have h2 : r.2.data.toList.length = r.2.size := Array.length_toList
  show r.2.data.toList.length ≤ _
  omega
theorem shelf_src (W0 : World) (A : Option Addr) (n c : Nat) (rs : List RecT) (hs : SlOf recR W0 no A rs) (hn : n = rs.length) (hl : n ≤ 1000000000) (hsz : ∀ r ∈ rs, r.2.size ≤ 1000000000) :
  SrcK W0 31 (.agg #[.slice A n c]) 123 (getB rs) :=
 ⟨fun n' w => nil_shelf n' _ w, fun n' w => meth_shelf n' _ w, call_shelf, fun id b hb => getB_len hsz id b hb, fun w hw id hid => shelfGet_any A n c rs id w (hs.below hw) hn hl hid (fun r hr => by have := hsz r hr; simp only [maxLen]; omega)⟩
/-- a fetch is a source, from where it stands on -/
theorem fetch_src {T : TypeId} {V : Value} {K : Nat} {S : List UInt8 → Option (List UInt8)} {g mb : Nat} {root : List UInt8} {m : IM} {ad : AsT} (W0 w : World) (hS : SrcK W0 T V K S) (hB : Below W0.heap.size W0 w) (h : FT w W0.heap.size g T V root mb m ad) :
  SrcK w 28 (.pointer (some ⟨g, 0, none⟩)) 20 (srcF S ad) :=
 ⟨fun n' w' => nil_fetch n' _ w', fun n' w' => meth_fetch n' _ w', call_fetch, fun id b hb => by
  unfold srcF at hb
  have he := h.els id
  cases hv : m.get id with
  | none =>
   rw [hv] at he
   have he : getA ad id = none := he
   rw [he] at hb
   exact hS.small id b hb
  | some v =>
   rw [hv] at he
   obtain ⟨b', A, c, e1, e2, e3, e4, e5, e6⟩ := he
   rw [e1] at hb
   cases hb
   exact e6, fun w' hw id hid => fget_any W0 w' hS (hB.trans (hw.mono hB.size)) (h.go hw) id hid⟩
end Go.Proofs.YtgmbkcjihgphmaaGreat
/- lacking, where nothing is told of. -/
namespace Go.Proofs.YtgmbkcjihgphmaaGreat
open Go.RowKit
attribute [local go_sem ↓] bsId_eq
def IdsPost (w : World) (l : List (List UInt8)) (e : Ending) (w' : World) : Prop :=
 Below w.heap.size w w' ∧ ∃ A m c, e = .returned (.slice A m c) ∧ RowR oidR 33 w' w.heap.size A m c l
end Go.Proofs.YtgmbkcjihgphmaaGreat
/- Want, Done: by what lacking gives. -/
namespace Go.Proofs.YtgmbkcjihgphmaaGreat
open Go.RowKit
/-- ids out of a call -/
def IdsOut (w : World) (l : List (List UInt8)) (e : Ending) (w' : World) : Prop :=
 Below w.heap.size w w' ∧ ∃ A m c, e = .returned (.slice A m c) ∧ m = l.length ∧ m ≤ c ∧ c ≤ maxLen ∧ SlOf oidR w' no A l
set_option maxRecDepth 100000 in
set_option maxHeartbeats 4000000 in
theorem want_any (w : World) (g : Nat) (L : List (List UInt8))
  (hL : Calls Tryz.prog 29 #[.pointer (some ⟨g, 0, none⟩)] w (IdsPost w L)) :
  Calls Tryz.prog 10 #[.pointer (some ⟨g, 0, none⟩)] w (IdsOut w (L.take 16)) := by
 have HL := Lib.hid hL
 clear hL
 go_enter Tryz.func10, Tryz.ntmps10
 go_wp2_with fail
 refine HL.out.mono ?_
 rintro e w1 ⟨hb, A, m, c, rfl, hr⟩
 have HB := Lib.hid hb
 have hm := hr.len
 have hc := hr.cap
 have HS := Lib.hid hr.sl
 have HC := Lib.hid hc
 have HM := Lib.hid hm
 clear hb hr HL
 rcases Nat.lt_or_ge 16 m with h | h
 ·have q3 : ¬ (m : Int) ≤ 16 := by omega
  have q5 : (16 : Int) ≤ (c : Int) := by omega
  have q6 : 16 ≤ c := by omega
  have q7 : (16 : Int) < (m : Int) := by omega
  clear hm hc
  go_wp2_with fail
  go_ret
  exact ⟨HB.out, A, 16, c, rfl, by rw [List.length_take, ← HM.out]; omega, q6, HC.out.2, HS.out.upto HM.out.symm (by omega)⟩
 ·have q3 : (m : Int) ≤ 16 := by omega
  have q5 : (m : Int) ≤ (c : Int) := by omega
  have q7 : ¬ (16 : Int) < (m : Int) := by omega
  have q8 : (0 : Int) ≤ (m : Int) := by omega
  have HT := Lib.hid (show L.take 16 = L by rw [List.take_of_length_le]; omega)
  clear hm hc
  go_wp2_with fail
  go_ret
  exact ⟨HB.out, A, m, c, rfl, by rw [HT.out, HM.out], HC.out.1, HC.out.2, by rw [HT.out]; exact HS.out⟩
set_option maxRecDepth 100000 in
set_option maxHeartbeats 4000000 in
theorem done_any (w : World) (g : Nat) (L : List (List UInt8))
  (hL : Calls Tryz.prog 29 #[.pointer (some ⟨g, 0, none⟩)] w (IdsPost w L)) :
  Calls Tryz.prog 12 #[.pointer (some ⟨g, 0, none⟩)] w fun e w' => e = .returned (.bool L.isEmpty) ∧ Below w.heap.size w w' := by
 have HL := Lib.hid hL
 clear hL
 go_enter Tryz.func12, Tryz.ntmps12
 go_wp2_with fail
 refine HL.out.mono ?_
 rintro e w1 ⟨hb, A, m, c, rfl, hr⟩
 have HB := Lib.hid hb
 have HM := Lib.hid hr.len
 clear hb hr HL
 cases L with
 | nil =>
  obtain rfl : m = 0 := HM.out
  go_wp2_with fail
  go_ret
  exact ⟨rfl, HB.out⟩
 | cons x l =>
  have q1 : ((m : Int) = 0) ↔ False := ⟨fun h => by have := HM.out; simp at this; omega, False.elim⟩
  have q2 : (m = 0) ↔ False := ⟨fun h => by have := HM.out; simp at this; omega, False.elim⟩
  go_wp2_with fail
  go_ret
  exact ⟨by simp [q1, q2], HB.out⟩
end Go.Proofs.YtgmbkcjihgphmaaGreat
/- errors of reading are no zero. -/
namespace Go.Proofs.YtgmbkcjihgphmaaGreat
open Go.RowKit
theorem getChunk_err {l : List UInt8} {z : Int} (h : getChunk l = .error z) : z ≠ 0 := bindR_err (fun _ => openG_err) (fun _ _ => textG_err) h
theorem getBlob_err {l : List UInt8} {z : Int} (h : getBlob l = .error z) : z ≠ 0 := bindR_err (fun _ => openG_err) (fun _ _ h => bindR_err (fun _ => idsG_err) (fun _ _ => blobEnd_err) h) h
theorem kindG_err {l : List UInt8} {z : Int} (h : kindG l = .error z) : z ≠ 0 := bindR_err (fun _ => dec_err_ne) (fun v z h => by
 unfold kindV at h
 split at h
 ·injection h with h; omega
 ·split at h
  ·injection h with h; omega
  ·split at h
   ·injection h with h; omega
   ·split at h
    ·cases h
    ·injection h with h; omega) h
theorem linksG_err {l : List UInt8} {z : Int} (h : linksG l = .error z) : z ≠ 0 := bindR_err (fun _ => kindG_err) (fun k z h => by
 split at h
 ·exact bindR_err (fun _ => getBlob_err) (fun _ _ h => by cases h) h
 ·split at h
  ·exact bindR_err (fun _ => getTree_err) (fun _ _ h => by cases h) h
  ·split at h
   ·exact bindR_err (fun _ => getCommit_err) (fun _ _ h => by cases h) h
   ·exact bindR_err (fun _ => getChunk_err) (fun _ _ h => by cases h) h) h
end Go.Proofs.YtgmbkcjihgphmaaGreat
