/- Contracts and laws for what the statement reaches, joined: ObjLinks, GrainText, ObjSeal, ObjPutChunk, RowB. -/
import Derived.Test.YtpafhajpnepecaaJn15
import Derived.Test.YtpafhajpnepecaaJn7
import Derived.Test.YtpafhajpnepecaaJn9
/- object.Links: the walk. -/
set_option linter.unusedVariables false
set_option linter.unusedSimpArgs false
namespace Go.Proofs.Ytpafhajpnepecaa
open Go.RowKit

theorem ent_id_at {w : World} {g : Nat} {t : TypeId} {s : ByteArray} {d : Bool} {i : List UInt8} {f : Nat} (h : Blk w g t (entK s d i f)) : At w ⟨g, 2, none⟩ (bytesV i).toArray := fun j u hu => by
  show w.cell? ⟨g, 2 + j, none⟩ = some u
  rw [h.cell (2 + j)]
  have hu : (bytesV i)[j]? = some u := by simpa using hu
  have hlt := (List.getElem?_eq_some_iff.1 hu).1
  unfold entK
  rw [List.getElem?_toArray, show 2 + j = j + 1 + 1 by omega, List.getElem?_cons_succ, List.getElem?_cons_succ, List.getElem?_append_left hlt, hu]
theorem com_id_at {w : World} {g : Nat} {t : TypeId} {T : List UInt8} {A : Option Addr} {m c f : Nat} {a n : ByteArray} (h : Blk w g t (comK T A m c f a n)) : At w ⟨g, 0, none⟩ (bytesV T).toArray := fun j u hu => by
  show w.cell? ⟨g, 0 + j, none⟩ = some u
  rw [Nat.zero_add, h.cell j]
  have hu : (bytesV T)[j]? = some u := by simpa using hu
  have hlt := (List.getElem?_eq_some_iff.1 hu).1
  unfold comK
  rw [List.getElem?_toArray, List.getElem?_append_left hlt, hu]

set_option maxRecDepth 100000 in
set_option maxHeartbeats 8000000 in
theorem links_any (A : Option Addr) (n c : Nat) (l : List UInt8) (w : World) (hs : Sl w 1 A n (bytesV l)) (hnc : n ≤ c) (hcm : c ≤ maxLen) :
    Calls Try.prog 28 #[.slice A n c] w (LinksPost w (linksG l)) := by
  have HKD := Lib.hid (kind_any A n c l w hs hnc hcm)
  obtain ⟨R, hR⟩ : ∃ R, R = linksG l := ⟨_, rfl⟩
  obtain ⟨D, hD⟩ : ∃ D, D = kindG l := ⟨_, rfl⟩
  have HR := Lib.hid (show R = bindR D fun k => if k = 2 then bindR (getBlob l) fun x => .ok x.1 else if k = 3 then bindR (getTree l) fun x => .ok (x.map (·.2.2.1)) else if k = 4 then bindR (getCommit l) fun x => .ok (x.1 :: x.2.1) else bindR (getChunk l) fun _ => .ok [] by rw [hR, hD]; rfl)
  rw [← hD] at HKD
  rw [← hR]
  have HSI := Lib.hid (And.intro hs (And.intro hnc hcm))
  clear hs hcm hR hD hnc
  go_enter Try.func28, Try.ntmps28
  go_wp2_with fail
  refine HKD.out.mono ?_
  intro e w2 hp
  obtain ⟨hb2, hp⟩ := hp
  cases D with
  | error z =>
    obtain ⟨rfl, hz⟩ := hp
    have hzb : (z != 0) = true := by simp [hz]
    have HRR := Lib.hid (show R = .error z from HR.out)
    have HB := Lib.hid hb2
    clear hz hb2 HR
    go_wp2_with fail
    go_ret2
    exact ⟨HB.out, by rw [HRR.out]; rfl⟩
  | ok k =>
    obtain ⟨rfl, hk1, hk4⟩ := hp
    have HB := Lib.hid hb2
    have HS2 := Lib.hid (HSI.out.1.below hb2)
    have hcs : k = 1 ∨ k = 2 ∨ k = 3 ∨ k = 4 := by omega
    clear hb2 hk1 hk4 HKD
    rcases hcs with rfl | rfl | rfl | rfl
    · have HC := Lib.hid (getChunk_any A n c l w2 HS2.out HSI.out.2.1 HSI.out.2.2)
      obtain ⟨T, hT⟩ : ∃ T, T = getChunk l := ⟨_, rfl⟩
      have HR2 := Lib.hid (show R = bindR T fun _ => .ok [] by rw [HR.out, hT]; rfl)
      rw [← hT] at HC
      clear hT HR
      go_wp2_with fail
      refine HC.out.mono ?_
      intro e w3 hp
      obtain ⟨hb3, hp⟩ := hp
      have HB3 := Lib.hid (HB.out.trans (hb3.mono HB.out.size))
      clear hb3 HC
      cases T with
      | error z =>
        obtain rfl : e = _ := hp
        have HRR := Lib.hid (show R = .error z from HR2.out)
        go_wp2_with fail
        go_ret2
        exact ⟨HB3.out, by rw [HRR.out]; rfl⟩
      | ok b =>
        obtain ⟨A9, c9, rfl, _⟩ := hp
        have HRR := Lib.hid (show R = .ok [] from HR2.out)
        go_wp2_with fail
        go_ret2
        exact ⟨HB3.out, by rw [HRR.out]; exact ⟨none, 0, rfl, SlOf.nil, by simp, by simp [maxLen]⟩⟩
    · go_upto_region 9 with fail
      change Code.wp _ _ _ _ (w2.alloc (.cells zBlob 24))
      have HK := Lib.hid (Blk.new w2 24 zBlob)
      have hba : Below w2.heap.size w2 (w2.alloc (.cells zBlob 24)) := (Below.refl _ _).alloc (Nat.le_refl _) _
      have HB3 := Lib.hid (HB.out.trans (hba.mono HB.out.size))
      have HC := Lib.hid (getBlob_any A n c l (w2.alloc (.cells zBlob 24)) (HS2.out.below hba) HSI.out.2.1 HSI.out.2.2)
      obtain ⟨T, hT⟩ : ∃ T, T = getBlob l := ⟨_, rfl⟩
      have HR2 := Lib.hid (show R = bindR T fun x => .ok x.1 by rw [HR.out, hT]; rfl)
      have HW2 := Lib.hid HB.out.size
      rw [← hT] at HC
      clear hT HR hba HB HS2
      generalize w2.alloc (.cells zBlob 24) = w3 at *
      generalize w2.heap.size = g at *
      go_wp2_with fail
      refine HC.out.mono ?_
      intro e w4 hp
      obtain ⟨hb4, hp⟩ := hp
      have hg3 : g < w3.heap.size := HK.out.lt
      have HK4 := Lib.hid (HK.out.below hb4 hg3)
      have HB4 := Lib.hid (HB3.out.trans (hb4.mono HB3.out.size))
      have hkey : ∃ (A9 : Option Addr) (m9 c9 : Nat) (sz z : Int), e = .returned (.tuple #[.agg #[.slice A9 m9 c9, .int .i64 sz], .int .i64 z]) ∧ LinksPost w R (.returned (.tuple #[.slice A9 m9 c9, .int .i64 z])) (w4.setRow g #[.slice A9 m9 c9, .int .i64 sz]) := by
        have hbz : ∀ K, Below w.heap.size w (w4.setRow g K) := fun K => below_setRow HB4.out HW2.out K
        cases T with
        | error z =>
          obtain rfl : e = _ := hp
          exact ⟨none, 0, 0, 0, z, rfl, hbz _, by rw [show R = .error z from HR2.out]⟩
        | ok x =>
          obtain ⟨A9, c9, rfl, hsl, h1, h2⟩ := hp
          refine ⟨A9, x.1.length, c9, x.2, 0, rfl, hbz _, ?_⟩
          rw [show R = .ok x.1 from HR2.out]
          exact ⟨A9, c9, rfl, (hsl.stable (Moves.grown (grown_row w4 g _) hg3)).stable (Moves.less _ (fun b _ h => by show b < w3.heap.size; have := HW2.out; have h : b < w.heap.size := h; omega)), h1, h2⟩
      obtain ⟨A9, m9, c9, sz, z, rfl, hpost⟩ := hkey
      have HP := Lib.hid hpost
      obtain ⟨KX, hKX⟩ : ∃ KX : Array Value, KX = #[.slice A9 m9 c9, .int .i64 sz] := ⟨_, rfl⟩
      rw [← hKX] at HP ⊢
      have HI := Lib.hid (show (Try.prog.info? 24).map (·.size) = some KX.size by rw [hKX]; exact blob_info)
      have HO := Lib.hid (show KX.all (·.oneCell') = true by rw [hKX]; simp [Value.oneCell'])
      have HZ := Lib.hid (show zBlob.size = KX.size by rw [hKX]; rfl)
      have hcx : (w4.setRow g KX).cell? ⟨g, 0, none⟩ = some (.slice A9 m9 c9) := by
        rw [(show Blk (w4.setRow g KX) g 24 KX from setRow_heap _ g _ KX _ _ HK4.out).cell 0, hKX]; rfl
      clear hKX hpost hp hb4 HR2 HC HK HB3
      go_wp2_with (first | (refine wpList_store_row rfl _ _ _ rfl g KX rfl rfl 24 _ HK4.out HI.out HZ.out HO.out ?_) | fail)
      go_ret2
      exact HP.out
    · have HC := Lib.hid (getTree_any A n c l w2 HS2.out HSI.out.2.1 HSI.out.2.2)
      obtain ⟨T, hT⟩ : ∃ T, T = getTree l := ⟨_, rfl⟩
      have HR2 := Lib.hid (show R = bindR T fun x => .ok (x.map (·.2.2.1)) by rw [HR.out, hT]; rfl)
      have HTE := Lib.hid (show ∀ z, T = .error z → z ≠ 0 from fun z hz => getTree_err (hT ▸ hz))
      have HTL := Lib.hid (show ∀ x, T = .ok x → x.length ≤ 1024 from fun x hx => getTree_len (hT ▸ hx))
      rw [← hT] at HC
      clear hT HR
      go_wp2_with fail
      refine HC.out.mono ?_
      intro e w3 hp
      obtain ⟨hb3, hp⟩ := hp
      have HB3 := Lib.hid (HB.out.trans (hb3.mono HB.out.size))
      have hkey : ∃ (AE : Option Addr) (es : List EntT) (cE : Nat) (z : Int), e = .returned (.tuple #[.slice AE es.length cE, .int .i64 z]) ∧ SlOf entR w3 no AE es ∧ es.length ≤ 1024 ∧ (R = if z = 0 then .ok (es.map (·.2.2.1)) else .error z) ∧ (z ≠ 0 → es = []) := by
        cases T with
        | error z =>
          obtain rfl : e = _ := hp
          exact ⟨none, [], 0, z, rfl, SlOf.nil, by simp, by rw [if_neg (HTE.out z rfl)]; exact HR2.out, fun _ => rfl⟩
        | ok x =>
          obtain ⟨A9, c9, rfl, hsl, h1, h2⟩ := hp
          exact ⟨A9, x, c9, 0, rfl, hsl.stable (Moves.forget _ _), HTL.out x rfl, by rw [if_pos rfl]; exact HR2.out, fun h => absurd rfl h⟩
      obtain ⟨AE, es, cE, z, rfl, hsl, hel, hr, hze⟩ := hkey
      have HZE := Lib.hid hze
      clear hze
      have HSE := Lib.hid hsl
      obtain ⟨ne, hne⟩ : ∃ ne, ne = es.length := ⟨_, rfl⟩
      rw [← hne] at hel ⊢
      have HNE := Lib.hid hne.symm
      have HRR := Lib.hid hr
      have HR0 := Lib.hid (show RowR oidR 27 w3 w3.heap.size none 0 0 ((es.take 0).map (·.2.2.1)) from RowR.nil _ _ _ _)
      clear hp hb3 hsl hne hr HR2 HTE HTL HC HB HS2
      go_wp2_with fail
      go_loopw [6, 44] (fun s6 s44 wr => ∃ (k : Nat) (A' : Option Addr) (c' : Nat), k ≤ ne ∧ s6 = .slice A' k c' ∧ s44 = .int .i64 (k : Int) ∧ Hid (Below w3.heap.size w3 wr) ∧ Hid (RowR oidR 27 wr w3.heap.size A' k c' ((es.take k).map (·.2.2.1))) ∧ Hid (k = 0 → A' = none ∧ c' = 0)) (fun s6 s44 wr => ne - (intOf s44).toNat)
      case atStart => exact ⟨0, none, 0, by omega, rfl, rfl, Lib.hid (Below.refl _ _), HR0, Lib.hid fun _ => ⟨rfl, rfl⟩⟩
      case round =>
        obtain ⟨k, A', c', hk, rfl, rfl, HBL, HRW, HK0⟩ := hrel
        by_cases hlt : k < ne
        · have hltI : (k : Int) < (ne : Int) := by omega
          obtain ⟨b1, o1, x, hA, hb1, hx, h32, hf, hat⟩ := ents_look (HSE.out.below HBL.out) HNE.out hlt
          obtain ⟨KX, hKX⟩ : ∃ KX, KX = entK x.1 x.2.1 x.2.2.1 x.2.2.2 := ⟨_, rfl⟩
          have HI := Lib.hid (show (Try.prog.info? 76).map (·.size) = some KX.size by rw [hKX]; exact entK_info h32 _ _ _)
          have HO := Lib.hid (show KX.all (·.oneCell') = true by rw [hKX]; exact entK_one _ _ _ _)
          have HZS := Lib.hid (show zEnt.size = KX.size by rw [hKX, entK_size (by simp), entK_size h32])
          rw [← hKX] at hat
          have HAT := Lib.hid hat
          have HBN := Lib.hid (Blk.new wr 76 zEnt)
          have hba : Below wr.heap.size wr (wr.alloc (.cells KX 76)) := (Below.refl _ _).alloc (Nat.le_refl _) _
          have HBL2 := Lib.hid (HBL.out.trans (hba.mono HBL.out.size))
          have HRW2 := Lib.hid (HRW.out.below hba)
          obtain ⟨KB, hKB⟩ : ∃ KB, KB = (bytesV x.2.2.1).toArray := ⟨_, rfl⟩
          have HAI := Lib.hid (show At (wr.alloc (.cells KX 76)) ⟨wr.heap.size, 2, none⟩ KB by rw [hKB]; exact ent_id_at (t := 76) (by rw [hKX]; exact Blk.new _ _ _))
          have HIB := Lib.hid (show (Try.prog.info? 27).map (·.size) = some KB.size by rw [hKB]; exact oid_size h32)
          have hKs : KB.size = 32 := by rw [hKB]; simp [bytesV, h32]
          have hbs := fun w => bsId_of w KB hKs
          have htk : (es.take (k + 1)).map (·.2.2.1) = (es.take k).map (·.2.2.1) ++ [x.2.2.1] := by rw [List.take_add_one, hx]; simp
          obtain ⟨A9, c9, w9, run9, hrow, hb9, _, _, _, _⟩ := HRW2.out.push elemId (HBL2.out.size) (av := fun _ => True) (oid_of (wr.alloc (.cells KX 76)) _ h32) (fun _ _ _ => trivial) (by omega) (by simp only [maxLen]; omega) 22 1
          rw [← htk] at hrow
          rw [← hKB] at run9
          have HR9 := Lib.hid hrow
          have HB9 := Lib.hid (HBL2.out.trans hb9)
          subst hA
          clear hx h32 hf hat hKX hKB hKs htk hrow hba HRW HBL hb9 HRW2 HBL2
          go_upto_region 17 with (first
            | (refine wpList_load_at rfl _ _ rfl b1 (o1 + k * 35) rfl KX _ HAT.out Try.underlying76 rfl HI.out ?_)
            | (refine wpList_store_row rfl _ _ _ rfl wr.heap.size KX rfl rfl 76 _ HBN.out HI.out HZS.out HO.out ?_) | fail)
          rw [World.setRow_alloc_new]
          clear HBN HI HO HZS HAT
          generalize wr.alloc (.cells KX 76) = w8 at *
          generalize wr.heap.size = gx at *
          go_wp2_with (first
            | (refine wpList_load_at rfl _ _ rfl gx 2 rfl KB _ HAI.out Try.underlying27 rfl HIB.out ?_)
            | (refine wpList_build1 rfl (.tmp 50) rfl (.agg KB) _ rfl (hbs _) ?_)
            | (at_builtin; refine wpList_run_append run9 ?_ ?_ ?_; exact rfl; exact rfl)
            | fail)
          go_roundw
          case rel => exact ⟨k + 1, A9, c9, by omega, rfl, by go_num, HB9, HR9, Lib.hid fun h => by omega⟩
          case measure => simp [intOf]; omega
        · have hltI : ¬ (k : Int) < (ne : Int) := by omega
          obtain rfl : k = ne := by omega
          have hfin : LinksPost w R (.returned (.tuple #[.slice A' k c', .int .i64 z])) wr := by
            refine ⟨HB3.out.trans (HBL.out.mono HB3.out.size), ?_⟩
            rw [HRR.out]
            by_cases hz : z = 0
            · rw [if_pos hz]
              have htk : es.take k = es := List.take_of_length_le (by rw [HNE.out]; exact Nat.le_refl _)
              have hrow := HRW.out
              rw [htk] at hrow
              obtain ⟨q1, q2⟩ := hrow.cap
              have hB3 := HB3.out.size
              have hlen := hrow.len
              refine ⟨A', c', by rw [← hlen, hz], hrow.sl.away w.heap.size (fun h0 b off e => ?_) (fun _ _ k => k), by rw [← hlen]; exact q1, q2⟩
              obtain ⟨g', hg, hbb, _⟩ := hrow.at (by omega)
              rw [hg] at e
              have e := Option.some.inj e
              injection e with e
              omega
            · rw [if_neg hz]
              have hk0 : k = 0 := by have := HNE.out; rw [HZE.out hz] at this; simpa using this.symm
              obtain ⟨rfl, rfl⟩ := HK0.out hk0
              subst hk0
              rfl
          have HP := Lib.hid hfin
          clear hfin
          go_wp2_with fail
          go_ret2
          exact HP.out
    · go_upto_region 21 with fail
      change Code.wp _ _ _ _ (w2.alloc (.cells zCom 30))
      have HK := Lib.hid (Blk.new w2 30 zCom)
      have hba : Below w2.heap.size w2 (w2.alloc (.cells zCom 30)) := (Below.refl _ _).alloc (Nat.le_refl _) _
      have HB3 := Lib.hid (HB.out.trans (hba.mono HB.out.size))
      have HC := Lib.hid (getCommit_any A n c l (w2.alloc (.cells zCom 30)) (HS2.out.below hba) HSI.out.2.1 HSI.out.2.2)
      obtain ⟨T, hT⟩ : ∃ T, T = getCommit l := ⟨_, rfl⟩
      have HR2 := Lib.hid (show R = bindR T fun x => .ok (x.1 :: x.2.1) by rw [HR.out, hT]; rfl)
      have HTE := Lib.hid (show ∀ z, T = .error z → z ≠ 0 from fun z hz => getCommit_err (hT ▸ hz))
      have HTL := Lib.hid (show ∀ x, T = .ok x → x.2.1.length ≤ 8 from fun x hx => getCommit_len (hT ▸ hx))
      have HW2 := Lib.hid HB.out.size
      rw [← hT] at HC
      clear hT HR hba HB HS2
      generalize w2.alloc (.cells zCom 30) = w3 at *
      generalize w2.heap.size = g at *
      go_wp2_with fail
      refine HC.out.mono ?_
      intro e w4 hp
      obtain ⟨hb4, hp⟩ := hp
      have hg3 : g < w3.heap.size := HK.out.lt
      have HK4 := Lib.hid (HK.out.below hb4 hg3)
      have HB4 := Lib.hid (HB3.out.trans (hb4.mono HB3.out.size))
      have hzs : zCom.size = 36 := comK_size (by simp) _ _ _ _ _ _
      cases T with
      | error z =>
        obtain rfl : e = _ := hp
        have hz := HTE.out z rfl
        have hzb : (z == 0) = false := by simp [hz]
        have HRR := Lib.hid (show R = .error z from HR2.out)
        obtain ⟨KX, hKX⟩ : ∃ KX : Array Value, KX = zCom := ⟨_, rfl⟩
        have HI := Lib.hid (show (Try.prog.info? 30).map (·.size) = some KX.size by rw [hKX]; exact comK_info (by simp) _ _ _ _ _ _)
        have HO := Lib.hid (show KX.all (·.oneCell') = true by rw [hKX]; exact comK_one _ _ _ _ _ _ _)
        have HZ := Lib.hid (show zCom.size = KX.size by rw [hKX])
        have HB5 := Lib.hid (below_setRow HB4.out HW2.out KX)
        rw [← hKX]
        clear hKX hb4 HR2 HC HK HB3 HTE HTL hz hzs
        go_wp2_with (first | (refine wpList_store_row rfl _ _ _ rfl g KX rfl rfl 30 _ HK4.out HI.out HZ.out HO.out ?_) | fail)
        go_ret2
        exact ⟨HB5.out, by rw [HRR.out]; rfl⟩
      | ok x =>
        obtain ⟨A9, c9, rfl, h32, hsl, h1, h2⟩ := hp
        have h8 := HTL.out x rfl
        obtain ⟨m9, hm9⟩ : ∃ m9, m9 = x.2.1.length := ⟨_, rfl⟩
        rw [← hm9] at h1 h8 ⊢
        have HRR := Lib.hid (show R = .ok (x.1 :: x.2.1) from HR2.out)
        obtain ⟨KX, hKX⟩ : ∃ KX : Array Value, KX = comK x.1 A9 m9 c9 x.2.2.1 x.2.2.2.1 x.2.2.2.2 := ⟨_, rfl⟩
        have HI := Lib.hid (show (Try.prog.info? 30).map (·.size) = some KX.size by rw [hKX]; exact comK_info h32 _ _ _ _ _ _)
        have HO := Lib.hid (show KX.all (·.oneCell') = true by rw [hKX]; exact comK_one _ _ _ _ _ _ _)
        have HZ := Lib.hid (show zCom.size = KX.size by rw [hzs, hKX, comK_size h32])
        have HB5 := Lib.hid (below_setRow HB4.out HW2.out KX)
        have hK5 : Blk (w4.setRow g KX) g 30 KX := setRow_heap _ g _ KX _ _ HK4.out
        have hsl5 : SlOf oidR (w4.setRow g KX) (fun b => b < w3.heap.size) A9 x.2.1 := hsl.stable (Moves.grown (grown_row w4 g _) hg3)
        obtain ⟨KB, hKB⟩ : ∃ KB, KB = (bytesV x.1).toArray := ⟨_, rfl⟩
        have HAI := Lib.hid (show At (w4.setRow g KX) ⟨g, 0, none⟩ KB by rw [hKB]; exact com_id_at (by rw [← hKX]; exact hK5))
        have hcx : (w4.setRow g KX).cell? ⟨g, 32, none⟩ = some (.slice A9 m9 c9) := by rw [hK5.cell 32, hKX]; exact (comK_get h32 _ _ _ _ _ _).1
        have HIB := Lib.hid (show (Try.prog.info? 27).map (·.size) = some KB.size by rw [hKB]; exact oid_size h32)
        have hKs : KB.size = 32 := by rw [hKB]; simp [bytesV, h32]
        have hbs := fun w => bsId_of w KB hKs
        obtain ⟨A7, c7, w7, run7, hsl7, hb7, hc7, hcm7⟩ := com_links (w := w4.setRow g KX) (base := w.heap.size) h32 HB5.out.size (hsl5.stable (Moves.forget _ _)) hm9 h8 c9
        rw [← hKB] at run7
        have hfin : LinksPost w R (.returned (.tuple #[.slice A7 (1 + m9) c7, .int .i64 0])) w7 := by
          refine ⟨HB5.out.trans hb7, ?_⟩
          rw [HRR.out]
          exact ⟨A7, c7, by rw [List.length_cons, ← hm9, Nat.add_comm], hsl7, by rw [List.length_cons, ← hm9]; omega, hcm7⟩
        have HP := Lib.hid hfin
        have hgl : g < (w4.setRow g KX).heap.size := hK5.lt
        rw [← hKX]
        clear hfin hKX hKB hb4 HR2 HC HK HB3 HTE HTL hzs h32 hsl h1 h2 h8 hm9 hK5 hsl5 hKs hsl7 hb7 hc7 hcm7
        go_upto_region 22 with (first | (refine wpList_store_row rfl _ _ _ rfl g KX rfl rfl 30 _ HK4.out HI.out HZ.out HO.out ?_) | fail)
        clear HK4 HI HZ HO HB4 HB5 hg3
        generalize w4.setRow g KX = w5 at *
        go_wp2_with (first
          | (refine wpList_load_at rfl _ _ rfl g 0 rfl KB _ HAI.out Try.underlying27 rfl HIB.out ?_)
          | (refine wpList_build1 rfl (.tmp 64) rfl (.agg KB) _ rfl (hbs _) ?_)
          | (at_builtin; refine wpList_run_append run7 ?_ ?_ ?_; exact rfl; exact rfl)
          | fail)
        go_ret2
        exact HP.out
end Go.Proofs.Ytpafhajpnepecaa

/- grain.Text, grain.Row. -/
set_option linter.unusedVariables false
namespace Go.Proofs.Ytpafhajpnepecaa
open Go.RowKit

set_option maxRecDepth 100000 in
set_option maxHeartbeats 1000000 in
theorem text_any (s : ByteArray) (w : World) (hs : s.size ≤ maxLen) : Calls Try.prog 47 #[.string s] w fun e w' => (∃ cs : List Value, e = .returned (.agg cs.toArray) ∧ valR.R w' (fun b => b < w.heap.size) cs (.mk 1 0 s.data.toList 0 [])) ∧ Below w.heap.size w w' := by
  obtain ⟨A, c, w2, hrun, hsl, hc, hm, hb, b, rfl, hbw⟩ := toBytes (w.alloc (.cells #[.int .i64 0, .int .u64 0, .slice none 0 0, .float .f64 0, .slice none 0 0] 84)) s hs
  have HRUN := Lib.hid hrun
  have HSL := Lib.hid hsl
  have HB := Lib.hid hb
  have hbb : w.heap.size + 1 ≤ b := by simpa using hbw
  have HBL := Lib.hid ((Blk.new w 84 #[.int .i64 0, .int .u64 0, .slice none 0 0, .float .f64 0, .slice none 0 0]).below hb (by simp))
  obtain ⟨KV, hKV⟩ : ∃ KV, KV = cellsV 1 0 (some ⟨b, 0, none⟩) s.size c 0 none 0 0 := ⟨_, rfl⟩
  have HI := Lib.hid (show (Try.prog.info? 84).map (·.size) = some KV.size by rw [hKV]; exact cellsV_info _ _ _ _ _ _ _ _ _)
  have HO := Lib.hid (show KV.all (·.oneCell') = true by rw [hKV]; exact cellsV_one _ _ _ _ _ _ _ _ _)
  have HKV := Lib.hid hKV
  have HC := Lib.hid (And.intro hc hm)
  clear hKV hsl hb hc hm hbw
  go_enter Try.func47, Try.ntmps47
  go_wp2_with (first | (refine wpList_store_row rfl _ _ _ rfl w.heap.size KV rfl (by rw [HKV.out]; rfl) 84 _ HBL.out HI.out (by rw [HKV.out]; rfl) HO.out ?_) | fail)
  refine bodyPost_ret (results_cell_row rfl _ _ w.heap.size 84 KV (0, 0) _ rfl (setRow_heap _ w.heap.size _ _ _ _ HBL.out) Try.underlying84 rfl HI.out) rfl ?_
  have hlen : s.data.toList.length = s.size := Array.length_toList
  have hsl' : Sl (w2.setRow w.heap.size KV) 1 (some ⟨b, 0, none⟩) s.size (bytesV s.data.toList) := by
    refine ⟨HSL.out.1, fun hn => ?_⟩
    obtain ⟨b', off, he, hb', hc'⟩ := HSL.out.2 hn
    have e := Option.some.inj he
    injection e with e1 e2
    subst e1 e2
    refine ⟨b, 0, rfl, by simpa using hb', fun j u hu => ?_⟩
    rw [cell_setRow_other w2 w.heap.size KV ⟨b, 0 + j, none⟩ (by show b ≠ w.heap.size; omega)]
    exact hc' j u hu
  refine ⟨⟨KV.toList, by simp, ?_⟩, below_row w _ _ KV _ (HB.out.mono (by simp))⟩
  rw [HKV.out]
  rw [HKV.out] at hsl'
  refine valR_iff.2 ⟨some ⟨b, 0, none⟩, c, none, 0, by rw [hlen]; rfl, by decide, by omega, by omega, ⟨by rw [hlen]; exact HC.out.1, HC.out.2, bytesV s.data.toList, by rw [hlen]; exact hsl', each_byte_mk _, fun _ b' off e => ?_⟩, Nat.le_refl _, Nat.zero_le _, SlOf.nil⟩
  have e := Option.some.inj e
  injection e with e1 e2
  omega

set_option maxRecDepth 100000 in
set_option maxHeartbeats 1000000 in
theorem row_any (L : Option Addr) (m c : Nat) (vs : List Val) (w : World) (hs : SlOf valR w no L vs) (hm : m = vs.length) (hml : m ≤ 1048576) : Calls Try.prog 46 #[.slice L m c] w fun e w' => (∃ cs : List Value, e = .returned (.agg cs.toArray) ∧ valR.R w' no cs (.mk 3 0 [] 0 vs)) ∧ Below w.heap.size w w' := by
  subst hm
  obtain ⟨xs, hsl, hes, _⟩ := hs
  have hb2 : Below w.heap.size w ((w.alloc (.cells #[.int .i64 0, .int .u64 0, .slice none 0 0, .float .f64 0, .slice none 0 0] 84)).alloc (.cells #[] 84)) := ((Below.refl _ _).alloc (Nat.le_refl _) _).alloc (by simp) _
  have hown := own_made (base := w.heap.size + 1) (w.alloc (.cells #[.int .i64 0, .int .u64 0, .slice none 0 0, .float .f64 0, .slice none 0 0] 84)) 84 5 (by simp)
  obtain ⟨A7, c7, w7, run7, ap7, hc7, hm7⟩ := append_sl elemVal hown (hsl.below hb2) (hes.all (p := fun u => u.oneCell' = true) (fun _ _ h => valR.one h)) (by omega) (by simp only [maxLen]; omega) (by simp) 82 c
  simp only [Nat.zero_add, List.nil_append] at run7 ap7 hc7
  have hb7 : Below w.heap.size w w7 := hb2.trans (ap7.below.mono (Nat.le_succ _))
  have HR7 := Lib.hid ap7.own
  have HES := Lib.hid (hes.mono fun _ _ h => valR.stable h ((show Moves w w no (fun b => w.heap.size ≤ b) from ⟨Nat.le_refl _, fun _ _ _ => rfl, fun b h _ h' => by omega⟩).trans (Moves.of_below hb7)))
  have HB7 := Lib.hid hb7
  have HBL := Lib.hid (((Blk.new w 84 #[.int .i64 0, .int .u64 0, .slice none 0 0, .float .f64 0, .slice none 0 0]).alloc (.cells #[] 84)).below ap7.below (Nat.lt_succ_self _))
  obtain ⟨KV, hKV⟩ : ∃ KV, KV = cellsV 3 0 none 0 0 0 A7 vs.length c7 := ⟨_, rfl⟩
  have HI := Lib.hid (show (Try.prog.info? 84).map (·.size) = some KV.size by rw [hKV]; exact cellsV_info _ _ _ _ _ _ _ _ _)
  have HO := Lib.hid (show KV.all (·.oneCell') = true by rw [hKV]; exact cellsV_one _ _ _ _ _ _ _ _ _)
  have HKV := Lib.hid hKV
  have HC := Lib.hid (And.intro hc7 hm7)
  clear hKV hsl hes hb2 hown hb7 ap7 hc7 hm7
  have hsz : (w.alloc (.cells #[.int .i64 0, .int .u64 0, .slice none 0 0, .float .f64 0, .slice none 0 0] 84)).heap.size = w.heap.size + 1 := by simp
  rw [hsz] at run7
  go_enter Try.func46, Try.ntmps46
  go_wp2_with (first | (at_builtin; refine wpList_run_append run7 ?_ ?_ ?_; exact rfl; exact rfl) | (refine wpList_store_row rfl _ _ _ rfl w.heap.size KV rfl (by rw [HKV.out]; rfl) 84 _ HBL.out HI.out (by rw [HKV.out]; rfl) HO.out ?_) | fail)
  refine bodyPost_ret (results_cell_row rfl _ _ w.heap.size 84 KV (0, 0) _ rfl (setRow_heap _ w.heap.size _ _ _ _ HBL.out) Try.underlying84 rfl HI.out) rfl ?_
  refine ⟨⟨KV.toList, by simp, ?_⟩, below_setRow HB7.out (Nat.le_refl _) KV⟩
  have hrow := own_row HR7.out (g := w.heap.size) (cs := KV) (Nat.lt_succ_self _)
  have hmv : Moves w7 (w7.setRow w.heap.size KV) (fun b => w.heap.size ≤ b) no := (Moves.grown (grown_row w7 w.heap.size KV) (Nat.le_refl _)).trans (Moves.forget _ _)
  rw [show KV.toList = (cellsV 3 0 none 0 0 0 A7 vs.length c7).toList from by rw [HKV.out]]
  exact valR_iff.2 ⟨none, 0, A7, c7, rfl, by decide, by omega, by omega, ⟨Nat.le_refl _, Nat.zero_le _, SlOf.nil⟩, HC.out.1, HC.out.2, xs, Sl.ofOwn hrow, HES.out.mono fun _ _ k => valR.stable k hmv, fun _ _ _ _ h => h⟩
end Go.Proofs.Ytpafhajpnepecaa

/- object.seal, object.PutChunk. -/
set_option linter.unusedVariables false
set_option linter.unusedSimpArgs false
namespace Go.Proofs.Ytpafhajpnepecaa
open Go.RowKit
attribute [local go_sem ↓] cvt_eq

theorem value_sizeOf (w : World) : (sizeOf 84).run Try.prog w = .ok 5 w := by
  have h := val_info
  cases hq : Try.prog.info? 84 with
  | none => rw [hq] at h; simp at h
  | some i =>
    rw [hq] at h
    have h1 : i.size = 5 := by simpa using h
    simp [sizeOf, typeInfo, hq, h1]
abbrev zVal : Array Value := #[.int .i64 0, .int .u64 0, .slice none 0 0, .float .f64 0, .slice none 0 0]
theorem value_zero (w : World) : (zeroValue 84).run Try.prog w = .ok (.agg zVal) w := by kernel_rfl
theorem bsVal_of (w : World) (K : Array Value) (hK : K.size = 5) : (Instr.buildSlice 82 1 #[(0, .agg K)]).run Try.prog w = .ok (.slice (some ⟨w.heap.size, 0, none⟩) 1 1) (w.alloc (.cells K 84)) := by
  unfold Instr.buildSlice
  have hf : ∀ cells : Array Value, cells.size = 5 → Instr.fill (fun i => some (i * 5, 5)) cells [(0, .agg K)] = some K := by
    intro cells hc
    have hK2 : (Value.agg K).cells = K := rfl
    have h := fill_all K cells (by omega)
    unfold Instr.fill
    simp only [hK2]
    have hc1 : (decide (K.size ≠ 5) || decide (0 * 5 + K.size > cells.size)) = false := by simp [hK, hc]
    simp only [Nat.zero_mul] at hc1 ⊢
    rw [if_neg (by rw [hc1]; decide)]
    unfold Instr.fill
    rw [h]
  simp [run_underlying Try.underlying82, Sem.run_bind, value_sizeOf, value_zero, Value.cells]
  rw [hf _ (by simp)]
  simp [newRow, Sem.run_bind]
theorem row_oneV {w : World} {K : Array Value} {base : Nat} (hK : K.size = 5) (hb : base ≤ w.heap.size) : (w.alloc (.cells K 84)).ownsRow base 84 5 (.slice (some ⟨w.heap.size, 0, none⟩) 1 1) 1 K.toList :=
  ⟨by simp [hK], .inr ⟨_, 1, K, rfl, hb, heap_alloc_new w _, Nat.le_refl _, by simp [maxLen], by simp [hK], by rw [List.take_of_length_le (by simp [hK])]⟩⟩
theorem EncPost.lower {w w2 w' : World} {r : Res (List UInt8)} {e : Ending} (h : EncPost w2 r e w') (hb : Below w.heap.size w w2) : EncPost w r e w' := by
  obtain ⟨h1, h2⟩ := h
  refine ⟨hb.trans (h1.mono hb.size), ?_⟩
  cases r with
  | error z => exact h2
  | ok o => obtain ⟨A, m, c, he, hm, ho⟩ := h2; exact ⟨A, m, c, he, hm, own_mono ho hb.size⟩

/-- the kind ahead of the values -/
theorem seal_row {w : World} {base : Nat} {K : Array Value} {kv : Val} {L : Option Addr} {m : Nat} {vs : List Val} (hK : valR.R w no K.toList kv) (hb : base ≤ w.heap.size) (h : SlOf valR w no L vs) (hm : m = vs.length) (h8 : m ≤ 8) (c0 : Nat) :
    ∃ A' c' w', (Builtin.append_ #[82, 82] 82 #[.slice (some ⟨w.heap.size, 0, none⟩) 1 1, .slice L m c0]).run Try.prog (w.alloc (.cells K 84)) = .ok (.slice A' (1 + m) c') w' ∧
      SlOf valR w' no A' (kv :: vs) ∧ Below base w w' ∧ 1 + m ≤ c' ∧ c' ≤ maxLen := by
  have hba : Below w.heap.size w (w.alloc (.cells K 84)) := (Below.refl _ _).alloc (Nat.le_refl _) _
  have hk5 : K.size = 5 := by have := valR.len hK; rw [Array.length_toList] at this; exact this
  obtain ⟨vs', hs0, he, _⟩ := h
  have hs := hs0.below hba
  rw [← hm] at hs
  have h1 : ∀ u ∈ vs', u.oneCell' = true := fun u hu => he.all (p := fun u => u.oneCell' = true) (fun _ _ h => valR.one h) u hu
  obtain ⟨A', c', w', run, ap, hc, hcm⟩ := append_sl (P := Try.prog) elemVal (row_oneV hk5 (Nat.le_refl _)) hs h1 (by omega) (by simp only [maxLen]; omega) (by simp) 82 c0
  have hbw : Below w.heap.size w w' := hba.trans ap.below
  have hmv : Moves w w' no (own (.slice A' (1 + m) c')) := ⟨hbw.size, fun b hb _ => hbw.block b hb, fun b hb _ ho => by have := (ap.own.lt b ho).1; omega⟩
  have hown := ap.own
  have hl : 1 + m = (kv :: vs).length := by rw [List.length_cons, hm]; omega
  rw [hl] at hown hmv run hc ⊢
  exact ⟨A', c', w', run, SlOf.ofOwn hown (.cons (valR.stable hK hmv) (he.mono fun _ _ k => valR.stable k hmv)), hbw.mono hb, hc, hcm⟩

set_option maxRecDepth 100000 in
set_option maxHeartbeats 4000000 in
theorem seal_any (kind : Nat) (L : Option Addr) (m c : Nat) (vs : List Val) (w : World) (hk : kind ≤ 4) (hs : SlOf valR w no L vs) (hm : m = vs.length) (hml : m ≤ 5) (hbk : bulkVs vs ≤ 1000000) :
    Calls Try.prog 38 #[.int .i64 (kind : Int), .slice L m c] w (EncPost w (sealG kind vs)) := by
  obtain ⟨R, hR⟩ : ∃ R, R = sealG kind vs := ⟨_, rfl⟩
  have HR := Lib.hid (show R = enc (.mk 3 0 [] 0 (numV kind :: vs)) from hR)
  rw [← hR]
  have hkw : IntKind.u64.wrap (kind : Int) = (kind : Int) := by rw [wrap_u64]; omega
  have HNUM := Lib.hid (num_any kind w)
  have HS := Lib.hid hs
  have HM := Lib.hid hm
  have HBK := Lib.hid hbk
  have HK4 := Lib.hid (show kind < 2 ^ 64 by omega)
  clear hR hs hm hbk hk
  go_enter Try.func38, Try.ntmps38
  go_wp2_with fail
  refine HNUM.out.mono ?_
  rintro e w2 ⟨rfl, hb2⟩
  obtain ⟨K, hK⟩ : ∃ K, K = cellsV 0 kind none 0 0 0 none 0 0 := ⟨_, rfl⟩
  have hk5 : K.size = 5 := by rw [hK]; rfl
  have hbs := fun w => bsVal_of w K hk5
  have hv : valR.R w2 no K.toList (numV kind) := by
    rw [hK]
    exact valR_iff.2 ⟨none, 0, none, 0, rfl, by decide, HK4.out, by omega, ⟨Nat.le_refl _, Nat.zero_le _, SlOf.nil⟩, Nat.le_refl _, Nat.zero_le _, SlOf.nil⟩
  obtain ⟨A3, c3, w3, run3, hsl3, hb3, hc3, hcm3⟩ := seal_row hv (Nat.le_refl _) (HS.out.below hb2) HM.out (by omega) c
  have HROW := Lib.hid (row_any A3 (1 + m) c3 (numV kind :: vs) w3 hsl3 (by rw [List.length_cons, HM.out]; omega) (by omega))
  have HB3 := Lib.hid (hb2.trans (hb3.mono hb2.size))
  rw [← hK]
  clear hK hk5 hv hsl3 hb3 hc3 hcm3 hb2 HNUM HS
  go_wp2_with (first
    | (refine wpList_build1 rfl (.tmp 8) rfl (.agg K) _ rfl (hbs _) ?_)
    | (at_builtin; refine wpList_run_append run3 ?_ ?_ ?_; exact rfl; exact rfl)
    | fail)
  refine HROW.out.mono ?_
  rintro e w4 ⟨⟨cs, rfl, hv4⟩, hb4⟩
  have HB4 := Lib.hid (HB3.out.trans (hb4.mono HB3.out.size))
  have HENC := Lib.hid (encode_big _ w4 hv4 (by simp only [bulkV, bulkVs, numV, List.length_nil]; have := HBK.out; omega))
  clear hv4 hb4 HROW run3 hbs
  obtain ⟨KV, hKV⟩ : ∃ KV, KV = cs.toArray := ⟨_, rfl⟩
  rw [← hKV] at HENC ⊢
  clear hKV
  go_wp2_with fail
  refine HENC.out.mono ?_
  intro e w5 hp
  have hp := hp.lower HB4.out
  rw [← HR.out] at hp
  have HP := Lib.hid hp
  clear hp HENC
  have hp := HP.out
  cases R with
  | error z =>
    obtain ⟨h1, h2⟩ := hp
    have h2 : e = _ := h2
    subst h2
    have H1 := Lib.hid h1
    clear h1 HP
    go_wp2_with fail
    go_ret2
    exact ⟨H1.out, rfl⟩
  | ok o =>
    obtain ⟨h1, A9, m9, c9, rfl, h3, h4⟩ := hp
    have H1 := Lib.hid (And.intro h1 (And.intro h3 h4))
    clear h1 h3 h4 HP
    go_wp2_with fail
    go_ret2
    exact ⟨H1.out.1, A9, m9, c9, rfl, H1.out.2⟩
end Go.Proofs.Ytpafhajpnepecaa

/- object.PutChunk. -/
set_option linter.unusedVariables false
set_option linter.unusedSimpArgs false
namespace Go.Proofs.Ytpafhajpnepecaa
open Go.RowKit
attribute [local go_sem ↓] cvt_eq

set_option maxRecDepth 100000 in
set_option maxHeartbeats 4000000 in
theorem putChunk_any (A : Option Addr) (n c : Nat) (l : List UInt8) (w : World) (hs : Sl w 1 A n (bytesV l)) (hnc : n ≤ c) (hcm : c ≤ maxLen) :
    Calls Try.prog 34 #[.slice A n c] w (EncPost w (putChunk l)) := by
  have hn : n = l.length := by have := hs.1; rw [bytesV_length] at this; omega
  obtain ⟨R, hR⟩ : ∃ R, R = putChunk l := ⟨_, rfl⟩
  have HR := Lib.hid (show R = if 262144 < n then .error 2 else sealG 1 [txtV l] by rw [hR, hn]; rfl)
  rw [← hR]
  have HS := Lib.hid hs
  have HN := Lib.hid hn
  simp only [maxLen] at hcm
  clear hR hs hn
  by_cases hl : 262144 < n
  · have hI : (262144 : Int) < (n : Int) := by omega
    have HRR := Lib.hid (show R = .error 2 by rw [HR.out, if_pos hl])
    go_enter Try.func34, Try.ntmps34
    go_wp2_with fail
    go_ret2
    exact ⟨Below.refl _ _, by rw [HRR.out]; rfl⟩
  · have hI : ¬ (262144 : Int) < (n : Int) := by omega
    have HRR := Lib.hid (show R = sealG 1 [txtV l] by rw [HR.out, if_neg hl])
    have hcv : cvt w A n c = .ok (.string ⟨l.toArray⟩) w := by rw [HN.out]; exact cvt_of (by have := HS.out; rwa [HN.out] at this) c
    have HTX := Lib.hid (text_any ⟨l.toArray⟩ w (by simp only [ByteArray.size, maxLen, List.size_toArray]; have := HN.out; omega))
    go_enter Try.func34, Try.ntmps34
    go_wp2_with fail
    refine HTX.out.mono ?_
    rintro e w2 ⟨⟨cs, rfl, hv⟩, hb2⟩
    have hk5 : cs.length = 5 := valR.len hv
    obtain ⟨K, hK⟩ : ∃ K, K = cs.toArray := ⟨_, rfl⟩
    have hKs : K.size = 5 := by rw [hK]; simpa using hk5
    have hbs := fun w => bsVal_of w K hKs
    have hba : Below w2.heap.size w2 (w2.alloc (.cells K 84)) := (Below.refl _ _).alloc (Nat.le_refl _) _
    have hsl : SlOf valR (w2.alloc (.cells K 84)) no (some ⟨w2.heap.size, 0, none⟩) [txtV l] := by
      refine SlOf.ofOwn (c := 1) (row_oneV hKs (Nat.le_refl _)) ?_
      have hmv : Moves w2 (w2.alloc (.cells K 84)) (fun b => b < w.heap.size) (own (.slice (some ⟨w2.heap.size, 0, none⟩) 1 1)) := ⟨hba.size, fun b hb _ => hba.block b hb, fun b hb _ ho => by
        have ho : some w2.heap.size = some b := ho
        have := Option.some.inj ho
        omega⟩
      have hv2 := valR.stable hv hmv
      have hKl : K.toList = cs := by rw [hK]
      rw [hKl]
      have := Each.cons (R := valR.R (w2.alloc (.cells K 84)) (own (.slice (some ⟨w2.heap.size, 0, none⟩) 1 1))) hv2 Each.nil
      simpa [txtV] using this
    have HSEAL := Lib.hid (seal_any 1 (some ⟨w2.heap.size, 0, none⟩) 1 1 [txtV l] (w2.alloc (.cells K 84)) (by omega) hsl rfl (by omega) (by simp only [bulkV, bulkVs, txtV]; have := HN.out; omega))
    have HB3 := Lib.hid (hb2.trans (hba.mono hb2.size))
    rw [← hK]
    clear hv hK hKs hba hsl hb2 HTX hk5
    go_wp2_with (first
      | (refine wpList_build1 rfl (.tmp 9) rfl (.agg K) _ rfl (hbs _) ?_)
      | fail)
    refine HSEAL.out.mono ?_
    intro e w5 hp
    have hp := hp.lower HB3.out
    rw [← HRR.out] at hp
    have HP := Lib.hid hp
    clear hp HSEAL
    have hp := HP.out
    cases R with
    | error z =>
      obtain ⟨h1, h2⟩ := hp
      have h2 : e = _ := h2
      subst h2
      have H1 := Lib.hid h1
      clear h1 HP
      go_wp2_with fail
      go_ret2
      exact ⟨H1.out, rfl⟩
    | ok o =>
      obtain ⟨h1, A9, m9, c9, rfl, h3, h4⟩ := hp
      have H1 := Lib.hid (And.intro h1 (And.intro h3 h4))
      clear h1 h3 h4 HP
      go_wp2_with fail
      go_ret2
      exact ⟨H1.out.1, A9, m9, c9, rfl, H1.out.2⟩
end Go.Proofs.Ytpafhajpnepecaa

/- Own rows whose elements stay away from what was there ahead of base. -/
set_option linter.unusedVariables false
namespace Go.Proofs.Ytpafhajpnepecaa
open Go.RowKit

def avB (base : Nat) (v : Value) : Av := fun b => b < base ∨ own v b
structure RowB {α : Type} (r : Rd α) (e : TypeId) (w : World) (base : Nat) (A : Option Addr) (m c : Nat) (l : List α) : Prop where
  row : ∃ xs, w.ownsRow base e r.k (.slice A m c) m xs ∧ Each (r.R w (avB base (.slice A m c))) xs l
  len : m = l.length

section
variable {α : Type} {r : Rd α} {e : TypeId} {w w' : World} {base m c : Nat} {A : Option Addr} {l : List α}
theorem RowB.nil (r : Rd α) (e : TypeId) (w : World) (base : Nat) : RowB r e w base none 0 0 [] := ⟨⟨[], World.ownsRow_nil _ _ _ _, .nil⟩, rfl⟩
theorem RowB.below (h : RowB r e w base A m c l) (hb : Below w.heap.size w w') : RowB r e w' base A m c l := by
  obtain ⟨xs, h1, h2⟩ := h.row
  exact ⟨⟨xs, own_below h1 hb, h2.mono fun _ _ k => r.stable k (Moves.of_below hb)⟩, h.len⟩
theorem RowB.lt (h : RowB r e w base A m c l) {b : Nat} (hb : own (.slice A m c) b) : base ≤ b ∧ b < w.heap.size := by
  obtain ⟨xs, h1, h2⟩ := h.row
  exact h1.lt b hb
theorem RowB.cap (h : RowB r e w base A m c l) : m ≤ c ∧ c ≤ maxLen := by
  obtain ⟨xs, h1, h2⟩ := h.row
  exact own_cap h1
theorem RowB.sl (h : RowB r e w base A m c l) : SlOf r w (fun b => b < base) A l := by
  obtain ⟨xs, h1, h2⟩ := h.row
  refine ⟨xs, by rw [← h.len]; exact Sl.ofOwn h1, h2.mono fun _ _ k => r.stable k (Moves.less w (fun b _ h => .inl h)), fun h0 b off e => ?_⟩
  subst e
  have := (h1.lt b rfl).1
  show ¬ b < base
  omega
theorem RowB.push {P : Program} {t : TypeId} {z : Value} {byt : Nat} (E : ElemOf P t e z r.k byt) (h : RowB r e w base A m c l) (hb : base ≤ w.heap.size) {av : Av} {cs : List Value} {x : α} (hx : r.R w av cs x)
    (hav : ∀ b, b < w.heap.size → avB base (.slice A m c) b → av b) (hbytes : (m + 1) * byt ≤ 140737488355328) (hm : m + 1 ≤ maxLen) (ty : TypeId) (c0 : Nat) :
    ∃ A' c' w', (Builtin.append_ #[t, t] ty #[.slice A m c, .slice (some ⟨w.heap.size, 0, none⟩) 1 c0]).run P (w.alloc (.cells cs.toArray e)) = .ok (.slice A' (m + 1) c') w' ∧ RowB r e w' base A' (m + 1) c' (l ++ [x]) ∧
      Below base w w' ∧ w.grownBy w' (Value.slice A m c).ownBlock ∧ m + 1 ≤ c' ∧ c' ≤ maxLen := by
  obtain ⟨xs, h1, h2⟩ := h.row
  have hba : Below w.heap.size w (w.alloc (.cells cs.toArray e)) := (Below.refl _ _).alloc (Nat.le_refl _) _
  obtain ⟨A', c', w', run, ap, hc, hcm⟩ := append_sl E (own_below h1 hba) (Sl.fresh w cs.toArray e (0, 0) 1 r.k (by simpa using r.len hx)) (fun u hu => r.one hx u (by simpa using hu)) hbytes hm (by simp; omega) ty c0
  have m1 : Moves w (w.alloc (.cells cs.toArray e)) (avB base (.slice A m c)) (avB base (.slice A m c)) := Moves.of_below hba
  have k2 : Moves (w.alloc (.cells cs.toArray e)) w' (own (.slice A m c)) (own (.slice A' (m + 1) c')) := Moves.of_app ap
  have m2 : Moves (w.alloc (.cells cs.toArray e)) w' (avB base (.slice A m c)) (avB base (.slice A' (m + 1) c')) :=
    ⟨k2.size, fun b hb hn => k2.block b hb (fun h => hn (.inr h)), fun b hb hn h' => h'.elim (fun h => hn (.inl h)) (fun h => k2.ne b hb (fun q => hn (.inr q)) h)⟩
  have hxx : r.R w' (avB base (.slice A' (m + 1) c')) cs x := r.stable hx (((Moves.less w (av' := avB base (.slice A m c)) hav).trans m1).trans m2)
  refine ⟨A', c', w', run, ⟨⟨xs ++ cs, ?_, (h2.mono fun _ _ k => r.stable k (m1.trans m2)).snoc hxx⟩, by simp [h.len]⟩, (hba.mono hb).trans (ap.below), ?_, hc, hcm⟩
  · have := ap.own
    simpa using this
  · have g1 : w.grownBy (w.alloc (.cells cs.toArray e)) (Value.slice A m c).ownBlock := ⟨hba.os, hba.tape, hba.output, hba.size, fun k hk _ => hba.block k hk⟩
    exact g1.trans ap.grown
end
end Go.Proofs.Ytpafhajpnepecaa
