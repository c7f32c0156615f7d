/- Contracts and laws for what the statement reaches, joined: TalkServe, TalkRefServe, TalkTexts, TalkSlices, GrainMore. -/
import Derived.Test.YtgmbkcjihgphmaaJn2
import Derived.Test.YtgmbkcjihgphmaaJn4
import Derived.Test.YtgmbkcjihgphmaaJn6
import Derived.Lib.SliceRun
/- talk.Serve. -/
set_option linter.unusedVariables false
set_option linter.unusedSimpArgs false
namespace Go.Proofs.Ytgmbkcjihgphmaa
open Go.RowKit

/-- a source, as one calls it -/
structure SrcK (W0 : World) (T : TypeId) (V : Value) (K : Nat) (S : List UInt8 → Option (List UInt8)) : Prop where
  nil : ∀ n w, (nilAhead (n + 1) T V "Get").run Try.prog w = .ok (some false) w
  meth : ∀ n w, (method (n + 1) T V "Get").run Try.prog w = .ok (K, V) w
  call : ∀ args w, (callFunc K args).run Try.prog w = .ok (.enter K args) w
  small : ∀ id b, S id = some b → b.length ≤ 1000000000
  get : ∀ w, Below W0.heap.size W0 w → ∀ id : List UInt8, id.length = 32 → Calls Try.prog K #[V, idV id] w (SrcPost w (S id))

/-- what is handed out -/
def serveF (S : List UInt8 → Option (List UInt8)) : List (List UInt8) → Nat → List (List UInt8) → List (List UInt8)
  | [], _, out => out
  | id :: r, z, out => match S id with
    | none => serveF S r z out
    | some b => if 65536 < z + b.length ∧ out ≠ [] then out else serveF S r (z + b.length) (out ++ [b])
abbrev byR := slR byteR
theorem elemBB : ElemOf Try.prog 39 28 (.slice none 0 0) 1 24 := ⟨Try.underlying39, by kernel_rfl, rfl, by decide⟩
/-- some byte strings in new memory -/
def RowsPost (w : World) (l : List (List UInt8)) (e : Ending) (w' : World) : Prop :=
  Below w.heap.size w w' ∧ ∃ A m c, e = .returned (.slice A m c) ∧ RowR byR 28 w' w.heap.size A m c l

set_option maxRecDepth 100000 in
set_option maxHeartbeats 8000000 in
theorem serve_any (T : TypeId) (V : Value) (K : Nat) (S : List UInt8 → Option (List UInt8)) (A : Option Addr) (n c : Nat) (ids : List (List UInt8)) (W0 : World) (hS : SrcK W0 T V K S) (hs : SlOf oidR W0 no A ids) (hn : n = ids.length) (hl : n ≤ 1000000000) (hnc : n ≤ c) (hcm : c ≤ maxLen) :
    Calls Try.prog 11 #[.iface T V, .slice A n c] W0 (RowsPost W0 (serveF S (ids.take 16) 0 [])) := by
  have HS := Lib.hid hs
  have HN := Lib.hid hn.symm
  have HC := Lib.hid hcm
  have HSR := Lib.hid hS
  have hnil := hS.nil
  have hmet := hS.meth
  have hcall := hS.call
  obtain ⟨R, hR⟩ : ∃ R, R = serveF S (ids.take 16) 0 [] := ⟨_, rfl⟩
  rw [← hR]
  have HR := Lib.hid hR
  have hcase : (n ≤ 16 ∧ ¬ (16 : Int) < (n : Int)) ∨ (16 < n ∧ (16 : Int) < (n : Int)) := by omega
  clear hs hn hcm hS hR
  rcases hcase with ⟨hc1, hc2⟩ | ⟨hc1, hc2⟩
  · have hmn : n ≤ n := by omega
    have hm16 : n ≤ 16 := by omega
    have HTK := Lib.hid (show (ids.take 16).length = n by rw [List.length_take]; have := HN.out; omega)
    go_enter Try.func11, Try.ntmps11
    go_wp2_with fail
    clear hc2 hc1
    go_loopw [5, 6, 17] (fun s5 s6 s17 wr => ∃ (k z m co : Nat) (Ao : Option Addr) (out : List (List UInt8)), k ≤ n ∧ s17 = .int .i64 (k : Int) ∧ s6 = .int .i64 (z : Int) ∧ s5 = .slice Ao m co ∧ Hid (m = out.length ∧ m ≤ k ∧ z ≤ k * 1000000000) ∧ Hid (RowR byR 28 wr W0.heap.size Ao m co out) ∧ Hid (serveF S ((ids.take 16).drop k) z out = R) ∧ Hid (Below W0.heap.size W0 wr)) (fun s5 s6 s17 wr => n - (intOf s17).toNat)
    case atStart => exact ⟨0, 0, 0, 0, none, [], by omega, rfl, rfl, rfl, Lib.hid ⟨rfl, by omega, by omega⟩, Lib.hid (RowR.nil _ _ _ _), Lib.hid HR.out.symm, Lib.hid (Below.refl _ _)⟩
    case round =>
      obtain ⟨k, z, m, co, Ao, out, hk, rfl, rfl, rfl, HZ, HRW, HF, HBL⟩ := hrel
      by_cases hlt : k < n
      · have hltI : (k : Int) < (n : Int) := by omega
        obtain ⟨b1, o1, x, rfl, hb1, hx, h32, hat⟩ := oids_look (HS.out.below HBL.out) HN.out (show k < n by omega)
        obtain ⟨KX, hKX⟩ : ∃ KX, KX = (bytesV x).toArray := ⟨_, rfl⟩
        have HI := Lib.hid (show (Try.prog.info? 33).map (·.size) = some KX.size by rw [hKX]; exact oid_size h32)
        rw [← hKX] at hat
        have HAT := Lib.hid hat
        have HZZ := Lib.hid (show zID.size = KX.size by rw [hKX]; simp [bytesV, h32])
        have HO := Lib.hid (show KX.all (·.oneCell') = true by rw [hKX]; exact oid_one _)
        have HNB := Lib.hid (Blk.new wr 33 zID)
        have hba : Below wr.heap.size wr (wr.alloc (.cells zID 33)) := (Below.refl _ _).alloc (Nat.le_refl _) _
        have HBA := Lib.hid hba
        have HDR := Lib.hid (show serveF S ((ids.take 16).drop k) z out = match S x with
            | none => serveF S ((ids.take 16).drop (k + 1)) z out
            | some b => if 65536 < z + b.length ∧ out ≠ [] then out else serveF S ((ids.take 16).drop (k + 1)) (z + b.length) (out ++ [b]) by
          have hx2 : (ids.take 16)[k]? = some x := by rw [List.getElem?_take_of_lt (by omega)]; exact hx
          obtain ⟨h1, h2⟩ := List.getElem?_eq_some_iff.1 hx2
          rw [List.drop_eq_getElem_cons h1, h2]; rfl)
        rw [HF.out] at HDR
        have HGET := Lib.hid (fun w hw => HSR.out.get w hw x h32)
        rw [show idV x = .agg KX by rw [hKX]] at HGET
        clear hx hat hba HF hKX h32
        go_upto_region 6 with (first | (refine wpList_load_at rfl _ _ rfl b1 (o1 + k * 32) rfl KX _ HAT.out Try.underlying33 rfl HI.out ?_) | (refine wpList_store_row rfl _ _ _ rfl wr.heap.size KX rfl rfl 33 _ HNB.out HI.out HZZ.out HO.out ?_) | fail)
        rw [World.setRow_alloc_new]
        go_frame
        change Code.wp _ _ _ _ (wr.alloc (.cells KX 33))
        have HB2 := Lib.hid (HBL.out.alloc HBL.out.size (.cells KX 33))
        have HK2 := Lib.hid (Blk.new wr 33 KX)
        have HRW2 := Lib.hid (HRW.out.below ((Below.refl _ _).alloc (Nat.le_refl _) (.cells KX 33)))
        generalize hG : wr.heap.size = GO at *
        generalize wr.alloc (.cells KX 33) = w2 at *
        clear HRW HNB hG
        go_wp2_with (first | (refine wpList_load_at rfl _ _ rfl GO 0 rfl KX _ (At.of_row HK2.out) Try.underlying33 rfl HI.out ?_) | fail)
        refine (HGET.out w2 HB2.out).mono ?_
        rintro e w3 ⟨hb3, hm⟩
        have HB3 := Lib.hid (HB2.out.trans (hb3.mono HB2.out.size))
        have HRW3 := Lib.hid (HRW2.out.below hb3)
        have HOW := Lib.hid (show ∀ b, own (.slice Ao m co) b → b < w2.heap.size from fun b hb => (HRW2.out.lt hb).2)
        clear hb3 HRW2 HK2 HGET
        cases hSx : S x with
        | none =>
          rw [hSx] at hm HDR
          obtain ⟨A3, n3, c3, rfl⟩ := hm
          have HF2 := Lib.hid HDR.out.symm
          clear hSx HDR
          go_wp2_with fail
          go_roundw
          case rel => exact ⟨k + 1, z, m, co, Ao, out, by omega, by go_num, rfl, rfl, Lib.hid ⟨HZ.out.1, by have := HZ.out; omega, by have := HZ.out; omega⟩, HRW3, HF2, HB3⟩
          case measure => simp [intOf]; omega
        | some b =>
          rw [hSx] at hm HDR
          obtain ⟨A3, c3, rfl, hsb, hbc, hcm3⟩ := hm
          have hbl := HSR.out.small x b hSx
          have HDR2 := Lib.hid (show R = if 65536 < z + b.length ∧ out ≠ [] then out else serveF S ((ids.take 16).drop (k + 1)) (z + b.length) (out ++ [b]) from HDR.out)
          have HSB := Lib.hid hsb
          have HCB := Lib.hid (And.intro hbc hcm3)
          obtain ⟨bl, hbl2⟩ : ∃ bl, bl = b.length := ⟨_, rfl⟩
          rw [← hbl2] at HDR2 hbl
          obtain ⟨z2, hz2⟩ : ∃ z2, z2 = z + bl := ⟨_, rfl⟩
          have hzI : (z : Int) + (bl : Int) = (z2 : Int) := by omega
          rw [← hz2] at HDR2
          have hzb := HZ.out
          have hz2b : z2 ≤ (k + 1) * 1000000000 := by omega
          have HBLN := Lib.hid hbl2.symm
          have hz2c : z2 ≤ 17000000000 := by omega
          have hmk : m ≤ 16 := by omega
          clear hsb hbc hcm3 hSx HDR hz2 hzb
          rw [← hbl2]
          clear hbl2
          by_cases hbr : 65536 < z2 ∧ 0 < m
          · have HRO := Lib.hid (show R = out by rw [HDR2.out, if_pos ⟨hbr.1, fun e => by have := HZ.out.1; rw [e] at this; simp at this; omega⟩])
            have q1 : (65536 : Int) < (z2 : Int) := by omega
            have q2 : (0 : Int) < (m : Int) := by omega
            clear HDR2 hbr
            go_wp2_with fail
            go_ret
            rw [HRO.out]
            exact ⟨HB3.out, Ao, m, co, rfl, HRW3.out⟩
          · have HRO := Lib.hid (show serveF S ((ids.take 16).drop (k + 1)) z2 (out ++ [b]) = R by
              rw [HDR2.out, if_neg]
              rintro ⟨h1, h2⟩
              refine hbr ⟨h1, ?_⟩
              have := HZ.out.1
              have h3 := List.length_pos_iff.2 h2
              omega)
            obtain ⟨A5, c5, w5, hrun, HR5, hb5, _, _, _, _⟩ := HRW3.out.push elemBB HB3.out.size (av := fun g => g < w2.heap.size) (cs := [.slice A3 b.length c3]) (x := b) ⟨A3, c3, rfl, HCB.out.1, HCB.out.2, HSB.out⟩ (fun b _ hb => HOW.out b hb) (by omega) (by simp only [maxLen]; omega) 39 1
            rw [HBLN.out] at hrun
            have hrun : (Builtin.append_ #[39, 39] 39 #[.slice Ao m co, .slice (some ⟨w3.heap.size, 0, none⟩) 1 1]).run Try.prog (w3.alloc (.cells #[.slice A3 bl c3] 28)) = .ok (.slice A5 (m + 1) c5) w5 := hrun
            have HB5 := Lib.hid (HB3.out.trans hb5)
            have HRW5 := Lib.hid HR5
            have HZ5 := Lib.hid (show m + 1 = (out ++ [b]).length ∧ m + 1 ≤ k + 1 ∧ z2 ≤ (k + 1) * 1000000000 by have := HZ.out; exact ⟨by simp; omega, by omega, hz2b⟩)
            have hq : (¬ (65536 : Int) < (z2 : Int)) ∨ ((65536 : Int) < (z2 : Int) ∧ ¬ (0 : Int) < (m : Int)) := by omega
            clear HR5 hb5 HDR2 hbr HSB HCB HRW3 hz2b HBLN
            rcases hq with q1 | ⟨q1, q2⟩
            all_goals
              go_wp2_with (at_builtin; refine wpList_run_append hrun ?_ ?_ ?_; exact rfl; exact rfl)
              go_roundw
              case rel => exact ⟨k + 1, z2, m + 1, c5, A5, out ++ [b], by omega, by go_num, rfl, rfl, HZ5, HRW5, HRO, HB5⟩
              case measure => simp [intOf]; omega
      · have HRO := Lib.hid (show out = R by
          have := HF.out
          rw [List.drop_of_length_le (by rw [HTK.out]; omega)] at this
          exact this)
        have hltI : ¬ (k : Int) < (n : Int) := by omega
        clear HF
        go_wp2_with fail
        go_ret
        rw [← HRO.out]
        exact ⟨HBL.out, Ao, m, co, rfl, HRW.out⟩
  · have hmn : 16 ≤ n := by omega
    have hm16 : 16 ≤ 16 := by omega
    have HTK := Lib.hid (show (ids.take 16).length = 16 by rw [List.length_take]; have := HN.out; omega)
    go_enter Try.func11, Try.ntmps11
    go_wp2_with fail
    clear hc2 hc1
    go_loopw [5, 6, 17] (fun s5 s6 s17 wr => ∃ (k z m co : Nat) (Ao : Option Addr) (out : List (List UInt8)), k ≤ 16 ∧ s17 = .int .i64 (k : Int) ∧ s6 = .int .i64 (z : Int) ∧ s5 = .slice Ao m co ∧ Hid (m = out.length ∧ m ≤ k ∧ z ≤ k * 1000000000) ∧ Hid (RowR byR 28 wr W0.heap.size Ao m co out) ∧ Hid (serveF S ((ids.take 16).drop k) z out = R) ∧ Hid (Below W0.heap.size W0 wr)) (fun s5 s6 s17 wr => 16 - (intOf s17).toNat)
    case atStart => exact ⟨0, 0, 0, 0, none, [], by omega, rfl, rfl, rfl, Lib.hid ⟨rfl, by omega, by omega⟩, Lib.hid (RowR.nil _ _ _ _), Lib.hid HR.out.symm, Lib.hid (Below.refl _ _)⟩
    case round =>
      obtain ⟨k, z, m, co, Ao, out, hk, rfl, rfl, rfl, HZ, HRW, HF, HBL⟩ := hrel
      by_cases hlt : k < 16
      · have hltI : (k : Int) < 16 := by omega
        obtain ⟨b1, o1, x, rfl, hb1, hx, h32, hat⟩ := oids_look (HS.out.below HBL.out) HN.out (show k < n by omega)
        obtain ⟨KX, hKX⟩ : ∃ KX, KX = (bytesV x).toArray := ⟨_, rfl⟩
        have HI := Lib.hid (show (Try.prog.info? 33).map (·.size) = some KX.size by rw [hKX]; exact oid_size h32)
        rw [← hKX] at hat
        have HAT := Lib.hid hat
        have HZZ := Lib.hid (show zID.size = KX.size by rw [hKX]; simp [bytesV, h32])
        have HO := Lib.hid (show KX.all (·.oneCell') = true by rw [hKX]; exact oid_one _)
        have HNB := Lib.hid (Blk.new wr 33 zID)
        have hba : Below wr.heap.size wr (wr.alloc (.cells zID 33)) := (Below.refl _ _).alloc (Nat.le_refl _) _
        have HBA := Lib.hid hba
        have HDR := Lib.hid (show serveF S ((ids.take 16).drop k) z out = match S x with
            | none => serveF S ((ids.take 16).drop (k + 1)) z out
            | some b => if 65536 < z + b.length ∧ out ≠ [] then out else serveF S ((ids.take 16).drop (k + 1)) (z + b.length) (out ++ [b]) by
          have hx2 : (ids.take 16)[k]? = some x := by rw [List.getElem?_take_of_lt (by omega)]; exact hx
          obtain ⟨h1, h2⟩ := List.getElem?_eq_some_iff.1 hx2
          rw [List.drop_eq_getElem_cons h1, h2]; rfl)
        rw [HF.out] at HDR
        have HGET := Lib.hid (fun w hw => HSR.out.get w hw x h32)
        rw [show idV x = .agg KX by rw [hKX]] at HGET
        clear hx hat hba HF hKX h32
        go_upto_region 6 with (first | (refine wpList_load_at rfl _ _ rfl b1 (o1 + k * 32) rfl KX _ HAT.out Try.underlying33 rfl HI.out ?_) | (refine wpList_store_row rfl _ _ _ rfl wr.heap.size KX rfl rfl 33 _ HNB.out HI.out HZZ.out HO.out ?_) | fail)
        rw [World.setRow_alloc_new]
        go_frame
        change Code.wp _ _ _ _ (wr.alloc (.cells KX 33))
        have HB2 := Lib.hid (HBL.out.alloc HBL.out.size (.cells KX 33))
        have HK2 := Lib.hid (Blk.new wr 33 KX)
        have HRW2 := Lib.hid (HRW.out.below ((Below.refl _ _).alloc (Nat.le_refl _) (.cells KX 33)))
        generalize hG : wr.heap.size = GO at *
        generalize wr.alloc (.cells KX 33) = w2 at *
        clear HRW HNB hG
        go_wp2_with (first | (refine wpList_load_at rfl _ _ rfl GO 0 rfl KX _ (At.of_row HK2.out) Try.underlying33 rfl HI.out ?_) | fail)
        refine (HGET.out w2 HB2.out).mono ?_
        rintro e w3 ⟨hb3, hm⟩
        have HB3 := Lib.hid (HB2.out.trans (hb3.mono HB2.out.size))
        have HRW3 := Lib.hid (HRW2.out.below hb3)
        have HOW := Lib.hid (show ∀ b, own (.slice Ao m co) b → b < w2.heap.size from fun b hb => (HRW2.out.lt hb).2)
        clear hb3 HRW2 HK2 HGET
        cases hSx : S x with
        | none =>
          rw [hSx] at hm HDR
          obtain ⟨A3, n3, c3, rfl⟩ := hm
          have HF2 := Lib.hid HDR.out.symm
          clear hSx HDR
          go_wp2_with fail
          go_roundw
          case rel => exact ⟨k + 1, z, m, co, Ao, out, by omega, by go_num, rfl, rfl, Lib.hid ⟨HZ.out.1, by have := HZ.out; omega, by have := HZ.out; omega⟩, HRW3, HF2, HB3⟩
          case measure => simp [intOf]; omega
        | some b =>
          rw [hSx] at hm HDR
          obtain ⟨A3, c3, rfl, hsb, hbc, hcm3⟩ := hm
          have hbl := HSR.out.small x b hSx
          have HDR2 := Lib.hid (show R = if 65536 < z + b.length ∧ out ≠ [] then out else serveF S ((ids.take 16).drop (k + 1)) (z + b.length) (out ++ [b]) from HDR.out)
          have HSB := Lib.hid hsb
          have HCB := Lib.hid (And.intro hbc hcm3)
          obtain ⟨bl, hbl2⟩ : ∃ bl, bl = b.length := ⟨_, rfl⟩
          rw [← hbl2] at HDR2 hbl
          obtain ⟨z2, hz2⟩ : ∃ z2, z2 = z + bl := ⟨_, rfl⟩
          have hzI : (z : Int) + (bl : Int) = (z2 : Int) := by omega
          rw [← hz2] at HDR2
          have hzb := HZ.out
          have hz2b : z2 ≤ (k + 1) * 1000000000 := by omega
          have HBLN := Lib.hid hbl2.symm
          have hz2c : z2 ≤ 17000000000 := by omega
          have hmk : m ≤ 16 := by omega
          clear hsb hbc hcm3 hSx HDR hz2 hzb
          rw [← hbl2]
          clear hbl2
          by_cases hbr : 65536 < z2 ∧ 0 < m
          · have HRO := Lib.hid (show R = out by rw [HDR2.out, if_pos ⟨hbr.1, fun e => by have := HZ.out.1; rw [e] at this; simp at this; omega⟩])
            have q1 : (65536 : Int) < (z2 : Int) := by omega
            have q2 : (0 : Int) < (m : Int) := by omega
            clear HDR2 hbr
            go_wp2_with fail
            go_ret
            rw [HRO.out]
            exact ⟨HB3.out, Ao, m, co, rfl, HRW3.out⟩
          · have HRO := Lib.hid (show serveF S ((ids.take 16).drop (k + 1)) z2 (out ++ [b]) = R by
              rw [HDR2.out, if_neg]
              rintro ⟨h1, h2⟩
              refine hbr ⟨h1, ?_⟩
              have := HZ.out.1
              have h3 := List.length_pos_iff.2 h2
              omega)
            obtain ⟨A5, c5, w5, hrun, HR5, hb5, _, _, _, _⟩ := HRW3.out.push elemBB HB3.out.size (av := fun g => g < w2.heap.size) (cs := [.slice A3 b.length c3]) (x := b) ⟨A3, c3, rfl, HCB.out.1, HCB.out.2, HSB.out⟩ (fun b _ hb => HOW.out b hb) (by omega) (by simp only [maxLen]; omega) 39 1
            rw [HBLN.out] at hrun
            have hrun : (Builtin.append_ #[39, 39] 39 #[.slice Ao m co, .slice (some ⟨w3.heap.size, 0, none⟩) 1 1]).run Try.prog (w3.alloc (.cells #[.slice A3 bl c3] 28)) = .ok (.slice A5 (m + 1) c5) w5 := hrun
            have HB5 := Lib.hid (HB3.out.trans hb5)
            have HRW5 := Lib.hid HR5
            have HZ5 := Lib.hid (show m + 1 = (out ++ [b]).length ∧ m + 1 ≤ k + 1 ∧ z2 ≤ (k + 1) * 1000000000 by have := HZ.out; exact ⟨by simp; omega, by omega, hz2b⟩)
            have hq : (¬ (65536 : Int) < (z2 : Int)) ∨ ((65536 : Int) < (z2 : Int) ∧ ¬ (0 : Int) < (m : Int)) := by omega
            clear HR5 hb5 HDR2 hbr HSB HCB HRW3 hz2b HBLN
            rcases hq with q1 | ⟨q1, q2⟩
            all_goals
              go_wp2_with (at_builtin; refine wpList_run_append hrun ?_ ?_ ?_; exact rfl; exact rfl)
              go_roundw
              case rel => exact ⟨k + 1, z2, m + 1, c5, A5, out ++ [b], by omega, by go_num, rfl, rfl, HZ5, HRW5, HRO, HB5⟩
              case measure => simp [intOf]; omega
      · have HRO := Lib.hid (show out = R by
          have := HF.out
          rw [List.drop_of_length_le (by rw [HTK.out]; omega)] at this
          exact this)
        have hltI : ¬ (k : Int) < 16 := by omega
        clear HF
        go_wp2_with fail
        go_ret
        rw [← HRO.out]
        exact ⟨HBL.out, Ao, m, co, rfl, HRW.out⟩
end Go.Proofs.Ytgmbkcjihgphmaa

/- towlineref21.Serve. -/
set_option linter.unusedVariables false
set_option linter.unusedSimpArgs false
namespace Go.Proofs.Ytgmbkcjihgphmaa
open Go.RowKit

theorem elemStr1 : ElemOf Try.prog 43 9 (.string .empty) 1 16 := ⟨Try.underlying43, by kernel_rfl, rfl, by decide⟩
abbrev dB (s : ByteArray) : List UInt8 := s.data.toList
def StrsPost (w : World) (l : List (List UInt8)) (e : Ending) (w' : World) : Prop :=
  Below w.heap.size w w' ∧ ∃ A m c ss, e = .returned (.slice A m c) ∧ RowR strR 9 w' w.heap.size A m c ss ∧ ss.map dB = l

set_option maxRecDepth 100000 in
set_option maxHeartbeats 8000000 in
theorem refServe_any (A0 : Option Addr) (n0 c0 : Nat) (rs : List RecT) (A : Option Addr) (n c : Nat) (ids : List (List UInt8)) (W0 : World) (hs0 : SlOf recR W0 no A0 rs) (hn0 : n0 = rs.length) (hl0 : n0 ≤ 1000000000) (hsz : ∀ r ∈ rs, r.2.size ≤ 1000000000)
    (hs : SlOf oidR W0 no A ids) (hn : n = ids.length) (hl : n ≤ 1000000000) :
    Calls Try.prog 12 #[.slice A0 n0 c0, .slice A n c] W0 (StrsPost W0 (serveF (getB rs) (ids.take 16) 0 [])) := by
  have HS0 := Lib.hid hs0
  have HN0 := Lib.hid hn0
  have HS := Lib.hid hs
  have HN := Lib.hid hn.symm
  have HSZ := Lib.hid (show ∀ id s, getS rs id = some s → s.size ≤ 1000000000 from fun id s h => by
    unfold getS at h
    cases hf : rs.find? (fun r => r.1 == id) with
    | none => rw [hf] at h; cases h
    | some r => rw [hf] at h; cases h; exact hsz r (List.mem_of_find?_eq_some hf))
  obtain ⟨R, hR⟩ : ∃ R, R = serveF (getB rs) (ids.take 16) 0 [] := ⟨_, rfl⟩
  rw [← hR]
  have HR := Lib.hid hR
  clear hs hn hs0 hn0 hsz hR
  go_enter Try.func12, Try.ntmps12
  go_wp2_with fail
  go_loopw [5, 6, 7] (fun s5 s6 s7 wr => ∃ (k z m co : Nat) (Ao : Option Addr) (out : List ByteArray), k ≤ n ∧ k ≤ 16 ∧ s7 = .int .i64 (k : Int) ∧ s6 = .int .i64 (z : Int) ∧ s5 = .slice Ao m co ∧ Hid (m = out.length ∧ m ≤ k ∧ z ≤ k * 1000000000) ∧ Hid (RowR strR 9 wr W0.heap.size Ao m co out) ∧ Hid (serveF (getB rs) ((ids.take 16).drop k) z (out.map dB) = R) ∧ Hid (Below W0.heap.size W0 wr)) (fun s5 s6 s7 wr => n - (intOf s7).toNat)
  case atStart => exact ⟨0, 0, 0, 0, none, [], by omega, by omega, rfl, rfl, rfl, Lib.hid ⟨rfl, by omega, by omega⟩, Lib.hid (RowR.nil _ _ _ _), Lib.hid HR.out.symm, Lib.hid (Below.refl _ _)⟩
  case round =>
    obtain ⟨k, z, m, co, Ao, out, hk, hk16, rfl, rfl, rfl, HZ, HRW, HF, HBL⟩ := hrel
    by_cases hlt : k < n ∧ k < 16
    · obtain ⟨hlt, hlt6⟩ := hlt
      have hltI : (k : Int) < (n : Int) := by omega
      have hltJ : (k : Int) < 16 := by omega
      obtain ⟨b1, o1, x, rfl, hb1, hx, h32, hat⟩ := oids_look (HS.out.below HBL.out) HN.out hlt
      obtain ⟨KX, hKX⟩ : ∃ KX, KX = (bytesV x).toArray := ⟨_, rfl⟩
      have HI := Lib.hid (show (Try.prog.info? 33).map (·.size) = some KX.size by rw [hKX]; exact oid_size h32)
      have HGET := Lib.hid (refGet_any A0 n0 c0 rs x wr (HS0.out.below HBL.out) HN0.out hl0 h32)
      rw [show idV x = .agg KX by rw [hKX]] at HGET
      rw [← hKX] at hat
      have HAT := Lib.hid hat
      have HDR := Lib.hid (show serveF (getB rs) ((ids.take 16).drop k) z (out.map dB) = match getB rs x with
          | none => serveF (getB rs) ((ids.take 16).drop (k + 1)) z (out.map dB)
          | some b => if 65536 < z + b.length ∧ out.map dB ≠ [] then out.map dB else serveF (getB rs) ((ids.take 16).drop (k + 1)) (z + b.length) (out.map dB ++ [b]) by
        have hx2 : (ids.take 16)[k]? = some x := by rw [List.getElem?_take_of_lt (by omega)]; exact hx
        obtain ⟨h1, h2⟩ := List.getElem?_eq_some_iff.1 hx2
        rw [List.drop_eq_getElem_cons h1, h2]; rfl)
      rw [HF.out] at HDR
      clear hx hat hKX h32 HF
      go_wp2_with (first | (refine wpList_load_at rfl _ _ rfl b1 (o1 + k * 32) rfl KX _ HAT.out Try.underlying33 rfl HI.out ?_) | fail)
      refine HGET.out.mono ?_
      rintro e w3 ⟨hb3, hm⟩
      have HB3 := Lib.hid (HBL.out.trans (hb3.mono HBL.out.size))
      have HRW3 := Lib.hid (HRW.out.below hb3)
      clear hb3 HRW HGET
      cases hSx : getS rs x with
      | none =>
        rw [hSx] at hm
        obtain rfl : e = _ := hm
        have HF2 := Lib.hid (show serveF (getB rs) ((ids.take 16).drop (k + 1)) z (out.map dB) = R by
          have := HDR.out
          unfold getB at this
          rw [hSx] at this
          exact this.symm)
        clear hSx HDR
        go_wp2_with fail
        go_roundw
        case rel => exact ⟨k + 1, z, m, co, Ao, out, by omega, by omega, by go_num, rfl, rfl, Lib.hid ⟨HZ.out.1, by have := HZ.out; omega, by have := HZ.out; omega⟩, HRW3, HF2, HB3⟩
        case measure => simp [intOf]; omega
      | some b =>
        rw [hSx] at hm
        obtain rfl : e = _ := hm
        have hbl := HSZ.out x b hSx
        obtain ⟨bl, hbl2⟩ : ∃ bl, bl = b.size := ⟨_, rfl⟩
        have HDR2 := Lib.hid (show R = if 65536 < z + bl ∧ out.map dB ≠ [] then out.map dB else serveF (getB rs) ((ids.take 16).drop (k + 1)) (z + bl) (out.map dB ++ [dB b]) by
          have := HDR.out
          unfold getB at this
          rw [hSx] at this
          have h3 : (dB b).length = bl := by rw [hbl2]; exact Array.length_toList
          rw [← h3]
          exact this)
        rw [← hbl2] at hbl
        obtain ⟨z2, hz2⟩ : ∃ z2, z2 = z + bl := ⟨_, rfl⟩
        have hzI : (z : Int) + (bl : Int) = (z2 : Int) := by omega
        rw [← hz2] at HDR2
        have hzb := HZ.out
        have hz2b : z2 ≤ (k + 1) * 1000000000 := by omega
        have hz2c : z2 ≤ 17000000000 := by omega
        have hmk : m ≤ 16 := by omega
        have hbsz : b.size = bl := hbl2.symm
        clear hSx HDR hz2 hzb hbl2
        by_cases hbr : 65536 < z2 ∧ 0 < m
        · have HRO := Lib.hid (show out.map dB = R by
            rw [HDR2.out, if_pos ⟨hbr.1, fun e => by
              have h1 := HZ.out.1
              have h2 := congrArg List.length e
              have h3 := hbr.2
              rw [List.length_map] at h2
              simp at h2
              rw [h2] at h1
              simp at h1
              omega⟩])
          have q1 : (65536 : Int) < (z2 : Int) := by omega
          have q2 : (0 : Int) < (m : Int) := by omega
          clear HDR2 hbr
          go_wp2_with fail
          go_ret
          exact ⟨HB3.out, Ao, m, co, out, rfl, HRW3.out, HRO.out⟩
        · have HRO := Lib.hid (show serveF (getB rs) ((ids.take 16).drop (k + 1)) z2 ((out ++ [b]).map dB) = R by
            rw [HDR2.out, if_neg, List.map_append]; rfl
            rintro ⟨h1, h2⟩
            refine hbr ⟨h1, ?_⟩
            have := HZ.out.1
            have h3 := List.length_pos_iff.2 h2
            rw [List.length_map] at h3
            omega)
          obtain ⟨A5, c5, w5, hrun, HR5, hb5, _, _, _, _⟩ := HRW3.out.push (byt := 16) (z := .string .empty) elemStr1 HB3.out.size (av := fun _ => True) (cs := [.string b]) (x := b) rfl (fun _ _ _ => trivial) (by omega) (by simp only [maxLen]; omega) 43 1
          have hrun : (Builtin.append_ #[43, 43] 43 #[.slice Ao m co, .slice (some ⟨w3.heap.size, 0, none⟩) 1 1]).run Try.prog (w3.alloc (.cells #[.string b] 9)) = .ok (.slice A5 (m + 1) c5) w5 := hrun
          have HB5 := Lib.hid (HB3.out.trans hb5)
          have HRW5 := Lib.hid HR5
          have HZ5 := Lib.hid (show m + 1 = (out ++ [b]).length ∧ m + 1 ≤ k + 1 ∧ z2 ≤ (k + 1) * 1000000000 by have := HZ.out; exact ⟨by simp; omega, by omega, hz2b⟩)
          have hq : (¬ (65536 : Int) < (z2 : Int)) ∨ ((65536 : Int) < (z2 : Int) ∧ ¬ (0 : Int) < (m : Int)) := by omega
          clear HR5 hb5 HDR2 hbr HRW3 hz2b
          rcases hq with q1 | ⟨q1, q2⟩
          all_goals
            go_wp2_with (at_builtin; refine wpList_run_append hrun ?_ ?_ ?_; exact rfl; exact rfl)
            go_roundw
            case rel => exact ⟨k + 1, z2, m + 1, c5, A5, out ++ [b], by omega, by omega, by go_num, rfl, rfl, HZ5, HRW5, HRO, HB5⟩
            case measure => simp [intOf]; omega
    · have HRO := Lib.hid (show out.map dB = R by
        have := HF.out
        rw [List.drop_of_length_le (by rw [List.length_take, HN.out]; omega)] at this
        exact this)
      have hq : (¬ (k : Int) < (n : Int)) ∨ ((k : Int) < (n : Int) ∧ ¬ (k : Int) < 16) := by omega
      clear HF hlt
      rcases hq with q1 | ⟨q1, q2⟩
      all_goals
        go_wp2_with fail
        go_ret
        exact ⟨HBL.out, Ao, m, co, out, rfl, HRW.out, HRO.out⟩
end Go.Proofs.Ytgmbkcjihgphmaa

/- towlinelaw21.texts. -/
set_option linter.unusedVariables false
set_option linter.unusedSimpArgs false
namespace Go.Proofs.Ytgmbkcjihgphmaa
open Go.RowKit
attribute [local go_sem ↓] cvt_eq

theorem bys_look {w : World} {av : Av} {A : Option Addr} {bs : List (List UInt8)} {n i : Nat} (h : SlOf byR w av A bs) (hl : bs.length = n) (hi : i < n) :
    ∃ b off x A1 c1, A = some ⟨b, off, none⟩ ∧ b < w.heap.size ∧ bs[i]? = some x ∧ w.cell? ⟨b, off + i, none⟩ = some (.slice A1 x.length c1) ∧ x.length ≤ c1 ∧ c1 ≤ maxLen ∧ SlOf byteR w av A1 x := by
  obtain ⟨b, off, cs, x, e, hb, hx, hr, hc⟩ := h.at hl hi
  obtain ⟨A1, c1, rfl, h1, h2, h3⟩ := hr
  refine ⟨b, off, x, A1, c1, e, hb, hx, ?_, h1, h2, h3⟩
  have := hc 0 (.slice A1 x.length c1) rfl
  have e : off + i * byR.k + 0 = off + i := by show off + i * 1 + 0 = _; omega
  rwa [e] at this
theorem strs_look {w : World} {av : Av} {A : Option Addr} {ss : List ByteArray} {n i : Nat} (h : SlOf strR w av A ss) (hl : ss.length = n) (hi : i < n) :
    ∃ b off x, A = some ⟨b, off, none⟩ ∧ b < w.heap.size ∧ ss[i]? = some x ∧ w.cell? ⟨b, off + i, none⟩ = some (.string x) := by
  obtain ⟨b, off, cs, x, e, hb, hx, hr, hc⟩ := h.at hl hi
  have hr : cs = [.string x] := hr
  subst hr
  refine ⟨b, off, x, e, hb, hx, ?_⟩
  have := hc 0 (.string x) rfl
  have e : off + i * strR.k + 0 = off + i := by show off + i * 1 + 0 = _; omega
  rwa [e] at this

set_option maxRecDepth 100000 in
set_option maxHeartbeats 4000000 in
theorem texts_same (A B : Option Addr) (n m c d : Nat) (ss : List ByteArray) (W0 : World) (ha : SlOf byR W0 no A (ss.map dB)) (hb : SlOf strR W0 no B ss) (hn : n = ss.length) (hm : m = ss.length) (hl : n ≤ 1000000000) :
    Calls Try.prog 10 #[.slice A n c, .slice B m d] W0 fun e w' => e = .returned (.bool true) ∧ Below W0.heap.size W0 w' := by
  obtain rfl : m = n := hm.trans hn.symm
  have HA := Lib.hid ha
  have HB := Lib.hid hb
  have HN := Lib.hid hn.symm
  have HN1 := Lib.hid (show (ss.map dB).length = m by rw [List.length_map]; exact hn.symm)
  clear ha hb hm hn
  go_enter Try.func10, Try.ntmps10
  go_wp2_with fail
  go_loopw [13] (fun s13 wr => ∃ k : Nat, k ≤ m ∧ s13 = .int .i64 (k : Int) ∧ Hid (Below W0.heap.size W0 wr)) (fun s13 wr => m - (intOf s13).toNat)
  case atStart => exact ⟨0, by omega, rfl, Lib.hid (Below.refl _ _)⟩
  case round =>
    obtain ⟨k, hk, rfl, HBL⟩ := hrel
    by_cases hlt : k < m
    · have hltI : (k : Int) < (m : Int) := by omega
      obtain ⟨b1, o1, x, A1, c1, rfl, hb1, hx, hc1, hxc, hcm, hxs⟩ := bys_look ((HA.out.below HBL.out)) HN1.out hlt
      obtain ⟨b2, o2, y, rfl, hb2, hy, hc2⟩ := strs_look (HB.out.below HBL.out) HN.out hlt
      obtain rfl : x = dB y := by rw [List.getElem?_map, hy] at hx; exact (Option.some.inj hx).symm
      have HXS := Lib.hid (slOf_bytes hxs)
      have hye : (⟨(dB y).toArray⟩ : ByteArray) = y := by apply ByteArray.ext; simp [dB]
      have hne : (y.toList != y.toList) = false := by simp
      obtain ⟨xl, hxl⟩ : ∃ xl, xl = (dB y).length := ⟨_, rfl⟩
      rw [← hxl] at hc1
      have HXS2 := Lib.hid (show Sl wr 1 A1 xl (bytesV (dB y)) by rw [hxl]; exact HXS.out)
      have hdr : Below wr.heap.size wr wr.drew := Same.below ⟨1, rfl⟩ _
      have HB2 := Lib.hid (HBL.out.trans (hdr.mono HBL.out.size))
      have HC1 := Lib.hid hc1
      have HC2 := Lib.hid hc2
      have HYE := Lib.hid hye
      clear hx hy hxs HXS hxl hxc hcm hc1 hc2 hye
      go_upto_region 6 with fail
      refine wp_region_held (S := fun w => Below wr.heap.size wr w) (by kernel_rfl) ?_
      change wpAnyH _ _ _ _ _ _ _ _ (World.drew _)
      refine held_take (i := 0) (v := ?_) (a' := ?_) rfl (by kernel_rfl) (by kernel_rfl) (by kernel_rfl) (fun _ _ _ h => h) (by rfl) hdr ?_ ?_ ?_
      rotate_left 2
      · (intro w hS; go_simp; try with_reducible rfl)
      · (go_simp; try with_reducible rfl)
      refine held_take (i := 1) (v := ?_) (a' := ?_) rfl (by kernel_rfl) (by kernel_rfl) (by kernel_rfl) (fun _ _ _ h => h) (by rfl) hdr ?_ ?_ ?_
      rotate_left 2
      · (intro w hS; go_simp; try with_reducible rfl)
      · (go_simp; try with_reducible rfl)
      refine held_take (i := 2) (v := ?_) (a' := ?_) rfl (by kernel_rfl) (by kernel_rfl) (by kernel_rfl) (fun _ _ _ h => h) (by rfl) hdr ?_ ?_ ?_
      rotate_left 2
      · (intro w hS; go_simp; try with_reducible rfl)
      · (go_simp; try with_reducible rfl)
      refine held_take (i := 3) (v := ?_) (a' := ?_) rfl (by kernel_rfl) (by kernel_rfl) (by kernel_rfl) (fun _ _ _ h => h) (by rfl) hdr ?_ ?_ ?_
      rotate_left 2
      · (intro w hS; have q1 := (hS.cell (p := ⟨b1, o1 + k, none⟩) hb1).trans HC1.out; go_simp; try with_reducible rfl)
      · (go_simp; try with_reducible rfl)
      refine held_take (i := 4) (v := ?_) (a' := ?_) rfl (by kernel_rfl) (by kernel_rfl) (by kernel_rfl) (fun _ _ _ h => h) (by rfl) hdr ?_ ?_ ?_
      rotate_left 2
      · (intro w hS; have q2 := (cvt_of (HXS2.out.below hS) c1).trans (by rw [HYE.out]); go_simp; try with_reducible rfl)
      · (go_simp; try with_reducible rfl)
      refine held_take (i := 5) (v := ?_) (a' := ?_) rfl (by kernel_rfl) (by kernel_rfl) (by kernel_rfl) (fun _ _ _ h => h) (by rfl) hdr ?_ ?_ ?_
      rotate_left 2
      · (intro w hS; go_simp; try with_reducible rfl)
      · (go_simp; try with_reducible rfl)
      refine held_take (i := 6) (v := ?_) (a' := ?_) rfl (by kernel_rfl) (by kernel_rfl) (by kernel_rfl) (fun _ _ _ h => h) (by rfl) hdr ?_ ?_ ?_
      rotate_left 2
      · (intro w hS; go_simp; try with_reducible rfl)
      · (go_simp; try with_reducible rfl)
      refine held_take (i := 7) (v := ?_) (a' := ?_) rfl (by kernel_rfl) (by kernel_rfl) (by kernel_rfl) (fun _ _ _ h => h) (by rfl) hdr ?_ ?_ ?_
      rotate_left 2
      · (intro w hS; go_simp; try with_reducible rfl)
      · (go_simp; try with_reducible rfl)
      refine held_take (i := 8) (v := ?_) (a' := ?_) rfl (by kernel_rfl) (by kernel_rfl) (by kernel_rfl) (fun _ _ _ h => h) (by rfl) hdr ?_ ?_ ?_
      rotate_left 2
      · (intro w hS; have q3 := (hS.cell (p := ⟨b2, o2 + k, none⟩) hb2).trans HC2.out; go_simp; try with_reducible rfl)
      · (go_simp; try with_reducible rfl)
      refine held_take (i := 9) (v := ?_) (a' := ?_) rfl (by kernel_rfl) (by kernel_rfl) (by kernel_rfl) (fun _ _ _ h => h) (by rfl) hdr ?_ ?_ ?_
      rotate_left 2
      · (intro w hS; go_simp; try with_reducible rfl)
      · (go_simp; try with_reducible rfl)
      refine wpAnyH_done (by kernel_rfl) ?_ _
      go_wp2_with fail
      go_roundw
      case rel => exact ⟨k + 1, by omega, by go_num, HB2⟩
      case measure => simp [intOf]; omega
    · have hltI : ¬ (k : Int) < (m : Int) := by omega
      go_wp2_with fail
      go_ret
      exact ⟨rfl, HBL.out⟩
end Go.Proofs.Ytgmbkcjihgphmaa

/- slices.Clone of bytes; slices.Contains of ids. -/
set_option linter.unusedVariables false
set_option linter.unusedSimpArgs false
namespace Go.Proofs.Ytgmbkcjihgphmaa
open Go.RowKit
attribute [local go_sem ↓] eqlId_eq neqId_eq

theorem elemU8T : ElemOf Try.prog 28 5 (.int .u8 0) 1 1 := ⟨Try.underlying28, by kernel_rfl, rfl, by decide⟩
theorem own_empty (w : World) (t : TypeId) (sz : Nat) : (w.alloc (.cells #[] t)).ownsRow w.heap.size t sz (.slice (some ⟨w.heap.size, 0, none⟩) 0 0) 0 [] := by
  refine ⟨by simp, .inr ⟨w.heap.size, 0, #[], rfl, Nat.le_refl _, heap_alloc_new w _, Nat.le_refl _, by simp [maxLen], by simp, by simp⟩⟩
/-- some bytes in new memory -/
def NewBytes (w : World) (b : List UInt8) (e : Ending) (w' : World) : Prop :=
  Below w.heap.size w w' ∧ ∃ A c, e = .returned (.slice A b.length c) ∧ SlOf byteR w' (fun g => g < w.heap.size) A b ∧ b.length ≤ c ∧ c ≤ maxLen

set_option maxRecDepth 100000 in
set_option maxHeartbeats 4000000 in
theorem clone_any (A : Option Addr) (n c : Nat) (b : List UInt8) (w : World) (hs : Sl w 1 A n (bytesV b)) (hn : n = b.length) (hl : n ≤ 1000000000) :
    Calls Try.prog 32 #[.slice A n c] w (NewBytes w b) := by
  have qT : ∀ (w : World) (a : Option Addr) (n c n' c' : Nat), (binOp .eql 28 (.slice a n c) (.slice none n' c')).run Try.prog w = .ok (.bool a.isNone) w := fun w a n c n' c' => Lib.run_eql_slice_nil w _ _ a n c n' c' Try.underlying28
  cases A with
  | none =>
    have h0 : b = [] := by
      rcases Nat.eq_zero_or_pos n with h | h
      · exact List.eq_nil_of_length_eq_zero (by omega)
      · obtain ⟨_, _, e, _⟩ := hs.2 h; cases e
    subst h0
    have hn0 : n = 0 := hn
    subst hn0
    clear hs hn
    go_enter Try.func32, Try.ntmps32
    go_wp2_with fail
    go_ret
    exact ⟨Below.refl _ _, none, 0, rfl, SlOf.nil, Nat.le_refl _, by simp [maxLen]⟩
  | some a =>
    have hba : Below w.heap.size w (w.alloc (.cells #[] 5)) := (Below.refl _ _).alloc (Nat.le_refl _) _
    obtain ⟨A5, c5, w5, hrun, hap, h1, h2⟩ := append_sl elemU8T (own_empty w 5 1) (hs.below hba) (bytesV_one b) (by omega) (by simp only [maxLen]; omega) (by simp) 28 c
    rw [Nat.zero_add] at hrun hap h1
    have HB5 := Lib.hid (hba.trans hap.below)
    have HA5 := Lib.hid (show SlOf byteR w5 (fun g => g < w.heap.size) A5 b from slB_of (n := n) (by have := Sl.ofOwn hap.own; simpa using this) hn (fun g off e => by
      have h3 := hap.own.2
      rcases h3 with ⟨h4, h5⟩ | ⟨g', cap, cur, h4, h5, _⟩
      · injection h4 with h4; rw [h4] at e; cases e
      · injection h4 with h4; rw [h4] at e; have e := Option.some.inj e; injection e with e; omega))
    have HC5 := Lib.hid (And.intro h1 h2)
    have HN := Lib.hid hn
    clear hs hap h1 h2 hba hn
    go_enter Try.func32, Try.ntmps32
    go_wp2_with (at_builtin; refine wpList_run_append hrun ?_ ?_ ?_; exact rfl; exact rfl)
    go_ret
    exact ⟨HB5.out, A5, c5, by rw [← HN.out]; rfl, HA5.out, by rw [← HN.out]; exact HC5.out.1, HC5.out.2⟩

set_option maxRecDepth 100000 in
set_option maxHeartbeats 4000000 in
theorem index_any (A : Option Addr) (n c : Nat) (is : List (List UInt8)) (x : List UInt8) (W0 : World) (hs : SlOf oidR W0 no A is) (hn : n = is.length) (hl : n ≤ 1000000000) (hx : x.length = 32) :
    Calls Try.prog 49 #[.slice A n c, idV x] W0 fun e w' => (∃ z : Int, e = .returned (.int .i64 z) ∧ decide (0 ≤ z) = is.contains x) ∧ Below W0.heap.size W0 w' := by
  have HS := Lib.hid hs
  have HN := Lib.hid hn.symm
  obtain ⟨KI, hKI⟩ : ∃ KI, KI = (bytesV x).toArray := ⟨_, rfl⟩
  have HKI := Lib.hid hKI
  have HII := Lib.hid (show (Try.prog.info? 33).map (·.size) = some KI.size by rw [hKI]; exact oid_size hx)
  rw [show idV x = .agg KI by rw [hKI]]
  have HB1 := Lib.hid (show Below W0.heap.size W0 (W0.alloc (.cells KI 33)) from (Below.refl _ _).alloc (Nat.le_refl _) _)
  have HK1 := Lib.hid (Blk.new W0 33 KI)
  obtain ⟨R, hR⟩ : ∃ R, R = is.contains x := ⟨_, rfl⟩
  have HR := Lib.hid hR
  rw [← hR]
  clear hs hn hKI hR
  go_enter Try.func49, Try.ntmps49
  go_wp2_with fail
  generalize W0.alloc (.cells KI 33) = w1 at *
  generalize hg : W0.heap.size = g at *
  have HG := Lib.hid hg
  clear hg
  go_loopw [8] (fun s8 wr => ∃ k : Nat, k ≤ n ∧ s8 = .int .i64 (k : Int) ∧ Hid ((is.take k).contains x = false) ∧ Hid (Below g W0 wr) ∧ Hid (Blk wr g 33 KI)) (fun s8 wr => n - (intOf s8).toNat)
  case atStart => exact ⟨0, by omega, rfl, Lib.hid rfl, HB1, HK1⟩
  case round =>
    obtain ⟨k, hk, rfl, HNO, HBL, HK⟩ := hrel
    by_cases hlt : k < n
    · have hltI : (k : Int) < (n : Int) := by omega
      obtain ⟨b1, o1, r, rfl, hb1, hxr, h32, hat⟩ := oids_look (HS.out.below (by rw [HG.out]; exact HBL.out)) HN.out hlt
      have he := fun w => eqlId_of hx h32 w
      rw [← HKI.out] at he
      obtain ⟨KX, hKX⟩ : ∃ KX, KX = (bytesV r).toArray := ⟨_, rfl⟩
      have HI := Lib.hid (show (Try.prog.info? 33).map (·.size) = some KX.size by rw [hKX]; exact oid_size h32)
      rw [← hKX] at hat he
      have HAT := Lib.hid hat
      have hdr : Below wr.heap.size wr wr.drew := Same.below ⟨1, rfl⟩ _
      have HB2 := Lib.hid (HBL.out.trans (hdr.mono (by have := HBL.out.size; have := HK.out.lt; omega)))
      have HK2 := Lib.hid (HK.out.below hdr HK.out.lt)
      have hglt := HK.out.lt
      by_cases heq : x = r
      · have HRR := Lib.hid (show R = true by
          rw [HR.out, heq]
          exact List.contains_iff_mem.2 (List.mem_of_getElem? hxr))
        rw [heq, beq_self_eq_true] at he
        clear hxr h32 hat hKX
        go_upto_region 4 with fail
        refine wp_region_held (S := fun w => Below wr.heap.size wr w) (by kernel_rfl) ?_
        change wpAnyH _ _ _ _ _ _ _ _ (World.drew _)
        refine held_take (i := 0) (v := ?_) (a' := ?_) rfl (by kernel_rfl) (by kernel_rfl) (by kernel_rfl) (fun _ _ _ h => h) (by rfl) hdr ?_ ?_ ?_
        rotate_left 2
        · (intro w hS; refine exec_load_at 33 (.tmp 3) ?_ g 0 ?_ KI _ (At.of_row (HK.out.below hS hglt)) Try.underlying33 rfl HII.out; exact rfl; exact rfl)
        · (go_simp; try with_reducible rfl)
        refine held_take (i := 1) (v := ?_) (a' := ?_) rfl (by kernel_rfl) (by kernel_rfl) (by kernel_rfl) (fun _ _ _ h => h) (by rfl) hdr ?_ ?_ ?_
        rotate_left 2
        · (intro w hS; go_simp; try with_reducible rfl)
        · (go_simp; try with_reducible rfl)
        refine held_take (i := 2) (v := ?_) (a' := ?_) rfl (by kernel_rfl) (by kernel_rfl) (by kernel_rfl) (fun _ _ _ h => h) (by rfl) hdr ?_ ?_ ?_
        rotate_left 2
        · (intro w hS; go_simp; try with_reducible rfl)
        · (go_simp; try with_reducible rfl)
        refine held_take (i := 3) (v := ?_) (a' := ?_) rfl (by kernel_rfl) (by kernel_rfl) (by kernel_rfl) (fun _ _ _ h => h) (by rfl) hdr ?_ ?_ ?_
        rotate_left 2
        · (intro w hS; go_simp; try with_reducible rfl)
        · (go_simp; try with_reducible rfl)
        refine held_take (i := 4) (v := ?_) (a' := ?_) rfl (by kernel_rfl) (by kernel_rfl) (by kernel_rfl) (fun _ _ _ h => h) (by rfl) hdr ?_ ?_ ?_
        rotate_left 2
        · (intro w hS; refine exec_load_at 33 (.tmp 14) ?_ b1 (o1 + k * 32) ?_ KX _ (HAT.out.below hS hb1) Try.underlying33 rfl HI.out; exact rfl; exact rfl)
        · (go_simp; try with_reducible rfl)
        refine held_take (i := 5) (v := ?_) (a' := ?_) rfl (by kernel_rfl) (by kernel_rfl) (by kernel_rfl) (fun _ _ _ h => h) (by rfl) hdr ?_ ?_ ?_
        rotate_left 2
        · (intro w hS; go_simp; try with_reducible rfl)
        · (go_simp; try with_reducible rfl)
        refine wpAnyH_done (by kernel_rfl) ?_ _
        go_wp2_with fail
        go_ret
        exact ⟨⟨(k : Int), rfl, by rw [HRR.out]; exact decide_eq_true (by omega)⟩, by rw [HG.out]; exact HB2.out⟩
      · have HNO2 := Lib.hid (show (is.take (k + 1)).contains x = false by
          rw [List.take_add_one, hxr, List.contains_eq_any_beq, List.any_append, ← List.contains_eq_any_beq, HNO.out]
          simp [heq])
        rw [beq_eq_false_iff_ne.2 heq] at he
        clear hxr h32 hat hKX
        go_upto_region 4 with fail
        refine wp_region_held (S := fun w => Below wr.heap.size wr w) (by kernel_rfl) ?_
        change wpAnyH _ _ _ _ _ _ _ _ (World.drew _)
        refine held_take (i := 0) (v := ?_) (a' := ?_) rfl (by kernel_rfl) (by kernel_rfl) (by kernel_rfl) (fun _ _ _ h => h) (by rfl) hdr ?_ ?_ ?_
        rotate_left 2
        · (intro w hS; refine exec_load_at 33 (.tmp 3) ?_ g 0 ?_ KI _ (At.of_row (HK.out.below hS hglt)) Try.underlying33 rfl HII.out; exact rfl; exact rfl)
        · (go_simp; try with_reducible rfl)
        refine held_take (i := 1) (v := ?_) (a' := ?_) rfl (by kernel_rfl) (by kernel_rfl) (by kernel_rfl) (fun _ _ _ h => h) (by rfl) hdr ?_ ?_ ?_
        rotate_left 2
        · (intro w hS; go_simp; try with_reducible rfl)
        · (go_simp; try with_reducible rfl)
        refine held_take (i := 2) (v := ?_) (a' := ?_) rfl (by kernel_rfl) (by kernel_rfl) (by kernel_rfl) (fun _ _ _ h => h) (by rfl) hdr ?_ ?_ ?_
        rotate_left 2
        · (intro w hS; go_simp; try with_reducible rfl)
        · (go_simp; try with_reducible rfl)
        refine held_take (i := 3) (v := ?_) (a' := ?_) rfl (by kernel_rfl) (by kernel_rfl) (by kernel_rfl) (fun _ _ _ h => h) (by rfl) hdr ?_ ?_ ?_
        rotate_left 2
        · (intro w hS; go_simp; try with_reducible rfl)
        · (go_simp; try with_reducible rfl)
        refine held_take (i := 4) (v := ?_) (a' := ?_) rfl (by kernel_rfl) (by kernel_rfl) (by kernel_rfl) (fun _ _ _ h => h) (by rfl) hdr ?_ ?_ ?_
        rotate_left 2
        · (intro w hS; refine exec_load_at 33 (.tmp 14) ?_ b1 (o1 + k * 32) ?_ KX _ (HAT.out.below hS hb1) Try.underlying33 rfl HI.out; exact rfl; exact rfl)
        · (go_simp; try with_reducible rfl)
        refine held_take (i := 5) (v := ?_) (a' := ?_) rfl (by kernel_rfl) (by kernel_rfl) (by kernel_rfl) (fun _ _ _ h => h) (by rfl) hdr ?_ ?_ ?_
        rotate_left 2
        · (intro w hS; go_simp; try with_reducible rfl)
        · (go_simp; try with_reducible rfl)
        refine wpAnyH_done (by kernel_rfl) ?_ _
        go_wp2_with fail
        go_roundw
        case rel => exact ⟨k + 1, by omega, by go_num, HNO2, HB2, HK2⟩
        case measure => simp [intOf]; omega
    · have hltI : ¬ (k : Int) < (n : Int) := by omega
      have HRR := Lib.hid (show R = false by
        have := HNO.out
        rw [List.take_of_length_le (by have := HN.out; omega)] at this
        rw [HR.out]; exact this)
      go_wp2_with fail
      go_ret
      exact ⟨⟨-1, rfl, by rw [HRR.out]; decide⟩, by rw [HG.out]; exact HBL.out⟩
set_option maxRecDepth 100000 in
set_option maxHeartbeats 4000000 in
theorem contains_any (A : Option Addr) (n c : Nat) (is : List (List UInt8)) (x : List UInt8) (W0 : World) (hs : SlOf oidR W0 no A is) (hn : n = is.length) (hl : n ≤ 1000000000) (hx : x.length = 32) :
    Calls Try.prog 30 #[.slice A n c, idV x] W0 fun e w' => e = .returned (.bool (is.contains x)) ∧ Below W0.heap.size W0 w' := by
  obtain ⟨KI, hKI⟩ : ∃ KI, KI = (bytesV x).toArray := ⟨_, rfl⟩
  have HII := Lib.hid (show (Try.prog.info? 33).map (·.size) = some KI.size by rw [hKI]; exact oid_size hx)
  have hb1 : Below W0.heap.size W0 (W0.alloc (.cells KI 33)) := (Below.refl _ _).alloc (Nat.le_refl _) _
  have HIX := Lib.hid (index_any A n c is x (W0.alloc (.cells KI 33)) (hs.below hb1) hn hl hx)
  have HB1 := Lib.hid hb1
  have HK1 := Lib.hid (Blk.new W0 33 KI)
  rw [show idV x = .agg KI by rw [hKI]] at HIX ⊢
  clear hs hn hKI hb1
  obtain ⟨R, hR⟩ : ∃ R, R = is.contains x := ⟨_, rfl⟩
  rw [← hR] at HIX ⊢
  clear hR
  go_enter Try.func30, Try.ntmps30
  go_upto_region 1 with fail
  generalize W0.alloc (.cells KI 33) = w1 at *
  generalize hg : W0.heap.size = g at *
  have HG := Lib.hid hg
  clear hg
  go_wp2_with (first | (refine wpList_load_at rfl _ _ rfl g 0 rfl KI _ (At.of_row HK1.out) Try.underlying33 rfl HII.out ?_) | fail)
  refine HIX.out.mono ?_
  rintro e w2 ⟨⟨z, rfl, hz⟩, hb2⟩
  have HB2 := Lib.hid (HB1.out.trans (hb2.mono (by have := HK1.out.lt; omega)))
  have HZ := Lib.hid hz
  clear hb2 HIX
  cases R with
  | true =>
    have hz2 : (0 : Int) ≤ z := of_decide_eq_true HZ.out
    clear hz HZ
    go_wp2_with fail
    go_ret
    exact ⟨rfl, by rw [HG.out]; exact HB2.out⟩
  | false =>
    clear hz
    go_wp2_with fail
    go_ret
    exact ⟨by rw [← HZ.out]; rfl, by rw [HG.out]; exact HB2.out⟩
end Go.Proofs.Ytgmbkcjihgphmaa

/- grain, plain: numbers that fit; how much memory a value that was read takes. -/
set_option linter.unusedVariables false
namespace Go.Proofs.Ytgmbkcjihgphmaa
open Go.RowKit

theorem Each.mem {α : Type} {R : List Value → α → Prop} {vs : List Value} {xs : List α} (h : Each R vs xs) : ∀ x ∈ xs, ∃ cs, R cs x := by
  induction h with
  | nil => intro x hx; cases hx
  | cons h1 _ ih =>
    intro x hx
    rcases List.mem_cons.1 hx with rfl | hx
    · exact ⟨_, h1⟩
    · exact ih x hx

theorem valR_fits : ∀ (d : Nat) (v : Val) (w : World) (av : Av) (cs : List Value), valR.R w av cs v → Fits d v := by
  intro d
  induction d with
  | zero => intro v w av cs h; trivial
  | succ d ih =>
    intro v w av cs h
    obtain ⟨k, u, b, f, l⟩ := v
    obtain ⟨A, cA, L, cL, _, _, hu, hf, ⟨h4, h5, _⟩, h7, h8, vs, _, he, _⟩ := valR_iff.1 h
    refine ⟨hu, hf, ?_, ?_, fun x hx => ?_⟩
    · show b.length < 2 ^ 64; simp only [maxLen] at h5; omega
    · show l.length < 2 ^ 64; simp only [maxLen] at h8; omega
    · obtain ⟨cs', hc⟩ := he.mem x hx
      exact ih x w av cs' hc

theorem headL_pos (k n : Nat) : 1 ≤ (headL k n).length := List.length_pos_iff.2 (tailL_ne _ _)

theorem bulk_wrp : ∀ (d : Nat) (v : Val) (e : List UInt8), wrp d v = .ok e → bulkV (norm d v) ≤ e.length := by
  intro d
  induction d with
  | zero => intro v e h; cases h
  | succ d ih =>
    have hl : ∀ (l : List Val) (e : List UInt8), wrpL (wrp d) l = .ok e → bulkVs (l.map (norm d)) ≤ e.length := by
      intro l
      induction l with
      | nil => intro e h; simp [bulkVs]
      | cons v r ihl =>
        intro e h
        rw [wrpL] at h
        split at h
        · rename_i e1 h1
          split at h
          · rename_i e2 h2
            injection h with h
            subst h
            have a := ih v e1 h1
            have b := ihl e2 h2
            rw [List.map_cons, bulkVs, List.length_append]
            omega
          · cases h
        · cases h
    intro v e h
    unfold wrp at h
    unfold norm
    split at h
    · rename_i hk
      injection h with h
      subst h
      rw [if_pos hk]
      have := headL_pos 0 v.num
      simp [bulkV, bulkVs]; omega
    rename_i hk0
    rw [if_neg hk0]
    split at h
    · rename_i hk
      injection h with h
      subst h
      rw [if_pos hk]
      have := headL_pos 1 v.bytes.length
      simp [bulkV, bulkVs]; omega
    rename_i hk1
    rw [if_neg hk1]
    split at h
    · rename_i hk
      injection h with h
      subst h
      rw [if_pos hk]
      have := headL_pos 2 0
      simp [bulkV, bulkVs]; omega
    rename_i hk2
    rw [if_neg hk2]
    split at h
    · split at h
      · rename_i e1 h1
        injection h with h
        subst h
        have := hl _ _ h1
        have := headL_pos 3 v.list.length
        simp [bulkV]; omega
      · cases h
    · cases h

/-- what was read is small -/
theorem bulk_dec {l : List UInt8} {v : Val} (h : dec l = .ok v) : bulkV v ≤ 1048576 ∧ enc v = .ok l := by
  obtain ⟨h1, h2, _, h4⟩ := dec_back h
  obtain ⟨h5, _⟩ := (enc_iff v l).1 h1
  have := bulk_wrp 16 v l h5
  rw [h2] at this
  exact ⟨by omega, h1⟩
/-- what was written is read as what of it counts, and that is written alike -/
theorem dec_norm {v : Val} {o : List UInt8} {w : World} {av : Av} {cs : List Value} (hv : valR.R w av cs v) (h : enc v = .ok o) : dec o = .ok (norm 16 v) ∧ bulkV (norm 16 v) ≤ 1048576 ∧ enc (norm 16 v) = .ok o ∧ (norm 16 v).kind = v.kind := by
  have hd := dec_enc (valR_fits 16 v w av cs hv) h
  obtain ⟨h1, h2⟩ := bulk_dec hd
  obtain ⟨h5, _⟩ := (enc_iff v o).1 h
  exact ⟨hd, h1, h2, norm_kind h5⟩
end Go.Proofs.Ytgmbkcjihgphmaa
