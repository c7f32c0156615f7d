/- Contracts and laws for what the statement reaches, joined: TalkRow, TalkRefHas, TalkRefAll, ObjPutKit, ObjPutBlob, GrainRefBits, AppStr, GrainRefHead, GrainRefWrite, GrainRefEncode, GrainRefHeadAt. -/
import Derived.Test.YtgmbkcjihgphmaaGreatJn1
import Derived.Test.YtgmbkcjihgphmaaGreatJn10
import Derived.Test.YtgmbkcjihgphmaaGreatJn2
import Derived.Test.YtgmbkcjihgphmaaGreatJn21
import Derived.Test.YtgmbkcjihgphmaaGreatJn6
import Derived.Lib.AppendStr
/- a record out of a row, and in a block of its own. -/
set_option linter.unusedVariables false
set_option linter.unusedSimpArgs false
namespace Go.Proofs.YtgmbkcjihgphmaaGreat
open Go.RowKit
theorem recs_row {w : World} {av : Av} {A : Option Addr} {rs : List RecT} {n i : Nat} (h : SlOf recR w av A rs) (hl : rs.length = n) (hi : i < n) :
  ∃ b off r, A = some ⟨b, off, none⟩ ∧ b < w.heap.size ∧ rs[i]? = some r ∧ r.1.length = 32 ∧ At w ⟨b, off + i * 33, none⟩ (recK r.1 r.2) := by
 obtain ⟨b, off, cs, r, e, hb, hx, hr, hc⟩ := h.at hl hi
 obtain ⟨rfl, h32⟩ := rec_cells hr
 exact ⟨b, off, r, e, hb, hx, h32, hc⟩
theorem take_contains {ids : List (List UInt8)} {k : Nat} {x y : List UInt8} (h : ids[k]? = some y) : (ids.take (k + 1)).contains x = ((ids.take k).contains x || (y == x)) := by
 rw [List.take_add_one, h]
 rw [Bool.eq_iff_iff, Bool.or_eq_true, List.contains_iff_mem, List.contains_iff_mem, List.mem_append, beq_iff_eq]
 refine or_congr Iff.rfl ⟨fun h => ?_, fun h => by simp [h]⟩
 have h : x = y := by simpa using h
 exact h.symm
end Go.Proofs.YtgmbkcjihgphmaaGreat
/- the reference's has. -/
namespace Go.Proofs.YtgmbkcjihgphmaaGreat
open Go.RowKit
attribute [local go_sem ↓] eqlId_eq
set_option maxRecDepth 100000 in
set_option maxHeartbeats 4000000 in
theorem has21_any (A : Option Addr) (n c : Nat) (is : Ids) (x : List UInt8) (W0 : World) (hs : SlOf oidR W0 no A is) (hn : n = is.length) (hl : n ≤ 1000000000) (hx : x.length = 32) :
  Calls Tryz.prog 26 #[.slice A n c, idV x] W0 fun e w' => e = .returned (.bool (is.contains x)) ∧ Below W0.heap.size W0 w' := by
 obtain ⟨B, hB⟩ : ∃ B, B = is.contains x := ⟨_, rfl⟩
 rw [← hB]
 have HB := Lib.hid hB
 obtain ⟨KI, hKI⟩ : ∃ KI, KI = (bytesV x).toArray := ⟨_, rfl⟩
 have HII := Lib.hid (show (Tryz.prog.info? 33).map (·.size) = some KI.size by rw [hKI]; exact oid_size hx)
 rw [show idV x = .agg KI by rw [hKI]]
 have HB1 := Lib.hid (show Below W0.heap.size W0 (W0.alloc (.cells KI 33)) from (Below.refl _ _).alloc (Nat.le_refl _) _)
 have HK1 := Lib.hid (Blk.new W0 33 KI)
 have HS := Lib.hid hs
 have HN := Lib.hid hn.symm
 have HX := Lib.hid hx
 have HKI := Lib.hid hKI
 clear hs hn hx hKI hB
 go_enter Tryz.func26, Tryz.ntmps26
 go_wp2_with fail
 generalize W0.alloc (.cells KI 33) = w1 at *
 generalize hg : W0.heap.size = g at *
 have HG := Lib.hid hg
 clear hg
 go_loopw [5] (fun s5 wr => ∃ k : Nat, k ≤ n ∧ s5 = .int .i64 (k : Int) ∧ Hid ((is.take k).contains x = false) ∧ Hid (Same w1 wr)) (fun s5 wr => n - (intOf s5).toNat)
 case atStart => exact ⟨0, by omega, rfl, Lib.hid (by simp), Lib.hid (Same.refl _)⟩
 case round =>
  obtain ⟨k, hk, rfl, HNO, HSM⟩ := hrel
  by_cases hlt : k < n
  ·have hltI : (k : Int) < (n : Int) := by omega
   obtain ⟨wd, hwd⟩ : ∃ wd, wd = wr.drew := ⟨_, rfl⟩
   have HSD := Lib.hid (show Same w1 wd by rw [hwd]; exact HSM.out.drew)
   have HBD := Lib.hid (show Below W0.heap.size W0 wd by rw [HG.out]; exact HB1.out.trans (HSD.out.below _))
   obtain ⟨b1, o1, y, rfl, hb1, hy, hy32, haty⟩ := oids_look (HS.out.below HBD.out) HN.out hlt
   obtain ⟨KY, hKY⟩ : ∃ KY, KY = (bytesV y).toArray := ⟨_, rfl⟩
   have HIY := Lib.hid (show (Tryz.prog.info? 33).map (·.size) = some KY.size by rw [hKY]; exact oid_size hy32)
   rw [← hKY] at haty
   have HATY := Lib.hid haty
   have HKD := Lib.hid (HK1.out.same HSD.out)
   have he := fun w => eqlId_of hy32 HX.out w
   rw [← hKY, ← HKI.out] at he
   have HTC := Lib.hid (show (is.take (k + 1)).contains x = (y == x) by rw [take_contains hy, HNO.out]; rfl)
   have HWD := Lib.hid hwd
   have HYM := Lib.hid (List.mem_of_getElem? hy)
   clear haty hy hKY hy32 hwd
   go_upto_region 4 with fail
   cases hq : (y == x) with
   | true =>
    rw [hq] at he
    have HBT := Lib.hid (show B = true by
     have : y = x := by simpa using hq
     rw [HB.out, List.contains_iff_mem, ← this]; exact HYM.out)
    clear hq HTC
    refine wp_region_held (S := fun w => w = wd) (by kernel_rfl) ?_
    change wpAnyH _ _ _ _ _ _ _ _ (World.drew _)
    rw [← HWD.out]
    refine rgT 0 rfl ?_
    refine rgT 1 rfl ?_
    refine rgT 2 rfl ?_
    refine rgU 3 (v := ?_) (a' := ?_) rfl ?_ ?_ ?_
    rotate_left 2
    ·(intro w hS; subst hS; refine exec_load_at 33 (.tmp 14) ?_ b1 (o1 + k * 32) ?_ KY _ HATY.out Tryz.underlying33 rfl HIY.out; exact rfl; exact rfl)
    ·(go_simp; try with_reducible rfl)
    refine rgU 4 (v := ?_) (a' := ?_) rfl ?_ ?_ ?_
    rotate_left 2
    ·(intro w hS; subst hS; refine exec_load_at 33 (.tmp 3) ?_ g 0 ?_ KI _ (At.of_row HKD.out) Tryz.underlying33 rfl HII.out; exact rfl; exact rfl)
    ·(go_simp; try with_reducible rfl)
    refine rgT 5 rfl ?_
    refine wpAnyH_done (by kernel_rfl) ?_ _
    go_wp2_with fail
    go_ret
    rw [HBT.out]
    exact ⟨rfl, by rw [HG.out] at HBD; rw [HG.out]; exact HBD.out⟩
   | false =>
    rw [hq] at he
    have HNO2 := Lib.hid (show (is.take (k + 1)).contains x = false by rw [HTC.out, hq])
    clear hq HTC
    refine wp_region_held (S := fun w => w = wd) (by kernel_rfl) ?_
    change wpAnyH _ _ _ _ _ _ _ _ (World.drew _)
    rw [← HWD.out]
    refine rgT 0 rfl ?_
    refine rgT 1 rfl ?_
    refine rgT 2 rfl ?_
    refine rgU 3 (v := ?_) (a' := ?_) rfl ?_ ?_ ?_
    rotate_left 2
    ·(intro w hS; subst hS; refine exec_load_at 33 (.tmp 14) ?_ b1 (o1 + k * 32) ?_ KY _ HATY.out Tryz.underlying33 rfl HIY.out; exact rfl; exact rfl)
    ·(go_simp; try with_reducible rfl)
    refine rgU 4 (v := ?_) (a' := ?_) rfl ?_ ?_ ?_
    rotate_left 2
    ·(intro w hS; subst hS; refine exec_load_at 33 (.tmp 3) ?_ g 0 ?_ KI _ (At.of_row HKD.out) Tryz.underlying33 rfl HII.out; exact rfl; exact rfl)
    ·(go_simp; try with_reducible rfl)
    refine rgT 5 rfl ?_
    refine wpAnyH_done (by kernel_rfl) ?_ _
    go_wp2_with fail
    go_roundw
    case rel => exact ⟨k + 1, by omega, by go_num, HNO2, HSD⟩
    case measure => simp [intOf]; omega
  ·have hltI : ¬ (k : Int) < (n : Int) := by omega
   have HBF := Lib.hid (show B = false by
    have := HNO.out
    rw [List.take_of_length_le (by rw [HN.out]; omega)] at this
    rw [HB.out]; exact this)
   have HBZ := Lib.hid (show Below g W0 wr from HB1.out.trans (HSM.out.below _))
   go_wp2_with fail
   go_ret
   rw [HBF.out]
   exact ⟨rfl, by rw [HG.out]; exact HBZ.out⟩
set_option maxRecDepth 100000 in
set_option maxHeartbeats 4000000 in
theorem has20_any (A : Option Addr) (n c : Nat) (is : Ids) (x : List UInt8) (W0 : World) (hs : SlOf oidR W0 no A is) (hn : n = is.length) (hl : n ≤ 1000000000) (hx : x.length = 32) :
  Calls Tryz.prog 86 #[.slice A n c, idV x] W0 fun e w' => e = .returned (.bool (is.contains x)) ∧ Below W0.heap.size W0 w' := by
 obtain ⟨B, hB⟩ : ∃ B, B = is.contains x := ⟨_, rfl⟩
 rw [← hB]
 have HB := Lib.hid hB
 obtain ⟨KI, hKI⟩ : ∃ KI, KI = (bytesV x).toArray := ⟨_, rfl⟩
 have HII := Lib.hid (show (Tryz.prog.info? 33).map (·.size) = some KI.size by rw [hKI]; exact oid_size hx)
 rw [show idV x = .agg KI by rw [hKI]]
 have HB1 := Lib.hid (show Below W0.heap.size W0 (W0.alloc (.cells KI 33)) from (Below.refl _ _).alloc (Nat.le_refl _) _)
 have HK1 := Lib.hid (Blk.new W0 33 KI)
 have HS := Lib.hid hs
 have HN := Lib.hid hn.symm
 have HX := Lib.hid hx
 have HKI := Lib.hid hKI
 clear hs hn hx hKI hB
 go_enter Tryz.func86, Tryz.ntmps86
 go_wp2_with fail
 generalize W0.alloc (.cells KI 33) = w1 at *
 generalize hg : W0.heap.size = g at *
 have HG := Lib.hid hg
 clear hg
 go_loopw [5] (fun s5 wr => ∃ k : Nat, k ≤ n ∧ s5 = .int .i64 (k : Int) ∧ Hid ((is.take k).contains x = false) ∧ Hid (Same w1 wr)) (fun s5 wr => n - (intOf s5).toNat)
 case atStart => exact ⟨0, by omega, rfl, Lib.hid (by simp), Lib.hid (Same.refl _)⟩
 case round =>
  obtain ⟨k, hk, rfl, HNO, HSM⟩ := hrel
  by_cases hlt : k < n
  ·have hltI : (k : Int) < (n : Int) := by omega
   obtain ⟨wd, hwd⟩ : ∃ wd, wd = wr.drew := ⟨_, rfl⟩
   have HSD := Lib.hid (show Same w1 wd by rw [hwd]; exact HSM.out.drew)
   have HBD := Lib.hid (show Below W0.heap.size W0 wd by rw [HG.out]; exact HB1.out.trans (HSD.out.below _))
   obtain ⟨b1, o1, y, rfl, hb1, hy, hy32, haty⟩ := oids_look (HS.out.below HBD.out) HN.out hlt
   obtain ⟨KY, hKY⟩ : ∃ KY, KY = (bytesV y).toArray := ⟨_, rfl⟩
   have HIY := Lib.hid (show (Tryz.prog.info? 33).map (·.size) = some KY.size by rw [hKY]; exact oid_size hy32)
   rw [← hKY] at haty
   have HATY := Lib.hid haty
   have HKD := Lib.hid (HK1.out.same HSD.out)
   have he := fun w => eqlId_of hy32 HX.out w
   rw [← hKY, ← HKI.out] at he
   have HTC := Lib.hid (show (is.take (k + 1)).contains x = (y == x) by rw [take_contains hy, HNO.out]; rfl)
   have HWD := Lib.hid hwd
   have HYM := Lib.hid (List.mem_of_getElem? hy)
   clear haty hy hKY hy32 hwd
   go_upto_region 4 with fail
   cases hq : (y == x) with
   | true =>
    rw [hq] at he
    have HBT := Lib.hid (show B = true by
     have : y = x := by simpa using hq
     rw [HB.out, List.contains_iff_mem, ← this]; exact HYM.out)
    clear hq HTC
    refine wp_region_held (S := fun w => w = wd) (by kernel_rfl) ?_
    change wpAnyH _ _ _ _ _ _ _ _ (World.drew _)
    rw [← HWD.out]
    refine rgT 0 rfl ?_
    refine rgT 1 rfl ?_
    refine rgT 2 rfl ?_
    refine rgU 3 (v := ?_) (a' := ?_) rfl ?_ ?_ ?_
    rotate_left 2
    ·(intro w hS; subst hS; refine exec_load_at 33 (.tmp 14) ?_ b1 (o1 + k * 32) ?_ KY _ HATY.out Tryz.underlying33 rfl HIY.out; exact rfl; exact rfl)
    ·(go_simp; try with_reducible rfl)
    refine rgU 4 (v := ?_) (a' := ?_) rfl ?_ ?_ ?_
    rotate_left 2
    ·(intro w hS; subst hS; refine exec_load_at 33 (.tmp 3) ?_ g 0 ?_ KI _ (At.of_row HKD.out) Tryz.underlying33 rfl HII.out; exact rfl; exact rfl)
    ·(go_simp; try with_reducible rfl)
    refine rgT 5 rfl ?_
    refine wpAnyH_done (by kernel_rfl) ?_ _
    go_wp2_with fail
    go_ret
    rw [HBT.out]
    exact ⟨rfl, by rw [HG.out] at HBD; rw [HG.out]; exact HBD.out⟩
   | false =>
    rw [hq] at he
    have HNO2 := Lib.hid (show (is.take (k + 1)).contains x = false by rw [HTC.out, hq])
    clear hq HTC
    refine wp_region_held (S := fun w => w = wd) (by kernel_rfl) ?_
    change wpAnyH _ _ _ _ _ _ _ _ (World.drew _)
    rw [← HWD.out]
    refine rgT 0 rfl ?_
    refine rgT 1 rfl ?_
    refine rgT 2 rfl ?_
    refine rgU 3 (v := ?_) (a' := ?_) rfl ?_ ?_ ?_
    rotate_left 2
    ·(intro w hS; subst hS; refine exec_load_at 33 (.tmp 14) ?_ b1 (o1 + k * 32) ?_ KY _ HATY.out Tryz.underlying33 rfl HIY.out; exact rfl; exact rfl)
    ·(go_simp; try with_reducible rfl)
    refine rgU 4 (v := ?_) (a' := ?_) rfl ?_ ?_ ?_
    rotate_left 2
    ·(intro w hS; subst hS; refine exec_load_at 33 (.tmp 3) ?_ g 0 ?_ KI _ (At.of_row HKD.out) Tryz.underlying33 rfl HII.out; exact rfl; exact rfl)
    ·(go_simp; try with_reducible rfl)
    refine rgT 5 rfl ?_
    refine wpAnyH_done (by kernel_rfl) ?_ _
    go_wp2_with fail
    go_roundw
    case rel => exact ⟨k + 1, by omega, by go_num, HNO2, HSD⟩
    case measure => simp [intOf]; omega
  ·have hltI : ¬ (k : Int) < (n : Int) := by omega
   have HBF := Lib.hid (show B = false by
    have := HNO.out
    rw [List.take_of_length_le (by rw [HN.out]; omega)] at this
    rw [HB.out]; exact this)
   have HBZ := Lib.hid (show Below g W0 wr from HB1.out.trans (HSM.out.below _))
   go_wp2_with fail
   go_ret
   rw [HBF.out]
   exact ⟨rfl, by rw [HG.out]; exact HBZ.out⟩
end Go.Proofs.YtgmbkcjihgphmaaGreat
/- the reference's fetch in memory; all. -/
namespace Go.Proofs.YtgmbkcjihgphmaaGreat
open Go.RowKit
abbrev fK (Aw : Option Addr) (nw cw : Nat) (Aa : Option Addr) (na ca : Nat) (root : List UInt8) : Array Value := (Value.slice Aw nw cw :: Value.slice Aa na ca :: bytesV root).toArray
theorem fK_size {root : List UInt8} (h : root.length = 32) (Aw : Option Addr) (nw cw : Nat) (Aa : Option Addr) (na ca : Nat) : (fK Aw nw cw Aa na ca root).size = 34 := by simp [fK, bytesV_length, h]
theorem fetch21_info : (Tryz.prog.info? 37).map (·.size) = some 34 := by kernel_rfl
theorem fK_one (Aw : Option Addr) (nw cw : Nat) (Aa : Option Addr) (na ca : Nat) (root : List UInt8) : (fK Aw nw cw Aa na ca root).all (·.oneCell') = true := by
 rw [Array.all_eq_true_iff_forall_mem]
 intro v hv
 simp [fK] at hv
 rcases hv with rfl | rfl | hv
 ·rfl
 ·rfl
 ·exact bytesV_one root v hv
/-- the reference's fetch: what one has, what is aside -/
structure RF (w : World) (K : Array Value) (bs ax : List RecT) (root : List UInt8) : Prop where
 ex : ∃ Aw nw cw Aa na ca, K = fK Aw nw cw Aa na ca root ∧ nw = bs.length ∧ na = ax.length ∧ SlOf recR w no Aw bs ∧ SlOf recR w no Aa ax
 r32 : root.length = 32
theorem RF.go {w w' : World} {K : Array Value} {bs ax : List RecT} {root : List UInt8} (h : RF w K bs ax root) (hb : Below w.heap.size w w') : RF w' K bs ax root := by
 obtain ⟨Aw, nw, cw, Aa, na, ca, h1, h2, h3, h4, h5⟩ := h.ex
 exact ⟨⟨Aw, nw, cw, Aa, na, ca, h1, h2, h3, h4.below hb, h5.below hb⟩, h.r32⟩
theorem RF.size {w : World} {K : Array Value} {bs ax : List RecT} {root : List UInt8} (h : RF w K bs ax root) : (Tryz.prog.info? 37).map (·.size) = some K.size := by
 obtain ⟨Aw, nw, cw, Aa, na, ca, rfl, _⟩ := h.ex
 rw [fK_size h.r32]; exact fetch21_info
theorem fK_id_at {w : World} {g : Nat} {t : TypeId} {Aw Aa : Option Addr} {nw cw na ca : Nat} {root : List UInt8} (h : Blk w g t (fK Aw nw cw Aa na ca root)) : At w ⟨g, 2, none⟩ (bytesV root).toArray := fun j u hu => by
 show w.cell? ⟨g, 2 + j, none⟩ = some u
 rw [h.cell (2 + j)]
 have hu : (bytesV root)[j]? = some u := by simpa using hu
 unfold fK
 rw [List.getElem?_toArray, show 2 + j = j + 1 + 1 by omega, List.getElem?_cons_succ, List.getElem?_cons_succ, hu]
theorem rec_anyw {w w' : World} {av av' : Av} {cs : List Value} {r : RecT} (h : recR.R w av cs r) : recR.R w' av' cs r := by
 obtain ⟨rfl, h2⟩ := rec_cells h
 exact rec_of w' av' h2
theorem recs_push {w : World} {base m c : Nat} {A A2 : Option Addr} {l l2 : List RecT} (h : RowR recR 35 w base A m c l) (hb : base ≤ w.heap.size) (hs : SlOf recR w no A2 l2) (hn : m + l2.length ≤ 1000000000) (c0 : Nat) :
  ∃ A' c' w', (Builtin.append_ #[25, 25] 25 #[.slice A m c, .slice A2 l2.length c0]).run Tryz.prog w = .ok (.slice A' (m + l2.length) c') w' ∧ RowR recR 35 w' base A' (m + l2.length) c' (l ++ l2) ∧ Below base w w' := by
 obtain ⟨xs, h1, h2⟩ := h.row
 obtain ⟨vs, s1, s2, _⟩ := hs
 have h1c : ∀ u ∈ vs, u.oneCell' = true := fun u hu => s2.all (p := fun u => u.oneCell' = true) (fun _ _ h => recR.one h) u hu
 obtain ⟨A', c', w', run, ap, hc, hcm⟩ := append_sl (P := Tryz.prog) elemRec h1 s1 h1c (by omega) (by simp only [maxLen]; omega) hb 25 c0
 refine ⟨A', c', w', run, ⟨⟨xs ++ vs, ap.own, ?_⟩, by rw [List.length_append, h.len]⟩, ap.below⟩
 have e1 : Each (recR.R w' (own (.slice A' (m + l2.length) c'))) xs l := h2.mono fun _ _ k => rec_anyw k
 have e2 : Each (recR.R w' (own (.slice A' (m + l2.length) c'))) vs l2 := s2.mono fun _ _ k => rec_anyw k
 clear run ap h1 h2 s1 s2 h1c h
 induction e1 with
 | nil => exact e2
 | cons k1 k2 ih => rw [List.append_assoc]; exact .cons k1 ih
set_option maxRecDepth 100000 in
set_option maxHeartbeats 4000000 in
theorem all_any {K : Array Value} {bs ax : List RecT} {root : List UInt8} (W0 : World) (h : RF W0 K bs ax root) (hn : ax.length + bs.length ≤ 1000000) :
  Calls Tryz.prog 31 #[.agg K] W0 fun e w' => Below W0.heap.size W0 w' ∧ ∃ A m c, e = .returned (.slice A m c) ∧ RowR recR 35 w' W0.heap.size A m c (ax ++ bs) := by
 have HIF := Lib.hid h.size
 obtain ⟨Aw, nw, cw, Aa, na, ca, hK, rfl, rfl, hw, ha⟩ := h.ex
 obtain ⟨w1, hw1⟩ : ∃ w1, w1 = W0.alloc (.cells K 37) := ⟨_, rfl⟩
 have hb1 : Below W0.heap.size W0 w1 := by rw [hw1]; exact (Below.refl _ _).alloc (Nat.le_refl _) _
 have hk1 : Blk w1 W0.heap.size 37 K := by rw [hw1]; exact Blk.new W0 _ _
 obtain ⟨w2, hw2⟩ : ∃ w2, w2 = w1.alloc (.cells #[] 35) := ⟨_, rfl⟩
 have hb2 : Below w1.heap.size w1 w2 := by rw [hw2]; exact (Below.refl _ _).alloc (Nat.le_refl _) _
 have hr2 : RowR recR 35 w2 w1.heap.size (some ⟨w1.heap.size, 0, none⟩) 0 0 [] := ⟨⟨[], by rw [hw2]; exact own_made w1 _ _ (Nat.le_refl _), .nil⟩, rfl⟩
 obtain ⟨A3, c3, w3, run3, hr3, hb3⟩ := recs_push hr2 hb2.size (ha.below (hb1.trans (hb2.mono hb1.size))) (by omega) ca
 simp only [Nat.zero_add, List.nil_append] at run3 hr3
 have hb13 := hb2.trans hb3
 obtain ⟨A4, c4, w4, run4, hr4, hb4⟩ := recs_push hr3 hb13.size (hw.below (hb1.trans (hb13.mono hb1.size))) (by omega) cw
 have HB4 := Lib.hid (hb1.trans ((hb13.trans hb4).mono hb1.size))
 have HR4 := Lib.hid (hr4.lower hb1.size)
 obtain ⟨na, hna⟩ : ∃ na, na = ax.length := ⟨_, rfl⟩
 obtain ⟨nw, hnw⟩ : ∃ nw, nw = bs.length := ⟨_, rfl⟩
 rw [← hna] at hr3 hr4 run3 run4 hK HR4
 rw [← hnw] at hr4 run4 hK HR4
 have c1 : w2.cell? ⟨W0.heap.size, 1, none⟩ = some (.slice Aa na ca) := by rw [(hk1.below hb2 hk1.lt).cell, hK]; rfl
 have c0 : w3.cell? ⟨W0.heap.size, 0, none⟩ = some (.slice Aw nw cw) := by rw [(hk1.below hb13 hk1.lt).cell, hK]; rfl
 have HW1 := Lib.hid hw1
 clear hw ha hK hb1 hk1 hb2 hr2 hr3 hb3 hb13 hr4 hb4 hna hnw hw1 h
 subst hw2
 go_enter Tryz.func31, Tryz.ntmps31
 go_upto_region 1 with fail
 rw [← HW1.out]
 generalize hg : W0.heap.size = g at *
 have HG := Lib.hid hg
 clear hg HW1
 go_wp2_with (first | (at_builtin; refine wpList_run_append run3 ?_ ?_ ?_; exact rfl; exact rfl) | (at_builtin; refine wpList_run_append run4 ?_ ?_ ?_; exact rfl; exact rfl) | fail)
 go_ret
 exact ⟨by rw [HG.out]; exact HB4.out, A4, na + nw, c4, rfl, by rw [HG.out]; exact HR4.out⟩
end Go.Proofs.YtgmbkcjihgphmaaGreat
/- what Object's writers share. -/
namespace Go.Proofs.YtgmbkcjihgphmaaGreat
open Go.RowKit
theorem sl_built {w : World} {cells : List Value} {vs : List Val} (h : Each (valR.R w no) cells vs) : SlOf valR (w.alloc (.cells cells.toArray 94)) no (some ⟨w.heap.size, 0, none⟩) vs := by
 have hba : Below w.heap.size w (w.alloc (.cells cells.toArray 94)) := (Below.refl _ _).alloc (Nat.le_refl _) _
 have hl : cells.length = vs.length * 5 := h.length fun _ _ => valR.len
 exact ⟨cells, Sl.fresh w cells.toArray 94 (0, 0) vs.length 5 (by simpa using hl), h.mono fun _ _ k => valR.stable k (Moves.of_below hba), fun _ _ _ _ h => h⟩
theorem step_build2 {P : Program} {Q : Exit → Act → World → Prop} {o : Oper} {a : Act} {w w' : World} {K : Act → World → Prop} {E : Prop} (hgd : o.guard = none) (x y : Operand) {t : TypeId}
  (ho : o.op = .buildSlice t 2 #[(0, x), (1, y)]) {vx vy v' : Value} (hx : a.eval x = vx) (hy : a.eval y = vy) (hrun : (Instr.buildSlice t 2 #[(0, vx), (1, vy)]).run P w = .ok v' w') (h : K (a.put o.dst v') w') :
  ∀ {ops : Array Oper}, if Region.wanted o (yielded ops a.tmps) = true then Oper.wp P o a w K Q else E := by
 intro ops
 have hw : Region.wanted o (yielded ops a.tmps) = true := by simp [Region.wanted, hgd]
 rw [if_pos hw]
 unfold Oper.wp execOp
 simp only [ho, List.map_toArray, List.map_cons, List.map_nil, hx, hy, Sem.run_bind, hrun, Result.andThen_ok, Sem.run_pure]
 exact h
theorem bulk_ids : ∀ (is : List (List UInt8)), (∀ i ∈ is, i.length = 32) → bulkVs (is.map txtV) = is.length * 33
 | [], _ => rfl
 | i :: r, h => by
  have := bulk_ids r (fun j hj => h j (by simp [hj]))
  have hi := h i (by simp)
  simp only [List.map_cons, bulkVs, bulkV, txtV, List.length_cons] at this ⊢
  omega
end Go.Proofs.YtgmbkcjihgphmaaGreat
/- object.PutBlob. -/
namespace Go.Proofs.YtgmbkcjihgphmaaGreat
open Go.RowKit
end Go.Proofs.YtgmbkcjihgphmaaGreat
/- towlineref01.Bits. -/
namespace Go.Proofs.YtgmbkcjihgphmaaGreat
open Go.RowKit
theorem bits_any (b : Nat) (w : World) : Calls Tryz.prog 104 #[.float .f64 b] w fun e w' => e = .returned (.int .u64 (canonB b : Int)) ∧ Same w w' := by
 have hf := ext_bits
 by_cases hn : isNan b = true
 ·have hc : canonB b = nanB := by simp [canonB, hn]
  have hn' : (FloatKind.f64.format.order b b != some .eq) = true := hn
  rw [hc]
  clear hc hn
  go_enter Tryz.func104, Tryz.ntmps104
  go_wp2_with fail
  go_ret
  exact ⟨rfl, Same.refl _⟩
 ·have hc : canonB b = b := by simp [canonB, hn]
  have hn' : (FloatKind.f64.format.order b b != some .eq) = false := by simpa [isNan] using hn
  rw [hc]
  clear hc hn
  go_enter Tryz.func104, Tryz.ntmps104
  go_wp2_with fail
  go_ret
  exact ⟨rfl, Same.refl _⟩
end Go.Proofs.YtgmbkcjihgphmaaGreat
/- append of a string's bytes onto a slice of bytes of the call's own. -/
namespace Go.Proofs.YtgmbkcjihgphmaaGreat
open Go.RowKit
end Go.Proofs.YtgmbkcjihgphmaaGreat
/- towlineref02.Head: a head as a string. -/
namespace Go.Proofs.YtgmbkcjihgphmaaGreat
open Go.RowKit
attribute [local go_sem ↓] cvt_eq
theorem cvt_one (w : World) (x : UInt8) (c : Nat) : cvt (w.alloc (.cells #[.int .u8 (x.toNat : Int)] 5)) (some ⟨w.heap.size, 0, none⟩) 1 c = .ok (.string (strL [x])) (w.alloc (.cells #[.int .u8 (x.toNat : Int)] 5)) :=
 cvt_of (l := [x]) (Sl.one w (.int .u8 (x.toNat : Int)) 5) c
set_option maxRecDepth 100000 in
set_option maxHeartbeats 1000000 in
theorem refHead_any (k n : Nat) (w : World) (hk : k < 4) (hn : n < 2 ^ 64) :
  Calls Tryz.prog 107 #[.int .i64 (k : Int), .int .u64 (n : Int)] w fun e w' => e = .returned (.string (strL (headL k n))) ∧ Below w.heap.size w w' := by
 obtain ⟨R, hR⟩ : ∃ R, R = headL k n := ⟨_, rfl⟩
 rw [← hR]
 have hlen : R.length ≤ 10 := by rw [hR]; exact headL_length hn
 obtain ⟨x0, hx0⟩ : ∃ x0, x0 = n % 32 * 4 + k := ⟨_, rfl⟩
 have hx0l : x0 < 128 := by omega
 obtain ⟨q0, hq0⟩ : ∃ q0, q0 = n / 32 := ⟨_, rfl⟩
 have HRT := Lib.hid (show R = tailL x0 q0 by rw [hR, hx0, hq0]; rfl)
 have HX0 := Lib.hid hx0
 have HQ0 := Lib.hid hq0
 clear hR hx0 hq0
 go_enter Tryz.func107, Tryz.ntmps107
 go_wp2_with fail
 go_loopw [1, 5, 6] (fun s1 s5 s6 wr => ∃ (x q : Nat) (acc : List UInt8), s1 = .int .u64 (q : Int) ∧ s5 = .int .i64 (x : Int) ∧ s6 = .string (strL acc) ∧ x < 128 ∧ q < 2 ^ 64 ∧ Hid (acc ++ tailL x q = R) ∧ Below w.heap.size w wr)
  (fun s1 s5 s6 wr => (intOf s1).toNat)
 case atStart => exact ⟨x0, q0, [], by have := HQ0.out; go_num, by have := HX0.out; go_num, rfl, hx0l, by have := HQ0.out; omega, Lib.hid HRT.out.symm, Below.refl _ _⟩
 case round =>
  obtain ⟨x, q, acc, rfl, rfl, rfl, hx, hq64, HA, hbl⟩ := hrel
  have hal : acc.length ≤ R.length := by rw [← HA.out]; simp
  have hcat : ∀ y : UInt8, (strL acc).size + (strL [y]).size ≤ 9223372036854775807 := fun y => by rw [strL_size, strL_size]; simp; omega
  by_cases hq0 : 0 < q
  ·have hqI : (0 : Int) < (q : Int) := by omega
   have ht := tailL_pos x (by omega : q ≠ 0)
   obtain ⟨y, hy⟩ : ∃ y : UInt8, y.toNat = x + 128 := ⟨UInt8.ofNat (x + 128), u8_ofNat (by omega)⟩
   have hye : UInt8.ofNat (x + 128) = y := u8_ext (by rw [u8_ofNat (by omega), hy])
   obtain ⟨q1, hq1⟩ : ∃ q1, q1 = q / 128 := ⟨_, rfl⟩
   obtain ⟨y1, hy1⟩ : ∃ y1, y1 = q % 128 := ⟨_, rfl⟩
   rw [hye, ← hy1, ← hq1] at ht
   have hyI : (x : Int) + 128 = (y.toNat : Int) := by omega
   have hy256 : (y.toNat : Int) % 256 = (y.toNat : Int) := by have := u8_lt y; omega
   have e128 : (q : Int) / 128 = (q1 : Int) := by omega
   have m128 : (q : Int) % 128 = (y1 : Int) := by omega
   have hcv := cvt_one wr y 1
   have happ := strL_append acc [y]
   have hcaty := hcat y
   clear hcat
   have hbl2 : Below w.heap.size w (wr.alloc (.cells #[.int .u8 (y.toNat : Int)] 5)) := hbl.alloc hbl.size _
   have hq1q : q1 < q := by omega
   have hy128 : y1 < 128 := by omega
   have hq164 : q1 < 2 ^ 64 := by omega
   have HA2 : Hid (acc ++ [y] ++ tailL y1 q1 = R) := Lib.hid (by rw [← HA.out, ht]; simp)
   clear hye hq1 hy1 ht HA hy
   go_wp2_with fail
   go_roundw
   case rel => exact ⟨y1, q1, acc ++ [y], by go_num, by go_num, rfl, hy128, hq164, HA2, hbl2⟩
   case measure => simp [intOf]; omega
  ·obtain rfl : q = 0 := by omega
   have ha := HA.out
   rw [tailL_zero] at ha
   obtain ⟨y, hy⟩ : ∃ y : UInt8, y.toNat = x := ⟨UInt8.ofNat x, u8_ofNat (by omega)⟩
   have hye : UInt8.ofNat x = y := u8_ext (by rw [u8_ofNat (by omega), hy])
   have hyI : (x : Int) = (y.toNat : Int) := by omega
   rw [hye] at ha
   have hy256 : (y.toNat : Int) % 256 = (y.toNat : Int) := by have := u8_lt y; omega
   have hcv := cvt_one wr y 1
   have happ := strL_append acc [y]
   have hcaty := hcat y
   clear hcat
   rw [ha] at happ
   have hbl2 : Below w.heap.size w (wr.alloc (.cells #[.int .u8 (y.toNat : Int)] 5)) := hbl.alloc hbl.size _
   clear ha hye HA hy
   go_wp2_with fail
   go_ret
   exact ⟨rfl, hbl2⟩
end Go.Proofs.YtgmbkcjihgphmaaGreat
/- towlineref02.write: the bytes so far with a value's behind them, and the error's number. -/
namespace Go.Proofs.YtgmbkcjihgphmaaGreat
open Go.RowKit
section
variable {base : Nat} {w : World} {A : Option Addr} {m c : Nat} {xs : List UInt8} {k : Int} {u : Nat} {b : List UInt8} {f : Nat} {l : List Val} {B : Option Addr} {cB : Nat} {L : Option Addr} {cL : Nat} {z : Int}
end
end Go.Proofs.YtgmbkcjihgphmaaGreat
/- towlineref02.Encode. -/
namespace Go.Proofs.YtgmbkcjihgphmaaGreat
open Go.RowKit
attribute [local go_sem ↓] cvt_eq
def RefEnc (w : World) (r : Res (List UInt8)) (e : Ending) (w' : World) : Prop :=
 Below w.heap.size w w' ∧ match r with
  | .ok o => e = .returned (.tuple #[.string (strL o), .int .i64 0])
  | .error z => e = .returned (.tuple #[.string (strL []), .int .i64 z])
end Go.Proofs.YtgmbkcjihgphmaaGreat
/- towlineref02.head: a head read at a place of a string. -/
namespace Go.Proofs.YtgmbkcjihgphmaaGreat
open Go.RowKit
theorem list_at (s : ByteArray) (k : Nat) (hk : k < s.size) : s.data.toList.drop k = (s[k]'hk) :: s.data.toList.drop (k + 1) :=
 List.drop_eq_getElem_cons (by simpa using hk)
def HeadAt (w : World) (s : ByteArray) (i : Nat) (r : Res (Nat × Nat × List UInt8)) (e : Ending) (w' : World) : Prop :=
 Below w.heap.size w w' ∧ match r with
  | .ok (k, n, q) => e = .returned (.tuple #[.int .i64 (k : Int), .int .u64 (n : Int), .int .i64 ((s.size - q.length : Nat) : Int), .int .i64 0])
  | .error z => e = .returned (.tuple #[.int .i64 0, .int .u64 0, .int .i64 (i : Int), .int .i64 z])
theorem results_tmp4 {fn : Func} {t u v x : Tmp} (h : fn.results = #[.tmp t, .tmp u, .tmp v, .tmp x]) (tmps : Array Value) (P : Program) (w : World) :
  (results fn tmps).run P w = .ok (.tuple #[tmps.getD t undef, tmps.getD u undef, tmps.getD v undef, tmps.getD x undef]) w := by
 simp [results, h]
theorem headAt_ok {w w' : World} {s : ByteArray} {i j k n : Nat} {q : List UInt8} {r : Res (Nat × Nat × List UInt8)} (h : Below w.heap.size w w') (hr : r = .ok (k, n, q)) (hj : s.size - q.length = j) :
  HeadAt w s i r (.returned (.tuple #[.int .i64 (k : Int), .int .u64 (n : Int), .int .i64 (j : Int), .int .i64 0])) w' := by
 subst hr hj
 exact ⟨h, rfl⟩
theorem headAt_err {w w' : World} {s : ByteArray} {i : Nat} {z : Int} {r : Res (Nat × Nat × List UInt8)} (h : Below w.heap.size w w') (hr : r = .error z) :
  HeadAt w s i r (.returned (.tuple #[.int .i64 0, .int .u64 0, .int .i64 (i : Int), .int .i64 z])) w' := by
 subst hr
 exact ⟨h, rfl⟩
set_option maxRecDepth 100000 in
set_option maxHeartbeats 2000000 in
theorem refHeadAt_any (q0 : ByteArray) (i : Nat) (w : World) (hi : i ≤ q0.size) (hs : q0.size ≤ 1048576) :
  Calls Tryz.prog 103 #[.string q0, .int .i64 (i : Int)] w (HeadAt w q0 i (rdH (q0.data.toList.drop i))) := by
 by_cases hlt : i < q0.size
 ·have hI : ¬ (q0.size : Int) ≤ (i : Int) := by omega
  have hd := list_at q0 i hlt
  obtain ⟨x, hx⟩ : ∃ x, x = q0[i]'hlt := ⟨_, rfl⟩
  have hx' := hx.symm
  rw [← hx] at hd
  obtain ⟨r, hr⟩ : ∃ r, r = q0.data.toList.drop (i + 1) := ⟨_, rfl⟩
  rw [← hr] at hd
  have hRR : rdH (x :: r) = match rdT 5 (x.toNat / 4 % 32) x r with | .ok (n, q) => .ok (x.toNat % 4, n, q) | .error e => .error e := rfl
  obtain ⟨RR, hRR2⟩ : ∃ RR, RR = rdT 5 (x.toNat / 4 % 32) x r := ⟨_, rfl⟩
  rw [← hRR2] at hRR
  rw [hd]
  obtain ⟨kk, hkk⟩ : ∃ kk, kk = x.toNat % 4 := ⟨_, rfl⟩
  obtain ⟨nn, hnn⟩ : ∃ nn, nn = x.toNat / 4 % 32 := ⟨_, rfl⟩
  rw [← hkk] at hRR
  rw [← hnn] at hRR2
  have hnn32 : nn < 2 ^ 5 := by omega
  have hkk4 : kk < 4 := by omega
  have HRR := Lib.hid hRR
  have HR2 := Lib.hid hRR2.symm
  have HD0 := Lib.hid hd
  have HR := Lib.hid hr
  have e1 : (x.toNat : Int) % 4 = (kk : Int) := by omega
  have e2 : (x.toNat : Int) / 4 % 32 = (nn : Int) := by omega
  have hx256 := u8_lt x
  clear hRR hRR2 hkk hnn hd hr hx
  go_enter Tryz.func103, Tryz.ntmps103
  go_wp2_with fail
  clear e1 e2
  go_loopw [8, 10, 11, 12] (fun s8 s10 s11 s12 wr => ∃ (y : UInt8) (q k pl s : Nat), s8 = .int .i64 (y.toNat : Int) ∧ s10 = .int .u64 (q : Int) ∧ s11 = .int .u64 (pl : Int) ∧ s12 = .int .i64 (k : Int) ∧ Hid (s + 2 = 7 * k) ∧ 1 ≤ k ∧ k ≤ 10 ∧ i + k ≤ q0.size ∧ Hid (rdT s q y (q0.data.toList.drop (i + k)) = RR) ∧ Hid (pl = 2 ^ s % 2 ^ 64) ∧ (k ≤ 9 ∨ y.toNat < 128) ∧ Hid (k ≤ 9 → q < 2 ^ s) ∧ q < 2 ^ 64 ∧ pl < 2 ^ 64 ∧ Below w.heap.size w wr)
   (fun s8 s10 s11 s12 wr => 100 - (intOf s12).toNat)
  case atStart => exact ⟨x, nn, 1, 32, 5, rfl, rfl, rfl, rfl, Lib.hid rfl, by omega, by omega, by omega, by rw [← HR.out]; exact HR2, Lib.hid (by decide), .inl (by omega), Lib.hid (fun _ => hnn32), by omega, by omega, Below.refl _ _⟩
  case round =>
   obtain ⟨y, q, k, pl, s, rfl, rfl, rfl, rfl, HSK, hk1, hk10, hik, HD, HP, hk9, HQ, hq64, hpl64, hbl⟩ := hrel
   have hy256 := u8_lt y
   by_cases hy : y.toNat < 128
   ·have hyI : ¬ (128 : Int) ≤ (y.toNat : Int) := by omega
    have hrt := HD.out
    rw [rdT_end hy] at hrt
    have HRT := Lib.hid hrt
    have hb : rdH (x :: r) = .ok (kk, q, q0.data.toList.drop (i + k)) := by rw [HRR.out, ← hrt]
    obtain ⟨hb1, hb2, hb3⟩ := rdH_back hb
    rw [← HD0.out] at hb1
    have hln : (headL kk q).length = k := by
     have := congrArg List.length hb1
     simp at this
     omega
    obtain ⟨j, hj⟩ : ∃ j, j = i + k := ⟨_, rfl⟩
    have HPOST := Lib.hid (fun w' (h : Below w.heap.size w w') => headAt_ok (s := q0) (i := i) h hb (show q0.size - (q0.data.toList.drop (i + k)).length = j by simp; omega))
    have HC := Lib.hid (fun w => refHead_any kk q w hkk4 hb3)
    obtain ⟨S, hS⟩ : ∃ S, S = strL (headL kk q) := ⟨_, rfl⟩
    have hSz : S.size = k := by rw [hS, strL_size, hln]
    rw [← hS] at HC
    clear hrt HD hb hb1 hb2 hln hS HRR HRT
    have hsum : (i : Int) + (k : Int) = (j : Int) := by omega
    have hsum2 : j ≤ 1048576 := by omega
    clear hj
    go_wp2_with fail
    refine (HC.out _).mono ?_
    rintro e w2 ⟨rfl, hb2⟩
    have hbb := hbl.trans (hb2.mono hbl.size)
    go_wp2_with fail
    (try simp only [Exit.inBlock, Exit.then])
    refine bodyPost_ret (results_tmp4 rfl _ _ _) rfl ?_
    exact HPOST.out _ hbb
   ·have hyI : (128 : Int) ≤ (y.toNat : Int) := by omega
    have hk : k ≤ 9 := by omega
    by_cases hend : i + k < q0.size
    ·have hcmp : ¬ (q0.size : Int) ≤ (i : Int) + (k : Int) := by omega
     have hix0 : (0 : Int) ≤ (i : Int) + (k : Int) := by omega
     have hix1 : (i : Int) + (k : Int) < (q0.size : Int) := by omega
     have hixn : ((i : Int) + (k : Int)).toNat = i + k := by omega
     have hat := list_at q0 (i + k) hend
     obtain ⟨y2, hy2⟩ : ∃ y2, y2 = q0[i + k]'hend := ⟨_, rfl⟩
     rw [← hy2] at hat
     have hy2' := hy2.symm
     have hrt := HD.out
     rw [hat, rdT_more hy] at hrt
     have HRT := Lib.hid hrt
     have hy2256 := u8_lt y2
     clear hrt HD hat hy2
     by_cases hbad : y2.toNat = 0 ∨ (s = 61 ∧ 7 < y2.toNat)
     ·have hrt := HRT.out
      rw [if_pos hbad] at hrt
      have HPOST := Lib.hid (fun w' (h : Below w.heap.size w w') => headAt_err (s := q0) (i := i) h (show rdH (x :: r) = .error 21 by rw [HRR.out, ← hrt]))
      clear hrt HRT HRR
      by_cases h0 : y2.toNat = 0
      ·have e0 : ((y2.toNat : Int) == 0) = true := by simp [h0]
       have e1 : (y2.toNat : Int) = 0 := by omega
       clear hbad
       go_wp2_with fail
       (try simp only [Exit.inBlock, Exit.then])
       refine bodyPost_ret (results_tmp4 rfl _ _ _) rfl ?_
       exact HPOST.out _ hbl
      ·have e0 : ((y2.toNat : Int) == 0) = false := by simp [h0]
       have h9 := Lib.hid (show k = 9 by have := HSK.out; omega)
       have e61 : ((k : Int) == 9) = true := by have := h9.out; simp; omega
       have h7 : (7 : Int) < (y2.toNat : Int) := by omega
       clear hbad h0
       go_wp2_with fail
       (try simp only [Exit.inBlock, Exit.then])
       refine bodyPost_ret (results_tmp4 rfl _ _ _) rfl ?_
       exact HPOST.out _ hbl
     ·have hrt := HRT.out
      rw [if_neg hbad] at hrt
      have hsk := HSK.out
      have hp := HP.out
      have hqs := HQ.out hk
      have hsle : s ≤ 61 := by omega
      have hpow : (2 : Nat) ^ s ≤ 2 ^ 61 := Nat.pow_le_pow_right (by omega) hsle
      have hple : pl = 2 ^ s := by rw [hp]; omega
      obtain ⟨z2, hz2⟩ : ∃ z2, z2 = y2.toNat % 128 := ⟨_, rfl⟩
      rw [← hz2] at hrt
      have hzl : z2 < 128 := by omega
      have hV64 : q + z2 * 2 ^ s < 2 ^ 64 := by
       by_cases h61 : s = 61
       ·subst h61
        have : z2 ≤ 7 := by omega
        have := Nat.mul_le_mul_right (2 ^ 61) this
        omega
       ·have h54 : s ≤ 54 := by omega
        have h1 : (2 : Nat) ^ s ≤ 2 ^ 54 := Nat.pow_le_pow_right (by omega) h54
        have h2 := Nat.mul_le_mul (show z2 ≤ 127 by omega) h1
        omega
      have hV7 : q + z2 * 2 ^ s < 2 ^ (s + 7) := by
       have h1 : z2 * 2 ^ s ≤ 127 * 2 ^ s := Nat.mul_le_mul_right _ (by omega)
       rw [Nat.pow_add]; omega
      have hpl2 : pl * 128 % 2 ^ 64 = 2 ^ (s + 7) % 2 ^ 64 := by rw [hple, Nat.pow_add]
      rw [← hple] at hrt hV64 hV7
      obtain ⟨T, hT⟩ : ∃ T, T = z2 * pl := ⟨_, rfl⟩
      have hTI : (z2 : Int) * (pl : Int) = (T : Int) := by rw [hT]; simp
      rw [← hT] at hrt hV64 hV7
      obtain ⟨V, hV⟩ : ∃ V, V = q + T := ⟨_, rfl⟩
      have hVI : (q : Int) + (T : Int) = (V : Int) := by omega
      rw [← hV] at hV64 hV7 hrt
      obtain ⟨pl2, hpl2e⟩ : ∃ pl2, pl2 = pl * 128 % 2 ^ 64 := ⟨_, rfl⟩
      have HP2 := Lib.hid (hpl2e.trans hpl2)
      have hpl264 : pl2 < 2 ^ 64 := by omega
      have hplI : IntKind.u64.wrap ((pl : Int) * 128) = (pl2 : Int) := by rw [wrap_u64]; omega
      have HRN := Lib.hid (show rdT (s + 7) V y2 (q0.data.toList.drop (i + (k + 1))) = RR from hrt)
      have HQ2 : Hid (k + 1 ≤ 9 → V < 2 ^ (s + 7)) := Lib.hid (fun _ => hV7)
      have HSK2 : Hid (s + 7 + 2 = 7 * (k + 1)) := Lib.hid (by omega)
      have hk92 : k + 1 ≤ 9 ∨ y2.toNat < 128 := by
       by_cases h61 : k = 9
       ·right; omega
       ·left; omega
      have e0 : ((y2.toNat : Int) == 0) = false := by simp; omega
      have em : (y2.toNat : Int) % 128 = (z2 : Int) := by omega
      have hT64 : T < 2 ^ 64 := by omega
      have hk9b : k ≠ 9 ∨ ¬ 7 < y2.toNat := by omega
      clear hrt HRT hT hV hz2 hp hqs HQ hV7 hsk hpow hple hpl2 hpl2e hbad HRR
      by_cases h61 : k = 9
      ·have e61 : ((k : Int) == 9) = true := by simp [h61]
       have h7 : ¬ (7 : Int) < (y2.toNat : Int) := by omega
       have HS := Lib.hid h61
       clear h61 hk9b
       go_wp2_with fail
       go_roundw
       case rel => exact ⟨y2, V, k + 1, pl2, s + 7, rfl, rfl, rfl, by go_num, HSK2, by omega, by omega, by omega, HRN, HP2, hk92, HQ2, hV64, hpl264, hbl⟩
       case measure => simp [intOf]; omega
      ·have e61 : ((k : Int) == 9) = false := by simp; omega
       clear hk9b
       go_wp2_with fail
       go_roundw
       case rel => exact ⟨y2, V, k + 1, pl2, s + 7, rfl, rfl, rfl, by go_num, HSK2, by omega, by omega, by omega, HRN, HP2, hk92, HQ2, hV64, hpl264, hbl⟩
       case measure => simp [intOf]; omega
    ·have hcmp : (q0.size : Int) ≤ (i : Int) + (k : Int) := by omega
     have hz : q0.data.toList.drop (i + k) = [] := List.drop_of_length_le (by simp; omega)
     have hrt := HD.out
     rw [hz, rdT_short hy] at hrt
     have HPOST := Lib.hid (fun w' (h : Below w.heap.size w w') => headAt_err (s := q0) (i := i) h (show rdH (x :: r) = .error 20 by rw [HRR.out, ← hrt]))
     clear hrt HD HRR hz
     go_wp2_with fail
     (try simp only [Exit.inBlock, Exit.then])
     refine bodyPost_ret (results_tmp4 rfl _ _ _) rfl ?_
     exact HPOST.out _ hbl
 ·have hI : (q0.size : Int) ≤ (i : Int) := by omega
  have hz : q0.data.toList.drop i = [] := List.drop_of_length_le (by simp; omega)
  rw [hz]
  clear hz
  go_enter Tryz.func103, Tryz.ntmps103
  go_wp2_with fail
  (try simp only [Exit.inBlock, Exit.then])
  refine bodyPost_ret (results_tmp4 rfl _ _ _) rfl ?_
  exact headAt_err (Below.refl _ _) rfl
end Go.Proofs.YtgmbkcjihgphmaaGreat
