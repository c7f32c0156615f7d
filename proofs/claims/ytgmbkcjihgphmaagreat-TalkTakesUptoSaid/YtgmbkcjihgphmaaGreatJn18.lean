/- Contracts and laws for what the statement reaches, joined: TalkPush, TalkReachP, TalkReach. -/
import Derived.Test.YtgmbkcjihgphmaaGreatJn17
/- the marks' push: a record is begun, once. -/
set_option linter.unusedVariables false
set_option linter.unusedSimpArgs false
namespace Go.Proofs.YtgmbkcjihgphmaaGreat
open Go.RowKit
attribute [local go_sem ↓] bsPlc_eq
abbrev Ids := List (List UInt8)
/-- a record is begun: what was begun, the stack, top first -/
def pushP (S : List UInt8 → Option (List UInt8)) (id : List UInt8) (B : Ids) (st : List PlcT) : Except Int (Ids × List PlcT) :=
 if B.contains id = true then .ok (B, st) else match S id with
  | none => .error 4
  | some b => match linksG b with
   | .ok l => .ok (id :: B, (id, l) :: st)
   | .error z => .error z
def SeenM (M : IM) (B : Ids) : Prop := ∀ id, M.get id = if B.contains id = true then some (.int .i64 1) else none
def PushPost (w : World) (base : Nat) (T : TypeId) (V : Value) (bm gm ms bs : Nat) (Ao : Option Addr) (mo co : Nat) (out : Ids) (R : Except Int (Ids × List PlcT)) (e : Ending) (w' : World) : Prop :=
 Below base w w' ∧ match R with
  | .ok x => e = .returned (.int .i64 0) ∧ ∃ M A n c, MK w' base T V bm gm ms bs M A n c x.2 Ao mo co out ∧ SeenM M x.1
  | .error z => e = .returned (.int .i64 z) ∧ z ≠ 0
theorem SeenM.set {M : IM} {B : Ids} (h : SeenM M B) (id : List UInt8) : SeenM (M.set id (.int .i64 1)) (id :: B) := fun x => by
 rw [IM.get_set, h x, List.contains_cons]
 by_cases hx : id = x
 ·subst hx; simp
 ·have h1 : (id == x) = false := by simpa using hx
  have h2 : (x == id) = false := by simpa using fun e => hx e.symm
  simp [h1, h2]
theorem step_mapEntry {P : Program} {Q : Exit → Act → World → Prop} {o : Oper} {a : Act} {w w' : World} {K : Act → World → Prop} {E : Prop} (hgd : o.guard = none) (x y : Operand) {ty : TypeId} (ho : o.op = .mapEntry ty x y)
  {vx vy v : Value} (hx : a.eval x = vx) (hy : a.eval y = vy) (hr : (Instr.mapEntry ty vx vy).run P w = .ok v w') (h : K (a.put o.dst v) w') :
  ∀ {ops : Array Oper}, if Region.wanted o (yielded ops a.tmps) = true then Oper.wp P o a w K Q else E := by
 intro ops
 have hw : Region.wanted o (yielded ops a.tmps) = true := by simp [Region.wanted, hgd]
 rw [if_pos hw]
 unfold Oper.wp execOp
 simp only [ho, hx, hy, Sem.run_bind, Sem.run_pure, Result.andThen_ok, hr]
 exact h
theorem step_entryStore {P : Program} {Q : Exit → Act → World → Prop} {o : Oper} {a : Act} {w w' : World} {K : Act → World → Prop} {E : Prop} (hgd : o.guard = none) (x y z : Operand) {ty : TypeId} (ho : o.op = .entryStore ty x y z)
  {vx vy vz : Value} (hx : a.eval x = vx) (hy : a.eval y = vy) (hz : a.eval z = vz) (hr : (Instr.entryStore ty vx vy vz).run P w = .ok () w') (h : K (a.put o.dst undef) w') :
  ∀ {ops : Array Oper}, if Region.wanted o (yielded ops a.tmps) = true then Oper.wp P o a w K Q else E := by
 intro ops
 have hw : Region.wanted o (yielded ops a.tmps) = true := by simp [Region.wanted, hgd]
 rw [if_pos hw]
 unfold Oper.wp execOp
 simp only [ho, hx, hy, hz, Sem.run_bind, Sem.run_pure, Result.andThen_ok, hr]
 exact h
theorem zeroInt (w : World) : (zeroValue 3).run Tryz.prog w = .ok (.int .i64 0) w := by kernel_rfl
/-- as long as the entry has not got its number -/
structure EC (wq w : World) (ms : Nat) (id : List UInt8) : Prop where
 grown : wq.grownBy w (some ms)
 look : ∃ M, MapW w ms M ∧ (M.get id).getD (.int .i64 0) = .int .i64 0
set_option maxRecDepth 100000 in
set_option maxHeartbeats 8000000 in
theorem push_any {T : TypeId} {V : Value} {K : Nat} {S : List UInt8 → Option (List UInt8)} {base bm gm ms bs : Nat} {M : IM} {A : Option Addr} {n c : Nat} {st : List PlcT} {Ao : Option Addr} {mo co : Nat} {out B : Ids} (W0 w : World) (hS : SrcK W0 T V K S) (hB : Below W0.heap.size W0 w) (hbase : W0.heap.size ≤ base)
  (h : MK w base T V bm gm ms bs M A n c st Ao mo co out) (hM : SeenM M B) (id : List UInt8) (hid : id.length = 32) (hn : n ≤ 1000000000) :
  Calls Tryz.prog 85 #[idV id, .pointer (some ⟨bm, 0, none⟩), .pointer (some ⟨bs, 0, none⟩)] w (PushPost w base T V bm gm ms bs Ao mo co out (pushP S id B st)) := by
 have hnil := hS.nil
 have hmet := hS.meth
 have hcall := hS.call
 obtain ⟨KI, hKI⟩ : ∃ KI, KI = (bytesV id).toArray := ⟨_, rfl⟩
 have HII := Lib.hid (show (Tryz.prog.info? 33).map (·.size) = some KI.size by rw [hKI]; exact oid_size hid)
 have HSR := Lib.hid (fun w hw => hS.get w hw id hid)
 rw [show idV id = .agg KI by rw [hKI]] at HSR ⊢
 obtain ⟨w1, hw1⟩ : ∃ w1, w1 = w.alloc (.cells KI 33) := ⟨_, rfl⟩
 have HB1 := Lib.hid (show Below w.heap.size w w1 by rw [hw1]; exact (Below.refl _ _).alloc (Nat.le_refl _) _)
 have HK1 := Lib.hid (show Blk w1 w.heap.size 33 KI by rw [hw1]; exact Blk.new w _ _)
 have HM1 := Lib.hid (h.go HB1.out)
 have HBS := Lib.hid (show Below base w w1 from HB1.out.mono h.size)
 have HBW := Lib.hid (hB.trans (HB1.out.mono hB.size))
 have HBASE := Lib.hid hbase
 have HBW0 := Lib.hid hB
 have HSZ := Lib.hid h.size
 have HW := Lib.hid hw1
 have HSEEN := Lib.hid hM
 have HID := Lib.hid hid
 have HN := Lib.hid hn
 have HKI := Lib.hid hKI
 have HCB := Lib.hid (show w1.cell? ⟨bm, 0, none⟩ = some (.pointer (some ⟨gm, 0, none⟩)) from HM1.out.box.cell 0)
 have HCM := Lib.hid (show w1.cell? ⟨gm, 1, none⟩ = some (.map (some ms)) from HM1.out.mrk.cell 1)
 have hbl := HM1.out.box.lt
 have hgl := HM1.out.mrk.lt
 have hwl : w.heap.size < w1.heap.size := HK1.out.lt
 have hdr : Below w1.heap.size w1 w1.drew := Same.below ⟨1, rfl⟩ _
 have HDR := Lib.hid hdr
 obtain ⟨R, hR⟩ : ∃ R, R = pushP S id B st := ⟨_, rfl⟩
 have HR := Lib.hid hR
 rw [← hR]
 have HLK := Lib.hid (fun w' (hb : Below w1.heap.size w1 w') => by
  have h1 := (HM1.out.map.below hb).lookup hid Tryz.underlying135 (zeroInt w') false
  rw [show idV id = .agg KI by rw [hKI], HSEEN.out id] at h1
  exact h1)
 clear hS hB h hKI hw1 hR hid hM hbase
 cases hc : B.contains id with
 | true =>
  have HLK2 := Lib.hid (fun w' hb => show (Instr.lookup 135 (.map (some ms)) (.agg KI) false).run Tryz.prog w' = .ok (.int .i64 1) w' by
   have := HLK.out w' hb
   rw [hc] at this
   exact this)
  have HR2 := Lib.hid (show R = .ok (B, st) by rw [HR.out]; unfold pushP; rw [if_pos hc])
  clear HLK hc HR HSR HBW hdr
  go_enter Tryz.func85, Tryz.ntmps85
  go_upto_region 1 with fail
  rw [← HW.out]
  clear HW
  generalize hgw : w.heap.size = gw at *
  refine wp_region_held (S := fun w' => Below w1.heap.size w1 w') (by kernel_rfl) ?_
  change wpAnyH _ _ _ _ _ _ _ _ (World.drew _)
  refine rgU 0 (v := ?_) (a' := ?_) HDR.out ?_ ?_ ?_
  rotate_left 2
  ·(intro w hS; have t := (hS.cell (p := ⟨bm, 0, none⟩) hbl).trans HCB.out; go_simp; try with_reducible rfl)
  ·(go_simp; try with_reducible rfl)
  refine rgT 1 HDR.out ?_
  refine rgT 2 HDR.out ?_
  refine rgU 3 (v := ?_) (a' := ?_) HDR.out ?_ ?_ ?_
  rotate_left 2
  ·(intro w hS; have t := (hS.cell (p := ⟨gm, 1, none⟩) hgl).trans HCM.out; go_simp; try with_reducible rfl)
  ·(go_simp; try with_reducible rfl)
  refine rgU 4 (v := ?_) (a' := ?_) HDR.out ?_ ?_ ?_
  rotate_left 2
  ·(intro w hS; refine exec_load_at 33 (.tmp 3) ?_ gw 0 ?_ KI _ (At.of_row (HK1.out.below hS hwl)) Tryz.underlying33 rfl HII.out; exact rfl; exact rfl)
  ·(go_simp; try with_reducible rfl)
  refine rgU 5 (v := ?_) (a' := ?_) HDR.out ?_ ?_ ?_
  rotate_left 2
  ·(intro w hS; have t := HLK2.out w hS; go_simp; try with_reducible rfl)
  ·(go_simp; try with_reducible rfl)
  refine rgT 6 HDR.out ?_
  refine wpAnyH_done (by kernel_rfl) ?_ _
  go_wp2_with fail
  go_ret
  rw [HR2.out]
  exact ⟨HBS.out.trans (HDR.out.mono (Nat.le_trans HSZ.out (Nat.le_of_lt hwl))), rfl, M, A, n, c, HM1.out.go HDR.out, HSEEN.out⟩
 | false =>
  have HLK2 := Lib.hid (fun w' hb => show (Instr.lookup 135 (.map (some ms)) (.agg KI) false).run Tryz.prog w' = .ok (.int .i64 0) w' by
   have := HLK.out w' hb
   rw [hc] at this
   exact this)
  have HR2 := Lib.hid (show R = match S id with
   | none => .error 4
   | some b => match linksG b with
    | .ok l => .ok (id :: B, (id, l) :: st)
    | .error z => .error z by rw [HR.out]; unfold pushP; rw [hc]; rfl)
  clear HLK hc HR hdr
  go_enter Tryz.func85, Tryz.ntmps85
  go_upto_region 1 with fail
  rw [← HW.out]
  clear HW
  generalize hgw : w.heap.size = gw at *
  have HGW := Lib.hid hgw
  clear hgw
  refine wp_region_held (S := fun w' => Below w1.heap.size w1 w') (by kernel_rfl) ?_
  change wpAnyH _ _ _ _ _ _ _ _ (World.drew _)
  refine rgU 0 (v := ?_) (a' := ?_) HDR.out ?_ ?_ ?_
  rotate_left 2
  ·(intro w hS; have t := (hS.cell (p := ⟨bm, 0, none⟩) hbl).trans HCB.out; go_simp; try with_reducible rfl)
  ·(go_simp; try with_reducible rfl)
  refine rgT 1 HDR.out ?_
  refine rgT 2 HDR.out ?_
  refine rgU 3 (v := ?_) (a' := ?_) HDR.out ?_ ?_ ?_
  rotate_left 2
  ·(intro w hS; have t := (hS.cell (p := ⟨gm, 1, none⟩) hgl).trans HCM.out; go_simp; try with_reducible rfl)
  ·(go_simp; try with_reducible rfl)
  refine rgU 4 (v := ?_) (a' := ?_) HDR.out ?_ ?_ ?_
  rotate_left 2
  ·(intro w hS; refine exec_load_at 33 (.tmp 3) ?_ gw 0 ?_ KI _ (At.of_row (HK1.out.below hS hwl)) Tryz.underlying33 rfl HII.out; exact rfl; exact rfl)
  ·(go_simp; try with_reducible rfl)
  refine rgU 5 (v := ?_) (a' := ?_) HDR.out ?_ ?_ ?_
  rotate_left 2
  ·(intro w hS; have t := HLK2.out w hS; go_simp; try with_reducible rfl)
  ·(go_simp; try with_reducible rfl)
  refine rgT 6 HDR.out ?_
  refine wpAnyH_done (by kernel_rfl) ?_ _
  go_upto_region 3 with fail
  obtain ⟨wq, hwq⟩ : ∃ wq, wq = w1.drew.drew := ⟨_, rfl⟩
  have HQ := Lib.hid (show Below w1.heap.size w1 wq by rw [hwq]; exact Same.below ⟨2, rfl⟩ _)
  have HMQ := Lib.hid (HM1.out.go HQ.out)
  have HKQ := Lib.hid (HK1.out.below HQ.out hwl)
  have HNB := Lib.hid (show some bm ≠ some ms from fun e => blk_map HMQ.out.box HMQ.out.map (Option.some.inj e))
  have HNG := Lib.hid (show some gm ≠ some ms from fun e => blk_map HMQ.out.mrk HMQ.out.map (Option.some.inj e))
  have HNW := Lib.hid (show some gw ≠ some ms from fun e => blk_map HKQ.out HMQ.out.map (Option.some.inj e))
  have HEC := Lib.hid (show EC wq wq ms id from ⟨grown_refl _ _, M, HMQ.out.map, by
   have h1 := HMQ.out.map.lookup HID.out Tryz.underlying135 (zeroInt wq) false
   have h2 := HLK2.out wq HQ.out
   rw [show idV id = .agg KI by rw [HKI.out]] at h1
   rw [h2] at h1
   injection h1 with h1
   exact h1.symm⟩)
  have HEL := Lib.hid (fun w' (hE : EC wq w' ms id) => show (Instr.lookup 135 (.map (some ms)) (.agg KI) false).run Tryz.prog w' = .ok (.int .i64 0) w' by
   obtain ⟨M', h1, h2⟩ := hE.look
   have h3 := h1.lookup HID.out Tryz.underlying135 (zeroInt w') false
   rw [h2, show idV id = .agg KI by rw [HKI.out]] at h3
   exact h3)
  obtain ⟨w2, s, hent, hmw2, hea2, hg2, _⟩ := HMQ.out.map.entry HID.out Tryz.underlying135 (zeroInt wq)
  obtain ⟨w3, hsto, hmw3, hg3, _⟩ := hmw2.entryStore (t := 135) hea2 (.int .i64 1)
  rw [show idV id = .agg KI by rw [HKI.out]] at hent
  have hz0 : (M.get id).getD (.int .i64 0) = .int .i64 0 := by
   have h1 := HMQ.out.map.lookup HID.out Tryz.underlying135 (zeroInt wq) false
   have h2 := HLK2.out wq HQ.out
   rw [show idV id = .agg KI by rw [HKI.out]] at h1
   rw [h2] at h1
   injection h1 with h1
   exact h1.symm
  rw [hz0] at hent hmw2 hmw3
  have hc7 : EC wq w2 ms id := ⟨hg2, _, hmw2, by rw [IM.get_set]; simp⟩
  have HM3 := Lib.hid (show MK w3 base T V bm gm ms bs (M.set id (.int .i64 1)) A n c st Ao mo co out from HMQ.out.turn_map (grown_trans hg2 hg3) (by
   rw [IM.set_set _ _ _ _ HMQ.out.map.nodup] at hmw3
   exact hmw3))
  have HSN := Lib.hid (HSEEN.out.set id)
  have HG3 := Lib.hid (grown_trans hg2 hg3)
  have HB3 := Lib.hid (show Below base w w3 from (HBS.out.trans (HQ.out.mono (by have := HSZ.out; omega))).trans (HMQ.out.below_map (grown_trans hg2 hg3)))
  have HK3 := Lib.hid (HKQ.out.grown HG3.out HNW.out)
  have HWQ := Lib.hid hwq
  have hsI : (0 : Int) + 1 = 1 := rfl
  clear hwq hmw2 hmw3 hea2 hg2 hg3 HSEEN HLK2 HM1 HK1 hz0 HCB HCM HB1 HBS
  refine wp_region_late (S := fun w' => EC wq w' ms id) (s := 9) (by kernel_rfl) ?_
  change wpAnyL _ _ _ _ _ _ _ _ _ (World.drew _)
  rw [← HWQ.out]
  refine late_load (i := 0) (m := 0) (v := ?_) (a' := ?_) rfl (by kernel_rfl) (by kernel_rfl) (by kernel_rfl) (by kernel_rfl) (by rfl) (fun _ _ _ h => h) (by rfl) HEC.out ?_ ?_ ?_
  rotate_left 2
  ·(intro w hS; have t := ((HMQ.out.box.grown hS.grown HNB.out).cell 0); go_simp; try with_reducible rfl)
  ·(go_simp; try with_reducible rfl)
  refine rgL 1 rfl (fun _ _ _ h => h) (fun _ => HEC.out) ?_
  refine rgL 2 rfl (fun _ _ _ h => h) (fun _ => HEC.out) ?_
  refine late_load (i := 3) (m := 3) (v := ?_) (a' := ?_) rfl (by kernel_rfl) (by kernel_rfl) (by kernel_rfl) (by kernel_rfl) (by rfl) (fun _ _ _ h => h) (by rfl) HEC.out ?_ ?_ ?_
  rotate_left 2
  ·(intro w hS; have t := ((HMQ.out.mrk.grown hS.grown HNG.out).cell 1); go_simp; try with_reducible rfl)
  ·(go_simp; try with_reducible rfl)
  refine late_load (i := 4) (m := 4) (v := ?_) (a' := ?_) rfl (by kernel_rfl) (by kernel_rfl) (by kernel_rfl) (by kernel_rfl) (by rfl) (fun _ _ _ h => h) (by rfl) HEC.out ?_ ?_ ?_
  rotate_left 2
  ·(intro w hS; refine exec_load_at 33 (.tmp 3) ?_ gw 0 ?_ KI _ (At.of_row (HKQ.out.grown hS.grown HNW.out)) Tryz.underlying33 rfl HII.out; exact rfl; exact rfl)
  ·(go_simp; try with_reducible rfl)
  refine late_load (i := 5) (m := 5) (v := ?_) (a' := ?_) rfl (by kernel_rfl) (by kernel_rfl) (by kernel_rfl) (by kernel_rfl) (by rfl) (fun _ _ _ h => h) (by rfl) HEC.out ?_ ?_ ?_
  rotate_left 2
  ·(intro w hS; have t := HEL.out w hS; go_simp; try with_reducible rfl)
  ·(go_simp; try with_reducible rfl)
  refine rgL 6 rfl (fun _ _ _ h => h) (fun _ => HEC.out) ?_
  refine late_one (i := 7) (by kernel_rfl) rfl (fun KR hKR => ?_)
  refine step_mapEntry rfl (.tmp 18) (.tmp 19) rfl rfl rfl hent ?_
  refine hKR _ _ (fun _ => hc7) ?_
  clear hKR KR
  refine rgL 8 rfl (fun _ _ _ h => h) (fun _ => hc7) ?_
  refine late_one (i := 9) (by kernel_rfl) rfl (fun KR hKR => ?_)
  refine step_entryStore rfl (.tmp 18) (.tmp 23) (.tmp 21) rfl rfl rfl rfl hsto ?_
  refine hKR _ _ (fun h0 => Bool.noConfusion (show (true : Bool) = false from h0)) ?_
  clear hKR KR
  refine late_done' (by kernel_rfl) ?_ _
  go_upto_region 4 with fail
  clear hent hsto HEC HEL hc7 HMQ HKQ HNB HNG HNW
  obtain ⟨wd, hwd⟩ : ∃ wd, wd = w3.drew := ⟨_, rfl⟩
  have hdd : Below w3.heap.size w3 wd := by rw [hwd]; exact Same.below ⟨1, rfl⟩ _
  have HMD := Lib.hid (HM3.out.go hdd)
  have HKD := Lib.hid (HK3.out.below hdd HK3.out.lt)
  have hgd := HKD.out.lt
  have hbd := HMD.out.box.lt
  have hmd := HMD.out.mrk.lt
  have HBD := Lib.hid (HB3.out.trans (hdd.mono (by have := HSZ.out; have := HB3.out.size; have := HGW.out; omega)))
  have HB0 := Lib.hid (show Below W0.heap.size W0 w from HBW0.out)
  have HCL := Lib.hid (HSR.out wd (HB0.out.trans (HBD.out.mono HBASE.out)))
  have HCB := Lib.hid (show wd.cell? ⟨bm, 0, none⟩ = some (.pointer (some ⟨gm, 0, none⟩)) from HMD.out.box.cell 0)
  have HCI := Lib.hid (show wd.cell? ⟨gm, 0, none⟩ = some (.iface T V) from HMD.out.mrk.cell 0)
  have HWD := Lib.hid hwd
  clear hwd hdd HM3 HK3 HB3 HSR HBW HG3 HQ HB0 HBW0
  refine wp_region_held (S := fun w' => Below wd.heap.size wd w') (by kernel_rfl) ?_
  change wpAnyH _ _ _ _ _ _ _ _ (World.drew _)
  rw [← HWD.out]
  refine rgU 0 (v := ?_) (a' := ?_) (Below.refl _ _) ?_ ?_ ?_
  rotate_left 2
  ·(intro w hS; have t := (hS.cell (p := ⟨bm, 0, none⟩) hbd).trans HCB.out; go_simp; try with_reducible rfl)
  ·(go_simp; try with_reducible rfl)
  refine rgT 1 (Below.refl _ _) ?_
  refine rgT 2 (Below.refl _ _) ?_
  refine rgU 3 (v := ?_) (a' := ?_) (Below.refl _ _) ?_ ?_ ?_
  rotate_left 2
  ·(intro w hS; have t := (hS.cell (p := ⟨gm, 0, none⟩) hmd).trans HCI.out; go_simp; try with_reducible rfl)
  ·(go_simp; try with_reducible rfl)
  refine rgU 4 (v := ?_) (a' := ?_) (Below.refl _ _) ?_ ?_ ?_
  rotate_left 2
  ·(intro w hS; refine exec_load_at 33 (.tmp 3) ?_ gw 0 ?_ KI _ (At.of_row (HKD.out.below hS hgd)) Tryz.underlying33 rfl HII.out; exact rfl; exact rfl)
  ·(go_simp; try with_reducible rfl)
  refine held_ready (rs := [5]) (by kernel_rfl) (by simp) ?_
  refine AllHeld.cons rfl (fun KR hKR => ?_) ?_
  ·go_simp
   refine HCL.out.mono ?_
   intro e w4 hp
   obtain ⟨A2, n2, c2, z2, rfl⟩ := hp.form
   have hc5 := hp.1
   have HP := Lib.hid hp
   refine hKR _ _ hc5 ?_
   clear hKR KR
   refine rgT 6 hc5 ?_
   refine rgT 7 hc5 ?_
   refine rgT 8 hc5 ?_
   refine rgT 9 hc5 ?_
   refine rgT 10 hc5 ?_
   refine wpAnyH_done (by kernel_rfl) ?_ _
   clear hp
   have HM4 := Lib.hid (HMD.out.go hc5)
   have HB4 := Lib.hid (HBD.out.trans (hc5.mono HMD.out.size))
   have HK4 := Lib.hid (HKD.out.below hc5 hgd)
   clear HMD HKD HBD hc5 HCL HCB HCI
   cases hsi : S id with
   | none =>
    have hp := HP.out
    rw [hsi] at hp
    obtain ⟨_, A5, n5, c5, hp⟩ := hp
    injection hp with hp
    injection hp with hp
    have hp : #[Value.slice A2 n2 c2, .int .i64 z2] = #[.slice A5 n5 c5, .int .i64 4] := hp
    have hp := congrArg Array.toList hp
    injection hp with hp1 hp2
    injection hp2 with hp2 _
    injection hp2 with _ hp2
    subst hp2
    have HR3 := Lib.hid (show R = .error 4 by rw [HR2.out, hsi])
    clear hp1 hsi HP HR2
    go_wp2_with fail
    go_ret
    rw [HR3.out]
    exact ⟨HB4.out, rfl, by decide⟩
   | some b =>
    have hp := HP.out
    rw [hsi] at hp
    obtain ⟨_, A5, c5, hp, hs5, hl5, hm5⟩ := hp
    injection hp with hp
    injection hp with hp
    have hp : #[Value.slice A2 n2 c2, .int .i64 z2] = #[.slice A5 b.length c5, .int .i64 0] := hp
    have hp := congrArg Array.toList hp
    injection hp with hp1 hp2
    injection hp2 with hp2 _
    injection hp2 with _ hp2
    subst hp2
    injection hp1 with hp1 hp3 hp4
    subst hp1 hp3 hp4
    have HLN := Lib.hid (links_any A2 b.length c2 b w4 (slOf_bytes hs5) hl5 hm5)
    have HR3 := Lib.hid (show R = match linksG b with
       | .ok l => .ok (id :: B, (id, l) :: st)
       | .error z => .error z by rw [HR2.out, hsi])
    obtain ⟨nb, hnb⟩ : ∃ nb, nb = b.length := ⟨_, rfl⟩
    rw [← hnb] at HLN ⊢
    clear hs5 hl5 hm5 hsi HP HR2 hnb
    obtain ⟨lx, hlx⟩ : ∃ lx, lx = linksG b := ⟨_, rfl⟩
    rw [← hlx] at HLN HR3
    have HER := Lib.hid (fun z (e : lx = .error z) => show z ≠ 0 from linksG_err (hlx.symm.trans e))
    clear hlx
    go_wp2_with fail
    refine HLN.out.mono ?_
    intro e w5 hp
    obtain ⟨⟨A6, c6, rfl, hs6, hl6, hm6⟩, hb6⟩ := hp.lk
    have HM5 := Lib.hid (HM4.out.go hb6)
    have HK5 := Lib.hid (HK4.out.below hb6 HK4.out.lt)
    have HB5 := Lib.hid (HB4.out.trans (hb6.mono HM4.out.size))
    obtain ⟨A7, c7, w7, hrun, b4, hb7, hm7, hb8⟩ := HM5.out.push HID.out hl6 hm6 hs6 (fun b hb => HM4.out.av_lt hb) hn
    obtain ⟨nl, hnl⟩ : ∃ nl, nl = (lkL lx).length := ⟨_, rfl⟩
    obtain ⟨KP, hKP⟩ : ∃ KP, KP = plcK id A6 nl c6 := ⟨_, rfl⟩
    have HBP := Lib.hid (show Tryz.prog.built 175 [(0, .agg KI), (1, .slice A6 nl c6)] = some KP by rw [hKP, HKI.out]; exact built_plc A6 nl c6 id HID.out)
    have hks : KP.size = 33 := by rw [hKP]; exact plcK_size HID.out _ _ _
    have hbp := fun w => bsPlc_of w KP hks
    rw [← hnl, ← hKP] at hrun
    have HCS := Lib.hid (show w5.cell? ⟨bs, 0, none⟩ = some (.slice A n c) from HM5.out.bst.cell 0)
    have HM7 := Lib.hid hm7
    have HB8 := Lib.hid (HB5.out.trans hb8)
    have t1 := b4.cell 0
    have t2 := b4.frozen 0
    have t3 : w5.cell? ⟨bs, 0, none⟩ = some (.slice A n c) := HM5.out.bst.cell 0
    rw [← hnl]
    clear hp hs6 hl6 hm6 hb6 hb7 hm7 hb8 HLN b4 hnl hKP hks HM4 HK4 HB4 HCS
    go_wp2_with (first
     | (refine wpList_load_at rfl _ _ rfl gw 0 rfl KI _ (At.of_row HK5.out) Tryz.underlying33 rfl HII.out ?_)
     | (refine wpList_built2 rfl 175 (.tmp 42) (.tmp 43) rfl KP rfl rfl HBP.out ?_)
     | (refine wpList_build1 rfl (.tmp 44) rfl (.agg KP) _ rfl (hbp _) ?_)
     | (at_builtin; refine wpList_run_append hrun ?_ ?_ ?_; exact rfl; exact rfl) | fail)
    go_ret
    rw [HR3.out]
    cases lx with
    | error z => exact ⟨HB8.out, rfl, HER.out z rfl⟩
    | ok l => exact ⟨HB8.out, rfl, _, _, _, _, HM7.out, HSN.out⟩
  exact AllHeld.nil
end Go.Proofs.YtgmbkcjihgphmaaGreat
/- the marks' reach, plain. -/
namespace Go.Proofs.YtgmbkcjihgphmaaGreat
open Go.RowKit
/-! ### a measure that is not in sight -/
theorem least_ex {p : Nat → Prop} : ∀ n, p n → ∃ m, p m ∧ ∀ k, p k → m ≤ k := fun n => by
 induction n using Nat.strongRecOn with
 | _ n ih =>
  intro hn
  by_cases h : ∃ k, k < n ∧ p k
  ·obtain ⟨k, hk, hp⟩ := h
   exact ih k hk hp
  ·refine ⟨n, hn, fun k hk => ?_⟩
   rcases Nat.lt_or_ge k n with h1 | h1
   ·exact absurd ⟨k, h1, hk⟩ h
   ·exact h1
open Classical in
noncomputable def leastN (p : Nat → Prop) : Nat := if h : ∃ m, p m ∧ ∀ k, p k → m ≤ k then h.choose else 0
theorem leastN_spec {p : Nat → Prop} {n : Nat} (hn : p n) : p (leastN p) ∧ ∀ k, p k → leastN p ≤ k := by
 have h := least_ex n hn
 unfold leastN
 rw [dif_pos h]
 exact h.choose_spec
/-- the marks' loop, plain: n rounds at most -/
def reachP (S : List UInt8 → Option (List UInt8)) : Nat → Ids → List PlcT → Ids → Option (Except Int Ids)
 | 0, _, _, _ => none
 | _ + 1, _, [], out => some (.ok out)
 | n + 1, B, (id, []) :: st, out => reachP S n B st (out ++ [id])
 | n + 1, B, (id, x :: l) :: st, out => match pushP S x B ((id, l) :: st) with
  | .error z => some (.error z)
  | .ok y => reachP S n y.1 y.2 out
def markP (S : List UInt8 → Option (List UInt8)) (n : Nat) (root : List UInt8) : Option (Except Int Ids) := match pushP S root [] [] with
 | .error z => some (.error z)
 | .ok y => reachP S n y.1 y.2 []
theorem pushP_len {S : List UInt8 → Option (List UInt8)} {id : List UInt8} {B : Ids} {st : List PlcT} {y : Ids × List PlcT} (h : pushP S id B st = .ok y) : y.2.length ≤ st.length + 1 := by
 unfold pushP at h
 split at h
 ·injection h with h; subst h; simp
 ·split at h
  ·cases h
  ·split at h
   ·injection h with h; subst h; simp
   ·cases h
end Go.Proofs.YtgmbkcjihgphmaaGreat
/- the marks' reach: all that can be reached from a root. -/
namespace Go.Proofs.YtgmbkcjihgphmaaGreat
open Go.RowKit
attribute [local go_sem ↓] bsId_eq
/-- the loop's head: k rounds are enough -/
def ReachRel (S : List UInt8 → Option (List UInt8)) (w : World) (base : Nat) (T : TypeId) (V : Value) (bm gm ms bs N : Nat) (R : Except Int Ids) (wr : World) (k : Nat) : Prop :=
 ∃ (B : Ids) (st : List PlcT) (out : Ids) (M : IM) (A : Option Addr) (n c : Nat) (Ao : Option Addr) (mo co : Nat), MK wr base T V bm gm ms bs M A n c st Ao mo co out ∧ SeenM M B ∧ Below base w wr ∧ reachP S k B st out = some R ∧ st.length + out.length + k ≤ N + 1
def ReachPost (w : World) (base : Nat) (T : TypeId) (V : Value) (gm ms : Nat) (R : Except Int Ids) (e : Ending) (w' : World) : Prop :=
 Below base w w' ∧ match R with
  | .ok out => e = .returned (.int .i64 0) ∧ ∃ Ao mo co, Blk w' gm 138 #[.iface T V, .map (some ms), .slice Ao mo co] ∧ RowR oidR 33 w' base Ao mo co out
  | .error z => e = .returned (.int .i64 z) ∧ z ≠ 0
set_option maxRecDepth 100000 in
set_option maxHeartbeats 1200000 in
theorem reach_any {T : TypeId} {V : Value} {K : Nat} {S : List UInt8 → Option (List UInt8)} {base gm ms : Nat} (W0 w : World) (hS : SrcK W0 T V K S) (hB : Below W0.heap.size W0 w) (hbase : W0.heap.size ≤ base)
  (hmk : Blk w gm 138 #[.iface T V, .map (some ms), .slice none 0 0]) (hmm : MapW w ms []) (hgm : base ≤ gm) (hms : base ≤ ms) (root : List UInt8) (hid : root.length = 32) (N : Nat) (R : Except Int Ids) (hR : markP S N root = some R) (hN : N ≤ 1000000000) :
  Calls Tryz.prog 59 #[.pointer (some ⟨gm, 0, none⟩), idV root] w (ReachPost w base T V gm ms R) := by
 have hmf : ∀ (fn : Fn) (first cap : Array Value) (w : World), (Instr.makeFunc fn first cap).run Tryz.prog w = .ok (.func fn first cap) w := fun _ _ _ _ => rfl
 have hsz : base ≤ w.heap.size := by have := hmk.lt; omega
 obtain ⟨KI, hKI⟩ : ∃ KI, KI = (bytesV root).toArray := ⟨_, rfl⟩
 have HII := Lib.hid (show (Tryz.prog.info? 33).map (·.size) = some KI.size by rw [hKI]; exact oid_size hid)
 rw [show idV root = .agg KI by rw [hKI]]
 obtain ⟨w1, hw1⟩ : ∃ w1, w1 = w.alloc (.cells #[.pointer (some ⟨gm, 0, none⟩)] 136) := ⟨_, rfl⟩
 have HB1 := Lib.hid (show Below w.heap.size w w1 by rw [hw1]; exact (Below.refl _ _).alloc (Nat.le_refl _) _)
 have hs1 : w1.heap.size = w.heap.size + 1 := by rw [hw1]; simp
 obtain ⟨w2, hw2⟩ : ∃ w2, w2 = w1.alloc (.cells KI 33) := ⟨_, rfl⟩
 have HB2 := Lib.hid (show Below w.heap.size w w2 by rw [hw2]; exact HB1.out.alloc HB1.out.size _)
 have hs2 : w2.heap.size = w.heap.size + 1 + 1 := by rw [hw2]; simp [hs1]
 obtain ⟨w3, hw3⟩ : ∃ w3, w3 = w2.alloc (.cells #[.slice none 0 0] 173) := ⟨_, rfl⟩
 have HB3 := Lib.hid (show Below w.heap.size w w3 by rw [hw3]; exact HB2.out.alloc HB2.out.size _)
 obtain ⟨bm, hbm⟩ : ∃ bm, bm = w.heap.size := ⟨_, rfl⟩
 have HK3 := Lib.hid (show Blk w3 (bm + 1) 33 KI by rw [hw3, hw2, hbm, ← hs1]; exact (Blk.new w1 _ _).alloc _)
 have HM3 := Lib.hid (show MK w3 base T V bm gm ms (bm + 1 + 1) [] none 0 0 [] none 0 0 [] from
  ⟨by rw [hw3, hw2, hw1, hbm]; exact ((Blk.new w _ _).alloc _).alloc _, hmk.below HB3.out hmk.lt, hmm.below HB3.out, by rw [hw3, hbm, ← hs2]; exact Blk.new w2 _ _, RowX.nil _ _ _ _ _, RowR.nil _ _ _ _, by omega, hgm, hms, by omega⟩)
 have HBS := Lib.hid (show Below base w w3 from HB3.out.mono hsz)
 have HSN := Lib.hid (show SeenM [] [] from fun id => rfl)
 have HSRC := Lib.hid hS
 have HBW := Lib.hid hB
 have HBASE := Lib.hid hbase
 have HSZ := Lib.hid hsz
 have HR := Lib.hid hR
 have HNN := Lib.hid hN
 have HBM := Lib.hid hbm
 have HPU := Lib.hid (push_any W0 w3 hS (hB.trans (HBS.out.mono hbase)) hbase HM3.out HSN.out root hid (by omega))
 rw [show idV root = .agg KI by rw [hKI]] at HPU
 obtain ⟨PP, hPP⟩ : ∃ PP, PP = pushP S root [] [] := ⟨_, rfl⟩
 have HPP := Lib.hid hPP
 rw [← hPP] at HPU
 have HW1 := Lib.hid hw1
 have HW2 := Lib.hid hw2
 have HW3 := Lib.hid hw3
 have HS1 := Lib.hid hs1
 have HS2 := Lib.hid hs2
 clear hbm hS hB hmk hmm hKI hw1 hw2 hw3 hR hPP HB1 HB2 HB3 hbase hsz hid hN hs1 hs2
 go_enter Tryz.func59, Tryz.ntmps59
 go_upto_region 1 with fail
 rw [← HW1.out, ← HW2.out]
 go_upto_region 2 with fail
 rw [← HW3.out]
 have e1 := HS1.out
 have e2 := HS2.out
 simp only [e1, e2]
 rw [← HBM.out]
 clear e1 e2 HW1 HW2 HW3 HS1 HS2
 go_wp2_with (first | (refine wpList_load_at rfl _ _ rfl (bm + 1) 0 rfl KI _ (At.of_row HK3.out) Tryz.underlying33 rfl HII.out ?_) | fail)
 refine HPU.out.mono ?_
 intro e w4 hp
 cases PP with
 | error z =>
  obtain ⟨hb, rfl, hz⟩ := hp
  have hz2 : (z != 0) = true := by simpa using hz
  have HRR := Lib.hid (show R = .error z by
   have := HR.out
   unfold markP at this
   rw [← HPP.out] at this
   exact (Option.some.inj this).symm)
  have HB4 := Lib.hid (HBS.out.trans hb)
  have HZ := Lib.hid hz
  clear hb hz HPU
  go_wp2_with fail
  go_ret
  rw [HRR.out]
  exact ⟨HB4.out, rfl, HZ.out⟩
 | ok y =>
  obtain ⟨hb, rfl, M4, A4, n4, c4, hm4, hs4⟩ := hp
  have HRL := Lib.hid (show ReachRel S w base T V bm gm ms (bm + 1 + 1) N R w4 N from ⟨y.1, y.2, [], M4, A4, n4, c4, none, 0, 0, hm4, hs4, HBS.out.trans hb, by
   have := HR.out
   unfold markP at this
   rw [← HPP.out] at this
   exact this, by have := pushP_len HPP.out.symm; simp at this ⊢; omega⟩)
  clear hb hm4 hs4 HPU HM3 HSN HPP HR HBS HK3
  generalize hbs : bm + 1 + 1 = bs at *
  clear hbs
  go_wp2_with fail
  go_loopw [] (fun wr => ∃ k, Hid (ReachRel S w base T V bm gm ms bs N R wr k)) (fun wr => leastN (ReachRel S w base T V bm gm ms bs N R wr))
  case atStart => exact ⟨N, HRL⟩
  case round =>
   obtain ⟨k0, hk0⟩ := hrel
   obtain ⟨hrel, hmin⟩ := leastN_spec hk0.out
   obtain ⟨k, hk⟩ : ∃ k, k = leastN (ReachRel S w base T V bm gm ms bs N R wr) := ⟨_, rfl⟩
   rw [← hk] at hrel
   have HK := Lib.hid hk
   clear hk hk0 hmin HRL
   obtain ⟨B, st, out, M, A, n, c, Ao, mo, co, hM, hSn, hBr, hRu, hBo⟩ := hrel
   have HM := Lib.hid hM
   have HSN := Lib.hid hSn
   have HBR := Lib.hid hBr
   have HBO := Lib.hid hBo
   have t1 : wr.cell? ⟨bs, 0, none⟩ = some (.slice A n c) := hM.bst.cell 0
   cases k with
   | zero => exact absurd hRu (by simp [reachP])
   | succ k =>
    cases st with
    | nil =>
     have hn : n = 0 := hM.len
     subst hn
     have HRR := Lib.hid (show R = .ok out by
      unfold reachP at hRu
      exact (Option.some.inj hRu).symm)
     clear hRu hM hSn hBr hBo HSRC HBW HBASE
     go_wp2_with fail
     go_ret
     rw [HRR.out]
     exact ⟨HBR.out, rfl, Ao, mo, co, HM.out.mrk, HM.out.outr⟩
    | cons p st =>
     obtain ⟨i, l⟩ := p
     have HRU := Lib.hid hRu
     obtain ⟨ga, Al, cl, hn, rfl, hga, hnc, hi, hat, hcl, hfr, hl1, hl2, hsl⟩ := hM.top
     have t2 := hM.bst.frozen 0
     have hnI : (n : Int) - 1 = (st.length : Int) := by omega
     have hn0 : (0 : Int) < (n : Int) := by omega
     have hst : st.length ≤ 1000000000 := by have := HNN.out; simp at hBo; omega
     have hmo : mo ≤ 1000000000 := by have := HNN.out; have := hM.outr.len; simp at hBo; omega
     have hn9 : n ≤ 1000000001 := by omega
     obtain ⟨m, hm⟩ : ∃ m, m = st.length := ⟨_, rfl⟩
     rw [← hm] at hnI hst hat hcl hfr
     have hmn : (m : Int) < (n : Int) := by omega
     have hm0 : (0 : Int) ≤ (m : Int) := by omega
     have HAT := Lib.hid hat
     have HI := Lib.hid hi
     have HSL := Lib.hid hsl
     have HL := Lib.hid (And.intro hl1 hl2)
     have HMN := Lib.hid (And.intro hm hn)
     have HNC := Lib.hid hnc
     clear hRu hM hSn hBr hBo hat hi hsl hm hn hl1 hl2
     cases l with
     | nil =>
      obtain ⟨KT, hKT⟩ : ∃ KT, KT = (bytesV i).toArray := ⟨_, rfl⟩
      have HIT := Lib.hid (show (Tryz.prog.info? 33).map (·.size) = some KT.size by rw [hKT]; exact oid_size HI.out)
      have hks : KT.size = 32 := by rw [hKT]; simp [bytesV_length, HI.out]
      obtain ⟨wq, hwq⟩ : ∃ wq, wq = wr.drew := ⟨_, rfl⟩
      have hbs : (Instr.buildSlice 46 1 #[(0, .agg KT)]).run Tryz.prog wq = .ok (.slice (some ⟨wq.heap.size, 0, none⟩) 1 1) (wq.alloc (.cells KT 33)) := bsId_of wq KT hks
      have hbq : Below wr.heap.size wr wq := by rw [hwq]; exact Same.below ⟨1, rfl⟩ _
      have HMQ := Lib.hid (HM.out.go hbq)
      obtain ⟨cur, hcur⟩ := HMQ.out.stk.typ (show own (.slice (some ⟨ga, 0, none⟩) n c) ga from rfl)
      have HCUR := Lib.hid (show ∀ j u, KT[j]? = some u → cur[m * 33 + j]? = some u from fun j u hu => by
       have := HAT.out j u (by rw [← hKT]; exact hu)
       have h2 : wq.cell? ⟨ga, m * 33 + j, none⟩ = some u := (hbq.cell (p := ⟨ga, m * 33 + j, none⟩) hga).trans this
       rw [hcur.cell] at h2
       exact h2)
      obtain ⟨A7, c7, w7, hrun, b2, hkeep, hm8, hb8⟩ := HMQ.out.done HI.out hmo
      rw [← hKT] at hrun
      have HS0 := Lib.hid (show Blk wq bm 136 #[.pointer (some ⟨gm, 0, none⟩)] ∧ Blk wq gm 138 #[.iface T V, .map (some ms), .slice Ao mo co] ∧ Blk wq ga 175 cur from ⟨HMQ.out.box, HMQ.out.mrk, hcur⟩)
      have HS9 := Lib.hid (show Blk (wq.alloc (.cells KT 33)) bm 136 #[.pointer (some ⟨gm, 0, none⟩)] ∧ Blk (wq.alloc (.cells KT 33)) gm 138 #[.iface T V, .map (some ms), .slice Ao mo co] ∧ Blk (wq.alloc (.cells KT 33)) ga 175 cur from ⟨HS0.out.1.alloc _, HS0.out.2.1.alloc _, HS0.out.2.2.alloc _⟩)
      have HS10 := Lib.hid (show Blk w7 bm 136 #[.pointer (some ⟨gm, 0, none⟩)] ∧ Blk w7 gm 138 #[.iface T V, .map (some ms), .slice Ao mo co] ∧ Blk w7 ga 175 cur from ⟨hkeep _ _ _ HS0.out.1 (by decide), b2, hkeep _ _ _ HS0.out.2.2 (by decide)⟩)
      have HM8 := Lib.hid hm8
      have HB8 := Lib.hid (show Below base w (w7.setCell ⟨gm, 2, none⟩ (.slice A7 (mo + 1) c7)) from (HBR.out.trans (hbq.mono HM.out.size)).trans hb8)
      have t5 : w7.cell? ⟨gm, 2, none⟩ = some (.slice Ao mo co) := b2.cell 2
      have t6 := b2.frozen 2
      have HWQ := Lib.hid hwq
      clear hKT hbq hcur b2 hkeep hm8 hb8 HM hks hwq
      go_upto_region 9 with fail
      refine wp_region_late (S := fun w' => Blk w' bm 136 #[.pointer (some ⟨gm, 0, none⟩)] ∧ Blk w' gm 138 #[.iface T V, .map (some ms), .slice Ao mo co] ∧ Blk w' ga 175 cur) (s := 13) (by kernel_rfl) ?_
      change wpAnyL _ _ _ _ _ _ _ _ _ (World.drew _)
      rw [← HWQ.out]
      refine late_load (i := 0) (m := 0) (v := ?_) (a' := ?_) rfl (by kernel_rfl) (by kernel_rfl) (by kernel_rfl) (by kernel_rfl) (by rfl) (fun _ _ _ h => h) (by rfl) HS0.out ?_ ?_ ?_
      rotate_left 2
      ·(intro w hS; have t := hS.1.cell 0; go_simp; try with_reducible rfl)
      ·(go_simp; try with_reducible rfl)
      refine late_load (i := 1) (m := 1) (v := ?_) (a' := ?_) rfl (by kernel_rfl) (by kernel_rfl) (by kernel_rfl) (by kernel_rfl) (by rfl) (fun _ _ _ h => h) (by rfl) HS0.out ?_ ?_ ?_
      rotate_left 2
      ·(intro w hS; have t := hS.1.cell 0; go_simp; try with_reducible rfl)
      ·(go_simp; try with_reducible rfl)
      refine rgL 2 rfl (fun _ _ _ h => h) (fun _ => HS0.out) ?_
      refine rgL 3 rfl (fun _ _ _ h => h) (fun _ => HS0.out) ?_
      refine late_load (i := 4) (m := 4) (v := ?_) (a' := ?_) rfl (by kernel_rfl) (by kernel_rfl) (by kernel_rfl) (by kernel_rfl) (by rfl) (fun _ _ _ h => h) (by rfl) HS0.out ?_ ?_ ?_
      rotate_left 2
      ·(intro w hS; have t := hS.2.1.cell 2; go_simp; try with_reducible rfl)
      ·(go_simp; try with_reducible rfl)
      refine rgL 5 rfl (fun _ _ _ h => h) (fun _ => HS0.out) ?_
      refine rgL 6 rfl (fun _ _ _ h => h) (fun _ => HS0.out) ?_
      refine rgL 7 rfl (fun _ _ _ h => h) (fun _ => HS0.out) ?_
      refine late_load (i := 8) (m := 8) (v := ?_) (a' := ?_) rfl (by kernel_rfl) (by kernel_rfl) (by kernel_rfl) (by kernel_rfl) (by rfl) (fun _ _ _ h => h) (by rfl) HS0.out ?_ ?_ ?_
      rotate_left 2
      ·(intro w hS; refine exec_load_at 33 (.tmp 39) ?_ ga (m * 33) ?_ KT _ (fun j u hu => (hS.2.2.cell (m * 33 + j)).trans (HCUR.out j u hu)) Tryz.underlying33 rfl HIT.out; exact rfl; exact rfl)
      ·(go_simp; try with_reducible rfl)
      refine late_one (i := 9) (by kernel_rfl) rfl (fun KR hKR => ?_)
      refine step_build (by rfl) (.tmp 40) (by rfl) (by rfl) hbs ?_
      refine hKR _ _ (fun _ => HS9.out) ?_
      clear hKR KR
      refine late_one (i := 10) (by kernel_rfl) rfl (fun KR hKR => ?_)
      refine step_run_append (by rfl) (.tmp 36) (.tmp 41) (by rfl) (by rfl) (by rfl) hrun ?_
      refine hKR _ _ (fun _ => HS10.out) ?_
      clear hKR KR
      refine rgL 11 rfl (fun _ _ _ h => h) (fun _ => HS10.out) ?_
      refine rgL 12 rfl (fun _ _ _ h => h) (fun _ => HS10.out) ?_
      refine late_one (i := 13) (by kernel_rfl) rfl (fun KR hKR => ?_)
      go_simp
      refine hKR _ _ (fun h0 => Bool.noConfusion (show (true : Bool) = false from h0)) ?_
      clear hKR KR
      refine late_done' (by kernel_rfl) ?_ _
      go_upto_region 10 with fail
      generalize w7.setCell ⟨gm, 2, none⟩ (.slice A7 (mo + 1) c7) = w8 at *
      have u1 : w8.cell? ⟨bs, 0, none⟩ = some (.slice (some ⟨ga, 0, none⟩) n c) := HM8.out.bst.cell 0
      have u2 := HM8.out.bst.frozen 0
      have h9 := HM8.out.pop' (n' := m) (by have := HMN.out; omega)
      have HR9 := Lib.hid (show ReachRel S w base T V bm gm ms bs N R (w8.setCell ⟨bs, 0, none⟩ (.slice (some ⟨ga, 0, none⟩) m c)) k from
       ⟨B, st, out ++ [i], M, some ⟨ga, 0, none⟩, m, c, A7, mo + 1, c7, h9.1, HSN.out, HB8.out.trans h9.2, HRU.out, by have := HBO.out; simp at this ⊢; omega⟩)
      have hmc : (m : Int) ≤ (c : Int) := by have := HNC.out; omega
      clear h9 t1 t2 hcl hfr hrun HS0 HS9 HS10 HM8 HB8 t5 t6
      go_wp2_with fail
      go_roundw
      case rel => exact ⟨k, HR9⟩
      case measure => exact Nat.lt_of_le_of_lt ((leastN_spec HR9.out).2 k HR9.out) (by rw [← HK.out]; exact Nat.lt_succ_self k)
     | cons x l =>
      obtain ⟨lb, lo, x', hAl, hlb, hx0, hx32, hatx⟩ := oids_look HSL.out rfl (i := 0) (by simp)
      have e : x' = x := by simpa using hx0.symm
      subst e
      subst hAl
      have HTL := Lib.hid (show SlOf oidR wr (avX (avM bm gm ms bs (.slice Ao mo co)) (.slice (some ⟨ga, 0, none⟩) n c)) (if cl = 1 then some ⟨lb, lo, none⟩ else some ⟨lb, lo + 32, none⟩) l from HSL.out.from rfl (k := 1) (c := cl) (by simp) HL.out.1)
      obtain ⟨nl, hnl⟩ : ∃ nl, nl = l.length := ⟨_, rfl⟩
      obtain ⟨n1, hn1⟩ : ∃ n1, n1 = nl + 1 := ⟨_, rfl⟩
      have hcl2 : wr.cell? ⟨ga, m * 33 + 32, none⟩ = some (.slice (some ⟨lb, lo, none⟩) n1 cl) := by rw [hn1, hnl]; exact hcl
      have HLC := Lib.hid (show n1 ≤ cl ∧ cl ≤ maxLen from by have := HL.out; rw [hn1, hnl]; exact this)
      have q1 : ((n1 : Int) = 0) ↔ False := ⟨fun h => by omega, False.elim⟩
      have q2 : (n1 = 0) ↔ False := ⟨fun h => by omega, False.elim⟩
      have q3 : (1 : Int) ≤ (n1 : Int) := by omega
      have q4 : 1 ≤ n1 := by omega
      have q5 : (n1 : Int) ≤ (cl : Int) := by have := HLC.out.1; omega
      have q6 : (0 : Int) < (n1 : Int) := by omega
      have HN1 := Lib.hid hn1
      clear hn1
      have HNL := Lib.hid hnl
      obtain ⟨KX, hKX⟩ : ∃ KX, KX = (bytesV x').toArray := ⟨_, rfl⟩
      have HIX := Lib.hid (show (Tryz.prog.info? 33).map (·.size) = some KX.size by rw [hKX]; exact oid_size hx32)
      have hatx2 : At wr ⟨lb, lo, none⟩ KX := by rw [hKX]; simpa using hatx
      have HATX := Lib.hid hatx2
      have HZZ := Lib.hid (show zID.size = KX.size by rw [hKX]; simp [bytesV, hx32])
      have HO := Lib.hid (show KX.all (·.oneCell') = true by rw [hKX]; exact oid_one _)
      have HNB := Lib.hid (Blk.new wr 33 zID)
      have hba : Below wr.heap.size wr (wr.alloc (.cells KX 33)) := (Below.refl _ _).alloc (Nat.le_refl _) _
      have HBA := Lib.hid hba
      have HM1 := Lib.hid (HM.out.go hba)
      have HX32 := Lib.hid hx32
      have HKX := Lib.hid hKX
      have HBK := Lib.hid (Blk.new wr 33 KX)
      clear hcl hnl hatx hatx2 hKX hba hx0 hx32
      go_upto_region 12 with (first | (refine wpList_load_at rfl _ _ rfl lb lo rfl KX _ HATX.out Tryz.underlying33 rfl HIX.out ?_) | (refine wpList_store_row rfl _ _ _ rfl wr.heap.size KX rfl rfl 33 _ HNB.out HIX.out HZZ.out HO.out ?_) | fail)
      rw [World.setRow_alloc_new]
      go_frame
      change Code.wp _ _ _ _ (wr.alloc (.cells KX 33))
      obtain ⟨w1, hw1⟩ : ∃ w1, w1 = wr.alloc (.cells KX 33) := ⟨_, rfl⟩
      rw [← hw1] at HM1 HBA HBK ⊢
      have hc1 : w1.cell? ⟨ga, m * 33 + 32, none⟩ = some (.slice (some ⟨lb, lo, none⟩) n1 cl) := (HBA.out.cell (p := ⟨ga, m * 33 + 32, none⟩) hga).trans hcl2
      have hf1 : w1.frozen? ⟨ga, m * 33 + 32, none⟩ = false := by
       have h1 := HM1.out.top
       obtain ⟨ga', Al', cl', _, e, _, _, _, _, _, hf, _⟩ := h1
       injection e with e
       injection e with e
       subst e
       have := HMN.out.1
       rw [this]; exact hf
      clear hw1 HNB HZZ HATX hcl2 hfr
      go_upto_region 13 with fail
      obtain ⟨A2, hA2⟩ : ∃ A2, A2 = (if cl = 1 then some (⟨lb, lo, none⟩ : Addr) else some ⟨lb, lo + 32, none⟩) := ⟨_, rfl⟩
      rw [← hA2] at HTL ⊢
      have hst2 := HM1.out.set_top (l' := l) (Al := A2) (cl := cl - 1) (by have := HLC.out; have := HN1.out; have := HNL.out; omega) (by have := HLC.out.2; omega) (HTL.out.stable (Moves.of_below HBA.out))
      rw [show l.length = n1 - 1 by have := HN1.out; have := HNL.out; omega, ← HMN.out.1] at hst2
      have HM2 := Lib.hid hst2.1
      have HB2 := Lib.hid ((HBR.out.trans (HBA.out.mono (Nat.le_trans (HM.out.size) (Nat.le_refl _)))).trans hst2.2)
      have HK2 := Lib.hid (show Blk (w1.setCell ⟨ga, m * 33 + 32, none⟩ (.slice A2 (n1 - 1) (cl - 1))) wr.heap.size 33 KX from HBK.out.other (fun e => by omega) _ _)
      have HPU := Lib.hid (push_any W0 (w1.setCell ⟨ga, m * 33 + 32, none⟩ (.slice A2 (n1 - 1) (cl - 1))) HSRC.out (HBW.out.trans (HB2.out.mono HBASE.out)) HBASE.out HM2.out HSN.out x' HX32.out (by have h1 := HBO.out; have h2 := HMN.out; have h3 := HNN.out; simp at h1; omega))
      rw [show idV x' = .agg KX by rw [HKX.out]] at HPU
      obtain ⟨PP, hPP⟩ : ∃ PP, PP = pushP S x' B ((i, l) :: st) := ⟨_, rfl⟩
      have HPP := Lib.hid hPP
      rw [← hPP] at HPU
      have HRE := Lib.hid (fun z (e : PP = .error z) => show R = .error z by
       have := HRU.out
       simp only [reachP] at this
       rw [← hPP, e] at this
       exact (Option.some.inj this).symm)
      have HRO := Lib.hid (fun y (e : PP = .ok y) => show reachP S k y.1 y.2 out = some R by
       have := HRU.out
       simp only [reachP] at this
       rw [← hPP, e] at this
       exact this)
      clear hst2 hc1 hf1 t1 t2 hA2 hPP q1 q2 q3 q4 q5 q6 hnI hmn hm0 HTL HM1 HBK HM HSL HL
      generalize w1.setCell ⟨ga, m * 33 + 32, none⟩ (.slice A2 (n1 - 1) (cl - 1)) = w2 at *
      generalize hwg : wr.heap.size = gw at *
      clear hwg
      go_wp2_with (first | (refine wpList_load_at rfl _ _ rfl gw 0 rfl KX _ (At.of_row HK2.out) Tryz.underlying33 rfl HIX.out ?_) | fail)
      refine HPU.out.mono ?_
      intro e w4 hp
      cases PP with
      | error z =>
       obtain ⟨hb, rfl, hz⟩ := hp
       have hz2 : (z != 0) = true := by simpa using hz
       have HRR := Lib.hid (show R = .error z from HRE.out z rfl)
       have HB4 := Lib.hid (HB2.out.trans hb)
       have HZ := Lib.hid hz
       clear hb hz HPU HRE HRO
       go_wp2_with fail
       go_ret
       rw [HRR.out]
       exact ⟨HB4.out, rfl, HZ.out⟩
      | ok y =>
       obtain ⟨hb, rfl, M4, A4, n4, c4, hm4, hs4⟩ := hp
       have HR9 := Lib.hid (show ReachRel S w base T V bm gm ms bs N R w4 k from ⟨y.1, y.2, out, M4, A4, n4, c4, Ao, mo, co, hm4, hs4, HB2.out.trans hb, HRO.out y rfl, by
        have h1 := pushP_len HPP.out.symm
        have h2 := HBO.out
        simp at h1 h2 ⊢
        omega⟩)
       clear hb hm4 hs4 HPU HRE HRO
       go_wp2_with fail
       go_roundw
       case rel => exact ⟨k, HR9⟩
       case measure => exact Nat.lt_of_le_of_lt ((leastN_spec HR9.out).2 k HR9.out) (by rw [← HK.out]; exact Nat.lt_succ_self k)
end Go.Proofs.YtgmbkcjihgphmaaGreat
