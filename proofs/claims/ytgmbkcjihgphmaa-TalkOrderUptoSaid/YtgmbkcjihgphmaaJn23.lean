/- Contracts and laws for what the statement reaches, joined: TalkReachP, TalkReach, TalkPlain. -/
import Derived.Test.YtgmbkcjihgphmaaJn17
import Derived.Test.YtgmbkcjihgphmaaJn22
/- the marks' reach, plain. -/
set_option linter.unusedVariables false
set_option linter.unusedSimpArgs false
namespace Go.Proofs.Ytgmbkcjihgphmaa
open Go.RowKit

/-! ### a measure that is not in sight -/
theorem least_ex {p : Nat → Prop} : ∀ n, p n → ∃ m, p m ∧ ∀ k, p k → m ≤ k := fun n => by
  induction n using Nat.strongRecOn with
  | _ n ih =>
    intro hn
    by_cases h : ∃ k, k < n ∧ p k
    · obtain ⟨k, hk, hp⟩ := h
      exact ih k hk hp
    · refine ⟨n, hn, fun k hk => ?_⟩
      rcases Nat.lt_or_ge k n with h1 | h1
      · exact absurd ⟨k, h1, hk⟩ h
      · exact h1
open Classical in
noncomputable def leastN (p : Nat → Prop) : Nat := if h : ∃ m, p m ∧ ∀ k, p k → m ≤ k then h.choose else 0
theorem leastN_spec {p : Nat → Prop} {n : Nat} (hn : p n) : p (leastN p) ∧ ∀ k, p k → leastN p ≤ k := by
  have h := least_ex n hn
  unfold leastN
  rw [dif_pos h]
  exact h.choose_spec

/-- the marks' loop, plain: n rounds at most -/
def reachP (S : List UInt8 → Option (List UInt8)) : Nat → Ids → List PlcT → Ids → Option (Except Int Ids)
  | 0, _, _, _ => none
  | _ + 1, _, [], out => some (.ok out)
  | n + 1, B, (id, []) :: st, out => reachP S n B st (out ++ [id])
  | n + 1, B, (id, x :: l) :: st, out => match pushP S x B ((id, l) :: st) with
    | .error z => some (.error z)
    | .ok y => reachP S n y.1 y.2 out
def markP (S : List UInt8 → Option (List UInt8)) (n : Nat) (root : List UInt8) : Option (Except Int Ids) := match pushP S root [] [] with
  | .error z => some (.error z)
  | .ok y => reachP S n y.1 y.2 []
theorem pushP_len {S : List UInt8 → Option (List UInt8)} {id : List UInt8} {B : Ids} {st : List PlcT} {y : Ids × List PlcT} (h : pushP S id B st = .ok y) : y.2.length ≤ st.length + 1 := by
  unfold pushP at h
  split at h
  · injection h with h; subst h; simp
  · split at h
    · cases h
    · split at h
      · injection h with h; subst h; simp
      · cases h
end Go.Proofs.Ytgmbkcjihgphmaa

/- the marks' reach: all that can be reached from a root. -/
set_option linter.unusedVariables false
set_option linter.unusedSimpArgs false
namespace Go.Proofs.Ytgmbkcjihgphmaa
open Go.RowKit
attribute [local go_sem ↓] bsId_eq

/-- the loop's head: k rounds are enough -/
def ReachRel (S : List UInt8 → Option (List UInt8)) (w : World) (base : Nat) (T : TypeId) (V : Value) (bm gm ms bs N : Nat) (R : Except Int Ids) (wr : World) (k : Nat) : Prop :=
  ∃ (B : Ids) (st : List PlcT) (out : Ids) (M : IM) (A : Option Addr) (n c : Nat) (Ao : Option Addr) (mo co : Nat), MK wr base T V bm gm ms bs M A n c st Ao mo co out ∧ SeenM M B ∧ Below base w wr ∧ reachP S k B st out = some R ∧ st.length + out.length + k ≤ N + 1
def ReachPost (w : World) (base : Nat) (T : TypeId) (V : Value) (gm ms : Nat) (R : Except Int Ids) (e : Ending) (w' : World) : Prop :=
  Below base w w' ∧ match R with
    | .ok out => e = .returned (.int .i64 0) ∧ ∃ Ao mo co, Blk w' gm 86 #[.iface T V, .map (some ms), .slice Ao mo co] ∧ RowR oidR 33 w' base Ao mo co out
    | .error z => e = .returned (.int .i64 z) ∧ z ≠ 0

set_option maxRecDepth 100000 in
set_option maxHeartbeats 1200000 in
theorem reach_any {T : TypeId} {V : Value} {K : Nat} {S : List UInt8 → Option (List UInt8)} {base gm ms : Nat} (W0 w : World) (hS : SrcK W0 T V K S) (hB : Below W0.heap.size W0 w) (hbase : W0.heap.size ≤ base)
    (hmk : Blk w gm 86 #[.iface T V, .map (some ms), .slice none 0 0]) (hmm : MapW w ms []) (hgm : base ≤ gm) (hms : base ≤ ms) (root : List UInt8) (hid : root.length = 32) (N : Nat) (R : Except Int Ids) (hR : markP S N root = some R) (hN : N ≤ 1000000000) :
    Calls Try.prog 28 #[.pointer (some ⟨gm, 0, none⟩), idV root] w (ReachPost w base T V gm ms R) := by
  have hmf : ∀ (fn : Fn) (first cap : Array Value) (w : World), (Instr.makeFunc fn first cap).run Try.prog w = .ok (.func fn first cap) w := fun _ _ _ _ => rfl
  have hsz : base ≤ w.heap.size := by have := hmk.lt; omega
  obtain ⟨KI, hKI⟩ : ∃ KI, KI = (bytesV root).toArray := ⟨_, rfl⟩
  have HII := Lib.hid (show (Try.prog.info? 33).map (·.size) = some KI.size by rw [hKI]; exact oid_size hid)
  rw [show idV root = .agg KI by rw [hKI]]
  obtain ⟨w1, hw1⟩ : ∃ w1, w1 = w.alloc (.cells #[.pointer (some ⟨gm, 0, none⟩)] 83) := ⟨_, rfl⟩
  have HB1 := Lib.hid (show Below w.heap.size w w1 by rw [hw1]; exact (Below.refl _ _).alloc (Nat.le_refl _) _)
  have hs1 : w1.heap.size = w.heap.size + 1 := by rw [hw1]; simp
  obtain ⟨w2, hw2⟩ : ∃ w2, w2 = w1.alloc (.cells KI 33) := ⟨_, rfl⟩
  have HB2 := Lib.hid (show Below w.heap.size w w2 by rw [hw2]; exact HB1.out.alloc HB1.out.size _)
  have hs2 : w2.heap.size = w.heap.size + 1 + 1 := by rw [hw2]; simp [hs1]
  obtain ⟨w3, hw3⟩ : ∃ w3, w3 = w2.alloc (.cells #[.slice none 0 0] 109) := ⟨_, rfl⟩
  have HB3 := Lib.hid (show Below w.heap.size w w3 by rw [hw3]; exact HB2.out.alloc HB2.out.size _)
  obtain ⟨bm, hbm⟩ : ∃ bm, bm = w.heap.size := ⟨_, rfl⟩
  have HK3 := Lib.hid (show Blk w3 (bm + 1) 33 KI by rw [hw3, hw2, hbm, ← hs1]; exact (Blk.new w1 _ _).alloc _)
  have HM3 := Lib.hid (show MK w3 base T V bm gm ms (bm + 1 + 1) [] none 0 0 [] none 0 0 [] from
    ⟨by rw [hw3, hw2, hw1, hbm]; exact ((Blk.new w _ _).alloc _).alloc _, hmk.below HB3.out hmk.lt, hmm.below HB3.out, by rw [hw3, hbm, ← hs2]; exact Blk.new w2 _ _, RowX.nil _ _ _ _ _, RowR.nil _ _ _ _, by omega, hgm, hms, by omega⟩)
  have HBS := Lib.hid (show Below base w w3 from HB3.out.mono hsz)
  have HSN := Lib.hid (show SeenM [] [] from fun id => rfl)
  have HSRC := Lib.hid hS
  have HBW := Lib.hid hB
  have HBASE := Lib.hid hbase
  have HSZ := Lib.hid hsz
  have HR := Lib.hid hR
  have HNN := Lib.hid hN
  have HBM := Lib.hid hbm
  have HPU := Lib.hid (push_any W0 w3 hS (hB.trans (HBS.out.mono hbase)) hbase HM3.out HSN.out root hid (by omega))
  rw [show idV root = .agg KI by rw [hKI]] at HPU
  obtain ⟨PP, hPP⟩ : ∃ PP, PP = pushP S root [] [] := ⟨_, rfl⟩
  have HPP := Lib.hid hPP
  rw [← hPP] at HPU
  have HW1 := Lib.hid hw1
  have HW2 := Lib.hid hw2
  have HW3 := Lib.hid hw3
  have HS1 := Lib.hid hs1
  have HS2 := Lib.hid hs2
  clear hbm hS hB hmk hmm hKI hw1 hw2 hw3 hR hPP HB1 HB2 HB3 hbase hsz hid hN hs1 hs2
  go_enter Try.func28, Try.ntmps28
  go_upto_region 1 with fail
  rw [← HW1.out, ← HW2.out]
  go_upto_region 2 with fail
  rw [← HW3.out]
  have e1 := HS1.out
  have e2 := HS2.out
  simp only [e1, e2]
  rw [← HBM.out]
  clear e1 e2 HW1 HW2 HW3 HS1 HS2
  go_wp2_with (first | (refine wpList_load_at rfl _ _ rfl (bm + 1) 0 rfl KI _ (At.of_row HK3.out) Try.underlying33 rfl HII.out ?_) | fail)
  refine HPU.out.mono ?_
  intro e w4 hp
  cases PP with
  | error z =>
    obtain ⟨hb, rfl, hz⟩ := hp
    have hz2 : (z != 0) = true := by simpa using hz
    have HRR := Lib.hid (show R = .error z by
      have := HR.out
      unfold markP at this
      rw [← HPP.out] at this
      exact (Option.some.inj this).symm)
    have HB4 := Lib.hid (HBS.out.trans hb)
    have HZ := Lib.hid hz
    clear hb hz HPU
    go_wp2_with fail
    go_ret
    rw [HRR.out]
    exact ⟨HB4.out, rfl, HZ.out⟩
  | ok y =>
    obtain ⟨hb, rfl, M4, A4, n4, c4, hm4, hs4⟩ := hp
    have HRL := Lib.hid (show ReachRel S w base T V bm gm ms (bm + 1 + 1) N R w4 N from ⟨y.1, y.2, [], M4, A4, n4, c4, none, 0, 0, hm4, hs4, HBS.out.trans hb, by
      have := HR.out
      unfold markP at this
      rw [← HPP.out] at this
      exact this, by have := pushP_len HPP.out.symm; simp at this ⊢; omega⟩)
    clear hb hm4 hs4 HPU HM3 HSN HPP HR HBS HK3
    generalize hbs : bm + 1 + 1 = bs at *
    clear hbs
    go_wp2_with fail
    go_loopw [] (fun wr => ∃ k, Hid (ReachRel S w base T V bm gm ms bs N R wr k)) (fun wr => leastN (ReachRel S w base T V bm gm ms bs N R wr))
    case atStart => exact ⟨N, HRL⟩
    case round =>
      obtain ⟨k0, hk0⟩ := hrel
      obtain ⟨hrel, hmin⟩ := leastN_spec hk0.out
      obtain ⟨k, hk⟩ : ∃ k, k = leastN (ReachRel S w base T V bm gm ms bs N R wr) := ⟨_, rfl⟩
      rw [← hk] at hrel
      have HK := Lib.hid hk
      clear hk hk0 hmin HRL
      obtain ⟨B, st, out, M, A, n, c, Ao, mo, co, hM, hSn, hBr, hRu, hBo⟩ := hrel
      have HM := Lib.hid hM
      have HSN := Lib.hid hSn
      have HBR := Lib.hid hBr
      have HBO := Lib.hid hBo
      have t1 : wr.cell? ⟨bs, 0, none⟩ = some (.slice A n c) := hM.bst.cell 0
      cases k with
      | zero => exact absurd hRu (by simp [reachP])
      | succ k =>
        cases st with
        | nil =>
          have hn : n = 0 := hM.len
          subst hn
          have HRR := Lib.hid (show R = .ok out by
            unfold reachP at hRu
            exact (Option.some.inj hRu).symm)
          clear hRu hM hSn hBr hBo HSRC HBW HBASE
          go_wp2_with fail
          go_ret
          rw [HRR.out]
          exact ⟨HBR.out, rfl, Ao, mo, co, HM.out.mrk, HM.out.outr⟩
        | cons p st =>
          obtain ⟨i, l⟩ := p
          have HRU := Lib.hid hRu
          obtain ⟨ga, Al, cl, hn, rfl, hga, hnc, hi, hat, hcl, hfr, hl1, hl2, hsl⟩ := hM.top
          have t2 := hM.bst.frozen 0
          have hnI : (n : Int) - 1 = (st.length : Int) := by omega
          have hn0 : (0 : Int) < (n : Int) := by omega
          have hst : st.length ≤ 1000000000 := by have := HNN.out; simp at hBo; omega
          have hmo : mo ≤ 1000000000 := by have := HNN.out; have := hM.outr.len; simp at hBo; omega
          have hn9 : n ≤ 1000000001 := by omega
          obtain ⟨m, hm⟩ : ∃ m, m = st.length := ⟨_, rfl⟩
          rw [← hm] at hnI hst hat hcl hfr
          have hmn : (m : Int) < (n : Int) := by omega
          have hm0 : (0 : Int) ≤ (m : Int) := by omega
          have HAT := Lib.hid hat
          have HI := Lib.hid hi
          have HSL := Lib.hid hsl
          have HL := Lib.hid (And.intro hl1 hl2)
          have HMN := Lib.hid (And.intro hm hn)
          have HNC := Lib.hid hnc
          clear hRu hM hSn hBr hBo hat hi hsl hm hn hl1 hl2
          cases l with
          | nil =>
            obtain ⟨KT, hKT⟩ : ∃ KT, KT = (bytesV i).toArray := ⟨_, rfl⟩
            have HIT := Lib.hid (show (Try.prog.info? 33).map (·.size) = some KT.size by rw [hKT]; exact oid_size HI.out)
            have hks : KT.size = 32 := by rw [hKT]; simp [bytesV_length, HI.out]
            obtain ⟨wq, hwq⟩ : ∃ wq, wq = wr.drew := ⟨_, rfl⟩
            have hbs : (Instr.buildSlice 37 1 #[(0, .agg KT)]).run Try.prog wq = .ok (.slice (some ⟨wq.heap.size, 0, none⟩) 1 1) (wq.alloc (.cells KT 33)) := bsId_of wq KT hks
            have hbq : Below wr.heap.size wr wq := by rw [hwq]; exact Same.below ⟨1, rfl⟩ _
            have HMQ := Lib.hid (HM.out.go hbq)
            obtain ⟨cur, hcur⟩ := HMQ.out.stk.typ (show own (.slice (some ⟨ga, 0, none⟩) n c) ga from rfl)
            have HCUR := Lib.hid (show ∀ j u, KT[j]? = some u → cur[m * 33 + j]? = some u from fun j u hu => by
              have := HAT.out j u (by rw [← hKT]; exact hu)
              have h2 : wq.cell? ⟨ga, m * 33 + j, none⟩ = some u := (hbq.cell (p := ⟨ga, m * 33 + j, none⟩) hga).trans this
              rw [hcur.cell] at h2
              exact h2)
            obtain ⟨A7, c7, w7, hrun, b2, hkeep, hm8, hb8⟩ := HMQ.out.done HI.out hmo
            rw [← hKT] at hrun
            have HS0 := Lib.hid (show Blk wq bm 83 #[.pointer (some ⟨gm, 0, none⟩)] ∧ Blk wq gm 86 #[.iface T V, .map (some ms), .slice Ao mo co] ∧ Blk wq ga 111 cur from ⟨HMQ.out.box, HMQ.out.mrk, hcur⟩)
            have HS9 := Lib.hid (show Blk (wq.alloc (.cells KT 33)) bm 83 #[.pointer (some ⟨gm, 0, none⟩)] ∧ Blk (wq.alloc (.cells KT 33)) gm 86 #[.iface T V, .map (some ms), .slice Ao mo co] ∧ Blk (wq.alloc (.cells KT 33)) ga 111 cur from ⟨HS0.out.1.alloc _, HS0.out.2.1.alloc _, HS0.out.2.2.alloc _⟩)
            have HS10 := Lib.hid (show Blk w7 bm 83 #[.pointer (some ⟨gm, 0, none⟩)] ∧ Blk w7 gm 86 #[.iface T V, .map (some ms), .slice Ao mo co] ∧ Blk w7 ga 111 cur from ⟨hkeep _ _ _ HS0.out.1 (by decide), b2, hkeep _ _ _ HS0.out.2.2 (by decide)⟩)
            have HM8 := Lib.hid hm8
            have HB8 := Lib.hid (show Below base w (w7.setCell ⟨gm, 2, none⟩ (.slice A7 (mo + 1) c7)) from (HBR.out.trans (hbq.mono HM.out.size)).trans hb8)
            have t5 : w7.cell? ⟨gm, 2, none⟩ = some (.slice Ao mo co) := b2.cell 2
            have t6 := b2.frozen 2
            have HWQ := Lib.hid hwq
            clear hKT hbq hcur b2 hkeep hm8 hb8 HM hks hwq
            go_upto_region 9 with fail
            refine wp_region_late (S := fun w' => Blk w' bm 83 #[.pointer (some ⟨gm, 0, none⟩)] ∧ Blk w' gm 86 #[.iface T V, .map (some ms), .slice Ao mo co] ∧ Blk w' ga 111 cur) (s := 13) (by kernel_rfl) ?_
            change wpAnyL _ _ _ _ _ _ _ _ _ (World.drew _)
            rw [← HWQ.out]
            refine late_load (i := 0) (m := 0) (v := ?_) (a' := ?_) rfl (by kernel_rfl) (by kernel_rfl) (by kernel_rfl) (by kernel_rfl) (by rfl) (fun _ _ _ h => h) (by rfl) HS0.out ?_ ?_ ?_
            rotate_left 2
            · (intro w hS; have t := hS.1.cell 0; go_simp; try with_reducible rfl)
            · (go_simp; try with_reducible rfl)
            refine late_load (i := 1) (m := 1) (v := ?_) (a' := ?_) rfl (by kernel_rfl) (by kernel_rfl) (by kernel_rfl) (by kernel_rfl) (by rfl) (fun _ _ _ h => h) (by rfl) HS0.out ?_ ?_ ?_
            rotate_left 2
            · (intro w hS; have t := hS.1.cell 0; go_simp; try with_reducible rfl)
            · (go_simp; try with_reducible rfl)
            refine late_pure (i := 2) (v := ?_) (a' := ?_) rfl (by kernel_rfl) (by kernel_rfl) (by kernel_rfl) (by rfl) (fun _ _ _ h => h) (by rfl) (fun _ => HS0.out) ?_ ?_ ?_
            rotate_left 2
            · (intro w; go_simp; try with_reducible rfl)
            · (go_simp; try with_reducible rfl)
            refine late_pure (i := 3) (v := ?_) (a' := ?_) rfl (by kernel_rfl) (by kernel_rfl) (by kernel_rfl) (by rfl) (fun _ _ _ h => h) (by rfl) (fun _ => HS0.out) ?_ ?_ ?_
            rotate_left 2
            · (intro w; go_simp; try with_reducible rfl)
            · (go_simp; try with_reducible rfl)
            refine late_load (i := 4) (m := 4) (v := ?_) (a' := ?_) rfl (by kernel_rfl) (by kernel_rfl) (by kernel_rfl) (by kernel_rfl) (by rfl) (fun _ _ _ h => h) (by rfl) HS0.out ?_ ?_ ?_
            rotate_left 2
            · (intro w hS; have t := hS.2.1.cell 2; go_simp; try with_reducible rfl)
            · (go_simp; try with_reducible rfl)
            refine late_pure (i := 5) (v := ?_) (a' := ?_) rfl (by kernel_rfl) (by kernel_rfl) (by kernel_rfl) (by rfl) (fun _ _ _ h => h) (by rfl) (fun _ => HS0.out) ?_ ?_ ?_
            rotate_left 2
            · (intro w; go_simp; try with_reducible rfl)
            · (go_simp; try with_reducible rfl)
            refine late_pure (i := 6) (v := ?_) (a' := ?_) rfl (by kernel_rfl) (by kernel_rfl) (by kernel_rfl) (by rfl) (fun _ _ _ h => h) (by rfl) (fun _ => HS0.out) ?_ ?_ ?_
            rotate_left 2
            · (intro w; go_simp; try with_reducible rfl)
            · (go_simp; try with_reducible rfl)
            refine late_pure (i := 7) (v := ?_) (a' := ?_) rfl (by kernel_rfl) (by kernel_rfl) (by kernel_rfl) (by rfl) (fun _ _ _ h => h) (by rfl) (fun _ => HS0.out) ?_ ?_ ?_
            rotate_left 2
            · (intro w; go_simp; try with_reducible rfl)
            · (go_simp; try with_reducible rfl)
            refine late_load (i := 8) (m := 8) (v := ?_) (a' := ?_) rfl (by kernel_rfl) (by kernel_rfl) (by kernel_rfl) (by kernel_rfl) (by rfl) (fun _ _ _ h => h) (by rfl) HS0.out ?_ ?_ ?_
            rotate_left 2
            · (intro w hS; refine exec_load_at 33 (.tmp 39) ?_ ga (m * 33) ?_ KT _ (fun j u hu => (hS.2.2.cell (m * 33 + j)).trans (HCUR.out j u hu)) Try.underlying33 rfl HIT.out; exact rfl; exact rfl)
            · (go_simp; try with_reducible rfl)
            refine late_one (i := 9) (by kernel_rfl) rfl (fun KR hKR => ?_)
            refine step_build (by rfl) (.tmp 40) (by rfl) (by rfl) hbs ?_
            refine hKR _ _ (fun _ => HS9.out) ?_
            clear hKR KR
            refine late_one (i := 10) (by kernel_rfl) rfl (fun KR hKR => ?_)
            refine step_run_append (by rfl) (.tmp 36) (.tmp 41) (by rfl) (by rfl) (by rfl) hrun ?_
            refine hKR _ _ (fun _ => HS10.out) ?_
            clear hKR KR
            refine late_pure (i := 11) (v := ?_) (a' := ?_) rfl (by kernel_rfl) (by kernel_rfl) (by kernel_rfl) (by rfl) (fun _ _ _ h => h) (by rfl) (fun _ => HS10.out) ?_ ?_ ?_
            rotate_left 2
            · (intro w; go_simp; try with_reducible rfl)
            · (go_simp; try with_reducible rfl)
            refine late_pure (i := 12) (v := ?_) (a' := ?_) rfl (by kernel_rfl) (by kernel_rfl) (by kernel_rfl) (by rfl) (fun _ _ _ h => h) (by rfl) (fun _ => HS10.out) ?_ ?_ ?_
            rotate_left 2
            · (intro w; go_simp; try with_reducible rfl)
            · (go_simp; try with_reducible rfl)
            refine late_one (i := 13) (by kernel_rfl) rfl (fun KR hKR => ?_)
            go_simp
            refine hKR _ _ (fun h0 => Bool.noConfusion (show (true : Bool) = false from h0)) ?_
            clear hKR KR
            refine late_done' (by kernel_rfl) ?_ _
            go_upto_region 10 with fail
            generalize w7.setCell ⟨gm, 2, none⟩ (.slice A7 (mo + 1) c7) = w8 at *
            have u1 : w8.cell? ⟨bs, 0, none⟩ = some (.slice (some ⟨ga, 0, none⟩) n c) := HM8.out.bst.cell 0
            have u2 := HM8.out.bst.frozen 0
            have h9 := HM8.out.pop' (n' := m) (by have := HMN.out; omega)
            have HR9 := Lib.hid (show ReachRel S w base T V bm gm ms bs N R (w8.setCell ⟨bs, 0, none⟩ (.slice (some ⟨ga, 0, none⟩) m c)) k from
              ⟨B, st, out ++ [i], M, some ⟨ga, 0, none⟩, m, c, A7, mo + 1, c7, h9.1, HSN.out, HB8.out.trans h9.2, HRU.out, by have := HBO.out; simp at this ⊢; omega⟩)
            have hmc : (m : Int) ≤ (c : Int) := by have := HNC.out; omega
            clear h9 t1 t2 hcl hfr hrun HS0 HS9 HS10 HM8 HB8 t5 t6
            go_wp2_with fail
            go_roundw
            case rel => exact ⟨k, HR9⟩
            case measure => exact Nat.lt_of_le_of_lt ((leastN_spec HR9.out).2 k HR9.out) (by rw [← HK.out]; exact Nat.lt_succ_self k)
          | cons x l =>
            obtain ⟨lb, lo, x', hAl, hlb, hx0, hx32, hatx⟩ := oids_look HSL.out rfl (i := 0) (by simp)
            have e : x' = x := by simpa using hx0.symm
            subst e
            subst hAl
            have HTL := Lib.hid (show SlOf oidR wr (avX (avM bm gm ms bs (.slice Ao mo co)) (.slice (some ⟨ga, 0, none⟩) n c)) (if cl = 1 then some ⟨lb, lo, none⟩ else some ⟨lb, lo + 32, none⟩) l from HSL.out.from rfl (k := 1) (c := cl) (by simp) HL.out.1)
            obtain ⟨nl, hnl⟩ : ∃ nl, nl = l.length := ⟨_, rfl⟩
            obtain ⟨n1, hn1⟩ : ∃ n1, n1 = nl + 1 := ⟨_, rfl⟩
            have hcl2 : wr.cell? ⟨ga, m * 33 + 32, none⟩ = some (.slice (some ⟨lb, lo, none⟩) n1 cl) := by rw [hn1, hnl]; exact hcl
            have HLC := Lib.hid (show n1 ≤ cl ∧ cl ≤ maxLen from by have := HL.out; rw [hn1, hnl]; exact this)
            have q1 : ((n1 : Int) = 0) ↔ False := ⟨fun h => by omega, False.elim⟩
            have q2 : (n1 = 0) ↔ False := ⟨fun h => by omega, False.elim⟩
            have q3 : (1 : Int) ≤ (n1 : Int) := by omega
            have q4 : 1 ≤ n1 := by omega
            have q5 : (n1 : Int) ≤ (cl : Int) := by have := HLC.out.1; omega
            have q6 : (0 : Int) < (n1 : Int) := by omega
            have HN1 := Lib.hid hn1
            clear hn1
            have HNL := Lib.hid hnl
            obtain ⟨KX, hKX⟩ : ∃ KX, KX = (bytesV x').toArray := ⟨_, rfl⟩
            have HIX := Lib.hid (show (Try.prog.info? 33).map (·.size) = some KX.size by rw [hKX]; exact oid_size hx32)
            have hatx2 : At wr ⟨lb, lo, none⟩ KX := by rw [hKX]; simpa using hatx
            have HATX := Lib.hid hatx2
            have HZZ := Lib.hid (show zID.size = KX.size by rw [hKX]; simp [bytesV, hx32])
            have HO := Lib.hid (show KX.all (·.oneCell') = true by rw [hKX]; exact oid_one _)
            have HNB := Lib.hid (Blk.new wr 33 zID)
            have hba : Below wr.heap.size wr (wr.alloc (.cells KX 33)) := (Below.refl _ _).alloc (Nat.le_refl _) _
            have HBA := Lib.hid hba
            have HM1 := Lib.hid (HM.out.go hba)
            have HX32 := Lib.hid hx32
            have HKX := Lib.hid hKX
            have HBK := Lib.hid (Blk.new wr 33 KX)
            clear hcl hnl hatx hatx2 hKX hba hx0 hx32
            go_upto_region 12 with (first | (refine wpList_load_at rfl _ _ rfl lb lo rfl KX _ HATX.out Try.underlying33 rfl HIX.out ?_) | (refine wpList_store_row rfl _ _ _ rfl wr.heap.size KX rfl rfl 33 _ HNB.out HIX.out HZZ.out HO.out ?_) | fail)
            rw [World.setRow_alloc_new]
            go_frame
            change Code.wp _ _ _ _ (wr.alloc (.cells KX 33))
            obtain ⟨w1, hw1⟩ : ∃ w1, w1 = wr.alloc (.cells KX 33) := ⟨_, rfl⟩
            rw [← hw1] at HM1 HBA HBK ⊢
            have hc1 : w1.cell? ⟨ga, m * 33 + 32, none⟩ = some (.slice (some ⟨lb, lo, none⟩) n1 cl) := (HBA.out.cell (p := ⟨ga, m * 33 + 32, none⟩) hga).trans hcl2
            have hf1 : w1.frozen? ⟨ga, m * 33 + 32, none⟩ = false := by
              have h1 := HM1.out.top
              obtain ⟨ga', Al', cl', _, e, _, _, _, _, _, hf, _⟩ := h1
              injection e with e
              injection e with e
              subst e
              have := HMN.out.1
              rw [this]; exact hf
            clear hw1 HNB HZZ HATX hcl2 hfr
            go_upto_region 13 with fail
            obtain ⟨A2, hA2⟩ : ∃ A2, A2 = (if cl = 1 then some (⟨lb, lo, none⟩ : Addr) else some ⟨lb, lo + 32, none⟩) := ⟨_, rfl⟩
            rw [← hA2] at HTL ⊢
            have hst2 := HM1.out.set_top (l' := l) (Al := A2) (cl := cl - 1) (by have := HLC.out; have := HN1.out; have := HNL.out; omega) (by have := HLC.out.2; omega) (HTL.out.stable (Moves.of_below HBA.out))
            rw [show l.length = n1 - 1 by have := HN1.out; have := HNL.out; omega, ← HMN.out.1] at hst2
            have HM2 := Lib.hid hst2.1
            have HB2 := Lib.hid ((HBR.out.trans (HBA.out.mono (Nat.le_trans (HM.out.size) (Nat.le_refl _)))).trans hst2.2)
            have HK2 := Lib.hid (show Blk (w1.setCell ⟨ga, m * 33 + 32, none⟩ (.slice A2 (n1 - 1) (cl - 1))) wr.heap.size 33 KX from HBK.out.other (fun e => by omega) _ _)
            have HPU := Lib.hid (push_any W0 (w1.setCell ⟨ga, m * 33 + 32, none⟩ (.slice A2 (n1 - 1) (cl - 1))) HSRC.out (HBW.out.trans (HB2.out.mono HBASE.out)) HBASE.out HM2.out HSN.out x' HX32.out (by have h1 := HBO.out; have h2 := HMN.out; have h3 := HNN.out; simp at h1; omega))
            rw [show idV x' = .agg KX by rw [HKX.out]] at HPU
            obtain ⟨PP, hPP⟩ : ∃ PP, PP = pushP S x' B ((i, l) :: st) := ⟨_, rfl⟩
            have HPP := Lib.hid hPP
            rw [← hPP] at HPU
            have HRE := Lib.hid (fun z (e : PP = .error z) => show R = .error z by
              have := HRU.out
              simp only [reachP] at this
              rw [← hPP, e] at this
              exact (Option.some.inj this).symm)
            have HRO := Lib.hid (fun y (e : PP = .ok y) => show reachP S k y.1 y.2 out = some R by
              have := HRU.out
              simp only [reachP] at this
              rw [← hPP, e] at this
              exact this)
            clear hst2 hc1 hf1 t1 t2 hA2 hPP q1 q2 q3 q4 q5 q6 hnI hmn hm0 HTL HM1 HBK HM HSL HL
            generalize w1.setCell ⟨ga, m * 33 + 32, none⟩ (.slice A2 (n1 - 1) (cl - 1)) = w2 at *
            generalize hwg : wr.heap.size = gw at *
            clear hwg
            go_wp2_with (first | (refine wpList_load_at rfl _ _ rfl gw 0 rfl KX _ (At.of_row HK2.out) Try.underlying33 rfl HIX.out ?_) | fail)
            refine HPU.out.mono ?_
            intro e w4 hp
            cases PP with
            | error z =>
              obtain ⟨hb, rfl, hz⟩ := hp
              have hz2 : (z != 0) = true := by simpa using hz
              have HRR := Lib.hid (show R = .error z from HRE.out z rfl)
              have HB4 := Lib.hid (HB2.out.trans hb)
              have HZ := Lib.hid hz
              clear hb hz HPU HRE HRO
              go_wp2_with fail
              go_ret
              rw [HRR.out]
              exact ⟨HB4.out, rfl, HZ.out⟩
            | ok y =>
              obtain ⟨hb, rfl, M4, A4, n4, c4, hm4, hs4⟩ := hp
              have HR9 := Lib.hid (show ReachRel S w base T V bm gm ms bs N R w4 k from ⟨y.1, y.2, out, M4, A4, n4, c4, Ao, mo, co, hm4, hs4, HB2.out.trans hb, HRO.out y rfl, by
                have h1 := pushP_len HPP.out.symm
                have h2 := HBO.out
                simp at h1 h2 ⊢
                omega⟩)
              clear hb hm4 hs4 HPU HRE HRO
              go_wp2_with fail
              go_roundw
              case rel => exact ⟨k, HR9⟩
              case measure => exact Nat.lt_of_le_of_lt ((leastN_spec HR9.out).2 k HR9.out) (by rw [← HK.out]; exact Nat.lt_succ_self k)
end Go.Proofs.Ytgmbkcjihgphmaa

/- fetch and marks, plain: what is lacking, level by level; what can be reached. -/
set_option linter.unusedVariables false
set_option linter.unusedSimpArgs false
namespace Go.Proofs.Ytgmbkcjihgphmaa
open Go.RowKit

abbrev SrcT := List UInt8 → Option (List UInt8)
/-- one by one, what is not there yet -/
def addIds (l : Ids) : Ids → Ids
  | [] => l
  | x :: r => addIds (if l.contains x = true then l else l ++ [x]) r
theorem addIds_mem : ∀ (r l : Ids) (x : List UInt8), x ∈ addIds l r ↔ x ∈ l ∨ x ∈ r
  | [], l, x => by simp [addIds]
  | y :: r, l, x => by
    unfold addIds
    rw [addIds_mem r]
    split
    · rename_i h
      have h : y ∈ l := by simpa using h
      constructor
      · rintro (h1 | h1)
        · exact .inl h1
        · exact .inr (by simp [h1])
      · rintro (h1 | h1)
        · exact .inl h1
        · rcases List.mem_cons.1 h1 with rfl | h1
          · exact .inl h
          · exact .inr h1
    · simp [or_assoc]
theorem addIds_pre : ∀ (r l : Ids), ∃ t, addIds l r = l ++ t
  | [], l => ⟨[], by simp [addIds]⟩
  | y :: r, l => by
    unfold addIds
    obtain ⟨t, ht⟩ := addIds_pre r (if l.contains y = true then l else l ++ [y])
    rw [ht]
    split
    · exact ⟨t, rfl⟩
    · exact ⟨y :: t, by simp⟩
theorem addIds_nodup : ∀ (r l : Ids), l.Nodup → (addIds l r).Nodup
  | [], l, h => h
  | y :: r, l, h => by
    unfold addIds
    refine addIds_nodup r _ ?_
    split
    · exact h
    · rename_i hc
      have hc : ¬ y ∈ l := by simpa using hc
      rw [List.nodup_append]
      refine ⟨h, by simp, fun a ha b hb e => ?_⟩
      have : b = y := by simpa using hb
      subst this; subst e
      exact hc ha

/-- what is lacking: n rounds at most -/
def lackP (S : SrcT) : Nat → Ids → Nat → Ids → Option Ids
  | 0, _, _, _ => none
  | n + 1, l, i, out => match l[i]? with
    | none => some out
    | some id => match S id with
      | none => lackP S n l (i + 1) (out ++ [id])
      | some b => lackP S n (addIds l (lkL (linksG b))) (i + 1) out
/-- what can be reached -/
inductive Re (S : SrcT) (root : List UInt8) : List UInt8 → Prop
  | root : Re S root root
  | step {x y b : List UInt8} : Re S root x → S x = some b → y ∈ lkL (linksG b) → Re S root y

section
variable {S : SrcT}
theorem lackP_mono : ∀ {n : Nat} {l : Ids} {i : Nat} {out R : Ids} (k : Nat), lackP S n l i out = some R → lackP S (n + k) l i out = some R
  | 0, _, _, _, _, _, h => by simp [lackP] at h
  | n + 1, l, i, out, R, k, h => by
    rw [show n + 1 + k = (n + k) + 1 by omega]
    unfold lackP at h ⊢
    cases hl : l[i]? with
    | none => rw [hl] at h; exact h
    | some id =>
      rw [hl] at h
      simp only at h ⊢
      cases hs : S id with
      | none => rw [hs] at h; exact lackP_mono k h
      | some b => rw [hs] at h; exact lackP_mono k h
theorem lackP_det {n m : Nat} {l : Ids} {i : Nat} {out R R' : Ids} (h : lackP S n l i out = some R) (h' : lackP S m l i out = some R') : R = R' := by
  have h1 := lackP_mono m h
  have h2 := lackP_mono n h'
  rw [show m + n = n + m by omega, h1] at h2
  exact Option.some.inj h2
/-- what is lacking is not there, and can be reached -/
theorem lackP_sound {P : List UInt8 → Prop} (hP : ∀ x b y, P x → S x = some b → y ∈ lkL (linksG b) → P y) : ∀ {n : Nat} {l : Ids} {i : Nat} {out R : Ids}, lackP S n l i out = some R → (∀ x ∈ l, P x) → (∀ x ∈ out, P x ∧ S x = none) → ∀ x ∈ R, P x ∧ S x = none
  | 0, _, _, _, _, h, _, _ => by simp [lackP] at h
  | n + 1, l, i, out, R, h, hl, ho => by
    unfold lackP at h
    cases hli : l[i]? with
    | none =>
      rw [hli] at h
      have h := Option.some.inj h
      subst h
      exact ho
    | some id =>
      rw [hli] at h
      simp only at h
      have hid := hl id (List.mem_of_getElem? hli)
      cases hs : S id with
      | none =>
        rw [hs] at h
        refine lackP_sound hP h hl fun x hx => ?_
        rcases List.mem_append.1 hx with h1 | h1
        · exact ho x h1
        · have h1 : x = id := by simpa using h1
          subst h1
          exact ⟨hid, hs⟩
      | some b =>
        rw [hs] at h
        refine lackP_sound hP h (fun x hx => ?_) ho
        rcases (addIds_mem _ _ _).1 hx with h1 | h1
        · exact hl x h1
        · exact hP id b x hid hs h1
/-- all that can be reached was come by -/
theorem lackP_whole : ∀ {n : Nat} {l : Ids} {i : Nat} {out R : Ids}, lackP S n l i out = some R →
    (∀ j x, j < i → l[j]? = some x → (S x = none → x ∈ out) ∧ (∀ b, S x = some b → ∀ y ∈ lkL (linksG b), y ∈ l)) →
    ∃ l' : Ids, (∀ x ∈ l, x ∈ l') ∧ ∀ x ∈ l', (S x = none → x ∈ R) ∧ (∀ b, S x = some b → ∀ y ∈ lkL (linksG b), y ∈ l')
  | 0, _, _, _, _, h, _ => by simp [lackP] at h
  | n + 1, l, i, out, R, h, hI => by
    unfold lackP at h
    cases hli : l[i]? with
    | none =>
      rw [hli] at h
      have h := Option.some.inj h
      subst h
      refine ⟨l, fun _ h => h, fun x hx => ?_⟩
      obtain ⟨j, hj⟩ := List.getElem?_of_mem hx
      have h1 := List.getElem?_eq_none_iff.1 hli
      have h2 := (List.getElem?_eq_some_iff.1 hj).1
      exact hI j x (by omega) hj
    | some id =>
      rw [hli] at h
      simp only at h
      cases hs : S id with
      | none =>
        rw [hs] at h
        refine lackP_whole h fun j x hj hx => ?_
        rcases Nat.lt_or_ge j i with h1 | h1
        · have := hI j x h1 hx
          exact ⟨fun e => List.mem_append_left _ (this.1 e), this.2⟩
        · have : j = i := by omega
          subst this
          rw [hli] at hx
          cases hx
          exact ⟨fun _ => by simp, fun b e => by rw [hs] at e; cases e⟩
      | some b =>
        rw [hs] at h
        obtain ⟨t, ht⟩ := addIds_pre (lkL (linksG b)) l
        obtain ⟨l', h1, h2⟩ := lackP_whole h fun j x hj hx => by
          have hlt : i < l.length := (List.getElem?_eq_some_iff.1 hli).1
          rw [ht, List.getElem?_append_left (by omega)] at hx
          rcases Nat.lt_or_ge j i with h1 | h1
          · have := hI j x h1 hx
            exact ⟨this.1, fun b' e y hy => (addIds_mem _ _ _).2 (.inl (this.2 b' e y hy))⟩
          · have : j = i := by omega
            subst this
            rw [hli] at hx
            cases hx
            exact ⟨fun e => by rw [hs] at e; (cases e), fun b' e y hy => by rw [hs] at e; cases e; exact (addIds_mem _ _ _).2 (.inr hy)⟩
        exact ⟨l', fun x hx => h1 x ((addIds_mem _ _ _).2 (.inl hx)), h2⟩
/-- two sources that are alike on what can be reached -/
theorem lackP_congr {S' : SrcT} {P : List UInt8 → Prop} (he : ∀ x, P x → S x = S' x) (hP : ∀ x b y, P x → S x = some b → y ∈ lkL (linksG b) → P y) : ∀ {n : Nat} {l : Ids} {i : Nat} {out : Ids}, (∀ x ∈ l, P x) → lackP S n l i out = lackP S' n l i out
  | 0, _, _, _, _ => rfl
  | n + 1, l, i, out, hl => by
    unfold lackP
    cases hli : l[i]? with
    | none => rfl
    | some id =>
      have hid := hl id (List.mem_of_getElem? hli)
      simp only
      rw [← he id hid]
      cases hs : S id with
      | none => exact lackP_congr he hP hl
      | some b =>
        refine lackP_congr he hP fun x hx => ?_
        rcases (addIds_mem _ _ _).1 hx with h1 | h1
        · exact hl x h1
        · exact hP id b x hid hs h1
/-- it ends -/
theorem lackP_ends {U : Ids} (hU : ∀ x ∈ U, ∀ b, S x = some b → ∀ y ∈ lkL (linksG b), y ∈ U) : ∀ {n : Nat} {l : Ids} {i : Nat} {out : Ids}, l.Nodup → (∀ x ∈ l, x ∈ U) → i ≤ l.length → U.length - i < n → ∃ R, lackP S n l i out = some R
  | 0, _, _, _, _, _, _, h => by omega
  | n + 1, l, i, out, hn, hl, hi, hf => by
    unfold lackP
    cases hli : l[i]? with
    | none => exact ⟨_, rfl⟩
    | some id =>
      have hid := hl id (List.mem_of_getElem? hli)
      have hlt : i < l.length := (List.getElem?_eq_some_iff.1 hli).1
      have hlu := List.Nodup.length_le_of_subset hn (fun x hx => hl x hx)
      simp only
      cases hs : S id with
      | none => exact lackP_ends hU hn hl (by omega) (by omega)
      | some b =>
        refine lackP_ends hU (addIds_nodup _ _ hn) (fun x hx => ?_) ?_ (by omega)
        · rcases (addIds_mem _ _ _).1 hx with h1 | h1
          · exact hl x h1
          · exact hU id hid b hs x h1
        · obtain ⟨t, ht⟩ := addIds_pre (lkL (linksG b)) l
          rw [ht]; simp; omega
end

/-- a source of few records -/
def FinS (S : SrcT) (nv : Nat) : Prop := ∃ V : Ids, V.length ≤ nv ∧ ∀ x b, S x = some b → x ∈ V
def linksOf (S : SrcT) (x : List UInt8) : Ids := match S x with
  | none => []
  | some b => lkL (linksG b)
theorem linksG_few {b : List UInt8} {l : Ids} (h : linksG b = .ok l) : l.length ≤ 4096 := by
  unfold linksG at h
  obtain ⟨k, _, h⟩ := bindR_ok h
  split at h
  · obtain ⟨x, hx, h⟩ := bindR_ok h
    injection h with h
    subst h
    unfold getBlob at hx
    obtain ⟨vs, _, hx⟩ := bindR_ok hx
    obtain ⟨is, hi, hx⟩ := bindR_ok hx
    have := idsG_len hi
    unfold blobEnd at hx
    split at hx
    · cases hx
    · split at hx
      · cases hx
      · injection hx with hx; subst hx; exact this
  · split at h
    · obtain ⟨x, hx, h⟩ := bindR_ok h
      injection h with h
      subst h
      have := getTree_len hx
      simp; omega
    · split at h
      · obtain ⟨x, hx, h⟩ := bindR_ok h
        injection h with h
        subst h
        have := getCommit_len hx
        simp; omega
      · obtain ⟨x, hx, h⟩ := bindR_ok h
        injection h with h
        subst h
        simp
theorem lkL_few (b : List UInt8) : (lkL (linksG b)).length ≤ 4096 := by
  cases h : linksG b with
  | ok l => exact linksG_few h
  | error z => simp [lkL]
theorem flat_few {f : List UInt8 → Ids} (hf : ∀ x, (f x).length ≤ 4096) : ∀ V : Ids, (V.flatMap f).length ≤ V.length * 4096
  | [] => by simp
  | x :: V => by
    have h1 := flat_few hf V
    have h2 := hf x
    rw [List.flatMap_cons, List.length_append, List.length_cons]
    omega
theorem linksOf_few (S : SrcT) (x : List UInt8) : (linksOf S x).length ≤ 4096 := by
  unfold linksOf
  cases S x with
  | none => simp
  | some b => exact lkL_few b
/-- all ids that may be come by -/
theorem FinS.all {S : SrcT} {nv : Nat} (h : FinS S nv) (root : List UInt8) : ∃ U : Ids, U.length ≤ nv * 4096 + 1 ∧ root ∈ U ∧ ∀ x b, S x = some b → ∀ y ∈ lkL (linksG b), y ∈ U := by
  obtain ⟨V, h1, h2⟩ := h
  refine ⟨root :: V.flatMap (linksOf S), ?_, by simp, fun x b hx y hy => ?_⟩
  · have h3 := flat_few (linksOf_few S) V
    have h4 : V.length * 4096 ≤ nv * 4096 := Nat.mul_le_mul_right _ h1
    rw [List.length_cons]; omega
  · refine List.mem_cons_of_mem _ (List.mem_flatMap.2 ⟨x, h2 x b hx, ?_⟩)
    unfold linksOf
    rw [hx]; exact hy
theorem FinS.lack {S : SrcT} {nv : Nat} (h : FinS S nv) (root : List UInt8) : ∃ R, lackP S (nv * 4096 + 2) [root] 0 [] = some R := by
  obtain ⟨U, h1, h2, h3⟩ := h.all root
  exact lackP_ends (U := U) (fun x _ b hx y hy => h3 x b hx y hy) (by simp) (fun x hx => by have : x = root := (by simpa using hx); subst this; exact h2) (Nat.zero_le _) (by omega)

/-! ### what is lacking, without a count -/
open Classical in
noncomputable def lackL (S : SrcT) (root : List UInt8) : Ids := if h : ∃ R n, lackP S n [root] 0 [] = some R then h.choose else []
theorem lackL_eq {S : SrcT} {root : List UInt8} {n : Nat} {R : Ids} (h : lackP S n [root] 0 [] = some R) : lackL S root = R := by
  have hx : ∃ R n, lackP S n [root] 0 [] = some R := ⟨R, n, h⟩
  unfold lackL
  rw [dif_pos hx]
  obtain ⟨m, hm⟩ := hx.choose_spec
  exact lackP_det hm h
theorem FinS.lackL {S : SrcT} {nv : Nat} (h : FinS S nv) (root : List UInt8) : lackP S (nv * 4096 + 2) [root] 0 [] = some (lackL S root) := by
  obtain ⟨R, hR⟩ := h.lack root
  rw [hR, lackL_eq hR]
section
variable {S : SrcT} {nv : Nat} {root x : List UInt8}
theorem FinS.re (h : FinS S nv) (hx : x ∈ Proofs.Ytgmbkcjihgphmaa.lackL S root) : Re S root x ∧ S x = none :=
  lackP_sound (P := Re S root) (fun _ _ _ h1 h2 h3 => .step h1 h2 h3) (h.lackL root) (fun y hy => by have : y = root := (by simpa using hy); subst this; exact .root) (fun _ h => nomatch h) x hx
theorem FinS.lacks (h : FinS S nv) (hr : Re S root x) (hx : S x = none) : x ∈ Proofs.Ytgmbkcjihgphmaa.lackL S root := by
  obtain ⟨l', h1, h2⟩ := lackP_whole (h.lackL root) (fun j _ hj => absurd hj (Nat.not_lt_zero j))
  have hm : x ∈ l' := by
    clear hx
    induction hr with
    | root => exact h1 _ (by simp)
    | step _ h4 h5 ih => exact (h2 _ ih).2 _ h4 _ h5
  exact (h2 x hm).1 hx
theorem FinS.lack_len (h : FinS S nv) : (Proofs.Ytgmbkcjihgphmaa.lackL S root).length ≤ nv * 4096 + 1 := by
  have hn : ∀ {n : Nat} {l : Ids} {i : Nat} {out R : Ids}, lackP S n l i out = some R → R.length ≤ out.length + (n - 1) := by
    intro n
    induction n with
    | zero => intro l i out R h; simp [lackP] at h
    | succ n ih =>
      intro l i out R h
      unfold lackP at h
      cases hli : l[i]? with
      | none => rw [hli] at h; have h := Option.some.inj h; subst h; omega
      | some id =>
        rw [hli] at h
        simp only at h
        cases n with
        | zero => cases hs : S id <;> (rw [hs] at h; simp [lackP] at h)
        | succ n =>
          cases hs : S id with
          | none => rw [hs] at h; have := ih h; simp at this; omega
          | some b => rw [hs] at h; have := ih h; omega
  have := hn (h.lackL root)
  simp at this
  omega
end
theorem lackL_congr {S S' : SrcT} {nv : Nat} {root : List UInt8} (h : FinS S nv) (he : ∀ x, Re S root x → S x = S' x) : lackL S root = lackL S' root := by
  have h1 := h.lackL root
  have h2 := lackP_congr (S := S) (S' := S') (P := Re S root) he (fun _ _ _ h1 h2 h3 => .step h1 h2 h3) (n := nv * 4096 + 2) (l := [root]) (i := 0) (out := []) (fun y hy => by have : y = root := (by simpa using hy); subst this; exact .root)
  rw [h2] at h1
  exact (lackL_eq h1).symm
theorem srcF_fin {S : SrcT} {nv : Nat} (h : FinS S nv) (ad : AsT) : FinS (srcF S ad) (nv + ad.length) := by
  obtain ⟨V, h1, h2⟩ := h
  refine ⟨V ++ ad.map (·.1), by simp; omega, fun x b hx => ?_⟩
  unfold srcF at hx
  cases hg : getA ad x with
  | none => rw [hg] at hx; exact List.mem_append_left _ (h2 x b hx)
  | some b' =>
    unfold getA at hg
    cases hf : ad.find? (fun p => p.1 == x) with
    | none => rw [hf] at hg; cases hg
    | some p =>
      have h3 := List.find?_some hf
      have h3 : p.1 = x := by simpa using h3
      exact List.mem_append_right _ (List.mem_map.2 ⟨p, List.mem_of_find?_eq_some hf, h3⟩)
theorem getB_fin (rs : List RecT) : FinS (getB rs) rs.length := ⟨rs.map (·.1), by simp, fun x b hx => by
  unfold getB getS at hx
  cases hf : rs.find? (fun r => r.1 == x) with
  | none => rw [hf] at hx; cases hx
  | some p =>
    have h3 := List.find?_some hf
    have h3 : p.1 = x := by simpa using h3
    exact List.mem_map.2 ⟨p, List.mem_of_find?_eq_some hf, h3⟩⟩
end Go.Proofs.Ytgmbkcjihgphmaa
