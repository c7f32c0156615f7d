/- towlineref02.value: lists, and the whole; towlineref02.Decode. -/
import Derived.Test.YthpcanibahcghaaGrainRefFlt
set_option linter.unusedVariables false
namespace Go.Proofs.Ythpcanibahcghaa
open Go.RowKit

/-- the list that is read: its values so far, in a row of the call's own -/
structure LR (w wr : World) (gv : Nat) (L : Option Addr) (m c : Nat) (vs : List Val) : Prop where
  row : ∃ xs, wr.ownsRow (gv + 1) 27 5 (.slice L m c) m xs ∧ Each (valR.R wr (fun b => own (.slice L m c) b ∨ b < gv + 1)) xs vs
  len : m = vs.length
  gvb : Blk wr gv 27 (cellsV 3 0 none 0 0 0 L m c)
  ref : VRef w wr
  lt : w.heap.size < gv

theorem LR.start {w w2 : World} (h : VRef w w2) : LR w (w2.alloc (.cells (cellsV 3 0 none 0 0 0 none 0 0) 27)) w2.heap.size none 0 0 [] :=
  ⟨⟨[], World.ownsRow_nil _ _ _ _, .nil⟩, rfl, Blk.new _ _ _, h.go ((Below.refl _ _).alloc (Nat.le_refl _) _), h.blk.lt⟩

/-- one more value -/
theorem LR.more {w wr w6 w7 : World} {gv : Nat} {L L' : Option Addr} {m c c' : Nat} {vs : List Val} {x : Val} {cs : List Value} (h : LR w wr gv L m c vs) (hg : Below wr.heap.size wr w6) (hx : valR.R w6 (fun b => b < wr.heap.size) cs x)
    (hap : Appended (w6.alloc (.cells cs.toArray 27)) w7 (gv + 1) 27 5 (.slice L m c) (.slice L' (m + 1) c') (m + 1) ((h.row.choose) ++ cs)) :
    LR w (w7.setCell ⟨gv, 4, none⟩ (.slice L' (m + 1) c')) gv L' (m + 1) c' (vs ++ [x]) := by
  have hgl := h.gvb.lt
  have hrow := h.row.choose_spec
  have hlt := h.lt
  have hba : Below w6.heap.size w6 (w6.alloc (.cells cs.toArray 27)) := (Below.refl _ _).alloc (Nat.le_refl _) _
  have hsz := hg.size
  have hownlt : ∀ b, own (.slice L m c) b → b < wr.heap.size := fun b e => (hrow.1.lt b e).2
  have hne : ¬ own (.slice L m c) gv := fun e => by have := (hrow.1.lt gv e).1; omega
  have m1 : Moves wr w6 (fun b => own (.slice L m c) b ∨ b < gv + 1) (fun b => own (.slice L m c) b ∨ b < gv + 1) := Moves.of_below hg
  have m2 : Moves w6 (w6.alloc (.cells cs.toArray 27)) (fun b => own (.slice L m c) b ∨ b < gv + 1) (fun b => own (.slice L m c) b ∨ b < gv + 1) := Moves.of_below hba
  have m3 : Moves (w6.alloc (.cells cs.toArray 27)) w7 (fun b => own (.slice L m c) b ∨ b < gv + 1) (fun b => own (.slice L' (m + 1) c') b ∨ b < gv + 1) := Moves.of_app_in hap (fun b e => .inl e) (fun b e => e.elim (fun e => .inr e) (fun e => .inl (.inr e)))
  have m4 : Moves w7 (w7.setCell ⟨gv, 4, none⟩ (.slice L' (m + 1) c')) (fun b => own (.slice L' (m + 1) c') b ∨ b < gv + 1) (fun b => own (.slice L' (m + 1) c') b ∨ b < gv + 1) := Moves.grown (grown_set _ _ _ _) (.inr (Nat.lt_succ_self _))
  have hne' : ¬ own (.slice L' (m + 1) c') gv := fun e => by have := (hap.own.lt gv e).1; omega
  have hgv6 : Blk w6 gv 27 (cellsV 3 0 none 0 0 0 L m c) := h.gvb.below hg hgl
  have hgva := hgv6.below hba hgv6.lt
  have hgv7 : Blk w7 gv 27 (cellsV 3 0 none 0 0 0 L m c) := hgva.grown hap.grown (fun e => hne e.symm)
  have hr6 := (h.ref.go hg).go hba
  have hres7 : Blk w7 w.heap.size 27 zV := hr6.blk.grown hap.grown (fun e => by have := (hrow.1.lt _ e.symm).1; omega)
  have hb7 : Below w.heap.size w w7 := by
    have h1 := hap.below
    have h2 := hr6.below.size
    exact hr6.below.trans (h1.mono (by omega))
  have hset : Below w.heap.size w (w7.setCell ⟨gv, 4, none⟩ (.slice L' (m + 1) c')) := hb7.setCell (p := ⟨gv, 4, none⟩) (Nat.le_of_lt hlt) _
  refine ⟨⟨_, ?_, ((hrow.2.mono fun _ _ k => valR.stable k (((m1.trans m2).trans m3).trans m4)).snoc (valR.stable hx ?_))⟩, by simp [h.len], ?_, ⟨hset, hres7.other (by omega) 4 _⟩, hlt⟩
  · exact hap.own.kept (grown_set w7 gv 4 _) (by
      cases hv : (Value.slice L' (m + 1) c').ownBlock with
      | none => exact .inl rfl
      | some k => right; intro e; exact hne' (by unfold own; rw [hv]; exact e))
  · have q : Moves w6 w6 (fun b => b < wr.heap.size) (fun b => own (.slice L m c) b ∨ b < gv + 1) := Moves.less w6 (fun b _ e => e.elim (hownlt b) (fun e => by omega))
    exact ((q.trans m2).trans m3).trans m4
  · have := hgv7.set_ 4 (.slice L' (m + 1) c')
    exact this

/-- the list as a value -/
theorem LR.val {w wr : World} {gv : Nat} {L : Option Addr} {m c : Nat} {vs : List Val} (h : LR w wr gv L m c vs) (KV : Array Value) : valR.R (wr.setRow w.heap.size KV) (fun b => b < w.heap.size) (cellsV 3 0 none 0 0 0 L m c).toList (.mk 3 0 [] 0 vs) := by
  obtain ⟨xs, hrow, hes⟩ := h.row
  have hlt := h.lt
  obtain ⟨h1, h2⟩ := own_cap hrow
  have hrow' := own_row hrow (g := w.heap.size) (cs := KV) (by omega)
  have mv : Moves wr (wr.setRow w.heap.size KV) (fun b => own (.slice L m c) b ∨ b < gv + 1) (fun b => b < w.heap.size) :=
    (Moves.grown (grown_row wr w.heap.size KV) (.inr (by omega))).trans (Moves.less _ (fun b _ e => .inr (by omega)))
  refine valR_iff.2 ⟨none, 0, L, c, by rw [← h.len]; rfl, by decide, by omega, by omega, ⟨Nat.le_refl _, Nat.zero_le _, SlOf.nil⟩, by rw [← h.len]; exact h1, h2, xs, ?_, hes.mono fun _ _ k => valR.stable k mv, fun h0 b off e => ?_⟩
  · rw [← h.len]; exact Sl.ofOwn hrow'
  · obtain ⟨g, hg, hb, _⟩ := own_at hrow' (by rw [h.len]; exact h0)
    rw [hg] at e
    have e := Option.some.inj e
    injection e with e
    omega

set_option maxRecDepth 100000 in
set_option maxHeartbeats 4000000 in
theorem refVal_list {w : World} {s : ByteArray} {i : Nat} {z : Int} {nn d : Nat} {r : List UInt8} (hz : ¬ (16 : Int) < z) (hz0 : -1000 ≤ z) (hi : i ≤ s.size) (hs : s.size ≤ 1048576) (hr : rdH (s.data.toList.drop i) = .ok (3, nn, r))
    (ih : ∀ (w : World) (j : Nat), j ≤ s.size → Calls Try.prog 26 #[.string s, .int .i64 (j : Int), .int .i64 (z + 1)] w (ValAt w s (rd d (s.data.toList.drop j)))) :
    Calls Try.prog 26 #[.string s, .int .i64 (i : Int), .int .i64 z] w (ValAt w s (lstR (rdN (rd d) nn r))) := by
  obtain ⟨RR, hRR⟩ : ∃ RR, RR = rdN (rd d) nn r := ⟨_, rfl⟩
  have HRR := Lib.hid (show conL [] (rdN (rd d) nn r) = RR by rw [hRR]; cases rdN (rd d) nn r <;> simp [conL])
  generalize hR : lstR (rdN (rd d) nn r) = R
  have HR := Lib.hid (show lstR RR = R by rw [hRR, ← hR])
  have HIH := Lib.hid ih
  have HH := Lib.hid (refHeadAt_any s i (w.alloc (.cells zV 27)) hi hs)
  rw [hr] at HH
  have HV := Lib.hid (VRef.start w)
  obtain ⟨j, hj, hrj, hjs, hjr, _, hnn⟩ := rdH_place hr hi
  have HJ := Lib.hid hj
  have HRJ := Lib.hid hrj
  obtain ⟨m, hm⟩ : ∃ m, m = r.length := ⟨_, rfl⟩
  rw [← hm] at hjr
  have hmI : (s.size : Int) - (j : Int) = (m : Int) := by omega
  have hm64 : IntKind.u64.wrap (m : Int) = (m : Int) := by rw [wrap_u64]; omega
  have HM := Lib.hid hm
  have hzw : IntKind.i64.wrap (z + 1) = z + 1 := IntWalk.i64_in _ (by omega)
  obtain ⟨K0, hK0⟩ : ∃ K0, K0 = cellsV 3 0 none 0 0 0 none 0 0 := ⟨_, rfl⟩
  have HI0 := Lib.hid (hK0 ▸ cellsV_info 3 0 none 0 0 0 none 0 0)
  have HO0 := Lib.hid (hK0 ▸ cellsV_one 3 0 none 0 0 0 none 0 0)
  have HK0 := Lib.hid hK0
  clear hR hRR ih hr hrj hj hm hK0
  go_enter Try.func26, Try.ntmps26
  go_wp2_with fail
  refine HH.out.mono ?_
  rintro e w2 ⟨hb2, rfl⟩
  rw [HJ.out]
  have HV2 := Lib.hid (HV.out.go hb2)
  have HL0 := Lib.hid (LR.start HV2.out)
  have hnewA := Lib.hid (heap_alloc_new w2 (.cells #[.int .i64 0, .int .u64 0, .slice none 0 0, .float .f64 0, .slice none 0 0] 27))
  clear hb2 HV HH
  rw [← HK0.out] at HL0
  go_wp2_with (first | (refine wpList_store_row rfl _ _ _ rfl w2.heap.size K0 rfl (by rw [HK0.out]; rfl) 27 _ hnewA.out HI0.out (by rw [HK0.out]; rfl) HO0.out ?_) | fail)
  rw [World.setRow_alloc_new]
  clear hnewA HK0 HI0 HO0 HV2
  generalize w2.alloc (.cells K0 27) = w3 at *
  generalize w2.heap.size = gv at *
  clear K0 w2
  go_loopw [1, 17] (fun s1 s17 wr => ∃ (k k' j' : Nat) (L : Option Addr) (m c : Nat) (vs : List Val), s17 = .int .u64 (k : Int) ∧ s1 = .int .i64 (j' : Int) ∧ Hid (k + k' = nn) ∧ j' ≤ s.size ∧ Hid (conL vs (rdN (rd d) k' (s.data.toList.drop j')) = RR) ∧ Hid (m ≤ j') ∧ Hid (LR w wr gv L m c vs))
    (fun s1 s17 wr => nn - (intOf s17).toNat)
  case atStart => exact ⟨0, nn, j, none, 0, 0, [], rfl, rfl, Lib.hid (by omega), hjs, by rw [← HRJ.out]; exact HRR, Lib.hid (by omega), HL0⟩
  case round =>
    obtain ⟨k, k', j', L, m', c, vs, rfl, rfl, HKK, hj', HD, HMJ, HL⟩ := hrel
    have hk64 : k < 2 ^ 64 := by have := HKK.out; omega
    have hgv : wr.cell? ⟨gv, 4, none⟩ = some (.slice L m' c) := HL.out.gvb.cell 4
    have fgv := HL.out.gvb.frozen 4
    by_cases hk0 : k < nn
    · obtain ⟨k1, hk1⟩ : ∃ k1, k' = k1 + 1 := ⟨k' - 1, by have := HKK.out; omega⟩
      subst hk1
      have hkI : (k : Int) < (nn : Int) := by omega
      have HCV := Lib.hid (HIH.out wr j' hj')
      clear hgv fgv
      go_wp2_with fail
      refine HCV.out.mono ?_
      rintro e w5 ⟨hb5, hp⟩
      have hnewB := Lib.hid (heap_alloc_new w5 (.cells #[.int .i64 0, .int .u64 0, .slice none 0 0, .float .f64 0, .slice none 0 0] 27))
      rcases hrd : rd d (s.data.toList.drop j') with zz | ⟨x, q⟩
      · rw [hrd] at hp
        obtain ⟨jj, rfl⟩ := hp
        have hRE : R = .error zz := by rw [← HR.out, ← HD.out, conL_err vs hrd]; rfl
        have HRE := Lib.hid hRE
        have hzz := rd_err_ne d _ _ hrd
        have hzb : (zz != 0) = true := by simp [hzz]
        have HVE := Lib.hid ((HL.out.ref.go hb5).go ((Below.refl w5.heap.size w5).alloc (Nat.le_refl _) (.cells zV 27)))
        obtain ⟨KV, hKV⟩ : ∃ KV, KV = zV := ⟨_, rfl⟩
        have HI := Lib.hid (show (Try.prog.info? 27).map (·.size) = some KV.size by rw [hKV]; exact cellsV_info 0 0 none 0 0 0 none 0 0)
        have HO := Lib.hid (show KV.all (·.oneCell') = true by rw [hKV]; exact cellsV_one 0 0 none 0 0 0 none 0 0)
        have HKV := Lib.hid hKV
        rw [← hKV] at HVE ⊢
        clear hRE hzz hrd hKV hb5 HD HMJ HL HCV HIH HRR HR
        go_wp2_with (first
          | (refine wpList_store_row rfl _ _ _ rfl w5.heap.size KV rfl rfl 27 _ hnewB.out HI.out (by rw [HKV.out]; rfl) HO.out ?_; rw [World.setRow_alloc_new])
          | (refine wpList_store_row rfl _ _ _ rfl w.heap.size KV rfl (by rw [HKV.out]; rfl) 27 _ HVE.out.blk HI.out (by rw [HKV.out]) HO.out ?_) | fail)
        refine bodyPost_ret (results_row_tmp2 rfl _ _ w.heap.size 27 KV (.int .i64 (j' : Int)) (.int .i64 zz) rfl rfl rfl (setRow_heap _ w.heap.size _ _ _ _ HVE.out.blk) HI.out) rfl ?_
        rw [HRE.out]
        exact ⟨HVE.out.set KV, (j' : Int), by rw [HKV.out]⟩
      · rw [hrd] at hp
        obtain ⟨cs, rfl, hxr⟩ := hp
        have hxr' : valR.R w5 (fun b => b < wr.heap.size) cs x := hxr
        obtain ⟨kx, ux, bx, fx, lx⟩ := x
        obtain ⟨Bx, cBx, Lx, cLx, hcs, _⟩ := valR_iff.1 hxr
        subst hcs
        have hql := rd_lt hrd
        obtain ⟨j2, hj2⟩ : ∃ j2, j2 = s.size - q.length := ⟨_, rfl⟩
        have hqj : q = s.data.toList.drop j2 := by
          obtain ⟨e, he, _, _, _⟩ := rd_back d _ _ _ hrd
          have hl := congrArg List.length he
          simp at hl
          have h2 := congrArg (List.drop e.length) he
          rw [List.drop_drop, List.drop_left] at h2
          rw [← h2, hj2]
          congr 1
          have : q.length ≤ s.size := by simp at hql; omega
          omega
        have hj2s : j2 ≤ s.size := by omega
        have hjj2 : j' < j2 := by simp at hql; omega
        rw [← hj2]
        have HDN := Lib.hid (show conL (vs ++ [.mk kx ux bx fx lx]) (rdN (rd d) k1 (s.data.toList.drop j2)) = RR by rw [← hqj, ← conL_step vs hrd]; exact HD.out)
        have HMN := Lib.hid (show m' + 1 ≤ j2 by have := HMJ.out; omega)
        have HKN := Lib.hid (show k + 1 + k1 = nn by have := HKK.out; omega)
        obtain ⟨KX, hKX⟩ : ∃ KX : Array Value, KX = #[.int .i64 kx, .int .u64 (ux : Int), .slice Bx bx.length cBx, .float .f64 fx, .slice Lx lx.length cLx] := ⟨_, rfl⟩
        have HIX := Lib.hid (show (Try.prog.info? 27).map (·.size) = some KX.size by rw [hKX]; exact val_info)
        have HOX := Lib.hid (show KX.all (·.oneCell') = true by rw [hKX]; simp [Value.oneCell'])
        have HSX := Lib.hid (show (#[.int .i64 0, .int .u64 0, .slice none 0 0, .float .f64 0, .slice none 0 0] : Array Value).size = KX.size by rw [hKX]; rfl)
        have HKX := Lib.hid hKX
        change valR.R w5 (fun b => b < wr.heap.size) [.int .i64 kx, .int .u64 (ux : Int), .slice Bx bx.length cBx, .float .f64 fx, .slice Lx lx.length cLx] (.mk kx ux bx fx lx) at hxr'
        have hcs2 : ([Value.int .i64 kx, .int .u64 (ux : Int), .slice Bx bx.length cBx, .float .f64 fx, .slice Lx lx.length cLx] : List Value).toArray = KX := by rw [hKX]
        rw [hcs2]
        have hbx : Below w5.heap.size w5 (w5.alloc (.cells KX 27)) := (Below.refl _ _).alloc (Nat.le_refl _) _
        have hg6 := hb5.trans (hbx.mono hb5.size)
        have HX6 := Lib.hid (Blk.new w5 27 KX)
        have hx6 := valR.stable hxr' (Moves.of_below hbx)
        have HZW : IntKind.u64.wrap ((k : Int) + 1) = ((k + 1 : Nat) : Int) := by have := HKK.out; rw [wrap_u64]; omega
        clear hKX hql hrd hj2 hqj hxr hxr' HD HMJ HCV hcs2
        go_upto_region 32 with (first
          | (refine wpList_store_row rfl _ _ _ rfl w5.heap.size KX rfl rfl 27 _ hnewB.out HIX.out HSX.out HOX.out ?_; rw [World.setRow_alloc_new])
          | fail)
        have hkx := HKX.out
        clear HIX HOX HSX HKX hnewB hbx hb5
        generalize w5.heap.size = gx at *
        generalize w5.alloc (.cells KX 27) = w6 at *
        subst hkx
        have hB6 := HL.out.gvb.below hg6 HL.out.gvb.lt
        have hc6 : w6.cell? ⟨gv, 4, none⟩ = some (.slice L m' c) := hB6.cell 4
        have hrow := HL.out.row.choose_spec
        have hm1 : m' + 1 ≤ 1048576 := by have := HMN.out; omega
        have hown6 := (hrow.1.kept (grown_below hg6 none) (by
          cases hv : (Value.slice L m' c).ownBlock with
          | none => exact .inl rfl
          | some kk => right; intro e; cases e)).alloc (.cells #[.int .i64 kx, .int .u64 (ux : Int), .slice Bx bx.length cBx, .float .f64 fx, .slice Lx lx.length cLx] 27)
        obtain ⟨A7, c7, w7, run7, ap7, hc7, hm7⟩ := append_sl elemVal hown6 (Sl.fresh w6 #[.int .i64 kx, .int .u64 (ux : Int), .slice Bx bx.length cBx, .float .f64 fx, .slice Lx lx.length cLx] 27 (0, 0) 1 5 rfl) (by intro u hu; exact valR.one hx6 u (by simpa using hu)) (by omega) (by simp only [maxLen]; omega) (by have := hB6.lt; simp; omega) 25 1
        have HLN := Lib.hid (HL.out.more hg6 hx6 ap7)
        have hB7 := (hB6.alloc (.cells #[.int .i64 kx, .int .u64 (ux : Int), .slice Bx bx.length cBx, .float .f64 fx, .slice Lx lx.length cLx] 27)).grown ap7.grown (fun e => by have := (hrow.1.lt gv e.symm).1; omega)
        have hcC : w7.cell? ⟨gv, 4, none⟩ = some (.slice L m' c) := hB7.cell 4
        have hfC := hB7.frozen 4
        have HVI := Lib.hid (show (Try.prog.info? 27).map (·.size) = some (#[.int .i64 kx, .int .u64 (ux : Int), .slice Bx bx.length cBx, .float .f64 fx, .slice Lx lx.length cLx] : Array Value).size from val_info)
        clear hB6 hrow hown6 ap7 hB7 hx6 hg6 HL
        go_wp2_with (first
          | (refine wpList_load_row rfl 27 (.tmp 18) rfl gx rfl 27 _ (0, 0) _ HX6.out Try.underlying27 rfl HVI.out ?_)
          | (at_builtin; refine wpList_run_append run7 ?_ ?_ ?_; exact rfl; exact rfl) | fail)
        go_roundw
        case rel => exact ⟨k + 1, k1, j2, A7, m' + 1, c7, _, by go_num, rfl, HKN, hj2s, HDN, HMN, HLN⟩
        case measure => simp [intOf]; omega
    · have hkI : ¬ (k : Int) < (nn : Int) := by omega
      obtain rfl : k' = 0 := by have := HKK.out; omega
      have hRR : RR = .ok (vs, s.data.toList.drop j') := by rw [← HD.out]; simp [conL, rdN]
      have HRE := Lib.hid (show R = .ok (.mk 3 0 [] 0 vs, s.data.toList.drop j') by rw [← HR.out, hRR]; try rfl)
      obtain ⟨KV, hKV⟩ : ∃ KV, KV = cellsV 3 0 none 0 0 0 L m' c := ⟨_, rfl⟩
      have HI := Lib.hid (hKV ▸ cellsV_info 3 0 none 0 0 0 L m' c)
      have HO := Lib.hid (hKV ▸ cellsV_one 3 0 none 0 0 0 L m' c)
      have HG := Lib.hid (hKV ▸ HL.out.gvb)
      have HRB := Lib.hid HL.out.ref
      have HVR := Lib.hid (show valR.R (wr.setRow w.heap.size KV) (fun b => b < w.heap.size) KV.toList (.mk 3 0 [] 0 vs) by rw [hKV]; exact HL.out.val _)
      have HSZ := Lib.hid (show zV.size = KV.size by rw [hKV]; rfl)
      clear hRR hKV hgv fgv HD HMJ
      go_wp2_with (first
        | (refine wpList_load_row rfl 27 (.tmp 16) rfl gv rfl 27 KV (0, 0) _ HG.out Try.underlying27 rfl HI.out ?_)
        | (refine wpList_store_row rfl _ _ _ rfl w.heap.size KV rfl rfl 27 _ HRB.out.blk HI.out HSZ.out HO.out ?_))
      refine bodyPost_ret (results_row_tmp2 rfl _ _ w.heap.size 27 KV (.int .i64 (j' : Int)) (.int .i64 0) rfl rfl rfl (setRow_heap _ w.heap.size _ _ _ _ HRB.out.blk) HI.out) rfl ?_
      rw [HRE.out]
      have hjj : s.size - (s.data.toList.drop j').length = j' := by simp; omega
      exact ⟨HRB.out.set KV, KV.toList, by rw [hjj], HVR.out⟩

theorem refVal_any (s : ByteArray) (hs : s.size ≤ 1048576) : ∀ (d : Nat) (w : World) (i : Nat), d ≤ 16 → i ≤ s.size →
    Calls Try.prog 26 #[.string s, .int .i64 (i : Int), .int .i64 ((17 : Int) - (d : Int))] w (ValAt w s (rd d (s.data.toList.drop i))) := by
  intro d
  induction d with
  | zero => intro w i _ _; exact refVal_deep
  | succ d ih =>
    intro w i hd hi
    have hz : ¬ (16 : Int) < (17 : Int) - ((d + 1 : Nat) : Int) := by omega
    unfold rd
    cases hr : rdH (s.data.toList.drop i) with
    | error zz =>
      refine refVal_head hz hi hs hr ?_
      have : rd (d + 1) (s.data.toList.drop i) = .error zz := by unfold rd; rw [hr]
      exact rd_err_ne _ _ _ this
    | ok p =>
      obtain ⟨k, nn, r⟩ := p
      obtain ⟨j, _, _, _, _, hk4, _⟩ := rdH_place hr hi
      simp only []
      by_cases h0 : k = 0
      · subst h0; exact refVal_num hz hi hs hr
      rw [if_neg h0]
      by_cases h1 : k = 1
      · subst h1; exact refVal_bytes hz hi hs hr
      rw [if_neg h1]
      by_cases h2 : k = 2
      · subst h2; exact refVal_flt hz hi hs hr
      rw [if_neg h2]
      obtain rfl : k = 3 := by omega
      have := refVal_list (w := w) (d := d) hz (by omega) hi hs hr (fun w j hj => by
        have h2 := ih w j (by omega) hj
        rwa [show (17 : Int) - ((d + 1 : Nat) : Int) + 1 = (17 : Int) - (d : Int) from by omega])
      cases hq : rdN (rd d) nn r with
      | error e => rw [hq] at this; exact this
      | ok p => rw [hq] at this; exact this

def RefDec (w : World) (r : Res Val) (e : Ending) (w' : World) : Prop :=
  Below w.heap.size w w' ∧ match r with
    | .ok v => ∃ cs : List Value, e = .returned (.tuple #[.agg cs.toArray, .int .i64 0]) ∧ valR.R w' (fun b => b < w.heap.size) cs v
    | .error z => e = .returned (.tuple #[.agg zV, .int .i64 z])

theorem results_row_tmpV {fn : Func} {p u : Tmp} (h : fn.results = #[.cell p 27, .tmp u]) (tmps : Array Value) (w : World) (g : Nat) (t : TypeId) (cs : Array Value) (x : Value)
    (hp : tmps.getD p undef = .pointer (some ⟨g, 0, none⟩)) (hx : tmps.getD u undef = x) (hg : w.heap[g]? = some (.cells cs t (0, 0))) (hi : (Try.prog.info? 27).map (·.size) = some cs.size) :
    (results fn tmps).run Try.prog w = .ok (.tuple #[.agg cs, x]) w := by
  have hp' : tmps[p]?.getD undef = .pointer (some ⟨g, 0, none⟩) := by simpa using hp
  have hl := run_loadVar_row w g t 27 cs (0, 0) _ hg Try.underlying27 rfl hi
  subst hx
  simp [results, h, hp', asAddr, hl, Result.andThen]
end Go.Proofs.Ythpcanibahcghaa
