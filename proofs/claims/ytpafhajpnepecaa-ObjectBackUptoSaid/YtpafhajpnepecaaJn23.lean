/- Contracts and laws for what the statement reaches, joined: ObjRefNames, ObjRefIds, ObjRefBlob, ObjRefPutBlob. -/
import Derived.Test.YtpafhajpnepecaaJn18
import Derived.Test.YtpafhajpnepecaaJn22
import Derived.Test.YtpafhajpnepecaaJn3
/- towlineref09.names; a value's list that grows. -/
set_option linter.unusedVariables false
set_option linter.unusedSimpArgs false
namespace Go.Proofs.Ytpafhajpnepecaa
open Go.RowKit

theorem RowB.set {α : Type} {r : Rd α} {e : TypeId} {w : World} {base m c : Nat} {A : Option Addr} {l : List α} (h : RowB r e w base A m c l) {b0 : Nat} (hb : b0 < base) (i : Nat) (u : Value) : RowB r e (w.setCell ⟨b0, i, none⟩ u) base A m c l := by
  obtain ⟨xs, h1, h2⟩ := h.row
  exact ⟨⟨xs, own_setCell h1 u hb, h2.mono fun _ _ k => r.stable k (Moves.grown (grown_set w b0 i u) (.inl hb))⟩, h.len⟩
theorem RowB.setRow {α : Type} {r : Rd α} {e : TypeId} {w : World} {base m c : Nat} {A : Option Addr} {l : List α} (h : RowB r e w base A m c l) {b0 : Nat} (hb : b0 < base) (K : Array Value) : RowB r e (w.setRow b0 K) base A m c l := by
  obtain ⟨xs, h1, h2⟩ := h.row
  exact ⟨⟨xs, own_row h1 hb, h2.mono fun _ _ k => r.stable k (Moves.grown (grown_row w b0 K) (.inl hb))⟩, h.len⟩

/-- a value with a list that grows, in block gv; all that is older than gv + 1 is kept away from -/
structure VL (wr : World) (gv : Nat) (A : Option Addr) (m c : Nat) (vs : List Val) : Prop where
  row : RowB valR 84 wr (gv + 1) A m c vs
  blk : Blk wr gv 84 (cellsV 3 0 none 0 0 0 A m c)
theorem VL.start {w : World} {gv : Nat} (h : Blk w gv 84 (cellsV 3 0 none 0 0 0 none 0 0)) : VL w gv none 0 0 [] := ⟨RowB.nil _ _ _ _, h⟩
theorem VL.go {wr w' : World} {gv : Nat} {A : Option Addr} {m c : Nat} {vs : List Val} (h : VL wr gv A m c vs) (hb : Below wr.heap.size wr w') : VL w' gv A m c vs := ⟨h.row.below hb, h.blk.below hb h.blk.lt⟩
theorem VL.out {wr : World} {gv : Nat} {A : Option Addr} {m c : Nat} {vs : List Val} (h : VL wr gv A m c vs) : ∀ b, own (.slice A m c) b → gv < b ∧ b < wr.heap.size := fun b hb => by have := h.row.lt hb; omega
theorem VL.more {wr w6 : World} {gv : Nat} {A : Option Addr} {m c : Nat} {vs : List Val} {x : Val} {cs : List Value} (h : VL wr gv A m c vs) (hg : Below wr.heap.size wr w6) (hx : valR.R w6 (fun b => b < wr.heap.size) cs x) (hm : m ≤ 1000000) (c0 : Nat) :
    ∃ A' c' w7, (Builtin.append_ #[82, 82] 82 #[.slice A m c, .slice (some ⟨w6.heap.size, 0, none⟩) 1 c0]).run Try.prog (w6.alloc (.cells cs.toArray 84)) = .ok (.slice A' (m + 1) c') w7 ∧
      VL (w7.setCell ⟨gv, 4, none⟩ (.slice A' (m + 1) c')) gv A' (m + 1) c' (vs ++ [x]) ∧ w6.grownBy w7 (Value.slice A m c).ownBlock ∧ Blk w7 gv 84 (cellsV 3 0 none 0 0 0 A m c) ∧ Below (gv + 1) w6 w7 := by
  have hgl := h.blk.lt
  have hsz := hg.size
  obtain ⟨A', c', w7, run, hrow, hb7, hgr, _, _⟩ := (h.row.below hg).push elemVal (by omega) hx (fun b _ ho => by
    show b < wr.heap.size
    rcases ho with ho | ho
    · omega
    · exact (h.row.lt ho).2) (by omega) (by simp only [maxLen]; omega) 82 c0
  have hb6 : Blk w6 gv 84 (cellsV 3 0 none 0 0 0 A m c) := h.blk.below hg hgl
  have hb77 : Blk w7 gv 84 (cellsV 3 0 none 0 0 0 A m c) := hb6.grown hgr (fun e => by have := (h.out gv e.symm).1; omega)
  exact ⟨A', c', w7, run, ⟨hrow.set (Nat.lt_succ_self _) 4 _, hb77.set_ 4 _⟩, hgr, hb77, hb7⟩
/-- the value whole -/
theorem VL.val {wr : World} {gv : Nat} {A : Option Addr} {m c : Nat} {vs : List Val} (h : VL wr gv A m c vs) : valR.R wr (fun b => b < gv + 1) (cellsV 3 0 none 0 0 0 A m c).toList (lstV vs) := by
  obtain ⟨h1, h2⟩ := h.row.cap
  have hl := h.row.len
  have hs := h.row.sl
  exact valR_iff.2 ⟨none, 0, A, c, by rw [hl]; rfl, by decide, by omega, by omega, ⟨Nat.le_refl _, Nat.zero_le _, SlOf.nil⟩, by rw [← hl]; exact h1, h2, hs⟩

set_option maxRecDepth 100000 in
set_option maxHeartbeats 4000000 in
theorem refNames_any (A : Option Addr) (n c : Nat) (is : List (List UInt8)) (w : World) (hs : SlOf oidR w no A is) (hn : n = is.length) (hnl : n ≤ 1000000) :
    Calls Try.prog 42 #[.slice A n c] w fun e w' => (∃ cs : List Value, e = .returned (.agg cs.toArray) ∧ valR.R w' (fun b => b < w.heap.size) cs (lstV (is.map txtV))) ∧ Below w.heap.size w w' := by
  obtain ⟨K3, hK3⟩ : ∃ K3, K3 = cellsV 3 0 none 0 0 0 none 0 0 := ⟨_, rfl⟩
  obtain ⟨w2, hw2⟩ : ∃ w2, w2 = w.alloc (.cells zVal 84) := ⟨_, rfl⟩
  have hz2 : w2.heap.size = w.heap.size + 1 := by rw [hw2]; simp
  have hb2 : Below w.heap.size w w2 := by rw [hw2]; exact (Below.refl _ _).alloc (Nat.le_refl _) _
  have hb3 : Below w.heap.size w (w2.alloc (.cells K3 84)) := hb2.alloc (by omega) _
  have HZ := Lib.hid (show Blk (w2.alloc (.cells K3 84)) w.heap.size 84 zVal by rw [hw2]; exact (Blk.new w _ _).alloc _)
  have HV := Lib.hid (show VL (w2.alloc (.cells K3 84)) (w.heap.size + 1) none 0 0 ((is.take 0).map txtV) from VL.start (by
    have := Blk.new w2 84 K3
    rw [hz2, hK3] at this; rw [hK3]; exact this))
  have HBN := Lib.hid (Blk.new w2 84 zVal)
  have HI := Lib.hid (show (Try.prog.info? 84).map (·.size) = some K3.size by rw [hK3]; exact cellsV_info _ _ _ _ _ _ _ _ _)
  have HO := Lib.hid (show K3.all (·.oneCell') = true by rw [hK3]; exact cellsV_one _ _ _ _ _ _ _ _ _)
  have HKS := Lib.hid (show zVal.size = K3.size by rw [hK3]; rfl)
  have HK3 := Lib.hid hK3
  have HS := Lib.hid hs
  have HN := Lib.hid hn.symm
  have HB := Lib.hid hb3
  have HZ2 := Lib.hid hz2
  have HW2 := Lib.hid hw2
  clear hs hn hb3 hK3 hw2 hz2 hb2
  go_enter Try.func42, Try.ntmps42
  go_upto_region 1 with fail
  change Code.wp _ _ _ _ (w.alloc (.cells zVal 84))
  rw [← HW2.out]
  go_upto_region 2 with (first
    | (refine wpList_store_row rfl _ _ _ rfl w2.heap.size K3 rfl (by rw [HK3.out]; rfl) 84 _ HBN.out HI.out HKS.out HO.out ?_) | fail)
  rw [World.setRow_alloc_new, HZ2.out]
  clear HBN HI HO HKS HK3 HZ2 HW2
  generalize w2.alloc (.cells K3 84) = w3 at *
  clear w2
  generalize hg : w.heap.size = g at *
  have HG := Lib.hid hg
  clear hg
  go_wp2_with fail
  go_loopw [4] (fun s4 wr => ∃ (k : Nat) (A' : Option Addr) (c' : Nat), k ≤ n ∧ s4 = .int .i64 (k : Int) ∧ Hid (Below g w wr) ∧ Hid (Blk wr g 84 zVal) ∧ Hid (VL wr (g + 1) A' k c' ((is.take k).map txtV))) (fun s4 wr => n - (intOf s4).toNat)
  case atStart => exact ⟨0, none, 0, by omega, rfl, HB, HZ, HV⟩
  case round =>
    obtain ⟨k, A', c', hk, rfl, HB4, HZ4, HV4⟩ := hrel
    clear HB HZ HV
    by_cases hlt : k < n
    · have hltI : (k : Int) < (n : Int) := by omega
      obtain ⟨b1, o1, x, hA, hb1, hx, h32, hat⟩ := oids_look (HS.out.below (by rw [HG.out]; exact HB4.out)) HN.out hlt
      obtain ⟨KX, hKX⟩ : ∃ KX, KX = (bytesV x).toArray := ⟨_, rfl⟩
      have HI := Lib.hid (show (Try.prog.info? 27).map (·.size) = some KX.size by rw [hKX]; exact oid_size h32)
      have HNM := Lib.hid (fun w => refName_id x w h32)
      rw [← hKX] at hat HNM
      have HTK := Lib.hid (show (is.take k).map txtV ++ [txtV x] = (is.take (k + 1)).map txtV by rw [List.take_add_one, hx]; simp)
      have hb1w : b1 < g := by
        have h := HS.out
        obtain ⟨b1', o1', _, e1, h1, _⟩ := oids_look h HN.out hlt
        rw [hA] at e1
        have e1 := Option.some.inj e1
        injection e1 with e1
        have := HG.out
        omega
      subst hA
      have hdr : Below wr.heap.size wr wr.drew := Same.below ⟨1, rfl⟩ _
      have hc0 := HV4.out.blk.cell 4
      have hg1 := HV4.out.blk.lt
      have hs0 : wr.drew.cell? ⟨g + 1, 4, none⟩ = some (.slice A' k c') ∧ At wr.drew ⟨b1, o1 + k * 32, none⟩ KX := ⟨(hdr.cell (p := ⟨g + 1, 4, none⟩) hg1).trans hc0, hat.below hdr hb1⟩
      have HAT := Lib.hid hat
      clear hx h32 hKX hat
      go_upto_region 5 with fail
      refine wp_door (fun _ _ => False) 2 3 undef undef [] (fun _ _ _ _ _ _ hp => hp.elim) ?_
      refine wp_region_late (S := fun w => w.cell? ⟨g + 1, 4, none⟩ = some (.slice A' k c') ∧ At w ⟨b1, o1 + k * 32, none⟩ KX) (s := 10) (by kernel_rfl) ?_
      refine late_pure (i := 0) (v := ?_) (a' := ?_) rfl (by kernel_rfl) (by kernel_rfl) (by kernel_rfl) (by rfl) (fun _ _ _ h => (show False from h.2.2.2).elim) (by rfl) (fun _ => hs0) ?_ ?_ ?_
      rotate_left 2
      · (intro w; go_simp; try with_reducible rfl)
      · (go_simp; try with_reducible rfl)
      refine late_load (i := 1) (m := 1) (v := ?_) (a' := ?_) rfl (by kernel_rfl) (by kernel_rfl) (by kernel_rfl) (by kernel_rfl) (by rfl) (fun _ _ _ h => (show False from h.2.2.2).elim) (by rfl) hs0 ?_ ?_ ?_
      rotate_left 2
      · (intro w hS; have t := hS.1; go_simp; try with_reducible rfl)
      · (go_simp; try with_reducible rfl)
      refine late_pure (i := 2) (v := ?_) (a' := ?_) rfl (by kernel_rfl) (by kernel_rfl) (by kernel_rfl) (by rfl) (fun _ _ _ h => (show False from h.2.2.2).elim) (by rfl) (fun _ => hs0) ?_ ?_ ?_
      rotate_left 2
      · (intro w; go_simp; try with_reducible rfl)
      · (go_simp; try with_reducible rfl)
      refine late_pure (i := 3) (v := ?_) (a' := ?_) rfl (by kernel_rfl) (by kernel_rfl) (by kernel_rfl) (by rfl) (fun _ _ _ h => (show False from h.2.2.2).elim) (by rfl) (fun _ => hs0) ?_ ?_ ?_
      rotate_left 2
      · (intro w; go_simp; try with_reducible rfl)
      · (go_simp; try with_reducible rfl)
      refine late_pure (i := 4) (v := ?_) (a' := ?_) rfl (by kernel_rfl) (by kernel_rfl) (by kernel_rfl) (by rfl) (fun _ _ _ h => (show False from h.2.2.2).elim) (by rfl) (fun _ => hs0) ?_ ?_ ?_
      rotate_left 2
      · (intro w; go_simp; try with_reducible rfl)
      · (go_simp; try with_reducible rfl)
      refine late_load (i := 5) (m := 5) (v := ?_) (a' := ?_) rfl (by kernel_rfl) (by kernel_rfl) (by kernel_rfl) (by kernel_rfl) (by rfl) (fun _ _ _ h => (show False from h.2.2.2).elim) (by rfl) hs0 ?_ ?_ ?_
      rotate_left 2
      · (intro w hS; refine exec_load_at 27 (.tmp 16) ?_ b1 (o1 + k * 32) ?_ KX _ hS.2 Try.underlying27 rfl HI.out; exact rfl; exact rfl)
      · (go_simp; try with_reducible rfl)
      refine late_one (i := 6) (by kernel_rfl) rfl (fun KR hKR => ?_)
      go_simp
      refine (HNM.out _).mono ?_
      rintro e w6 ⟨⟨cs, rfl, hv⟩, hb6⟩
      have hb36 := hdr.trans (hb6.mono hdr.size)
      have hs6 : w6.cell? ⟨g + 1, 4, none⟩ = some (.slice A' k c') ∧ At w6 ⟨b1, o1 + k * 32, none⟩ KX := ⟨(hb36.cell (p := ⟨g + 1, 4, none⟩) hg1).trans hc0, HAT.out.below hb36 hb1⟩
      have hk5 : cs.length = 5 := valR.len hv
      obtain ⟨A9, c9, w7, run9, hVL, hgr, hblk, hb7⟩ := HV4.out.more hb36 (val_less hv hdr.size) (by omega) 1
      obtain ⟨K, hK⟩ : ∃ K, K = cs.toArray := ⟨_, rfl⟩
      have hKs : K.size = 5 := by rw [hK]; simpa using hk5
      have hbs := bsVal_of w6 K hKs
      rw [← hK] at run9 ⊢
      have hal : Below w6.heap.size w6 (w6.alloc (.cells K 84)) := (Below.refl _ _).alloc (Nat.le_refl _) _
      have hg6 : g + 1 < w6.heap.size := Nat.lt_of_lt_of_le hg1 hb36.size
      have hs7 : (w6.alloc (.cells K 84)).cell? ⟨g + 1, 4, none⟩ = some (.slice A' k c') ∧ At (w6.alloc (.cells K 84)) ⟨b1, o1 + k * 32, none⟩ KX := ⟨(hal.cell (p := ⟨g + 1, 4, none⟩) hg6).trans hs6.1, hs6.2.below hal (Nat.lt_of_lt_of_le hb1 hb36.size)⟩
      have hs8 : w7.cell? ⟨g + 1, 4, none⟩ = some (.slice A' k c') ∧ At w7 ⟨b1, o1 + k * 32, none⟩ KX := ⟨hblk.cell 4, hs6.2.below hb7 (show b1 < g + 1 + 1 by omega)⟩
      have hfz := hblk.frozen 4
      have hlz := hblk.lt
      have hcz : w7.cell? ⟨g + 1, 4, none⟩ = some (.slice A' k c') := hs8.1
      rw [HTK.out] at hVL
      have HV9 := Lib.hid hVL
      have hbg : Below g w w7 := (HB4.out.trans (hb36.mono (by have := HZ4.out.lt; omega))).trans (hb7.mono (by omega))
      have HB9 := Lib.hid (hbg.setCell (p := ⟨g + 1, 4, none⟩) (by show g ≤ g + 1; omega) (.slice A9 (k + 1) c9))
      have hz7 : Blk w7 g 84 zVal := (HZ4.out.below hb36 HZ4.out.lt).below hb7 (by omega)
      have HZ9 := Lib.hid (hz7.other (g' := g + 1) (by omega) 4 (.slice A9 (k + 1) c9))
      refine hKR _ _ (fun _ => hs6) ?_
      clear hKR KR
      refine late_one (i := 7) (by kernel_rfl) rfl (fun KR hKR => ?_)
      refine step_build (by rfl) (.tmp 18) (by rfl) (by rfl) hbs ?_
      refine hKR _ _ (fun _ => hs7) ?_
      clear hKR KR
      refine late_one (i := 8) (by kernel_rfl) rfl (fun KR hKR => ?_)
      refine step_run_append (by rfl) (.tmp 13) (.tmp 19) (by rfl) (by rfl) (by rfl) run9 ?_
      refine hKR _ _ (fun _ => hs8) ?_
      clear hKR KR
      refine late_pure (i := 9) (v := ?_) (a' := ?_) rfl (by kernel_rfl) (by kernel_rfl) (by kernel_rfl) (by rfl) (fun _ _ _ h => (show False from h.2.2.2).elim) (by rfl) (fun _ => hs8) ?_ ?_ ?_
      rotate_left 2
      · (intro w; go_simp; try with_reducible rfl)
      · (go_simp; try with_reducible rfl)
      refine late_one (i := 10) (by kernel_rfl) rfl (fun KR hKR => ?_)
      go_simp
      skip
      refine hKR _ _ (fun h0 => Bool.noConfusion (show (true : Bool) = false from h0)) ?_
      clear hKR KR
      refine late_done' (by kernel_rfl) ?_ _
      clear run9 hbs hs8 hs7 hs6 hs0
      refine door_normal ?_
      go_wp2_with fail
      go_roundw
      case rel => exact ⟨k + 1, A9, c9, by omega, by go_num, HB9, HZ9, HV9⟩
      case measure => simp [intOf]; omega
    · have hltI : ¬ (k : Int) < (n : Int) := by omega
      obtain rfl : k = n := by omega
      have htk : is.take k = is := List.take_of_length_le (by rw [HN.out]; exact Nat.le_refl _)
      have hv := HV4.out.val
      rw [htk] at hv
      obtain ⟨KV, hKV⟩ : ∃ KV, KV = cellsV 3 0 none 0 0 0 A' k c' := ⟨_, rfl⟩
      have HVB := Lib.hid (show Blk wr (g + 1) 84 KV by rw [hKV]; exact HV4.out.blk)
      have HI := Lib.hid (show (Try.prog.info? 84).map (·.size) = some KV.size by rw [hKV]; exact cellsV_info _ _ _ _ _ _ _ _ _)
      have HO := Lib.hid (show KV.all (·.oneCell') = true by rw [hKV]; exact cellsV_one _ _ _ _ _ _ _ _ _)
      have HKS := Lib.hid (show zVal.size = KV.size by rw [hKV]; rfl)
      have HVV := Lib.hid (show valR.R wr (fun b => b < g + 1 + 1) KV.toList (lstV (is.map txtV)) by rw [hKV]; exact hv)
      clear hv htk hKV
      go_wp2_with (first
        | (refine wpList_load_row rfl 84 (.tmp 3) rfl (g + 1) rfl 84 KV (0, 0) _ HVB.out Try.underlying84 rfl HI.out ?_)
        | (refine wpList_store_row rfl _ _ _ rfl g KV rfl rfl 84 _ HZ4.out HI.out HKS.out HO.out ?_) | fail)
      refine bodyPost_ret (results_cell_row rfl _ _ g 84 KV (0, 0) _ rfl (setRow_heap _ g _ _ _ _ HZ4.out) Try.underlying84 rfl HI.out) rfl ?_
      rw [HG.out]
      exact ⟨⟨KV.toList, by simp, valR.stable HVV.out ((Moves.grown (grown_row wr g KV) (show g < g + 1 + 1 by omega)).trans (Moves.less _ (fun b _ h => by have h : b < g := h; show b < g + 1 + 1; omega)))⟩, below_setRow HB4.out (Nat.le_refl _) KV⟩
end Go.Proofs.Ytpafhajpnepecaa

/- towlineref09.ids. -/
set_option linter.unusedVariables false
set_option linter.unusedSimpArgs false
namespace Go.Proofs.Ytpafhajpnepecaa
open Go.RowKit

theorem okI_len (v : Val) : (okI (idG v)).length = 32 := by
  unfold idG
  split
  · simp [okI]
  · rename_i h
    simp only [okI]
    apply Classical.byContradiction
    intro h2; exact h (.inr h2)
theorem idG_ok {v : Val} (h : okZ (idG v) = 0) : idG v = .ok (okI (idG v)) := by
  cases hd : idG v with
  | ok v => rfl
  | error z => rw [hd] at h; exact absurd h (idG_err hd)
theorem idG_bad {v : Val} (h : okZ (idG v) ≠ 0) : idG v = .error (okZ (idG v)) := by
  cases hd : idG v with
  | ok v => rw [hd] at h; exact absurd rfl h
  | error z => rfl

def RIds (w : World) (r : Res (List (List UInt8))) (e : Ending) (w' : World) : Prop :=
  Below w.heap.size w w' ∧ match r with
    | .ok l => ∃ L c, e = .returned (.tuple #[.slice L l.length c, .int .i64 0]) ∧ l.length ≤ c ∧ c ≤ maxLen ∧ SlOf oidR w' (fun b => b < w.heap.size) L l
    | .error z => e = .returned (.tuple #[.slice none 0 0, .int .i64 z])

set_option maxRecDepth 100000 in
set_option maxHeartbeats 4000000 in
theorem refIds_any (cs : List Value) (v : Val) (most : Nat) (w : World) (hv : valR.R w no cs v) (hm : most ≤ 1000000) :
    Calls Try.prog 62 #[.agg cs.toArray, .int .i64 (most : Int)] w (RIds w (idsG v most)) := by
  obtain ⟨KV, hKV, HK, -, -, -, -⟩ := keepNew w hv
  obtain ⟨k, u, b, f, l⟩ := v
  obtain ⟨A, cA, L, cL, hcs, _, _, _, _, hc1, hc2, hsl⟩ := valR_iff.1 hv
  obtain ⟨n, hn⟩ : ∃ n, n = l.length := ⟨_, rfl⟩
  have HSW := Lib.hid hsl
  have HN := Lib.hid hn.symm
  have HC0 := Lib.hid (show KV[0]? = some (.int .i64 k) by rw [hKV, hcs]; rfl)
  have HC4 := Lib.hid (show KV[4]? = some (.slice L n cL) by rw [hKV, hcs, hn]; rfl)
  have HBK := Lib.hid HK.out.blk
  have HB := Lib.hid ((Below.refl w.heap.size w).alloc (Nat.le_refl _) (.cells KV 84))
  obtain ⟨R, hR⟩ : ∃ R, R = idsG (.mk k u b f l) most := ⟨_, rfl⟩
  have HR := Lib.hid (show R = if k ≠ 3 then .error 91 else if most < n then .error 2 else eachG idG l by
    rw [hR, hn]; unfold idsG listG
    show bindR (if k ≠ 3 then Except.error 91 else if most < l.length then Except.error 2 else Except.ok l) (eachG idG) = _
    by_cases h1 : k ≠ 3
    · rw [if_pos h1, if_pos h1]; rfl
    · rw [if_neg h1, if_neg h1]
      by_cases h2 : most < l.length
      · rw [if_pos h2, if_pos h2]; rfl
      · rw [if_neg h2, if_neg h2]; rfl)
  rw [← hR]
  rw [← hKV]
  rw [← hn] at hc1
  simp only [maxLen] at hc2
  clear hKV hv hcs hsl HK hR hn
  have c0 := (HBK.out.cell 0).trans HC0.out
  have c4 := (HBK.out.cell 4).trans HC4.out
  go_enter Try.func62, Try.ntmps62
  go_upto_region 1 with fail
  generalize w.alloc (.cells KV 84) = w1 at *
  generalize hg : w.heap.size = g at *
  have HG := Lib.hid hg
  clear hg
  by_cases hk : k = 3
  · have e1 : (k != 3) = false := by simp [hk]
    by_cases hl : n ≤ most
    · have hI : ¬ (most : Int) < (n : Int) := by omega
      have HRR := Lib.hid (show R = eachG idG l by rw [HR.out, if_neg (by simp [hk]), if_neg (by omega)])
      clear hk HR
      obtain ⟨RR, hRR⟩ : ∃ RR, RR = R := ⟨_, rfl⟩
      have HC := Lib.hid (show conE [] (eachG idG (l.drop 0)) = R by rw [conE_nil, List.drop_zero, HRR.out])
      have HRW := Lib.hid (show RowB oidR 27 w1 (g + 1) none 0 0 [] from RowB.nil _ _ _ _)
      go_wp2_with fail
      go_loopw [6, 7] (fun s6 s7 wr => ∃ (q : Nat) (A' : Option Addr) (c' : Nat) (is : List (List UInt8)), q ≤ n ∧ s6 = .slice A' q c' ∧ s7 = .int .i64 (q : Int) ∧ Hid (Below g w wr) ∧ Hid (Blk wr g 84 KV) ∧ Hid (RowB oidR 27 wr (g + 1) A' q c' is) ∧ Hid (conE is (eachG idG (l.drop q)) = R)) (fun s6 s7 wr => n - (intOf s7).toNat)
      case atStart => exact ⟨0, none, 0, [], by omega, rfl, rfl, HB, HBK, HRW, HC⟩
      case round =>
        obtain ⟨q, A', c', is, hq, rfl, rfl, HB4, HK4, HR4, HC5⟩ := hrel
        clear HB HBK HRW HC c0 c4
        have c4 := (HK4.out.cell 4).trans HC4.out
        by_cases hlt : q < n
        · have hltI : (q : Int) < (n : Int) := by omega
          obtain ⟨bL, oL, cx, rfl, hbL, hvx, hat⟩ := val_at (HSW.out.below (by rw [HG.out]; exact HB4.out)) HN.out hlt
          have hvk := nthV_at (us := l) (k := q) (by rw [HN.out]; exact hlt)
          have HVK := Lib.hid hvk
          have HID := Lib.hid (refId_any cx (nthV l q) wr hvx)
          have hx5 : cx.length = 5 := valR.len hvx
          obtain ⟨KX, hKX⟩ : ∃ KX, KX = cx.toArray := ⟨_, rfl⟩
          have HI := Lib.hid (show (Try.prog.info? 84).map (·.size) = some KX.size by rw [hKX, show cx.toArray.size = 5 from by simpa using hx5]; exact val_info)
          rw [← hKX] at HID hat
          have HAT := Lib.hid hat
          obtain ⟨xb, hxb⟩ : ∃ xb, xb = okI (idG (nthV l q)) := ⟨_, rfl⟩
          obtain ⟨xz, hxz⟩ : ∃ xz, xz = okZ (idG (nthV l q)) := ⟨_, rfl⟩
          have h32 : xb.length = 32 := by rw [hxb]; exact okI_len _
          rw [← hxb, ← hxz] at HID
          have HXB := Lib.hid hxb
          have HXZ := Lib.hid hxz
          have H32 := Lib.hid h32
          obtain ⟨KB, hKB⟩ : ∃ KB, KB = (bytesV xb).toArray := ⟨_, rfl⟩
          rw [← hKB] at HID
          have HIB := Lib.hid (show (Try.prog.info? 27).map (·.size) = some KB.size by rw [hKB]; exact oid_size h32)
          have HOB := Lib.hid (show KB.all (·.oneCell') = true by rw [hKB]; exact oid_one _)
          have HZS := Lib.hid (show zID.size = KB.size by rw [hKB]; simp [bytesV, h32])
          have hKBs : KB.size = 32 := by rw [hKB]; simp [bytesV, h32]
          have hbs := fun w => (show (Instr.buildSlice 22 1 #[(0, .agg KB)]).run Try.prog w = _ from bsId_of w KB hKBs)
          have HKB := Lib.hid hKB
          clear hvx hat hvk hx5 hKX hxb hxz h32 hKB hKBs
          go_upto_region 9 with fail
          go_wp2_with (first
            | (refine wpList_load_at rfl _ _ rfl bL (oL + q * 5) rfl KX _ HAT.out Try.underlying84 rfl HI.out ?_)
            | fail)
          refine HID.out.mono ?_
          rintro e w5 ⟨rfl, hb5⟩
          have HB5 := Lib.hid (HB4.out.trans (hb5.mono (Nat.le_of_lt HK4.out.lt)))
          have hgl := HK4.out.lt
          have hal : Below w5.heap.size w5 (w5.alloc (.cells KB 27)) := (Below.refl _ _).alloc (Nat.le_refl _) _
          have HB6 := Lib.hid (HB5.out.trans (hal.mono (Nat.le_trans (Nat.le_of_lt hgl) hb5.size)))
          have HK6 := Lib.hid ((HK4.out.below hb5 hgl).below hal (Nat.lt_of_lt_of_le hgl hb5.size))
          have HR6 := Lib.hid ((HR4.out.below hb5).below hal)
          have HBN := Lib.hid (Blk.new w5 27 zID)
          have HX6 := Lib.hid (Blk.new w5 27 KB)
          clear HB4 HK4 HR4 hb5 hal HB5 HID c4
          go_upto_region 10 with (first
            | (refine wpList_store_row rfl _ _ _ rfl w5.heap.size KB rfl rfl 27 _ HBN.out HIB.out HZS.out HOB.out ?_) | fail)
          rw [World.setRow_alloc_new]
          clear HBN HZS HOB HI
          generalize w5.alloc (.cells KB 27) = w6 at *
          generalize w5.heap.size = gx at *
          by_cases hz : xz = 0
          · have e2 : (xz != 0) = false := by simp [hz]
            have hid : idG (nthV l q) = .ok xb := by rw [HXB.out]; exact idG_ok (by rw [← HXZ.out]; exact hz)
            have HC6 := Lib.hid (show conE (is ++ [xb]) (eachG idG (l.drop (q + 1))) = R by rw [← conE_step is HVK.out hid]; exact HC5.out)
            obtain ⟨A9, c9, w9, run9, hrow9, hb9, hgr9, _, _⟩ := HR6.out.push elemId (Nat.succ_le_of_lt HK6.out.lt) (av := fun _ => True) (oid_of w6 _ H32.out) (fun _ _ _ => trivial) (by omega) (by simp only [maxLen]; omega) 22 1
            rw [← HKB.out] at run9
            have HB9 := Lib.hid (show Below g w w9 from HB6.out.trans (hb9.mono (Nat.le_succ _)))
            have HK9 := Lib.hid (HK6.out.below hb9 (Nat.lt_succ_self g))
            have HR9 := Lib.hid hrow9
            clear hz hid HR6 hrow9 hb9 hgr9
            go_wp2_with (first
              | (refine wpList_load_row rfl 27 (.tmp 8) rfl gx rfl 27 KB (0, 0) _ HX6.out Try.underlying27 rfl HIB.out ?_)
              | (refine wpList_build1 rfl (.tmp 38) rfl (.agg KB) _ rfl (hbs _) ?_)
              | (at_builtin; refine wpList_run_append run9 ?_ ?_ ?_; exact rfl; exact rfl)
              | fail)
            go_roundw
            case rel => exact ⟨q + 1, A9, c9, is ++ [xb], by omega, rfl, by go_num, HB9, HK9, HR9, HC6⟩
            case measure => simp [intOf]; omega
          · have e2 : (xz != 0) = true := by simp [hz]
            have hid : idG (nthV l q) = .error xz := by have := idG_bad (v := nthV l q) (by rw [← HXZ.out]; exact hz); rw [this, HXZ.out]
            have HRE := Lib.hid (show R = .error xz by rw [← HC5.out]; exact conE_err is HVK.out hid)
            clear hz hid
            go_wp2_with fail
            go_ret2
            unfold RIds
            rw [HG.out, HRE.out]
            exact ⟨HB6.out, rfl⟩
        · have hltI : ¬ (q : Int) < (n : Int) := by omega
          obtain rfl : q = n := by omega
          have hrr : R = .ok is := by rw [← HC5.out]; exact conE_end is (by rw [HN.out]; exact Nat.le_refl _)
          have HRE := Lib.hid hrr
          clear hrr
          go_wp2_with fail
          go_ret2
          unfold RIds
          rw [HG.out, HRE.out]
          obtain ⟨h1, h2⟩ := HR4.out.cap
          have hl := HR4.out.len
          exact ⟨HB4.out, A', c', by rw [← hl]; rfl, by rw [← hl]; exact h1, h2, HR4.out.sl.stable (Moves.less _ (fun b _ h => by have h : b < g := h; show b < g + 1; omega))⟩
    · have hI : (most : Int) < (n : Int) := by omega
      have HRR := Lib.hid (show R = .error 2 by rw [HR.out, if_neg (by simp [hk]), if_pos (by omega)])
      clear hk
      go_wp2_with fail
      go_ret2
      unfold RIds
      rw [HG.out, HRR.out]
      exact ⟨HB.out, rfl⟩
  · have e1 : (k != 3) = true := by simp [hk]
    have HRR := Lib.hid (show R = .error 91 by rw [HR.out, if_pos hk])
    clear hk
    go_wp2_with fail
    go_ret2
    unfold RIds
    rw [HG.out, HRR.out]
    exact ⟨HB.out, rfl⟩
end Go.Proofs.Ytpafhajpnepecaa

/- towlineref09.PutChunk, .GetChunk, .PutBlob, .GetBlob. -/
set_option linter.unusedVariables false
set_option linter.unusedSimpArgs false
namespace Go.Proofs.Ytpafhajpnepecaa
open Go.RowKit
attribute [local go_sem ↓] cvt_eq

theorem textG_ok {v : Val} {most : Nat} (h : okZ (textG v most) = 0) : textG v most = .ok v.bytes := by
  unfold textG at h ⊢
  by_cases h1 : v.kind ≠ 1
  · rw [if_pos h1] at h; exact absurd h (by decide)
  · rw [if_neg h1] at h ⊢
    by_cases h2 : most < v.bytes.length
    · rw [if_pos h2] at h; exact absurd h (by decide)
    · rw [if_neg h2]
theorem textG_bad {v : Val} {most : Nat} (h : okZ (textG v most) ≠ 0) : textG v most = .error (okZ (textG v most)) := by
  cases hd : textG v most with
  | ok v => rw [hd] at h; exact absurd rfl h
  | error z => rfl
/-- a value's bytes in memory -/
theorem val_bytes {w : World} {av : Av} {b o : Nat} {cs : List Value} {v : Val} (hv : valR.R w av cs v) (hat : At w ⟨b, o, none⟩ cs.toArray) : ∃ A c, w.cell? ⟨b, o + 2, none⟩ = some (.slice A v.bytes.length c) ∧ Sl w 1 A v.bytes.length (bytesV v.bytes) ∧ v.bytes.length ≤ c ∧ c ≤ maxLen := by
  obtain ⟨k, u, bs, f, l⟩ := v
  obtain ⟨A, cA, M, cM, rfl, _, _, _, ⟨h1, h2, h3⟩, _⟩ := valR_iff.1 hv
  exact ⟨A, cA, hat 2 _ rfl, h3.bytes, h1, h2⟩

set_option maxRecDepth 100000 in
set_option maxHeartbeats 2000000 in
theorem refPutChunk_any (s : ByteArray) (w : World) (hs : s.size ≤ maxLen) : Calls Try.prog 35 #[.string s] w (RefEnc w (putChunk (sB s))) := by
  obtain ⟨R, hR⟩ : ∃ R, R = putChunk (sB s) := ⟨_, rfl⟩
  have HR := Lib.hid (show R = if 262144 < s.size then .error 2 else sealG 1 [txtV (sB s)] by rw [hR]; unfold putChunk; simp only [sB, Array.length_toList]; rfl)
  rw [← hR]
  clear hR
  by_cases hl : 262144 < s.size
  · have hI : (262144 : Int) < (s.size : Int) := by omega
    have HRR := Lib.hid (show R = .error 2 by rw [HR.out, if_pos hl])
    go_enter Try.func35, Try.ntmps35
    go_wp2_with fail
    go_ret2
    exact ⟨Below.refl _ _, by rw [HRR.out]; rfl⟩
  · have hI : ¬ (262144 : Int) < (s.size : Int) := by omega
    have HRR := Lib.hid (show R = sealG 1 [txtV (sB s)] by rw [HR.out, if_neg hl])
    have HTX := Lib.hid (refBytes_any s w hs)
    have HLN := Lib.hid (show (sB s).length ≤ 262144 by simp only [sB, Array.length_toList]; show s.size ≤ _; omega)
    clear HR
    go_enter Try.func35, Try.ntmps35
    go_wp2_with fail
    refine HTX.out.mono ?_
    rintro e w2 ⟨⟨cs, rfl, hv⟩, hb2⟩
    have hk5 : cs.length = 5 := valR.len hv
    obtain ⟨K, hK⟩ : ∃ K, K = cs.toArray := ⟨_, rfl⟩
    have hKs : K.size = 5 := by rw [hK]; simpa using hk5
    have hbs := bsVal_of w2 K hKs
    have hal : Below w2.heap.size w2 (w2.alloc (.cells K 84)) := (Below.refl _ _).alloc (Nat.le_refl _) _
    have HB3 := Lib.hid (hb2.trans (hal.mono hb2.size))
    have hsl : SlOf valR (w2.alloc (.cells K 84)) no (some ⟨w2.heap.size, 0, none⟩) [txtV (sB s)] := by
      rw [hK]; exact sl_built (Each.one (valR.stable hv (Moves.forget _ _)))
    have HSEAL := Lib.hid (refSeal_any 1 (some ⟨w2.heap.size, 0, none⟩) 1 1 [txtV (sB s)] _ (by omega) hsl rfl (by omega) (by simp only [bulkVs, bulkV, txtV]; have := HLN.out; omega))
    rw [← HRR.out] at HSEAL
    rw [← hK]
    clear hv hk5 hK hKs hb2 hal hsl HTX
    go_wp2_with (first
      | (refine wpList_build1 rfl (.tmp 8) rfl (.agg K) _ rfl hbs ?_)
      | fail)
    refine HSEAL.out.mono ?_
    intro e w5 hp
    have hp := hp.lower HB3.out
    obtain ⟨rfl, hb5⟩ := hp.use
    have HB5 := Lib.hid hb5
    clear hp hb5 HSEAL hbs
    go_wp2_with fail
    go_ret2
    exact RefEnc.of rfl HB5.out

set_option maxRecDepth 100000 in
set_option maxHeartbeats 2000000 in
theorem refGetChunk_any (s : ByteArray) (w : World) : Calls Try.prog 19 #[.string s] w (RefEnc w (getChunk (sB s))) := by
  have HOP := Lib.hid (refOpen_any s 1 1 w (by omega) (by omega) (by omega))
  obtain ⟨R, hR⟩ : ∃ R, R = getChunk (sB s) := ⟨_, rfl⟩
  obtain ⟨D, hD⟩ : ∃ D, D = openG (sB s) 1 1 := ⟨_, rfl⟩
  have HR := Lib.hid (show R = bindR D fun vs => textG (nthV vs 0) 262144 by rw [hR, hD]; rfl)
  have HDL := Lib.hid hD
  rw [← hR]
  rw [← hD] at HOP
  clear hR hD
  go_enter Try.func19, Try.ntmps19
  go_wp2_with fail
  refine HOP.out.mono ?_
  rintro e w2 ⟨hb2, hp⟩
  cases D with
  | error z =>
    obtain rfl : e = _ := hp
    have HRR := Lib.hid (show R = .error z from HR.out)
    have hz := openG_err HDL.out.symm
    have e1 : (z == 0) = false := by simp [hz]
    have e2 : (z != 0) = true := by simp [hz]
    clear hz
    go_wp2_with fail
    go_ret2
    exact ⟨hb2, by rw [HRR.out]; rfl⟩
  | ok vs =>
    obtain ⟨L, cL, rfl, hl1, hl2, hsl⟩ := hp
    have hlen := openG_len HDL.out.symm
    rw [hlen] at hl1 ⊢
    obtain ⟨bL, oL, cs, rfl, hbL, hv, hat⟩ := val_at hsl hlen (i := 0) (by omega)
    have hk5 : cs.length = 5 := valR.len hv
    obtain ⟨Ab, cb, hcb, hslb, hcb1, hcb2⟩ := val_bytes hv hat
    obtain ⟨KV, hKV⟩ : ∃ KV, KV = cs.toArray := ⟨_, rfl⟩
    have HI := Lib.hid (show (Try.prog.info? 84).map (·.size) = some KV.size by rw [hKV, show cs.toArray.size = 5 from by simpa using hk5]; exact val_info)
    have HAT := Lib.hid (show At w2 ⟨bL, oL, none⟩ KV by rw [hKV]; simpa using hat)
    have HT := Lib.hid (refText_any cs (nthV vs 0) 262144 w2 (valR.stable hv (Moves.forget w2 _)) (by omega))
    rw [← hKV] at HT
    obtain ⟨tz, htz⟩ : ∃ tz, tz = okZ (textG (nthV vs 0) 262144) := ⟨_, rfl⟩
    rw [← htz] at HT
    have HTZ := Lib.hid htz
    obtain ⟨vb, hvb⟩ : ∃ vb, vb = (nthV vs 0).bytes := ⟨_, rfl⟩
    rw [← hvb] at hcb hslb hcb1
    have hcb : w2.cell? ⟨bL, oL + 2, none⟩ = some (.slice Ab vb.length cb) := by simpa using hcb
    have HVB := Lib.hid hvb
    have HSB := Lib.hid hslb
    have HB2 := Lib.hid hb2
    have HRR := Lib.hid (show R = textG (nthV vs 0) 262144 from HR.out)
    obtain ⟨nb, hnb⟩ : ∃ nb, nb = vb.length := ⟨_, rfl⟩
    rw [← hnb] at hcb hcb1
    have HNB := Lib.hid hnb
    simp only [maxLen] at hcb2
    clear hlen hsl hv hat hk5 hKV HR HDL HOP hb2 htz hvb hslb hnb
    go_wp2_with (first | (refine wpList_load_at rfl _ _ rfl bL oL rfl KV _ HAT.out Try.underlying84 rfl HI.out ?_) | fail)
    refine HT.out.mono ?_
    rintro e w3 ⟨rfl, hb3⟩
    have HB3 := Lib.hid (HB2.out.trans (hb3.mono HB2.out.size))
    have hcb3 : w3.cell? ⟨bL, oL + 2, none⟩ = some (.slice Ab nb cb) := (hb3.cell (p := ⟨bL, oL + 2, none⟩) hbL).trans hcb
    have HSB3 := Lib.hid (HSB.out.below hb3)
    clear hcb hb3 HT HB2 HSB
    by_cases hz : tz = 0
    · have e1 : (tz != 0) = false := by simp [hz]
      have HRE := Lib.hid (show R = .ok vb by rw [HRR.out, HVB.out]; exact textG_ok (by rw [← HTZ.out]; exact hz))
      have hcv : cvt w3 Ab nb cb = .ok (.string ⟨vb.toArray⟩) w3 := by rw [HNB.out]; exact cvt_of HSB3.out cb
      clear hz
      go_wp2_with fail
      go_ret2
      exact ⟨HB3.out, by rw [HRE.out]; rfl⟩
    · have e1 : (tz != 0) = true := by simp [hz]
      have HRE := Lib.hid (show R = .error tz by rw [HRR.out, HTZ.out]; exact textG_bad (by rw [← HTZ.out]; exact hz))
      clear hz
      go_wp2_with fail
      go_ret2
      exact ⟨HB3.out, by rw [HRE.out]; rfl⟩
end Go.Proofs.Ytpafhajpnepecaa

/- towlineref09.PutBlob. -/
set_option linter.unusedVariables false
set_option linter.unusedSimpArgs false
namespace Go.Proofs.Ytpafhajpnepecaa
open Go.RowKit

set_option maxRecDepth 100000 in
set_option maxHeartbeats 4000000 in
theorem refPutBlob_any (A : Option Addr) (n c : Nat) (is : List (List UInt8)) (sz : Int) (w : World) (hs : SlOf oidR w no A is) (hn : n = is.length) (hnc : n ≤ c) (hcm : c ≤ maxLen) (hwf : (Lit.int .i64 sz).wf = true) :
    Calls Try.prog 10 #[.agg #[.slice A n c, .int .i64 sz]] w (RefEnc w (putBlob (is, sz))) := by
  obtain ⟨R, hR⟩ : ∃ R, R = putBlob (is, sz) := ⟨_, rfl⟩
  have HR := Lib.hid (show R = if 4096 < n ∨ 262144 < sz then .error 2 else if sz < 0 then .error 1 else sealG 2 [lstV (is.map txtV), numV sz.toNat] by rw [hR, hn]; rfl)
  rw [← hR]
  have hba : Below w.heap.size w (w.alloc (.cells #[.slice A n c, .int .i64 sz] 38)) := (Below.refl _ _).alloc (Nat.le_refl _) _
  have HS := Lib.hid (hs.below hba)
  have HN := Lib.hid hn
  have HBK := Lib.hid (bulk_ids is (oids_32 hs))
  have HB1 := Lib.hid hba
  have HK := Blk.new w 38 #[.slice A n c, .int .i64 sz]
  have hc0 : (w.alloc (.cells #[.slice A n c, .int .i64 sz] 38)).cell? ⟨w.heap.size, 0, none⟩ = some (.slice A n c) := HK.cell 0
  have hc1 : (w.alloc (.cells #[.slice A n c, .int .i64 sz] 38)).cell? ⟨w.heap.size, 1, none⟩ = some (.int .i64 sz) := HK.cell 1
  have hlt := HK.lt
  clear hR hs hn hba HK
  go_enter Try.func10, Try.ntmps10
  go_upto_region 1 with fail
  generalize w.alloc (.cells #[.slice A n c, .int .i64 sz] 38) = w1 at *
  generalize hg : w.heap.size = g at *
  have HG := Lib.hid hg
  clear hg
  by_cases h1 : 4096 < n
  · have hI : (4096 : Int) < (n : Int) := by omega
    have HRR := Lib.hid (show R = .error 2 by rw [HR.out, if_pos (.inl h1)])
    go_wp2_with fail
    go_ret2
    exact ⟨by rw [HG.out]; exact HB1.out, by rw [HRR.out]; rfl⟩
  · have hI : decide ((4096 : Int) < (n : Int)) = false := by simp; omega
    have hI2 : ¬ (4096 : Int) < (n : Int) := by omega
    by_cases h2 : 262144 < sz
    · have hJ : (262144 : Int) < sz := h2
      have HRR := Lib.hid (show R = .error 2 by rw [HR.out, if_pos (.inr h2)])
      go_wp2_with fail
      go_ret2
      exact ⟨by rw [HG.out]; exact HB1.out, by rw [HRR.out]; rfl⟩
    · have hJ : decide ((262144 : Int) < sz) = false := by simp; omega
      have hJ2 : ¬ (262144 : Int) < sz := h2
      by_cases h3 : sz < 0
      · have HRR := Lib.hid (show R = .error 1 by rw [HR.out, if_neg (by omega), if_pos h3])
        go_wp2_with fail
        go_ret2
        exact ⟨by rw [HG.out]; exact HB1.out, by rw [HRR.out]; rfl⟩
      · have hL : decide (sz < 0) = false := by simp; omega
        have HRR := Lib.hid (show R = sealG 2 [lstV (is.map txtV), numV sz.toNat] by rw [HR.out, if_neg (by omega), if_neg h3])
        have hn4 : n ≤ 1000000 := by omega
        clear HR
        go_upto_region 5 with fail
        obtain ⟨zn, hzn⟩ : ∃ zn : Nat, sz = (zn : Int) := ⟨sz.toNat, by omega⟩
        subst hzn
        have hrr : R = sealG 2 [lstV (is.map txtV), numV zn] := HRR.out
        clear HRR
        have HRR := Lib.hid hrr
        clear hrr
        have hz63 : zn < 2 ^ 63 := by omega
        have hdr : Below w1.heap.size w1 w1.drew := Same.below ⟨1, rfl⟩ _
        have HN4 := Lib.hid (show n ≤ 4096 by omega)
        refine wp_region_held (S := fun w => Below w1.heap.size w1 w) (by kernel_rfl) ?_
        change wpAnyH _ _ _ _ _ _ _ _ (World.drew _)
        refine held_take (i := 0) (v := ?_) (a' := ?_) rfl (by kernel_rfl) (by kernel_rfl) (by kernel_rfl) (fun _ _ _ h => h) (by rfl) hdr ?_ ?_ ?_
        rotate_left 2
        · (intro w hS; go_simp; try with_reducible rfl)
        · (go_simp; try with_reducible rfl)
        refine held_take (i := 1) (v := ?_) (a' := ?_) rfl (by kernel_rfl) (by kernel_rfl) (by kernel_rfl) (fun _ _ _ h => h) (by rfl) hdr ?_ ?_ ?_
        rotate_left 2
        · (intro w hS; have t := (hS.cell (p := ⟨g, 0, none⟩) hlt).trans hc0; go_simp; try with_reducible rfl)
        · (go_simp; try with_reducible rfl)
        refine held_take (i := 3) (v := ?_) (a' := ?_) rfl (by kernel_rfl) (by kernel_rfl) (by kernel_rfl) (fun _ _ _ h => h) (by rfl) hdr ?_ ?_ ?_
        rotate_left 2
        · (intro w hS; go_simp; try with_reducible rfl)
        · (go_simp; try with_reducible rfl)
        refine held_take (i := 4) (v := ?_) (a' := ?_) rfl (by kernel_rfl) (by kernel_rfl) (by kernel_rfl) (fun _ _ _ h => h) (by rfl) hdr ?_ ?_ ?_
        rotate_left 2
        · (intro w hS; have t := (hS.cell (p := ⟨g, 1, none⟩) hlt).trans hc1; go_simp; try with_reducible rfl)
        · (go_simp; try with_reducible rfl)
        refine held_ready (rs := [2]) (by kernel_rfl) (by simp) ?_
        refine AllHeld.cons rfl (fun KR hKR => ?_) ?_
        · go_simp
          refine (refNames_any A n c is w1.drew (HS.out.below hdr) HN.out hn4).mono ?_
          rintro e w3 ⟨⟨cs, rfl, hv0⟩, hb3⟩
          have hv := valR.stable hv0 (Moves.forget _ _)
          have hbA := hdr.trans (hb3.mono hdr.size)
          have hk5 : cs.length = 5 := valR.len hv
          obtain ⟨K0, hK0⟩ : ∃ K0, K0 = cs.toArray := ⟨_, rfl⟩
          have HV0 := Lib.hid (show valR.R w3 no K0.toList (lstV (is.map txtV)) by rw [hK0]; simpa using hv)
          have HK0 := Lib.hid (show K0.size = 5 by rw [hK0]; simpa using hk5)
          rw [← hK0]
          clear hv hv0 hk5 hK0 hb3
          refine hKR _ _ hbA ?_
          clear hKR KR
          refine held_ready (rs := [5]) (by kernel_rfl) (by simp) ?_
          refine AllHeld.cons rfl (fun KR hKR => ?_) ?_
          · go_simp
            refine (refNum_any zn hz63 _).mono ?_
            rintro e w4 ⟨⟨cs, rfl, hv⟩, hb4⟩
            have hbB := hbA.trans (hb4.mono hbA.size)
            have hk5 : cs.length = 5 := valR.len hv
            obtain ⟨K1, hK1⟩ : ∃ K1, K1 = cs.toArray := ⟨_, rfl⟩
            have HV1 := Lib.hid (show valR.R w4 no K1.toList (numV zn) by rw [hK1]; exact valR.stable hv (Moves.forget _ _))
            have hK15 : K1.size = 5 := by rw [hK1]; simpa using hk5
            have hrun : (Instr.buildSlice 82 2 #[(0, .agg K0), (1, .agg K1)]).run Try.prog w4 = .ok (.slice (some ⟨w4.heap.size, 0, none⟩) 2 2) (w4.alloc (.cells ([K0, K1].flatMap (·.toList)).toArray 84)) := bsVals_of w4 [K0, K1] 2 rfl (by omega) (by omega) (fun K hK => by
              rcases List.mem_cons.1 hK with rfl | hK
              · exact HK0.out
              · obtain rfl : K = K1 := by simpa using hK
                exact hK15)
            have hbC : Below w1.heap.size w1 (w4.alloc (.cells ([K0, K1].flatMap (·.toList)).toArray 84)) := hbB.alloc hbB.size _
            have hsl : SlOf valR (w4.alloc (.cells ([K0, K1].flatMap (·.toList)).toArray 84)) no (some ⟨w4.heap.size, 0, none⟩) [lstV (is.map txtV), numV zn] := sl_built (.cons (valR.stable HV0.out (Moves.of_below hb4)) (.cons HV1.out .nil))
            have HSL := Lib.hid hsl
            have HSEAL : Hid (Calls Try.prog 41 #[.int .i64 2, .slice (some ⟨w4.heap.size, 0, none⟩) 2 2] (w4.alloc (.cells ([K0, K1].flatMap (·.toList)).toArray 84)) (RefEnc (w4.alloc (.cells ([K0, K1].flatMap (·.toList)).toArray 84)) (sealG 2 [lstV (is.map txtV), numV zn]))) := Lib.hid (refSeal_any 2 (some ⟨w4.heap.size, 0, none⟩) 2 2 _ _ (by omega) HSL.out rfl (by omega) (by simp only [bulkVs, bulkV, lstV, numV, List.length_nil]; rw [HBK.out]; have := HN.out; have := HN4.out; omega))
            rw [← hK1]
            generalize ([K0, K1].flatMap (·.toList)).toArray = KK at *
            clear hsl hK1 hK15 hv hk5 HV0 HV1 hb4 HSL
            refine hKR _ _ hbB ?_
            clear hKR KR
            refine held_ready (rs := [6]) (by kernel_rfl) (by simp) ?_
            refine AllHeld.cons rfl (fun KR hKR => ?_) ?_
            · refine step_build2 (by rfl) (.tmp 18) (.tmp 21) (by rfl) (by rfl) (by rfl) hrun ?_
              refine hKR _ _ hbC ?_
              clear hKR KR
              refine held_ready (rs := [7]) (by kernel_rfl) (by simp) ?_
              refine AllHeld.cons rfl (fun KR hKR => ?_) ?_
              · go_simp
                refine HSEAL.out.mono ?_
                intro e w5 hp
                have hbD := hbC.trans (hp.1.mono hbC.size)
                have hp2 := hp.lower (w := w) (by rw [HG.out]; exact HB1.out.trans (hbC.mono (Nat.le_of_lt hlt)))
                rw [← HRR.out] at hp2
                obtain ⟨rfl, hb9⟩ := hp2.use
                have HP := Lib.hid hb9
                clear hp hp2 hb9 HSEAL hrun
                refine hKR _ _ hbD ?_
                clear hKR KR
                refine held_take (i := 8) (v := ?_) (a' := ?_) rfl (by kernel_rfl) (by kernel_rfl) (by kernel_rfl) (fun _ _ _ h => h) (by rfl) hbD ?_ ?_ ?_
                rotate_left 2
                · (intro w hS; go_simp; try with_reducible rfl)
                · (go_simp; try with_reducible rfl)
                refine held_take (i := 9) (v := ?_) (a' := ?_) rfl (by kernel_rfl) (by kernel_rfl) (by kernel_rfl) (fun _ _ _ h => h) (by rfl) hbD ?_ ?_ ?_
                rotate_left 2
                · (intro w hS; go_simp; try with_reducible rfl)
                · (go_simp; try with_reducible rfl)
                refine held_take (i := 10) (v := ?_) (a' := ?_) rfl (by kernel_rfl) (by kernel_rfl) (by kernel_rfl) (fun _ _ _ h => h) (by rfl) hbD ?_ ?_ ?_
                rotate_left 2
                · (intro w hS; go_simp; try with_reducible rfl)
                · (go_simp; try with_reducible rfl)
                refine held_take (i := 11) (v := ?_) (a' := ?_) rfl (by kernel_rfl) (by kernel_rfl) (by kernel_rfl) (fun _ _ _ h => h) (by rfl) hbD ?_ ?_ ?_
                rotate_left 2
                · (intro w hS; go_simp; try with_reducible rfl)
                · (go_simp; try with_reducible rfl)
                refine wpAnyH_done (by kernel_rfl) ?_ _
                go_wp2_with fail
                go_ret2
                exact RefEnc.of rfl HP.out
              exact AllHeld.nil
            exact AllHeld.nil
          exact AllHeld.nil
        exact AllHeld.nil
end Go.Proofs.Ytpafhajpnepecaa
