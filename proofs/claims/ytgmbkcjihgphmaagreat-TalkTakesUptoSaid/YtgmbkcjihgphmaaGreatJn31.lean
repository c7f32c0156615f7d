/- Contracts and laws for what the statement reaches, joined: TalkRefTake, TalkRefMarkP. -/
import Derived.Test.YtgmbkcjihgphmaaGreatJn22
import Derived.Test.YtgmbkcjihgphmaaGreatJn29
import Derived.Test.YtgmbkcjihgphmaaGreatJn30
import Derived.Test.YtgmbkcjihgphmaaGreatJn5
/- the reference's Take, of one record. -/
set_option linter.unusedVariables false
set_option linter.unusedSimpArgs false
namespace Go.Proofs.YtgmbkcjihgphmaaGreat
open Go.RowKit
attribute [local go_sem ↓] bsRec_eq
noncomputable def takeB (bs ax : List RecT) (root : List UInt8) (s : ByteArray) : List RecT × Nat := if (lkB (linksG (dB s)) && (lackL (getB (ax ++ bs)) root).contains (shaG (dB s))) = true then (ax ++ [(shaG (dB s), s)], 1) else (ax, 0)
abbrev zF : Array Value := fK none 0 0 none 0 0 (List.replicate 32 0)
def RTakePost (W0 : World) (bs : List RecT) (root : List UInt8) (t : List RecT × Nat) (e : Ending) (w' : World) : Prop := Below W0.heap.size W0 w' ∧ ∃ K', e = .returned (.tuple #[.agg K', .int .i64 (t.2 : Int)]) ∧ RF w' K' bs t.1 root
/-- a fetch that stays away from some blocks -/
structure RFx (w : World) (av : Av) (K : Array Value) (bs ax : List RecT) (root : List UInt8) : Prop where
 ex : ∃ Aw nw cw Aa na ca, K = fK Aw nw cw Aa na ca root ∧ nw = bs.length ∧ na = ax.length ∧ SlOf recR w av Aw bs ∧ SlOf recR w av Aa ax
 r32 : root.length = 32
theorem RFx.stable {w w' : World} {av av' : Av} {K : Array Value} {bs ax : List RecT} {root : List UInt8} (h : RFx w av K bs ax root) (hm : Moves w w' av av') : RFx w' av' K bs ax root := by
 obtain ⟨Aw, nw, cw, Aa, na, ca, h1, h2, h3, h4, h5⟩ := h.ex
 exact ⟨⟨Aw, nw, cw, Aa, na, ca, h1, h2, h3, h4.stable hm, h5.stable hm⟩, h.r32⟩
theorem RFx.rf {w : World} {av : Av} {K : Array Value} {bs ax : List RecT} {root : List UInt8} (h : RFx w av K bs ax root) : RF w K bs ax root := by
 obtain ⟨Aw, nw, cw, Aa, na, ca, h1, h2, h3, h4, h5⟩ := h.ex
 exact ⟨⟨Aw, nw, cw, Aa, na, ca, h1, h2, h3, h4.forget, h5.forget⟩, h.r32⟩
theorem away2 (w : World) {g g4 : Nat} (h1 : w.heap.size ≤ g) (h2 : w.heap.size ≤ g4) : Moves w w no (fun b => b = g ∨ b = g4) := ⟨Nat.le_refl _, fun _ _ _ => rfl, fun b hb _ h => by rcases h with h | h <;> omega⟩
theorem RF.away {w : World} {g g4 : Nat} {K : Array Value} {bs ax : List RecT} {root : List UInt8} (h : RF w K bs ax root) (h1 : w.heap.size ≤ g) (h2 : w.heap.size ≤ g4) : RFx w (fun b => b = g ∨ b = g4) K bs ax root := by
 obtain ⟨Aw, nw, cw, Aa, na, ca, e1, e2, e3, e4, e5⟩ := h.ex
 exact ⟨⟨Aw, nw, cw, Aa, na, ca, e1, e2, e3, e4.stable (away2 w h1 h2), e5.stable (away2 w h1 h2)⟩, h.r32⟩
/-- what the one round leaves -/
def RTakeRel (W0 : World) (bs : List RecT) (root : List UInt8) (g g4 : Nat) (t : List RecT × Nat) (s6 : Value) (wr : World) : Prop := ∃ K', s6 = .int .i64 (t.2 : Int) ∧ Blk wr g 37 K' ∧ RFx wr (fun b => b = g ∨ b = g4) K' bs t.1 root ∧ Blk wr g4 37 zF ∧ Below W0.heap.size W0 wr
set_option maxRecDepth 100000 in
set_option maxHeartbeats 8000000 in
theorem refTake_any {K : Array Value} {bs ax : List RecT} {root : List UInt8} (W0 : World) (h : RF W0 K bs ax root) (hn : ax.length + bs.length ≤ 100) (A : Option Addr) (c : Nat) (s : ByteArray) (hs : SlOf strR W0 no A [s]) (hsz : s.size ≤ 1000000000) :
  Calls Tryz.prog 7 #[.agg K, .slice A 1 c] W0 (RTakePost W0 bs root (takeB bs ax root s)) := by
 have hK0 := h.size
 obtain ⟨b1, o1, x, rfl, hb1, hx, hcs⟩ := strs_look hs rfl (i := 0) (by simp)
 have e : x = s := by simpa using hx.symm
 subst e
 have hcs : W0.cell? ⟨b1, o1, none⟩ = some (.string x) := hcs
 obtain ⟨T, hT⟩ : ∃ T, T = takeB bs ax root x := ⟨_, rfl⟩
 rw [← hT]
 have HT := Lib.hid hT
 obtain ⟨w1, hw1⟩ : ∃ w1, w1 = W0.alloc (.cells K 37) := ⟨_, rfl⟩
 have hb01 : Below W0.heap.size W0 w1 := by rw [hw1]; exact (Below.refl _ _).alloc (Nat.le_refl _) _
 obtain ⟨w2, hw2⟩ : ∃ w2, w2 = w1.alloc (.cells zF 37) := ⟨_, rfl⟩
 have hb12 : Below w1.heap.size w1 w2 := by rw [hw2]; exact (Below.refl _ _).alloc (Nat.le_refl _) _
 have hb02 := hb01.trans (hb12.mono hb01.size)
 have hk1 : Blk w1 W0.heap.size 37 K := by rw [hw1]; exact Blk.new W0 _ _
 have HK2 := Lib.hid (hk1.below hb12 hk1.lt)
 have HR2 := Lib.hid (show Blk w2 w1.heap.size 37 zF by rw [hw2]; exact Blk.new w1 _ _)
 have HB2 := Lib.hid hb02
 have HF2 := Lib.hid (h.go hb02)
 have HCS := Lib.hid ((hb02.cell (p := ⟨b1, o1, none⟩) hb1).trans hcs)
 have HIF := Lib.hid hK0
 have H0 := Lib.hid h
 have hs1 : w1.heap.size = W0.heap.size + 1 := by rw [hw1]; simp
 have HW1 := Lib.hid hw1
 have HW2 := Lib.hid hw2
 have hbx2 : b1 < w2.heap.size := Nat.lt_of_lt_of_le hb1 hb02.size
 clear h hK0 hs hx hT hw1 hw2 hb01 hb12 hb02 hk1 hcs
 go_enter Tryz.func7, Tryz.ntmps7
 go_upto_region 1 with fail
 rw [← HW1.out]
 change Code.wp _ _ _ _ (w1.alloc (.cells zF 37))
 rw [← HW2.out]
 rw [hs1] at HR2
 generalize hgg : W0.heap.size = g at *
 have HG := Lib.hid hgg
 clear hgg hs1 HW1 HW2
 have HSU := Lib.hid (refSum_any (dB x) (by show x.data.toList.length ≤ _; rw [Array.length_toList]; exact hsz) w2)
 rw [show (⟨(dB x).toArray⟩ : ByteArray) = x by cases x; simp [dB]] at HSU
 obtain ⟨sm, hsm⟩ : ∃ sm, sm = shaG (dB x) := ⟨_, rfl⟩
 have h32 : sm.length = 32 := by rw [hsm]; exact shaG_len32 _
 rw [← hsm] at HSU
 obtain ⟨KX, hKX⟩ : ∃ KX, KX = (bytesV sm).toArray := ⟨_, rfl⟩
 have HI := Lib.hid (show (Tryz.prog.info? 33).map (·.size) = some KX.size by rw [hKX]; exact oid_size h32)
 have HZZ := Lib.hid (show zID.size = KX.size by rw [hKX]; simp [bytesV, h32])
 have HO := Lib.hid (show KX.all (·.oneCell') = true by rw [hKX]; exact oid_one _)
 rw [← hKX] at HSU
 have HKX := Lib.hid hKX
 have H32 := Lib.hid h32
 have HSM := Lib.hid hsm
 obtain ⟨lx, hlx⟩ : ∃ lx, lx = linksG (dB x) := ⟨_, rfl⟩
 obtain ⟨LL, hLL⟩ : ∃ LL, LL = lackL (getB (ax ++ bs)) root := ⟨_, rfl⟩
 have HTT := Lib.hid (show T = if (lkB lx && LL.contains sm) = true then (ax ++ [(sm, x)], 1) else (ax, 0) by rw [HT.out, hlx, hLL, hsm]; rfl)
 have HLK := Lib.hid (fun w => show Calls Tryz.prog 25 #[.string x] w (LinksPost w lx) by rw [hlx]; exact refLinks_any x w)
 have HLB := Lib.hid (fun (e : lkB lx = true) => show okZ lx = 0 by rw [hlx] at e ⊢; exact lkB_ok e)
 have HLE := Lib.hid (fun (e : lkB lx = false) => show okZ lx ≠ 0 by rw [hlx] at e ⊢; exact lkB_err e)
 have HLA := Lib.hid (fun w (hb : Below w2.heap.size w2 w) => show Calls Tryz.prog 13 #[.agg K] w (IdsPost w LL) by rw [hLL]; exact refLack_any w (HF2.out.go hb) (by omega))
 have HLN := Lib.hid (show LL.length ≤ 1000000000 by
  have h1 := (getB_fin (ax ++ bs)).lack_len (root := root)
  rw [← hLL, List.length_append] at h1
  omega)
 have hg2 : g < w2.heap.size := HK2.out.lt
 have HX2 := Lib.hid (show RFx w2 (fun b => b = g ∨ b = g + 1) K bs ax root from (H0.out.away (by have := HG.out; omega) (by have := HG.out; omega)).stable (Moves.of_below (by rw [HG.out]; exact HB2.out)))
 have hg24 : g + 1 < w2.heap.size := HR2.out.lt
 clear hKX h32 hsm hlx hLL HT
 go_wp2_with fail
 go_loopw [6, 7] (fun s6 s7 wr => (s6 = .int .i64 0 ∧ s7 = .int .i64 0 ∧ wr = w2) ∨ (s7 = .int .i64 1 ∧ Hid (RTakeRel W0 bs root g (g + 1) T s6 wr))) (fun s6 s7 wr => 1 - (intOf s7).toNat)
 case atStart => exact .inl ⟨rfl, rfl, rfl⟩
 case round =>
  obtain ⟨rfl, rfl, rfl⟩ | ⟨rfl, HRL⟩ := hrel
  ·have t0 : wr.cell? ⟨b1, o1, none⟩ = some (.string x) := HCS.out
   go_wp2_with fail
   refine HSU.out.mono ?_
   rintro e w3 ⟨rfl, hb3⟩
   have HNB := Lib.hid (Blk.new w3 33 zID)
   have HB3 := Lib.hid hb3
   clear hb3 HSU t0
   go_upto_region 6 with (first | (refine wpList_store_row rfl _ _ _ rfl w3.heap.size KX rfl rfl 33 _ HNB.out HI.out HZZ.out HO.out ?_) | fail)
   rw [World.setRow_alloc_new]
   go_frame
   change Code.wp _ _ _ _ (w3.alloc (.cells KX 33))
   have HB4 := Lib.hid (show Below wr.heap.size wr (w3.alloc (.cells KX 33)) from HB3.out.alloc HB3.out.size _)
   have HK4 := Lib.hid (Blk.new w3 33 KX)
   generalize hg8 : w3.heap.size = g8 at *
   generalize w3.alloc (.cells KX 33) = w4 at *
   clear HNB hg8 HB3
   have t0 : w4.cell? ⟨b1, o1, none⟩ = some (.string x) := (HB4.out.cell (p := ⟨b1, o1, none⟩) hbx2).trans HCS.out
   go_wp2_with fail
   refine (HLK.out w4).mono ?_
   intro e w5 hp
   obtain ⟨⟨A5, c5, rfl, _⟩, hb5⟩ := hp.lk
   have HB5 := Lib.hid (HB4.out.trans (hb5.mono HB4.out.size))
   have HK5 := Lib.hid (HK4.out.below hb5 HK4.out.lt)
   obtain ⟨nl, hnl⟩ : ∃ nl, nl = (lkL lx).length := ⟨_, rfl⟩
   obtain ⟨zl, hzl⟩ : ∃ zl, zl = okZ lx := ⟨_, rfl⟩
   rw [← hnl, ← hzl]
   rw [← hzl] at HLB HLE
   clear hp hb5 hnl hzl t0 HK4 HLK
   go_upto_region 7 with fail
   obtain ⟨wd, hwd⟩ : ∃ wd, wd = w5.drew := ⟨_, rfl⟩
   have HWD := Lib.hid hwd
   have hbd : Below w5.heap.size w5 wd := by rw [hwd]; exact Same.below ⟨1, rfl⟩ _
   have HBD := Lib.hid (HB5.out.trans (hbd.mono HB5.out.size))
   have HKD := Lib.hid (HK5.out.below hbd HK5.out.lt)
   have HFD := Lib.hid (HK2.out.below HBD.out hg2)
   have hgd := HFD.out.lt
   have hgd8 := HKD.out.lt
   clear hwd hbd HK5
   cases hcc : lkB lx with
   | false =>
    have hzz : (zl == 0) = false := by rw [beq_eq_false_iff_ne]; exact HLE.out hcc
    have HRL := Lib.hid (show RTakeRel W0 bs root g (g + 1) T (.int .i64 0) wd from by
     have h1 := HTT.out
     rw [hcc] at h1
     rw [show T = (ax, 0) from h1]
     exact ⟨K, rfl, HFD.out, HX2.out.stable (Moves.of_below HBD.out), HR2.out.below HBD.out hg24, by rw [HG.out]; exact HB2.out.trans (HBD.out.mono (Nat.le_of_lt hg2))⟩)
    clear hcc HLB HLE HTT
    refine wp_region_held (S := fun w => w = wd) (by kernel_rfl) ?_
    change wpAnyH _ _ _ _ _ _ _ _ (World.drew _)
    rw [← HWD.out]
    refine rgT 0 rfl ?_
    refine rgT 1 rfl ?_
    refine rgT 2 rfl ?_
    refine held_no (i := 3) (a' := ?_) rfl (by kernel_rfl) (by kernel_rfl) (by kernel_rfl) (fun _ _ _ h => h) (by rfl) rfl ?_ ?_
    rotate_left 1
    ·(go_simp; try with_reducible rfl)
    refine held_no (i := 4) (a' := ?_) rfl (by kernel_rfl) (by kernel_rfl) (by kernel_rfl) (fun _ _ _ h => h) (by rfl) rfl ?_ ?_
    rotate_left 1
    ·(go_simp; try with_reducible rfl)
    refine held_no (i := 5) (a' := ?_) rfl (by kernel_rfl) (by kernel_rfl) (by kernel_rfl) (fun _ _ _ h => h) (by rfl) rfl ?_ ?_
    rotate_left 1
    ·(go_simp; try with_reducible rfl)
    refine held_no (i := 6) (a' := ?_) rfl (by kernel_rfl) (by kernel_rfl) (by kernel_rfl) (fun _ _ _ h => h) (by rfl) rfl ?_ ?_
    rotate_left 1
    ·(go_simp; try with_reducible rfl)
    refine rgT 7 rfl ?_
    refine wpAnyH_done (by kernel_rfl) ?_ _
    go_wp2_with fail
    go_roundw
    case rel => exact .inr ⟨by go_num, HRL⟩
    case measure => simp [intOf]
   | true =>
    have hzz : (zl == 0) = true := by rw [beq_iff_eq]; exact HLB.out hcc
    have hzl0 : zl = 0 := HLB.out hcc
    have HLA2 := Lib.hid (HLA.out wd HBD.out)
    have HT2 := Lib.hid (show T = if LL.contains sm = true then (ax ++ [(sm, x)], 1) else (ax, 0) by have := HTT.out; rw [hcc] at this; simpa using this)
    clear hcc HLB HLE HTT HLA
    cases hin : LL.contains sm with
    | false =>
     have HIN := Lib.hid hin
     have HRL := Lib.hid (fun w' (hb : Below wd.heap.size wd w') => show RTakeRel W0 bs root g (g + 1) T (.int .i64 0) w' from by
      have h1 := HT2.out
      rw [HIN.out] at h1
      rw [show T = (ax, 0) from h1]
      have hbw := HBD.out.trans (hb.mono HBD.out.size)
      exact ⟨K, rfl, HFD.out.below hb hgd, HX2.out.stable (Moves.of_below hbw), HR2.out.below hbw hg24, by rw [HG.out]; exact HB2.out.trans (hbw.mono (Nat.le_of_lt hg2))⟩)
     clear hin HT2
     refine wp_region_held (S := fun w' => Below wd.heap.size wd w') (by kernel_rfl) ?_
     change wpAnyH _ _ _ _ _ _ _ _ (World.drew _)
     rw [← HWD.out]
     refine rgT 0 (Below.refl _ _) ?_
     refine rgT 1 (Below.refl _ _) ?_
     refine rgT 2 (Below.refl _ _) ?_
     refine rgU 3 (v := ?_) (a' := ?_) (Below.refl _ _) ?_ ?_ ?_
     rotate_left 2
     ·(intro w hS; refine exec_load_at 37 (.tmp 2) ?_ g 0 ?_ K _ (At.of_row (HFD.out.below hS hgd)) Tryz.underlying37 rfl HIF.out; exact rfl; exact rfl)
     ·(go_simp; try with_reducible rfl)
     refine rgU 5 (v := ?_) (a' := ?_) (Below.refl _ _) ?_ ?_ ?_
     rotate_left 2
     ·(intro w hS; refine exec_load_at 33 (.tmp 8) ?_ g8 0 ?_ KX _ (At.of_row (HKD.out.below hS hgd8)) Tryz.underlying33 rfl HI.out; exact rfl; exact rfl)
     ·(go_simp; try with_reducible rfl)
     refine held_ready (rs := [4]) (by kernel_rfl) (by simp) ?_
     refine AllHeld.cons rfl (fun KR hKR => ?_) ?_
     ·go_simp
      refine HLA2.out.mono ?_
      rintro e w6 ⟨hc4, A6, n6, c6, rfl, hr6⟩
      have HHA := Lib.hid (has21_any A6 n6 c6 LL sm w6 hr6.sl hr6.len (by rw [hr6.len]; exact HLN.out) H32.out)
      rw [show idV sm = .agg KX by rw [HKX.out], HIN.out] at HHA
      clear hr6
      refine hKR _ _ hc4 ?_
      clear hKR KR
      refine held_ready (rs := [6]) (by kernel_rfl) (by simp) ?_
      refine AllHeld.cons rfl (fun KR hKR => ?_) ?_
      ·go_simp
       refine HHA.out.mono ?_
       rintro e w7 ⟨rfl, hb7⟩
       have hc6 := hc4.trans (hb7.mono hc4.size)
       have HRL7 := Lib.hid (HRL.out w7 hc6)
       refine hKR _ _ hc6 ?_
       clear hKR KR
       refine rgT 7 hc6 ?_
       refine wpAnyH_done (by kernel_rfl) ?_ _
       go_wp2_with fail
       go_roundw
       case rel => exact .inr ⟨by go_num, HRL7⟩
       case measure => simp [intOf]
      exact AllHeld.nil
     exact AllHeld.nil
    | true =>
     have HIN := Lib.hid hin
     have HTK := Lib.hid (show T = (ax ++ [(sm, x)], 1) by have h1 := HT2.out; rw [hin] at h1; exact h1)
     clear hin HT2
     refine wp_region_held (S := fun w' => Below wd.heap.size wd w') (by kernel_rfl) ?_
     change wpAnyH _ _ _ _ _ _ _ _ (World.drew _)
     rw [← HWD.out]
     refine rgT 0 (Below.refl _ _) ?_
     refine rgT 1 (Below.refl _ _) ?_
     refine rgT 2 (Below.refl _ _) ?_
     refine rgU 3 (v := ?_) (a' := ?_) (Below.refl _ _) ?_ ?_ ?_
     rotate_left 2
     ·(intro w hS; refine exec_load_at 37 (.tmp 2) ?_ g 0 ?_ K _ (At.of_row (HFD.out.below hS hgd)) Tryz.underlying37 rfl HIF.out; exact rfl; exact rfl)
     ·(go_simp; try with_reducible rfl)
     refine rgU 5 (v := ?_) (a' := ?_) (Below.refl _ _) ?_ ?_ ?_
     rotate_left 2
     ·(intro w hS; refine exec_load_at 33 (.tmp 8) ?_ g8 0 ?_ KX _ (At.of_row (HKD.out.below hS hgd8)) Tryz.underlying33 rfl HI.out; exact rfl; exact rfl)
     ·(go_simp; try with_reducible rfl)
     refine held_ready (rs := [4]) (by kernel_rfl) (by simp) ?_
     refine AllHeld.cons rfl (fun KR hKR => ?_) ?_
     ·go_simp
      refine HLA2.out.mono ?_
      rintro e w6 ⟨hc4, A6, n6, c6, rfl, hr6⟩
      have HHA := Lib.hid (has21_any A6 n6 c6 LL sm w6 hr6.sl hr6.len (by rw [hr6.len]; exact HLN.out) H32.out)
      rw [show idV sm = .agg KX by rw [HKX.out], HIN.out] at HHA
      clear hr6
      refine hKR _ _ hc4 ?_
      clear hKR KR
      refine held_ready (rs := [6]) (by kernel_rfl) (by simp) ?_
      refine AllHeld.cons rfl (fun KR hKR => ?_) ?_
      ·go_simp
       refine HHA.out.mono ?_
       rintro e w7 ⟨rfl, hb7⟩
       have hc6 := hc4.trans (hb7.mono hc4.size)
       refine hKR _ _ hc6 ?_
       clear hKR KR
       refine rgT 7 hc6 ?_
       refine wpAnyH_done (by kernel_rfl) ?_ _
       go_upto_region 8 with fail
       have HB7 := Lib.hid (HBD.out.trans (hc6.mono HBD.out.size))
       have HF7 := Lib.hid (HFD.out.below hc6 hgd)
       have HK7 := Lib.hid (HKD.out.below hc6 hgd8)
       have HB07 := Lib.hid (HB2.out.trans (HB7.out.mono (Nat.le_of_lt hg2)))
       have HR7 := Lib.hid (HR2.out.below HB7.out hg24)
       obtain ⟨Aw, nw, cw, Aa, na, ca, hK, hnw, hna, hsw, hsa⟩ := H0.out.ex
       have hb0 : Below W0.heap.size W0 w7 := by rw [HG.out]; exact HB07.out
       have hba : Below w7.heap.size w7 (w7.alloc (.cells #[] 35)) := (Below.refl _ _).alloc (Nat.le_refl _) _
       have hr8 : RowR recR 35 (w7.alloc (.cells #[] 35)) w7.heap.size (some ⟨w7.heap.size, 0, none⟩) 0 0 [] := ⟨⟨[], own_made w7 _ _ (Nat.le_refl _), .nil⟩, rfl⟩
       obtain ⟨A9, c9, w9, run9, hr9, hb9⟩ := recs_push hr8 hba.size ((hsa.below hb0).below hba) (by omega) ca
       simp only [Nat.zero_add, List.nil_append] at run9 hr9
       rw [← hna] at run9 hr9
       have hna9 : na ≤ 100 := by rw [hna]; omega
       have c1 : (w7.alloc (.cells #[] 35)).cell? ⟨g, 1, none⟩ = some (.slice Aa na ca) := by rw [(HF7.out.below hba HF7.out.lt).cell, hK]; rfl
       have HB79 := Lib.hid (hba.trans hb9)
       have HR9 := Lib.hid hr9
       have HKF := Lib.hid hK
       have HNW := Lib.hid hnw
       have HNA := Lib.hid hna
       have HSW := Lib.hid (hsw.stable (away2 W0 (g := g) (g4 := g + 1) (by have := HG.out; omega) (by have := HG.out; omega)))
       have hg7 := HF7.out.lt
       have hg87 := HK7.out.lt
       have hg47 := HR7.out.lt
       have hb17 : b1 < w7.heap.size := Nat.lt_of_lt_of_le hbx2 HB7.out.size
       have HC7 := Lib.hid ((HB7.out.cell (p := ⟨b1, o1, none⟩) hbx2).trans HCS.out)
       clear hc4 hc6 hK hnw hna hsw hsa hb0 hba hr8 hr9 hb9
       go_upto_region 9 with (first | (at_builtin; refine wpList_run_append run9 ?_ ?_ ?_; exact rfl; exact rfl) | fail)
       clear run9 c1
       obtain ⟨wq, hwq⟩ : ∃ wq, wq = w9.drew := ⟨_, rfl⟩
       have hbq : Below w9.heap.size w9 wq := by rw [hwq]; exact Same.below ⟨1, rfl⟩ _
       have HWQ := Lib.hid hwq
       have HBQ := Lib.hid (HB79.out.trans (hbq.mono HB79.out.size))
       obtain ⟨A10, c10, w10, run10, hr10, hb10, _, _⟩ := (HR9.out.below hbq).push_at elemRec HBQ.out.size (av := fun _ => True) (rec_of wq _ (r := (sm, x)) H32.out) (fun _ _ _ => trivial) (by omega) (by simp only [maxLen]; omega) 25 1
       obtain ⟨KE, hKE⟩ : ∃ KE, KE = recK sm x := ⟨_, rfl⟩
       have hbe := Lib.hid (show ∀ w, (Instr.build 35 #[(0, .agg KX), (1, .string x)]).run Tryz.prog w = .ok (.agg KE) w from fun w => by rw [HKX.out, hKE]; exact run_build w _ _ _ (built_rec x sm H32.out))
       have hKs : KE.size = 33 := by rw [hKE]; exact recK_size H32.out _
       have hbs := fun w => bsRec_of w KE hKs
       have run10 : (Builtin.append_ #[25, 25] 25 #[.slice A9 na c9, .slice (some ⟨wq.heap.size, 0, none⟩) 1 1]).run Tryz.prog (wq.alloc (.cells KE 35)) = .ok (.slice A10 (na + 1) c10) w10 := by rw [hKE]; exact run10
       have HB10 := Lib.hid (HBQ.out.trans hb10)
       have HBA := Lib.hid (HBQ.out.alloc HBQ.out.size (.cells KE 35))
       have hF10 := HF7.out.below HB10.out hg7
       have t1 := hF10.cell 1
       have t2 := hF10.frozen 1
       have t1' : w10.cell? ⟨g, 1, none⟩ = some (.slice Aa na ca) := by rw [t1, HKF.out]; rfl
       have HRL := Lib.hid (show RTakeRel W0 bs root g (g + 1) T (.int .i64 1) (w10.setCell ⟨g, 1, none⟩ (.slice A10 (na + 1) c10)) from by
        rw [HTK.out]
        have hgs := grown_set w10 g 1 (.slice A10 (na + 1) c10)
        have hmv : Moves w10 (w10.setCell ⟨g, 1, none⟩ (.slice A10 (na + 1) c10)) (fun b => b = g ∨ b = g + 1) (fun b => b = g ∨ b = g + 1) := ⟨hgs.size, fun b hb hn => hgs.block b hb (fun e => hn (.inl (Option.some.inj e))), fun _ _ h => h⟩
        have hW10 : Below W0.heap.size W0 w10 := by rw [HG.out]; exact HB07.out.trans (HB10.out.mono (Nat.le_of_lt hg7))
        have hW11 : Below W0.heap.size W0 (w10.setCell ⟨g, 1, none⟩ (.slice A10 (na + 1) c10)) := hW10.grown hgs hW10.size (fun k e => by have := Option.some.inj e; have := HG.out; omega)
        refine ⟨K.setIfInBounds 1 (.slice A10 (na + 1) c10), rfl, hF10.set_ 1 _, ⟨⟨Aw, nw, cw, A10, na + 1, c10, by rw [HKF.out]; simp [fK], HNW.out, by have := HNA.out; simp; omega, (HSW.out.stable (Moves.of_below hW10)).stable hmv, ?_⟩, H0.out.r32⟩, (HR7.out.below HB10.out hg47).other (by omega) 1 _, hW11⟩
        have hs10 : SlOf recR w10 (fun b => b < w7.heap.size) A10 (ax ++ [(sm, x)]) := hr10.sl.away w7.heap.size (fun h0 b off e => by
         obtain ⟨gg, hgg, hge, _⟩ := hr10.at (by omega)
         rw [hgg] at e
         have e := Option.some.inj e
         injection e with e
         omega) (fun _ _ k => rec_anyw k)
        exact (hs10.stable (Moves.less w10 (fun b _ h => by rcases h with h | h <;> omega))).stable hmv)
       clear hbq hwq hr10 hb10 hKE hKs hF10 t1
       refine wp_region_late (S := fun w' => Below w7.heap.size w7 w') (s := 10) (by kernel_rfl) ?_
       change wpAnyL _ _ _ _ _ _ _ _ _ (World.drew _)
       rw [← HWQ.out]
       refine rgL 0 rfl (fun _ _ _ h => h) (fun _ => HBQ.out) ?_
       refine late_load (i := 1) (m := 1) (v := ?_) (a' := ?_) rfl (by kernel_rfl) (by kernel_rfl) (by kernel_rfl) (by kernel_rfl) (by rfl) (fun _ _ _ h => h) (by rfl) HBQ.out ?_ ?_ ?_
       rotate_left 2
       ·(intro w hS; refine exec_load_at 33 (.tmp 8) ?_ g8 0 ?_ KX _ (At.of_row (HK7.out.below hS hg87)) Tryz.underlying33 rfl HI.out; exact rfl; exact rfl)
       ·(go_simp; try with_reducible rfl)
       refine rgL 2 rfl (fun _ _ _ h => h) (fun _ => HBQ.out) ?_
       refine rgL 3 rfl (fun _ _ _ h => h) (fun _ => HBQ.out) ?_
       refine rgL 4 rfl (fun _ _ _ h => h) (fun _ => HBQ.out) ?_
       refine late_load (i := 5) (m := 5) (v := ?_) (a' := ?_) rfl (by kernel_rfl) (by kernel_rfl) (by kernel_rfl) (by kernel_rfl) (by rfl) (fun _ _ _ h => h) (by rfl) HBQ.out ?_ ?_ ?_
       rotate_left 2
       ·(intro w hS; have t := (hS.cell (p := ⟨b1, o1, none⟩) hb17).trans HC7.out; go_simp; try with_reducible rfl)
       ·(go_simp; try with_reducible rfl)
       refine late_load (i := 6) (m := 6) (v := ?_) (a' := ?_) rfl (by kernel_rfl) (by kernel_rfl) (by kernel_rfl) (by kernel_rfl) (by rfl) (fun _ _ _ h => h) (by rfl) HBQ.out ?_ ?_ ?_
       rotate_left 2
       ·(intro w hS; refine exec_b2 35 0 1 (.tmp 44) (.tmp 48) ?_ (.agg KX) (.string x) (.agg KE) ?_ ?_ (hbe.out w); exact rfl; exact rfl; exact rfl)
       ·(go_simp; try with_reducible rfl)
       refine late_one (i := 7) (by kernel_rfl) rfl (fun KR hKR => ?_)
       refine step_build (by rfl) (.tmp 49) (by rfl) (by rfl) (hbs _) ?_
       refine hKR _ _ (fun _ => HBA.out) ?_
       clear hKR KR
       refine late_one (i := 8) (by kernel_rfl) rfl (fun KR hKR => ?_)
       refine step_run_append (by rfl) (.tmp 43) (.tmp 50) (by rfl) (by rfl) (by rfl) run10 ?_
       refine hKR _ _ (fun _ => HB10.out) ?_
       clear hKR KR
       refine rgL 9 rfl (fun _ _ _ h => h) (fun _ => HB10.out) ?_
       refine late_one (i := 10) (by kernel_rfl) rfl (fun KR hKR => ?_)
       go_simp
       skip
       refine hKR _ _ (fun h0 => Bool.noConfusion (show (true : Bool) = false from h0)) ?_
       clear hKR KR
       refine late_done' (by kernel_rfl) ?_ _
       go_wp2_with fail
       go_roundw
       case rel => exact .inr ⟨by go_num, HRL⟩
       case measure => simp [intOf]
      exact AllHeld.nil
     exact AllHeld.nil
  ·obtain ⟨K', hs6, hk, hrf, hr4, hb⟩ := HRL.out
   subst hs6
   have HKW := Lib.hid hk
   have HRF := Lib.hid hrf
   have HR4 := Lib.hid hr4
   have HBW := Lib.hid hb
   have HIK := Lib.hid hrf.rf.size
   have HSK := Lib.hid (show zF.size = K'.size by
    obtain ⟨Aw, nw, cw, Aa, na, ca, hK, _⟩ := hrf.ex
    rw [hK, fK_size hrf.r32, fK_size (by simp)])
   have HOK := Lib.hid (show K'.all (·.oneCell') = true by
    obtain ⟨Aw, nw, cw, Aa, na, ca, hK, _⟩ := hrf.ex
    rw [hK]; exact fK_one _ _ _ _ _ _ _)
   clear hk hrf hr4 hb HRL
   go_wp2_with (first
    | (refine wpList_load_at rfl _ _ rfl g 0 rfl K' _ (At.of_row HKW.out) Tryz.underlying37 rfl HIK.out ?_)
    | (refine wpList_store_row rfl _ _ _ rfl (g + 1) K' rfl rfl 37 _ HR4.out HIK.out HSK.out HOK.out ?_) | fail)
   refine bodyPost_ret (results_row_tmp rfl _ _ (g + 1) 37 K' (0, 0) _ rfl (setRow_heap _ (g + 1) _ _ _ _ HR4.out) Tryz.underlying37 rfl HIK.out) rfl ?_
   have hbs := below_setRow HBW.out (show W0.heap.size ≤ g + 1 by rw [HG.out]; omega) K'
   have hgr := grown_row wr (g + 1) K'
   exact ⟨hbs, K', rfl, (HRF.out.stable (⟨hgr.size, fun b hb hn => hgr.block b hb (fun e => hn (.inr (Option.some.inj e))), fun _ _ h => h⟩ : Moves wr (wr.setRow (g + 1) K') (fun b => b = g ∨ b = g + 1) (fun b => b = g ∨ b = g + 1))).rf⟩
end Go.Proofs.YtgmbkcjihgphmaaGreat
/- the reference's mark, plain: it goes in by calling itself; it marks what the loop marks. -/
namespace Go.Proofs.YtgmbkcjihgphmaaGreat
open Go.RowKit
abbrev MkRes := Option (Except Int (Ids × Ids))
/-- one after the other -/
def mkDeeps (f : List UInt8 → Ids → Ids → MkRes) : Ids → Ids → Ids → MkRes
 | [], B, D => some (.ok (B, D))
 | x :: l, B, D => match f x B D with
  | none => none
  | some (.error z) => some (.error z)
  | some (.ok y) => mkDeeps f l y.1 y.2
def mkDeep (S : SrcT) : Nat → List UInt8 → Ids → Ids → MkRes
 | 0, _, _, _ => none
 | n + 1, id, B, D => if B.contains id = true then some (.ok (B, D)) else match S id with
  | none => some (.error 4)
  | some b => match linksG b with
   | .error z => some (.error z)
   | .ok l => match mkDeeps (mkDeep S n) l (B ++ [id]) D with
    | none => none
    | some (.error z) => some (.error z)
    | some (.ok y) => some (.ok (y.1, y.2 ++ [id]))
/-- what stays true -/
structure MkI (V : Ids) (B D B' D' : Ids) : Prop where
 nodup : B'.Nodup
 sub : ∀ x ∈ B', x ∈ V
 len : D'.length + B.length = B'.length + D.length
 more : B.length ≤ B'.length
section
variable {S : SrcT} {V : Ids}
theorem mkDeeps_inv {f : List UInt8 → Ids → Ids → MkRes} (hf : ∀ x B D B' D', B.Nodup → (∀ y ∈ B, y ∈ V) → f x B D = some (.ok (B', D')) → MkI V B D B' D') : ∀ {l B D B' D' : Ids}, B.Nodup → (∀ y ∈ B, y ∈ V) → mkDeeps f l B D = some (.ok (B', D')) → MkI V B D B' D'
 | [], B, D, B', D', hn, hs, h => by
  simp only [mkDeeps] at h
  have h := Option.some.inj h
  injection h with h
  injection h with h1 h2
  subst h1 h2
  exact ⟨hn, hs, by omega, Nat.le_refl _⟩
 | x :: l, B, D, B', D', hn, hs, h => by
  simp only [mkDeeps] at h
  cases hx : f x B D with
  | none => rw [hx] at h; cases h
  | some r =>
   rw [hx] at h
   cases r with
   | error z => simp at h
   | ok y =>
    simp only at h
    have h1 := hf x B D y.1 y.2 hn hs hx
    have h2 := mkDeeps_inv hf h1.nodup h1.sub h
    exact ⟨h2.nodup, h2.sub, by have := h1.len; have := h2.len; omega, Nat.le_trans h1.more h2.more⟩
theorem mkDeep_inv (hV : ∀ x b, S x = some b → x ∈ V) : ∀ {n : Nat} {id : List UInt8} {B D B' D' : Ids}, B.Nodup → (∀ y ∈ B, y ∈ V) → mkDeep S n id B D = some (.ok (B', D')) → MkI V B D B' D'
 | 0, _, _, _, _, _, _, _, h => by simp [mkDeep] at h
 | n + 1, id, B, D, B', D', hn, hs, h => by
  unfold mkDeep at h
  split at h
  ·have h := Option.some.inj h
   injection h with h
   injection h with h1 h2
   subst h1 h2
   exact ⟨hn, hs, by omega, Nat.le_refl _⟩
  ·rename_i hc
   have hc : id ∉ B := by simpa using hc
   cases hsi : S id with
   | none => rw [hsi] at h; simp at h
   | some b =>
    rw [hsi] at h
    simp only at h
    cases hl : linksG b with
    | error z => rw [hl] at h; simp at h
    | ok l =>
     rw [hl] at h
     simp only at h
     have hn2 : (B ++ [id]).Nodup := by
      rw [List.nodup_append]
      exact ⟨hn, by simp, fun a ha c hc2 e => by
       have : c = id := by simpa using hc2
       subst this; subst e; exact hc ha⟩
     have hs2 : ∀ y ∈ B ++ [id], y ∈ V := fun y hy => by
      rcases List.mem_append.1 hy with h1 | h1
      ·exact hs y h1
      ·have h1 : y = id := by simpa using h1
       subst h1; exact hV y b hsi
     cases hr : mkDeeps (mkDeep S n) l (B ++ [id]) D with
     | none => rw [hr] at h; cases h
     | some r =>
      rw [hr] at h
      cases r with
      | error z => simp at h
      | ok y =>
       have h := Option.some.inj h
       injection h with h
       injection h with h1 h2
       subst h1 h2
       have h3 := mkDeeps_inv (fun x B D B' D' h1 h2 h3 => mkDeep_inv hV h1 h2 h3) hn2 hs2 hr
       have h4 := h3.len
       have h5 := h3.more
       simp at h4 h5
       exact ⟨h3.nodup, h3.sub, by simp; omega, by omega⟩
theorem mkDeeps_ends {f : List UInt8 → Ids → Ids → MkRes} {n : Nat} (hi : ∀ x B D B' D', B.Nodup → (∀ y ∈ B, y ∈ V) → f x B D = some (.ok (B', D')) → MkI V B D B' D') (hf : ∀ x B D, B.Nodup → (∀ y ∈ B, y ∈ V) → V.length - B.length < n → ∃ R, f x B D = some R) : ∀ {l B D : Ids}, B.Nodup → (∀ y ∈ B, y ∈ V) → V.length - B.length < n → ∃ R, mkDeeps f l B D = some R
 | [], B, D, _, _, _ => ⟨_, rfl⟩
 | x :: l, B, D, hn, hs, h => by
  obtain ⟨R, hR⟩ := hf x B D hn hs h
  simp only [mkDeeps, hR]
  cases R with
  | error z => exact ⟨_, rfl⟩
  | ok y =>
   have h1 := hi x B D y.1 y.2 hn hs hR
   exact mkDeeps_ends hi hf h1.nodup h1.sub (by have := h1.more; omega)
theorem mkDeep_ends (hV : ∀ x b, S x = some b → x ∈ V) : ∀ {n : Nat} {id : List UInt8} {B D : Ids}, B.Nodup → (∀ y ∈ B, y ∈ V) → V.length - B.length < n → ∃ R, mkDeep S n id B D = some R
 | 0, _, _, _, _, _, h => by omega
 | n + 1, id, B, D, hn, hs, h => by
  unfold mkDeep
  split
  ·exact ⟨_, rfl⟩
  ·rename_i hc
   have hc : id ∉ B := by simpa using hc
   cases hsi : S id with
   | none => exact ⟨_, rfl⟩
   | some b =>
    simp only
    cases hl : linksG b with
    | error z => exact ⟨_, rfl⟩
    | ok l =>
     simp only
     have hn2 : (B ++ [id]).Nodup := by
      rw [List.nodup_append]
      exact ⟨hn, by simp, fun a ha c hc2 e => by
       have : c = id := by simpa using hc2
       subst this; subst e; exact hc ha⟩
     have hs2 : ∀ y ∈ B ++ [id], y ∈ V := fun y hy => by
      rcases List.mem_append.1 hy with h1 | h1
      ·exact hs y h1
      ·have h1 : y = id := by simpa using h1
       subst h1; exact hV y b hsi
     have hle := List.Nodup.length_le_of_subset hn2 (fun y hy => hs2 y hy)
     simp at hle
     obtain ⟨R, hR⟩ := mkDeeps_ends (n := n) (f := mkDeep S n) (fun x B D B' D' h1 h2 h3 => mkDeep_inv hV h1 h2 h3) (fun x B D h1 h2 h3 => mkDeep_ends hV h1 h2 h3) (l := l) (D := D) hn2 hs2 (by simp; omega)
     rw [hR]
     cases R with
     | error z => exact ⟨_, rfl⟩
     | ok y => exact ⟨_, rfl⟩
/-! ### it marks what the loop marks -/
def Eqv (B C : Ids) : Prop := ∀ x, x ∈ B ↔ x ∈ C
theorem Eqv.con {B C : Ids} (h : Eqv B C) (x : List UInt8) : B.contains x = C.contains x := by
 rw [Bool.eq_iff_iff, List.contains_iff_mem, List.contains_iff_mem]; exact h x
/-- what one call comes to in the loop -/
def SimOne (S : SrcT) (id : List UInt8) (D C : Ids) (R : Except Int (Ids × Ids)) : Prop := ∀ st : List PlcT, match R with
 | .error z => pushP S id C st = .error z ∨ ∃ y, pushP S id C st = .ok y ∧ ∃ j, ∀ k, reachP S (j + k) y.1 y.2 D = some (.error z)
 | .ok r => ∃ y, pushP S id C st = .ok y ∧ ∃ j C', Eqv r.1 C' ∧ ∀ k, reachP S (j + k) y.1 y.2 D = reachP S k C' st r.2
def SimL (S : SrcT) (l D C : Ids) (R : Except Int (Ids × Ids)) : Prop := ∀ (id : List UInt8) (st : List PlcT), match R with
 | .error z => ∃ j, ∀ k, reachP S (j + k) C ((id, l) :: st) D = some (.error z)
 | .ok r => ∃ j C', Eqv r.1 C' ∧ ∀ k, reachP S (j + k) C ((id, l) :: st) D = reachP S k C' ((id, []) :: st) r.2
theorem sim_list {f : List UInt8 → Ids → Ids → MkRes} (hf : ∀ x B D R C, Eqv B C → f x B D = some R → SimOne S x D C R) : ∀ {l B D C : Ids} {R : Except Int (Ids × Ids)}, Eqv B C → mkDeeps f l B D = some R → SimL S l D C R
 | [], B, D, C, R, he, h => by
  simp only [mkDeeps] at h
  have h := Option.some.inj h
  subst h
  intro id st
  exact ⟨0, C, he, fun k => by rw [Nat.zero_add]⟩
 | x :: l, B, D, C, R, he, h => by
  simp only [mkDeeps] at h
  intro id st
  cases hx : f x B D with
  | none => rw [hx] at h; cases h
  | some r =>
   rw [hx] at h
   have h1 := hf x B D r C he hx ((id, l) :: st)
   have hstep : ∀ k, reachP S (k + 1) C ((id, x :: l) :: st) D = match pushP S x C ((id, l) :: st) with
    | .error z => some (.error z)
    | .ok y => reachP S k y.1 y.2 D := fun k => rfl
   cases r with
   | error z =>
    have h := Option.some.inj h
    subst h
    rcases h1 with h1 | ⟨y, h1, j, hj⟩
    ·exact ⟨1, fun k => by rw [show 1 + k = k + 1 by omega, hstep, h1]⟩
    ·exact ⟨j + 1, fun k => by rw [show j + 1 + k = (j + k) + 1 by omega, hstep, h1]; exact hj k⟩
   | ok r =>
    obtain ⟨y, h1, j, C', he', hj⟩ := h1
    simp only at h
    have h2 := sim_list hf he' h id st
    cases R with
    | error z =>
     obtain ⟨j2, hj2⟩ := h2
     exact ⟨j + j2 + 1, fun k => by rw [show j + j2 + 1 + k = (j + (j2 + k)) + 1 by omega, hstep, h1]; exact (hj (j2 + k)).trans (hj2 k)⟩
    | ok r2 =>
     obtain ⟨j2, C2, he2, hj2⟩ := h2
     exact ⟨j + j2 + 1, C2, he2, fun k => by rw [show j + j2 + 1 + k = (j + (j2 + k)) + 1 by omega, hstep, h1]; exact (hj (j2 + k)).trans (hj2 k)⟩
theorem sim_one : ∀ {n : Nat} {id : List UInt8} {B D C : Ids} {R : Except Int (Ids × Ids)}, Eqv B C → mkDeep S n id B D = some R → SimOne S id D C R
 | 0, _, _, _, _, _, _, h => by simp [mkDeep] at h
 | n + 1, id, B, D, C, R, he, h => by
  intro st
  unfold mkDeep at h
  split at h
  ·rename_i hc
   have h := Option.some.inj h
   subst h
   rw [he.con] at hc
   exact ⟨(C, st), by unfold pushP; rw [if_pos hc], 0, C, he, fun k => by rw [Nat.zero_add]⟩
  ·rename_i hc
   rw [he.con] at hc
   cases hsi : S id with
   | none =>
    rw [hsi] at h
    have h := Option.some.inj h
    subst h
    exact .inl (by unfold pushP; rw [if_neg hc, hsi])
   | some b =>
    rw [hsi] at h
    simp only at h
    cases hl : linksG b with
    | error z =>
     rw [hl] at h
     have h := Option.some.inj h
     subst h
     exact .inl (by unfold pushP; rw [if_neg hc, hsi]; simp only [hl])
    | ok l =>
     rw [hl] at h
     simp only at h
     have hp : pushP S id C st = .ok (id :: C, (id, l) :: st) := by unfold pushP; rw [if_neg hc, hsi]; simp only [hl]
     have he2 : Eqv (B ++ [id]) (id :: C) := fun x => by
      rw [List.mem_append, List.mem_cons, he x]
      simp [or_comm]
     cases hr : mkDeeps (mkDeep S n) l (B ++ [id]) D with
     | none => rw [hr] at h; cases h
     | some r =>
      rw [hr] at h
      have h1 := sim_list (fun x B D R C h1 h2 => sim_one h1 h2) he2 hr id st
      cases r with
      | error z =>
       have h := Option.some.inj h
       subst h
       obtain ⟨j, hj⟩ := h1
       exact .inr ⟨_, hp, j, hj⟩
      | ok y =>
       have h := Option.some.inj h
       subst h
       obtain ⟨j, C', he', hj⟩ := h1
       exact ⟨_, hp, j + 1, C', he', fun k => by
        have h2 := hj (k + 1)
        rw [show j + 1 + k = j + (k + 1) by omega]
        rw [h2]
        rfl⟩
theorem mkDeep_mark {n : Nat} {root : List UInt8} {R : Except Int (Ids × Ids)} (h : mkDeep S n root [] [] = some R) : markL S root = match R with
  | .error z => .error z
  | .ok r => .ok r.2 := by
 have h1 := sim_one (C := []) (fun x => Iff.rfl) h []
 cases R with
 | error z =>
  rcases h1 with h1 | ⟨y, h1, j, hj⟩
  ·exact markL_eq (n := 0) (by unfold markP; rw [h1])
  ·exact markL_eq (n := j + 0) (by unfold markP; rw [h1]; exact hj 0)
 | ok r =>
  obtain ⟨y, h1, j, C', he, hj⟩ := h1
  exact markL_eq (n := j + 1) (by unfold markP; rw [h1]; exact hj 1)
theorem mkDeep_err {n : Nat} {root : List UInt8} {R : Except Int (Ids × Ids)} (h : mkDeep S n root [] [] = some R) : ∀ z, R = .error z → markL S root = .error z := fun z e => by
 subst e
 exact mkDeep_mark h
theorem mkDeep_ok {n : Nat} {root : List UInt8} {R : Except Int (Ids × Ids)} (h : mkDeep S n root [] [] = some R) : ∀ y, R = .ok y → markL S root = .ok y.2 := fun y e => by
 subst e
 exact mkDeep_mark h
def deepTail (f : List UInt8 → Ids → Ids → MkRes) (B D : Ids) (id : List UInt8) : Res (List (List UInt8)) → MkRes
 | .error z => some (.error z)
 | .ok l => match mkDeeps f l (B ++ [id]) D with
  | none => none
  | some (.error z) => some (.error z)
  | some (.ok y) => some (.ok (y.1, y.2 ++ [id]))
theorem mkDeep_none {n : Nat} {id : List UInt8} {B D : Ids} (hc : B.contains id = false) (hs : S id = none) : mkDeep S (n + 1) id B D = some (.error 4) := by
 unfold mkDeep
 rw [if_neg (by rw [hc]; decide), hs]
theorem mkDeep_some {n : Nat} {id b : List UInt8} {B D : Ids} (hc : B.contains id = false) (hs : S id = some b) : mkDeep S (n + 1) id B D = deepTail (mkDeep S n) B D id (linksG b) := by
 unfold mkDeep
 rw [if_neg (by rw [hc]; decide), hs]
 show (match linksG b with | .error z => _ | .ok l => _) = _
 cases hl : linksG b with
 | error z => rfl
 | ok l => rfl
end
end Go.Proofs.YtgmbkcjihgphmaaGreat
