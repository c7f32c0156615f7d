/- The document's Diff. -/
import Derived.Test.YtoeajlkmcokiiaaLinesDiff
import Derived.Test.YtoeajlkmcokiiaaLinesRefPairs
import Derived.Test.YtoeajlkmcokiiaaLinesPlainFn
set_option linter.unusedVariables false
namespace Go.Proofs.Ytoeajlkmcokiiaa
open Go.RowKit
attribute [local go_sem ↓] cutA_eq

theorem refDiff_long (A B : Option Addr) (n ca m cb : Nat) (w : World) (hn : n ≤ 1048576) (hm : m ≤ 1048576) (hp : 1048576 < n * m) :
    Calls Try.prog 13 #[.slice A n ca, .slice B m cb] w fun e w' => e = .returned (.tuple #[.slice none 0 0, .int .i64 2]) ∧ w = w' := by
  have HP := Lib.hid hp
  clear hp
  go_enter Try.func13, Try.ntmps13
  go_wp2_with fail
  refine (refPairs_long A B n ca m cb w hn hm HP.out).mono ?_
  rintro e w' ⟨rfl, rfl⟩
  go_wp2_with fail
  go_ret2
  exact ⟨rfl, rfl⟩

set_option maxRecDepth 100000 in
set_option maxHeartbeats 4000000 in
theorem refDiff_any (A B : Option Addr) (n ca m cb : Nat) (a b : List ByteArray) (w : World) (ha : Sl w 1 A n (strV a)) (hb : Sl w 1 B m (strV b)) (hca : n ≤ ca) (hcm : ca ≤ maxLen) (hcb : m ≤ cb) (hcbm : cb ≤ maxLen) (hn : n ≤ 1048576) (hm : m ≤ 1048576) (hp : n * m ≤ 1048576) :
    Calls Try.prog 13 #[.slice A n ca, .slice B m cb] w (DiffPost w (diffG a b)) := by
  have HLA := Lib.hid ha.strLen
  have HLB := Lib.hid hb.strLen
  have HP := Lib.hid hp
  have hpl := pairsAt_le a b 0 0
  rw [HLA.out] at hpl
  have hall := Lib.hid (allPairs_length a b)
  have hri := allPairs_rise a b
  rw [HLA.out, HLB.out] at hri
  have HRI := Lib.hid hri
  have HAP : Hid (pairsAt a b 0 0 ++ [(a.length, b.length)] = allPairs a b) := Lib.hid rfl
  have HDG : Hid (hunksG a b 0 0 (allPairs a b) = diffG a b) := Lib.hid rfl
  have hmx : maxLen = 9223372036854775807 := rfl
  have hcm' : ca ≤ 9223372036854775807 := hcm
  have hcbm' : cb ≤ 9223372036854775807 := hcbm
  clear hp hri hmx
  go_enter Try.func13, Try.ntmps13
  go_wp2_with fail
  refine (refPairs_any A B n ca m cb a b w ha hb hn hm HP.out).mono ?_
  rintro e w1 ⟨Ap, cp, rfl, hpo, hpc, hpm, hb1⟩
  have hme := own_made w1 41 2 (Nat.le_refl w1.heap.size)
  obtain ⟨Ar, cr, wr1, hrun1, hap1, hc11, hc12⟩ := append_sl (P := Try.prog) elemRefPair hme ((Sl.ofOwn hpo).alloc (.cells #[] 41)) (pairV_one _) (by omega) (by simp only [maxLen]; omega) (by simp) 28 cp
  rw [Nat.zero_add] at hrun1 hap1 hc11
  have hb1r : Below w.heap.size w wr1 := (hb1.alloc hb1.size (.cells #[] 41)).trans (hap1.below.mono hb1.size)
  have hpo2 := hap1.own.alloc (.cells #[.int .i64 (n : Int), .int .i64 (m : Int)] 41)
  have hs2 := Sl.fresh wr1 #[.int .i64 (n : Int), .int .i64 (m : Int)] 41 (0, 0) 1 2 rfl
  obtain ⟨Aq, cq, w2, hrun, hap, hc1, hc2⟩ := append_sl (P := Try.prog) elemRefPair hpo2 hs2 (by simp; exact ⟨rfl, rfl⟩) (by omega) (by simp only [maxLen]; omega) (by have := hap1.below.size; simp at this ⊢; omega) 28 1
  have hb2 : Below w.heap.size w w2 := (hb1r.alloc hb1r.size (.cells #[.int .i64 (n : Int), .int .i64 (m : Int)] 41)).trans (hap.below.mono hb1.size)
  have hq := Sl.ofOwn hap.own
  have hq : Sl w2 2 Aq ((pairsAt a b 0 0).length + 1) (pairV (allPairs a b)) := by
    rw [← HAP.out, HLA.out, HLB.out, ← pairV_snoc]; exact hq
  have ha2 := ha.below hb2
  have hbb2 := hb.below hb2
  generalize hL : (pairsAt a b 0 0).length = L at *
  generalize allPairs a b = al at *
  have hL2 : L + 1 ≤ 1048577 := by omega
  have HR1 := Lib.hid hrun1
  have HR2 := Lib.hid hrun
  clear hpo2 hs2 hap hpo HAP hb1 ha hb hL hpc hpm hme hap1 hb1r hrun hrun1
  go_wp2_with (at_builtin; (first | (refine wpList_run_append HR1.out ?_ ?_ ?_; exact rfl; exact rfl) | (refine wpList_run_append HR2.out ?_ ?_ ?_; exact rfl; exact rfl)))
  clear HR1 HR2
  go_loopw [9, 10, 11, 12] (fun o i k j wr => ∃ (I K J : Nat) (d : List Hk) (vs : List Value) (Ao : Option Addr) (co : Nat), o = .slice Ao d.length co ∧ i = .int .i64 I ∧ k = .int .i64 K ∧ j = .int .i64 J ∧ J ≤ L + 1 ∧ d.length ≤ J ∧ I ≤ 1048577 ∧ K ≤ 1048577 ∧
      wr.ownsRow w2.heap.size 68 3 (.slice Ao d.length co) d.length vs ∧ Each (hkR.R wr (Value.slice Ao d.length co).ownBlock) vs d ∧ Below w2.heap.size w2 wr ∧ Hid (Rise n m I K (al.drop J)) ∧ Hid (d ++ hunksG a b I K (al.drop J) = diffG a b)) (fun _ _ _ j _ => L + 1 - (intOf j).toNat)
  case atStart => exact ⟨0, 0, 0, [], [], none, 0, rfl, rfl, rfl, rfl, by omega, by simp, by omega, by omega, World.ownsRow_nil _ _ _ _, .nil, Below.refl _ _, HRI, Lib.hid (by simpa using HDG.out)⟩
  case round =>
    obtain ⟨I, K, J, d, vs, Ao, co, rfl, rfl, rfl, rfl, hJ, hdJ, hI, hK, hown, hE, hbr, HR, H⟩ := hrel
    by_cases hJL : J < L + 1
    · obtain ⟨bq, oq, p, q, rfl, hbq, hx, k0, k1⟩ := pair_look (j := J) hq (by have := hall.out; omega) hJL
      have HX := Lib.hid (pdrop_cons hx)
      have hR := HR.out
      rw [HX.out] at hR
      obtain ⟨r1, r2, r3, r4, r5⟩ := hR
      simp only at r1 r2 r3 r4 r5
      have HR5 := Lib.hid r5
      have HO := Lib.hid hown
      have HE := Lib.hid hE
      have HB := Lib.hid hbr
      have K0 := Lib.hid k0
      have K1 := Lib.hid k1
      have hlt' : (J : Int) < (L : Int) + 1 := by omega
      have hsa := ha2.cut (k := I) (by omega) hca |>.upto (k := p - I) (by omega)
      rw [Nat.mul_one, strV_drop, strV_take] at hsa
      have hsb := hbb2.cut (k := K) (by omega) hcb |>.upto (k := q - K) (by omega)
      rw [Nat.mul_one, strV_drop, strV_take] at hsb
      have hX : ((a.drop I).take (p - I)).length = p - I := by rw [List.length_take, List.length_drop, HLA.out]; omega
      have hY : ((b.drop K).take (q - K)).length = q - K := by rw [List.length_take, List.length_drop, HLB.out]; omega
      have HH1 := Lib.hid (hunksG_yes (a := a) (b := b) (i := I) (k := K) (p := p) (q := q) (r := al.drop (J + 1)))
      have HH2 := Lib.hid (hunksG_no (a := a) (b := b) (i := I) (k := K) (p := p) (q := q) (r := al.drop (J + 1)))
      generalize (a.drop I).take (p - I) = X at *
      generalize (b.drop K).take (q - K) = Y at *
      have HXL := Lib.hid hX
      have HYL := Lib.hid hY
      have HSA := Lib.hid hsa
      have HSB := Lib.hid hsb
      have hIp : (I : Int) ≤ (p : Int) := by omega
      have hpc : (p : Int) ≤ (ca : Int) := by omega
      have hKq : (K : Int) ≤ (q : Int) := by omega
      have hqc : (q : Int) ≤ (cb : Int) := by omega
      have B0 : Below w2.heap.size w2 wr.drew := HB.out.drew
      have hz0 : w2.heap.size ≤ wr.drew.heap.size := B0.size
      clear hx r5 hown hE hbr hX hY hsa hsb k0 k1
      have hyes : (I < p ∨ K < q) ∨ ¬ (I < p ∨ K < q) := Classical.em _
      have B3 := Lib.hid (B0.alloc hz0 (.cells #[.int .i64 (I : Int), .slice (cutA A ca I) (p - I) (ca - I), .slice (cutA B cb K) (q - K) (cb - K)] 68))
      go_wp2_with fail
      refine wp_region_held (S := fun w' => Below w2.heap.size w2 w') (by kernel_rfl) ?_
      change wpAnyH _ _ _ _ _ _ _ _ (World.drew _)
      refine held_take (i := 0) (v := ?_) (a' := ?_) rfl (by kernel_rfl) (by kernel_rfl) (by kernel_rfl) (fun _ _ _ h => h) (by rfl) B0 ?_ ?_ ?_
      rotate_left 2
      · (intro w hS; go_simp; try with_reducible rfl)
      · (go_simp; try with_reducible rfl)
      refine held_take (i := 1) (v := ?_) (a' := ?_) rfl (by kernel_rfl) (by kernel_rfl) (by kernel_rfl) (fun _ _ _ h => h) (by rfl) B0 ?_ ?_ ?_
      rotate_left 2
      · (intro w hS; go_simp; try with_reducible rfl)
      · (go_simp; try with_reducible rfl)
      refine held_take (i := 2) (v := ?_) (a' := ?_) rfl (by kernel_rfl) (by kernel_rfl) (by kernel_rfl) (fun _ _ _ h => h) (by rfl) B0 ?_ ?_ ?_
      rotate_left 2
      · (intro w hS; go_simp; try with_reducible rfl)
      · (go_simp; try with_reducible rfl)
      refine held_take (i := 3) (v := ?_) (a' := ?_) rfl (by kernel_rfl) (by kernel_rfl) (by kernel_rfl) (fun _ _ _ h => h) (by rfl) B0 ?_ ?_ ?_
      rotate_left 2
      · (intro w hS; go_simp; try with_reducible rfl)
      · (go_simp; try with_reducible rfl)
      refine held_take (i := 4) (v := ?_) (a' := ?_) rfl (by kernel_rfl) (by kernel_rfl) (by kernel_rfl) (fun _ _ _ h => h) (by rfl) B0 ?_ ?_ ?_
      rotate_left 2
      · (intro w hS; go_simp; try with_reducible rfl)
      · (go_simp; try with_reducible rfl)
      refine held_take (i := 5) (v := ?_) (a' := ?_) rfl (by kernel_rfl) (by kernel_rfl) (by kernel_rfl) (fun _ _ _ h => h) (by rfl) B0 ?_ ?_ ?_
      rotate_left 2
      · (intro w hS; go_simp; try with_reducible rfl)
      · (go_simp; try with_reducible rfl)
      refine held_take (i := 6) (v := ?_) (a' := ?_) rfl (by kernel_rfl) (by kernel_rfl) (by kernel_rfl) (fun _ _ _ h => h) (by rfl) B0 ?_ ?_ ?_
      rotate_left 2
      · (intro w hS; go_simp; try with_reducible rfl)
      · (go_simp; try with_reducible rfl)
      refine held_take (i := 7) (v := ?_) (a' := ?_) rfl (by kernel_rfl) (by kernel_rfl) (by kernel_rfl) (fun _ _ _ h => h) (by rfl) B0 ?_ ?_ ?_
      rotate_left 2
      · (intro w hS; have r := (hS.cell (p := ⟨bq, oq + J * 2, none⟩) hbq).trans K0.out; go_simp; try with_reducible rfl)
      · (go_simp; try with_reducible rfl)
      refine held_take (i := 8) (v := ?_) (a' := ?_) rfl (by kernel_rfl) (by kernel_rfl) (by kernel_rfl) (fun _ _ _ h => h) (by rfl) B0 ?_ ?_ ?_
      rotate_left 2
      · (intro w hS; go_simp; try with_reducible rfl)
      · (go_simp; try with_reducible rfl)
      refine held_take (i := 9) (v := ?_) (a' := ?_) rfl (by kernel_rfl) (by kernel_rfl) (by kernel_rfl) (fun _ _ _ h => h) (by rfl) B0 ?_ ?_ ?_
      rotate_left 2
      · (intro w hS; go_simp; try with_reducible rfl)
      · (go_simp; try with_reducible rfl)
      refine held_take (i := 10) (v := ?_) (a' := ?_) rfl (by kernel_rfl) (by kernel_rfl) (by kernel_rfl) (fun _ _ _ h => h) (by rfl) B0 ?_ ?_ ?_
      rotate_left 2
      · (intro w hS; go_simp; try with_reducible rfl)
      · (go_simp; try with_reducible rfl)
      refine held_take (i := 11) (v := ?_) (a' := ?_) rfl (by kernel_rfl) (by kernel_rfl) (by kernel_rfl) (fun _ _ _ h => h) (by rfl) B0 ?_ ?_ ?_
      rotate_left 2
      · (intro w hS; go_simp; try with_reducible rfl)
      · (go_simp; try with_reducible rfl)
      refine held_take (i := 12) (v := ?_) (a' := ?_) rfl (by kernel_rfl) (by kernel_rfl) (by kernel_rfl) (fun _ _ _ h => h) (by rfl) B0 ?_ ?_ ?_
      rotate_left 2
      · (intro w hS; go_simp; try with_reducible rfl)
      · (go_simp; try with_reducible rfl)
      refine held_take (i := 13) (v := ?_) (a' := ?_) rfl (by kernel_rfl) (by kernel_rfl) (by kernel_rfl) (fun _ _ _ h => h) (by rfl) B0 ?_ ?_ ?_
      rotate_left 2
      · (intro w hS; go_simp; try with_reducible rfl)
      · (go_simp; try with_reducible rfl)
      refine held_take (i := 14) (v := ?_) (a' := ?_) rfl (by kernel_rfl) (by kernel_rfl) (by kernel_rfl) (fun _ _ _ h => h) (by rfl) B0 ?_ ?_ ?_
      rotate_left 2
      · (intro w hS; go_simp; try with_reducible rfl)
      · (go_simp; try with_reducible rfl)
      refine held_take (i := 15) (v := ?_) (a' := ?_) rfl (by kernel_rfl) (by kernel_rfl) (by kernel_rfl) (fun _ _ _ h => h) (by rfl) B0 ?_ ?_ ?_
      rotate_left 2
      · (intro w hS; have r := (hS.cell (p := ⟨bq, oq + J * 2 + 1, none⟩) hbq).trans K1.out; go_simp; try with_reducible rfl)
      · (go_simp; try with_reducible rfl)
      refine held_take (i := 16) (v := ?_) (a' := ?_) rfl (by kernel_rfl) (by kernel_rfl) (by kernel_rfl) (fun _ _ _ h => h) (by rfl) B0 ?_ ?_ ?_
      rotate_left 2
      · (intro w hS; go_simp; try with_reducible rfl)
      · (go_simp; try with_reducible rfl)
      refine held_take (i := 17) (v := ?_) (a' := ?_) rfl (by kernel_rfl) (by kernel_rfl) (by kernel_rfl) (fun _ _ _ h => h) (by rfl) B0 ?_ ?_ ?_
      rotate_left 2
      · (intro w hS; go_simp; try with_reducible rfl)
      · (go_simp; try with_reducible rfl)
      refine held_ready (rs := [18]) (by kernel_rfl) (by simp) ?_
      refine AllHeld.cons rfl (fun KR hKR => ?_) ?_
      · go_simp
        have tok : True := trivial
        refine hKR _ _ (B0.alloc hz0 _) ?_
        clear hKR KR
        refine held_ready (rs := [19]) (by kernel_rfl) (by simp) ?_
        refine AllHeld.cons rfl (fun KR hKR => ?_) ?_
        · go_simp
          have tok2 : True := trivial
          refine hKR _ _ B3.out ?_
          clear hKR KR
          refine wpAnyH_done (by kernel_rfl) ?_ _
          have sm3 := Same.drew (Same.refl (wr.alloc (.cells #[.int .i64 (I : Int), .slice (cutA A ca I) (p - I) (ca - I), .slice (cutA B cb K) (q - K) (cb - K)] 68)))
          have O3 := Lib.hid (sm3.own (HO.out.alloc (.cells #[.int .i64 (I : Int), .slice (cutA A ca I) (p - I) (ca - I), .slice (cutA B cb K) (q - K) (cb - K)] 68)))
          have B3' := Lib.hid ((HB.out.alloc HB.out.size (.cells #[.int .i64 (I : Int), .slice (cutA A ca I) (p - I) (ca - I), .slice (cutA B cb K) (q - K) (cb - K)] 68)).drew)
          have E3 := Lib.hid ((HE.out.mono (fun _ _ h => hkR.stable h (.of_below ((Below.refl _ _).alloc (Nat.le_refl _) (.cells #[.int .i64 (I : Int), .slice (cutA A ca I) (p - I) (ca - I), .slice (cutA B cb K) (q - K) (cb - K)] 68))))).mono (fun _ _ h => hkR.stable h (.same sm3)))
          have hav : ∀ g, (Value.slice Ao d.length co).ownBlock = some g → w2.heap.size ≤ g := fun g h => (HO.out.lt g h).1
          have c0 : (wr.alloc (.cells #[.int .i64 (I : Int), .slice (cutA A ca I) (p - I) (ca - I), .slice (cutA B cb K) (q - K) (cb - K)] 68)).drew.cell? ⟨wr.heap.size, 0, none⟩ = some (.int .i64 (I : Int)) ∧ (wr.alloc (.cells #[.int .i64 (I : Int), .slice (cutA A ca I) (p - I) (ca - I), .slice (cutA B cb K) (q - K) (cb - K)] 68)).drew.cell? ⟨wr.heap.size, 1, none⟩ = some (.slice (cutA A ca I) (p - I) (ca - I)) ∧ (wr.alloc (.cells #[.int .i64 (I : Int), .slice (cutA A ca I) (p - I) (ca - I), .slice (cutA B cb K) (q - K) (cb - K)] 68)).drew.cell? ⟨wr.heap.size, 2, none⟩ = some (.slice (cutA B cb K) (q - K) (cb - K)) := by
            refine ⟨?_, ?_, ?_⟩ <;> go_simp
          have hz : wr.heap.size < (wr.alloc (.cells #[.int .i64 (I : Int), .slice (cutA A ca I) (p - I) (ca - I), .slice (cutA B cb K) (q - K) (cb - K)] 68)).drew.heap.size := by simp
          generalize (wr.alloc (.cells #[.int .i64 (I : Int), .slice (cutA A ca I) (p - I) (ca - I), .slice (cutA B cb K) (q - K) (cb - K)] 68)).drew = w3 at *
          generalize wr.heap.size = g at *
          obtain ⟨c00, c01, c02⟩ := c0
          have KK0 := Lib.hid ((B3'.out.cell (p := ⟨bq, oq + J * 2, none⟩) hbq).trans K0.out)
          have KK1 := Lib.hid ((B3'.out.cell (p := ⟨bq, oq + J * 2 + 1, none⟩) hbq).trans K1.out)
          clear sm3 B3 B0 hz0
          rcases hyes with hy | hy
          · have HH := Lib.hid (HH1.out hy)
            have t1 : decide ((0 : Int) < ((p - I : Nat) : Int) + ((q - K : Nat) : Int)) = true := by rw [decide_eq_true_iff]; omega
            have t2 : decide (0 < p - I + (q - K)) = true := by rw [decide_eq_true_iff]; omega
            have m3 : Moves w3 (w3.alloc (.cells #[.int .i64 (I : Int), .slice (cutA A ca I) (p - I) (ca - I), .slice (cutA B cb K) (q - K) (cb - K)] 68)) (Value.slice Ao d.length co).ownBlock (Value.slice Ao d.length co).ownBlock := .of_below ((Below.refl _ _).alloc (Nat.le_refl _) (.cells #[.int .i64 (I : Int), .slice (cutA A ca I) (p - I) (ca - I), .slice (cutA B cb K) (q - K) (cb - K)] 68))
            have b4 := B3'.out.alloc B3'.out.size (.cells #[.int .i64 (I : Int), .slice (cutA A ca I) (p - I) (ca - I), .slice (cutA B cb K) (q - K) (cb - K)] 68)
            obtain ⟨A8, c8, w8, hrun, hap, hc8, hm8⟩ := append_sl (P := Try.prog) elemRefHk (O3.out.alloc (.cells #[.int .i64 (I : Int), .slice (cutA A ca I) (p - I) (ca - I), .slice (cutA B cb K) (q - K) (cb - K)] 68)) (Sl.fresh w3 #[.int .i64 (I : Int), .slice (cutA A ca I) (p - I) (ca - I), .slice (cutA B cb K) (q - K) (cb - K)] 68 (0, 0) 1 3 rfl) (by simp; exact ⟨rfl, rfl, rfl⟩) (by omega) (by simp only [maxLen]; omega) b4.size 34 1
            have B8 := Lib.hid (b4.trans hap.below)
            have O8 := Lib.hid hap.own
            have slx : ∀ (A : Option Addr) (l : List ByteArray), Sl w2 1 A l.length (strV l) → SlOf strR w3 (Value.slice Ao d.length co).ownBlock A l := fun A l h =>
              ⟨strV l, h.below B3'.out, each_str_mk l, fun h0 b off he ee => by
                obtain ⟨b', off', e', hlt, _⟩ := h.2 h0
                rw [he] at e'
                injection e' with e'
                injection e' with e1
                have := hav b ee.symm
                omega⟩
            have x1 := slx (cutA A ca I) X (by rw [HXL.out]; exact HSA.out)
            have y1 := slx (cutA B cb K) Y (by rw [HYL.out]; exact HSB.out)
            have r1 := hkR.stable (hkR.stable (hk_mk (z := (I : Int)) (c1 := ca - I) (c2 := cb - K) (wf_nat (by omega)) (by rw [HXL.out]; omega) (by unfold maxLen; omega) x1 (by rw [HYL.out]; omega) (by unfold maxLen; omega) y1) m3) (.of_app hap)
            rw [HXL.out, HYL.out] at r1
            have E8 := Lib.hid (((E3.out.mono (fun _ _ h => hkR.stable h m3)).mono (fun _ _ h => hkR.stable h (.of_app hap))).snoc r1)
            have k0 := (B8.out.cell (p := ⟨bq, oq + J * 2, none⟩) hbq).trans K0.out
            have k1 := (B8.out.cell (p := ⟨bq, oq + J * 2 + 1, none⟩) hbq).trans K1.out
            clear hap x1 y1 r1 slx m3 b4 hy
            go_wp2_with (at_builtin; refine wpList_run_append hrun ?_ ?_ ?_; exact rfl; exact rfl)
            go_roundw
            case rel =>
              refine ⟨p + 1, q + 1, J + 1, d ++ [((I : Int), X, Y)], vs ++ #[.int .i64 (I : Int), .slice (cutA A ca I) (p - I) (ca - I), .slice (cutA B cb K) (q - K) (cb - K)].toList, A8, c8, by rw [List.length_append]; rfl, by go_num, by go_num, by go_num, by omega, by simp; omega, by omega, by omega, ?_, ?_, B8.out, HR5, ?_⟩
              · rw [List.length_append]; exact O8.out
              · rw [List.length_append]; exact E8.out
              · refine Lib.hid ?_
                have h1 := H.out
                rw [HX.out, HH.out] at h1
                simpa using h1
            case measure => simp [intOf]; omega
          · have HH := Lib.hid (HH2.out hy)
            have t1 : decide ((0 : Int) < ((p - I : Nat) : Int) + ((q - K : Nat) : Int)) = false := by rw [decide_eq_false_iff_not]; omega
            have t2 : decide (0 < p - I + (q - K)) = false := by rw [decide_eq_false_iff_not]; omega
            have k0 := KK0.out
            have k1 := KK1.out
            clear hy
            go_wp2_with fail
            go_roundw
            case rel =>
              refine ⟨p + 1, q + 1, J + 1, d, vs, Ao, co, rfl, by go_num, by go_num, by go_num, by omega, by omega, by omega, by omega, O3.out, E3.out, B3'.out, HR5, ?_⟩
              refine Lib.hid ?_
              have h1 := H.out
              rw [HX.out, HH.out] at h1
              exact h1
            case measure => simp [intOf]; omega
        exact AllHeld.nil
      exact AllHeld.nil
    · obtain rfl : J = L + 1 := by omega
      have hE2 : Hid (al.drop (L + 1) = []) := Lib.hid (List.drop_eq_nil_of_le (by rw [hall.out]; omega))
      have hlt' : ¬ (((L + 1 : Nat) : Int) < (L : Int) + 1) := by omega
      have hO := SlOf.ofOwn (r := hkR) (l := d) hown hE
      have HO := Lib.hid hO
      have HC := Lib.hid (own_cap hown)
      have HB := Lib.hid (hb2.trans (hbr.mono hb2.size))
      have H' := H.out
      rw [hE2.out, hunksG, List.append_nil] at H'
      have H' := Lib.hid H'
      clear hO hown hE hbr hb2
      go_wp2_with fail
      go_ret2
      rw [← H'.out]
      exact ⟨Ao, co, rfl, HC.out.1, HC.out.2, HO.out, HB.out⟩
end Go.Proofs.Ytoeajlkmcokiiaa
