/- lines.Diff: what must be done to one list to make it another one. -/
import Derived.Test.YtbdlpigokahnoaaHunks
import Derived.Test.YtbdlpigokahnoaaLinesStr
import Derived.Test.YtbdlpigokahnoaaLinesPairs
set_option linter.unusedVariables false
namespace Go.Proofs.Ytbdlpigokahnoaa
open Go.RowKit
attribute [local go_sem ↓] cutA_eq

/-! ### the plain law -/
def hunksG (a b : List ByteArray) : Nat → Nat → List (Nat × Nat) → List Hk
  | _, _, [] => []
  | i, k, p :: r => if i < p.1 ∨ k < p.2 then ((i : Int), (a.drop i).take (p.1 - i), (b.drop k).take (p.2 - k)) :: hunksG a b (p.1 + 1) (p.2 + 1) r else hunksG a b (p.1 + 1) (p.2 + 1) r
theorem hunksG_yes {a b : List ByteArray} {i k p q : Nat} {r : List (Nat × Nat)} (h : i < p ∨ k < q) : hunksG a b i k ((p, q) :: r) = ((i : Int), (a.drop i).take (p - i), (b.drop k).take (q - k)) :: hunksG a b (p + 1) (q + 1) r := by
  rw [hunksG, if_pos h]
theorem hunksG_no {a b : List ByteArray} {i k p q : Nat} {r : List (Nat × Nat)} (h : ¬ (i < p ∨ k < q)) : hunksG a b i k ((p, q) :: r) = hunksG a b (p + 1) (q + 1) r := by
  rw [hunksG, if_neg h]
def allPairs (a b : List ByteArray) : List (Nat × Nat) := pairsAt a b 0 0 ++ [(a.length, b.length)]
def diffG (a b : List ByteArray) : List Hk := hunksG a b 0 0 (allPairs a b)

/-- places that rise, within both lists -/
def Rise (n m : Nat) : Nat → Nat → List (Nat × Nat) → Prop
  | _, _, [] => True
  | i, k, p :: r => i ≤ p.1 ∧ k ≤ p.2 ∧ p.1 ≤ n ∧ p.2 ≤ m ∧ Rise n m (p.1 + 1) (p.2 + 1) r
theorem Rising.rise {a b : List ByteArray} : ∀ {l : List (Nat × Nat)} {i k : Nat}, Rising a b i k l → i ≤ a.length → k ≤ b.length → Rise a.length b.length i k (l ++ [(a.length, b.length)])
  | [], i, k, _, hi, hk => ⟨hi, hk, Nat.le_refl _, Nat.le_refl _, trivial⟩
  | p :: r, i, k, ⟨h1, h2, h3, h4, _, h6⟩, hi, hk => ⟨h1, h2, by omega, by omega, h6.rise (by omega) (by omega)⟩
theorem allPairs_rise (a b : List ByteArray) : Rise a.length b.length 0 0 (allPairs a b) := (pairsAt_rising a b 0 0).rise (Nat.zero_le _) (Nat.zero_le _)
theorem allPairs_length (a b : List ByteArray) : (allPairs a b).length = (pairsAt a b 0 0).length + 1 := by simp [allPairs]
theorem hunksG_length (a b : List ByteArray) : ∀ (l : List (Nat × Nat)) (i k : Nat), (hunksG a b i k l).length ≤ l.length
  | [], i, k => by simp [hunksG]
  | p :: r, i, k => by
    have := hunksG_length a b r (p.1 + 1) (p.2 + 1)
    rw [hunksG]; split <;> simp <;> omega
theorem pdrop_cons {l : List (Nat × Nat)} {j : Nat} {p : Nat × Nat} (h : l[j]? = some p) : l.drop j = p :: l.drop (j + 1) := by
  obtain ⟨hi, rfl⟩ := List.getElem?_eq_some_iff.1 h
  exact List.drop_eq_getElem_cons hi

/-- a pair's two cells -/
theorem pair_look {w : World} {A : Option Addr} {n j : Nat} {l : List (Nat × Nat)} (h : Sl w 2 A n (pairV l)) (hl : l.length = n) (hj : j < n) :
    ∃ (b off p q : Nat), A = some ⟨b, off, none⟩ ∧ b < w.heap.size ∧ l[j]? = some (p, q) ∧ w.cell? ⟨b, off + j * 2, none⟩ = some (.int .i64 (p : Int)) ∧ w.cell? ⟨b, off + j * 2 + 1, none⟩ = some (.int .i64 (q : Int)) := by
  obtain ⟨b, off, e, hb, hc⟩ := h.2 (by omega)
  have hx : l[j]? = some (l[j]'(by omega)) := List.getElem?_eq_getElem (by omega)
  obtain ⟨h1, h2⟩ := pairV_get hx
  rw [Nat.mul_comm] at h1 h2
  refine ⟨b, off, (l[j]'(by omega)).1, (l[j]'(by omega)).2, e, hb, hx, hc _ _ h1, ?_⟩
  rw [Nat.add_assoc]
  exact hc _ _ h2

theorem elemHk : ElemOf Try.prog 31 69 (.agg #[.int .i64 0, .slice none 0 0, .slice none 0 0]) 3 56 := ⟨Try.underlying31, by kernel_rfl, rfl, by decide⟩

/-- a row of strings of a later make than the block av -/
theorem SlOf.strOwn {w : World} {base : Nat} {e : TypeId} {A : Option Addr} {c : Nat} {l : List ByteArray} {av : Av} (h : w.ownsRow base e 1 (.slice A l.length c) l.length (strV l)) (ha : ∀ g, av g → g < base) : SlOf strR w av A l := by
  refine ⟨strV l, Sl.ofOwn h, each_str_mk l, fun h0 b off he ee => ?_⟩
  subst he
  have h1 := (h.lt b rfl).1
  have h2 := ha b ee
  omega
theorem wf_nat {n : Nat} (h : n ≤ 1000000000) : (Lit.int .i64 (n : Int)).wf = true := by
  simp only [Lit.wf, IntKind.min, IntKind.max, IntKind.signed, IntKind.bits, Bool.and_eq_true, decide_eq_true_eq]
  constructor <;> simp <;> omega

theorem cells2_keep {B : Nat} {w w' : World} {b : Nat} {x y : Option Value} (hb : Below B w w') (hlt : b < B) (h : w.cell? ⟨b, 0, none⟩ = x ∧ w.cell? ⟨b, 1, none⟩ = y) : w'.cell? ⟨b, 0, none⟩ = x ∧ w'.cell? ⟨b, 1, none⟩ = y :=
  ⟨(hb.cell hlt).trans h.1, (hb.cell hlt).trans h.2⟩
theorem Moves.same {w w' : World} {av : Av} (h : Same w w') : Moves w w' av av := .of_below (h.below _)

/-- What Diff leaves. -/
def DiffPost (W : World) (r : List Hk) (e : Ending) (w' : World) : Prop :=
  ∃ A c, e = .returned (.tuple #[.slice A r.length c, .int .i64 0]) ∧ r.length ≤ c ∧ c ≤ maxLen ∧ SlOf hkR w' no A r ∧ Below W.heap.size W w'

theorem diff_long (A B : Option Addr) (n ca m cb : Nat) (w : World) (hn : n ≤ 1048576) (hm : m ≤ 1048576) (hp : 1048576 < n * m) :
    Calls Try.prog 15 #[.slice A n ca, .slice B m cb] w fun e w' => e = .returned (.tuple #[.slice none 0 0, .int .i64 2]) ∧ w = w' := by
  have HP := Lib.hid hp
  clear hp
  go_enter Try.func15, Try.ntmps15
  go_wp2_with fail
  refine (pairs_long A B n ca m cb w hn hm HP.out).mono ?_
  rintro e w' ⟨rfl, rfl⟩
  go_wp2_with fail
  go_ret2
  exact ⟨rfl, rfl⟩

set_option maxHeartbeats 4000000 in
theorem diff_any (A B : Option Addr) (n ca m cb : Nat) (a b : List ByteArray) (w : World) (ha : Sl w 1 A n (strV a)) (hb : Sl w 1 B m (strV b)) (hca : n ≤ ca) (hcm : ca ≤ maxLen) (hcb : m ≤ cb) (hcbm : cb ≤ maxLen) (hn : n ≤ 1048576) (hm : m ≤ 1048576) (hp : n * m ≤ 1048576) :
    Calls Try.prog 15 #[.slice A n ca, .slice B m cb] w (DiffPost w (diffG a b)) := by
  have HLA := Lib.hid ha.strLen
  have HLB := Lib.hid hb.strLen
  have HP := Lib.hid hp
  have hpl := pairsAt_le a b 0 0
  rw [HLA.out] at hpl
  have hall := Lib.hid (allPairs_length a b)
  have hri := allPairs_rise a b
  rw [HLA.out, HLB.out] at hri
  have HRI := Lib.hid hri
  have HAP : Hid (pairsAt a b 0 0 ++ [(a.length, b.length)] = allPairs a b) := Lib.hid rfl
  have HDG : Hid (hunksG a b 0 0 (allPairs a b) = diffG a b) := Lib.hid rfl
  unfold maxLen at hcm hcbm
  clear hp hri
  go_enter Try.func15, Try.ntmps15
  go_wp2_with fail
  refine (pairs_any A B n ca m cb a b w ha hb hn hm HP.out).mono ?_
  rintro e w1 ⟨Ap, cp, rfl, hpo, hpc, hpm, hb1⟩
  have hpo2 := hpo.alloc (.cells #[.int .i64 (n : Int), .int .i64 (m : Int)] 65)
  have hs2 := Sl.fresh w1 #[.int .i64 (n : Int), .int .i64 (m : Int)] 65 (0, 0) 1 2 rfl
  obtain ⟨Aq, cq, w2, hrun, hap, hc1, hc2⟩ := append_sl (P := Try.prog) elemPair hpo2 hs2 (by simp; exact ⟨rfl, rfl⟩) (by omega) (by simp only [maxLen]; omega) (by have := hb1.size; simp; omega) 39 1
  have hb2 : Below w.heap.size w w2 := (hb1.alloc hb1.size (.cells #[.int .i64 (n : Int), .int .i64 (m : Int)] 65)).trans hap.below
  have hq := Sl.ofOwn hap.own
  have hq : Sl w2 2 Aq ((pairsAt a b 0 0).length + 1) (pairV (allPairs a b)) := by
    rw [← HAP.out, HLA.out, HLB.out, ← pairV_snoc]; exact hq
  have ha2 := ha.below hb2
  have hbb2 := hb.below hb2
  generalize hL : (pairsAt a b 0 0).length = L at *
  generalize allPairs a b = al at *
  have hL2 : L + 1 ≤ 1048577 := by omega
  clear hpo2 hs2 hap hpo HAP hb1 ha hb hL hpc hpm
  go_wp2_with (at_builtin; refine wpList_run_append hrun ?_ ?_ ?_; exact rfl; exact rfl)
  clear hrun
  go_loopw [8, 9, 10, 31] (fun o i k j wr => ∃ (I K J : Nat) (d : List Hk) (vs : List Value) (Ao : Option Addr) (co : Nat), o = .slice Ao d.length co ∧ i = .int .i64 I ∧ k = .int .i64 K ∧ j = .int .i64 J ∧ J ≤ L + 1 ∧ d.length ≤ J ∧ I ≤ 1048577 ∧ K ≤ 1048577 ∧
      wr.ownsRow w2.heap.size 69 3 (.slice Ao d.length co) d.length vs ∧ Each (hkR.R wr (own (Value.slice Ao d.length co))) vs d ∧ Below w2.heap.size w2 wr ∧ Hid (Rise n m I K (al.drop J)) ∧ Hid (d ++ hunksG a b I K (al.drop J) = diffG a b)) (fun _ _ _ j _ => L + 1 - (intOf j).toNat)
  case atStart => exact ⟨0, 0, 0, [], [], none, 0, rfl, rfl, rfl, rfl, by omega, by simp, by omega, by omega, World.ownsRow_nil _ _ _ _, .nil, Below.refl _ _, HRI, Lib.hid (by simpa using HDG.out)⟩
  case round =>
    obtain ⟨I, K, J, d, vs, Ao, co, rfl, rfl, rfl, rfl, hJ, hdJ, hI, hK, hown, hE, hbr, HR, H⟩ := hrel
    by_cases hJL : J < L + 1
    · obtain ⟨bq, oq, p, q, rfl, hbq, hx, k0, k1⟩ := pair_look (j := J) hq (by have := hall.out; omega) hJL
      have k0 := (hbr.cell hbq).trans k0
      have k1 := (hbr.cell hbq).trans k1
      have HX := Lib.hid (pdrop_cons hx)
      have hR := HR.out
      rw [HX.out] at hR
      obtain ⟨r1, r2, r3, r4, r5⟩ := hR
      simp only at r1 r2 r3 r4 r5
      have HR5 := Lib.hid r5
      have HO := Lib.hid hown
      have HE := Lib.hid hE
      have HB := Lib.hid hbr
      have HBX := Lib.hid (hbr.alloc hbr.size (.cells #[.int .i64 (p : Int), .int .i64 (q : Int)] 65))
      have hlt' : (J : Int) < (L : Int) + 1 := by omega
      clear hx r5 hown hE hbr
      by_cases hyes : I < p ∨ K < q
      · have HH := Lib.hid (hunksG_yes (a := a) (b := b) (r := al.drop (J + 1)) hyes)
        have ht : (decide (I < p) = true) ∨ (decide (I < p) = false ∧ decide (K < q) = true) := by
          by_cases h : I < p
          · exact .inl (by simpa using h)
          · exact .inr ⟨by simpa using h, by simp; omega⟩
        clear hyes
        rcases ht with t1 | ⟨t1, t2⟩
        all_goals
          go_wp2_with fail
          have HE3 := Lib.hid (HE.out.mono (fun _ _ h => hkR.stable h (.of_below ((Below.refl _ _).alloc (Nat.le_refl _) (.cells #[.int .i64 (p : Int), .int .i64 (q : Int)] 65)))))
          have HO3 := Lib.hid (HO.out.alloc (.cells #[.int .i64 (p : Int), .int .i64 (q : Int)] 65))
          have hav : ∀ g, (Value.slice Ao d.length co).ownBlock = some g → g < wr.heap.size := fun g h => (HO.out.lt g h).2
          have hne := own_lt HO.out (Nat.le_refl wr.heap.size)
          have c0 : (wr.alloc (.cells #[.int .i64 (p : Int), .int .i64 (q : Int)] 65)).cell? ⟨wr.heap.size, 0, none⟩ = some (.int .i64 (p : Int)) ∧ (wr.alloc (.cells #[.int .i64 (p : Int), .int .i64 (q : Int)] 65)).cell? ⟨wr.heap.size, 1, none⟩ = some (.int .i64 (q : Int)) := by
            refine ⟨?_, ?_⟩ <;> go_simp
          have hz : wr.heap.size < (wr.alloc (.cells #[.int .i64 (p : Int), .int .i64 (q : Int)] 65)).heap.size := by simp
          have hsa := ((ha2.below HBX.out).cut (k := I) (by omega) hca).upto (k := p - I) (by omega)
          rw [Nat.mul_one, strV_drop, strV_take] at hsa
          have hsb := ((hbb2.below HBX.out).cut (k := K) (by omega) hcb).upto (k := q - K) (by omega)
          rw [Nat.mul_one, strV_drop, strV_take] at hsb
          have hX : ((a.drop I).take (p - I)).length = p - I := by rw [List.length_take, List.length_drop, HLA.out]; omega
          have hY : ((b.drop K).take (q - K)).length = q - K := by rw [List.length_take, List.length_drop, HLB.out]; omega
          generalize (a.drop I).take (p - I) = X at *
          generalize (b.drop K).take (q - K) = Y at *
          have HXL := Lib.hid hX
          have HYL := Lib.hid hY
          have HSA := Lib.hid hsa
          have HSB := Lib.hid hsb
          generalize wr.alloc (.cells #[.int .i64 (p : Int), .int .i64 (q : Int)] 65) = w3 at *
          generalize wr.heap.size = g at *
          have C0 := Lib.hid c0
          have hIp : (I : Int) ≤ (p : Int) := by omega
          have hpc : (p : Int) ≤ (ca : Int) := by omega
          have hKq : (K : Int) ≤ (q : Int) := by omega
          have hqc : (q : Int) ≤ (cb : Int) := by omega
          have HS0 := Same.drew (Same.refl w3)
          clear hX hY hsa hsb c0 k0 k1 HE HO HB t1 hbq
          try clear t2
          refine wp_region_held (S := fun w' => w'.cell? ⟨g, 0, none⟩ = some (.int .i64 (p : Int)) ∧ w'.cell? ⟨g, 1, none⟩ = some (.int .i64 (q : Int))) (by kernel_rfl) ?_
          change wpAnyH _ _ _ _ _ _ _ _ (World.drew _)
          refine held_take (i := 0) (v := ?_) (a' := ?_) rfl (by kernel_rfl) (by kernel_rfl) (by kernel_rfl) (fun _ _ _ h => h) (by rfl) C0.out ?_ ?_ ?_
          rotate_left 2
          · (intro w hS; go_simp; try with_reducible rfl)
          · (go_simp; try with_reducible rfl)
          refine held_take (i := 1) (v := ?_) (a' := ?_) rfl (by kernel_rfl) (by kernel_rfl) (by kernel_rfl) (fun _ _ _ h => h) (by rfl) C0.out ?_ ?_ ?_
          rotate_left 2
          · (intro w hS; go_simp; try with_reducible rfl)
          · (go_simp; try with_reducible rfl)
          refine held_take (i := 2) (v := ?_) (a' := ?_) rfl (by kernel_rfl) (by kernel_rfl) (by kernel_rfl) (fun _ _ _ h => h) (by rfl) C0.out ?_ ?_ ?_
          rotate_left 2
          · (intro w hS; go_simp; try with_reducible rfl)
          · (go_simp; try with_reducible rfl)
          refine held_take (i := 3) (v := ?_) (a' := ?_) rfl (by kernel_rfl) (by kernel_rfl) (by kernel_rfl) (fun _ _ _ h => h) (by rfl) C0.out ?_ ?_ ?_
          rotate_left 2
          · (intro w hS; go_simp; try with_reducible rfl)
          · (go_simp; try with_reducible rfl)
          refine held_take (i := 4) (v := ?_) (a' := ?_) rfl (by kernel_rfl) (by kernel_rfl) (by kernel_rfl) (fun _ _ _ h => h) (by rfl) C0.out ?_ ?_ ?_
          rotate_left 2
          · (intro w hS; go_simp; try with_reducible rfl)
          · (go_simp; try with_reducible rfl)
          refine held_take (i := 5) (v := ?_) (a' := ?_) rfl (by kernel_rfl) (by kernel_rfl) (by kernel_rfl) (fun _ _ _ h => h) (by rfl) C0.out ?_ ?_ ?_
          rotate_left 2
          · (intro w hS; obtain ⟨q0, q1⟩ := hS; go_simp; try with_reducible rfl)
          · (go_simp; try with_reducible rfl)
          refine held_take (i := 6) (v := ?_) (a' := ?_) rfl (by kernel_rfl) (by kernel_rfl) (by kernel_rfl) (fun _ _ _ h => h) (by rfl) C0.out ?_ ?_ ?_
          rotate_left 2
          · (intro w hS; go_simp; try with_reducible rfl)
          · (go_simp; try with_reducible rfl)
          refine held_take (i := 8) (v := ?_) (a' := ?_) rfl (by kernel_rfl) (by kernel_rfl) (by kernel_rfl) (fun _ _ _ h => h) (by rfl) C0.out ?_ ?_ ?_
          rotate_left 2
          · (intro w hS; go_simp; try with_reducible rfl)
          · (go_simp; try with_reducible rfl)
          refine held_take (i := 9) (v := ?_) (a' := ?_) rfl (by kernel_rfl) (by kernel_rfl) (by kernel_rfl) (fun _ _ _ h => h) (by rfl) C0.out ?_ ?_ ?_
          rotate_left 2
          · (intro w hS; go_simp; try with_reducible rfl)
          · (go_simp; try with_reducible rfl)
          refine held_take (i := 10) (v := ?_) (a' := ?_) rfl (by kernel_rfl) (by kernel_rfl) (by kernel_rfl) (fun _ _ _ h => h) (by rfl) C0.out ?_ ?_ ?_
          rotate_left 2
          · (intro w hS; go_simp; try with_reducible rfl)
          · (go_simp; try with_reducible rfl)
          refine held_take (i := 11) (v := ?_) (a' := ?_) rfl (by kernel_rfl) (by kernel_rfl) (by kernel_rfl) (fun _ _ _ h => h) (by rfl) C0.out ?_ ?_ ?_
          rotate_left 2
          · (intro w hS; obtain ⟨q0, q1⟩ := hS; go_simp; try with_reducible rfl)
          · (go_simp; try with_reducible rfl)
          refine held_take (i := 12) (v := ?_) (a' := ?_) rfl (by kernel_rfl) (by kernel_rfl) (by kernel_rfl) (fun _ _ _ h => h) (by rfl) C0.out ?_ ?_ ?_
          rotate_left 2
          · (intro w hS; go_simp; try with_reducible rfl)
          · (go_simp; try with_reducible rfl)
          refine held_ready (rs := [7]) (by kernel_rfl) (by simp) ?_
          refine AllHeld.cons rfl (fun KR hKR => ?_) ?_
          · go_simp
            refine (clone_any _ (p - I) (ca - I) X _ (HS0.sl HSA.out) (by omega)).mono ?_
            rintro e w5 ⟨A5, c5, rfl, ho5, hc5, hm5, hb5⟩
            have C5 := Lib.hid (cells2_keep hb5 hz C0.out)
            have B5 := Lib.hid ((HS0.below w3.heap.size).trans hb5)
            have hz5 : g < w5.heap.size := Nat.lt_of_lt_of_le hz hb5.size
            have HO5 := Lib.hid ho5
            clear ho5 hb5
            refine hKR _ _ C5.out ?_
            clear hKR KR
            refine held_ready (rs := [13]) (by kernel_rfl) (by simp) ?_
            refine AllHeld.cons rfl (fun KR hKR => ?_) ?_
            · go_simp
              refine (clone_any _ (q - K) (cb - K) Y _ (HSB.out.below B5.out) (by omega)).mono ?_
              rintro e w6 ⟨A6, c6, rfl, ho6, hc6, hm6, hb6⟩
              have C6 := Lib.hid (cells2_keep hb6 hz5 C5.out)
              have B56 := Lib.hid hb6
              have B6 := Lib.hid (B5.out.trans (hb6.mono B5.out.size))
              have hz6 : g < w6.heap.size := Nat.lt_of_lt_of_le hz5 hb6.size
              have HO6 := Lib.hid ho6
              clear ho6 hb6
              refine hKR _ _ C6.out ?_
              clear hKR KR
              refine held_take (i := 14) (v := ?_) (a' := ?_) rfl (by kernel_rfl) (by kernel_rfl) (by kernel_rfl) (fun _ _ _ h => h) (by rfl) C6.out ?_ ?_ ?_
              rotate_left 2
              · (intro w hS; go_simp; try with_reducible rfl)
              · (go_simp; try with_reducible rfl)
              refine held_ready (rs := [15]) (by kernel_rfl) (by simp) ?_
              refine AllHeld.cons rfl (fun KR hKR => ?_) ?_
              · go_simp
                have B67 := Lib.hid ((Below.refl w6.heap.size w6).alloc (Nat.le_refl _) (.cells #[.int .i64 (I : Int), .slice A5 X.length c5, .slice A6 Y.length c6] 69))
                have C7 := Lib.hid (cells2_keep B67.out hz6 C6.out)
                have hz7 : g < (w6.alloc (.cells #[.int .i64 (I : Int), .slice A5 X.length c5, .slice A6 Y.length c6] 69)).heap.size := by simp; omega
                refine hKR _ _ C7.out ?_
                clear hKR KR
                refine held_ready (rs := [16]) (by kernel_rfl) (by simp) ?_
                refine AllHeld.cons rfl (fun KR hKR => ?_) ?_
                · have B37 := Lib.hid (B6.out.trans (B67.out.mono B6.out.size))
                  have hown7 := own_below HO3.out B37.out
                  refine step_append_sl (by rfl) (.tmp 45) (.tmp 60) (by rfl) elemHk w2.heap.size d.length vs (by rfl) hown7 1 #[.int .i64 (I : Int), .slice A5 X.length c5, .slice A6 Y.length c6].toList (by rfl) (Sl.fresh w6 _ _ _ 1 3 rfl) (by simp; exact ⟨rfl, rfl, rfl⟩) (d.length + 1) rfl _ rfl (by omega) (by simp only [maxLen]; omega) (Nat.le_trans HBX.out.size B37.out.size) (fun A8 c8 w8 hap8 hc8 hm8 => ?_)
                  have hC8 : w8.cell? ⟨g, 0, none⟩ = some (.int .i64 (p : Int)) ∧ w8.cell? ⟨g, 1, none⟩ = some (.int .i64 (q : Int)) := ⟨(hap8.cell hz7 hne 0).trans C7.out.1, (hap8.cell hz7 hne 1).trans C7.out.2⟩
                  have C8 := Lib.hid hC8
                  have m1 : Moves w3 _ (own (Value.slice Ao d.length co)) (own (Value.slice Ao d.length co)) := .of_below B37.out
                  have x1 := (SlOf.strOwn (av := own (Value.slice Ao d.length co)) HO5.out (fun g' h => by have := hav g' h; have h2 : w3.drew.heap.size = w3.heap.size := rfl; omega)).stable (.of_below (B56.out.trans (B67.out.mono B56.out.size)))
                  have y1 := (SlOf.strOwn (av := own (Value.slice Ao d.length co)) HO6.out (fun g' h => by have := hav g' h; omega)).stable (.of_below B67.out)
                  have r1 := hkR.stable (hk_mk (z := (I : Int)) (wf_nat (by omega)) hc5 hm5 x1 hc6 hm6 y1) (.of_app hap8)
                  have e1 := ((HE3.out.mono (fun _ _ h => hkR.stable h m1)).mono (fun _ _ h => hkR.stable h (.of_app hap8))).snoc r1
                  have E8 := Lib.hid e1
                  have O8 := Lib.hid hap8.own
                  have B8 := Lib.hid ((HBX.out.trans (B37.out.mono HBX.out.size)).trans hap8.below)
                  clear hap8 m1 x1 y1 r1 e1 hC8 hown7
                  refine hKR _ _ C8.out ?_
                  clear hKR KR
                  refine held_take (i := 17) (v := ?_) (a' := ?_) rfl (by kernel_rfl) (by kernel_rfl) (by kernel_rfl) (fun _ _ _ h => h) (by rfl) C8.out ?_ ?_ ?_
                  rotate_left 2
                  · (intro w hS; go_simp; try with_reducible rfl)
                  · (go_simp; try with_reducible rfl)
                  refine wpAnyH_done (by kernel_rfl) ?_ _
                  obtain ⟨q0, q1⟩ := C8.out
                  go_wp2_with fail
                  go_quiet (fail)
                  go_wp2_with fail
                  have hsm : Same w8 (w8.drewN nq) := ⟨nq, rfl⟩
                  go_roundw
                  case rel =>
                    refine ⟨p + 1, q + 1, J + 1, d ++ [((I : Int), X, Y)], vs ++ #[.int .i64 (I : Int), .slice A5 X.length c5, .slice A6 Y.length c6].toList, A8, c8, by rw [List.length_append]; rfl, by go_num, by go_num, by go_num, by omega, by simp; omega, by omega, by omega, ?_, ?_, B8.out.trans (hsm.below _), HR5, ?_⟩
                    · rw [List.length_append]; exact hsm.own O8.out
                    · rw [List.length_append]; exact E8.out.mono (fun _ _ h => hkR.stable h (.same hsm))
                    · refine Lib.hid ?_
                      have h1 := H.out
                      rw [HX.out, HH.out] at h1
                      simpa using h1
                  case measure => simp [intOf]; omega
                exact AllHeld.nil
              exact AllHeld.nil
            exact AllHeld.nil
          exact AllHeld.nil
      · have HH := Lib.hid (hunksG_no (a := a) (b := b) (r := al.drop (J + 1)) hyes)
        have t1 : decide (I < p) = false := by simp; omega
        have t2 : decide (K < q) = false := by simp; omega
        clear hyes
        have HO3 := Lib.hid (HO.out.alloc (.cells #[.int .i64 (p : Int), .int .i64 (q : Int)] 65))
        have HE3 := Lib.hid (HE.out.mono (fun _ _ h => hkR.stable h (.of_below ((Below.refl _ _).alloc (Nat.le_refl _) (.cells #[.int .i64 (p : Int), .int .i64 (q : Int)] 65)))))
        go_wp2_with fail
        go_quiet (fail)
        go_wp2_with fail
        have hsm : Same (wr.alloc (.cells #[.int .i64 (p : Int), .int .i64 (q : Int)] 65)) ((wr.alloc (.cells #[.int .i64 (p : Int), .int .i64 (q : Int)] 65)).drewN nq) := ⟨nq, rfl⟩
        go_roundw
        case rel =>
          refine ⟨p + 1, q + 1, J + 1, d, vs, Ao, co, rfl, by go_num, by go_num, by go_num, by omega, by omega, by omega, by omega, hsm.own HO3.out, HE3.out.mono (fun _ _ h => hkR.stable h (.same hsm)), HBX.out.trans (hsm.below _), HR5, ?_⟩
          refine Lib.hid ?_
          have h1 := H.out
          rw [HX.out, HH.out] at h1
          exact h1
        case measure => simp [intOf]; omega
    · obtain rfl : J = L + 1 := by omega
      have hE2 : Hid (al.drop (L + 1) = []) := Lib.hid (List.drop_eq_nil_of_le (by rw [hall.out]; omega))
      have hlt' : ¬ (((L + 1 : Nat) : Int) < (L : Int) + 1) := by omega
      have hO := SlOf.ofOwn (r := hkR) (l := d) hown hE
      have HO := Lib.hid hO
      have HC := Lib.hid (own_cap hown)
      have HB := Lib.hid (hb2.trans (hbr.mono hb2.size))
      have H' := H.out
      rw [hE2.out, hunksG, List.append_nil] at H'
      have H' := Lib.hid H'
      clear hO hown hE hbr hb2
      go_wp2_with fail
      go_ret2
      rw [← H'.out]
      exact ⟨Ao, co, rfl, HC.out.1, HC.out.2, HO.out, HB.out⟩
end Go.Proofs.Ytbdlpigokahnoaa
