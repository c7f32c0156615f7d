/- The walk of the law WholeWeave: what ours changes, and what the merge changes of ours, done to the base, is the merge. -/
import Derived.Test.YtbdlpigokahnoaaLawWeaveSides
import Derived.Test.YtbdlpigokahnoaaLawWeaveMarks
import Derived.Test.YtbdlpigokahnoaaLinesJoin
import Derived.Test.YtbdlpigokahnoaaLinesLaws
import Derived.Test.YtbdlpigokahnoaaRegionLate
import Derived.Deep.DeepCutAuto
import Derived.Deep.CutBlock
set_option linter.unusedVariables false
namespace Go.Proofs.Ytbdlpigokahnoaa
open Go.RowKit
attribute [local go_sem ↓] cvt_eq

theorem same_take {ps : List Pt} {K : Nat} {p : Pt} (h : ps[K]? = some p) : (sameOf (ps.take (K + 1))).length = (sameOf (ps.take K)).length + (if p.1 = 0 then p.2.1.length else 0) := by
  rw [List.take_add_one, h]
  unfold sameOf
  rw [List.flatMap_append, List.length_append]
  congr 1
  by_cases h0 : p.1 = 0 <;> simp [h0]
theorem same_le : ∀ (ps : List Pt), (sameOf ps).length ≤ (baseOf ps).length
  | [] => Nat.le_refl _
  | p :: ps => by
    have ih := same_le ps
    have e1 : sameOf (p :: ps) = (if p.1 = 0 then p.2.1 else []) ++ sameOf ps := rfl
    have e2 : baseOf (p :: ps) = p.2.1 ++ baseOf ps := rfl
    rw [e1, e2, List.length_append, List.length_append]
    split <;> simp <;> omega
theorem same_take_le (ps : List Pt) (K : Nat) : (sameOf (ps.take K)).length ≤ (baseOf ps).length := by
  have h1 := same_le (ps.take K)
  have h := congrArg baseOf (List.take_append_drop K ps)
  have e : baseOf (ps.take K ++ ps.drop K) = baseOf (ps.take K) ++ baseOf (ps.drop K) := by unfold baseOf; rw [List.flatMap_append]
  rw [e] at h
  have h2 := congrArg List.length h
  rw [List.length_append] at h2
  omega
/-- how many bytes lines hold -/
def sumB (l : List ByteArray) : Nat := (l.map (·.data.toList)).flatten.length
theorem sumB_append (a b : List ByteArray) : sumB (a ++ b) = sumB a + sumB b := by unfold sumB; rw [List.map_append, List.flatten_append, List.length_append]
theorem sumB_cons (s : ByteArray) (l : List ByteArray) : sumB (s :: l) = s.size + sumB l := by
  unfold sumB
  rw [List.map_cons, List.flatten_cons, List.length_append]
  rfl
theorem sumB_closed (l : List ByteArray) : sumB (closedG l) ≤ sumB l + 1 := by
  rcases snoc_cases l with rfl | ⟨init, x, rfl⟩
  · exact Nat.le_succ _
  · unfold closedG
    rw [List.getLast?_concat]
    simp only
    split
    · omega
    · rw [List.dropLast_concat, sumB_append, sumB_append, sumB_cons, sumB_cons, ByteArray.size_append]
      have e : nl.size = 1 := rfl
      omega
theorem text_bytes {o t : ByteArray} (ho : o.size ≤ 1) (ht : t.size ≤ 1) : ∀ (ps : List Pt), sumB (textG o t ps) ≤ sumB (baseOf ps) + sumB (oursOf ps) + sumB (theirsOf ps) + 60 * ps.length
  | [] => by simp [textG, sumB]
  | p :: ps => by
    have ih := text_bytes ho ht ps
    have e1 : baseOf (p :: ps) = p.2.1 ++ baseOf ps := rfl
    have e2 : oursOf (p :: ps) = p.2.2.1 ++ oursOf ps := rfl
    have e3 : theirsOf (p :: ps) = p.2.2.2 ++ theirsOf ps := rfl
    have e4 : textG o t (p :: ps) = chunkG o t p ++ textG o t ps := rfl
    have hc : sumB (chunkG o t p) ≤ sumB p.2.1 + sumB p.2.2.1 + sumB p.2.2.2 + 60 := by
      unfold chunkG
      split
      · omega
      · split
        · omega
        · have q1 := sumB_closed p.2.1
          have q2 := sumB_closed p.2.2.1
          have q3 := sumB_closed p.2.2.2
          have m1 := (mark_size o).1
          have m2 := (mark_size t).2
          have e5 : mBase.size = 13 := rfl
          have e6 : mMid.size = 8 := rfl
          have e7 : sumB [] = 0 := rfl
          rw [sumB_append, sumB_append, sumB_append, sumB_cons, sumB_cons, sumB_cons, sumB_cons]
          omega
    rw [e1, e2, e3, e4, sumB_append, sumB_append, sumB_append, sumB_append, List.length_cons]
    omega
theorem strJ (l : List ByteArray) : (⟨((l.map (·.data.toList)).flatten).toArray⟩ : ByteArray) = ⟨((l.map (·.data.toList)).flatten).toArray⟩ := rfl
theorem join_ab : ([(⟨#[97, 10]⟩ : ByteArray), ⟨#[98]⟩].map (·.data.toList)).flatten = [97, 10, 98] := rfl

set_option maxRecDepth 100000 in
set_option maxHeartbeats 6000000 in
theorem wholeWeave_any (A : Option Addr) (na ca : Nat) (a : List UInt8) (B : Option Addr) (nb cb : Nat) (b : List UInt8) (C : Option Addr) (nc cc : Nat) (c : List UInt8) (w : World)
    (ha : Sl w 1 A na (bytesV a)) (hca : na ≤ ca) (hcm : ca ≤ maxLen) (hn : na ≤ 1048576) (hb : Sl w 1 B nb (bytesV b)) (hcb : nb ≤ cb) (hcbm : cb ≤ maxLen) (hm : nb ≤ 1048576) (hc : Sl w 1 C nc (bytesV c)) (hcc : nc ≤ cc) (hccm : cc ≤ maxLen) (hr : nc ≤ 1048576) :
    Calls Try.prog 3 #[.slice A na ca, .slice B nb cb, .slice C nc cc] w fun e w' => e = .returned (.bool true) ∧ Below w.heap.size w w' := by
  have hla : a.length = na := by have := ha.1; simpa [bytesV] using this
  have hlb : b.length = nb := by have := hb.1; simpa [bytesV] using this
  have hlc : c.length = nc := by have := hc.1; simpa [bytesV] using this
  obtain ⟨-, -, fa3, fa4⟩ := split_fine a.length a (Nat.le_refl _)
  obtain ⟨-, -, fb3, fb4⟩ := split_fine b.length b (Nat.le_refl _)
  obtain ⟨-, -, fc3, fc4⟩ := split_fine c.length c (Nat.le_refl _)
  have FA := Lib.hid (show Short (splitG a) from fun s hs => by have := fa4 s hs; omega)
  have FB := Lib.hid (show Short (splitG b) from fun s hs => by have := fb4 s hs; omega)
  have FC := Lib.hid (show Short (splitG c) from fun s hs => by have := fc4 s hs; omega)
  have q1 : (splitG a).length ≤ 1048576 := by omega
  have q2 : (splitG b).length ≤ 1048576 := by omega
  have q3 : (splitG c).length ≤ 1048576 := by omega
  have hflb := splitG_flat b.length b (Nat.le_refl _)
  have GA : sumB (splitG a) ≤ 1048576 := by unfold sumB; rw [splitG_flat a.length a (Nat.le_refl _)]; omega
  have GB : sumB (splitG b) ≤ 1048576 := by unfold sumB; rw [hflb]; omega
  have GC : sumB (splitG c) ≤ 1048576 := by unfold sumB; rw [splitG_flat c.length c (Nat.le_refl _)]; omega
  have HFB := Lib.hid hflb
  have HLB := Lib.hid hlb
  have HA := Lib.hid ha
  have HB := Lib.hid hb
  have HC := Lib.hid hc
  clear ha hb hc fa3 fa4 fb3 fb4 fc3 fc4 hla hlb hlc hflb
  go_enter Try.func3, Try.ntmps3
  go_wp2_with fail
  refine (split_any A na ca a w HA.out hca hcm hn).mono ?_
  rintro e w2 ⟨A2, c2, rfl, ho2, r2, m2, hb2⟩
  have HB2 := Lib.hid hb2
  have CA := Lib.hid (Came.mk (Sl.ofOwn ho2) r2 m2 FA.out)
  clear ho2 hb2 r2 m2
  generalize splitG a = x at *
  go_wp2_with fail
  refine (split_any B nb cb b w2 (HB.out.below HB2.out) hcb hcbm hm).mono ?_
  rintro e w3 ⟨A3, c3, rfl, ho3, r3, m3, hb3⟩
  have HB3 := Lib.hid (HB2.out.trans (hb3.mono HB2.out.size))
  have CA3 := Lib.hid (CA.out.below hb3)
  have CB := Lib.hid (Came.mk (Sl.ofOwn ho3) r3 m3 FB.out)
  clear ho3 hb3 r3 m3 CA
  generalize splitG b = y at *
  go_wp2_with fail
  refine (split_any C nc cc c w3 (HC.out.below HB3.out) hcc hccm hr).mono ?_
  rintro e w4 ⟨A4, c4, rfl, ho4, r4, m4, hb4⟩
  have HB4 := Lib.hid (HB3.out.trans (hb4.mono HB3.out.size))
  have CA4 := Lib.hid (CA3.out.below hb4)
  have CB4 := Lib.hid (CB.out.below hb4)
  have CC4 := Lib.hid (Came.mk (Sl.ofOwn ho4) r4 m4 FC.out)
  clear ho4 hb4 r4 m4 CA3 CB HA HC
  generalize splitG c = z at *
  have hT := merge_text_len x y z kl kr
  have hP := merge_length x y z
  obtain ⟨ef1, ef2, ef3⟩ := merge_flat x y z
  have hTB := text_bytes (o := kl) (t := kr) (by decide) (by decide) (mergeG x y z)
  have HST := Lib.hid (fun K => same_take_le (mergeG x y z) K)
  rw [ef1, ef2, ef3] at hTB
  rw [ef1] at HST
  have HFS := Lib.hid (merge_fast x y z kl kr)
  clear ef1 ef2 ef3
  generalize hX : x.length = n at *
  generalize hY : y.length = m at *
  generalize hZ : z.length = r at *
  have hTB : sumB (textG kl kr (mergeG x y z)) ≤ 3145728 + 60 * (n + m + r) := by omega
  have LX := Lib.hid hX
  have LY := Lib.hid hY
  have LZ := Lib.hid hZ
  clear hX hY hZ
  by_cases hs : n ≤ 200 ∧ m ≤ 200 ∧ r ≤ 200
  · obtain ⟨hn2, hm2, hr2⟩ := hs
    have t1 : ¬ (200 : Int) < (n : Int) := by omega
    have t2 : decide ((200 : Int) < (m : Int)) = false := by rw [decide_eq_false_iff_not]; omega
    have t3 : decide ((200 : Int) < (r : Int)) = false := by rw [decide_eq_false_iff_not]; omega
    have t4 : decide ((200 : Int) < (n : Int)) = false := by rw [decide_eq_false_iff_not]; omega
    have t5 : decide (200 < n) = false := by rw [decide_eq_false_iff_not]; omega
    have t6 : decide (200 < m) = false := by rw [decide_eq_false_iff_not]; omega
    have t7 : decide (200 < r) = false := by rw [decide_eq_false_iff_not]; omega
    go_wp2_with fail
    refine (mergeC_any CA4.out CB4.out CC4.out (by omega) (by omega) (by omega)).mono ?_
    rintro e w5 ⟨P, k, cP, rfl, ho, hb5⟩
    have HO := Lib.hid ho
    have HB5 := Lib.hid (HB4.out.trans (hb5.mono HB4.out.size))
    have CA5 := Lib.hid (CA4.out.below hb5)
    have CB5 := Lib.hid (CB4.out.below hb5)
    clear ho hb5 t1 t2 t3 t4 t5 t6 t7
    go_wp2_with fail
    refine (textC_any (a := kl) (b := kr) HO.out CA4.out CB4.out CC4.out (by omega) (by omega) (by omega) (by decide) (by decide)).mono ?_
    generalize textG kl kr (mergeG x y z) = T at *
    generalize mergeG x y z = ps at *
    generalize cleanG ps = cl at *
    rintro e w6 ⟨A6, c6, rfl, ho6, r6, m6, l6, hb6⟩
    have HB6 := Lib.hid (HB5.out.trans (hb6.mono HB5.out.size))
    have HO6 := Lib.hid (HO.out.below hb6)
    have HS6 := Lib.hid (Sl.ofOwn ho6)
    have CA6 := Lib.hid (CA5.out.below hb6)
    have CB6 := Lib.hid (CB5.out.below hb6)
    have hk : ps.length = k := HO.out.1
    subst hk
    clear ho6 hb6 HO CA4 CB4 CC4 CA5 CB5 FA FB FC
    generalize hL : T.length = L at *
    have HL := Lib.hid hL
    clear hL
    have hL3 : L ≤ 3000 := by omega
    have d1 := diff_size x y
    have d2 := diff_size y T
    have g1 := hunksG_length x y (allPairs x y) 0 0
    have g2 := hunksG_length y T (allPairs y T) 0 0
    rw [allPairs_length] at g1 g2
    have g3 := pairsAt_le x y 0 0
    have g4 := pairsAt_le y T 0 0
    rw [LX.out] at g3
    rw [LY.out] at g4 d1
    rw [HL.out] at d2
    have g5 : (diffG x y).length ≤ 201 := by unfold diffG; omega
    have g6 : (diffG y T).length ≤ 201 := by unfold diffG; omega
    have s1 := d1.1
    have s2 := d2.1
    have DT1 := Lib.hid (diff_there x y)
    have DT2 := Lib.hid (diff_there y T)
    have hp1 : n * m ≤ 1048576 := Nat.le_trans (Nat.mul_le_mul hn2 hm2) (by decide)
    have hp2 : m * L ≤ 1048576 := Nat.le_trans (Nat.mul_le_mul hm2 hL3) (by decide)
    have hp3 : n * L ≤ 1048576 := Nat.le_trans (Nat.mul_le_mul hn2 hL3) (by decide)
    have HP1 := Lib.hid hp1
    have HP2 := Lib.hid hp2
    have HP3 := Lib.hid hp3
    clear d1 d2 g1 g2 g3 g4 hp1 hp2 hp3
    generalize hd1 : diffG x y = D1 at *
    generalize hd2 : diffG y T = D2 at *
    have HD1 := Lib.hid hd1
    have HD2 := Lib.hid hd2
    clear hd1 hd2
    generalize hl1 : D1.length = N1 at *
    generalize hl2 : D2.length = N2 at *
    have HL1 := Lib.hid hl1
    have HL2 := Lib.hid hl2
    clear hl1 hl2
    go_wp2_with fail
    refine (diff_any A2 A3 n c2 m c3 x y w6 CA6.out.sl CB6.out.sl CA6.out.cap CA6.out.max CB6.out.cap CB6.out.max (by omega) (by omega) HP1.out).mono ?_
    rw [HD1.out]
    rintro e w7 ⟨A7, c7, rfl, u7, v7, ho7, hb7⟩
    rw [HL1.out]
    have HB7 := Lib.hid (HB6.out.trans (hb7.mono HB6.out.size))
    have HO7 := Lib.hid (HO6.out.below hb7)
    have HS7 := Lib.hid (HS6.out.below hb7)
    have CA7 := Lib.hid (CA6.out.below hb7)
    have CB7 := Lib.hid (CB6.out.below hb7)
    have HH7 := Lib.hid ho7
    clear ho7 hb7 u7 v7 HO6 HS6 CA6 CB6
    go_wp2_with fail
    refine (diff_any A3 A6 m c3 L c6 y T w7 CB7.out.sl HS7.out CB7.out.cap CB7.out.max r6 m6 (by omega) (by omega) HP2.out).mono ?_
    rw [HD2.out]
    rintro e w8 ⟨A8, c8, rfl, u8, v8, ho8, hb8⟩
    rw [HL2.out]
    have HB8 := Lib.hid (HB7.out.trans (hb8.mono HB7.out.size))
    have HO8 := Lib.hid (HO7.out.below hb8)
    have HS8 := Lib.hid (HS7.out.below hb8)
    have CA8 := Lib.hid (CA7.out.below hb8)
    have HH8 := Lib.hid (HH7.out.below hb8)
    have HI8 := Lib.hid ho8
    clear ho8 hb8 u8 v8 HO7 HS7 CA7 CB7 HH7
    go_wp2_with fail
    have hab : Sl (w8.alloc (.cells #[.string ⟨#[97, 10]⟩, .string ⟨#[98]⟩] 9)) 1 (some ⟨w8.heap.size, 0, none⟩) 2 (strV [⟨#[97, 10]⟩, ⟨#[98]⟩]) := Sl.fresh w8 _ _ _ _ _ rfl
    have hbx : Below w8.heap.size w8 (w8.alloc (.cells #[.string ⟨#[97, 10]⟩, .string ⟨#[98]⟩] 9)) := (Below.refl _ _).alloc (Nat.le_refl _) _
    have BX := Lib.hid hbx
    refine (join_any _ 2 2 [⟨#[97, 10]⟩, ⟨#[98]⟩] _ hab (Nat.le_refl _) (by omega) (by rw [join_ab]; decide)).mono ?_
    rw [join_ab]
    rintro e w9 ⟨A9, c9, rfl, hl9, hb9⟩
    have hb89 := BX.out.trans (hb9.mono BX.out.size)
    have HB9 := Lib.hid (HB8.out.trans (hb89.mono HB8.out.size))
    have HO9 := Lib.hid (HO8.out.below hb89)
    have HS9 := Lib.hid (HS8.out.below hb89)
    have CA9 := Lib.hid (CA8.out.below hb89)
    have HH9 := Lib.hid (HH8.out.below hb89)
    have HI9 := Lib.hid (HI8.out.below hb89)
    have cv9 : cvt w9 A9 3 c9 = .ok (.string ⟨#[97, 10, 98]⟩) w9 := cvt_of hl9 c9
    clear hab hbx hb9 hb89 hl9 HO8 HS8 CA8 HH8 HI8 BX
    go_wp2_with fail
    refine (patch_any A2 A7 n c2 N1 c7 x D1 w9 CA9.out.sl CA9.out.cap CA9.out.max HH9.out HL1.out (by omega) (by omega) (by omega)).mono ?_
    rw [DT1.out]
    rintro e w10 hp
    rcases hp with ⟨h, _⟩ | ⟨l, A10, c10, h, rfl, ho10, r10, m10, l10, hb10⟩
    · cases h
    injection h with h
    subst h
    have HB10 := Lib.hid (HB9.out.trans (hb10.mono HB9.out.size))
    have HO10 := Lib.hid (HO9.out.below hb10)
    have HS10 := Lib.hid (HS9.out.below hb10)
    have CA10 := Lib.hid (CA9.out.below hb10)
    have HI10 := Lib.hid (HI9.out.below hb10)
    have HX10 := Lib.hid (Sl.ofOwn ho10)
    rw [LY.out] at HX10 r10
    rw [LY.out]
    clear ho10 hb10 HO9 HS9 CA9 HH9 HI9 cv9
    go_wp2_with fail
    refine (patch_any A10 A8 m c10 N2 c8 y D2 w10 HX10.out r10 m10 HI10.out HL2.out (by omega) (by omega) (by omega)).mono ?_
    rw [DT2.out]
    rintro e w11 hp
    rcases hp with ⟨h, _⟩ | ⟨l, A11, c11, h, rfl, ho11, r11, m11, l11, hb11⟩
    · cases h
    injection h with h
    subst h
    have HB11 := Lib.hid (HB10.out.trans (hb11.mono HB10.out.size))
    have HO11 := Lib.hid (HO10.out.below hb11)
    have HS11 := Lib.hid (HS10.out.below hb11)
    have CA11 := Lib.hid (CA10.out.below hb11)
    have HX11 := Lib.hid (HX10.out.below hb11)
    have HY11 := Lib.hid (Sl.ofOwn ho11)
    have HBB := Lib.hid (HB.out.below HB11.out)
    rw [HL.out] at HY11 r11
    rw [HL.out]
    clear ho11 hb11 HO10 HS10 CA10 HI10 HX10
    have hTF : (T.map (·.data.toList)).flatten.length ≤ 100000000 := by have h1 : sumB T = (T.map (·.data.toList)).flatten.length := rfl; omega
    have JT := Lib.hid (fun (A' : Option Addr) (c' : Nat) (W : World) (h : Sl W 1 A' L (strV T)) (hc : L ≤ c') => join_any A' L c' T W h hc (by omega) hTF)
    have JY := Lib.hid (fun (A' : Option Addr) (c' : Nat) (W : World) (h : Sl W 1 A' m (strV y)) (hc : m ≤ c') => join_any A' m c' y W h hc (by omega) (by rw [HFB.out, HLB.out]; omega))
    rw [HFB.out, HLB.out] at JY
    generalize hTE : (T.map (·.data.toList)).flatten = te at *
    generalize hTN : te.length = tn at *
    have HTN := Lib.hid hTN
    have HTE := Lib.hid hTE
    clear hTE hTN hTF GA GB GC hTB
    go_upto_region 12 with fail
    go_cut [120] (fun v wx => v = .bool false ∧ Below w11.heap.size w11 wx)
    case first =>
      clear HFS HST
      have BC := below_d0 w11
      refine wp_region_held (S := fun W => Below w11.heap.size w11 W) (by kernel_rfl) ?_
      change wpAnyH _ _ _ _ _ _ _ _ (World.drew _)
      refine held_take (i := 0) (v := ?_) (a' := ?_) rfl (by kernel_rfl) (by kernel_rfl) (by kernel_rfl) (fun _ _ _ h => h) (by rfl) BC ?_ ?_ ?_
      rotate_left 2
      · (intro w hS; go_simp; try with_reducible rfl)
      · (go_simp; try with_reducible rfl)
      refine held_take (i := 1) (v := ?_) (a' := ?_) rfl (by kernel_rfl) (by kernel_rfl) (by kernel_rfl) (fun _ _ _ h => h) (by rfl) BC ?_ ?_ ?_
      rotate_left 2
      · (intro w hS; go_simp; try with_reducible rfl)
      · (go_simp; try with_reducible rfl)
      refine held_take (i := 2) (v := ?_) (a' := ?_) rfl (by kernel_rfl) (by kernel_rfl) (by kernel_rfl) (fun _ _ _ h => h) (by rfl) BC ?_ ?_ ?_
      rotate_left 2
      · (intro w hS; go_simp; try with_reducible rfl)
      · (go_simp; try with_reducible rfl)
      refine held_take (i := 3) (v := ?_) (a' := ?_) rfl (by kernel_rfl) (by kernel_rfl) (by kernel_rfl) (fun _ _ _ h => h) (by rfl) BC ?_ ?_ ?_
      rotate_left 2
      · (intro w hS; go_simp; try with_reducible rfl)
      · (go_simp; try with_reducible rfl)
      refine held_take (i := 4) (v := ?_) (a' := ?_) rfl (by kernel_rfl) (by kernel_rfl) (by kernel_rfl) (fun _ _ _ h => h) (by rfl) BC ?_ ?_ ?_
      rotate_left 2
      · (intro w hS; go_simp; try with_reducible rfl)
      · (go_simp; try with_reducible rfl)
      refine held_take (i := 5) (v := ?_) (a' := ?_) rfl (by kernel_rfl) (by kernel_rfl) (by kernel_rfl) (fun _ _ _ h => h) (by rfl) BC ?_ ?_ ?_
      rotate_left 2
      · (intro w hS; go_simp; try with_reducible rfl)
      · (go_simp; try with_reducible rfl)
      refine held_take (i := 6) (v := ?_) (a' := ?_) rfl (by kernel_rfl) (by kernel_rfl) (by kernel_rfl) (fun _ _ _ h => h) (by rfl) BC ?_ ?_ ?_
      rotate_left 2
      · (intro w hS; go_simp; try with_reducible rfl)
      · (go_simp; try with_reducible rfl)
      refine held_take (i := 7) (v := ?_) (a' := ?_) rfl (by kernel_rfl) (by kernel_rfl) (by kernel_rfl) (fun _ _ _ h => h) (by rfl) BC ?_ ?_ ?_
      rotate_left 2
      · (intro w hS; go_simp; try with_reducible rfl)
      · (go_simp; try with_reducible rfl)
      refine held_take (i := 10) (v := ?_) (a' := ?_) rfl (by kernel_rfl) (by kernel_rfl) (by kernel_rfl) (fun _ _ _ h => h) (by rfl) BC ?_ ?_ ?_
      rotate_left 2
      · (intro w hS; go_simp; try with_reducible rfl)
      · (go_simp; try with_reducible rfl)
      refine held_ready (rs := [8]) (by kernel_rfl) (by simp) ?_
      refine AllHeld.cons rfl (fun KR hKR => ?_) ?_
      · go_simp
        refine (JT.out A11 c11 _ (HY11.out.below BC) r11).mono ?_
        rintro e w12 ⟨A12, c12, rfl, hl12, hb12⟩
        have BC := BC.trans (hb12.mono BC.size)
        have Q12 := Lib.hid hl12
        clear hl12 hb12
        refine hKR _ _ BC ?_
        clear hKR KR
        refine held_ready (rs := [9, 11]) (by kernel_rfl) (by simp) ?_
        refine AllHeld.cons rfl (fun KR hKR => ?_) ?_
        · have cv12 := cvt_of Q12.out c12
          go_simp
          skip
          refine hKR _ _ BC ?_
          clear hKR KR
          refine held_ready (rs := [11]) (by kernel_rfl) (by simp) ?_
          refine AllHeld.cons rfl (fun KR hKR => ?_) ?_
          · go_simp
            refine (JT.out A6 c6 _ (HS11.out.below BC) r6).mono ?_
            rintro e w13 ⟨A13, c13, rfl, hl13, hb13⟩
            have BC := BC.trans (hb13.mono BC.size)
            have Q12 := Lib.hid (Q12.out.below hb13)
            have Q13 := Lib.hid hl13
            clear hl13 hb13
            refine hKR _ _ BC ?_
            clear hKR KR
            refine held_ready (rs := [12]) (by kernel_rfl) (by simp) ?_
            refine AllHeld.cons rfl (fun KR hKR => ?_) ?_
            · have cv13 := cvt_of Q13.out c13
              go_simp
              skip
              refine hKR _ _ BC ?_
              clear hKR KR
              refine held_take (i := 13) (v := ?_) (a' := ?_) rfl (by kernel_rfl) (by kernel_rfl) (by kernel_rfl) (fun _ _ _ h => h) (by rfl) BC ?_ ?_ ?_
              rotate_left 2
              · (intro w hS; go_simp; try with_reducible rfl)
              · (go_simp; try with_reducible rfl)
              refine held_take (i := 14) (v := ?_) (a' := ?_) rfl (by kernel_rfl) (by kernel_rfl) (by kernel_rfl) (fun _ _ _ h => h) (by rfl) BC ?_ ?_ ?_
              rotate_left 2
              · (intro w hS; go_simp; try with_reducible rfl)
              · (go_simp; try with_reducible rfl)
              refine held_take (i := 15) (v := ?_) (a' := ?_) rfl (by kernel_rfl) (by kernel_rfl) (by kernel_rfl) (fun _ _ _ h => h) (by rfl) BC ?_ ?_ ?_
              rotate_left 2
              · (intro w hS; go_simp; try with_reducible rfl)
              · (go_simp; try with_reducible rfl)
              refine held_take (i := 16) (v := ?_) (a' := ?_) rfl (by kernel_rfl) (by kernel_rfl) (by kernel_rfl) (fun _ _ _ h => h) (by rfl) BC ?_ ?_ ?_
              rotate_left 2
              · (intro w hS; go_simp; try with_reducible rfl)
              · (go_simp; try with_reducible rfl)
              refine held_take (i := 19) (v := ?_) (a' := ?_) rfl (by kernel_rfl) (by kernel_rfl) (by kernel_rfl) (fun _ _ _ h => h) (by rfl) BC ?_ ?_ ?_
              rotate_left 2
              · (intro w hS; go_simp; try with_reducible rfl)
              · (go_simp; try with_reducible rfl)
              refine held_take (i := 20) (v := ?_) (a' := ?_) rfl (by kernel_rfl) (by kernel_rfl) (by kernel_rfl) (fun _ _ _ h => h) (by rfl) BC ?_ ?_ ?_
              rotate_left 2
              · (intro w hS; have cvx := cvt_of (HBB.out.below hS) cb; go_simp; try with_reducible rfl)
              · (go_simp; try with_reducible rfl)
              refine held_ready (rs := [17]) (by kernel_rfl) (by simp) ?_
              refine AllHeld.cons rfl (fun KR hKR => ?_) ?_
              · go_simp
                refine (JY.out A10 c10 _ (HX11.out.below BC) r10).mono ?_
                rintro e w14 ⟨A14, c14, rfl, hl14, hb14⟩
                have BC := BC.trans (hb14.mono BC.size)
                have Q14 := Lib.hid hl14
                clear hl14 hb14
                refine hKR _ _ BC ?_
                clear hKR KR
                refine held_ready (rs := [18]) (by kernel_rfl) (by simp) ?_
                refine AllHeld.cons rfl (fun KR hKR => ?_) ?_
                · have cv14 := cvt_of Q14.out c14
                  go_simp
                  skip
                  refine hKR _ _ BC ?_
                  clear hKR KR
                  refine held_take (i := 21) (v := ?_) (a' := ?_) rfl (by kernel_rfl) (by kernel_rfl) (by kernel_rfl) (fun _ _ _ h => h) (by rfl) BC ?_ ?_ ?_
                  rotate_left 2
                  · (intro w hS; go_simp; try with_reducible rfl)
                  · (go_simp; try with_reducible rfl)
                  refine held_take (i := 22) (v := ?_) (a' := ?_) rfl (by kernel_rfl) (by kernel_rfl) (by kernel_rfl) (fun _ _ _ h => h) (by rfl) BC ?_ ?_ ?_
                  rotate_left 2
                  · (intro w hS; go_simp; try with_reducible rfl)
                  · (go_simp; try with_reducible rfl)
                  refine wpAnyH_done (by kernel_rfl) ?_ _
                  go_wp2_with fail
                  go_meet
                  case rel => exact ⟨rfl, BC⟩
                exact AllHeld.nil
              exact AllHeld.nil
            exact AllHeld.nil
          exact AllHeld.nil
        refine AllHeld.cons rfl (fun KR hKR => ?_) ?_
        · go_simp
          refine (JT.out A6 c6 _ (HS11.out.below BC) r6).mono ?_
          rintro e w13 ⟨A13, c13, rfl, hl13, hb13⟩
          have BC := BC.trans (hb13.mono BC.size)
          have Q12 := Lib.hid (Q12.out.below hb13)
          have Q13 := Lib.hid hl13
          clear hl13 hb13
          refine hKR _ _ BC ?_
          clear hKR KR
          refine held_ready (rs := [9, 12]) (by kernel_rfl) (by simp) ?_
          refine AllHeld.cons rfl (fun KR hKR => ?_) ?_
          · have cv12 := cvt_of Q12.out c12
            go_simp
            skip
            refine hKR _ _ BC ?_
            clear hKR KR
            refine held_ready (rs := [12]) (by kernel_rfl) (by simp) ?_
            refine AllHeld.cons rfl (fun KR hKR => ?_) ?_
            · have cv13 := cvt_of Q13.out c13
              go_simp
              skip
              refine hKR _ _ BC ?_
              clear hKR KR
              refine held_take (i := 13) (v := ?_) (a' := ?_) rfl (by kernel_rfl) (by kernel_rfl) (by kernel_rfl) (fun _ _ _ h => h) (by rfl) BC ?_ ?_ ?_
              rotate_left 2
              · (intro w hS; go_simp; try with_reducible rfl)
              · (go_simp; try with_reducible rfl)
              refine held_take (i := 14) (v := ?_) (a' := ?_) rfl (by kernel_rfl) (by kernel_rfl) (by kernel_rfl) (fun _ _ _ h => h) (by rfl) BC ?_ ?_ ?_
              rotate_left 2
              · (intro w hS; go_simp; try with_reducible rfl)
              · (go_simp; try with_reducible rfl)
              refine held_take (i := 15) (v := ?_) (a' := ?_) rfl (by kernel_rfl) (by kernel_rfl) (by kernel_rfl) (fun _ _ _ h => h) (by rfl) BC ?_ ?_ ?_
              rotate_left 2
              · (intro w hS; go_simp; try with_reducible rfl)
              · (go_simp; try with_reducible rfl)
              refine held_take (i := 16) (v := ?_) (a' := ?_) rfl (by kernel_rfl) (by kernel_rfl) (by kernel_rfl) (fun _ _ _ h => h) (by rfl) BC ?_ ?_ ?_
              rotate_left 2
              · (intro w hS; go_simp; try with_reducible rfl)
              · (go_simp; try with_reducible rfl)
              refine held_take (i := 19) (v := ?_) (a' := ?_) rfl (by kernel_rfl) (by kernel_rfl) (by kernel_rfl) (fun _ _ _ h => h) (by rfl) BC ?_ ?_ ?_
              rotate_left 2
              · (intro w hS; go_simp; try with_reducible rfl)
              · (go_simp; try with_reducible rfl)
              refine held_take (i := 20) (v := ?_) (a' := ?_) rfl (by kernel_rfl) (by kernel_rfl) (by kernel_rfl) (fun _ _ _ h => h) (by rfl) BC ?_ ?_ ?_
              rotate_left 2
              · (intro w hS; have cvx := cvt_of (HBB.out.below hS) cb; go_simp; try with_reducible rfl)
              · (go_simp; try with_reducible rfl)
              refine held_ready (rs := [17]) (by kernel_rfl) (by simp) ?_
              refine AllHeld.cons rfl (fun KR hKR => ?_) ?_
              · go_simp
                refine (JY.out A10 c10 _ (HX11.out.below BC) r10).mono ?_
                rintro e w14 ⟨A14, c14, rfl, hl14, hb14⟩
                have BC := BC.trans (hb14.mono BC.size)
                have Q14 := Lib.hid hl14
                clear hl14 hb14
                refine hKR _ _ BC ?_
                clear hKR KR
                refine held_ready (rs := [18]) (by kernel_rfl) (by simp) ?_
                refine AllHeld.cons rfl (fun KR hKR => ?_) ?_
                · have cv14 := cvt_of Q14.out c14
                  go_simp
                  skip
                  refine hKR _ _ BC ?_
                  clear hKR KR
                  refine held_take (i := 21) (v := ?_) (a' := ?_) rfl (by kernel_rfl) (by kernel_rfl) (by kernel_rfl) (fun _ _ _ h => h) (by rfl) BC ?_ ?_ ?_
                  rotate_left 2
                  · (intro w hS; go_simp; try with_reducible rfl)
                  · (go_simp; try with_reducible rfl)
                  refine held_take (i := 22) (v := ?_) (a' := ?_) rfl (by kernel_rfl) (by kernel_rfl) (by kernel_rfl) (fun _ _ _ h => h) (by rfl) BC ?_ ?_ ?_
                  rotate_left 2
                  · (intro w hS; go_simp; try with_reducible rfl)
                  · (go_simp; try with_reducible rfl)
                  refine wpAnyH_done (by kernel_rfl) ?_ _
                  go_wp2_with fail
                  go_meet
                  case rel => exact ⟨rfl, BC⟩
                exact AllHeld.nil
              exact AllHeld.nil
            exact AllHeld.nil
          refine AllHeld.cons rfl (fun KR hKR => ?_) ?_
          · have cv13 := cvt_of Q13.out c13
            go_simp
            skip
            refine hKR _ _ BC ?_
            clear hKR KR
            refine held_ready (rs := [9]) (by kernel_rfl) (by simp) ?_
            refine AllHeld.cons rfl (fun KR hKR => ?_) ?_
            · have cv12 := cvt_of Q12.out c12
              go_simp
              skip
              refine hKR _ _ BC ?_
              clear hKR KR
              refine held_take (i := 13) (v := ?_) (a' := ?_) rfl (by kernel_rfl) (by kernel_rfl) (by kernel_rfl) (fun _ _ _ h => h) (by rfl) BC ?_ ?_ ?_
              rotate_left 2
              · (intro w hS; go_simp; try with_reducible rfl)
              · (go_simp; try with_reducible rfl)
              refine held_take (i := 14) (v := ?_) (a' := ?_) rfl (by kernel_rfl) (by kernel_rfl) (by kernel_rfl) (fun _ _ _ h => h) (by rfl) BC ?_ ?_ ?_
              rotate_left 2
              · (intro w hS; go_simp; try with_reducible rfl)
              · (go_simp; try with_reducible rfl)
              refine held_take (i := 15) (v := ?_) (a' := ?_) rfl (by kernel_rfl) (by kernel_rfl) (by kernel_rfl) (fun _ _ _ h => h) (by rfl) BC ?_ ?_ ?_
              rotate_left 2
              · (intro w hS; go_simp; try with_reducible rfl)
              · (go_simp; try with_reducible rfl)
              refine held_take (i := 16) (v := ?_) (a' := ?_) rfl (by kernel_rfl) (by kernel_rfl) (by kernel_rfl) (fun _ _ _ h => h) (by rfl) BC ?_ ?_ ?_
              rotate_left 2
              · (intro w hS; go_simp; try with_reducible rfl)
              · (go_simp; try with_reducible rfl)
              refine held_take (i := 19) (v := ?_) (a' := ?_) rfl (by kernel_rfl) (by kernel_rfl) (by kernel_rfl) (fun _ _ _ h => h) (by rfl) BC ?_ ?_ ?_
              rotate_left 2
              · (intro w hS; go_simp; try with_reducible rfl)
              · (go_simp; try with_reducible rfl)
              refine held_take (i := 20) (v := ?_) (a' := ?_) rfl (by kernel_rfl) (by kernel_rfl) (by kernel_rfl) (fun _ _ _ h => h) (by rfl) BC ?_ ?_ ?_
              rotate_left 2
              · (intro w hS; have cvx := cvt_of (HBB.out.below hS) cb; go_simp; try with_reducible rfl)
              · (go_simp; try with_reducible rfl)
              refine held_ready (rs := [17]) (by kernel_rfl) (by simp) ?_
              refine AllHeld.cons rfl (fun KR hKR => ?_) ?_
              · go_simp
                refine (JY.out A10 c10 _ (HX11.out.below BC) r10).mono ?_
                rintro e w14 ⟨A14, c14, rfl, hl14, hb14⟩
                have BC := BC.trans (hb14.mono BC.size)
                have Q14 := Lib.hid hl14
                clear hl14 hb14
                refine hKR _ _ BC ?_
                clear hKR KR
                refine held_ready (rs := [18]) (by kernel_rfl) (by simp) ?_
                refine AllHeld.cons rfl (fun KR hKR => ?_) ?_
                · have cv14 := cvt_of Q14.out c14
                  go_simp
                  skip
                  refine hKR _ _ BC ?_
                  clear hKR KR
                  refine held_take (i := 21) (v := ?_) (a' := ?_) rfl (by kernel_rfl) (by kernel_rfl) (by kernel_rfl) (fun _ _ _ h => h) (by rfl) BC ?_ ?_ ?_
                  rotate_left 2
                  · (intro w hS; go_simp; try with_reducible rfl)
                  · (go_simp; try with_reducible rfl)
                  refine held_take (i := 22) (v := ?_) (a' := ?_) rfl (by kernel_rfl) (by kernel_rfl) (by kernel_rfl) (fun _ _ _ h => h) (by rfl) BC ?_ ?_ ?_
                  rotate_left 2
                  · (intro w hS; go_simp; try with_reducible rfl)
                  · (go_simp; try with_reducible rfl)
                  refine wpAnyH_done (by kernel_rfl) ?_ _
                  go_wp2_with fail
                  go_meet
                  case rel => exact ⟨rfl, BC⟩
                exact AllHeld.nil
              exact AllHeld.nil
            exact AllHeld.nil
          exact AllHeld.nil
        exact AllHeld.nil
      exact AllHeld.nil
    case rest =>
      obtain ⟨rfl, hbc⟩ := hcut
      have HB12 := Lib.hid (HB11.out.trans (hbc.mono HB11.out.size))
      have HO12 := Lib.hid (HO11.out.below hbc)
      have HS12 := Lib.hid (HS11.out.below hbc)
      have CA12 := Lib.hid (CA11.out.below hbc)
      clear hbc HO11 HS11 CA11 HX11 HY11 JT JY HBB
      have HPO := Lib.hid HO12.out.sl
      go_wp2_with fail
      go_loopw [22, 123] (fun q i wr => ∃ K : Nat, i = .int .i64 K ∧ q = .int .i64 ((sameOf (ps.take K)).length : Nat) ∧ K ≤ ps.length ∧ Below wc.heap.size wc wr) (fun _ i _ => ps.length - (intOf i).toNat)
      case atStart => exact ⟨0, rfl, rfl, Nat.zero_le _, Below.refl _ _⟩
      case round =>
        obtain ⟨K, rfl, rfl, hK, hbr⟩ := hrel
        by_cases hlt : K < ps.length
        · obtain ⟨bb, off, p1, p2, p3, p4, B1, B2, B3, n1, n2, n3, d1, d2, d3, rfl, hbb, hx, hwf, k0, k1, k2, k3, hs1, -⟩ := pt_look HPO.out rfl hlt
          have k0 := (hbr.cell hbb).trans k0
          have k1 := (hbr.cell hbb).trans k1
          have k2 := (hbr.cell hbb).trans k2
          have k3 := (hbr.cell hbb).trans k3
          have hct := same_take hx
          have hq1 := HST.out K
          have hq2 := HST.out (K + 1)
          have hl1 := hs1.len
          simp only at hct hl1
          rw [hl1] at hct
          have HCT := Lib.hid hct
          have hbn := Lib.hid (hbr.alloc hbr.size (.cells #[.int .i64 p1, .slice B1 n1 d1, .slice B2 n2 d2, .slice B3 n3 d3] 38))
          have hlt' : (K : Int) < (ps.length : Int) := by omega
          clear hx hwf hbr hs1 hl1
          generalize (sameOf (ps.take K)).length = q at *
          have hk1 : IntKind.i64.wrap ((K : Int) + 1) = (K : Int) + 1 := IntWalk.i64_in _ (by omega)
          by_cases h4 : p1 = 0
          · subst h4
            rw [if_pos rfl] at hct
            have hqn : q + n1 ≤ 200 := by omega
            have hq : IntKind.i64.wrap ((q : Int) + (n1 : Int)) = (q : Int) + (n1 : Int) := IntWalk.i64_in _ (by omega)
            have HE := Lib.hid hct
            clear hct hq2 HCT
            go_wp2_with fail
            go_roundw
            case rel => exact ⟨K + 1, by go_num, by rw [HE.out]; go_num, by omega, hbn.out⟩
            case measure => simp [intOf]; omega
          · rw [if_neg h4, Nat.add_zero] at hct
            have e4 : (p1 == 0) = false := by simpa using h4
            have HE := Lib.hid hct
            clear h4 hct hq2 HCT
            go_wp2_with fail
            go_roundw
            case rel => exact ⟨K + 1, by go_num, by rw [HE.out]; rfl, by omega, hbn.out⟩
            case measure => simp [intOf]; omega
        · obtain rfl : K = ps.length := by omega
          have hct : ps.take ps.length = ps := List.take_length
          rw [hct]
          have HBR := Lib.hid hbr
          have hfs := HFS.out
          have hpl := pairsAt_length x T 0 0
          unfold Lc at hpl
          rw [List.drop_zero, List.drop_zero] at hpl
          rw [← hpl] at hfs
          have HPL := Lib.hid (pairs_any A2 A6 n c2 L c6 x T wr (CA12.out.below hbr).sl (HS12.out.below hbr) (by omega) (by omega) HP3.out)
          have hq1 := HST.out ps.length
          rw [hct] at hq1
          clear hct hbr hlt hpl HFS HST
          generalize (sameOf ps).length = q at *
          go_wp2_with fail
          refine HPL.out.mono ?_
          rintro e w14 ⟨A14, c14, rfl, ho14, r14, m14, hb14⟩
          have HB14 := Lib.hid (HB12.out.trans ((HBR.out.trans (hb14.mono HBR.out.size)).mono HB12.out.size))
          have hle := pairsAt_le x T 0 0
          rw [LX.out] at hle
          clear ho14 hb14
          generalize (pairsAt x T 0 0).length = kp at *
          have e1 : decide ((q : Int) ≤ (kp : Int)) = true := by rw [decide_eq_true_iff]; omega
          have e2 : decide (q ≤ kp) = true := by rw [decide_eq_true_iff]; omega
          cases cl
          · go_wp2_with fail
            go_ret
            exact ⟨rfl, HB14.out⟩
          · go_wp2_with fail
            go_ret
            exact ⟨rfl, HB14.out⟩
  · have hcase : 200 < n ∨ (n ≤ 200 ∧ 200 < m) ∨ (n ≤ 200 ∧ m ≤ 200 ∧ 200 < r) := by omega
    clear hs
    rcases hcase with h1 | ⟨h1, h2⟩ | ⟨h1, h2, h3⟩
    · have t4 : decide ((200 : Int) < (n : Int)) = true := by rw [decide_eq_true_iff]; omega
      have t5 : decide (200 < n) = true := by rw [decide_eq_true_iff]; omega
      clear h1
      go_wp2_with fail
      go_ret
      exact ⟨rfl, HB4.out⟩
    · have t4 : decide ((200 : Int) < (n : Int)) = false := by rw [decide_eq_false_iff_not]; omega
      have t5 : decide (200 < n) = false := by rw [decide_eq_false_iff_not]; omega
      have t6 : decide ((200 : Int) < (m : Int)) = true := by rw [decide_eq_true_iff]; omega
      have t7 : decide (200 < m) = true := by rw [decide_eq_true_iff]; omega
      clear h1 h2
      go_wp2_with fail
      go_ret
      exact ⟨rfl, HB4.out⟩
    · have t4 : decide ((200 : Int) < (n : Int)) = false := by rw [decide_eq_false_iff_not]; omega
      have t5 : decide (200 < n) = false := by rw [decide_eq_false_iff_not]; omega
      have t6 : decide ((200 : Int) < (m : Int)) = false := by rw [decide_eq_false_iff_not]; omega
      have t7 : decide (200 < m) = false := by rw [decide_eq_false_iff_not]; omega
      have t8 : decide ((200 : Int) < (r : Int)) = true := by rw [decide_eq_true_iff]; omega
      have t9 : decide (200 < r) = true := by rw [decide_eq_true_iff]; omega
      clear h1 h2 h3
      go_wp2_with fail
      go_ret
      exact ⟨rfl, HB4.out⟩
end Go.Proofs.Ytbdlpigokahnoaa
