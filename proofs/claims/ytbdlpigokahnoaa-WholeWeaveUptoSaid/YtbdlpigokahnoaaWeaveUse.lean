/- Merge and Text in the hands of the laws: what they need and leave; the bench of layer 8's statements. -/
import Derived.Test.YtbdlpigokahnoaaWeaveMerge
import Derived.Test.YtbdlpigokahnoaaWeaveApartLaw
import Derived.Test.YtbdlpigokahnoaaWeaveMarksLaw
import Derived.Test.YtbdlpigokahnoaaWeaveTxt
set_option linter.unusedVariables false
namespace Go.Proofs.Ytbdlpigokahnoaa
open Go.RowKit

def Short (l : List ByteArray) : Prop := ∀ s ∈ l, s.size ≤ 100000000
theorem pts_short {ps : List Pt} (h1 : Short (baseOf ps)) (h2 : Short (oursOf ps)) (h3 : Short (theirsOf ps)) : ∀ p ∈ ps, PtShort p := fun p hp =>
  ⟨fun s hs => h1 s (List.mem_flatMap.2 ⟨p, hp, hs⟩), fun s hs => h2 s (List.mem_flatMap.2 ⟨p, hp, hs⟩), fun s hs => h3 s (List.mem_flatMap.2 ⟨p, hp, hs⟩)⟩
theorem merge_short {x y z : List ByteArray} (h1 : Short x) (h2 : Short y) (h3 : Short z) : ∀ p ∈ mergeG x y z, PtShort p := by
  obtain ⟨e1, e2, e3⟩ := merge_flat x y z
  exact pts_short (by rw [e1]; exact h1) (by rw [e2]; exact h2) (by rw [e3]; exact h3)
theorem ptsLen_le : ∀ (ps : List Pt), (∀ p ∈ ps, ¬ p.2.1.length + p.2.2.1.length + p.2.2.2.length = 0) → ptsLen ps ≤ 5 * ((baseOf ps).length + (oursOf ps).length + (theirsOf ps).length)
  | [], _ => by simp [ptsLen]
  | p :: ps, h => by
    have ih := ptsLen_le ps fun q hq => h q (List.mem_cons_of_mem _ hq)
    have h0 := h p List.mem_cons_self
    have e2 : baseOf (p :: ps) = p.2.1 ++ baseOf ps := rfl
    have e4 : oursOf (p :: ps) = p.2.2.1 ++ oursOf ps := rfl
    have e5 : theirsOf (p :: ps) = p.2.2.2 ++ theirsOf ps := rfl
    rw [e2, e4, e5]
    simp only [ptsLen, ptLen, List.map_cons, List.sum_cons, List.length_append] at *
    omega
theorem merge_ptsLen (x y z : List ByteArray) : ptsLen (mergeG x y z) ≤ 5 * (x.length + y.length + z.length) := by
  have := ptsLen_le (mergeG x y z) (merge_ok x y z).some_
  obtain ⟨e1, e2, e3⟩ := merge_flat x y z
  rw [e1, e2, e3] at this
  exact this
theorem merge_length (x y z : List ByteArray) : (mergeG x y z).length ≤ x.length + y.length + z.length := by
  have := partsOk_length (merge_ok x y z)
  obtain ⟨e1, e2, e3⟩ := merge_flat x y z
  rw [e1, e2, e3] at this
  exact this
theorem merge_part_le (x y z : List ByteArray) : ∀ p ∈ mergeG x y z, p.2.1.length ≤ x.length ∧ p.2.2.1.length ≤ y.length ∧ p.2.2.2.length ≤ z.length := fun p hp => by
  have := part_le hp
  obtain ⟨e1, e2, e3⟩ := merge_flat x y z
  rw [e1, e2, e3] at this
  exact this

/-- Text of what Merge left -/
theorem textOf_any (A : Option Addr) (m cA : Nat) (base : Nat) (x y z : List ByteArray) (a b : ByteArray) (w : World) (hs : OwnPts w base 38 A m cA (mergeG x y z)) (hx : x.length ≤ 1000) (hy : y.length ≤ 1000) (hz : z.length ≤ 1000) (h1 : Short x) (h2 : Short y) (h3 : Short z) (ha : a.size ≤ 100000000) (hb : b.size ≤ 100000000) :
    Calls Try.prog 14 #[.slice A m cA, .string a, .string b] w (TextPost w (textG a b (mergeG x y z)) (cleanG (mergeG x y z))) :=
  text_any A m cA _ a b w hs.sl hs.1 (by have := merge_ptsLen x y z; omega) (merge_short h1 h2 h3) ha hb (by have := merge_length x y z; have := hs.1; omega)

/-! ### the bench -/
def kA : ByteArray := ⟨#[97, 10]⟩
def kB : ByteArray := ⟨#[98, 10]⟩
def kC : ByteArray := ⟨#[99, 10]⟩
def kX : ByteArray := ⟨#[120, 10]⟩
def kY : ByteArray := ⟨#[121, 10]⟩
def ka : ByteArray := ⟨#[97]⟩
def kx : ByteArray := ⟨#[120]⟩
def ky : ByteArray := ⟨#[121]⟩
def kl : ByteArray := ⟨#[108]⟩
def kr : ByteArray := ⟨#[114]⟩
theorem bench1 : textG kl kr (mergeG [kA, kB, kC] [kX, kB, kC] [kA, kB, kY]) = [kX, kB, kY] ∧ cleanG (mergeG [kA, kB, kC] [kX, kB, kC] [kA, kB, kY]) = true :=
  merge_apart (a0 := [kA]) (a1 := [kX]) (b0 := [kC]) (b1 := [kY]) (m := kB) (by rw [List.mem_singleton]; decide) (by rw [List.mem_singleton]; decide) kl kr
theorem bench2 : mergeG [ka] [kx] [ky] = [(4, [ka], [kx], [ky])] := by
  have key : ∀ u : ByteArray, ¬ ka = u → pairsAt [ka] [u] 0 0 = [] := fun u h => by
    apply List.eq_nil_of_length_eq_zero
    rw [pairsAt_length]
    unfold Lc
    rw [List.drop_zero, List.drop_zero, lcs_ne _ _ h, lcs_nil_left, lcs_nil_right]; rfl
  unfold mergeG
  rw [key kx (by decide), key ky (by decide), commons_nil_left]
  have hk : kindG [ka] [kx] [ky] = 4 := by decide
  rw [segsG, List.foldl_cons, List.foldl_nil, List.drop_zero, List.drop_zero, List.drop_zero, pushG_new (by simp) (.inl (by rw [hk]; decide)), hk]
  rfl

theorem bench3 : textG kl kr [(4, [ka], [kx], [ky])] = [mOurs kl, kX, mBase, kA, mMid, kY, mTheirs kr] ∧ cleanG [(4, [ka], [kx], [ky])] = false := ⟨by decide, by decide⟩

set_option maxHeartbeats 2000000 in
theorem awake8_any (w : World) : Calls Try.prog 19 #[] w fun e w' => e = .returned (.bool true) ∧ Below w.heap.size w w' := by
  have s3 : ∀ (w : World) (g : Nat) (hg : w.heap.size = g) (a b c : ByteArray), Sl (w.alloc (.cells #[.string a, .string b, .string c] 9)) 1 (some ⟨g, 0, none⟩) 3 (strV [a, b, c]) := fun w g hg a b c => by subst hg; exact Sl.fresh w _ _ _ _ _ rfl
  have s1 : ∀ (w : World) (g : Nat) (hg : w.heap.size = g) (a : ByteArray), Sl (w.alloc (.cells #[.string a] 9)) 1 (some ⟨g, 0, none⟩) 1 (strV [a]) := fun w g hg a => by subst hg; exact Sl.fresh w _ _ _ _ _ rfl
  have S3 := Lib.hid s3
  have S1 := Lib.hid s1
  have sh : ∀ l : List ByteArray, l.all (fun s => decide (s.size ≤ 100000000)) = true → Short l := fun l h s hs => by simpa using List.all_eq_true.1 h s hs
  have SH := Lib.hid sh
  have b3 : ∀ (w : World) (o o' o'' : Obj), Below w.heap.size w (((w.alloc o).alloc o').alloc o'') := fun w o o' o'' => (((Below.refl _ _).alloc (Nat.le_refl _) _).alloc (by simp) _).alloc (by simp; omega) _
  have B3 := Lib.hid b3
  clear s3 s1 sh b3
  go_enter Try.func19, Try.ntmps19
  go_wp2_with fail
  refine (mergeW_any _ _ _ 3 3 3 3 3 3 [kA, kB, kC] [kX, kB, kC] [kA, kB, kY] _ (((S3.out _ _ rfl _ _ _).alloc _).alloc _) ((S3.out (w.alloc _) _ (by simp) _ _ _).alloc _) (S3.out ((w.alloc _).alloc _) _ (by simp) _ _ _) (Nat.le_refl _) (Nat.le_refl _) (Nat.le_refl _) (by simp [maxLen]) (by simp [maxLen]) (by simp [maxLen]) (by omega) (by omega) (by omega)).mono ?_
  rintro e w1 ⟨P, k, c, rfl, ho, hb1⟩
  have HB1 := Lib.hid ((B3.out _ _ _ _).trans (hb1.mono (B3.out _ _ _ _).size))
  have HO := Lib.hid ho
  clear ho hb1
  go_wp2_with fail
  refine (textOf_any P k c _ _ _ _ kl kr _ HO.out (by decide) (by decide) (by decide) (SH.out _ (by decide)) (SH.out _ (by decide)) (SH.out _ (by decide)) (by decide) (by decide)).mono ?_
  rw [bench1.1, bench1.2]
  rintro e w2 ⟨A2, c2, rfl, ho2, r1, r2, r3, hb2⟩
  have HB2 := Lib.hid (HB1.out.trans (hb2.mono HB1.out.size))
  have HS2 := Lib.hid (Sl.ofOwn ho2)
  clear ho2 hb2 HO HB1
  go_wp2_with fail
  refine (mergeW_any _ _ _ 1 1 1 1 1 1 [ka] [kx] [ky] _ (((S1.out _ _ rfl _).alloc _).alloc _) ((S1.out (w2.alloc _) _ (by simp) _).alloc _) (S1.out ((w2.alloc _).alloc _) _ (by simp) _) (Nat.le_refl _) (Nat.le_refl _) (Nat.le_refl _) (by simp [maxLen]) (by simp [maxLen]) (by simp [maxLen]) (by omega) (by omega) (by omega)).mono ?_
  rintro e w3 ⟨P3, k3, c3, rfl, ho3, hb3⟩
  have hb23 := (B3.out w2 _ _ _).trans (hb3.mono (B3.out _ _ _ _).size)
  have HB3 := Lib.hid (HB2.out.trans (hb23.mono HB2.out.size))
  have HS3 := Lib.hid (HS2.out.below hb23)
  have HO := Lib.hid ho3
  clear ho3 hb3 hb23 HS2 HB2
  go_wp2_with fail
  refine (textOf_any P3 k3 c3 _ _ _ _ kl kr _ HO.out (by decide) (by decide) (by decide) (SH.out _ (by decide)) (SH.out _ (by decide)) (SH.out _ (by decide)) (by decide) (by decide)).mono ?_
  rw [bench2, bench3.1, bench3.2]
  rintro e w4 ⟨A4, c4, rfl, ho4, r4, r5, r6, hb4⟩
  have HB4 := Lib.hid (HB3.out.trans (hb4.mono HB3.out.size))
  have hs2 := HS3.out.below hb4
  have hs4 := Sl.ofOwn ho4
  have hp4 := HO.out.below hb4
  rw [bench2] at hp4
  have hk := hp4.1
  obtain rfl : 1 = k3 := hk
  obtain ⟨b1, o1, x1, rfl, hb1, q1, e1⟩ := strV_look (k := 0) hs2 (by simp)
  simp only [List.getElem?_cons_zero, Option.some.injEq] at e1
  subst e1
  obtain ⟨b2, o2, x2, e2, hb2, q2, f2⟩ := strV_look (k := 2) hs2 (by simp)
  simp only [List.getElem?_cons_succ, List.getElem?_cons_zero, Option.some.injEq] at f2
  subst f2
  injection e2 with e2
  injection e2 with e2 e3
  subst e2 e3
  obtain ⟨b3, o3, x3, rfl, hb3, q3, f3⟩ := strV_look (k := 1) hs4 (by simp)
  simp only [List.getElem?_cons_succ, List.getElem?_cons_zero, Option.some.injEq] at f3
  subst f3
  obtain ⟨b4, o4, z, x, y, t, A1, A2', A3, n1, n2, n3, c1, c2', c3', rfl, hb4', f4, hwf, q4, -⟩ := pt_look (i := 0) (n := 1) hp4.sl rfl (by omega)
  simp only [List.getElem?_cons_zero, Option.some.injEq, Prod.mk.injEq] at f4
  obtain ⟨rfl, rfl, rfl, rfl⟩ := f4
  simp only [Nat.zero_mul, Nat.add_zero] at q1 q4
  have t1 : (kX.toList == kX.toList) = true := str_eq _
  have t2 : (kY.toList == kY.toList) = true := str_eq _
  have t3 : kX.toList = [120, 10] := ByteArray.toList_mk [120, 10]
  have t4 : kY.toList = [121, 10] := ByteArray.toList_mk [121, 10]
  clear hs2 hs4 hp4 HO HS3 S3 S1 SH B3 ho4 hb4
  go_wp2_with fail
  go_ret
  exact ⟨rfl, HB4.out⟩
end Go.Proofs.Ytbdlpigokahnoaa
