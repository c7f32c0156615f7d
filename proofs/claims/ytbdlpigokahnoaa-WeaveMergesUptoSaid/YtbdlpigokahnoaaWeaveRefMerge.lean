/- The document's Merge. -/
import Derived.Test.YtbdlpigokahnoaaWeavePlace
import Derived.Test.YtbdlpigokahnoaaWeaveSwapFn
set_option linter.unusedVariables false
namespace Go.Proofs.Ytbdlpigokahnoaa
open Go.RowKit
attribute [local go_sem ↓] cutA_eq

theorem StrAt.mid {w : World} {av : Av} {A : Option Addr} {n c : Nat} {l : List ByteArray} (h : StrAt w av A n c l) {i j : Nat} (hi : i ≤ j) (hj : j ≤ n) : StrAt w av (cutA A c i) (j - i) (c - i) ((l.drop i).take (j - i)) := by
  have h1 := h.cut (k := i) (by omega)
  have h2 := h1.sl.upto h1.len (k := j - i) (by omega)
  exact ⟨by rw [List.length_take, h1.len]; omega, by have := h.cap; omega, by have := h.max; omega, h2⟩
theorem StrAt.one {w : World} {av : Av} {A : Option Addr} {n c : Nat} {l : List ByteArray} (h : StrAt w av A n c l) {i : Nat} (hi : i < n) : StrAt w av (cutA A c i) 1 (c - i) ((l.drop i).take 1) := by
  have := h.mid (i := i) (j := i + 1) (by omega) (by omega)
  rwa [show i + 1 - i = 1 from by omega] at this
theorem StrAt.ofSl {w : World} {A : Option Addr} {n c : Nat} {l : List ByteArray} (h : Sl w 1 A n (strV l)) (hc : n ≤ c) (hm : c ≤ maxLen) : StrAt w no A n c l := by
  have hl := h.strLen
  subst hl
  exact ⟨rfl, hc, hm, SlOf.ofStr h⟩
def seg0 (s : Seg) : Pt := (0, s.1, s.2.1, s.2.2)
theorem placeI_some {l : List (Nat × Nat)} {n u : Nat} (h : placeG l n = some u) : placeI l n = (u : Int) := by unfold placeI; rw [h]
theorem placeI_none {l : List (Nat × Nat)} {n : Nat} (h : placeG l n = none) : placeI l n = -1 := by unfold placeI; rw [h]

/-- the three lists where they came in, and what the loop may not touch -/
structure Three (w0 : World) (A B C : Option Addr) (n ca m cb r cc : Nat) (x y z : List ByteArray) : Prop where
  a : StrAt w0 no A n ca x
  b : StrAt w0 no B m cb y
  c : StrAt w0 no C r cc z

theorem Each.last {α : Type} {R : List Value → α → Prop} : ∀ {init : List α} {p : α} {vs : List Value}, Each R vs (init ++ [p]) → ∃ vs1 cs, vs = vs1 ++ cs ∧ Each R vs1 init ∧ R cs p
  | [], p, vs, h => by
    cases h with
    | cons h1 h2 => cases h2; exact ⟨[], _, by simp, .nil, h1⟩
  | a :: init, p, vs, h => by
    cases h with
    | cons h1 h2 =>
      obtain ⟨vs1, cs, e, h3, h4⟩ := Each.last h2
      exact ⟨_ ++ vs1, cs, by rw [e, List.append_assoc], .cons h1 h3, h4⟩
theorem set4 (vs : List Value) (a b c d a' b' c' d' : Value) {j : Nat} (hj : vs.length = j) : ((((vs ++ [a, b, c, d]).set j a').set (j + 1) b').set (j + 2) c').set (j + 3) d' = vs ++ [a', b', c', d'] := by
  subst hj
  simp
/-- the last part of a list of the call's own turned whole -/
theorem OwnPts.setLast {w : World} {base : Nat} {T : TypeId} {g n c q : Nat} {init : List Pt} {p : Pt} (h : OwnPts w base T (some ⟨g, 0, none⟩) n c (init ++ [p])) (hq : init.length = q) {z : Int} {b o t : List ByteArray} {A1 A2 A3 : Option Addr} {n1 n2 n3 c1 c2 c3 : Nat}
    (hw : (Lit.int .i64 z).wf = true) (h1 : StrAt w (own (.slice (some ⟨g, 0, none⟩) n c)) A1 n1 c1 b) (h2 : StrAt w (own (.slice (some ⟨g, 0, none⟩) n c)) A2 n2 c2 o) (h3 : StrAt w (own (.slice (some ⟨g, 0, none⟩) n c)) A3 n3 c3 t) :
    OwnPts ((((w.setCell ⟨g, q * 4, none⟩ (.int .i64 z)).setCell ⟨g, q * 4 + 1, none⟩ (.slice A1 n1 c1)).setCell ⟨g, q * 4 + 2, none⟩ (.slice A2 n2 c2)).setCell ⟨g, q * 4 + 3, none⟩ (.slice A3 n3 c3)) base T (some ⟨g, 0, none⟩) n c (init ++ [(z, b, o, t)]) := by
  obtain ⟨hl, vs, ho, he⟩ := h
  obtain ⟨vs1, cs, rfl, he1, hr⟩ := he.last
  obtain ⟨B1, B2, B3, m1, m2, m3, d1, d2, d3, rfl, -, -⟩ := pt_cells hr
  have hv1 : vs1.length = q * 4 := by have := he1.length fun _ _ => ptR.len; rw [hq] at this; exact this
  have hn : n = q + 1 := by rw [← hl]; simp [hq]
  have o1 := own_set ho (k := q * 4) (by omega) (.int .i64 z)
  have o2 := own_set o1 (k := q * 4 + 1) (by omega) (.slice A1 n1 c1)
  have o3 := own_set o2 (k := q * 4 + 2) (by omega) (.slice A2 n2 c2)
  have o4 := own_set o3 (k := q * 4 + 3) (by omega) (.slice A3 n3 c3)
  unfold ptCells at o4
  rw [set4 _ _ _ _ _ _ _ _ _ hv1] at o4
  have m : Moves w ((((w.setCell ⟨g, q * 4, none⟩ (.int .i64 z)).setCell ⟨g, q * 4 + 1, none⟩ (.slice A1 n1 c1)).setCell ⟨g, q * 4 + 2, none⟩ (.slice A2 n2 c2)).setCell ⟨g, q * 4 + 3, none⟩ (.slice A3 n3 c3)) (own (.slice (some ⟨g, 0, none⟩) n c)) (own (.slice (some ⟨g, 0, none⟩) n c)) := by
    refine ⟨by simp [World.setCell], fun k _ hk => ?_, fun k _ hk => hk⟩
    have hne : k ≠ g := fun e => hk (by subst e; rfl)
    rw [Below.heap_setCell _ ⟨g, q * 4 + 3, none⟩ _ k hne, Below.heap_setCell _ ⟨g, q * 4 + 2, none⟩ _ k hne, Below.heap_setCell _ ⟨g, q * 4 + 1, none⟩ _ k hne, Below.heap_setCell _ ⟨g, q * 4, none⟩ _ k hne]
  refine ⟨by simpa using hl, _, o4, ?_⟩
  exact Each.snoc (he1.mono fun _ _ hr => ptR.stable hr m) (pt_mk hw (h1.moves m) (h2.moves m) (h3.moves m))

theorem seg_le {S : List Seg} {s : Seg} (h : s ∈ S) : s.1.length ≤ (S.flatMap (·.1)).length ∧ s.2.1.length ≤ (S.flatMap (·.2.1)).length ∧ s.2.2.length ≤ (S.flatMap (·.2.2)).length := by
  induction S with
  | nil => cases h
  | cons q S ih =>
    simp only [List.flatMap_cons, List.length_append]
    rcases List.mem_cons.1 h with rfl | h
    · omega
    · have := ih h; omega
theorem take_flat_le (S : List Seg) (K : Nat) : ((S.take K).flatMap (·.1)).length ≤ (S.flatMap (·.1)).length := by
  have h := congrArg (fun l : List Seg => (l.flatMap (·.1)).length) (List.take_append_drop K S)
  simp only [List.flatMap_append, List.length_append] at h
  omega
theorem fold_take {S : List Seg} {K : Nat} {s : Seg} (h : S[K]? = some s) : (S.take (K + 1)).foldl pushG [] = pushG ((S.take K).foldl pushG []) s := by
  rw [List.take_add_one, h, List.foldl_append]; rfl
theorem fold_base_le (S : List Seg) (K : Nat) : ∀ p ∈ (S.take K).foldl pushG [], p.2.1.length ≤ (S.flatMap (·.1)).length := fun p hp => by
  have h1 := (part_le hp).1
  have h2 := (fold_flat (S.take K) []).1
  rw [h2] at h1
  have h3 := take_flat_le S K
  simp only [baseOf, List.flatMap_nil, List.nil_append] at h1
  omega

theorem last_split {α : Type} {l : List α} {q : Nat} {p : α} (hl : l.length = q + 1) (hp : l[q]? = some p) : ∃ init, l = init ++ [p] ∧ init.length = q := by
  rcases snoc_cases l with rfl | ⟨init, x, rfl⟩
  · simp at hl
  · have hq : init.length = q := by simp at hl; exact hl
    subst hq
    simp at hp
    subst hp
    exact ⟨init, rfl, rfl⟩

/-- the loop over the base: all so far, or all -/
def ScanAt (x y z : List ByteArray) (n I J K : Nat) (all : List Seg) : Prop :=
  ScanInv x y z n I J K all ∨ (n = x.length + 1 ∧ all = segsG x y z 0 0 0 (commons (pairsAt x y 0 0) (pairsAt x z 0 0)) ∧ all.length ≤ 2 * n)

set_option maxHeartbeats 4000000 in
set_option maxRecDepth 100000 in
theorem refMerge_any (A B C : Option Addr) (n ca m cb r cc : Nat) (x y z : List ByteArray) (w : World) (hx : Sl w 1 A n (strV x)) (hy : Sl w 1 B m (strV y)) (hz : Sl w 1 C r (strV z)) (hca : n ≤ ca) (hcb : m ≤ cb) (hcc : r ≤ cc) (hma : ca ≤ maxLen) (hmb : cb ≤ maxLen) (hmc : cc ≤ maxLen) (hn : n ≤ 1000) (hm : m ≤ 1000) (hr : r ≤ 1000) :
    Calls Try.prog 21 #[.slice A n ca, .slice B m cb, .slice C r cc] w (MergePost 79 w (mergeG x y z)) := by
  have hp1 : n * m ≤ 1048576 := Nat.le_trans (Nat.mul_le_mul hn hm) (by decide)
  have hp2 : n * r ≤ 1048576 := Nat.le_trans (Nat.mul_le_mul hn hr) (by decide)
  have c1 := Lib.hid (refPairs_any A B n ca m cb x y w hx hy (by omega) (by omega) hp1)
  have hX := Lib.hid hx
  have hY := Lib.hid hy
  have hZ := Lib.hid hz
  clear hx hy hz hp1
  go_enter Try.func21, Try.ntmps21
  go_wp2_with fail
  refine c1.out.mono ?_
  rintro e w1 ⟨Aa, fa, rfl, oa, ca1, ca2, ba⟩
  have OA := Lib.hid oa
  have BA := Lib.hid ba
  clear oa ba
  have c2 := Lib.hid (refPairs_any A C n ca r cc x z w1 (hX.out.below BA.out) (hZ.out.below BA.out) (by omega) (by omega) hp2)
  go_wp2_with fail
  refine c2.out.mono ?_
  rintro e w2 ⟨Ab, fb, rfl, ob, cb1, cb2, bb⟩
  have B2 := Lib.hid (BA.out.trans (bb.mono BA.out.size))
  have QA := Lib.hid (Sl.ofOwn (own_below OA.out bb))
  have QB := Lib.hid (Sl.ofOwn ob)
  have HT := Lib.hid (Three.mk (StrAt.ofSl (hX.out.below B2.out) hca hma) (StrAt.ofSl (hY.out.below B2.out) hcb hmb) (StrAt.ofSl (hZ.out.below B2.out) hcc hmc))
  have la := pairsAt_le x y 0 0
  have lb := pairsAt_le x z 0 0
  have lx := hX.out.strLen
  have ly := hY.out.strLen
  have lz := hZ.out.strLen
  have LX := Lib.hid lx
  have LY := Lib.hid ly
  have LZ := Lib.hid lz
  clear c1 c2 ob bb OA BA
  have HST := Lib.hid (show ScanAt x y z 0 0 0 0 [] from .inl (ScanInv.start x y z))
  generalize hga : (pairsAt x y 0 0).length = na at *
  generalize hgb : (pairsAt x z 0 0).length = nb at *
  have HGA := Lib.hid hga
  have HGB := Lib.hid hgb
  rw [lx] at la lb
  clear hga hgb lx ly lz
  go_wp2_with fail
  go_loopw [12, 13, 14, 15, 16] (fun v si sj sk sn wr => ∃ (Ao : Option Addr) (k co N I J K : Nat) (all : List Seg), v = .slice Ao k co ∧ si = .int .i64 I ∧ sj = .int .i64 J ∧ sk = .int .i64 K ∧ sn = .int .i64 N ∧ k ≤ 2 * N ∧ N ≤ n + 1 ∧ I ≤ 2000 ∧ J ≤ 2000 ∧ K ≤ 2000 ∧
    Hid (OwnPts wr w2.heap.size 79 Ao k co (all.map seg0)) ∧ Hid (ScanAt x y z N I J K all) ∧ Below w2.heap.size w2 wr) (fun _ _ _ _ sn _ => n + 1 - (intOf sn).toNat)
  case atStart => exact ⟨none, 0, 0, 0, 0, 0, 0, [], rfl, rfl, rfl, rfl, rfl, by omega, by omega, by omega, by omega, by omega, Lib.hid (OwnPts.nil _ _ _), HST, Below.refl _ _⟩
  case round =>
    obtain ⟨Ao, k, co, N, I, J, K, all, rfl, rfl, rfl, rfl, rfl, hk, hN, hI, hJ, hK, HO, HSC, hbr⟩ := hrel
    have HBR := Lib.hid hbr
    have hroom := HO.out.room
    have MV := Lib.hid (HO.out.moves (w := w2) hbr (Nat.le_refl _))
    clear hbr
    by_cases hle : N ≤ n
    · have hsc : ScanInv x y z N I J K all := by
        rcases HSC.out with h | ⟨h, _⟩
        · exact h
        · have := LX.out; omega
      have g1 := hsc.hI
      have g2 := hsc.hJ
      have g3 := hsc.hK
      rw [LY.out] at g2
      rw [LZ.out] at g3
      have HSI := Lib.hid hsc
      have SA := Lib.hid (HT.out.a.moves (MV.out.trans (Moves.less _ (fun _ _ h => h))))
      have SB := Lib.hid (HT.out.b.moves MV.out)
      have SC := Lib.hid (HT.out.c.moves MV.out)
      have hk1 : IntKind.i64.wrap ((N : Int) + 1) = (N : Int) + 1 := IntWalk.i64_in _ (by omega)
      have hle' : (N : Int) ≤ (n : Int) := by omega
      clear hsc HSC
      by_cases hlt : N < n
      · have hlt' : (N : Int) < (n : Int) := by omega
        have cp1 := Lib.hid (place_any Aa na fa (pairsAt x y 0 0) N wr (QA.out.below (HBR.out.mono (Nat.le_refl _))) HGA.out (by omega) (by omega))
        have cp2 := Lib.hid (place_any Ab nb fb (pairsAt x z 0 0) N wr (QB.out.below (HBR.out.mono (Nat.le_refl _))) HGB.out (by omega) (by omega))
        cases hu : placeG (pairsAt x y 0 0) N with
        | none =>
          have HI2 := Lib.hid (HSI.out.skip (by rw [LX.out]; exact hlt) (.inl hu))
          have e1 := placeI_none hu
          rw [e1] at cp1
          clear hu e1
          generalize placeI (pairsAt x z 0 0) N = v at *
          go_wp2_with fail
          refine cp1.out.mono ?_
          rintro e w3 ⟨rfl, rfl⟩
          go_wp2_with fail
          refine cp2.out.mono ?_
          rintro e w3 ⟨rfl, rfl⟩
          go_wp2_with fail
          go_roundw
          case rel => exact ⟨Ao, k, co, N + 1, I, J, K, all, rfl, rfl, rfl, rfl, by go_num, by omega, by omega, hI, hJ, hK, HO, Lib.hid (.inl HI2.out), HBR.out⟩
          case measure => simp [intOf]; omega
        | some u =>
          have e1 := placeI_some hu
          rw [e1] at cp1
          cases hv : placeG (pairsAt x z 0 0) N with
          | none =>
            have HI2 := Lib.hid (HSI.out.skip (by rw [LX.out]; exact hlt) (.inr hv))
            have e2 := placeI_none hv
            rw [e2] at cp2
            clear hu hv e1 e2
            have hu0 : ¬ ((u : Int) < 0) := by omega
            have hu1 : decide ((u : Int) < 0) = false := by rw [decide_eq_false_iff_not]; exact hu0
            go_wp2_with fail
            refine cp1.out.mono ?_
            rintro e w3 ⟨rfl, rfl⟩
            go_wp2_with fail
            refine cp2.out.mono ?_
            rintro e w3 ⟨rfl, rfl⟩
            go_wp2_with fail
            go_roundw
            case rel => exact ⟨Ao, k, co, N + 1, I, J, K, all, rfl, rfl, rfl, rfl, by go_num, by omega, by omega, hI, hJ, hK, HO, Lib.hid (.inl HI2.out), HBR.out⟩
            case measure => simp [intOf]; omega
          | some v =>
            obtain ⟨j1, j2, j3, j4, hsc2⟩ := HSI.out.both (by rw [LX.out]; exact hlt) hu hv
            rw [LY.out] at j2
            rw [LZ.out] at j4
            have HI2 := Lib.hid hsc2
            have e2 := placeI_some hv
            rw [e2] at cp2
            clear hu hv e1 e2 hsc2 HSI
            have hu0 : ¬ ((u : Int) < 0) := by omega
            have hu1 : decide ((u : Int) < 0) = false := by rw [decide_eq_false_iff_not]; exact hu0
            have hv0 : ¬ ((v : Int) < 0) := by omega
            have hv1 : decide ((v : Int) < 0) = false := by rw [decide_eq_false_iff_not]; exact hv0
            -- the part ahead of the line, the line itself
            obtain ⟨A1, q1, w3, run1, ho3, hb3, -⟩ := (HO.out.below (below_d0 wr)).app2 elemRefPart (z := 0) rfl ((SA.out.mid (i := I) (j := N) g1 (by omega)).moves (.of_below (below_d0 wr))) ((SB.out.mid (i := J) (j := u) j1 (by omega)).moves (.of_below (below_d0 wr))) ((SC.out.mid (i := K) (j := v) j3 (by omega)).moves (.of_below (below_d0 wr))) (by omega) HBR.out.size (g := wr.heap.size) rfl
            have hbr3 := HBR.out.trans (((below_d0 wr).mono HBR.out.size).trans hb3)
            have HO3 := Lib.hid ho3
            have HB3 := Lib.hid hbr3
            have MV3 := Lib.hid (ho3.moves (w := w2) hbr3 (Nat.le_refl _))
            obtain ⟨A2, q2, w4, run2, ho4, hb4, -⟩ := (ho3.below (below_d0 w3)).app2 elemRefPart (z := 0) rfl (((HT.out.a.moves MV3.out).one hlt).moves (.of_below (below_d0 w3))) (((HT.out.b.moves MV3.out).one j2).moves (.of_below (below_d0 w3))) (((HT.out.c.moves MV3.out).one j4).moves (.of_below (below_d0 w3))) (by omega) hbr3.size (g := w3.heap.size) rfl
            have HB4 := Lib.hid (hbr3.trans (((below_d0 w3).mono hbr3.size).trans hb4))
            have HO4 := Lib.hid ho4
            have RUN1 := Lib.hid run1
            have RUN2 := Lib.hid run2
            clear run1 run2 ho3 ho4 hb3 hb4 hbr3 SA SB SC
            have f1 : (I : Int) ≤ (N : Int) := by omega
            have f2 : (N : Int) ≤ (ca : Int) := by omega
            have f3 : (J : Int) ≤ (u : Int) := by omega
            have f4 : (u : Int) ≤ (cb : Int) := by omega
            have f5 : (K : Int) ≤ (v : Int) := by omega
            have f6 : (v : Int) ≤ (cc : Int) := by omega
            have f7 : (N : Int) + 1 ≤ (ca : Int) := by omega
            have f8 : (u : Int) + 1 ≤ (cb : Int) := by omega
            have f9 : (v : Int) + 1 ≤ (cc : Int) := by omega
            have hk2 : IntKind.i64.wrap ((u : Int) + 1) = (u : Int) + 1 := IntWalk.i64_in _ (by omega)
            have hk3 : IntKind.i64.wrap ((v : Int) + 1) = (v : Int) + 1 := IntWalk.i64_in _ (by omega)
            go_wp2_with fail
            refine cp1.out.mono ?_
            rintro e w5 ⟨rfl, rfl⟩
            go_wp2_with fail
            refine cp2.out.mono ?_
            rintro e w5 ⟨rfl, rfl⟩
            have n0 : (0 : Int) ≤ (N : Int) + 1 := by omega
            have n1 : (0 : Int) ≤ (u : Int) + 1 := by omega
            have n2 : (0 : Int) ≤ (v : Int) + 1 := by omega
            clear cp1 cp2 QA QB
            go_upto_region 16 with fail
            go_cut [12] (fun v5 wx => v5 = .slice A1 (k + 1) q1 ∧ wx = w3)
            case first =>
              refine wp_region_held (S := fun _ => True) (by kernel_rfl) ?_
              change wpAnyH _ _ _ _ _ _ _ _ (World.drew _)
              refine held_take (i := 0) (v := ?_) (a' := ?_) rfl (by kernel_rfl) (by kernel_rfl) (by kernel_rfl) (fun _ _ _ h => h) (by rfl) trivial ?_ ?_ ?_
              rotate_left 2
              · (intro w hS; go_simp; try with_reducible rfl)
              · (go_simp; try with_reducible rfl)
              refine held_take (i := 1) (v := ?_) (a' := ?_) rfl (by kernel_rfl) (by kernel_rfl) (by kernel_rfl) (fun _ _ _ h => h) (by rfl) trivial ?_ ?_ ?_
              rotate_left 2
              · (intro w hS; go_simp; try with_reducible rfl)
              · (go_simp; try with_reducible rfl)
              refine held_take (i := 2) (v := ?_) (a' := ?_) rfl (by kernel_rfl) (by kernel_rfl) (by kernel_rfl) (fun _ _ _ h => h) (by rfl) trivial ?_ ?_ ?_
              rotate_left 2
              · (intro w hS; go_simp; try with_reducible rfl)
              · (go_simp; try with_reducible rfl)
              refine held_take (i := 3) (v := ?_) (a' := ?_) rfl (by kernel_rfl) (by kernel_rfl) (by kernel_rfl) (fun _ _ _ h => h) (by rfl) trivial ?_ ?_ ?_
              rotate_left 2
              · (intro w hS; go_simp; try with_reducible rfl)
              · (go_simp; try with_reducible rfl)
              refine held_take (i := 4) (v := ?_) (a' := ?_) rfl (by kernel_rfl) (by kernel_rfl) (by kernel_rfl) (fun _ _ _ h => h) (by rfl) trivial ?_ ?_ ?_
              rotate_left 2
              · (intro w hS; go_simp; try with_reducible rfl)
              · (go_simp; try with_reducible rfl)
              refine held_take (i := 5) (v := ?_) (a' := ?_) rfl (by kernel_rfl) (by kernel_rfl) (by kernel_rfl) (fun _ _ _ h => h) (by rfl) trivial ?_ ?_ ?_
              rotate_left 2
              · (intro w hS; go_simp; try with_reducible rfl)
              · (go_simp; try with_reducible rfl)
              refine held_take (i := 6) (v := ?_) (a' := ?_) rfl (by kernel_rfl) (by kernel_rfl) (by kernel_rfl) (fun _ _ _ h => h) (by rfl) trivial ?_ ?_ ?_
              rotate_left 2
              · (intro w hS; go_simp; try with_reducible rfl)
              · (go_simp; try with_reducible rfl)
              refine held_take (i := 7) (v := ?_) (a' := ?_) rfl (by kernel_rfl) (by kernel_rfl) (by kernel_rfl) (fun _ _ _ h => h) (by rfl) trivial ?_ ?_ ?_
              rotate_left 2
              · (intro w hS; go_simp; try with_reducible rfl)
              · (go_simp; try with_reducible rfl)
              refine held_take (i := 8) (v := ?_) (a' := ?_) rfl (by kernel_rfl) (by kernel_rfl) (by kernel_rfl) (fun _ _ _ h => h) (by rfl) trivial ?_ ?_ ?_
              rotate_left 2
              · (intro w hS; go_simp; try with_reducible rfl)
              · (go_simp; try with_reducible rfl)
              refine held_take (i := 9) (v := ?_) (a' := ?_) rfl (by kernel_rfl) (by kernel_rfl) (by kernel_rfl) (fun _ _ _ h => h) (by rfl) trivial ?_ ?_ ?_
              rotate_left 2
              · (intro w hS; go_simp; try with_reducible rfl)
              · (go_simp; try with_reducible rfl)
              refine held_take (i := 10) (v := ?_) (a' := ?_) rfl (by kernel_rfl) (by kernel_rfl) (by kernel_rfl) (fun _ _ _ h => h) (by rfl) trivial ?_ ?_ ?_
              rotate_left 2
              · (intro w hS; go_simp; try with_reducible rfl)
              · (go_simp; try with_reducible rfl)
              refine held_take (i := 11) (v := ?_) (a' := ?_) rfl (by kernel_rfl) (by kernel_rfl) (by kernel_rfl) (fun _ _ _ h => h) (by rfl) trivial ?_ ?_ ?_
              rotate_left 2
              · (intro w hS; go_simp; try with_reducible rfl)
              · (go_simp; try with_reducible rfl)
              refine held_take (i := 12) (v := ?_) (a' := ?_) rfl (by kernel_rfl) (by kernel_rfl) (by kernel_rfl) (fun _ _ _ h => h) (by rfl) trivial ?_ ?_ ?_
              rotate_left 2
              · (intro w hS; go_simp; try with_reducible rfl)
              · (go_simp; try with_reducible rfl)
              refine held_take (i := 13) (v := ?_) (a' := ?_) rfl (by kernel_rfl) (by kernel_rfl) (by kernel_rfl) (fun _ _ _ h => h) (by rfl) trivial ?_ ?_ ?_
              rotate_left 2
              · (intro w hS; go_simp; try with_reducible rfl)
              · (go_simp; try with_reducible rfl)
              refine held_ready (rs := [14]) (by kernel_rfl) (by simp) ?_
              refine AllHeld.cons rfl (fun KR hKR => ?_) ?_
              · go_simp
                skip
                refine hKR _ _ trivial ?_
                clear hKR KR
                refine held_ready (rs := [15]) (by kernel_rfl) (by simp) ?_
                refine AllHeld.cons rfl (fun KR hKR => ?_) ?_
                · refine step_run_append (by rfl) (.tmp 68) (.tmp 82) (by rfl) (by rfl) (by rfl) RUN1.out ?_
                  refine hKR _ _ trivial ?_
                  clear hKR KR
                  refine held_take (i := 16) (v := ?_) (a' := ?_) rfl (by kernel_rfl) (by kernel_rfl) (by kernel_rfl) (fun _ _ _ h => h) (by rfl) trivial ?_ ?_ ?_
                  rotate_left 2
                  · (intro w hS; go_simp; try with_reducible rfl)
                  · (go_simp; try with_reducible rfl)
                  refine wpAnyH_done (by kernel_rfl) ?_ _
                  go_wp2_with fail
                  go_meet
                  case rel => exact ⟨rfl, rfl⟩
                exact AllHeld.nil
              exact AllHeld.nil
            case rest =>
              obtain ⟨rfl, rfl⟩ := hcut
              go_wp2_with fail
              refine wp_region_held (S := fun _ => True) (by kernel_rfl) ?_
              change wpAnyH _ _ _ _ _ _ _ _ (World.drew _)
              refine held_take (i := 0) (v := ?_) (a' := ?_) rfl (by kernel_rfl) (by kernel_rfl) (by kernel_rfl) (fun _ _ _ h => h) (by rfl) trivial ?_ ?_ ?_
              rotate_left 2
              · (intro w hS; go_simp; try with_reducible rfl)
              · (go_simp; try with_reducible rfl)
              refine held_take (i := 1) (v := ?_) (a' := ?_) rfl (by kernel_rfl) (by kernel_rfl) (by kernel_rfl) (fun _ _ _ h => h) (by rfl) trivial ?_ ?_ ?_
              rotate_left 2
              · (intro w hS; go_simp; try with_reducible rfl)
              · (go_simp; try with_reducible rfl)
              refine held_take (i := 2) (v := ?_) (a' := ?_) rfl (by kernel_rfl) (by kernel_rfl) (by kernel_rfl) (fun _ _ _ h => h) (by rfl) trivial ?_ ?_ ?_
              rotate_left 2
              · (intro w hS; go_simp; try with_reducible rfl)
              · (go_simp; try with_reducible rfl)
              refine held_take (i := 3) (v := ?_) (a' := ?_) rfl (by kernel_rfl) (by kernel_rfl) (by kernel_rfl) (fun _ _ _ h => h) (by rfl) trivial ?_ ?_ ?_
              rotate_left 2
              · (intro w hS; go_simp; try with_reducible rfl)
              · (go_simp; try with_reducible rfl)
              refine held_take (i := 4) (v := ?_) (a' := ?_) rfl (by kernel_rfl) (by kernel_rfl) (by kernel_rfl) (fun _ _ _ h => h) (by rfl) trivial ?_ ?_ ?_
              rotate_left 2
              · (intro w hS; have r1 := hk1; have r2 := hk2; have r3 := hk3; go_simp; try with_reducible rfl)
              · (go_simp; try with_reducible rfl)
              refine held_take (i := 5) (v := ?_) (a' := ?_) rfl (by kernel_rfl) (by kernel_rfl) (by kernel_rfl) (fun _ _ _ h => h) (by rfl) trivial ?_ ?_ ?_
              rotate_left 2
              · (intro w hS; go_simp; try with_reducible rfl)
              · (go_simp; try with_reducible rfl)
              refine held_take (i := 6) (v := ?_) (a' := ?_) rfl (by kernel_rfl) (by kernel_rfl) (by kernel_rfl) (fun _ _ _ h => h) (by rfl) trivial ?_ ?_ ?_
              rotate_left 2
              · (intro w hS; go_simp; try with_reducible rfl)
              · (go_simp; try with_reducible rfl)
              refine held_take (i := 7) (v := ?_) (a' := ?_) rfl (by kernel_rfl) (by kernel_rfl) (by kernel_rfl) (fun _ _ _ h => h) (by rfl) trivial ?_ ?_ ?_
              rotate_left 2
              · (intro w hS; go_simp; try with_reducible rfl)
              · (go_simp; try with_reducible rfl)
              refine held_take (i := 8) (v := ?_) (a' := ?_) rfl (by kernel_rfl) (by kernel_rfl) (by kernel_rfl) (fun _ _ _ h => h) (by rfl) trivial ?_ ?_ ?_
              rotate_left 2
              · (intro w hS; go_simp; try with_reducible rfl)
              · (go_simp; try with_reducible rfl)
              refine held_take (i := 9) (v := ?_) (a' := ?_) rfl (by kernel_rfl) (by kernel_rfl) (by kernel_rfl) (fun _ _ _ h => h) (by rfl) trivial ?_ ?_ ?_
              rotate_left 2
              · (intro w hS; have r1 := hk1; have r2 := hk2; have r3 := hk3; go_simp; try with_reducible rfl)
              · (go_simp; try with_reducible rfl)
              refine held_take (i := 10) (v := ?_) (a' := ?_) rfl (by kernel_rfl) (by kernel_rfl) (by kernel_rfl) (fun _ _ _ h => h) (by rfl) trivial ?_ ?_ ?_
              rotate_left 2
              · (intro w hS; go_simp; try with_reducible rfl)
              · (go_simp; try with_reducible rfl)
              refine held_take (i := 11) (v := ?_) (a' := ?_) rfl (by kernel_rfl) (by kernel_rfl) (by kernel_rfl) (fun _ _ _ h => h) (by rfl) trivial ?_ ?_ ?_
              rotate_left 2
              · (intro w hS; go_simp; try with_reducible rfl)
              · (go_simp; try with_reducible rfl)
              refine held_take (i := 12) (v := ?_) (a' := ?_) rfl (by kernel_rfl) (by kernel_rfl) (by kernel_rfl) (fun _ _ _ h => h) (by rfl) trivial ?_ ?_ ?_
              rotate_left 2
              · (intro w hS; go_simp; try with_reducible rfl)
              · (go_simp; try with_reducible rfl)
              refine held_take (i := 13) (v := ?_) (a' := ?_) rfl (by kernel_rfl) (by kernel_rfl) (by kernel_rfl) (fun _ _ _ h => h) (by rfl) trivial ?_ ?_ ?_
              rotate_left 2
              · (intro w hS; go_simp; try with_reducible rfl)
              · (go_simp; try with_reducible rfl)
              refine held_take (i := 14) (v := ?_) (a' := ?_) rfl (by kernel_rfl) (by kernel_rfl) (by kernel_rfl) (fun _ _ _ h => h) (by rfl) trivial ?_ ?_ ?_
              rotate_left 2
              · (intro w hS; have r1 := hk1; have r2 := hk2; have r3 := hk3; go_simp; try with_reducible rfl)
              · (go_simp; try with_reducible rfl)
              refine held_take (i := 15) (v := ?_) (a' := ?_) rfl (by kernel_rfl) (by kernel_rfl) (by kernel_rfl) (fun _ _ _ h => h) (by rfl) trivial ?_ ?_ ?_
              rotate_left 2
              · (intro w hS; go_simp; try with_reducible rfl)
              · (go_simp; try with_reducible rfl)
              refine held_take (i := 16) (v := ?_) (a' := ?_) rfl (by kernel_rfl) (by kernel_rfl) (by kernel_rfl) (fun _ _ _ h => h) (by rfl) trivial ?_ ?_ ?_
              rotate_left 2
              · (intro w hS; go_simp; try with_reducible rfl)
              · (go_simp; try with_reducible rfl)
              refine held_ready (rs := [17]) (by kernel_rfl) (by simp) ?_
              refine AllHeld.cons rfl (fun KR hKR => ?_) ?_
              · go_simp
                skip
                refine hKR _ _ trivial ?_
                clear hKR KR
                refine held_ready (rs := [18]) (by kernel_rfl) (by simp) ?_
                refine AllHeld.cons rfl (fun KR hKR => ?_) ?_
                · trace_state
                  refine step_run_append (by rfl) (.tmp 88) (.tmp 105) (by rfl) (by rfl) (by rfl) RUN2.out ?_
                  refine hKR _ _ trivial ?_
                  clear hKR KR
                  refine held_take (i := 19) (v := ?_) (a' := ?_) rfl (by kernel_rfl) (by kernel_rfl) (by kernel_rfl) (fun _ _ _ h => h) (by rfl) trivial ?_ ?_ ?_
                  rotate_left 2
                  · (intro w hS; go_simp; try with_reducible rfl)
                  · (go_simp; try with_reducible rfl)
                  refine wpAnyH_done (by kernel_rfl) ?_ _
                  go_wp2_with fail
                  go_roundw
                  case rel => exact ⟨A2, k + 1 + 1, q2, N + 1, N + 1, u + 1, v + 1, _, rfl, by go_num, by go_num, by go_num, by go_num, by omega, by omega, by omega, by omega, by omega, Lib.hid (by rw [List.map_append]; have h := HO4.out; rw [List.append_assoc] at h; exact h), Lib.hid (.inl HI2.out), HB4.out⟩
                  case measure => simp [intOf]; omega
                exact AllHeld.nil
              exact AllHeld.nil
      · obtain rfl : N = n := by omega
        have j1 : J ≤ m := g2
        have j3 : K ≤ r := g3
        have hdone := HSI.out
        rw [← LX.out] at hdone
        have hdn := hdone.done
        rw [LX.out, LY.out, LZ.out] at hdn
        have hal := HSI.out.len
        obtain ⟨A1, q1, w3, run1, ho3, hb3, -⟩ := (HO.out.below (below_d0 wr)).app2 elemRefPart (z := 0) rfl ((SA.out.mid (i := I) (j := N) g1 (by omega)).moves (.of_below (below_d0 wr))) ((SB.out.mid (i := J) (j := m) j1 (by omega)).moves (.of_below (below_d0 wr))) ((SC.out.mid (i := K) (j := r) j3 (by omega)).moves (.of_below (below_d0 wr))) (by omega) HBR.out.size (g := wr.heap.size) rfl
        have HB3 := Lib.hid (HBR.out.trans (((below_d0 wr).mono HBR.out.size).trans hb3))
        have HO3 := Lib.hid ho3
        have RUN1 := Lib.hid run1
        have HDN := Lib.hid hdn
        have hlt' : ¬ (N : Int) < (N : Int) := by omega
        have f1 : (I : Int) ≤ (N : Int) := by omega
        have f2 : (N : Int) ≤ (ca : Int) := by omega
        have f3 : (J : Int) ≤ (m : Int) := by omega
        have f4 : (m : Int) ≤ (cb : Int) := by omega
        have f5 : (K : Int) ≤ (r : Int) := by omega
        have f6 : (r : Int) ≤ (cc : Int) := by omega
        have hu0 : ¬ ((m : Int) < 0) := by omega
        have hu1 : decide ((m : Int) < 0) = false := by rw [decide_eq_false_iff_not]; exact hu0
        have hv0 : ¬ ((r : Int) < 0) := by omega
        have hv1 : decide ((r : Int) < 0) = false := by rw [decide_eq_false_iff_not]; exact hv0
        have hk2 : IntKind.i64.wrap ((m : Int) + 1) = (m : Int) + 1 := IntWalk.i64_in _ (by omega)
        have hk3 : IntKind.i64.wrap ((r : Int) + 1) = (r : Int) + 1 := IntWalk.i64_in _ (by omega)
        clear run1 ho3 hb3 SA SB SC hdone hdn HSI QA QB hlt
        go_upto_region 16 with fail
        go_cut [12] (fun v5 wx => v5 = .slice A1 (k + 1) q1 ∧ wx = w3)
        case first =>
          refine wp_region_held (S := fun _ => True) (by kernel_rfl) ?_
          change wpAnyH _ _ _ _ _ _ _ _ (World.drew _)
          refine held_take (i := 0) (v := ?_) (a' := ?_) rfl (by kernel_rfl) (by kernel_rfl) (by kernel_rfl) (fun _ _ _ h => h) (by rfl) trivial ?_ ?_ ?_
          rotate_left 2
          · (intro w hS; go_simp; try with_reducible rfl)
          · (go_simp; try with_reducible rfl)
          refine held_take (i := 1) (v := ?_) (a' := ?_) rfl (by kernel_rfl) (by kernel_rfl) (by kernel_rfl) (fun _ _ _ h => h) (by rfl) trivial ?_ ?_ ?_
          rotate_left 2
          · (intro w hS; go_simp; try with_reducible rfl)
          · (go_simp; try with_reducible rfl)
          refine held_take (i := 2) (v := ?_) (a' := ?_) rfl (by kernel_rfl) (by kernel_rfl) (by kernel_rfl) (fun _ _ _ h => h) (by rfl) trivial ?_ ?_ ?_
          rotate_left 2
          · (intro w hS; go_simp; try with_reducible rfl)
          · (go_simp; try with_reducible rfl)
          refine held_take (i := 3) (v := ?_) (a' := ?_) rfl (by kernel_rfl) (by kernel_rfl) (by kernel_rfl) (fun _ _ _ h => h) (by rfl) trivial ?_ ?_ ?_
          rotate_left 2
          · (intro w hS; go_simp; try with_reducible rfl)
          · (go_simp; try with_reducible rfl)
          refine held_take (i := 4) (v := ?_) (a' := ?_) rfl (by kernel_rfl) (by kernel_rfl) (by kernel_rfl) (fun _ _ _ h => h) (by rfl) trivial ?_ ?_ ?_
          rotate_left 2
          · (intro w hS; go_simp; try with_reducible rfl)
          · (go_simp; try with_reducible rfl)
          refine held_take (i := 5) (v := ?_) (a' := ?_) rfl (by kernel_rfl) (by kernel_rfl) (by kernel_rfl) (fun _ _ _ h => h) (by rfl) trivial ?_ ?_ ?_
          rotate_left 2
          · (intro w hS; go_simp; try with_reducible rfl)
          · (go_simp; try with_reducible rfl)
          refine held_take (i := 6) (v := ?_) (a' := ?_) rfl (by kernel_rfl) (by kernel_rfl) (by kernel_rfl) (fun _ _ _ h => h) (by rfl) trivial ?_ ?_ ?_
          rotate_left 2
          · (intro w hS; go_simp; try with_reducible rfl)
          · (go_simp; try with_reducible rfl)
          refine held_take (i := 7) (v := ?_) (a' := ?_) rfl (by kernel_rfl) (by kernel_rfl) (by kernel_rfl) (fun _ _ _ h => h) (by rfl) trivial ?_ ?_ ?_
          rotate_left 2
          · (intro w hS; go_simp; try with_reducible rfl)
          · (go_simp; try with_reducible rfl)
          refine held_take (i := 8) (v := ?_) (a' := ?_) rfl (by kernel_rfl) (by kernel_rfl) (by kernel_rfl) (fun _ _ _ h => h) (by rfl) trivial ?_ ?_ ?_
          rotate_left 2
          · (intro w hS; go_simp; try with_reducible rfl)
          · (go_simp; try with_reducible rfl)
          refine held_take (i := 9) (v := ?_) (a' := ?_) rfl (by kernel_rfl) (by kernel_rfl) (by kernel_rfl) (fun _ _ _ h => h) (by rfl) trivial ?_ ?_ ?_
          rotate_left 2
          · (intro w hS; go_simp; try with_reducible rfl)
          · (go_simp; try with_reducible rfl)
          refine held_take (i := 10) (v := ?_) (a' := ?_) rfl (by kernel_rfl) (by kernel_rfl) (by kernel_rfl) (fun _ _ _ h => h) (by rfl) trivial ?_ ?_ ?_
          rotate_left 2
          · (intro w hS; go_simp; try with_reducible rfl)
          · (go_simp; try with_reducible rfl)
          refine held_take (i := 11) (v := ?_) (a' := ?_) rfl (by kernel_rfl) (by kernel_rfl) (by kernel_rfl) (fun _ _ _ h => h) (by rfl) trivial ?_ ?_ ?_
          rotate_left 2
          · (intro w hS; go_simp; try with_reducible rfl)
          · (go_simp; try with_reducible rfl)
          refine held_take (i := 12) (v := ?_) (a' := ?_) rfl (by kernel_rfl) (by kernel_rfl) (by kernel_rfl) (fun _ _ _ h => h) (by rfl) trivial ?_ ?_ ?_
          rotate_left 2
          · (intro w hS; go_simp; try with_reducible rfl)
          · (go_simp; try with_reducible rfl)
          refine held_take (i := 13) (v := ?_) (a' := ?_) rfl (by kernel_rfl) (by kernel_rfl) (by kernel_rfl) (fun _ _ _ h => h) (by rfl) trivial ?_ ?_ ?_
          rotate_left 2
          · (intro w hS; go_simp; try with_reducible rfl)
          · (go_simp; try with_reducible rfl)
          refine held_ready (rs := [14]) (by kernel_rfl) (by simp) ?_
          refine AllHeld.cons rfl (fun KR hKR => ?_) ?_
          · go_simp
            skip
            refine hKR _ _ trivial ?_
            clear hKR KR
            refine held_ready (rs := [15]) (by kernel_rfl) (by simp) ?_
            refine AllHeld.cons rfl (fun KR hKR => ?_) ?_
            · refine step_run_append (by rfl) (.tmp 68) (.tmp 82) (by rfl) (by rfl) (by rfl) RUN1.out ?_
              refine hKR _ _ trivial ?_
              clear hKR KR
              refine held_take (i := 16) (v := ?_) (a' := ?_) rfl (by kernel_rfl) (by kernel_rfl) (by kernel_rfl) (fun _ _ _ h => h) (by rfl) trivial ?_ ?_ ?_
              rotate_left 2
              · (intro w hS; go_simp; try with_reducible rfl)
              · (go_simp; try with_reducible rfl)
              refine wpAnyH_done (by kernel_rfl) ?_ _
              go_wp2_with fail
              go_meet
              case rel => exact ⟨rfl, rfl⟩
            exact AllHeld.nil
          exact AllHeld.nil
        case rest =>
          obtain ⟨rfl, rfl⟩ := hcut
          go_wp2_with fail
          go_roundw
          case rel => exact ⟨A1, k + 1, q1, N + 1, N + 1, m + 1, r + 1, _, rfl, by go_num, by go_num, by go_num, by go_num, by omega, by omega, by omega, by omega, by omega, Lib.hid (by rw [List.map_append]; exact HO3.out), Lib.hid (.inr ⟨by rw [LX.out], HDN.out, by rw [List.length_append]; simp only [List.length_cons, List.length_nil]; omega⟩), HB3.out⟩
          case measure => simp [intOf] <;> omega
    · obtain rfl : N = n + 1 := by omega
      have hsc : all = segsG x y z 0 0 0 (commons (pairsAt x y 0 0) (pairsAt x z 0 0)) ∧ all.length ≤ 2 * (n + 1) := by
        rcases HSC.out with h | ⟨_, h⟩
        · have := h.hn; have := LX.out; omega
        · exact h
      have hle' : ¬ ((n : Int) + 1 ≤ (n : Int)) := by omega
      have hkl : (all.map seg0).length = k := HO.out.1
      rw [List.length_map] at hkl
      have HKL := Lib.hid hkl
      have HSG := Lib.hid hsc.1
      have hkk : k ≤ 2002 := by omega
      have HSL := Lib.hid HO.out.sl
      have hfl := segs_flat x y z _ 0 0 0 (merge_rise x y z)
      rw [← HSG.out] at hfl
      have HLE := Lib.hid (fun (K : Nat) (s : Seg) (h : all[K]? = some s) => seg_le (List.mem_of_getElem? h))
      have HFB := Lib.hid (fun K => fold_base_le all K)
      rw [hfl.1, hfl.2.1, hfl.2.2, List.drop_zero, List.drop_zero, List.drop_zero, LX.out, LY.out, LZ.out] at HLE
      rw [hfl.1, List.drop_zero, LX.out] at HFB
      have HOK := Lib.hid (fun K => fold_ok (all.take K) [] partsOk_nil)
      clear hsc HSC hkl MV QA QB HT hfl
      go_wp2_with fail
      obtain ⟨wL, rfl⟩ : ∃ wo : World, wo = wr := ⟨_, rfl⟩
      go_loopw [19, 20] (fun vo si wq => ∃ (Ko mo co2 : Nat) (Oo : Option Addr), vo = .slice Oo mo co2 ∧ si = .int .i64 Ko ∧ Ko ≤ k ∧ mo ≤ Ko ∧ Hid (OwnPts wq wL.heap.size 79 Oo mo co2 ((all.take Ko).foldl pushG [])) ∧ Below wL.heap.size wL wq) (fun _ si _ => k - (intOf si).toNat)
      case atStart => exact ⟨0, 0, 0, none, rfl, rfl, Nat.zero_le _, Nat.zero_le _, Lib.hid (OwnPts.nil _ _ _), Below.refl _ _⟩
      case round =>
        obtain ⟨Ko, mo, co2, Oo, rfl, rfl, hKo, hmo, HO2, hbq⟩ := hrel
        by_cases hlt : Ko < k
        · obtain ⟨bb, off, z', x', y', t', A1, A2, A3, n1, n2, n3, c1, c2, c3, rfl, hbb, hx, hwf, p0, p1, p2, p3, hs1, hs2, hs3, -⟩ := pt_look HSL.out (by rw [List.length_map]; exact HKL.out) hlt
          rw [List.getElem?_map] at hx
          obtain ⟨s, hs⟩ : ∃ s, all[Ko]? = some s := by
            cases h : all[Ko]? with
            | none => rw [h] at hx; cases hx
            | some s => exact ⟨s, rfl⟩
          rw [hs] at hx
          simp only [Option.map_some, seg0, Option.some.injEq, Prod.mk.injEq] at hx
          obtain ⟨rfl, rfl, rfl, rfl⟩ := hx
          have hle3 := HLE.out Ko s hs
          have l1 := hs1.len
          have l2 := hs2.len
          have l3 := hs3.len
          have HFT := Lib.hid (fold_take hs)
          have p0 := (hbq.cell hbb).trans p0
          have p1 := (hbq.cell hbb).trans p1
          have p2 := (hbq.cell hbb).trans p2
          have p3 := (hbq.cell hbb).trans p3
          obtain ⟨sb, so, st⟩ := s
          simp only at hs1 hs2 hs3 hle3 l1 l2 l3
          have HS1 := Lib.hid hs1
          have HS2 := Lib.hid hs2
          have HS3 := Lib.hid hs3
          have hlt' : (Ko : Int) < (k : Int) := by omega
          have hk1 : IntKind.i64.wrap ((Ko : Int) + 1) = (Ko : Int) + 1 := IntWalk.i64_in _ (by omega)
          have u1 : IntKind.i64.wrap ((n1 : Int) + (n2 : Int)) = (n1 : Int) + (n2 : Int) := IntWalk.i64_in _ (by omega)
          have u2 : IntKind.i64.wrap ((n1 : Int) + (n2 : Int) + (n3 : Int)) = (n1 : Int) + (n2 : Int) + (n3 : Int) := IntWalk.i64_in _ (by omega)
          have u5 : IntKind.i64.wrap ((mo : Int) - 1) = (mo : Int) - 1 := IntWalk.i64_in _ (by omega)
          have HBQ := Lib.hid hbq
          clear hs hs1 hs2 hs3 hwf hbq
          by_cases hz : n1 + n2 + n3 = 0
          · have u3 : ((n1 : Int) + (n2 : Int) + (n3 : Int) == 0) = true := by rw [beq_iff_eq]; omega
            have u4 : (n1 : Int) + (n2 : Int) + (n3 : Int) = 0 := by omega
            have HP := Lib.hid (show pushG ((all.take Ko).foldl pushG []) (sb, so, st) = (all.take Ko).foldl pushG [] from pushG_empty (by omega))
            have HQ := Lib.hid (HO2.out.below ((Below.refl _ _).alloc (Nat.le_refl _) (.cells #[.int .i64 0, .slice A1 n1 c1, .slice A2 n2 c2, .slice A3 n3 c3] 79)))
            have HBN := Lib.hid (HBQ.out.alloc HBQ.out.size (.cells #[.int .i64 0, .slice A1 n1 c1, .slice A2 n2 c2, .slice A3 n3 c3] 79))
            clear u4 hz l1 l2 l3
            go_wp2_with fail
            go_roundw
            case rel => exact ⟨Ko + 1, mo, co2, Oo, rfl, by go_num, by omega, by omega, Lib.hid (by rw [HFT.out, HP.out]; exact HQ.out), HBN.out⟩
            case measure => simp [intOf]; omega
          · have u3 : ((n1 : Int) + (n2 : Int) + (n3 : Int) == 0) = false := by rw [beq_eq_false_iff_ne]; omega
            have u4 : decide ((n1 : Int) + (n2 : Int) + (n3 : Int) = 0) = false := by rw [decide_eq_false_iff_not]; omega
            have hbx : Below wr.heap.size wr (wr.alloc (.cells #[.int .i64 0, .slice A1 n1 c1, .slice A2 n2 c2, .slice A3 n3 c3] 79)) := (Below.refl _ _).alloc (Nat.le_refl _) _
            have hbk := Blk.new wr 79 #[.int .i64 0, .slice A1 n1 c1, .slice A2 n2 c2, .slice A3 n3 c3]
            have BX := Lib.hid hbx
            have BK := Lib.hid hbk
            have hmv := Moves.trans (HO2.out.moves HBQ.out (Nat.le_refl _)) (Moves.less wr (fun _ _ h => h))
            have hnz : ¬ sb.length + so.length + st.length = 0 := by omega
            have HNZ := Lib.hid hnz
            have HMV := Lib.hid hmv
            have KC := Lib.hid (refKind_any A1 A2 A3 n1 n2 n3 c1 c2 c3 sb so st (wr.alloc (.cells #[.int .i64 0, .slice A1 n1 c1, .slice A2 n2 c2, .slice A3 n3 c3] 79)) ((HS1.out.moves hmv).moves (.of_below hbx)).str ((HS2.out.moves hmv).moves (.of_below hbx)).str ((HS3.out.moves hmv).moves (.of_below hbx)).str (by omega) (by omega) (by omega))
            clear hbx hbk hmv hnz hz l1 l2 l3
            go_wp2_with fail
            refine KC.out.mono ?_
            rintro e w3 ⟨rfl, s3⟩
            obtain ⟨kd, hkd⟩ : ∃ kd, kd = kindG sb so st := ⟨_, rfl⟩
            rw [← hkd]
            have hkr := kindG_range sb so st
            rw [← hkd] at hkr
            have HKD := Lib.hid hkd
            have hwf : (Lit.int .i64 kd).wf = true := wf_kind hkr
            have hb3 := BK.out.same s3
            have z0 := hb3.cell 0
            have f0 := hb3.frozen 0
            have hbs : Below wr.heap.size wr (w3.setCell ⟨wr.heap.size, 0, none⟩ (.int .i64 kd)) := (BX.out.trans (s3.below _)).setCell (Nat.le_refl _) _
            have hb4 := hb3.set_ 0 (.int .i64 kd)
            have HB4 := Lib.hid hb4
            have HBS := Lib.hid hbs
            have HO4 := Lib.hid (HO2.out.below hbs)
            have HWR := Lib.hid (HBQ.out.trans (hbs.mono HBQ.out.size))
            clear hb3 hb4 hbs hkd s3
            have HT1 := Lib.hid ((HS1.out.moves HMV.out).moves (.of_below HBS.out))
            have HT2 := Lib.hid ((HS2.out.moves HMV.out).moves (.of_below HBS.out))
            have HT3 := Lib.hid ((HS3.out.moves HMV.out).moves (.of_below HBS.out))
            have HB4 := Lib.hid (show Blk (w3.setCell ⟨wr.heap.size, 0, none⟩ (.int .i64 kd)) wr.heap.size 79 #[.int .i64 kd, .slice A1 n1 c1, .slice A2 n2 c2, .slice A3 n3 c3] from by simpa using HB4.out)
            have e0 := HB4.out.cell 0
            have e1 := HB4.out.cell 1
            have e2 := HB4.out.cell 2
            have e3 := HB4.out.cell 3
            have hsz : (w3.setCell ⟨wr.heap.size, 0, none⟩ (.int .i64 kd)).heap.size = w3.heap.size := by simp
            have app : (kd ≠ 0 ∨ ∀ init p, (all.take Ko).foldl pushG [] = init ++ [p] → p.1 ≠ 0) → ∃ (A' : Option Addr) (c' : Nat) (w6 : World), Hid ((Builtin.append_ #[45, 45] 45 #[.slice Oo mo co2, .slice (some ⟨w3.heap.size, 0, none⟩) 1 1]).run Try.prog ((w3.setCell ⟨wr.heap.size, 0, none⟩ (.int .i64 kd)).alloc (.cells #[.int .i64 kd, .slice A1 n1 c1, .slice A2 n2 c2, .slice A3 n3 c3] 79)) = .ok (.slice A' (mo + 1) c') w6) ∧
                Hid (OwnPts w6 wL.heap.size 79 A' (mo + 1) c' ((all.take Ko).foldl pushG [] ++ [(kd, sb, so, st)])) ∧ Hid (Below wL.heap.size wL w6) ∧ Hid (pushG ((all.take Ko).foldl pushG []) (sb, so, st) = (all.take Ko).foldl pushG [] ++ [(kd, sb, so, st)]) := fun h => by
              obtain ⟨A', c', w6, run, ho6, hb6, -⟩ := HO4.out.app2 elemRefPart (z := kd) hwf HT1.out HT2.out HT3.out (by omega) HWR.out.size (g := w3.heap.size) hsz
              exact ⟨A', c', w6, Lib.hid run, Lib.hid ho6, Lib.hid (HWR.out.trans hb6), Lib.hid (by rw [pushG_new HNZ.out (by rw [← HKD.out]; exact h), ← HKD.out])⟩
            have APP := Lib.hid app
            clear app KC BX BK hsz HMV
            by_cases hk0 : kd = 0
            · rcases Nat.eq_zero_or_pos mo with hm0 | hm0
              · subst hm0
                obtain ⟨A', c', w6, RUN, HO6, HB6, HPN⟩ := APP.out (.inr (fun init p h => by have h1 := HO4.out.1; rw [h, List.length_append] at h1; simp at h1))
                subst hk0
                clear HO4 APP HNZ
                go_wp2_with (at_builtin; refine wpList_run_append RUN.out ?_ ?_ ?_; exact rfl; exact rfl)
                go_roundw
                case rel => exact ⟨Ko + 1, 0 + 1, c', A', rfl, by go_num, by omega, by omega, Lib.hid (by rw [HFT.out, HPN.out]; exact HO6.out), HB6.out⟩
                case measure => simp [intOf]; omega
              · obtain ⟨q, rfl⟩ : ∃ q, mo = q + 1 := ⟨mo - 1, by omega⟩
                have u6 : IntKind.i64.wrap ((q : Int) + 1 - 1) = (q : Int) := by rw [IntWalk.i64_in _ (by omega)]; omega
                have u7 : decide ((0 : Int) ≤ (q : Int)) = true := by rw [decide_eq_true_iff]; omega
                obtain ⟨bo, oo, zl, lb, lo, lt, D1, D2, D3, m1, m2, m3, d1, d2, d3, rfl, hbo, hxl, hwl, r0, r1, r2, r3, hl1, -, -, -⟩ := pt_look (i := q) HO4.out.sl HO4.out.1 (by omega)
                have hqq : (q : Int) < (q : Int) + 1 := by omega
                have hqc : (q : Int) + 1 ≤ (co2 : Int) := by have := HO4.out.room; omega
                by_cases hzl : zl = 0
                · subst hzl hk0
                  obtain ⟨init, hin, hiq⟩ := last_split HO4.out.1 hxl
                  have hkl := HOK.out Ko
                  have hmem : (0, lb, lo, lt) ∈ (all.take Ko).foldl pushG [] := List.mem_of_getElem? hxl
                  have hm1 := HFB.out Ko _ hmem
                  simp only at hm1
                  have hml := hl1.len
                  have hn1l := HT1.out.len
                  have hk1' := kindG_zero.1 (hkl.kind _ hmem).symm
                  have hk2' := kindG_zero.1 HKD.out.symm
                  simp only at hk1' hk2'
                  obtain ⟨rfl, rfl⟩ := hk1'
                  obtain ⟨rfl, rfl⟩ := hk2'
                  obtain ⟨hoL, vs, ho, he⟩ := HO4.out
                  obtain ⟨go, ego, hgo1, hgo2⟩ := own_at ho (by omega)
                  injection ego with ego
                  injection ego with ego1 ego2
                  subst ego1 ego2
                  simp only [Nat.zero_add] at r0 r1 r2 r3
                  have hsz : (w3.setCell ⟨wr.heap.size, 0, none⟩ (.int .i64 0)).heap.size = w3.heap.size := by simp
                  have HPJ := Lib.hid (pushG_join (ps := init) (lb := lt) (lo := lt) (lt := lt) HNZ.out HKD.out.symm)
                  have r1a := (World.cell?_alloc_lt _ (.cells #[] 9) ⟨bo, q * 4 + 1, none⟩ hbo).trans r1
                  have hw := own_made' (w := w3.setCell ⟨wr.heap.size, 0, none⟩ (.int .i64 0)) (e := 9) (sz := 1) (base := w3.heap.size) hsz (Nat.le_refl _)
                  have hba : Below w3.heap.size (w3.setCell ⟨wr.heap.size, 0, none⟩ (.int .i64 0)) ((w3.setCell ⟨wr.heap.size, 0, none⟩ (.int .i64 0)).alloc (.cells #[] 9)) := (Below.refl _ _).alloc (by omega) _
                  obtain ⟨L1, f1, w5, run1, hap1, -, -⟩ := append_sl (P := Try.prog) elemStr hw (hl1.str.alloc _) (strV_one _) (by omega) (by simp only [maxLen]; omega) (by rw [← hsz]; exact hba.size) 23 d1
                  have hb5 := hba.trans hap1.below
                  have hb5' : Below (w3.setCell ⟨wr.heap.size, 0, none⟩ (.int .i64 0)).heap.size (w3.setCell ⟨wr.heap.size, 0, none⟩ (.int .i64 0)) w5 := by rw [hsz]; exact hb5
                  obtain ⟨L2, f2, w6, run2, hap2, -, -⟩ := append_sl (P := Try.prog) elemStr hap1.own (HT1.out.str.below hb5') (strV_one _) (by omega) (by simp only [maxLen]; omega) (by rw [← hsz]; exact hb5.size) 23 c1
                  have hb6 := hb5.trans hap2.below
                  have hb6' : Below (w3.setCell ⟨wr.heap.size, 0, none⟩ (.int .i64 0)).heap.size (w3.setCell ⟨wr.heap.size, 0, none⟩ (.int .i64 0)) w6 := by rw [hsz]; exact hb6
                  have ho6 := own_below ho hb6'
                  have hop6 := HO4.out.below hb6'
                  rw [hin] at hop6
                  have hl6 := hap2.own
                  rw [List.nil_append, strV_append, Nat.zero_add] at hl6
                  have hst : StrAt w6 (own (.slice (some ⟨bo, 0, none⟩) (q + 1) co2)) L2 (m1 + n1) f2 (lt ++ st) := strAt_own hl6 (fun x hx1 hx2 => by have h1 := (own_in hl6 hx1).1; have h2 := (own_in ho hx2).2; omega)
                  have hfin := hop6.setLast hiq (z := 0) rfl hst hst hst
                  have HO7 := Lib.hid hfin
                  have HB7 := Lib.hid (((((HWR.out.trans (hb6'.mono HWR.out.size)).setCell (p := ⟨bo, q * 4, none⟩) hgo1 (.int .i64 0)).setCell (p := ⟨bo, q * 4 + 1, none⟩) hgo1 (.slice L2 (m1 + n1) f2)).setCell (p := ⟨bo, q * 4 + 2, none⟩) hgo1 (.slice L2 (m1 + n1) f2)).setCell (p := ⟨bo, q * 4 + 3, none⟩) hgo1 (.slice L2 (m1 + n1) f2))
                  have y0 := (hb6'.cell (p := ⟨bo, q * 4, none⟩) hbo).trans r0
                  have y1 := (hb6'.cell (p := ⟨bo, q * 4 + 1, none⟩) hbo).trans r1
                  have y2 := (hb6'.cell (p := ⟨bo, q * 4 + 2, none⟩) hbo).trans r2
                  have y3 := (hb6'.cell (p := ⟨bo, q * 4 + 3, none⟩) hbo).trans r3
                  have x0 := own_frozen ho6 (q * 4)
                  have x1 := own_frozen ho6 (q * 4 + 1)
                  have x2 := own_frozen ho6 (q * 4 + 2)
                  have x3 := own_frozen ho6 (q * 4 + 3)
                  have b5 := (HB4.out.below hb5' HB4.out.lt).cell 1
                  rw [Nat.zero_add] at run1 run2
                  have RUN1 := Lib.hid run1
                  have RUN2 := Lib.hid run2
                  have HIN := Lib.hid hin
                  clear hxl hl1 hkl hmem hw hba run1 run2 hap1 hap2 hb5 hb5' hb6 hb6' ho6 hop6 hl6 hst hfin ho he hoL HO4 APP HNZ hml hin
                  go_wp2_with (first | (at_builtin; refine wpList_run_append RUN1.out ?_ ?_ ?_; exact rfl; exact rfl) | (at_builtin; refine wpList_run_append RUN2.out ?_ ?_ ?_; exact rfl; exact rfl))
                  go_roundw
                  case rel => exact ⟨Ko + 1, q + 1, co2, some ⟨bo, 0, none⟩, rfl, by go_num, by omega, by omega, Lib.hid (by rw [HFT.out, HIN.out, HPJ.out]; exact HO7.out), HB7.out⟩
                  case measure => simp [intOf]; omega
                · have u8 : (zl == 0) = false := by simpa using hzl
                  obtain ⟨A', c', w6, RUN, HO6, HB6, HPN⟩ := APP.out (.inr (fun init p h => by
                    have h1 := HO4.out.1
                    rw [h] at hxl h1
                    rw [List.length_append] at h1
                    simp only [List.length_cons, List.length_nil] at h1
                    rw [List.getElem?_append_right (by omega), show q - init.length = 0 from by omega] at hxl
                    simp only [List.getElem?_cons_zero, Option.some.injEq] at hxl
                    rw [hxl]; exact hzl))
                  subst hk0
                  clear HO4 APP HNZ hxl hl1 hzl
                  go_wp2_with (at_builtin; refine wpList_run_append RUN.out ?_ ?_ ?_; exact rfl; exact rfl)
                  go_roundw
                  case rel => exact ⟨Ko + 1, q + 1 + 1, c', A', rfl, by go_num, by omega, by omega, Lib.hid (by rw [HFT.out, HPN.out]; exact HO6.out), HB6.out⟩
                  case measure => simp [intOf]; omega
            · have u8 : (kd == 0) = false := by simpa using hk0
              obtain ⟨A', c', w6, RUN, HO6, HB6, HPN⟩ := APP.out (.inl hk0)
              clear HO4 APP HNZ hk0
              go_wp2_with (at_builtin; refine wpList_run_append RUN.out ?_ ?_ ?_; exact rfl; exact rfl)
              go_roundw
              case rel => exact ⟨Ko + 1, mo + 1, c', A', rfl, by go_num, by omega, by omega, Lib.hid (by rw [HFT.out, HPN.out]; exact HO6.out), HB6.out⟩
              case measure => simp [intOf]; omega
        · obtain rfl : Ko = k := by omega
          have hps : all.take Ko = all := List.take_of_length_le (by rw [HKL.out]; exact Nat.le_refl _)
          have hfin := HO2.out
          rw [hps, HSG.out] at hfin
          have HFN := Lib.hid (show OwnPts wr wL.heap.size 79 Oo mo co2 (mergeG x y z) from hfin)
          have HBQ := Lib.hid hbq
          clear hps hfin hbq HO2
          go_wp2_with fail
          go_ret2
          exact ⟨Oo, mo, co2, rfl, HFN.out.mono (Nat.le_trans B2.out.size HBR.out.size), B2.out.trans ((HBR.out.trans (HBQ.out.mono HBR.out.size)).mono B2.out.size)⟩
end Go.Proofs.Ytbdlpigokahnoaa
