/- weave.Merge. -/
import Derived.Test.YtbdlpigokahnoaaWeaveFence
import Derived.Test.YtbdlpigokahnoaaWeaveInv
import Derived.Test.YtbdlpigokahnoaaLinesPairs
set_option linter.unusedVariables false
namespace Go.Proofs.Ytbdlpigokahnoaa
open Go.RowKit
attribute [local go_sem ↓] cutA_eq

def MergePost (T : TypeId) (W : World) (ps : List Pt) (e : Ending) (w' : World) : Prop :=
  ∃ P k c, e = .returned (.tuple #[.slice P k c, .int .i64 0]) ∧ OwnPts w' W.heap.size T P k c ps ∧ Below W.heap.size W w'

/-- a block made since w0 -/
def NewBlk (w0 : World) (g : Nat) (T : TypeId) (cs : Array Value) (w : World) : Prop := Below w0.heap.size w0 w ∧ Blk w g T cs ∧ w0.heap.size ≤ g
theorem newBlk {w0 w : World} (h : Below w0.heap.size w0 w) (T : TypeId) (cs : Array Value) : NewBlk w0 w.heap.size T cs (w.alloc (.cells cs T)) := ⟨h.alloc h.size _, Blk.new w T cs, h.size⟩
theorem NewBlk.alloc {w0 w : World} {g : Nat} {T : TypeId} {cs : Array Value} (h : NewBlk w0 g T cs w) (o : Obj) : NewBlk w0 g T cs (w.alloc o) := ⟨h.1.alloc h.1.size _, h.2.1.alloc _, h.2.2⟩
theorem NewBlk.set {w0 w : World} {g : Nat} {T : TypeId} {cs : Array Value} (h : NewBlk w0 g T cs w) (i : Nat) (u : Value) : NewBlk w0 g T (cs.setIfInBounds i u) (w.setCell ⟨g, i, none⟩ u) := ⟨h.1.setCell h.2.2 u, h.2.1.set_ i u, h.2.2⟩
theorem NewBlk.other {w0 w : World} {g g' : Nat} {T : TypeId} {cs : Array Value} (h : NewBlk w0 g T cs w) (hne : g ≠ g') (h' : w0.heap.size ≤ g') (i : Nat) (u : Value) : NewBlk w0 g T cs (w.setCell ⟨g', i, none⟩ u) := ⟨h.1.setCell h' u, (Below.heap_setCell w ⟨g', i, none⟩ u g hne).trans h.2.1, h.2.2⟩

theorem below_d0 (w : World) : Below w.heap.size w w.drew := Same.below ⟨1, rfl⟩ _
theorem below_d1 (w : World) (o : Obj) : Below w.heap.size w (w.alloc o).drew := (((Below.refl _ _).alloc (Nat.le_refl _) o).trans (Same.below ⟨1, rfl⟩ _))
theorem below_d2 (w : World) (o p : Obj) : Below w.heap.size w ((w.alloc o).alloc p).drew := ((((Below.refl _ _).alloc (Nat.le_refl _) o).alloc (by simp) p).trans (Same.below ⟨1, rfl⟩ _))
theorem two_blks (w : World) (T : TypeId) (a b : Array Value) : Blk ((w.alloc (.cells a T)).alloc (.cells b T)).drew w.heap.size T a ∧ Blk ((w.alloc (.cells a T)).alloc (.cells b T)).drew (w.heap.size + 1) T b ∧ w.heap.size ≤ w.heap.size ∧ w.heap.size ≤ w.heap.size + 1 ∧ Below w.heap.size w ((w.alloc (.cells a T)).alloc (.cells b T)).drew := by
  refine ⟨((Blk.new w T a).alloc (.cells b T)).same ⟨1, rfl⟩, ?_, Nat.le_refl _, Nat.le_succ _, below_d2 _ _ _⟩
  have := (Blk.new (w.alloc (.cells a T)) T b).same (w' := ((w.alloc (.cells a T)).alloc (.cells b T)).drew) ⟨1, rfl⟩
  simpa using this
theorem add_z (zi zj zk : Int) (G B0 i j k : Nat) (Z : Av) (b o t : List ByteArray) (ps : List Pt) (w : World) (h : LoomAt w B0 G Z b o t ps) (ei : zi = (i : Int)) (ej : zj = (j : Int)) (ek : zk = (k : Int)) (hi : i ≤ b.length) (hj : j ≤ o.length) (hk : k ≤ t.length) (hbl : b.length ≤ 100000000) (hol : o.length ≤ 100000000) (htl : t.length ≤ 100000000)
    (hpl : ps.length ≤ 100000000) (hps : ∀ p ∈ ps, p.2.1.length ≤ 100000000 ∧ p.2.2.1.length ≤ 100000000 ∧ p.2.2.2.length ≤ 100000000) :
    Calls Try.prog 30 #[.pointer (some ⟨G, 0, none⟩), .int .i64 zi, .int .i64 zj, .int .i64 zk] w fun e w' => e = .returned (.tuple #[]) ∧ LoomAt w' B0 G Z (b.drop i) (o.drop j) (t.drop k) (pushG ps (b.take i, o.take j, t.take k)) ∧ Below B0 w w' ∧ (∀ g, Z g → w'.heap[g]? = w.heap[g]?) := by
  subst ei ej ek
  exact add_any G B0 i j k Z b o t ps w h hi hj hk hbl hol htl hpl hps
theorem pairV_cons (p : Nat × Nat) (l : List (Nat × Nat)) : (pairV (p :: l)).drop (1 * 2) = pairV l := rfl
theorem pair_cut {w : World} {b off n c : Nat} {p : Nat × Nat} {l : List (Nat × Nat)} (h : Sl w 2 (some ⟨b, off, none⟩) n (pairV (p :: l))) (h1 : 1 ≤ n) (hc : n ≤ c) : Sl w 2 (if c = 1 then some ⟨b, off, none⟩ else some ⟨b, off + 2, none⟩) (n - 1) (pairV l) := by
  have := h.from (k := 1) h1 hc
  rw [pairV_cons] at this
  simpa [addr_add] using this
theorem head_is {α : Type} {l : List α} {a : α} (h : l[0]? = some a) : ∃ r, l = a :: r := by
  cases l with
  | nil => simp at h
  | cons b r => simp at h; exact ⟨r, by rw [h]⟩

set_option maxHeartbeats 4000000 in
set_option maxRecDepth 100000 in
theorem mergeW_any (A B C : Option Addr) (n ca m cb r cc : Nat) (x y z : List ByteArray) (w : World) (hx : Sl w 1 A n (strV x)) (hy : Sl w 1 B m (strV y)) (hz : Sl w 1 C r (strV z)) (hca : n ≤ ca) (hcb : m ≤ cb) (hcc : r ≤ cc) (hma : ca ≤ maxLen) (hmb : cb ≤ maxLen) (hmc : cc ≤ maxLen) (hn : n ≤ 1000) (hm : m ≤ 1000) (hr : r ≤ 1000) :
    Calls Try.prog 13 #[.slice A n ca, .slice B m cb, .slice C r cc] w (MergePost 38 w (mergeG x y z)) := by
  have hp1 : n * m ≤ 1048576 := Nat.le_trans (Nat.mul_le_mul hn hm) (by decide)
  have hp2 : n * r ≤ 1048576 := Nat.le_trans (Nat.mul_le_mul hn hr) (by decide)
  have hP := Lib.hid (MergeInv.start x y z)
  have c1 := Lib.hid (pairs_any A B n ca m cb x y w hx hy (by omega) (by omega) hp1)
  have hX := Lib.hid hx
  have hY := Lib.hid hy
  have hZ := Lib.hid hz
  clear hx hy hz hp1
  go_enter Try.func13, Try.ntmps13
  go_wp2_with fail
  refine c1.out.mono ?_
  rintro e w1 ⟨Aa, fa, rfl, oa, ca1, ca2, ba⟩
  have OA := Lib.hid oa
  have BA := Lib.hid ba
  clear oa ba
  have c2 := Lib.hid (pairs_any A C n ca r cc x z w1 (hX.out.below BA.out) (hZ.out.below BA.out) (by omega) (by omega) hp2)
  go_wp2_with fail
  refine c2.out.mono ?_
  rintro e w2 ⟨Ab, fb, rfl, ob, cb1, cb2, bb⟩
  have B2 := Lib.hid (BA.out.trans (bb.mono BA.out.size))
  have QA := Lib.hid (Sl.ofOwn (own_below OA.out bb))
  have QB := Lib.hid (Sl.ofOwn ob)
  have LS := Lib.hid (LoomAt.start (StrAt.old hX.out hca hma B2.out B2.out.size) (StrAt.old hY.out hcb hmb B2.out B2.out.size) (StrAt.old hZ.out hcc hmc B2.out B2.out.size))
  have la := pairsAt_le x y 0 0
  have lb := pairsAt_le x z 0 0
  have lx := hX.out.strLen
  have ly := hY.out.strLen
  have lz := hZ.out.strLen
  clear c1 c2 ob bb OA BA
  generalize pairsAt x y 0 0 = ga at *
  generalize pairsAt x z 0 0 = gb at *
  go_wp2_with fail
  go_loopw [8, 10, 12, 13, 14] (fun sa sb si sj sk wr => ∃ (Aa Ab : Option Addr) (na ca nb cb I J K : Nat) (la lb : List (Nat × Nat)) (ps : List Pt), sa = .slice Aa na ca ∧ sb = .slice Ab nb cb ∧ si = .int .i64 I ∧ sj = .int .i64 J ∧ sk = .int .i64 K ∧
    la.length = na ∧ lb.length = nb ∧ na ≤ 1000 ∧ nb ≤ 1000 ∧ na ≤ ca ∧ nb ≤ cb ∧ ca ≤ maxLen ∧ cb ≤ maxLen ∧ (∀ W, Below w2.heap.size wr W → Sl W 2 Aa na (pairV la)) ∧ (∀ W, Below w2.heap.size wr W → Sl W 2 Ab nb (pairV lb)) ∧
    Hid (MergeInv x y z I J K la lb ps) ∧ Hid (LoomAt wr w2.heap.size w2.heap.size (fun _ => False) (x.drop I) (y.drop J) (z.drop K) ps) ∧ Below w2.heap.size w2 wr) (fun sa sb _ _ _ _ => lenOf sa + lenOf sb)
  case atStart => exact ⟨Aa, Ab, _, fa, _, fb, 0, 0, 0, ga, gb, [], rfl, rfl, rfl, rfl, rfl, rfl, rfl, by omega, by omega, ca1, cb1, ca2, cb2, fun W h => QA.out.below (((Below.refl _ _).alloc (Nat.le_refl _) _).trans h), fun W h => QB.out.below (((Below.refl _ _).alloc (Nat.le_refl _) _).trans h), hP, LS, (Below.refl _ _).alloc (Nat.le_refl _) _⟩
  case round =>
    obtain ⟨Aa, Ab, na, ka, nb, kb, I, J, K, la, lb, ps, rfl, rfl, rfl, rfl, rfl, hla, hlb, hna, hnb, hka, hkb, hka2, hkb2, RA, RB, HI, HL, HB⟩ := hrel
    have HLA := Lib.hid hla
    have HLB := Lib.hid hlb
    have HRA := Lib.hid RA
    have HRB := Lib.hid RB
    have hbd := HI.out.bound
    clear hla hlb RA RB
    by_cases hab : na = 0 ∨ nb = 0
    · have hstop := Lib.hid (HI.out.stop (by rcases hab with h | h
                                             · left; exact List.eq_nil_of_length_eq_zero (by rw [HLA.out, h])
                                             · right; exact List.eq_nil_of_length_eq_zero (by rw [HLB.out, h])))
      obtain ⟨dx, hdx⟩ : ∃ d, d = x.drop I := ⟨_, rfl⟩
      obtain ⟨dy, hdy⟩ : ∃ d, d = y.drop J := ⟨_, rfl⟩
      obtain ⟨dz, hdz⟩ : ∃ d, d = z.drop K := ⟨_, rfl⟩
      have q1 : dx.length ≤ 1000 := by rw [hdx, List.length_drop]; omega
      have q2 : dy.length ≤ 1000 := by rw [hdy, List.length_drop]; omega
      have q3 : dz.length ≤ 1000 := by rw [hdz, List.length_drop]; omega
      rw [← hdx, ← hdy, ← hdz] at HL hstop
      clear hdx hdy hdz HRA HRB
      obtain ⟨L1, k1, L2, k2, L3, k3, g0, g1, g2⟩ := HL.out.lens
      by_cases h0 : na = 0
      · have d0 : decide (0 < na) = false := by simpa using h0
        have d1 : decide ((0 : Int) < (na : Int)) = false := by rw [decide_eq_false_iff_not]; omega
        clear hab h0
        go_wp2_with fail
        refine wp_region_late (S := fun w' => w'.cell? ⟨w2.heap.size, 0, none⟩ = some (.slice L1 dx.length k1) ∧ w'.cell? ⟨w2.heap.size, 1, none⟩ = some (.slice L2 dy.length k2) ∧ w'.cell? ⟨w2.heap.size, 2, none⟩ = some (.slice L3 dz.length k3)) (s := 16) (by kernel_rfl) ?_
        refine late_pure (i := 0) (v := ?_) (a' := ?_) rfl (by kernel_rfl) (by kernel_rfl) (by kernel_rfl) (by rfl) (fun _ _ _ h => h) (by rfl) (fun _ => ⟨g0, g1, g2⟩) ?_ ?_ ?_
        rotate_left 2
        · (intro w; go_simp; try with_reducible rfl)
        · (go_simp; try with_reducible rfl)
        refine late_pure (i := 1) (v := ?_) (a' := ?_) rfl (by kernel_rfl) (by kernel_rfl) (by kernel_rfl) (by rfl) (fun _ _ _ h => h) (by rfl) (fun _ => ⟨g0, g1, g2⟩) ?_ ?_ ?_
        rotate_left 2
        · (intro w; go_simp; try with_reducible rfl)
        · (go_simp; try with_reducible rfl)
        refine late_pure (i := 2) (v := ?_) (a' := ?_) rfl (by kernel_rfl) (by kernel_rfl) (by kernel_rfl) (by rfl) (fun _ _ _ h => h) (by rfl) (fun _ => ⟨g0, g1, g2⟩) ?_ ?_ ?_
        rotate_left 2
        · (intro w; go_simp; try with_reducible rfl)
        · (go_simp; try with_reducible rfl)
        refine late_pure (i := 3) (v := ?_) (a' := ?_) rfl (by kernel_rfl) (by kernel_rfl) (by kernel_rfl) (by rfl) (fun _ _ _ h => h) (by rfl) (fun _ => ⟨g0, g1, g2⟩) ?_ ?_ ?_
        rotate_left 2
        · (intro w; go_simp; try with_reducible rfl)
        · (go_simp; try with_reducible rfl)
        refine late_load (i := 4) (m := 5) (v := ?_) (a' := ?_) rfl (by kernel_rfl) (by kernel_rfl) (by kernel_rfl) (by kernel_rfl) (by rfl) (fun _ _ _ h => h) (by rfl) ⟨g0, g1, g2⟩ ?_ ?_ ?_
        rotate_left 2
        · (intro w hS; obtain ⟨t0, t1, t2⟩ := hS; go_simp; try with_reducible rfl)
        · (go_simp; try with_reducible rfl)
        refine late_pure (i := 5) (v := ?_) (a' := ?_) rfl (by kernel_rfl) (by kernel_rfl) (by kernel_rfl) (by rfl) (fun _ _ _ h => h) (by rfl) (fun _ => ⟨g0, g1, g2⟩) ?_ ?_ ?_
        rotate_left 2
        · (intro w; go_simp; try with_reducible rfl)
        · (go_simp; try with_reducible rfl)
        refine late_pure (i := 6) (v := ?_) (a' := ?_) rfl (by kernel_rfl) (by kernel_rfl) (by kernel_rfl) (by rfl) (fun _ _ _ h => h) (by rfl) (fun _ => ⟨g0, g1, g2⟩) ?_ ?_ ?_
        rotate_left 2
        · (intro w; go_simp; try with_reducible rfl)
        · (go_simp; try with_reducible rfl)
        refine late_pure (i := 7) (v := ?_) (a' := ?_) rfl (by kernel_rfl) (by kernel_rfl) (by kernel_rfl) (by rfl) (fun _ _ _ h => h) (by rfl) (fun _ => ⟨g0, g1, g2⟩) ?_ ?_ ?_
        rotate_left 2
        · (intro w; go_simp; try with_reducible rfl)
        · (go_simp; try with_reducible rfl)
        refine late_pure (i := 8) (v := ?_) (a' := ?_) rfl (by kernel_rfl) (by kernel_rfl) (by kernel_rfl) (by rfl) (fun _ _ _ h => h) (by rfl) (fun _ => ⟨g0, g1, g2⟩) ?_ ?_ ?_
        rotate_left 2
        · (intro w; go_simp; try with_reducible rfl)
        · (go_simp; try with_reducible rfl)
        refine late_load (i := 9) (m := 10) (v := ?_) (a' := ?_) rfl (by kernel_rfl) (by kernel_rfl) (by kernel_rfl) (by kernel_rfl) (by rfl) (fun _ _ _ h => h) (by rfl) ⟨g0, g1, g2⟩ ?_ ?_ ?_
        rotate_left 2
        · (intro w hS; obtain ⟨t0, t1, t2⟩ := hS; go_simp; try with_reducible rfl)
        · (go_simp; try with_reducible rfl)
        refine late_pure (i := 10) (v := ?_) (a' := ?_) rfl (by kernel_rfl) (by kernel_rfl) (by kernel_rfl) (by rfl) (fun _ _ _ h => h) (by rfl) (fun _ => ⟨g0, g1, g2⟩) ?_ ?_ ?_
        rotate_left 2
        · (intro w; go_simp; try with_reducible rfl)
        · (go_simp; try with_reducible rfl)
        refine late_pure (i := 11) (v := ?_) (a' := ?_) rfl (by kernel_rfl) (by kernel_rfl) (by kernel_rfl) (by rfl) (fun _ _ _ h => h) (by rfl) (fun _ => ⟨g0, g1, g2⟩) ?_ ?_ ?_
        rotate_left 2
        · (intro w; go_simp; try with_reducible rfl)
        · (go_simp; try with_reducible rfl)
        refine late_pure (i := 12) (v := ?_) (a' := ?_) rfl (by kernel_rfl) (by kernel_rfl) (by kernel_rfl) (by rfl) (fun _ _ _ h => h) (by rfl) (fun _ => ⟨g0, g1, g2⟩) ?_ ?_ ?_
        rotate_left 2
        · (intro w; go_simp; try with_reducible rfl)
        · (go_simp; try with_reducible rfl)
        refine late_pure (i := 13) (v := ?_) (a' := ?_) rfl (by kernel_rfl) (by kernel_rfl) (by kernel_rfl) (by rfl) (fun _ _ _ h => h) (by rfl) (fun _ => ⟨g0, g1, g2⟩) ?_ ?_ ?_
        rotate_left 2
        · (intro w; go_simp; try with_reducible rfl)
        · (go_simp; try with_reducible rfl)
        refine late_load (i := 14) (m := 15) (v := ?_) (a' := ?_) rfl (by kernel_rfl) (by kernel_rfl) (by kernel_rfl) (by kernel_rfl) (by rfl) (fun _ _ _ h => h) (by rfl) ⟨g0, g1, g2⟩ ?_ ?_ ?_
        rotate_left 2
        · (intro w hS; obtain ⟨t0, t1, t2⟩ := hS; go_simp; try with_reducible rfl)
        · (go_simp; try with_reducible rfl)
        refine late_pure (i := 15) (v := ?_) (a' := ?_) rfl (by kernel_rfl) (by kernel_rfl) (by kernel_rfl) (by rfl) (fun _ _ _ h => h) (by rfl) (fun _ => ⟨g0, g1, g2⟩) ?_ ?_ ?_
        rotate_left 2
        · (intro w; go_simp; try with_reducible rfl)
        · (go_simp; try with_reducible rfl)
        refine late_one (i := 16) (by kernel_rfl) rfl (fun KR hKR => ?_)
        go_simp
        refine (add_any w2.heap.size w2.heap.size dx.length dy.length dz.length (fun _ => False) dx dy dz ps _ (HL.out.fence (Same.below ⟨1, rfl⟩ _) (fun _ h => h.elim) (fun _ h => h.elim)) (Nat.le_refl _) (Nat.le_refl _) (Nat.le_refl _) (by omega) (by omega) (by omega) (by omega) (fun p hp => by have := hbd.2 p hp; omega)).mono ?_
        rintro e w5 ⟨rfl, hl5, hb5, -⟩
        rw [List.take_length, List.take_length, List.take_length, hstop.out] at hl5
        obtain ⟨P5, n5, c5, hc5, ho5⟩ := hl5.parts
        have HO5 := Lib.hid ho5
        have HB5 := Lib.hid hb5
        clear ho5 hb5 hl5
        refine hKR _ _ (fun h0 => Bool.noConfusion (show (true : Bool) = false from h0)) ?_
        clear hKR KR
        refine late_done' (by kernel_rfl) ?_ _
        go_wp2_with fail
        go_ret2
        exact ⟨P5, n5, c5, rfl, HO5.out.mono B2.out.size, B2.out.trans ((HB.mono B2.out.size).trans (((Same.below ⟨1, rfl⟩ _)).trans (HB5.out.mono B2.out.size)))⟩
      · have h1 : nb = 0 := by omega
        have d0 : decide (0 < na) = true := by rw [decide_eq_true_iff]; omega
        have d1 : decide ((0 : Int) < (na : Int)) = true := by rw [decide_eq_true_iff]; omega
        have d2 : decide (0 < nb) = false := by simpa using h1
        have d3 : decide ((0 : Int) < (nb : Int)) = false := by rw [decide_eq_false_iff_not]; omega
        clear hab h0 h1
        go_wp2_with fail
        refine wp_region_late (S := fun w' => w'.cell? ⟨w2.heap.size, 0, none⟩ = some (.slice L1 dx.length k1) ∧ w'.cell? ⟨w2.heap.size, 1, none⟩ = some (.slice L2 dy.length k2) ∧ w'.cell? ⟨w2.heap.size, 2, none⟩ = some (.slice L3 dz.length k3)) (s := 16) (by kernel_rfl) ?_
        refine late_pure (i := 0) (v := ?_) (a' := ?_) rfl (by kernel_rfl) (by kernel_rfl) (by kernel_rfl) (by rfl) (fun _ _ _ h => h) (by rfl) (fun _ => ⟨g0, g1, g2⟩) ?_ ?_ ?_
        rotate_left 2
        · (intro w; go_simp; try with_reducible rfl)
        · (go_simp; try with_reducible rfl)
        refine late_pure (i := 1) (v := ?_) (a' := ?_) rfl (by kernel_rfl) (by kernel_rfl) (by kernel_rfl) (by rfl) (fun _ _ _ h => h) (by rfl) (fun _ => ⟨g0, g1, g2⟩) ?_ ?_ ?_
        rotate_left 2
        · (intro w; go_simp; try with_reducible rfl)
        · (go_simp; try with_reducible rfl)
        refine late_pure (i := 2) (v := ?_) (a' := ?_) rfl (by kernel_rfl) (by kernel_rfl) (by kernel_rfl) (by rfl) (fun _ _ _ h => h) (by rfl) (fun _ => ⟨g0, g1, g2⟩) ?_ ?_ ?_
        rotate_left 2
        · (intro w; go_simp; try with_reducible rfl)
        · (go_simp; try with_reducible rfl)
        refine late_pure (i := 3) (v := ?_) (a' := ?_) rfl (by kernel_rfl) (by kernel_rfl) (by kernel_rfl) (by rfl) (fun _ _ _ h => h) (by rfl) (fun _ => ⟨g0, g1, g2⟩) ?_ ?_ ?_
        rotate_left 2
        · (intro w; go_simp; try with_reducible rfl)
        · (go_simp; try with_reducible rfl)
        refine late_load (i := 4) (m := 5) (v := ?_) (a' := ?_) rfl (by kernel_rfl) (by kernel_rfl) (by kernel_rfl) (by kernel_rfl) (by rfl) (fun _ _ _ h => h) (by rfl) ⟨g0, g1, g2⟩ ?_ ?_ ?_
        rotate_left 2
        · (intro w hS; obtain ⟨t0, t1, t2⟩ := hS; go_simp; try with_reducible rfl)
        · (go_simp; try with_reducible rfl)
        refine late_pure (i := 5) (v := ?_) (a' := ?_) rfl (by kernel_rfl) (by kernel_rfl) (by kernel_rfl) (by rfl) (fun _ _ _ h => h) (by rfl) (fun _ => ⟨g0, g1, g2⟩) ?_ ?_ ?_
        rotate_left 2
        · (intro w; go_simp; try with_reducible rfl)
        · (go_simp; try with_reducible rfl)
        refine late_pure (i := 6) (v := ?_) (a' := ?_) rfl (by kernel_rfl) (by kernel_rfl) (by kernel_rfl) (by rfl) (fun _ _ _ h => h) (by rfl) (fun _ => ⟨g0, g1, g2⟩) ?_ ?_ ?_
        rotate_left 2
        · (intro w; go_simp; try with_reducible rfl)
        · (go_simp; try with_reducible rfl)
        refine late_pure (i := 7) (v := ?_) (a' := ?_) rfl (by kernel_rfl) (by kernel_rfl) (by kernel_rfl) (by rfl) (fun _ _ _ h => h) (by rfl) (fun _ => ⟨g0, g1, g2⟩) ?_ ?_ ?_
        rotate_left 2
        · (intro w; go_simp; try with_reducible rfl)
        · (go_simp; try with_reducible rfl)
        refine late_pure (i := 8) (v := ?_) (a' := ?_) rfl (by kernel_rfl) (by kernel_rfl) (by kernel_rfl) (by rfl) (fun _ _ _ h => h) (by rfl) (fun _ => ⟨g0, g1, g2⟩) ?_ ?_ ?_
        rotate_left 2
        · (intro w; go_simp; try with_reducible rfl)
        · (go_simp; try with_reducible rfl)
        refine late_load (i := 9) (m := 10) (v := ?_) (a' := ?_) rfl (by kernel_rfl) (by kernel_rfl) (by kernel_rfl) (by kernel_rfl) (by rfl) (fun _ _ _ h => h) (by rfl) ⟨g0, g1, g2⟩ ?_ ?_ ?_
        rotate_left 2
        · (intro w hS; obtain ⟨t0, t1, t2⟩ := hS; go_simp; try with_reducible rfl)
        · (go_simp; try with_reducible rfl)
        refine late_pure (i := 10) (v := ?_) (a' := ?_) rfl (by kernel_rfl) (by kernel_rfl) (by kernel_rfl) (by rfl) (fun _ _ _ h => h) (by rfl) (fun _ => ⟨g0, g1, g2⟩) ?_ ?_ ?_
        rotate_left 2
        · (intro w; go_simp; try with_reducible rfl)
        · (go_simp; try with_reducible rfl)
        refine late_pure (i := 11) (v := ?_) (a' := ?_) rfl (by kernel_rfl) (by kernel_rfl) (by kernel_rfl) (by rfl) (fun _ _ _ h => h) (by rfl) (fun _ => ⟨g0, g1, g2⟩) ?_ ?_ ?_
        rotate_left 2
        · (intro w; go_simp; try with_reducible rfl)
        · (go_simp; try with_reducible rfl)
        refine late_pure (i := 12) (v := ?_) (a' := ?_) rfl (by kernel_rfl) (by kernel_rfl) (by kernel_rfl) (by rfl) (fun _ _ _ h => h) (by rfl) (fun _ => ⟨g0, g1, g2⟩) ?_ ?_ ?_
        rotate_left 2
        · (intro w; go_simp; try with_reducible rfl)
        · (go_simp; try with_reducible rfl)
        refine late_pure (i := 13) (v := ?_) (a' := ?_) rfl (by kernel_rfl) (by kernel_rfl) (by kernel_rfl) (by rfl) (fun _ _ _ h => h) (by rfl) (fun _ => ⟨g0, g1, g2⟩) ?_ ?_ ?_
        rotate_left 2
        · (intro w; go_simp; try with_reducible rfl)
        · (go_simp; try with_reducible rfl)
        refine late_load (i := 14) (m := 15) (v := ?_) (a' := ?_) rfl (by kernel_rfl) (by kernel_rfl) (by kernel_rfl) (by kernel_rfl) (by rfl) (fun _ _ _ h => h) (by rfl) ⟨g0, g1, g2⟩ ?_ ?_ ?_
        rotate_left 2
        · (intro w hS; obtain ⟨t0, t1, t2⟩ := hS; go_simp; try with_reducible rfl)
        · (go_simp; try with_reducible rfl)
        refine late_pure (i := 15) (v := ?_) (a' := ?_) rfl (by kernel_rfl) (by kernel_rfl) (by kernel_rfl) (by rfl) (fun _ _ _ h => h) (by rfl) (fun _ => ⟨g0, g1, g2⟩) ?_ ?_ ?_
        rotate_left 2
        · (intro w; go_simp; try with_reducible rfl)
        · (go_simp; try with_reducible rfl)
        refine late_one (i := 16) (by kernel_rfl) rfl (fun KR hKR => ?_)
        go_simp
        refine (add_any w2.heap.size w2.heap.size dx.length dy.length dz.length (fun _ => False) dx dy dz ps _ (HL.out.fence (Same.below ⟨1, rfl⟩ _) (fun _ h => h.elim) (fun _ h => h.elim)) (Nat.le_refl _) (Nat.le_refl _) (Nat.le_refl _) (by omega) (by omega) (by omega) (by omega) (fun p hp => by have := hbd.2 p hp; omega)).mono ?_
        rintro e w5 ⟨rfl, hl5, hb5, -⟩
        rw [List.take_length, List.take_length, List.take_length, hstop.out] at hl5
        obtain ⟨P5, n5, c5, hc5, ho5⟩ := hl5.parts
        have HO5 := Lib.hid ho5
        have HB5 := Lib.hid hb5
        clear ho5 hb5 hl5
        refine hKR _ _ (fun h0 => Bool.noConfusion (show (true : Bool) = false from h0)) ?_
        clear hKR KR
        refine late_done' (by kernel_rfl) ?_ _
        go_wp2_with fail
        go_ret2
        exact ⟨P5, n5, c5, rfl, HO5.out.mono B2.out.size, B2.out.trans ((HB.mono B2.out.size).trans (((Same.below ⟨1, rfl⟩ _)).trans (HB5.out.mono B2.out.size)))⟩
    · have ha0 : 0 < na := by omega
      have hb0 : 0 < nb := by omega
      obtain ⟨ba, fa', p1, p2, rfl, hba, hxa, pa0, pa1⟩ := pair_look (HRA.out wr (Below.refl _ _)) HLA.out ha0
      obtain ⟨bb, fb', q1, q2, rfl, hbb, hxb, qb0, qb1⟩ := pair_look (HRB.out wr (Below.refl _ _)) HLB.out hb0
      have d0 : decide (0 < na) = true := by rw [decide_eq_true_iff]; omega
      have d1 : decide ((0 : Int) < (na : Int)) = true := by rw [decide_eq_true_iff]; omega
      have d2 : decide (0 < nb) = true := by rw [decide_eq_true_iff]; omega
      have d3 : decide ((0 : Int) < (nb : Int)) = true := by rw [decide_eq_true_iff]; omega
      have l1 : (0 : Int) < (na : Int) := by omega
      have l2 : (0 : Int) < (nb : Int) := by omega
      rw [Nat.zero_mul, Nat.add_zero] at pa0 pa1 qb0 qb1
      go_upto_region 10 with fail
      go_cut [15, 16] (fun sx sy wx => ∃ gx gy : Nat, sx = .pointer (some ⟨gx, 0, none⟩) ∧ sy = .pointer (some ⟨gy, 0, none⟩) ∧ Blk wx gx 65 #[.int .i64 (p1 : Int), .int .i64 (p2 : Int)] ∧ Blk wx gy 65 #[.int .i64 (q1 : Int), .int .i64 (q2 : Int)] ∧ wr.heap.size ≤ gx ∧ wr.heap.size ≤ gy ∧ Below wr.heap.size wr wx)
      case first =>
        clear HI HL HRA HRB LS QA QB hP
        have hlta := hba
        refine wp_region_held (S := fun W => Below wr.heap.size wr W) (by kernel_rfl) ?_
        change wpAnyH _ _ _ _ _ _ _ _ (World.drew _)
        refine held_take (i := 0) (v := ?_) (a' := ?_) rfl (by kernel_rfl) (by kernel_rfl) (by kernel_rfl) (fun _ _ _ h => h) (by rfl) (Same.below ⟨1, rfl⟩ _) ?_ ?_ ?_
        rotate_left 2
        · (intro w hS; go_simp; try with_reducible rfl)
        · (go_simp; try with_reducible rfl)
        refine held_take (i := 1) (v := ?_) (a' := ?_) rfl (by kernel_rfl) (by kernel_rfl) (by kernel_rfl) (fun _ _ _ h => h) (by rfl) (Same.below ⟨1, rfl⟩ _) ?_ ?_ ?_
        rotate_left 2
        · (intro w hS; go_simp; try with_reducible rfl)
        · (go_simp; try with_reducible rfl)
        refine held_take (i := 2) (v := ?_) (a' := ?_) rfl (by kernel_rfl) (by kernel_rfl) (by kernel_rfl) (fun _ _ _ h => h) (by rfl) (Same.below ⟨1, rfl⟩ _) ?_ ?_ ?_
        rotate_left 2
        · (intro w hS; have t0 := (hS.cell (p := ⟨ba, fa', none⟩) hba).trans pa0; have t1 := (hS.cell (p := ⟨ba, fa' + 1, none⟩) hba).trans pa1; go_simp; try with_reducible rfl)
        · (go_simp; try with_reducible rfl)
        refine held_take (i := 3) (v := ?_) (a' := ?_) rfl (by kernel_rfl) (by kernel_rfl) (by kernel_rfl) (fun _ _ _ h => h) (by rfl) (Same.below ⟨1, rfl⟩ _) ?_ ?_ ?_
        rotate_left 2
        · (intro w hS; go_simp; try with_reducible rfl)
        · (go_simp; try with_reducible rfl)
        refine held_take (i := 4) (v := ?_) (a' := ?_) rfl (by kernel_rfl) (by kernel_rfl) (by kernel_rfl) (fun _ _ _ h => h) (by rfl) (Same.below ⟨1, rfl⟩ _) ?_ ?_ ?_
        rotate_left 2
        · (intro w hS; go_simp; try with_reducible rfl)
        · (go_simp; try with_reducible rfl)
        refine held_take (i := 5) (v := ?_) (a' := ?_) rfl (by kernel_rfl) (by kernel_rfl) (by kernel_rfl) (fun _ _ _ h => h) (by rfl) (Same.below ⟨1, rfl⟩ _) ?_ ?_ ?_
        rotate_left 2
        · (intro w hS; have t0 := (hS.cell (p := ⟨bb, fb', none⟩) hbb).trans qb0; have t1 := (hS.cell (p := ⟨bb, fb' + 1, none⟩) hbb).trans qb1; go_simp; try with_reducible rfl)
        · (go_simp; try with_reducible rfl)
        refine held_ready (rs := [6, 7]) (by kernel_rfl) (by simp) ?_
        refine AllHeld.cons rfl (fun KR hKR => ?_) ?_
        · go_simp
          skip
          refine hKR _ _ (by first | exact below_d0 _ | exact below_d1 _ _ | exact below_d2 _ _ _) ?_
          clear hKR KR
          refine held_ready (rs := [7]) (by kernel_rfl) (by simp) ?_
          refine AllHeld.cons rfl (fun KR hKR => ?_) ?_
          · go_simp
            skip
            refine hKR _ _ (by first | exact below_d0 _ | exact below_d1 _ _ | exact below_d2 _ _ _) ?_
            clear hKR KR
            refine held_ready (rs := [8]) (by kernel_rfl) (by simp) ?_
            refine AllHeld.cons rfl (fun KR hKR => ?_) ?_
            · go_simp
              skip
              refine hKR _ _ (by first | exact below_d0 _ | exact below_d1 _ _ | exact below_d2 _ _ _) ?_
              clear hKR KR
              refine held_ready (rs := [9]) (by kernel_rfl) (by simp) ?_
              refine AllHeld.cons rfl (fun KR hKR => ?_) ?_
              · go_simp
                skip
                refine hKR _ _ (by first | exact below_d0 _ | exact below_d1 _ _ | exact below_d2 _ _ _) ?_
                clear hKR KR
                refine wpAnyH_done (by kernel_rfl) ?_ _
                go_wp2_with fail
                go_meet
                case rel =>
                  have k1 := two_blks wr 65 #[.int .i64 (p1 : Int), .int .i64 (p2 : Int)] #[.int .i64 (q1 : Int), .int .i64 (q2 : Int)]
                  have k2 := two_blks wr 65 #[.int .i64 (q1 : Int), .int .i64 (q2 : Int)] #[.int .i64 (p1 : Int), .int .i64 (p2 : Int)]
                  first | exact ⟨_, _, rfl, rfl, k1.1, k1.2.1, k1.2.2.1, k1.2.2.2.1, k1.2.2.2.2⟩ | exact ⟨_, _, rfl, rfl, k2.2.1, k2.1, k2.2.2.2.1, k2.2.2.1, k2.2.2.2.2⟩
              exact AllHeld.nil
            exact AllHeld.nil
          exact AllHeld.nil
        refine AllHeld.cons rfl (fun KR hKR => ?_) ?_
        · go_simp
          skip
          refine hKR _ _ (by first | exact below_d0 _ | exact below_d1 _ _ | exact below_d2 _ _ _) ?_
          clear hKR KR
          refine held_ready (rs := [6]) (by kernel_rfl) (by simp) ?_
          refine AllHeld.cons rfl (fun KR hKR => ?_) ?_
          · go_simp
            skip
            refine hKR _ _ (by first | exact below_d0 _ | exact below_d1 _ _ | exact below_d2 _ _ _) ?_
            clear hKR KR
            refine held_ready (rs := [8]) (by kernel_rfl) (by simp) ?_
            refine AllHeld.cons rfl (fun KR hKR => ?_) ?_
            · go_simp
              skip
              refine hKR _ _ (by first | exact below_d0 _ | exact below_d1 _ _ | exact below_d2 _ _ _) ?_
              clear hKR KR
              refine held_ready (rs := [9]) (by kernel_rfl) (by simp) ?_
              refine AllHeld.cons rfl (fun KR hKR => ?_) ?_
              · go_simp
                skip
                refine hKR _ _ (by first | exact below_d0 _ | exact below_d1 _ _ | exact below_d2 _ _ _) ?_
                clear hKR KR
                refine wpAnyH_done (by kernel_rfl) ?_ _
                go_wp2_with fail
                go_meet
                case rel =>
                  have k1 := two_blks wr 65 #[.int .i64 (p1 : Int), .int .i64 (p2 : Int)] #[.int .i64 (q1 : Int), .int .i64 (q2 : Int)]
                  have k2 := two_blks wr 65 #[.int .i64 (q1 : Int), .int .i64 (q2 : Int)] #[.int .i64 (p1 : Int), .int .i64 (p2 : Int)]
                  first | exact ⟨_, _, rfl, rfl, k1.1, k1.2.1, k1.2.2.1, k1.2.2.2.1, k1.2.2.2.2⟩ | exact ⟨_, _, rfl, rfl, k2.2.1, k2.1, k2.2.2.2.1, k2.2.2.1, k2.2.2.2.2⟩
              exact AllHeld.nil
            exact AllHeld.nil
          exact AllHeld.nil
        exact AllHeld.nil
      case rest =>
        obtain ⟨gx, gy, rfl, rfl, hx1, hy1, hgx, hgy, hbw⟩ := hcut
        obtain ⟨la', rfl⟩ := head_is hxa
        obtain ⟨lb', rfl⟩ := head_is hxb
        have hd1 := HI.out.head.1 _ _ rfl
        have hd2 := HI.out.head.2 _ _ rfl
        have ela : la'.length + 1 = na := HLA.out
        have elb : lb'.length + 1 = nb := HLB.out
        have HELA := Lib.hid ela
        have HELB := Lib.hid elb
        have x0 := hx1.cell 0
        have x1 := hx1.cell 1
        have y0 := hy1.cell 0
        have y1 := hy1.cell 1
        dsimp only at x0 x1 y0 y1 hd1 hd2
        have HX1 := Lib.hid hx1
        have HY1 := Lib.hid hy1
        have HBW := Lib.hid hbw
        have HBR := Lib.hid HB
        have i1 : (1 : Int) ≤ (na : Int) := by omega
        have i2 : (na : Int) ≤ (ka : Int) := by omega
        have i3 : (1 : Int) ≤ (nb : Int) := by omega
        have i4 : (nb : Int) ≤ (kb : Int) := by omega
        clear hxa hxb hx1 hy1 hbw ela elb HLA HLB HB pa0 pa1 qb0 qb1 LS QA QB
        have hBw := Lib.hid (Nat.le_trans HBR.out.size HBW.out.size)
        rcases Nat.lt_trichotomy p1 q1 with hpq | hpq | hpq
        · have HI2 := Lib.hid (HI.out.lt hpq)
          have HL2 := Lib.hid (HL.out.fence HBW.out (Z' := fun _ => False) (fun _ h => h.elim) (fun _ h => h.elim))
          have t1 : ((p1 : Int) == (q1 : Int)) = false := by rw [beq_eq_false_iff_ne]; omega
          have t2 : decide ((p1 : Int) = (q1 : Int)) = false := by rw [decide_eq_false_iff_not]; omega
          have t3 : decide ((p1 : Int) ≤ (q1 : Int)) = true := by rw [decide_eq_true_iff]; omega
          have t4 : decide ((q1 : Int) ≤ (p1 : Int)) = false := by rw [decide_eq_false_iff_not]; omega
          have t5 : decide (p1 ≤ q1) = true := by rw [decide_eq_true_iff]; omega
          have t6 : decide (q1 ≤ p1) = false := by rw [decide_eq_false_iff_not]; omega
          have t7 : decide (p1 = q1) = false := by rw [decide_eq_false_iff_not]; omega
          clear hpq HI HL
          have HWW := Lib.hid (HBW.out.mono HBR.out.size)
          go_wp2_with fail
          go_roundw
          case rel =>
            have ela := HELA.out
            have elb := HELB.out
            exact ⟨_, _, na - 1, ka - 1, nb, kb, I, J, K, la', (q1, q2) :: lb', ps, rfl, rfl, rfl, rfl, rfl, by omega, by rw [List.length_cons]; omega, by omega, hnb, by omega, hkb, by omega, hkb2,
              fun W h => pair_cut (HRA.out W (HWW.out.trans h)) (by omega) hka, fun W h => HRB.out W (HWW.out.trans h), HI2, HL2, HBR.out.trans HWW.out⟩
          case measure => simp [lenOf]; omega
        · subst hpq
          obtain ⟨e1, e2, e3, e4, e5, e6, e7⟩ := HI.out.eq rfl
          dsimp only at e1 e2 e3 e4 e5 e6
          have HI2 := Lib.hid e7
          have HMD := Lib.hid (HI.out.mid (a := p1 - I) (b := p2 - J) (c := q2 - K) (by omega) (by omega) (by omega))
          have HL2 := Lib.hid (HL.out.fence HBW.out (Z' := fun g => g = gx ∨ g = gy) (fun g h => by rcases h with rfl | rfl <;> assumption) (fun g h => by
            rcases h with rfl | rfl
            · exact HX1.out.lt
            · exact HY1.out.lt))
          have HWW := Lib.hid (HBW.out.mono HBR.out.size)
          have ex : (x.drop I).drop (p1 - I) = x.drop p1 := by rw [List.drop_drop]; congr 1; omega
          have ey : (y.drop J).drop (p2 - J) = y.drop p2 := by rw [List.drop_drop]; congr 1; omega
          have ez : (z.drop K).drop (q2 - K) = z.drop q2 := by rw [List.drop_drop]; congr 1; omega
          have EX := Lib.hid ex
          have EY := Lib.hid ey
          have EZ := Lib.hid ez
          have s1 : IntKind.i64.wrap ((p1 : Int) + 1) = (p1 : Int) + 1 := IntWalk.i64_in _ (by omega)
          have s2 : IntKind.i64.wrap ((p2 : Int) + 1) = (p2 : Int) + 1 := IntWalk.i64_in _ (by omega)
          have s3 : IntKind.i64.wrap ((q2 : Int) + 1) = (q2 : Int) + 1 := IntWalk.i64_in _ (by omega)
          have s4 : IntKind.i64.wrap ((p1 : Int) - (I : Int)) = (p1 : Int) - (I : Int) := IntWalk.i64_in _ (by omega)
          have s5 : IntKind.i64.wrap ((p2 : Int) - (J : Int)) = (p2 : Int) - (J : Int) := IntWalk.i64_in _ (by omega)
          have s6 : IntKind.i64.wrap ((q2 : Int) - (K : Int)) = (q2 : Int) - (K : Int) := IntWalk.i64_in _ (by omega)
          clear HI HL ex ey ez e7
          go_wp2_with fail
          refine (add_z _ _ _ w2.heap.size w2.heap.size (p1 - I) (p2 - J) (q2 - K) _ (x.drop I) (y.drop J) (z.drop K) ps _ HL2.out (by omega) (by omega) (by omega) (by rw [List.length_drop]; omega) (by rw [List.length_drop]; omega) (by rw [List.length_drop]; omega) (by rw [List.length_drop]; omega) (by rw [List.length_drop]; omega) (by rw [List.length_drop]; omega) (by omega) (fun p hp => by have := hbd.2 p hp; omega)).mono ?_
          rintro e w5 ⟨rfl, hl5, hb5, hz5⟩
          rw [EX.out, EY.out, EZ.out] at hl5
          have HX5 := Lib.hid (show Blk w5 gx 65 #[.int .i64 (p1 : Int), .int .i64 (p2 : Int)] from (hz5 gx (.inl rfl)).trans HX1.out)
          have HY5 := Lib.hid (show Blk w5 gy 65 #[.int .i64 (p1 : Int), .int .i64 (q2 : Int)] from (hz5 gy (.inr rfl)).trans HY1.out)
          have HL5 := Lib.hid hl5
          have HB5 := Lib.hid hb5
          clear hl5 hb5 hz5 x0 x1 y0 y1 s4 s5 s6
          go_wp2_with fail
          refine (add_z _ _ _ w2.heap.size w2.heap.size 1 1 1 _ (x.drop p1) (y.drop p2) (z.drop q2) _ _ HL5.out rfl rfl rfl (by rw [List.length_drop]; omega) (by rw [List.length_drop]; omega) (by rw [List.length_drop]; omega) (by rw [List.length_drop]; omega) (by rw [List.length_drop]; omega) (by rw [List.length_drop]; omega) (by have := HMD.out.1; omega) (fun p hp => by have := HMD.out.2 p hp; omega)).mono ?_
          rintro e w6 ⟨rfl, hl6, hb6, hz6⟩
          rw [List.drop_drop, List.drop_drop, List.drop_drop] at hl6
          have HX6 := Lib.hid (show Blk w6 gx 65 #[.int .i64 (p1 : Int), .int .i64 (p2 : Int)] from (hz6 gx (.inl rfl)).trans HX5.out)
          have HY6 := Lib.hid (show Blk w6 gy 65 #[.int .i64 (p1 : Int), .int .i64 (q2 : Int)] from (hz6 gy (.inr rfl)).trans HY5.out)
          have HL6 := Lib.hid hl6
          have HB6 := Lib.hid (HWW.out.trans (HB5.out.trans hb6))
          have x0 := HX6.out.cell 0
          have x1 := HX6.out.cell 1
          have y0 := HY6.out.cell 0
          have y1 := HY6.out.cell 1
          clear hl6 hb6 hz6
          go_wp2_with fail
          go_quiet (fail)
          go_wp2_with fail
          have HWN := Lib.hid (HB6.out.trans (Same.below (w := w6) (w' := w6.drewN nq) ⟨nq, rfl⟩ _))
          go_roundw
          case rel =>
            have ela := HELA.out
            have elb := HELB.out
            exact ⟨_, _, na - 1, ka - 1, nb - 1, kb - 1, p1 + 1, p2 + 1, q2 + 1, la', lb', _, rfl, rfl, by go_num, by go_num, by go_num, by omega, by omega, by omega, by omega, by omega, by omega, by omega, by omega,
              fun W h => pair_cut (HRA.out W (HWN.out.trans h)) (by omega) hka, fun W h => pair_cut (HRB.out W (HWN.out.trans h)) (by omega) hkb, HI2,
              Lib.hid (HL6.out.fence (Same.below ⟨nq, rfl⟩ _) (fun _ h => h.elim) (fun _ h => h.elim)), HBR.out.trans HWN.out⟩
          case measure => simp [lenOf]; omega
        · have HI2 := Lib.hid (HI.out.gt hpq)
          have HL2 := Lib.hid (HL.out.fence HBW.out (Z' := fun _ => False) (fun _ h => h.elim) (fun _ h => h.elim))
          have t1 : ((p1 : Int) == (q1 : Int)) = false := by rw [beq_eq_false_iff_ne]; omega
          have t2 : decide ((p1 : Int) = (q1 : Int)) = false := by rw [decide_eq_false_iff_not]; omega
          have t3 : decide ((p1 : Int) ≤ (q1 : Int)) = false := by rw [decide_eq_false_iff_not]; omega
          have t4 : decide ((q1 : Int) ≤ (p1 : Int)) = true := by rw [decide_eq_true_iff]; omega
          have t5 : decide (p1 ≤ q1) = false := by rw [decide_eq_false_iff_not]; omega
          have t6 : decide (q1 ≤ p1) = true := by rw [decide_eq_true_iff]; omega
          have t7 : decide (p1 = q1) = false := by rw [decide_eq_false_iff_not]; omega
          clear hpq HI HL
          have HWW := Lib.hid (HBW.out.mono HBR.out.size)
          go_wp2_with fail
          go_roundw
          case rel =>
            have ela := HELA.out
            have elb := HELB.out
            exact ⟨_, _, na, ka, nb - 1, kb - 1, I, J, K, (p1, p2) :: la', lb', ps, rfl, rfl, rfl, rfl, rfl, by rw [List.length_cons]; omega, by omega, hna, by omega, hka, by omega, hka2, by omega,
              fun W h => HRA.out W (HWW.out.trans h), fun W h => pair_cut (HRB.out W (HWW.out.trans h)) (by omega) hkb, HI2, HL2, HBR.out.trans HWW.out⟩
          case measure => simp [lenOf]; omega
end Go.Proofs.Ytbdlpigokahnoaa
