/- The parts' row beside the loom: a part put behind, or joined to the last one. -/
import Derived.Test.YtbdlpigokahnoaaWeaveLoom
set_option linter.unusedVariables false
namespace Go.Proofs.Ytbdlpigokahnoaa
open Go.RowKit

def av4 (G : Nat) (vP v1 v2 v3 : Value) : Av := fun x => x = G ∨ own vP x ∨ own v1 x ∨ own v2 x ∨ own v3 x

structure Lot (w : World) (B0 G : Nat) (Z : Av) (vP v1 v2 v3 : Value) (np m1 m2 m3 : Nat) (init : List Pt) (k : Int) (lb lo lt : List ByteArray) : Prop where
  len : init.length + 1 = np
  row : ∃ vs, w.ownsRow B0 38 4 vP np (vs ++ [.int .i64 k, v1, v2, v3]) ∧ Each (ptR.R w (av4 G vP v1 v2 v3)) vs init
  wf : (Lit.int .i64 k).wf = true
  r1 : w.ownsRow B0 9 1 v1 m1 (strV lb)
  r2 : w.ownsRow B0 9 1 v2 m2 (strV lo)
  r3 : w.ownsRow B0 9 1 v3 m3 (strV lt)
  gP : ¬ own vP G
  g1 : ¬ own v1 G
  g2 : ¬ own v2 G
  g3 : ¬ own v3 G
  dP1 : Dis vP v1
  dP2 : Dis vP v2
  dP3 : Dis vP v3
  d12 : Dis v1 v2
  d13 : Dis v1 v3
  d23 : Dis v2 v3
  zP : ∀ x, own vP x → ¬ Z x
  z1 : ∀ x, own v1 x → ¬ Z x
  z2 : ∀ x, own v2 x → ¬ Z x
  z3 : ∀ x, own v3 x → ¬ Z x

/-- the blocks Z are none of the parts' rows -/
def PartsAt (w : World) (B0 G : Nat) (Z : Av) (vP : Value) (np : Nat) (ps : List Pt) : Prop :=
  (ps = [] ∧ vP = .slice none 0 0 ∧ np = 0) ∨ ∃ v1 v2 v3 m1 m2 m3 init k lb lo lt, ps = init ++ [(k, lb, lo, lt)] ∧ Lot w B0 G Z vP v1 v2 v3 np m1 m2 m3 init k lb lo lt

theorem strAt_own {w : World} {base : Nat} {A : Option Addr} {n c : Nat} {l : List ByteArray} {av : Av} (h : w.ownsRow base 9 1 (.slice A n c) n (strV l)) (hav : ∀ x, own (.slice A n c) x → ¬ av x) : StrAt w av A n c l := by
  have hr := own_cap h
  have hs := Sl.ofOwn h
  have hl := hs.strLen
  refine ⟨hl, hr.1, hr.2, ⟨strV l, by rw [hl]; exact hs, each_str_mk l, fun h0 b off e => hav b (by rw [e]; rfl)⟩⟩

theorem PartsAt.row {w : World} {B0 G : Nat} {Z : Av} {vP : Value} {np : Nat} {ps : List Pt} (h : PartsAt w B0 G Z vP np ps) : ∃ vs, w.ownsRow B0 38 4 vP np vs ∧ ¬ own vP G ∧ ps.length = np ∧ (∀ x, own vP x → ¬ Z x) ∧
    ∀ av' : Av, (∀ x, x < w.heap.size → av' x → x = G ∨ own vP x) → Each (ptR.R w av') vs ps := by
  rcases h with ⟨rfl, rfl, rfl⟩ | ⟨v1, v2, v3, m1, m2, m3, init, k, lb, lo, lt, rfl, h⟩
  · exact ⟨[], World.ownsRow_nil _ _ _ _, (fun e => by cases e), rfl, (fun x e => by cases e), fun _ _ => .nil⟩
  · obtain ⟨vs, ho, he⟩ := h.row
    refine ⟨_, ho, h.gP, by simpa using h.len, h.zP, fun av' hav => ?_⟩
    refine Each.snoc (he.mono fun _ _ hr => ptR.stable hr (.less w fun b hb hx => ?_)) ?_
    · rcases hav b hb hx with e | e
      · exact .inl e
      · exact .inr (.inl e)
    · obtain ⟨A1, c1, rfl, _⟩ := own_form h.r1
      obtain ⟨A2, c2, rfl, _⟩ := own_form h.r2
      obtain ⟨A3, c3, rfl, _⟩ := own_form h.r3
      have key : ∀ {v : Value} {m : Nat} {l : List ByteArray}, w.ownsRow B0 9 1 v m (strV l) → ¬ own v G → Dis vP v → ∀ x, own v x → ¬ av' x := fun {v m l} ho hG hd x hx hav2 => by
        rcases hav x (own_in ho hx).2 hav2 with e | e
        · subst e; exact hG hx
        · exact hd x e hx
      exact pt_mk h.wf (strAt_own h.r1 (key h.r1 h.g1 h.dP1)) (strAt_own h.r2 (key h.r2 h.g2 h.dP2)) (strAt_own h.r3 (key h.r3 h.g3 h.dP3))

theorem PartsAt.pts {w : World} {B0 G : Nat} {Z : Av} {P : Option Addr} {np cp : Nat} {ps : List Pt} (h : PartsAt w B0 G Z (.slice P np cp) np ps) : OwnPts w B0 38 P np cp ps := by
  obtain ⟨vs, ho, _, hl, _, he⟩ := h.row
  exact ⟨hl, vs, ho, he _ fun x _ hx => .inr hx⟩

theorem World.grownBy.below {w w' : World} {row : Option Nat} (h : w.grownBy w' row) {B : Nat} (hB : B ≤ w.heap.size) (hr : ∀ g, row = some g → B ≤ g) : Below B w w' := (Below.refl B w).grown h hB hr

/-- a new part behind the others -/
theorem PartsAt.push {w0 w : World} {B0 G : Nat} {Z : Av} {P : Option Addr} {np cp : Nat} {ps : List Pt} (h : PartsAt w0 B0 G Z (.slice P np cp) np ps) (hZG : ¬ Z G) (hZ : ∀ x, Z x → x < w0.heap.size) (hB : B0 ≤ w0.heap.size) (hBG : B0 ≤ G) {cs : Array Value} {g8 : Nat} {k : Int} {v1 v2 v3 : Value} {m1 m2 m3 : Nat} {x y z : List ByteArray}
    (hm : Mid w0 G cs g8 k v1 v2 v3 m1 m2 m3 x y z w) (hwf : (Lit.int .i64 k).wf = true) (hn : np + 1 ≤ 1000000000) {g : Nat} (hg : w.heap.size = g) :
    ∃ A' c' w', (Builtin.append_ #[25, 25] 25 #[.slice P np cp, .slice (some ⟨g, 0, none⟩) 1 1]).run Try.prog (w.alloc (.cells #[.int .i64 k, v1, v2, v3] 38)) = .ok (.slice A' (np + 1) c') w' ∧
      Blk w' G 64 cs ∧ Blk w' g8 38 #[.int .i64 k, v1, v2, v3] ∧
      PartsAt (w'.setCell ⟨G, 3, none⟩ (.slice A' (np + 1) c')) B0 G Z (.slice A' (np + 1) c') (np + 1) (ps ++ [(k, x, y, z)]) ∧ Blk (w'.setCell ⟨G, 3, none⟩ (.slice A' (np + 1) c')) G 64 (cs.setIfInBounds 3 (.slice A' (np + 1) c')) ∧ Below B0 w0 (w'.setCell ⟨G, 3, none⟩ (.slice A' (np + 1) c')) ∧ (∀ g, Z g → (w'.setCell ⟨G, 3, none⟩ (.slice A' (np + 1) c')).heap[g]? = w0.heap[g]?) := by
  subst hg
  obtain ⟨vs, ho, hPG, hl, hzP, he⟩ := h.row
  have hb0 : Below w.heap.size w (w.alloc (.cells #[.int .i64 k, v1, v2, v3] 38)) := (Below.refl _ _).alloc (Nat.le_refl _) _
  obtain ⟨A1, c1, rfl, _⟩ := own_form hm.r1
  obtain ⟨A2, c2, rfl, _⟩ := own_form hm.r2
  obtain ⟨A3, c3, rfl, _⟩ := own_form hm.r3
  have hs := Sl.fresh w #[.int .i64 k, .slice A1 m1 c1, .slice A2 m2 c2, .slice A3 m3 c3] 38 (0, 0) 1 4 rfl
  have ho1 := own_keep hm.gr ho hPG
  obtain ⟨A', c', w', hrun, hap, r1, r2⟩ := append_sl (P := Try.prog) elemPart (own_below ho1 hb0) hs (by intro u hu; simp at hu; rcases hu with rfl | rfl | rfl | rfl <;> rfl) (by omega) (by simp only [maxLen]; omega) (by have := hm.gr.size; simp; omega) 25 1
  have hGw : G < w.heap.size := hm.blk.lt
  have hblk1 := hm.blk.below hb0 hGw
  have hP'G := ban_app hPG hap (g := G) (by simp; omega)
  have hblk2 := hblk1.grown hap.grown (fun e => hPG e.symm)
  have hset : w'.grownBy (w'.setCell ⟨G, 3, none⟩ (.slice A' (np + 1) c')) (some G) := grown_set (World.grownBy.refl _ _) 3 _
  have hrow2 := own_keep hset hap.own hP'G
  -- the part's own rows
  have keep : ∀ {v : Value} {m : Nat} {l : List ByteArray}, w.ownsRow w0.heap.size 9 1 v m (strV l) → (w'.setCell ⟨G, 3, none⟩ (.slice A' (np + 1) c')).ownsRow B0 9 1 v m (strV l) ∧ ¬ own v G ∧ Dis (.slice A' (np + 1) c') v := fun {v m l} ho3 => by
    have hvG : ¬ own v G := fun e => by have := (own_in ho3 e).1; have := hm.hG; omega
    have hd : Dis (.slice P np cp) v := Dis.new ho ho3 (Nat.le_refl _)
    have q1 := own_below ho3 hb0
    have q2 := own_far hap.grown q1 hd
    exact ⟨own_mono (own_keep hset q2 hvG) hB, hvG, (Dis.app hd.symm hap q1).symm⟩
  obtain ⟨k1, k2, k3⟩ := keep hm.r1
  obtain ⟨l1, l2, l3⟩ := keep hm.r2
  obtain ⟨n1, n2, n3⟩ := keep hm.r3
  have fr : ∀ {v : Value} {m : Nat} {l : List ByteArray}, w.ownsRow w0.heap.size 9 1 v m (strV l) → ∀ x, own v x → ¬ Z x := fun {v m l} ho3 x hx hz => by have := (own_in ho3 hx).1; have := hZ x hz; omega
  refine ⟨A', c', w', hrun, hblk2, (hm.p.alloc _).grown hap.grown (fun e => by have := (own_in ho e.symm).2; have := hm.hp; omega), .inr ⟨_, _, _, m1, m2, m3, ps, k, x, y, z, rfl, ⟨by omega, ⟨vs, hrow2, ?_⟩, hwf, k1, l1, n1, hP'G, k2, l2, n2, k3, l3, n3, hm.d12, hm.d13, hm.d23, ?_, fr hm.r1, fr hm.r2, fr hm.r3⟩⟩, hblk2.set_ 3 _, ?_, ?_⟩
  · have fresh : ∀ {v : Value} {m : Nat} {l : List ByteArray}, w.ownsRow w0.heap.size 9 1 v m (strV l) → ∀ b, b < w0.heap.size → ¬ own v b := fun {v m l} ho3 b hb e => by have := (own_in ho3 e).1; omega
    have e0 := he (fun b => b = G ∨ own (.slice P np cp) b ∨ av4 G (.slice A' (np + 1) c') (.slice A1 m1 c1) (.slice A2 m2 c2) (.slice A3 m3 c3) b) (fun b hb hx => by
      rcases hx with e | e | e | e | e | e | e
      · exact .inl e
      · exact .inr e
      · exact .inl e
      · rcases hap.place with hp | hp
        · unfold own at e ⊢; rw [hp] at e; exact .inr e
        · unfold own at e; rw [hp] at e; injection e with e; have := hm.gr.size; simp at e; omega
      · exact absurd e (fresh hm.r1 b hb)
      · exact absurd e (fresh hm.r2 b hb)
      · exact absurd e (fresh hm.r3 b hb))
    refine e0.mono fun _ _ hr => ptR.stable hr ⟨?_, fun b hb hne => ?_, fun b hb hne hx => hne (.inr (.inr hx))⟩
    · have h1 := hm.gr.size; have h2 := hap.grown.size; have h3 := hset.size; simp at h2; omega
    · have hbG : some b ≠ some G := fun e => hne (.inl (by injection e))
      rw [hset.block b (by have h1 := hm.gr.size; have h2 := hap.grown.size; simp at h2; omega) hbG, hap.grown.block b (by have h1 := hm.gr.size; simp; omega) (fun e => hne (.inr (.inl e.symm))), hb0.block b (by have h1 := hm.gr.size; omega)]
      exact hm.gr.block b hb hbG
  · intro x hx hz
    rcases hap.place with hp | hp
    · exact hzP x (by unfold own at hx ⊢; rw [hp] at hx; exact hx) hz
    · unfold own at hx; rw [hp] at hx; injection hx with hx; have := hZ x hz; have := hm.gr.size; simp at hx; omega
  · have h1 := World.grownBy.below hm.gr hB (fun g e => by injection e with e; omega)
    have h2 := World.grownBy.below hset (B := B0) (by have h1 := hm.gr.size; have h2 := hap.grown.size; simp at h2; omega) (fun g e => by injection e with e; omega)
    exact ((h1.trans (hb0.mono (by have h1 := hm.gr.size; omega))).trans hap.below).trans h2
  · intro b hz
    have hb := hZ b hz
    have hbG : some b ≠ some G := fun e => hZG (by injection e with e; rw [← e]; exact hz)
    rw [hset.block b (by have h1 := hm.gr.size; have h2 := hap.grown.size; simp at h2; omega) hbG, hap.grown.block b (by have h1 := hm.gr.size; simp; omega) (fun e => hzP b e.symm hz), hb0.block b (by have h1 := hm.gr.size; omega)]
    exact hm.gr.block b hb hbG

/-- the last part's kind in memory -/
theorem Lot.kcell {w0 w : World} {B0 G : Nat} {Z : Av} {vP v1 v2 v3 : Value} {np m1 m2 m3 : Nat} {init : List Pt} {k : Int} {lb lo lt : List ByteArray} (h : Lot w0 B0 G Z vP v1 v2 v3 np m1 m2 m3 init k lb lo lt) (hg : w0.grownBy w (some G)) :
    ∃ gP cP, vP = .slice (some ⟨gP, 0, none⟩) np cP ∧ np ≤ cP ∧ gP < w0.heap.size ∧ gP ≠ G ∧ w.cell? ⟨gP, init.length * 4, none⟩ = some (.int .i64 k) := by
  obtain ⟨vs, hrow, heach⟩ := h.row
  obtain ⟨AP, cP, rfl, hcP, hcP2⟩ := own_form hrow
  have hnp : 0 < np := by have := h.len; omega
  obtain ⟨gP, rfl, hgP1, hgP2⟩ := own_at hrow hnp
  have hvs : vs.length = init.length * 4 := heach.length fun _ _ => ptR.len
  refine ⟨gP, cP, rfl, hcP, hgP2, fun e => h.gP (by subst e; rfl), ?_⟩
  obtain ⟨b, off, e, _, hc⟩ := (Sl.ofOwn (own_keep hg hrow h.gP)).2 hnp
  simp only [Option.some.injEq, Addr.mk.injEq] at e
  obtain ⟨e1, e2, _⟩ := e
  subst e1 e2
  have := hc (init.length * 4) (.int .i64 k) (by rw [List.getElem?_append_right (by omega), hvs, Nat.sub_self]; rfl)
  rwa [Nat.zero_add] at this

/-- the cells that add reads while it puts a part behind -/
def PushS (G g8 : Nat) (vP : Value) (k : Int) (v1 v2 v3 : Value) (w : World) : Prop :=
  w.cell? ⟨G, 3, none⟩ = some vP ∧ w.cell? ⟨g8, 0, none⟩ = some (.int .i64 k) ∧ w.cell? ⟨g8, 1, none⟩ = some v1 ∧ w.cell? ⟨g8, 2, none⟩ = some v2 ∧ w.cell? ⟨g8, 3, none⟩ = some v3
theorem pushS_of {G g8 : Nat} {vP : Value} {k : Int} {v1 v2 v3 a b c : Value} {w : World} (h1 : Blk w G 64 #[a, b, c, vP]) (h2 : Blk w g8 38 #[.int .i64 k, v1, v2, v3]) : PushS G g8 vP k v1 v2 v3 w :=
  ⟨(h1.cell 3).trans rfl, (h2.cell 0).trans rfl, (h2.cell 1).trans rfl, (h2.cell 2).trans rfl, (h2.cell 3).trans rfl⟩

theorem wf_kind {z : Int} (h : 0 ≤ z ∧ z ≤ 4) : (Lit.int .i64 z).wf = true := by
  obtain ⟨h1, h2⟩ := h
  have : z = 0 ∨ z = 1 ∨ z = 2 ∨ z = 3 ∨ z = 4 := by omega
  rcases this with rfl | rfl | rfl | rfl | rfl <;> decide

/-- does a part join the last one? -/
theorem PartsAt.split {w0 w : World} {B0 G g8 : Nat} {Z : Av} {P : Option Addr} {np cp : Nat} {ps : List Pt} (h : PartsAt w0 B0 G Z (.slice P np cp) np ps) (hg : w0.grownBy w (some G)) (h8 : w0.heap.size ≤ g8) {x y z : List ByteArray} {kd : Int} (hkd : kd = kindG x y z) (HN : ¬ x.length + y.length + z.length = 0) :
    (Hid (pushG ps (x, y, z) = ps ++ [(kd, x, y, z)]) ∧ ((kd == 0) = false ∨ (kd = 0 ∧ np = 0) ∨ (kd = 0 ∧ 0 < np ∧ ∃ gP kk, P = some ⟨gP, 0, none⟩ ∧ np ≤ cp ∧ gP ≠ G ∧ gP ≠ g8 ∧ w.cell? ⟨gP, (np - 1) * 4, none⟩ = some (.int .i64 kk) ∧ (kk == 0) = false))) ∨
      (kd = 0 ∧ 0 < np ∧ ∃ v1 v2 v3 m1 m2 m3 init lb lo lt, ps = init ++ [(0, lb, lo, lt)] ∧ Hid (Lot w0 B0 G Z (.slice P np cp) v1 v2 v3 np m1 m2 m3 init 0 lb lo lt)) := by
  by_cases hk : kd = 0
  · rcases h with ⟨rfl, _, rfl⟩ | ⟨v1, v2, v3, m1, m2, m3, init, kk, lb, lo, lt, rfl, hL⟩
    · exact .inl ⟨Lib.hid (by rw [hkd]; exact pushG_new HN (.inr fun init x e => by simp at e)), .inr (.inl ⟨hk, rfl⟩)⟩
    · have hnp : 0 < np := by have := hL.len; omega
      by_cases hkk : kk = 0
      · subst hkk
        exact .inr ⟨hk, hnp, v1, v2, v3, m1, m2, m3, init, lb, lo, lt, rfl, Lib.hid hL⟩
      · obtain ⟨gP, cP, hv, hc, hlt, hne, hcell⟩ := hL.kcell hg
        injection hv with hv1 hv2 hv3
        subst hv3
        have hil : init.length = np - 1 := by have := hL.len; omega
        rw [hil] at hcell
        exact .inl ⟨Lib.hid (by rw [hkd]; exact pushG_new HN (.inr fun init' x' e => by have e2 := List.append_inj' e rfl; simp at e2; rw [← e2.2]; exact hkk)), .inr (.inr ⟨hk, hnp, gP, kk, hv1, hc, hne, by omega, hcell, by simpa using hkk⟩)⟩
  · exact .inl ⟨Lib.hid (by rw [hkd]; exact pushG_new HN (.inl (by rw [← hkd]; exact hk))), .inl (by simpa using hk)⟩
end Go.Proofs.Ytbdlpigokahnoaa
