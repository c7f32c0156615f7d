/- The loom in memory: its block, the parts' row, the last part's rows; what add keeps. -/
import Derived.Test.YtbdlpigokahnoaaWeaveFns
set_option linter.unusedVariables false
namespace Go.Proofs.Ytbdlpigokahnoaa
open Go.RowKit

/-! ### rows apart from one another -/
def Dis (u v : Value) : Prop := ∀ x, own u x → ¬ own v x
theorem Dis.symm {u v : Value} (h : Dis u v) : Dis v u := fun x hv hu => h x hu hv
theorem own_in {w : World} {base : Nat} {e : TypeId} {sz : Nat} {v : Value} {n : Nat} {xs : List Value} (h : w.ownsRow base e sz v n xs) {x : Nat} (hx : own v x) : base ≤ x ∧ x < w.heap.size := h.lt x hx
theorem Dis.new {w w' : World} {b1 b2 : Nat} {e1 e2 : TypeId} {s1 s2 : Nat} {u v : Value} {n1 n2 : Nat} {x1 x2 : List Value} (hu : w.ownsRow b1 e1 s1 u n1 x1) (hv : w'.ownsRow b2 e2 s2 v n2 x2) (hb : w.heap.size ≤ b2) : Dis u v :=
  fun x h1 h2 => by have := (own_in hu h1).2; have := (own_in hv h2).1; omega
theorem Dis.app {w w' : World} {base : Nat} {e : TypeId} {sz : Nat} {u v v' : Value} {n : Nat} {xs : List Value} (h : Dis u v) (ha : Appended w w' base e sz v v' n xs) {b1 : Nat} {e1 : TypeId} {s1 : Nat} {n1 : Nat} {x1 : List Value} (hu : w.ownsRow b1 e1 s1 u n1 x1) : Dis u v' := by
  intro x h1 h2
  unfold own at h2
  rcases ha.place with hp | hp
  · rw [hp] at h2; exact h x h1 h2
  · rw [hp] at h2; injection h2 with h2; have := (own_in hu h1).2; omega
theorem ban_app {w w' : World} {base : Nat} {e : TypeId} {sz : Nat} {v v' : Value} {n : Nat} {xs : List Value} {g : Nat} (h : ¬ own v g) (ha : Appended w w' base e sz v v' n xs) (hg : g < w.heap.size) : ¬ own v' g := by
  intro h2
  unfold own at h2
  rcases ha.place with hp | hp
  · rw [hp] at h2; exact h h2
  · rw [hp] at h2; injection h2 with h2; omega
theorem own_keep {w w' : World} {G : Nat} (hg : w.grownBy w' (some G)) {base : Nat} {e : TypeId} {sz : Nat} {v : Value} {n : Nat} {xs : List Value} (h : w.ownsRow base e sz v n xs) (hne : ¬ own v G) : w'.ownsRow base e sz v n xs :=
  h.kept (row := some G) hg (.inr hne)
theorem own_far {w w' : World} {u : Value} (hg : w.grownBy w' u.ownBlock) {base : Nat} {e : TypeId} {sz : Nat} {v : Value} {n : Nat} {xs : List Value} (h : w.ownsRow base e sz v n xs) (hd : Dis u v) : w'.ownsRow base e sz v n xs :=
  h.kept hg (by
    cases hv : v.ownBlock with
    | none => exact .inl rfl
    | some x => exact .inr fun e => hd x e.symm hv)
theorem Sl.far {w w' : World} {u : Value} (hg : w.grownBy w' u.ownBlock) {base : Nat} {e : TypeId} {sz : Nat} {A : Option Addr} {n c : Nat} {xs : List Value} (h : w.ownsRow base e sz (.slice A n c) n xs) (hd : Dis u (.slice A n c)) : Sl w' sz A n xs := Sl.ofOwn (own_far hg h hd)

/-! ### the cuts of add -/
/-- Between w0 and w only block G turned; the rows and the blocks are new. -/
structure CutInv (w0 : World) (B0 G : Nat) (cs : Array Value) (rows : List (Value × Nat × List Value)) (blks : List (Nat × Array Value)) (w : World) : Prop where
  gr : w0.grownBy w (some G)
  hB : B0 ≤ G
  hG : G < w0.heap.size
  blk : Blk w G 64 cs
  hrows : ∀ r ∈ rows, w.ownsRow w0.heap.size 9 1 r.1 r.2.1 r.2.2
  hblks : ∀ k ∈ blks, Blk w k.1 38 k.2 ∧ w0.heap.size ≤ k.1
  dis : rows.Pairwise (fun r s => Dis r.1 s.1)
  dis2 : ∀ k ∈ blks, ∀ r ∈ rows, ¬ own r.1 k.1
section
variable {w0 w w' : World} {B0 G : Nat} {cs : Array Value} {rows : List (Value × Nat × List Value)} {blks : List (Nat × Array Value)}
theorem CutInv.drew (h : CutInv w0 B0 G cs rows blks w) : CutInv w0 B0 G cs rows blks w.drew :=
  ⟨⟨h.gr.os, h.gr.tape, h.gr.output, h.gr.size, h.gr.block⟩, h.hB, h.hG, h.blk, h.hrows, h.hblks, h.dis, h.dis2⟩
theorem CutInv.alloc (h : CutInv w0 B0 G cs rows blks w) (cells : Array Value) : CutInv w0 B0 G cs rows ((w.heap.size, cells) :: blks) (w.alloc (.cells cells 38)) := by
  have hb : Below w.heap.size w (w.alloc (.cells cells 38)) := (Below.refl _ _).alloc (Nat.le_refl _) _
  refine ⟨h.gr.trans (grown_of_below hb _), h.hB, h.hG, h.blk.alloc _, fun r hr => own_below (h.hrows r hr) hb, fun k hk => ?_, h.dis, fun k hk r hr => ?_⟩
  · rcases List.mem_cons.1 hk with rfl | hk
    · exact ⟨Blk.new w _ _, h.gr.size⟩
    · exact ⟨(h.hblks k hk).1.alloc _, (h.hblks k hk).2⟩
  · rcases List.mem_cons.1 hk with rfl | hk
    · intro e; have := (own_in (h.hrows r hr) e).2; simp only at this; omega
    · exact h.dis2 k hk r hr
theorem CutInv.call (h : CutInv w0 B0 G cs rows blks w) {f : Nat} {A : Option Addr} {n c k : Nat} {l : List ByteArray} (hf : cs[f]? = some (.slice A n c)) (hs : StrAt w0 (fun x => B0 ≤ x) A n c l) (hk : k ≤ n) (hn : n ≤ 1000000000) :
    Calls Try.prog 41 #[.pointer (some ⟨G, f, none⟩), .int .i64 (k : Int)] w fun e w' => ∃ A' c', e = .returned (.slice A' k c') ∧
      CutInv w0 B0 G (cs.setIfInBounds f (.slice (cutA A c k) (n - k) (c - k))) ((.slice A' k c', k, strV (l.take k)) :: rows) blks w' := by
  have m : Moves w0 w (fun x => B0 ≤ x) (fun x => B0 ≤ x) := ⟨h.gr.size, fun b hb hne => h.gr.block b hb (by rintro e; injection e with e; subst e; exact hne h.hB), fun b hb hne => hne⟩
  have hs' := hs.moves m
  refine (cut_any G 64 cs f A n c k l w h.blk hf hs'.str hs.cap hs.max hk hn).mono ?_
  rintro e w' ⟨A', c', rfl, ho, h1, h2, hb, hg⟩
  have hl : (l.take k).length = k := by rw [List.length_take, hs.len]; omega
  rw [hl] at ho
  refine ⟨A', c', by rw [hl], h.gr.trans hg, h.hB, h.hG, hb, ?_, ?_, ?_, ?_⟩
  · intro r hr
    rcases List.mem_cons.1 hr with rfl | hr
    · exact own_mono ho h.gr.size
    · exact own_keep hg (h.hrows r hr) (fun e => by have := (own_in (h.hrows r hr) e).1; have := h.hG; omega)
  · intro q hq
    exact ⟨(h.hblks q hq).1.grown hg (fun e => by injection e with e; have := (h.hblks q hq).2; have := h.hG; omega), (h.hblks q hq).2⟩
  · refine List.Pairwise.cons (fun r hr => ?_) h.dis
    exact (Dis.new (h.hrows r hr) ho (Nat.le_refl _)).symm
  · intro q hq r hr
    rcases List.mem_cons.1 hr with rfl | hr
    · intro e; have := (own_in ho e).1; have := (h.hblks q hq).1.lt; omega
    · exact h.dis2 q hq r hr
theorem CutInv.start {w0 : World} {B0 G : Nat} {cs : Array Value} (hB : B0 ≤ G) (hb : Blk w0 G 64 cs) : CutInv w0 B0 G cs [] [] w0 :=
  ⟨World.grownBy.refl _ _, hB, hb.lt, hb, (fun r h => by cases h), (fun r h => by cases h), List.Pairwise.nil, (fun r h => by cases h)⟩
end

/-- what stands when a part's three pieces have been cut -/
structure Mid (w0 : World) (G : Nat) (cs : Array Value) (g8 : Nat) (k : Int) (v1 v2 v3 : Value) (m1 m2 m3 : Nat) (x y z : List ByteArray) (w : World) : Prop where
  gr : w0.grownBy w (some G)
  hG : G < w0.heap.size
  blk : Blk w G 64 cs
  p : Blk w g8 38 #[.int .i64 k, v1, v2, v3]
  hp : w0.heap.size ≤ g8
  r1 : w.ownsRow w0.heap.size 9 1 v1 m1 (strV x)
  r2 : w.ownsRow w0.heap.size 9 1 v2 m2 (strV y)
  r3 : w.ownsRow w0.heap.size 9 1 v3 m3 (strV z)
  d12 : Dis v1 v2
  d13 : Dis v1 v3
  d23 : Dis v2 v3
  p1 : ¬ own v1 g8
  p2 : ¬ own v2 g8
  p3 : ¬ own v3 g8
theorem CutInv.mid {w0 w : World} {B0 G g8 : Nat} {cs : Array Value} {v1 v2 v3 : Value} {m1 m2 m3 : Nat} {x y z : List ByteArray} (h : CutInv w0 B0 G cs [(v3, m3, strV z), (v2, m2, strV y), (v1, m1, strV x)] [(g8, #[.int .i64 0, v1, v2, v3])] w) : Mid w0 G cs g8 0 v1 v2 v3 m1 m2 m3 x y z w := by
  have hb := h.hblks _ (List.mem_cons_self)
  have hd := h.dis
  simp only [List.pairwise_cons, List.mem_cons, List.not_mem_nil, or_false, forall_eq_or_imp, forall_eq] at hd
  refine ⟨h.gr, h.hG, h.blk, hb.1, hb.2, h.hrows (v1, m1, strV x) (by simp), h.hrows (v2, m2, strV y) (by simp), h.hrows (v3, m3, strV z) (by simp), hd.2.1.symm, hd.1.2.symm, hd.1.1.symm, ?_, ?_, ?_⟩
  · exact h.dis2 _ List.mem_cons_self (v1, m1, strV x) (by simp)
  · exact h.dis2 _ List.mem_cons_self (v2, m2, strV y) (by simp)
  · exact h.dis2 _ List.mem_cons_self (v3, m3, strV z) (by simp)
/-- a block of parts turned whole -/
theorem CutInv.set {w0 w : World} {B0 G g8 : Nat} {cs : Array Value} {rows : List (Value × Nat × List Value)} {cells : Array Value} (h : CutInv w0 B0 G cs rows [(g8, cells)] w) (i : Nat) (u : Value) : CutInv w0 B0 G cs rows [(g8, cells.setIfInBounds i u)] (w.setCell ⟨g8, i, none⟩ u) := by
  have hb := h.hblks _ List.mem_cons_self
  have hg : w.grownBy (w.setCell ⟨g8, i, none⟩ u) (some g8) := grown_set (World.grownBy.refl _ _) i u
  have hne : g8 ≠ G := by have h1 : w0.heap.size ≤ g8 := hb.2; have := h.hG; omega
  refine ⟨?_, h.hB, h.hG, h.blk.grown hg (by intro e; injection e with e; exact hne e.symm), fun r hr => own_keep hg (h.hrows r hr) (h.dis2 _ List.mem_cons_self r hr), ?_, h.dis, ?_⟩
  · exact ⟨h.gr.os, h.gr.tape, h.gr.output, by simpa [World.setCell] using h.gr.size, fun k hk hk2 => (Below.heap_setCell w ⟨g8, i, none⟩ u k (by have h1 : w0.heap.size ≤ g8 := hb.2; simp only; omega)).trans (h.gr.block k hk hk2)⟩
  · intro k hk
    simp only [List.mem_cons, List.not_mem_nil, or_false] at hk
    subst hk
    exact ⟨hb.1.set_ i u, hb.2⟩
  · intro k hk r hr
    simp only [List.mem_cons, List.not_mem_nil, or_false] at hk
    subst hk
    exact h.dis2 (g8, cells) List.mem_cons_self r hr
theorem Mid.drew {w0 w : World} {G : Nat} {cs : Array Value} {g8 : Nat} {k : Int} {v1 v2 v3 : Value} {m1 m2 m3 : Nat} {x y z : List ByteArray} (h : Mid w0 G cs g8 k v1 v2 v3 m1 m2 m3 x y z w) : Mid w0 G cs g8 k v1 v2 v3 m1 m2 m3 x y z w.drew :=
  ⟨⟨h.gr.os, h.gr.tape, h.gr.output, h.gr.size, h.gr.block⟩, h.hG, h.blk, h.p, h.hp, h.r1, h.r2, h.r3, h.d12, h.d13, h.d23, h.p1, h.p2, h.p3⟩
theorem Mid.same {w0 w w' : World} {G : Nat} {cs : Array Value} {g8 : Nat} {k : Int} {v1 v2 v3 : Value} {m1 m2 m3 : Nat} {x y z : List ByteArray} (h : Mid w0 G cs g8 k v1 v2 v3 m1 m2 m3 x y z w) (s : Same w w') : Mid w0 G cs g8 k v1 v2 v3 m1 m2 m3 x y z w' :=
  ⟨⟨(s.below 0).os.trans h.gr.os, (s.below 0).tape.trans h.gr.tape, (s.below 0).output.trans h.gr.output, by rw [s.size]; exact h.gr.size, fun i hi hn => by rw [s.heap]; exact h.gr.block i hi hn⟩, h.hG, h.blk.same s, h.p.same s, h.hp, s.own h.r1, s.own h.r2, s.own h.r3, h.d12, h.d13, h.d23, h.p1, h.p2, h.p3⟩
theorem Mid.kind {w0 w : World} {G : Nat} {cs : Array Value} {g8 : Nat} {k : Int} {v1 v2 v3 : Value} {m1 m2 m3 : Nat} {x y z : List ByteArray} (h : Mid w0 G cs g8 k v1 v2 v3 m1 m2 m3 x y z w) (k' : Int) : Mid w0 G cs g8 k' v1 v2 v3 m1 m2 m3 x y z (w.setCell ⟨g8, 0, none⟩ (.int .i64 k')) := by
  have hg : w.grownBy (w.setCell ⟨g8, 0, none⟩ (.int .i64 k')) (some g8) := grown_set (World.grownBy.refl _ _) 0 _
  have hne : g8 ≠ G := by have := h.hp; have := h.hG; omega
  refine ⟨⟨h.gr.os, h.gr.tape, h.gr.output, by simpa [World.setCell] using h.gr.size, fun i hi hi2 => (Below.heap_setCell w ⟨g8, 0, none⟩ _ i (by have := h.hp; simp only; omega)).trans (h.gr.block i hi hi2)⟩, h.hG, h.blk.grown hg (by intro e; injection e with e; exact hne e.symm), ?_, h.hp, own_keep hg h.r1 h.p1, own_keep hg h.r2 h.p2, own_keep hg h.r3 h.p3, h.d12, h.d13, h.d23, h.p1, h.p2, h.p3⟩
  have := h.p.set_ 0 (.int .i64 k')
  simpa using this
end Go.Proofs.Ytbdlpigokahnoaa
