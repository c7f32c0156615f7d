/- kind, Kind and cut of package weave and its document. -/
import Derived.Test.YtbdlpigokahnoaaWeavePlain
import Derived.Test.YtbdlpigokahnoaaLinesStr
set_option linter.unusedVariables false
namespace Go.Proofs.Ytbdlpigokahnoaa
open Go.RowKit
attribute [local go_sem ↓] cutA_eq

theorem kindG_of {b o t : List ByteArray} {x y z : Bool} (hx : sameS o b = x) (hy : sameS t b = y) (hz : sameS o t = z) : kindG b o t = if x && y then 0 else if y then 1 else if x then 2 else if z then 3 else 4 := by
  unfold kindG
  simp only [sameS] at hx hy hz
  subst hx hy hz
  by_cases h1 : o = b <;> by_cases h2 : t = b <;> by_cases h3 : o = t <;> simp [h1, h2, h3]

set_option maxHeartbeats 1000000 in
theorem kind_any (A B C : Option Addr) (n m r c d f : Nat) (b o t : List ByteArray) (w : World) (hb : Sl w 1 A n (strV b)) (ho : Sl w 1 B m (strV o)) (ht : Sl w 1 C r (strV t)) (hn : n ≤ 1000000000) (hm : m ≤ 1000000000) (hr : r ≤ 1000000000) :
    Calls Try.prog 42 #[.slice A n c, .slice B m d, .slice C r f] w fun e w' => e = .returned (.int .i64 (kindG b o t)) ∧ Same w w' := by
  have q1 := fun (W : World) (s : Same w W) => equal_any B A m d n c o b W (s.sl ho) (s.sl hb) hm hn
  have q2 := fun (W : World) (s : Same w W) => equal_any C A r f n c t b W (s.sl ht) (s.sl hb) hr hn
  have q3 := fun (W : World) (s : Same w W) => equal_any B C m d r f o t W (s.sl ho) (s.sl ht) hm hr
  generalize hx : sameS o b = x at *
  generalize hy : sameS t b = y at *
  generalize hz : sameS o t = z at *
  have HK := Lib.hid (kindG_of hx hy hz)
  have Q1 := Lib.hid q1
  have Q2 := Lib.hid q2
  have Q3 := Lib.hid q3
  clear q1 q2 q3 hx hy hz hb ho ht
  cases x <;> cases y <;> cases z
  all_goals
    go_enter Try.func42, Try.ntmps42
    go_wp2_with fail
    refine (Q1.out _ (Same.refl _)).mono ?_
    rintro e w1 ⟨rfl, s1⟩
    go_wp2_with fail
    refine (Q2.out _ s1).mono ?_
    rintro e w2 ⟨rfl, s2⟩
    have s12 := s1.trans s2
    go_wp2_with fail
    first
      | (go_ret
         exact ⟨by rw [HK.out]; rfl, s12⟩)
      | (refine (Q3.out _ s12).mono ?_
         rintro e w3 ⟨rfl, s3⟩
         have s13 := s12.trans s3
         go_wp2_with fail
         go_ret
         exact ⟨by rw [HK.out]; rfl, s13⟩)

theorem kindG_of' {b o t : List ByteArray} {x y z : Bool} (hx : sameS b o = x) (hy : sameS b t = y) (hz : sameS o t = z) : kindG b o t = if x && y then 0 else if y then 1 else if x then 2 else if z then 3 else 4 := by
  have e1 : sameS o b = sameS b o := by simp only [sameS]; exact decide_eq_decide.2 ⟨Eq.symm, Eq.symm⟩
  have e2 : sameS t b = sameS b t := by simp only [sameS]; exact decide_eq_decide.2 ⟨Eq.symm, Eq.symm⟩
  exact kindG_of (e1.trans hx) (e2.trans hy) hz

set_option maxHeartbeats 1000000 in
theorem refKind_any (A B C : Option Addr) (n m r c d f : Nat) (b o t : List ByteArray) (w : World) (hb : Sl w 1 A n (strV b)) (ho : Sl w 1 B m (strV o)) (ht : Sl w 1 C r (strV t)) (hn : n ≤ 1000000000) (hm : m ≤ 1000000000) (hr : r ≤ 1000000000) :
    Calls Try.prog 26 #[.slice A n c, .slice B m d, .slice C r f] w fun e w' => e = .returned (.int .i64 (kindG b o t)) ∧ Same w w' := by
  have q1 := fun (W : World) (s : Same w W) => refSame_any A B n c m d b o W (s.sl hb) (s.sl ho) hn hm
  have q2 := fun (W : World) (s : Same w W) => refSame_any A C n c r f b t W (s.sl hb) (s.sl ht) hn hr
  have q3 := fun (W : World) (s : Same w W) => refSame_any B C m d r f o t W (s.sl ho) (s.sl ht) hm hr
  generalize hx : sameS b o = x at *
  generalize hy : sameS b t = y at *
  generalize hz : sameS o t = z at *
  have HK := Lib.hid (kindG_of' hx hy hz)
  have Q1 := Lib.hid q1
  have Q2 := Lib.hid q2
  have Q3 := Lib.hid q3
  clear q1 q2 q3 hx hy hz hb ho ht
  cases x <;> cases y
  · go_enter Try.func26, Try.ntmps26
    go_wp2_with fail
    refine (Q1.out _ (Same.refl _)).mono ?_
    rintro e w1 ⟨rfl, s1⟩
    go_wp2_with fail
    refine (Q2.out _ s1).mono ?_
    rintro e w2 ⟨rfl, s2⟩
    have s12 := s1.trans s2
    go_wp2_with fail
    refine (Q1.out _ s12).mono ?_
    rintro e w3 ⟨rfl, s3⟩
    have s13 := s12.trans s3
    go_wp2_with fail
    refine (Q3.out _ s13).mono ?_
    rintro e w4 ⟨rfl, s4⟩
    have s14 := s13.trans s4
    cases z
    all_goals
      go_wp2_with fail
      go_ret
      exact ⟨by rw [HK.out]; rfl, s14⟩
  · go_enter Try.func26, Try.ntmps26
    go_wp2_with fail
    refine (Q1.out _ (Same.refl _)).mono ?_
    rintro e w1 ⟨rfl, s1⟩
    go_wp2_with fail
    refine (Q2.out _ s1).mono ?_
    rintro e w2 ⟨rfl, s2⟩
    have s12 := s1.trans s2
    go_wp2_with fail
    go_ret
    exact ⟨by rw [HK.out]; rfl, s12⟩
  · go_enter Try.func26, Try.ntmps26
    go_wp2_with fail
    refine (Q1.out _ (Same.refl _)).mono ?_
    rintro e w1 ⟨rfl, s1⟩
    go_wp2_with fail
    refine (Q2.out _ s1).mono ?_
    rintro e w2 ⟨rfl, s2⟩
    have s12 := s1.trans s2
    go_wp2_with fail
    refine (Q2.out _ s12).mono ?_
    rintro e w3 ⟨rfl, s3⟩
    have s13 := s12.trans s3
    go_wp2_with fail
    refine (Q1.out _ s13).mono ?_
    rintro e w4 ⟨rfl, s4⟩
    have s14 := s13.trans s4
    go_wp2_with fail
    go_ret
    exact ⟨by rw [HK.out]; rfl, s14⟩
  · go_enter Try.func26, Try.ntmps26
    go_wp2_with fail
    refine (Q1.out _ (Same.refl _)).mono ?_
    rintro e w1 ⟨rfl, s1⟩
    go_wp2_with fail
    refine (Q2.out _ s1).mono ?_
    rintro e w2 ⟨rfl, s2⟩
    have s12 := s1.trans s2
    go_wp2_with fail
    go_ret
    exact ⟨by rw [HK.out]; rfl, s12⟩

/-- block g is just the cells cs, of element type t, none of them marked -/
def Blk (w : World) (g : Nat) (t : TypeId) (cs : Array Value) : Prop := w.heap[g]? = some (.cells cs t (0, 0))
section
variable {w w' : World} {g : Nat} {t : TypeId} {cs : Array Value}
theorem Blk.lt (h : Blk w g t cs) : g < w.heap.size := by
  rcases Nat.lt_or_ge g w.heap.size with hlt | hge
  · exact hlt
  · unfold Blk at h; rw [Array.getElem?_eq_none hge] at h; cases h
theorem Blk.cell (h : Blk w g t cs) (i : Nat) : w.cell? ⟨g, i, none⟩ = cs[i]? := cell_of_row w g i cs t (0, 0) h
theorem Blk.frozen (h : Blk w g t cs) (i : Nat) : w.frozen? ⟨g, i, none⟩ = false := by
  unfold Blk at h
  simp [World.frozen?, h]
theorem Blk.new (w : World) (t : TypeId) (cs : Array Value) : Blk (w.alloc (.cells cs t)) w.heap.size t cs := heap_alloc_new w _
theorem Blk.same (h : Blk w g t cs) (hs : Same w w') : Blk w' g t cs := by unfold Blk; rw [hs.heap]; exact h
theorem Blk.alloc (h : Blk w g t cs) (o : Obj) : Blk (w.alloc o) g t cs := (Below.heap_alloc w o g h.lt).trans h
theorem Blk.set_ (h : Blk w g t cs) (i : Nat) (u : Value) : Blk (w.setCell ⟨g, i, none⟩ u) g t (cs.setIfInBounds i u) := by
  unfold Blk at h ⊢
  simp [World.setCell, Array.getElem?_modify, h]
theorem Blk.below {B : Nat} (h : Blk w g t cs) (hb : Below B w w') (hg : g < B) : Blk w' g t cs := (hb.block g hg).trans h
theorem Blk.grown {row : Option Nat} (h : Blk w g t cs) (hb : w.grownBy w' row) (hg : some g ≠ row) : Blk w' g t cs := (hb.block g h.lt hg).trans h
end
theorem grown_of_below {a w : World} (h : Below a.heap.size a w) (row : Option Nat) : a.grownBy w row := ⟨h.os, h.tape, h.output, h.size, fun i hi _ => h.block i hi⟩
theorem grown_set {a w : World} {g : Nat} (h : a.grownBy w (some g)) (i : Nat) (u : Value) : a.grownBy (w.setCell ⟨g, i, none⟩ u) (some g) :=
  ⟨h.os, h.tape, h.output, by simpa [World.setCell] using h.size, fun k hk hne => (Below.heap_setCell w ⟨g, i, none⟩ u k (by rintro rfl; exact hne rfl)).trans (h.block k hk hne)⟩

theorem cut_any (G : Nat) (T : TypeId) (cs : Array Value) (f : Nat) (A : Option Addr) (n c k : Nat) (l : List ByteArray) (w : World) (hG : Blk w G T cs) (hf : cs[f]? = some (.slice A n c)) (hs : Sl w 1 A n (strV l)) (hc : n ≤ c) (hcm : c ≤ maxLen) (hk : k ≤ n) (hn : n ≤ 1000000000) :
    Calls Try.prog 41 #[.pointer (some ⟨G, f, none⟩), .int .i64 (k : Int)] w fun e w' => ∃ A' c', e = .returned (.slice A' (l.take k).length c') ∧ w'.ownsRow w.heap.size 9 1 (.slice A' (l.take k).length c') (l.take k).length (strV (l.take k)) ∧ (l.take k).length ≤ c' ∧ c' ≤ maxLen ∧
      Blk w' G T (cs.setIfInBounds f (.slice (cutA A c k) (n - k) (c - k))) ∧ w.grownBy w' (some G) := by
  have hsub := hs.upto hk
  rw [Nat.mul_one, strV_take] at hsub
  have hG0 := hG.cell f
  rw [hf] at hG0
  have HG := Lib.hid hG
  have HF := Lib.hid hf
  have hlen : (l.take k).length = k := by rw [List.length_take, hs.strLen]; omega
  generalize l.take k = X at *
  have HL := Lib.hid hlen
  have hkc : k ≤ c := by omega
  have hkc' : (k : Int) ≤ (c : Int) := by omega
  have hkn' : (k : Int) ≤ (n : Int) := by omega
  unfold maxLen at hcm
  clear hG hf hlen hs
  go_enter Try.func41, Try.ntmps41
  go_wp2_with fail
  refine (clone_any A k c X w hsub (by omega)).mono ?_
  rintro e w1 ⟨A1, c1, rfl, ho, hc1, hm1, hb⟩
  have hG1 := HG.out.below hb HG.out.lt
  have g1 := hG1.cell f
  rw [HF.out] at g1
  have f1 := hG1.frozen f
  have hE := Lib.hid (hG1.set_ f (.slice (cutA A c k) (n - k) (c - k)))
  have hGr := Lib.hid (grown_set (grown_of_below hb (some G)) f (.slice (cutA A c k) (n - k) (c - k)))
  have hO := Lib.hid (ho.kept (row := some G) (grown_set (World.grownBy.refl w1 (some G)) f (.slice (cutA A c k) (n - k) (c - k))) (by
    cases h : (Value.slice A1 X.length c1).ownBlock with
    | none => exact .inl rfl
    | some g => right; intro e; injection e with e; subst e; have := (ho.lt g h).1; have := HG.out.lt; omega))
  clear hG1 ho hb hG0 hsub
  go_wp2_with fail
  go_ret
  exact ⟨A1, c1, rfl, hO.out, hc1, hm1, hE.out, hGr.out⟩
end Go.Proofs.Ytbdlpigokahnoaa
