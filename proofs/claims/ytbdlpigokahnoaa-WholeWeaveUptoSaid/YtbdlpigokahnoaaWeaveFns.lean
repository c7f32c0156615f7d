/- plain and small of the law, and lists of parts of the call's own. -/
import Derived.Test.YtbdlpigokahnoaaWeaveTxt
set_option linter.unusedVariables false
namespace Go.Proofs.Ytbdlpigokahnoaa
open Go.RowKit

theorem small_any (A B C : Option Addr) (n m r c d f : Nat) (w : World) (hn : n ≤ 100000000) (hm : m ≤ 100000000) (hr : r ≤ 100000000) :
    Calls Try.prog 20 #[.slice A n c, .slice B m d, .slice C r f] w fun e w' => e = .returned (.bool (decide (n ≤ 200) && decide (m ≤ 200) && decide (r ≤ 200))) ∧ w = w' := by
  by_cases h1 : n ≤ 200
  · by_cases h2 : m ≤ 200
    · by_cases h3 : r ≤ 200
      · rw [decide_eq_true h1, decide_eq_true h2, decide_eq_true h3]
        go_enter Try.func20, Try.ntmps20
        have d3 : decide ((r : Int) ≤ 200) = true := by simpa using (show (r : Int) ≤ 200 by omega)
        go_wp2_with fail
        go_ret
        exact ⟨by simp, rfl⟩
      · rw [decide_eq_true h1, decide_eq_true h2, decide_eq_false h3]
        have d3 : decide ((r : Int) ≤ 200) = false := by simpa using (show ¬ (r : Int) ≤ 200 by omega)
        go_enter Try.func20, Try.ntmps20
        go_wp2_with fail
        go_ret
        exact ⟨rfl, rfl⟩
    · rw [decide_eq_true h1, decide_eq_false h2]
      go_enter Try.func20, Try.ntmps20
      go_wp2_with fail
      go_ret
      exact ⟨rfl, rfl⟩
  · rw [decide_eq_false h1]
    go_enter Try.func20, Try.ntmps20
    go_wp2_with fail
    go_ret
    exact ⟨rfl, rfl⟩

def zeroPt : Value := .agg #[.int .i64 0, .slice none 0 0, .slice none 0 0, .slice none 0 0]
theorem elemPart : ElemOf Try.prog 25 38 zeroPt 4 80 := ⟨Try.underlying25, by kernel_rfl, rfl, by decide⟩
theorem elemRefPart : ElemOf Try.prog 45 79 zeroPt 4 80 := ⟨Try.underlying45, by kernel_rfl, rfl, by decide⟩

/-- a list of parts whose row is the call's own -/
def OwnPts (w : World) (base : Nat) (T : TypeId) (A : Option Addr) (n c : Nat) (ps : List Pt) : Prop :=
  ps.length = n ∧ ∃ vs, w.ownsRow base T 4 (.slice A n c) n vs ∧ Each (ptR.R w (own (.slice A n c))) vs ps
section
variable {w w' : World} {base : Nat} {T : TypeId} {A : Option Addr} {n c : Nat} {ps : List Pt}
theorem OwnPts.nil (w : World) (base : Nat) (T : TypeId) : OwnPts w base T none 0 0 [] := ⟨rfl, [], World.ownsRow_nil _ _ _ _, .nil⟩
theorem OwnPts.room (h : OwnPts w base T A n c ps) : n ≤ c ∧ c ≤ maxLen := by obtain ⟨_, vs, ho, _⟩ := h; exact own_cap ho
theorem OwnPts.sl (h : OwnPts w base T A n c ps) : SlOf ptR w no A ps := by
  obtain ⟨rfl, vs, ho, he⟩ := h
  exact SlOf.ofOwn (r := ptR) ho he
theorem OwnPts.below (h : OwnPts w base T A n c ps) (hb : Below w.heap.size w w') : OwnPts w' base T A n c ps := by
  obtain ⟨hl, vs, ho, he⟩ := h
  exact ⟨hl, vs, own_below ho hb, he.mono fun _ _ hr => ptR.stable hr (.of_below hb)⟩
theorem OwnPts.mono {base' : Nat} (h : OwnPts w base T A n c ps) (hb : base' ≤ base) : OwnPts w base' T A n c ps := by
  obtain ⟨hl, vs, ho, he⟩ := h
  exact ⟨hl, vs, own_mono ho hb, he⟩
end
theorem Moves.fresh {w w' w2 : World} (hb : Below w.heap.size w w') {base : Nat} {e : TypeId} {sz : Nat} {v : Value} {n : Nat} {xs : List Value} (ho : w2.ownsRow base e sz v n xs) (hbase : w.heap.size ≤ base) : Moves w w' no (own v) :=
  ⟨hb.size, fun b h _ => hb.block b h, fun b h _ he => by have := (ho.lt b he).1; omega⟩
theorem OwnPts.moves {w w' w2 : World} (hb : Below w.heap.size w w') {base : Nat} {T : TypeId} {A : Option Addr} {n c : Nat} {ps : List Pt} (ho : OwnPts w2 base T A n c ps) (hbase : w.heap.size ≤ base) : Moves w w' no (own (.slice A n c)) := by
  obtain ⟨_, vs, ho, _⟩ := ho
  exact Moves.fresh hb ho hbase
/-- what a call that makes a list of parts leaves -/
def PtsPost (T : TypeId) (W : World) (ps : List Pt) (e : Ending) (w' : World) : Prop :=
  ∃ A n c, e = .returned (.slice A n c) ∧ OwnPts w' W.heap.size T A n c ps ∧ Below W.heap.size W w'

/-- a part put behind others: its cells in a block that was just made -/
theorem OwnPts.app {w : World} {base : Nat} {T TS : TypeId} {A : Option Addr} {n c : Nat} {ps : List Pt} (E : ElemOf Try.prog TS T zeroPt 4 80) (h : OwnPts w base T A n c ps) {z : Int} {b o t : List ByteArray} {A1 A2 A3 : Option Addr} {n1 n2 n3 c1 c2 c3 : Nat}
    (hw : (Lit.int .i64 z).wf = true) (h1 : StrAt w (own (.slice A n c)) A1 n1 c1 b) (h2 : StrAt w (own (.slice A n c)) A2 n2 c2 o) (h3 : StrAt w (own (.slice A n c)) A3 n3 c3 t) (hn : n + 1 ≤ 1000000000) (hbase : base ≤ w.heap.size) {g : Nat} (hg : w.heap.size = g) :
    ∃ A' c' w', (Builtin.append_ #[TS, TS] TS #[.slice A n c, .slice (some ⟨g, 0, none⟩) 1 1]).run Try.prog (w.alloc (.cells #[.int .i64 z, .slice A1 n1 c1, .slice A2 n2 c2, .slice A3 n3 c3] T)) = .ok (.slice A' (n + 1) c') w' ∧ OwnPts w' base T A' (n + 1) c' (ps ++ [(z, b, o, t)]) ∧ Below base w w' := by
  subst hg
  obtain ⟨hl, vs, ho, he⟩ := h
  have hb0 : Below w.heap.size w (w.alloc (.cells #[.int .i64 z, .slice A1 n1 c1, .slice A2 n2 c2, .slice A3 n3 c3] T)) := (Below.refl _ _).alloc (Nat.le_refl _) _
  have hs := Sl.fresh w #[.int .i64 z, .slice A1 n1 c1, .slice A2 n2 c2, .slice A3 n3 c3] T (0, 0) 1 4 rfl
  obtain ⟨A', c', w', hrun, hap, r1, r2⟩ := append_sl (P := Try.prog) E (own_below ho hb0) hs (by intro u hu; simp at hu; rcases hu with rfl | rfl | rfl | rfl <;> rfl) (by omega) (by simp only [maxLen]; omega) (by simp; omega) TS 1
  refine ⟨A', c', w', hrun, ⟨by simp [hl], vs ++ ptCells z A1 A2 A3 n1 n2 n3 c1 c2 c3, hap.own, ?_⟩, (hb0.mono hbase).trans hap.below⟩
  have m1 : Moves w _ (own (.slice A n c)) (own (.slice A n c)) := Moves.of_below hb0
  have m2 := m1.trans (Moves.of_app hap)
  exact (he.mono fun _ _ hr => ptR.stable hr m2).snoc (pt_mk hw (h1.moves m2) (h2.moves m2) (h3.moves m2))

set_option maxHeartbeats 2000000 in
theorem plain_any (A : Option Addr) (m cA : Nat) (ps : List Pt) (w : World) (hs : SlOf ptR w no A ps) (hl : ps.length = m) (hm : m ≤ 100000000) :
    Calls Try.prog 24 #[.slice A m cA] w (PtsPost 79 w ps) := by
  have HL := Lib.hid hl
  clear hl
  go_enter Try.func24, Try.ntmps24
  go_wp2_with fail
  go_loopw [3, 8] (fun o k wr => ∃ (K : Nat) (Ao : Option Addr) (co : Nat), o = .slice Ao K co ∧ k = .int .i64 K ∧ K ≤ m ∧ Hid (OwnPts wr w.heap.size 79 Ao K co (ps.take K)) ∧ Below w.heap.size w wr) (fun _ k _ => m - (intOf k).toNat)
  case atStart => exact ⟨0, none, 0, rfl, rfl, by omega, Lib.hid (by simpa using OwnPts.nil w w.heap.size _), Below.refl _ _⟩
  case round =>
    obtain ⟨K, Ao, co, rfl, rfl, hK, HO, hbr⟩ := hrel
    by_cases hKm : K < m
    · obtain ⟨bb, off, z, x, y, t, A1, A2, A3, n1, n2, n3, c1, c2, c3, rfl, hb1, hx, hwf, k0, k1, k2, k3, hs1, hs2, hs3, _⟩ := pt_look hs HL.out hKm
      have k0 := (hbr.cell hb1).trans k0
      have k1 := (hbr.cell hb1).trans k1
      have k2 := (hbr.cell hb1).trans k2
      have k3 := (hbr.cell hb1).trans k3
      have HX := Lib.hid hx
      have hlt' : (K : Int) < (m : Int) := by omega
      have hk1 : IntKind.i64.wrap ((K : Int) + 1) = ((K + 1 : Nat) : Int) := by rw [IntWalk.i64_in _ (by omega)]; rfl
      have hbx : Below wr.heap.size wr (wr.alloc (.cells #[.int .i64 z, .slice A1 n1 c1, .slice A2 n2 c2, .slice A3 n3 c3] 38)) := (Below.refl _ _).alloc (Nat.le_refl _) _
      have hwb : Below w.heap.size w (wr.alloc (.cells #[.int .i64 z, .slice A1 n1 c1, .slice A2 n2 c2, .slice A3 n3 c3] 38)) := hbr.trans (hbx.mono hbr.size)
      have mv : Moves w (wr.alloc (.cells #[.int .i64 z, .slice A1 n1 c1, .slice A2 n2 c2, .slice A3 n3 c3] 38)) no (own (.slice Ao K co)) := HO.out.moves hwb (Nat.le_refl _)
      obtain ⟨A', c', w', hrun, ho, hb2⟩ := OwnPts.app elemRefPart (HO.out.below hbx) hwf (hs1.moves mv) (hs2.moves mv) (hs3.moves mv) (by omega) hwb.size (g := wr.heap.size + 1) (by simp)
      have HO2 := Lib.hid ho
      have HB2 := Lib.hid (hwb.trans hb2)
      clear ho hb2 hs hs1 hs2 hs3 hx hwf mv hwb hbx
      go_wp2_with (at_builtin; refine wpList_run_append hrun ?_ ?_ ?_; exact rfl; exact rfl)
      exact ⟨⟨K + 1, A', c', rfl, by simp, by omega, Lib.hid (by rw [List.take_add_one, HX.out]; exact HO2.out), HB2.out⟩, by simp [intOf]; omega⟩
    · obtain rfl : K = m := by omega
      have hlt' : ¬ (K : Int) < (K : Int) := by omega
      go_wp2_with fail
      go_ret
      exact ⟨Ao, K, co, rfl, by have h := HO.out; rwa [List.take_of_length_le (by rw [HL.out]; exact Nat.le_refl _)] at h, hbr⟩
end Go.Proofs.Ytbdlpigokahnoaa
