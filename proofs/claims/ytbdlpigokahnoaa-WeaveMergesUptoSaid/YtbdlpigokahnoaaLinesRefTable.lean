/- The document's table: long. -/
import Derived.Test.YtbdlpigokahnoaaLinesPlain
import Derived.Test.YtbdlpigokahnoaaRegion
import Derived.Deep.OwnRows
import Derived.Deep.QuietTactic
import Derived.BigQuiet
import Derived.IntWalk
set_option linter.unusedVariables false
namespace Go.Proofs.Ytbdlpigokahnoaa
open Go.RowKit

theorem frozen_alloc_lt (w : World) (o : Obj) {b i : Nat} (h : b < w.heap.size) : (w.alloc o).frozen? ⟨b, i, none⟩ = w.frozen? ⟨b, i, none⟩ := ((Below.refl w.heap.size w).alloc (Nat.le_refl _) o).frozen (p := ⟨b, i, none⟩) h

theorem frozen_new (w : World) (cs : Array Value) (e : TypeId) (i : Nat) : (w.alloc (.cells cs e)).frozen? ⟨w.heap.size, i, none⟩ = false := by
  have h := heap_alloc_new w (.cells cs e)
  generalize w.alloc (.cells cs e) = w' at *
  simp [World.frozen?, h]

/-- The rows from I on are done. -/
structure RefRows (w : World) (O : Nat) (a b : List ByteArray) (n m I : Nat) : Prop where
  lt : O < w.heap.size
  free : ∀ o, w.frozen? ⟨O, o, none⟩ = false
  out : ∀ i, i ≤ n → ∃ v, w.cell? ⟨O, i, none⟩ = some v
  up : ∀ i, I ≤ i → i ≤ n → ∃ c, w.cell? ⟨O, i, none⟩ = some (.slice (some ⟨c, 0, none⟩) (m + 1) (m + 1)) ∧ c < w.heap.size ∧ c ≠ O ∧ ∀ k, k ≤ m → w.cell? ⟨c, k, none⟩ = some (.int .i64 (Lc a b i k : Nat))

/-- Of row I, which lies in block d, the places from K on are done too. -/
structure RefPart (w : World) (O d : Nat) (a b : List ByteArray) (n m I K : Nat) : Prop where
  lt : O < d
  ltd : d < w.heap.size
  freeO : ∀ o, w.frozen? ⟨O, o, none⟩ = false
  freeD : ∀ o, w.frozen? ⟨d, o, none⟩ = false
  out : ∀ i, i ≤ n → ∃ v, w.cell? ⟨O, i, none⟩ = some v
  up : ∀ i, I + 1 ≤ i → i ≤ n → ∃ c, w.cell? ⟨O, i, none⟩ = some (.slice (some ⟨c, 0, none⟩) (m + 1) (m + 1)) ∧ c < d ∧ c ≠ O ∧ ∀ k, k ≤ m → w.cell? ⟨c, k, none⟩ = some (.int .i64 (Lc a b i k : Nat))
  here : w.cell? ⟨O, I, none⟩ = some (.slice (some ⟨d, 0, none⟩) (m + 1) (m + 1))
  some_ : ∀ k, k ≤ m → ∃ z, w.cell? ⟨d, k, none⟩ = some (.int .i64 z)
  at_ : ∀ k, k ≤ m → K ≤ k → w.cell? ⟨d, k, none⟩ = some (.int .i64 (Lc a b I k : Nat))

section
variable {w w' : World} {O d n m I K : Nat} {a b : List ByteArray}
theorem RefPart.same (h : RefPart w O d a b n m I K) (hs : Same w w') : RefPart w' O d a b n m I K := by
  obtain ⟨q, rfl⟩ := hs; exact ⟨h.lt, h.ltd, h.freeO, h.freeD, h.out, h.up, h.here, h.some_, h.at_⟩
theorem RefRows.below (h : RefRows w O a b n m I) (hb : Below w.heap.size w w') : RefRows w' O a b n m I := by
  refine ⟨Nat.lt_of_lt_of_le h.lt hb.size, fun o => (hb.frozen (p := ⟨O, o, none⟩) h.lt).trans (h.free o), fun i hi => ?_, fun i h1 h2 => ?_⟩
  · obtain ⟨v, hv⟩ := h.out i hi
    exact ⟨v, (hb.cell (p := ⟨O, i, none⟩) h.lt).trans hv⟩
  · obtain ⟨c, h3, h4, h5, h6⟩ := h.up i h1 h2
    exact ⟨c, (hb.cell (p := ⟨O, i, none⟩) h.lt).trans h3, Nat.lt_of_lt_of_le h4 hb.size, h5, fun k hk => (hb.cell (p := ⟨c, k, none⟩) h4).trans (h6 k hk)⟩
theorem RefPart.done (h : RefPart w O d a b n m I 0) (hI : I < n) : RefRows w O a b n m I := by
  refine ⟨Nat.lt_trans h.lt h.ltd, h.freeO, h.out, fun i h1 h2 => ?_⟩
  by_cases he : i = I
  · subst he
    exact ⟨d, h.here, h.ltd, fun e => by have := h.lt; omega, fun k hk => h.at_ k hk (Nat.zero_le _)⟩
  · obtain ⟨c, h3, h4, h5, h6⟩ := h.up i (by omega) h2
    exact ⟨c, h3, Nat.lt_trans h4 h.ltd, h5, h6⟩
theorem zeroRowS (w : World) (S : Nat) (e : TypeId) (z : Value) (o : Nat) (h : o < S) : (w.alloc (.cells (madeCells #[z] S) e)).cell? ⟨w.heap.size, o, none⟩ = some z := by
  rw [cell_of_row _ w.heap.size o _ e (0, 0) (heap_alloc_new w _)]
  simp [madeCells, h, Nat.mod_one]
theorem RefPart.start (h : RefRows w O a b n m (I + 1)) (hI : I < n) (hm : b.length = m) (e : TypeId) :
    RefPart ((w.alloc (.cells (madeCells #[.int .i64 0] (m + 1)) e)).setCell ⟨O, I, none⟩ (.slice (some ⟨w.heap.size, 0, none⟩) (m + 1) (m + 1))) O w.heap.size a b n m I m := by
  have far : ∀ b o, b ≠ O → ((w.alloc (.cells (madeCells #[.int .i64 0] (m + 1)) e)).setCell ⟨O, I, none⟩ (.slice (some ⟨w.heap.size, 0, none⟩) (m + 1) (m + 1))).cell? ⟨b, o, none⟩ = (w.alloc (.cells (madeCells #[.int .i64 0] (m + 1)) e)).cell? ⟨b, o, none⟩ :=
    fun b o hb => World.cell?_setCell_other _ _ _ _ (fun e => hb (by injection e with e; exact e.symm))
  have oth : ∀ o, o ≠ I → ((w.alloc (.cells (madeCells #[.int .i64 0] (m + 1)) e)).setCell ⟨O, I, none⟩ (.slice (some ⟨w.heap.size, 0, none⟩) (m + 1) (m + 1))).cell? ⟨O, o, none⟩ = w.cell? ⟨O, o, none⟩ :=
    fun o ho => (World.cell?_setCell_other _ _ _ _ (fun e => ho (by injection e with _ e; exact e.symm))).trans (World.cell?_alloc_lt _ _ _ h.lt)
  obtain ⟨v, hv⟩ := h.out I (by omega)
  have self : ((w.alloc (.cells (madeCells #[.int .i64 0] (m + 1)) e)).setCell ⟨O, I, none⟩ (.slice (some ⟨w.heap.size, 0, none⟩) (m + 1) (m + 1))).cell? ⟨O, I, none⟩ = some (.slice (some ⟨w.heap.size, 0, none⟩) (m + 1) (m + 1)) :=
    World.cell?_setCell_same _ _ _ ((World.cell?_alloc_lt _ _ _ h.lt).trans hv)
  have hz : ∀ k, k ≤ m → ((w.alloc (.cells (madeCells #[.int .i64 0] (m + 1)) e)).setCell ⟨O, I, none⟩ (.slice (some ⟨w.heap.size, 0, none⟩) (m + 1) (m + 1))).cell? ⟨w.heap.size, k, none⟩ = some (.int .i64 0) :=
    fun k hk => (far _ _ (by have := h.lt; omega)).trans (zeroRowS w (m + 1) e _ k (by omega))
  refine ⟨h.lt, by simp [World.setCell], fun o => ?_, fun o => ?_, fun i hi => ?_, fun i h1 h2 => ?_, self, fun k hk => ⟨0, hz k hk⟩, fun k hk h1 => ?_⟩
  · rw [World.frozen?_setCell, frozen_alloc_lt _ _ h.lt]; exact h.free o
  · rw [World.frozen?_setCell]; exact frozen_new _ _ _ _
  · by_cases he : i = I
    · subst he; exact ⟨_, self⟩
    · rw [oth i he]; exact h.out i hi
  · obtain ⟨c, h3, h4, h5, h6⟩ := h.up i h1 h2
    exact ⟨c, (oth i (by omega)).trans h3, h4, h5, fun k hk => ((far _ _ h5).trans (World.cell?_alloc_lt _ _ _ h4)).trans (h6 k hk)⟩
  · rw [hz k hk, Lc_right (by omega)]; rfl
theorem RefPart.next {z : Int} (h : RefPart w O d a b n m I (K + 1)) (hK : K < m) (hz : ((Lc a b I K : Nat) : Int) = z) : RefPart (w.setCell ⟨d, K, none⟩ (.int .i64 z)) O d a b n m I K := by
  have far : ∀ b o, b ≠ d → (w.setCell ⟨d, K, none⟩ (.int .i64 z)).cell? ⟨b, o, none⟩ = w.cell? ⟨b, o, none⟩ := fun b o hb => World.cell?_setCell_other _ _ _ _ (fun e => hb (by injection e with e; exact e.symm))
  have oth : ∀ o, o ≠ K → (w.setCell ⟨d, K, none⟩ (.int .i64 z)).cell? ⟨d, o, none⟩ = w.cell? ⟨d, o, none⟩ := fun o ho => World.cell?_setCell_other _ _ _ _ (fun e => ho (by injection e with _ e; exact e.symm))
  obtain ⟨z0, hz0⟩ := h.some_ K (by omega)
  have self : (w.setCell ⟨d, K, none⟩ (.int .i64 z)).cell? ⟨d, K, none⟩ = some (.int .i64 z) := World.cell?_setCell_same _ _ _ hz0
  have hO : O ≠ d := by have := h.lt; omega
  refine ⟨h.lt, by simpa [World.setCell] using h.ltd, fun o => ?_, fun o => ?_, fun i hi => ?_, fun i h1 h2 => ?_, (far _ _ hO).trans h.here, fun k hk => ?_, fun k hk h1 => ?_⟩
  · rw [World.frozen?_setCell]; exact h.freeO o
  · rw [World.frozen?_setCell]; exact h.freeD o
  · rw [far _ _ hO]; exact h.out i hi
  · obtain ⟨c, h3, h4, h5, h6⟩ := h.up i h1 h2
    exact ⟨c, (far _ _ hO).trans h3, h4, h5, fun k hk => (far _ _ (by omega)).trans (h6 k hk)⟩
  · by_cases he : k = K
    · subst he; exact ⟨_, self⟩
    · rw [oth k he]; exact h.some_ k hk
  · by_cases he : k = K
    · subst he; rw [hz]; exact self
    · rw [oth k he]; exact h.at_ k hk (by omega)
end

set_option maxRecDepth 100000 in
set_option maxHeartbeats 4000000 in
theorem long_any (A B : Option Addr) (n ca m cb : Nat) (a b : List ByteArray) (w : World) (ha : Sl w 1 A n (strV a)) (hb : Sl w 1 B m (strV b)) (hn : n ≤ 1048576) (hm : m ≤ 1048576) :
    Calls Try.prog 47 #[.slice A n ca, .slice B m cb] w fun e w' => ∃ O, e = .returned (.slice (some ⟨O, 0, none⟩) (n + 1) (n + 1)) ∧ Below w.heap.size w w' ∧ RefRows w' O a b n m 0 := by
  have HLA := Lib.hid ha.strLen
  have HLB := Lib.hid hb.strLen
  have hmk1 : ∀ w : World, (Instr.makeSlice 96 (.int .i64 ((n : Int) + 1)) (.int .i64 ((n : Int) + 1))).run Try.prog w = .ok (.slice (some ⟨w.heap.size, 0, none⟩) (n + 1) (n + 1)) (w.alloc (.cells (madeCells #[.slice none 0 0] (n + 1)) 93)) :=
    fun w => run_make_row' (P := Try.prog) 96 93 (.slice none 0 0) 24 Try.underlying96 (by kernel_rfl) rfl .i64 .i64 (n + 1) (by omega) (by omega) w
  have hmk2 : ∀ w : World, (Instr.makeSlice 93 (.int .i64 ((m : Int) + 1)) (.int .i64 ((m : Int) + 1))).run Try.prog w = .ok (.slice (some ⟨w.heap.size, 0, none⟩) (m + 1) (m + 1)) (w.alloc (.cells (madeCells #[.int .i64 0] (m + 1)) 3)) :=
    fun w => run_make_row' (P := Try.prog) 93 3 (.int .i64 0) 8 Try.underlying93 (by kernel_rfl) rfl .i64 .i64 (m + 1) (by omega) (by omega) w
  have hc0 : ∀ (w : World) (o : Obj), ((w.alloc (.cells (madeCells #[.slice none 0 0] (n + 1)) 93)).alloc o).cell? ⟨w.heap.size, n, none⟩ = some (.slice none 0 0) := fun w o => by
    rw [World.cell?_alloc_lt _ _ _ (by simp)]; exact zeroRowS w (n + 1) _ _ n (by omega)
  have hf0 : ∀ (w : World) (o : Obj), ((w.alloc (.cells (madeCells #[.slice none 0 0] (n + 1)) 93)).alloc o).frozen? ⟨w.heap.size, n, none⟩ = false := fun w o => by
    rw [frozen_alloc_lt _ _ (by simp)]; exact frozen_new _ _ _ _
  have hc0' := hc0 w (.cells (madeCells #[.int .i64 0] (m + 1)) 3)
  have hf0' := hf0 w (.cells (madeCells #[.int .i64 0] (m + 1)) 3)
  clear hc0 hf0
  go_enter Try.func47, Try.ntmps47
  go_wp2_with fail
  have R0 : RefRows (((w.alloc (.cells (madeCells #[.slice none 0 0] (n + 1)) 93)).alloc (.cells (madeCells #[.int .i64 0] (m + 1)) 3)).setCell ⟨w.heap.size, n, none⟩ (.slice (some ⟨w.heap.size + 1, 0, none⟩) (m + 1) (m + 1))) w.heap.size a b n m n := by
    refine ⟨by simp [World.setCell]; omega, fun o => ?_, fun i hi => ?_, fun i h1 h2 => ?_⟩
    · rw [World.frozen?_setCell, frozen_alloc_lt _ _ (by simp)]; exact frozen_new _ _ _ _
    · by_cases he : i = n
      · subst he; exact ⟨_, World.cell?_setCell_same _ _ _ hc0'⟩
      · refine ⟨_, (World.cell?_setCell_other _ _ _ _ (fun e => he (by injection e with _ e; exact e.symm))).trans ((World.cell?_alloc_lt _ _ _ (by simp)).trans (zeroRowS w (n + 1) _ _ i (by omega)))⟩
    · obtain rfl : i = n := by omega
      refine ⟨w.heap.size + 1, World.cell?_setCell_same _ _ _ hc0', by simp [World.setCell], by omega, fun k hk => ?_⟩
      rw [World.cell?_setCell_other _ _ _ _ (fun e => by injection e with e; omega), Lc_left (by rw [HLA.out]; exact Nat.le_refl _)]
      have := zeroRowS (w.alloc (.cells (madeCells #[.slice none 0 0] (i + 1)) 93)) (m + 1) 3 (.int .i64 0) k (by omega)
      simpa using this
  have B0 : Below w.heap.size w (((w.alloc (.cells (madeCells #[.slice none 0 0] (n + 1)) 93)).alloc (.cells (madeCells #[.int .i64 0] (m + 1)) 3)).setCell ⟨w.heap.size, n, none⟩ (.slice (some ⟨w.heap.size + 1, 0, none⟩) (m + 1) (m + 1))) :=
    (((Below.refl _ _).alloc (Nat.le_refl _) _).alloc (by simp) _).setCell (by simp) _
  have hW : (((w.alloc (.cells (madeCells #[.slice none 0 0] (n + 1)) 93)).alloc (.cells (madeCells #[.int .i64 0] (m + 1)) 3)).setCell ⟨w.heap.size, n, none⟩ (.slice (some ⟨w.heap.size + 1, 0, none⟩) (m + 1) (m + 1))) =
      ((w.alloc (.cells ((madeCells #[.slice none 0 0] (n + 1)).setIfInBounds n (.slice (some ⟨w.heap.size + 1, 0, none⟩) (m + 1) (m + 1))) 93)).alloc (.cells (madeCells #[.int .i64 0] (m + 1)) 3)) := by go_simp
  rw [hW] at R0 B0
  clear hmk1 hc0' hf0' hW
  go_loopw [6] (fun v wr => ∃ (I : Nat) (z : Int), I ≤ n ∧ v = .int .i64 z ∧ z + 1 = (I : Int) ∧ RefRows wr w.heap.size a b n m I ∧ Below w.heap.size w wr) (fun v _ => (intOf v + 1).toNat)
  case atStart => exact ⟨n, _, Nat.le_refl _, rfl, by omega, R0, B0⟩
  case round =>
    clear R0 B0
    obtain ⟨I, z, hI, rfl, hz, hR, hB⟩ := hrel
    rcases I with _ | I
    · obtain rfl : z = -1 := by omega
      clear hz
      go_wp2_with fail
      go_ret
      exact ⟨_, rfl, hB, hR⟩
    · obtain rfl : z = (I : Int) := by omega
      clear hz
      have hIn : I < n := by omega
      have hP0 := Lib.hid (RefPart.start hR hIn HLB.out 3)
      obtain ⟨v0, g0⟩ := hR.out I (by omega)
      have g0' := (World.cell?_alloc_lt wr (.cells (madeCells #[.int .i64 0] (m + 1)) 3) ⟨w.heap.size, I, none⟩ hR.lt).trans g0
      have f0' := (frozen_alloc_lt wr (.cells (madeCells #[.int .i64 0] (m + 1)) 3) (i := I) hR.lt).trans (hR.free I)
      have hB0 := Lib.hid ((hB.alloc hB.size (.cells (madeCells #[.int .i64 0] (m + 1)) 3)).setCell (p := ⟨w.heap.size, I, none⟩) (Nat.le_refl _) (.slice (some ⟨wr.heap.size, 0, none⟩) (m + 1) (m + 1)))
      have k3 : I < n + 1 := by omega
      clear hR hB g0
      go_wp2_with fail
      obtain ⟨D, hD⟩ : ∃ D, D = wr.heap.size := ⟨_, rfl⟩
      rw [← hD] at hP0 hB0 ⊢
      clear hD
      obtain ⟨wo, rfl⟩ : ∃ wo : World, wo = wr := ⟨_, rfl⟩
      go_loopw [7] (fun v wr => ∃ (K : Nat) (z : Int), K ≤ m ∧ v = .int .i64 z ∧ z + 1 = (K : Int) ∧ RefPart wr w.heap.size D a b n m I K ∧ Below w.heap.size w wr) (fun v _ => (intOf v + 1).toNat)
      case atStart => exact ⟨m, _, Nat.le_refl _, rfl, by omega, hP0.out, hB0.out⟩
      case round =>
        clear hP0 hB0 g0' f0'
        obtain ⟨K, z, hK, rfl, hz, hP, hB⟩ := hrel
        rcases K with _ | K
        · obtain rfl : z = -1 := by omega
          clear hz
          go_wp2_with fail
          go_roundw
          case rel => exact ⟨I, _, by omega, rfl, by omega, hP.done hIn, hB⟩
          case measure => simp [intOf]
        · obtain rfl : z = (K : Int) := by omega
          clear hz
          have hKm : K < m := by omega
          obtain ⟨b1, o1, x, rfl, hb1, cx, gx⟩ := strV_look ha hIn
          obtain ⟨b2, o2, y, rfl, hb2, cy, gy⟩ := strV_look hb hKm
          have cx' := (hB.cell (p := ⟨b1, o1 + I, none⟩) hb1).trans cx
          have cy' := (hB.cell (p := ⟨b2, o2 + K, none⟩) hb2).trans cy
          obtain ⟨c, u1, hc1, hc2, qc⟩ := hP.up (I + 1) (Nat.le_refl _) (by omega)
          have q2 := qc K (by omega)
          have q1 := qc (K + 1) (by omega)
          have u0 := hP.here
          have q3 := hP.at_ (K + 1) (by omega) (Nat.le_refl _)
          obtain ⟨z0, q0⟩ := hP.some_ K (by omega)
          have f0 := hP.freeD K
          have HP := Lib.hid hP
          have HB := Lib.hid hB
          have HN := Lib.hid (Lc_near gx gy)
          have HX := Lib.hid gx
          have HY := Lib.hid gy
          have k1 : K < m + 1 := by omega
          have k2 : K + 1 < m + 1 := by omega
          have k4 : I + 1 < n + 1 := by omega
          have j1 : ((I : Int) + 1).toNat = I + 1 := by omega
          have j2 : ((K : Int) + 1).toNat = K + 1 := by omega
          have j3 : (I : Int) + 1 < (n : Int) + 1 := by omega
          have j4 : (K : Int) + 1 < (m : Int) + 1 := by omega
          have b1' : Lc a b (I + 1) (K + 1) ≤ 1048576 := by have := Lc_le a b (I + 1) (K + 1); rw [HLA.out] at this; omega
          have EI := Lib.hid (IntWalk.i64_in ((I : Int) + 1) (by omega))
          have EK := Lib.hid (IntWalk.i64_in ((K : Int) + 1) (by omega))
          have EV := Lib.hid (IntWalk.i64_in ((Lc a b (I + 1) (K + 1) : Nat) + 1 : Int) (by omega))
          clear gx gy hP hB ha hb cx cy qc
          by_cases hxy : x = y
          · subst hxy
            have HZ := Lib.hid (Lc_eq HX.out HY.out)
            have n1 : Lc a b (I + 1) K ≤ Lc a b (I + 1) (K + 1) + 1 := HN.out.1
            have n2 : Lc a b I (K + 1) ≤ Lc a b (I + 1) (K + 1) + 1 := HN.out.2.1
            generalize Lc a b (I + 1) (K + 1) = v1 at *
            generalize Lc a b (I + 1) K = v2 at *
            generalize Lc a b I (K + 1) = v3 at *
            have key : (decide (v2 < v3) = true ∧ decide ((v2 : Int) < (v3 : Int)) = true ∧ decide ((v3 : Int) < (v1 : Int) + 1) = true) ∨ (decide (v2 < v3) = true ∧ decide ((v2 : Int) < (v3 : Int)) = true ∧ decide ((v3 : Int) < (v1 : Int) + 1) = false) ∨
                (decide (v2 < v3) = false ∧ decide ((v2 : Int) < (v3 : Int)) = false ∧ decide ((v2 : Int) < (v1 : Int) + 1) = true) ∨ (decide (v2 < v3) = false ∧ decide ((v2 : Int) < (v3 : Int)) = false ∧ decide ((v2 : Int) < (v1 : Int) + 1) = false) := by
              simp only [decide_eq_true_eq, decide_eq_false_iff_not]; omega
            rcases key with ⟨d1, d2, d3⟩ | ⟨d1, d2, d3⟩ | ⟨d1, d2, d3⟩ | ⟨d1, d2, d3⟩
            all_goals
              have EI := EI.out
              have EK := EK.out
              have EV := EV.out
              go_wp2_with fail
              go_quiet (fail)
              go_wp2_with fail
              go_roundw
              case rel =>
                simp only [decide_eq_true_eq, decide_eq_false_iff_not] at d1 d2 d3
                clear EI EK EV
                exact ⟨K, _, by omega, rfl, by omega, (HP.out.same ⟨_, rfl⟩).next hKm (by rw [HZ.out]; omega), (HB.out.trans (Same.below ⟨_, rfl⟩ _)).setCell (Nat.le_of_lt HP.out.lt) _⟩
              case measure => simp [intOf]
          · have hne := str_ne hxy
            have HZ := Lib.hid (Lc_ne HX.out HY.out hxy)
            clear hxy
            generalize Lc a b (I + 1) (K + 1) = v1 at *
            generalize Lc a b (I + 1) K = v2 at *
            generalize Lc a b I (K + 1) = v3 at *
            have key : (decide (v2 < v3) = true ∧ decide ((v2 : Int) < (v3 : Int)) = true) ∨ (decide (v2 < v3) = false ∧ decide ((v2 : Int) < (v3 : Int)) = false) := by
              simp only [decide_eq_true_eq, decide_eq_false_iff_not]; omega
            rcases key with ⟨d1, d2⟩ | ⟨d1, d2⟩
            all_goals
              have EI := EI.out
              have EK := EK.out
              go_wp2_with fail
              go_quiet (fail)
              go_wp2_with fail
              go_roundw
              case rel =>
                simp only [decide_eq_true_eq, decide_eq_false_iff_not] at d1 d2
                clear EI EK
                exact ⟨K, _, by omega, rfl, by omega, (HP.out.same ⟨_, rfl⟩).next hKm (by rw [HZ.out]; omega), (HB.out.trans (Same.below ⟨_, rfl⟩ _)).setCell (Nat.le_of_lt HP.out.lt) _⟩
              case measure => simp [intOf]
end Go.Proofs.Ytbdlpigokahnoaa
