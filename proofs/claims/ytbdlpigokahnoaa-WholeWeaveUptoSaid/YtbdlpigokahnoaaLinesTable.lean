/- The table of package lines: at and fill. -/
import Derived.Test.YtbdlpigokahnoaaLinesPlain
import Derived.Test.YtbdlpigokahnoaaRegion
import Derived.Deep.OwnRows
import Derived.Deep.QuietTactic
import Derived.BigQuiet
import Derived.IntWalk
import Derived.Outline
set_option linter.unusedVariables false
namespace Go.Proofs.Ytbdlpigokahnoaa
open Go.RowKit

theorem at_any (T C S j : Nat) (W i k : Int) (w : World) (h0 : w.cell? ⟨T, 0, none⟩ = some (.slice (some ⟨C, 0, none⟩) S S)) (h1 : w.cell? ⟨T, 1, none⟩ = some (.int .i64 W))
    (hi : 0 ≤ i) (hi' : i ≤ 1048577) (hW : 0 ≤ W) (hW' : W ≤ 1048577) (hk : 0 ≤ k) (hk' : k ≤ 1048577) (hj : i * W + k = (j : Int)) (hlt : j < S) (hS : S ≤ 1000000000) :
    Calls Try.prog 36 #[.pointer (some ⟨T, 0, none⟩), .int .i64 i, .int .i64 k] w fun e w' => e = .returned (.pointer (some ⟨C, j, none⟩)) ∧ Same w w' := by
  have hm : 0 ≤ i * W := Int.mul_nonneg hi hW
  have hm' : i * W ≤ 1048577 * 1048577 := Int.mul_le_mul hi' hW' hW (by omega)
  have e1 : IntKind.i64.wrap (i * W) = i * W := IntWalk.i64_in _ (by omega)
  have e2 : IntKind.i64.wrap (i * W + k) = j := by rw [hj]; exact IntWalk.i64_in _ (by omega)
  clear hm hm' hj hi hi' hW hW' hk hk'
  go_enter Try.func36, Try.ntmps36
  go_wp2_with fail
  go_quiet (fail)
  go_wp2_with fail
  go_ret
  exact ⟨rfl, nq, rfl⟩

/-- The table of a and b, whole: for each two ends how long the longest common list is. -/
structure Tab (w : World) (T C : Nat) (a b : List ByteArray) : Prop where
  c0 : w.cell? ⟨T, 0, none⟩ = some (.slice (some ⟨C, 0, none⟩) ((a.length + 1) * (b.length + 1)) ((a.length + 1) * (b.length + 1)))
  c1 : w.cell? ⟨T, 1, none⟩ = some (.int .i64 ((b.length : Int) + 1))
  lt : T < w.heap.size
  ltC : C < w.heap.size
  at_ : ∀ i k, i ≤ a.length → k ≤ b.length → w.cell? ⟨C, i * (b.length + 1) + k, none⟩ = some (.int .i64 (Lc a b i k : Nat))

theorem Tab.below {w w' : World} {T C : Nat} {a b : List ByteArray} (h : Tab w T C a b) (hb : Below w.heap.size w w') : Tab w' T C a b :=
  ⟨(hb.cell (p := ⟨T, 0, none⟩) h.lt).trans h.c0, (hb.cell (p := ⟨T, 1, none⟩) h.lt).trans h.c1, Nat.lt_of_lt_of_le h.lt hb.size, Nat.lt_of_lt_of_le h.ltC hb.size, fun i k hi hk => (hb.cell (p := ⟨C, _, none⟩) h.ltC).trans (h.at_ i k hi hk)⟩

/-- The table under way: rows from I on are done, of row I - 1 the places from K on. -/
structure Part (w : World) (T C : Nat) (a b : List ByteArray) (n m S I K : Nat) : Prop where
  c0 : w.cell? ⟨T, 0, none⟩ = some (.slice (some ⟨C, 0, none⟩) S S)
  c1 : w.cell? ⟨T, 1, none⟩ = some (.int .i64 ((m : Int) + 1))
  lt : T < w.heap.size
  ltC : C < w.heap.size
  ne : T ≠ C
  free : ∀ o, w.frozen? ⟨C, o, none⟩ = false
  some_ : ∀ i k, i ≤ n → k ≤ m → ∃ z, w.cell? ⟨C, i * (m + 1) + k, none⟩ = some (.int .i64 z)
  at_ : ∀ i k, i ≤ n → k ≤ m → (I ≤ i ∨ (I = i + 1 ∧ K ≤ k) ∨ k = m) → w.cell? ⟨C, i * (m + 1) + k, none⟩ = some (.int .i64 (Lc a b i k : Nat))

section
variable {w w' : World} {T C n m S I K : Nat} {a b : List ByteArray}
theorem Part.row (h : Part w T C a b n m S (I + 1) 0) : Part w T C a b n m S I m :=
  ⟨h.c0, h.c1, h.lt, h.ltC, h.ne, h.free, h.some_, fun i k hi hk hc => h.at_ i k hi hk (by omega)⟩
theorem Part.down (h : Part w T C a b n m S I m) (K : Nat) (hK : K = m) : Part w T C a b n m S I K := by subst hK; exact h
theorem Part.same (h : Part w T C a b n m S I K) (hs : Same w w') : Part w' T C a b n m S I K := by obtain ⟨q, rfl⟩ := hs; exact ⟨h.c0, h.c1, h.lt, h.ltC, h.ne, h.free, h.some_, h.at_⟩
theorem Part.done (h : Part w T C a b n m S 0 K) (hn : a.length = n) (hm : b.length = m) (hS : (n + 1) * (m + 1) = S) : Tab w T C a b := by
  subst hn hm hS
  exact ⟨h.c0, h.c1, h.lt, h.ltC, fun i k hi hk => h.at_ i k hi hk (.inl (Nat.zero_le _))⟩

/-- a store at the next place -/
theorem Part.next {z : Nat} (h : Part w T C a b n m S (I + 1) (K + 1)) (hI : I < n) (hK : K < m) (hz : Lc a b I K = z) {j : Nat} (hj : j = I * (m + 1) + K) :
    Part (w.setCell ⟨C, j, none⟩ (.int .i64 (z : Int))) T C a b n m S (I + 1) K := by
  subst hj
  have h5 := h.ne
  have far : ∀ o, (w.setCell ⟨C, I * (m + 1) + K, none⟩ (.int .i64 (z : Int))).cell? ⟨T, o, none⟩ = w.cell? ⟨T, o, none⟩ :=
    fun o => World.cell?_setCell_other w _ _ _ (fun e => h5 (by injection e with e; exact e.symm))
  have oth : ∀ i k, i ≤ n → k ≤ m → ¬ (i = I ∧ k = K) → (w.setCell ⟨C, I * (m + 1) + K, none⟩ (.int .i64 (z : Int))).cell? ⟨C, i * (m + 1) + k, none⟩ = w.cell? ⟨C, i * (m + 1) + k, none⟩ := by
    intro i k hi hk hne
    refine World.cell?_setCell_other w _ _ _ (fun e => hne ?_)
    injection e with _ e
    exact idx_inj hk (by omega) e.symm
  obtain ⟨z0, hz0⟩ := h.some_ I K (by omega) (by omega)
  have self : (w.setCell ⟨C, I * (m + 1) + K, none⟩ (.int .i64 (z : Int))).cell? ⟨C, I * (m + 1) + K, none⟩ = some (.int .i64 (z : Int)) :=
    World.cell?_setCell_same _ _ _ hz0
  refine ⟨(far 0).trans h.c0, (far 1).trans h.c1, by simpa [World.setCell] using h.lt, by simpa [World.setCell] using h.ltC, h5, fun o => ?_, fun i k hi hk => ?_, fun i k hi hk hc => ?_⟩
  · rw [World.frozen?_setCell]; exact h.free o
  · by_cases he : i = I ∧ k = K
    · obtain ⟨rfl, rfl⟩ := he; exact ⟨_, self⟩
    · rw [oth i k hi hk he]; exact h.some_ i k hi hk
  · by_cases he : i = I ∧ k = K
    · obtain ⟨rfl, rfl⟩ := he; rw [hz]; exact self
    · rw [oth i k hi hk he]; exact h.at_ i k hi hk (by omega)
end

theorem zeroRow (w : World) (S : Nat) (e : TypeId) (o : Nat) (h : o < S) : (w.alloc (.cells (madeCells #[.int .i64 0] S) e)).cell? ⟨w.heap.size, o, none⟩ = some (.int .i64 0) := by
  rw [cell_of_row _ w.heap.size o _ e (0, 0) (heap_alloc_new w _)]
  simp [madeCells, h, Nat.mod_one]

set_option maxHeartbeats 1000000 in
theorem fill_any (A B : Option Addr) (n ca m cb : Nat) (a b : List ByteArray) (w : World) (ha : Sl w 1 A n (strV a)) (hb : Sl w 1 B m (strV b)) (hn : n ≤ 1048576) (hm : m ≤ 1048576) (hp : n * m ≤ 1048576) :
    Calls Try.prog 35 #[.slice A n ca, .slice B m cb] w fun e w' => ∃ T C, e = .returned (.pointer (some ⟨T, 0, none⟩)) ∧ Below w.heap.size w w' ∧ Tab w' T C a b := by
  have hla := ha.strLen
  have hlb := hb.strLen
  have hS : (n + 1) * (m + 1) = n * m + n + m + 1 := by rw [Nat.add_mul, Nat.mul_add]; omega
  have hS' : ((n : Int) + 1) * ((m : Int) + 1) = (((n + 1) * (m + 1) : Nat) : Int) := by push_cast; rfl
  have e1 : IntKind.i64.wrap (((n : Int) + 1) * ((m : Int) + 1)) = (((n + 1) * (m + 1) : Nat) : Int) := by rw [hS']; exact IntWalk.i64_in _ (by omega)
  have hmk := fun w : World => run_make_row' (P := Try.prog) 93 3 (.int .i64 0) 8 Try.underlying93 (by kernel_rfl) rfl .i64 .i64 ((n + 1) * (m + 1)) (by omega) (by omega) w
  have HLA := Lib.hid hla
  have HLB := Lib.hid hlb
  have HS := Lib.hid hS
  have hS3 : (n + 1) * (m + 1) ≤ 4000000 := by omega
  clear hla hlb hS hS'
  generalize hSS : (n + 1) * (m + 1) = S at *
  have HSS := Lib.hid hSS
  clear hSS
  go_enter Try.func35, Try.ntmps35
  go_wp2_with fail
  have P0 : Part ((w.alloc (.cells (madeCells #[.int .i64 0] S) 3)).alloc (.cells #[.slice (some ⟨w.heap.size, 0, none⟩) S S, .int .i64 ((m : Int) + 1)] 95)) (w.heap.size + 1) w.heap.size a b n m S n m := by
    have hz : ∀ i k, i ≤ n → k ≤ m → ((w.alloc (.cells (madeCells #[.int .i64 0] S) 3)).alloc (.cells #[.slice (some ⟨w.heap.size, 0, none⟩) S S, .int .i64 ((m : Int) + 1)] 95)).cell? ⟨w.heap.size, i * (m + 1) + k, none⟩ = some (.int .i64 0) := fun i k hi hk => by
      rw [World.cell?_alloc_lt _ _ _ (by simp)]
      exact zeroRow w S _ _ (by rw [← HSS.out]; exact idx_lt hi hk)
    refine ⟨by go_simp, by go_simp, by simp, by simp; omega, by omega, fun o => by go_simp, fun i k hi hk => ⟨0, hz i k hi hk⟩, fun i k hi hk hc => ?_⟩
    rw [hz i k hi hk]
    have : Lc a b i k = 0 := by
      rcases Nat.lt_or_ge i n with h1 | h1
      · have h2 : k = m := by omega
        exact Lc_right (by rw [HLB.out, h2]; exact Nat.le_refl _)
      · exact Lc_left (by rw [HLA.out]; exact h1)
    rw [this]; rfl
  have B0 : Below w.heap.size w ((w.alloc (.cells (madeCells #[.int .i64 0] S) 3)).alloc (.cells #[.slice (some ⟨w.heap.size, 0, none⟩) S S, .int .i64 ((m : Int) + 1)] 95)) :=
    ((Below.refl _ _).alloc (Nat.le_refl _) _).alloc (by simp) _
  clear e1 hmk
  go_loopw [6] (fun v wr => ∃ (I : Nat) (z : Int), I ≤ n ∧ v = .int .i64 z ∧ z + 1 = (I : Int) ∧ Part wr (w.heap.size + 1) w.heap.size a b n m S I m ∧ Below w.heap.size w wr) (fun v _ => (intOf v + 1).toNat)
  case atStart => exact ⟨n, _, Nat.le_refl _, rfl, by omega, P0, B0⟩
  case round =>
    clear P0 B0
    obtain ⟨I, z, hI, rfl, hz, hP, hB⟩ := hrel
    rcases I with _ | I
    · obtain rfl : z = -1 := by omega
      clear hz
      go_wp2_with fail
      go_ret
      exact ⟨_, _, rfl, hB, hP.done HLA.out HLB.out HSS.out⟩
    · obtain rfl : z = (I : Int) := by omega
      clear hz
      have hIn : I < n := by omega
      go_wp2_with fail
      obtain ⟨wo, rfl⟩ : ∃ wo : World, wo = wr := ⟨_, rfl⟩
      go_loopw [7] (fun v wr => ∃ (K : Nat) (z : Int), K ≤ m ∧ v = .int .i64 z ∧ z + 1 = (K : Int) ∧ Part wr (w.heap.size + 1) w.heap.size a b n m S (I + 1) K ∧ Below w.heap.size w wr) (fun v _ => (intOf v + 1).toNat)
      case atStart => exact ⟨m, _, Nat.le_refl _, rfl, by omega, hP, hB⟩
      case round =>
        clear hP hB
        obtain ⟨K, z, hK, rfl, hz, hP, hB⟩ := hrel
        rcases K with _ | K
        · obtain rfl : z = -1 := by omega
          clear hz
          go_wp2_with fail
          go_roundw
          case rel => exact ⟨I, _, by omega, rfl, by omega, hP.row, hB⟩
          case measure => simp [intOf]
        · obtain rfl : z = (K : Int) := by omega
          clear hz
          have hKm : K < m := by omega
          obtain ⟨b1, o1, x, rfl, hb1, cx, gx⟩ := strV_look ha hIn
          obtain ⟨b2, o2, y, rfl, hb2, cy, gy⟩ := strV_look hb hKm
          have cx' := (hB.cell (p := ⟨b1, o1 + I, none⟩) hb1).trans cx
          have cy' := (hB.cell (p := ⟨b2, o2 + K, none⟩) hb2).trans cy
          have HX := Lib.hid gx
          have HY := Lib.hid gy
          have HB := Lib.hid hB
          have HP := Lib.hid hP
          clear gx gy hB hP ha hb cx cy
          have hw0 : Same wr wr := Same.refl _
          by_cases hxy : x = y
          · subst hxy
            go_wp2_with fail
            go_quiet (fail)
            have hs1 : Same wr (wr.drewN nq) := ⟨nq, rfl⟩
            generalize wr.drewN nq = w1 at *
            have hP1 := HP.out.same hs1
            have hB1 := HB.out.trans (hs1.below _)
            clear cx' cy' HP HB hs1
            have p0 := hP1.c0
            have p1 := hP1.c1
            have pf := hP1.free
            obtain ⟨j0, hj0⟩ : ∃ j, j = I * (m + 1) + K := ⟨_, rfl⟩
            obtain ⟨j1, hj1⟩ : ∃ j, j = (I + 1) * (m + 1) + (K + 1) := ⟨_, rfl⟩
            have q1 := hP1.at_ (I + 1) (K + 1) (by omega) (by omega) (.inl (Nat.le_refl _))
            obtain ⟨z0, q0⟩ := hP1.some_ I K (by omega) (by omega)
            rw [← hj0] at q0
            rw [← hj1] at q1
            have l0 : j0 < S := by rw [hj0, ← HSS.out]; exact idx_lt (by omega) (by omega)
            have l1 : j1 < S := by rw [hj1, ← HSS.out]; exact idx_lt (by omega) (by omega)
            have I0 : Hid ((I : Int) * ((m : Int) + 1) + (K : Int) = (j0 : Int)) := by rw [hj0]; push_cast; rfl
            have I1 : Hid (((I : Int) + 1) * ((m : Int) + 1) + ((K : Int) + 1) = (j1 : Int)) := by rw [hj1]; push_cast; rfl
            have HJ0 := Lib.hid hj0
            have b1' : Lc a b (I + 1) (K + 1) ≤ 1048576 := by have := Lc_le a b (I + 1) (K + 1); rw [HLA.out] at this; omega
            have HZ := Lib.hid (Lc_eq HX.out HY.out)
            have HP := Lib.hid hP1
            have HB := Lib.hid hB1
            clear hj0 hj1 hP1 hB1
            generalize hL1 : Lc a b (I + 1) (K + 1) = v1 at *
            have HL1 := Lib.hid hL1
            clear hL1
            go_wp2_with fail
            refine (at_any _ _ S j0 _ _ _ _ p0 p1 (by omega) (by omega) (by omega) (by omega) (by omega) (by omega) I0.out l0 (by omega)).mono ?_
            rintro e w2 ⟨rfl, s2⟩
            have r0 := (s2.cell _).trans p0
            have r1 := (s2.cell _).trans p1
            go_wp2_with fail
            refine (at_any _ _ S j1 _ _ _ _ r0 r1 (by omega) (by omega) (by omega) (by omega) (by omega) (by omega) I1.out l1 (by omega)).mono ?_
            rintro e w3 ⟨rfl, s3⟩
            have t3 := s2.trans s3
            have r1 := (t3.cell _).trans q1
            have r0 := (t3.cell _).trans q0
            have rf := (t3.frozen _).trans (pf j0)
            have hP3 := Lib.hid (HP.out.same t3)
            have hB3 := Lib.hid (HB.out.trans (t3.below _))
            clear s2 s3 p0 p1 q0 q1 pf HP HB t3
            go_wp2_with fail
            go_roundw
            case rel => exact ⟨K, _, by omega, rfl, by omega, hP3.out.next hIn hKm HZ.out HJ0.out, hB3.out.setCell (by simp) _⟩
            case measure => simp [intOf]
          · have HN := Lib.hid hxy
            have hxy' := str_ne hxy
            clear hxy
            go_wp2_with fail
            go_quiet (fail)
            have hs1 : Same wr (wr.drewN nq) := ⟨nq, rfl⟩
            generalize wr.drewN nq = w1 at *
            have hP1 := HP.out.same hs1
            have hB1 := HB.out.trans (hs1.below _)
            clear cx' cy' HP HB hs1 hxy'
            have p0 := hP1.c0
            have p1 := hP1.c1
            have pf := hP1.free
            obtain ⟨j0, hj0⟩ : ∃ j, j = I * (m + 1) + K := ⟨_, rfl⟩
            obtain ⟨j2, hj2⟩ : ∃ j, j = (I + 1) * (m + 1) + K := ⟨_, rfl⟩
            obtain ⟨j3, hj3⟩ : ∃ j, j = I * (m + 1) + (K + 1) := ⟨_, rfl⟩
            have q2 := hP1.at_ (I + 1) K (by omega) (by omega) (.inl (Nat.le_refl _))
            have q3 := hP1.at_ I (K + 1) (by omega) (by omega) (.inr (.inl ⟨rfl, Nat.le_refl _⟩))
            obtain ⟨z0, q0⟩ := hP1.some_ I K (by omega) (by omega)
            rw [← hj0] at q0
            rw [← hj2] at q2
            rw [← hj3] at q3
            have l0 : j0 < S := by rw [hj0, ← HSS.out]; exact idx_lt (by omega) (by omega)
            have l2 : j2 < S := by rw [hj2, ← HSS.out]; exact idx_lt (by omega) (by omega)
            have l3 : j3 < S := by rw [hj3, ← HSS.out]; exact idx_lt (by omega) (by omega)
            have I0 : Hid ((I : Int) * ((m : Int) + 1) + (K : Int) = (j0 : Int)) := by rw [hj0]; push_cast; rfl
            have I2 : Hid (((I : Int) + 1) * ((m : Int) + 1) + (K : Int) = (j2 : Int)) := by rw [hj2]; push_cast; rfl
            have I3 : Hid ((I : Int) * ((m : Int) + 1) + ((K : Int) + 1) = (j3 : Int)) := by rw [hj3]; push_cast; rfl
            have HJ0 := Lib.hid hj0
            have b2' : Lc a b (I + 1) K ≤ 1048576 := by have := Lc_le a b (I + 1) K; rw [HLA.out] at this; omega
            have b3' : Lc a b I (K + 1) ≤ 1048576 := by have := Lc_le a b I (K + 1); rw [HLA.out] at this; omega
            have HZ := Lib.hid (Lc_ne HX.out HY.out HN.out)
            have HP := Lib.hid hP1
            have HB := Lib.hid hB1
            have hj0' := hj0
            have hj2' := hj2
            have hj3' := hj3
            clear hj0 hj2 hj3 hP1 hB1
            generalize Lc a b (I + 1) K = v2 at *
            generalize Lc a b I (K + 1) = v3 at *
            have EI := Lib.hid (IntWalk.i64_in ((I : Int) + 1) (by omega))
            have EK := Lib.hid (IntWalk.i64_in ((K : Int) + 1) (by omega))
            have HS0 : Same w1 w1.drew := (Same.refl _).drew
            go_wp2_with fail
            have n2 : j2 ≠ j0 := by intro e; rw [hj2', hj0'] at e; have := idx_inj (by omega) (by omega) e; omega
            have n3 : j3 ≠ j0 := by intro e; rw [hj3', hj0'] at e; have := idx_inj (by omega) (by omega) e; omega
            clear hj0' hj2' hj3'
            refine wp_region_held (S := fun w' => Off w1 ⟨w.heap.size, j0, none⟩ w') (by kernel_rfl) ?_
            change wpAnyH _ _ _ _ _ _ _ _ (World.drew _)
            refine held_take (i := 0) (v := ?_) (a' := ?_) rfl (by kernel_rfl) (by kernel_rfl) (by kernel_rfl) (fun _ _ _ h => h) (by rfl) (HS0.off _) ?_ ?_ ?_
            rotate_left 2
            · (intro w hS; go_simp; try with_reducible rfl)
            · (go_simp; try with_reducible rfl)
            refine held_take (i := 1) (v := ?_) (a' := ?_) rfl (by kernel_rfl) (by kernel_rfl) (by kernel_rfl) (fun _ _ _ h => h) (by rfl) (HS0.off _) ?_ ?_ ?_
            rotate_left 2
            · (intro w hS; go_simp; try with_reducible rfl)
            · (go_simp; try with_reducible rfl)
            refine held_take (i := 2) (v := ?_) (a' := ?_) rfl (by kernel_rfl) (by kernel_rfl) (by kernel_rfl) (fun _ _ _ h => h) (by rfl) (HS0.off _) ?_ ?_ ?_
            rotate_left 2
            · (intro w hS; go_simp; try with_reducible rfl)
            · (go_simp; try with_reducible rfl)
            refine held_take (i := 4) (v := ?_) (a' := ?_) rfl (by kernel_rfl) (by kernel_rfl) (by kernel_rfl) (fun _ _ _ h => h) (by rfl) (HS0.off _) ?_ ?_ ?_
            rotate_left 2
            · (intro w hS; go_simp; try with_reducible rfl)
            · (go_simp; try with_reducible rfl)
            refine held_take (i := 5) (v := ?_) (a' := ?_) rfl (by kernel_rfl) (by kernel_rfl) (by kernel_rfl) (fun _ _ _ h => h) (by rfl) (HS0.off _) ?_ ?_ ?_
            rotate_left 2
            · (intro w hS; go_simp; try with_reducible rfl)
            · (go_simp; try with_reducible rfl)
            refine held_take (i := 6) (v := ?_) (a' := ?_) rfl (by kernel_rfl) (by kernel_rfl) (by kernel_rfl) (fun _ _ _ h => h) (by rfl) (HS0.off _) ?_ ?_ ?_
            rotate_left 2
            · (intro w hS; have r := EI.out; go_simp; try with_reducible rfl)
            · (go_simp; try with_reducible rfl)
            refine held_take (i := 7) (v := ?_) (a' := ?_) rfl (by kernel_rfl) (by kernel_rfl) (by kernel_rfl) (fun _ _ _ h => h) (by rfl) (HS0.off _) ?_ ?_ ?_
            rotate_left 2
            · (intro w hS; go_simp; try with_reducible rfl)
            · (go_simp; try with_reducible rfl)
            refine held_take (i := 11) (v := ?_) (a' := ?_) rfl (by kernel_rfl) (by kernel_rfl) (by kernel_rfl) (fun _ _ _ h => h) (by rfl) (HS0.off _) ?_ ?_ ?_
            rotate_left 2
            · (intro w hS; go_simp; try with_reducible rfl)
            · (go_simp; try with_reducible rfl)
            refine held_take (i := 12) (v := ?_) (a' := ?_) rfl (by kernel_rfl) (by kernel_rfl) (by kernel_rfl) (fun _ _ _ h => h) (by rfl) (HS0.off _) ?_ ?_ ?_
            rotate_left 2
            · (intro w hS; go_simp; try with_reducible rfl)
            · (go_simp; try with_reducible rfl)
            refine held_take (i := 13) (v := ?_) (a' := ?_) rfl (by kernel_rfl) (by kernel_rfl) (by kernel_rfl) (fun _ _ _ h => h) (by rfl) (HS0.off _) ?_ ?_ ?_
            rotate_left 2
            · (intro w hS; go_simp; try with_reducible rfl)
            · (go_simp; try with_reducible rfl)
            refine held_take (i := 14) (v := ?_) (a' := ?_) rfl (by kernel_rfl) (by kernel_rfl) (by kernel_rfl) (fun _ _ _ h => h) (by rfl) (HS0.off _) ?_ ?_ ?_
            rotate_left 2
            · (intro w hS; have r := EK.out; go_simp; try with_reducible rfl)
            · (go_simp; try with_reducible rfl)
            refine held_ready (rs := [3]) (by kernel_rfl) (by simp) ?_
            refine AllHeld.cons rfl (fun KR hKR => ?_) ?_
            · go_simp
              refine (at_any _ _ S j0 _ _ _ _ ((HS0.cell _).trans p0) ((HS0.cell _).trans p1) (by omega) (by omega) (by omega) (by omega) (by omega) (by omega) I0.out l0 (by omega)).mono ?_
              rintro e w2 ⟨rfl, s2⟩
              have HS1 := HS0.trans s2
              refine hKR _ _ (HS1.off _) ?_
              clear hKR KR
              refine held_ready (rs := [8]) (by kernel_rfl) (by simp) ?_
              refine AllHeld.cons rfl (fun KR hKR => ?_) ?_
              · go_simp
                refine (at_any _ _ S j2 _ _ _ _ ((HS1.cell _).trans p0) ((HS1.cell _).trans p1) (by omega) (by omega) (by omega) (by omega) (by omega) (by omega) I2.out l2 (by omega)).mono ?_
                rintro e w3 ⟨rfl, s3⟩
                have HS2 := HS1.trans s3
                refine hKR _ _ (HS2.off _) ?_
                clear hKR KR
                refine held_take (i := 9) (v := ?_) (a' := ?_) rfl (by kernel_rfl) (by kernel_rfl) (by kernel_rfl) (fun _ _ _ h => h) (by rfl) (HS2.off _) ?_ ?_ ?_
                rotate_left 2
                · (intro w hS; go_simp; try with_reducible rfl)
                · (go_simp; try with_reducible rfl)
                refine held_take (i := 10) (v := ?_) (a' := ?_) rfl (by kernel_rfl) (by kernel_rfl) (by kernel_rfl) (fun _ _ _ h => h) (by rfl) (HS2.off _) ?_ ?_ ?_
                rotate_left 2
                · (intro w hS; have r := (hS _ (addr_ne n2)).trans q2; go_simp; try with_reducible rfl)
                · (go_simp; try with_reducible rfl)
                refine held_ready (rs := [15]) (by kernel_rfl) (by simp) ?_
                refine AllHeld.cons rfl (fun KR hKR => ?_) ?_
                · go_simp
                  refine (at_any _ _ S j3 _ _ _ _ ((HS2.cell _).trans p0) ((HS2.cell _).trans p1) (by omega) (by omega) (by omega) (by omega) (by omega) (by omega) I3.out l3 (by omega)).mono ?_
                  rintro e w4 ⟨rfl, s4⟩
                  have HS3 := HS2.trans s4
                  refine hKR _ _ (HS3.off _) ?_
                  clear hKR KR
                  refine held_take (i := 16) (v := ?_) (a' := ?_) rfl (by kernel_rfl) (by kernel_rfl) (by kernel_rfl) (fun _ _ _ h => h) (by rfl) (HS3.off _) ?_ ?_ ?_
                  rotate_left 2
                  · (intro w hS; go_simp; try with_reducible rfl)
                  · (go_simp; try with_reducible rfl)
                  refine held_take (i := 17) (v := ?_) (a' := ?_) rfl (by kernel_rfl) (by kernel_rfl) (by kernel_rfl) (fun _ _ _ h => h) (by rfl) (HS3.off _) ?_ ?_ ?_
                  rotate_left 2
                  · (intro w hS; have r := (hS _ (addr_ne n3)).trans q3; go_simp; try with_reducible rfl)
                  · (go_simp; try with_reducible rfl)
                  refine held_take (i := 18) (v := ?_) (a' := ?_) rfl (by kernel_rfl) (by kernel_rfl) (by kernel_rfl) (fun _ _ _ h => h) (by rfl) (HS3.off _) ?_ ?_ ?_
                  rotate_left 2
                  · (intro w hS; go_simp; try with_reducible rfl)
                  · (go_simp; try with_reducible rfl)
                  refine held_take (i := 19) (v := ?_) (a' := ?_) rfl (by kernel_rfl) (by kernel_rfl) (by kernel_rfl) (fun _ _ _ h => h) (by rfl) (HS3.off _) ?_ ?_ ?_
                  rotate_left 2
                  · (intro w hS; go_simp; try with_reducible rfl)
                  · (go_simp; try with_reducible rfl)
                  refine held_ready (rs := [20]) (by kernel_rfl) (by simp) ?_
                  refine AllHeld.cons rfl (fun KR hKR => ?_) ?_
                  · have r := (HS3.cell _).trans q0
                    have rf := (HS3.frozen _).trans (pf j0)
                    go_simp
                    have HSE := HS3
                    refine hKR _ _ (HS3.offStore _ _) ?_
                    clear hKR KR
                    refine wpAnyH_done (by kernel_rfl) ?_ _
                    go_wp2_with fail
                    have hv : (if v2 < v3 then (v3 : Int) else (v2 : Int)) = ((max v2 v3 : Nat) : Int) := by split <;> omega
                    rw [hv]
                    have hP4 := HP.out.same HS3
                    have hB4 := HB.out.trans (HS3.below _)
                    go_roundw
                    case rel => exact ⟨K, _, by omega, rfl, by omega, hP4.next hIn hKm HZ.out HJ0.out, hB4.setCell (by simp) _⟩
                    case measure => simp [intOf]
                  exact AllHeld.nil
                exact AllHeld.nil
              exact AllHeld.nil
            exact AllHeld.nil
end Go.Proofs.Ytbdlpigokahnoaa
