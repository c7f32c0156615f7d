/- The document's Pairs. -/
import Derived.Test.YtbdlpigokahnoaaLinesRefTable
import Derived.Test.YtbdlpigokahnoaaLinesPairs
set_option linter.unusedVariables false
namespace Go.Proofs.Ytbdlpigokahnoaa
open Go.RowKit

theorem elemRefPair : ElemOf Try.prog 75 99 (.agg #[.int .i64 0, .int .i64 0]) 2 16 := ⟨Try.underlying75, by kernel_rfl, rfl, by decide⟩

theorem refPairs_long (A B : Option Addr) (n ca m cb : Nat) (w : World) (hn : n ≤ 1048576) (hm : m ≤ 1048576) (hp : 1048576 < n * m) :
    Calls Try.prog 37 #[.slice A n ca, .slice B m cb] w fun e w' => e = .returned (.tuple #[.slice none 0 0, .int .i64 2]) ∧ w = w' := by
  have h1 : n * m ≤ 1048576 * 1048576 := Nat.mul_le_mul hn hm
  have h2 : (n : Int) * (m : Int) = ((n * m : Nat) : Int) := by push_cast; rfl
  have e1 : IntKind.i64.wrap ((n : Int) * (m : Int)) = ((n * m : Nat) : Int) := by rw [h2]; exact IntWalk.i64_in _ (by omega)
  have h3 : (1048576 : Int) < ((n * m : Nat) : Int) := by omega
  generalize n * m = q at *
  clear h1 h2
  go_enter Try.func37, Try.ntmps37
  go_wp2_with fail
  go_ret2
  exact ⟨rfl, rfl⟩

def RefPairsPost (W : World) (a b : List ByteArray) (e : Ending) (w' : World) : Prop :=
  ∃ A c, e = .returned (.tuple #[.slice A (pairsAt a b 0 0).length c, .int .i64 0]) ∧ w'.ownsRow W.heap.size 99 2 (.slice A (pairsAt a b 0 0).length c) (pairsAt a b 0 0).length (pairV (pairsAt a b 0 0)) ∧
    (pairsAt a b 0 0).length ≤ c ∧ c ≤ maxLen ∧ Below W.heap.size W w'

set_option maxHeartbeats 2000000 in
theorem refPairs_any (A B : Option Addr) (n ca m cb : Nat) (a b : List ByteArray) (w : World) (ha : Sl w 1 A n (strV a)) (hb : Sl w 1 B m (strV b)) (hn : n ≤ 1048576) (hm : m ≤ 1048576) (hp : n * m ≤ 1048576) :
    Calls Try.prog 37 #[.slice A n ca, .slice B m cb] w (RefPairsPost w a b) := by
  have HLA := Lib.hid ha.strLen
  have HLB := Lib.hid hb.strLen
  have h2 : (n : Int) * (m : Int) = ((n * m : Nat) : Int) := by push_cast; rfl
  have e1 : IntKind.i64.wrap ((n : Int) * (m : Int)) = ((n * m : Nat) : Int) := by rw [h2]; exact IntWalk.i64_in _ (by omega)
  have h3 : ((n * m : Nat) : Int) ≤ (1048576 : Int) := by omega
  generalize n * m = qq at *
  clear h2 hp
  go_enter Try.func37, Try.ntmps37
  go_wp2_with fail
  refine (long_any A B n ca m cb a b w ha hb hn hm).mono ?_
  rintro e w1 ⟨O, rfl, hb1, hT⟩
  have ha1 := ha.below hb1
  have hbb1 := hb.below hb1
  have HT := Lib.hid hT
  clear hT ha hb e1 h3
  go_wp2_with fail
  go_loopw [7, 8, 9] (fun o i k wr => ∃ (I K : Nat) (d : List (Nat × Nat)) (Ao : Option Addr) (co : Nat), o = .slice Ao d.length co ∧ i = .int .i64 I ∧ k = .int .i64 K ∧ I ≤ n ∧ K ≤ m ∧ d.length ≤ I ∧
    wr.ownsRow w1.heap.size 99 2 (.slice Ao d.length co) d.length (pairV d) ∧ Below w1.heap.size w1 wr ∧ Hid (d ++ pairsAt a b I K = pairsAt a b 0 0)) (fun _ i k _ => (n - (intOf i).toNat) + (m - (intOf k).toNat))
  case atStart => exact ⟨0, 0, [], none, 0, rfl, rfl, rfl, by omega, by omega, by simp, World.ownsRow_nil _ _ _ _, Below.refl _ _, Lib.hid rfl⟩
  case round =>
    obtain ⟨I, K, d, Ao, co, rfl, rfl, rfl, hI, hK, hd, hown, hbr, H⟩ := hrel
    by_cases hIn : I < n
    · by_cases hKm : K < m
      · obtain ⟨b1, o1, x, rfl, hb1', cx, gx⟩ := strV_look ha1 hIn
        obtain ⟨b2, o2, y, rfl, hb2', cy, gy⟩ := strV_look hbb1 hKm
        have cx' := (hbr.cell (p := ⟨b1, o1 + I, none⟩) hb1').trans cx
        have cy' := (hbr.cell (p := ⟨b2, o2 + K, none⟩) hb2').trans cy
        have HX := Lib.hid gx
        have HY := Lib.hid gy
        have HTR := Lib.hid (HT.out.below hbr)
        have HBR := Lib.hid hbr
        have HO := Lib.hid hown
        clear gx gy cx cy ha1 hbb1 hbr hown
        have i1 : (I : Int) < (n : Int) := by omega
        have i2 : (K : Int) < (m : Int) := by omega
        by_cases hxy : x = y
        · subst hxy
          go_wp2_with fail
          go_quiet (fail)
          have hs1 : Same wr (wr.drewN nq) := ⟨nq, rfl⟩
          generalize wr.drewN nq = w2 at *
          have hown2 := (hs1.own HO.out).alloc (.cells #[.int .i64 (I : Int), .int .i64 (K : Int)] 99)
          have hbr2 : Below w1.heap.size w1 (w2.alloc (.cells #[.int .i64 (I : Int), .int .i64 (K : Int)] 99)) := (HBR.out.trans (hs1.below _)).alloc (by have h1 := HBR.out.size; have h2 := hs1.size; omega) _
          have hs2 := Sl.fresh w2 #[.int .i64 (I : Int), .int .i64 (K : Int)] 99 (0, 0) 1 2 rfl
          obtain ⟨A', c', w3, hrun, hap, hc1, hc2⟩ := append_sl (P := Try.prog) elemRefPair hown2 hs2 (by simp; exact ⟨rfl, rfl⟩) (by omega) (by simp only [maxLen]; omega) hbr2.size 75 1
          have hbr3 := Lib.hid (hbr2.trans hap.below)
          have hown3 := Lib.hid hap.own
          clear hown2 hbr2 hs2 hap HBR HO cx' cy' hs1
          go_wp2_with (at_builtin; refine wpList_run_append hrun ?_ ?_ ?_; exact rfl; exact rfl)
          go_roundw
          case rel =>
            refine ⟨I + 1, K + 1, d ++ [(I, K)], A', c', by rw [List.length_append]; rfl, by go_num, by go_num, by omega, by omega, by simp; omega, ?_, hbr3.out, ?_⟩
            · rw [List.length_append, ← pairV_snoc]; exact hown3.out
            · have h1 := H.out
              rw [pairsAt_eq HX.out HY.out] at h1
              exact Lib.hid (by simpa using h1)
          case measure => simp [intOf]; omega
        · have hne := str_ne hxy
          have HN := Lib.hid hxy
          clear hxy
          go_wp2_with fail
          go_quiet (fail)
          have hs1 : Same wr (wr.drewN nq) := ⟨nq, rfl⟩
          have HTS := HTR.out.below (hs1.below _)
          generalize wr.drewN nq = w2 at *
          have hbr2 := Lib.hid (HBR.out.trans (hs1.below _))
          have hown2 := Lib.hid (hs1.own HO.out)
          clear HBR HO cx' cy' hs1 HTR
          obtain ⟨c1, u1, _, _, p1⟩ := HTS.up (I + 1) (by omega) (by omega)
          obtain ⟨c0, u0, _, _, p0⟩ := HTS.up I (by omega) (by omega)
          have q1 := p1 K (by omega)
          have q0 := p0 K (by omega)
          clear p1 p0
          have hmx := Lib.hid (Lc_ne HX.out HY.out HN.out)
          have k1 : K < m + 1 := by omega
          have k2 : I + 1 < n + 1 := by omega
          have k3 : I < n + 1 := by omega
          have k4 : (I : Int) + 1 < (n : Int) + 1 := by omega
          have k5 : ((I : Int) + 1).toNat = I + 1 := by omega
          have EI := Lib.hid (IntWalk.i64_in ((I : Int) + 1) (by omega))
          clear HTS
          by_cases hle : Lc a b I (K + 1) ≤ Lc a b (I + 1) K
          · have HA' := Lib.hid (pairsAt_a HX.out HY.out HN.out hle)
            have he : Lc a b (I + 1) K = Lc a b I K := by rw [hmx.out]; omega
            rw [he] at q1
            generalize Lc a b I K = v0 at *
            clear hle he hmx
            have EI := EI.out
            go_wp2_with fail
            go_quiet (fail)
            go_wp2_with fail
            go_roundw
            case rel => exact ⟨I + 1, K, d, Ao, co, rfl, by go_num, rfl, by omega, by omega, by omega, Same.own ⟨_, rfl⟩ hown2.out, hbr2.out.trans (Same.below ⟨_, rfl⟩ _), Lib.hid (by rw [← HA'.out]; exact H.out)⟩
            case measure => simp [intOf]; omega
          · have HA' := Lib.hid (pairsAt_b HX.out HY.out HN.out hle)
            have he : ¬ Lc a b (I + 1) K = Lc a b I K := by rw [hmx.out]; omega
            generalize Lc a b (I + 1) K = v1 at *
            generalize Lc a b I K = v0 at *
            have d3 : ¬ (v1 : Int) = (v0 : Int) := by omega
            have d1 : ((v1 : Int) == (v0 : Int)) = false := by rw [beq_eq_false_iff_ne]; omega
            clear hle hmx
            have EI := EI.out
            go_wp2_with fail
            go_quiet (fail)
            go_wp2_with fail
            go_roundw
            case rel => exact ⟨I, K + 1, d, Ao, co, rfl, rfl, by go_num, by omega, by omega, by omega, Same.own ⟨_, rfl⟩ hown2.out, hbr2.out.trans (Same.below ⟨_, rfl⟩ _), Lib.hid (by rw [← HA'.out]; exact H.out)⟩
            case measure => simp [intOf]; omega
      · have i1 : (I : Int) < (n : Int) := by omega
        have i2 : ¬ (K : Int) < (m : Int) := by omega
        have HE := Lib.hid (pairsAt_end (a := a) (b := b) (i := I) (k := K) (by rw [HLB.out]; omega))
        go_wp2_with fail
        go_ret2
        have h1 := H.out
        rw [HE.out, List.append_nil] at h1
        rw [RefPairsPost, ← h1]
        exact ⟨Ao, co, rfl, own_mono hown hb1.size, (own_cap hown).1, (own_cap hown).2, hb1.trans (hbr.mono hb1.size)⟩
    · have i1 : ¬ (I : Int) < (n : Int) := by omega
      have HE := Lib.hid (pairsAt_end (a := a) (b := b) (i := I) (k := K) (by rw [HLA.out]; omega))
      go_wp2_with fail
      go_ret2
      have h1 := H.out
      rw [HE.out, List.append_nil] at h1
      rw [RefPairsPost, ← h1]
      exact ⟨Ao, co, rfl, own_mono hown hb1.size, (own_cap hown).1, (own_cap hown).2, hb1.trans (hbr.mono hb1.size)⟩
end Go.Proofs.Ytbdlpigokahnoaa
