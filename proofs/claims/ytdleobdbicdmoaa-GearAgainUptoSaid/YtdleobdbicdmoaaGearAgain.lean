/- The walk of the law GearAgain. -/
import Derived.Test.YtdleobdbicdmoaaGearAwake
import Derived.Test.YtdleobdbicdmoaaGearSame
import Derived.Test.YtdleobdbicdmoaaGearLaws
import Derived.Deep.RegionHeld3
import Derived.Deep.RegionLaw
import Derived.Deep.DrawnRows
set_option linter.unusedVariables false
namespace Go.Proofs.Ytdleobdbicdmoaa
open Go.RowKit
attribute [local go_sem ↓] Go.wp_at_zero Go.wp_at_succ

/-- what 'whole' asks -/
def wholeB (b : List UInt8) (L : List Nat) (mn mx bits : Int) : Bool :=
  L.isEmpty || (decide (L.length < (cutL mn mx bits (b ++ [0, 1, 2, 3, 4, 5, 6, 7])).length) && sameB ((cutL mn mx bits (b ++ [0, 1, 2, 3, 4, 5, 6, 7])).take L.length) L)

set_option maxHeartbeats 1000000 in
theorem whole_any (A : Option Addr) (n c : Nat) (l : List UInt8) (B : Option Addr) (m d : Nat) (L : List Nat) (mn mx b : Int) (w : World) (hs : Sl w 1 A n (bytesV l)) (hL : Sl w 1 B m (natsV L)) (hc : n ≤ c) (hn : n ≤ 1048576) (hm : m ≤ 1048576) (h : wrongB mn mx b = false) :
    Calls Try.prog 10 #[.slice A n c, .slice B m d, .agg #[.int .i64 mn, .int .i64 mx, .int .i64 b]] w fun e w' => e = .returned (.bool (wholeB l L mn mx b)) ∧ Below w.heap.size w w' := by
  by_cases h0 : m = 0
  · subst h0
    have hLn : L = [] := by simpa [natsV] using hL.empty
    have hT : wholeB l L mn mx b = true := by simp [wholeB, hLn]
    have HT := Lib.hid hT
    clear hT
    go_enter Try.func10, Try.ntmps10
    go_wp2_with fail
    go_ret
    exact ⟨by rw [HT.out]; rfl, (Below.refl _ _).alloc (Nat.le_refl _) _⟩
  · have hpos : ((m : Int) == 0) = false := by simp; omega
    go_enter Try.func10, Try.ntmps10
    go_wp2_with fail
    obtain ⟨w1, hw1⟩ : ∃ w1, w1 = w.alloc (.cells #[.int .i64 mn, .int .i64 mx, .int .i64 b] 25) := ⟨_, rfl⟩
    rw [← hw1]
    have hb1 : Below w.heap.size w w1 := by rw [hw1]; exact (Below.refl _ _).alloc (Nat.le_refl _) _
    have p1 : w1.cell? ⟨w.heap.size, 0, none⟩ = some (.int .i64 mn) := by rw [hw1]; go_simp
    have p2 : w1.cell? ⟨w.heap.size, 1, none⟩ = some (.int .i64 mx) := by rw [hw1]; go_simp
    have p3 : w1.cell? ⟨w.heap.size, 2, none⟩ = some (.int .i64 b) := by rw [hw1]; go_simp
    have hz1 : w1.heap.size = w.heap.size + 1 := by rw [hw1]; simp
    have hs1 := hs.below hb1
    clear hw1
    have HZ := Lib.hid hz1
    clear hz1 hs
    obtain ⟨lits, hlits⟩ : ∃ lits : Array Value, lits = (bytesV [0, 1, 2, 3, 4, 5, 6, 7]).toArray := ⟨_, rfl⟩
    have hlits' : lits = #[.int .u8 0, .int .u8 1, .int .u8 2, .int .u8 3, .int .u8 4, .int .u8 5, .int .u8 6, .int .u8 7] := by rw [hlits]; rfl
    have H1 : (w1.alloc (.cells #[] 5)).ownsRow w1.heap.size 5 1 (.slice (some ⟨w1.heap.size, 0, none⟩) 0 0) 0 [] := own_made' rfl (by omega)
    have H2 := H1.alloc (.cells #[.int .u8 0, .int .u8 1, .int .u8 2, .int .u8 3, .int .u8 4, .int .u8 5, .int .u8 6, .int .u8 7] 5)
    have H3 : ((w1.alloc (.cells #[.int .u8 0, .int .u8 1, .int .u8 2, .int .u8 3, .int .u8 4, .int .u8 5, .int .u8 6, .int .u8 7] 5)).alloc (.cells #[] 5)).ownsRow w1.heap.size 5 1 (.slice (some ⟨w1.heap.size + 1, 0, none⟩) 0 0) 0 [] := own_made' (by simp) (by omega)
    have G1 := Lib.hid H1
    have G2 := Lib.hid H2
    have G3 := Lib.hid H3
    clear H1 H2 H3 hlits hlits' lits
    have O1 := bytesV_one l
    have HO1 := Lib.hid O1
    clear O1
    have HO2 : Hid (∀ u ∈ #[Value.int .u8 0, .int .u8 1, .int .u8 2, .int .u8 3, .int .u8 4, .int .u8 5, .int .u8 6, .int .u8 7].toList, u.oneCell' = true) := Lib.hid (by simp [Value.oneCell'])
    have HY : Hid (bytesV l ++ #[Value.int .u8 0, .int .u8 1, .int .u8 2, .int .u8 3, .int .u8 4, .int .u8 5, .int .u8 6, .int .u8 7].toList = bytesV (l ++ [0, 1, 2, 3, 4, 5, 6, 7])) := Lib.hid (by simp [bytesV])
    have L2 : Sl ((w1.alloc (.cells #[] 5)).alloc (.cells #[.int .u8 0, .int .u8 1, .int .u8 2, .int .u8 3, .int .u8 4, .int .u8 5, .int .u8 6, .int .u8 7] 5)) 1 (some ⟨w1.heap.size + 1, 0, none⟩) 8 #[Value.int .u8 0, .int .u8 1, .int .u8 2, .int .u8 3, .int .u8 4, .int .u8 5, .int .u8 6, .int .u8 7].toList := Sl.fresh' (by simp) rfl
    have L3 : Sl ((w1.alloc (.cells #[.int .u8 0, .int .u8 1, .int .u8 2, .int .u8 3, .int .u8 4, .int .u8 5, .int .u8 6, .int .u8 7] 5)).alloc (.cells #[] 5)) 1 (some ⟨w1.heap.size, 0, none⟩) 8 #[Value.int .u8 0, .int .u8 1, .int .u8 2, .int .u8 3, .int .u8 4, .int .u8 5, .int .u8 6, .int .u8 7].toList := (Sl.fresh' rfl rfl).alloc _
    have K2 := Lib.hid L2
    have K3 := Lib.hid L3
    clear L2 L3
    have hlt : w.heap.size < w1.heap.size := by rw [HZ.out]; omega
    go_region_held3 (fun w' => w'.cell? ⟨w.heap.size, 0, none⟩ = some (.int .i64 mn) ∧ w'.cell? ⟨w.heap.size, 1, none⟩ = some (.int .i64 mx) ∧ w'.cell? ⟨w.heap.size, 2, none⟩ = some (.int .i64 b))
      (first | go_keep | (refine cells3_keep hb6 (by have q4 := hap4.below.size; have q2 := hap2.below.size; simp at q2 q4; omega) ?_; go_keep) | (refine cells3_keep hap4.below hlt ?_; go_keep) | (refine cells3_keep hap2.below hlt ?_; go_keep))
      (first
        | (refine step_append_sl (by rfl) (.tmp 13) (.tmp 14) (by rfl) elemByte w1.heap.size 0 [] (v := .slice (some ⟨_, 0, none⟩) 0 0) (by rfl) (by first | exact G1.out | exact G2.out | exact G3.out) n (bytesV l) (by rfl) (by first | exact hs1.alloc _ | exact (hs1.alloc _).alloc _) HO1.out n (by omega) (bytesV l) (by rfl) (by omega) (by simp only [maxLen]; omega) (by simp; try omega) ?_; intro A2 c2 w2 hap2 hc2 hm2)
        | (refine step_append_sl (by rfl) (.tmp 15) (.tmp 16) (by rfl) elemByte w1.heap.size n (bytesV l) (v := .slice A2 n c2) (by rfl) (by first | exact hap2.own | exact hap2.own.alloc _) 8 #[Value.int .u8 0, .int .u8 1, .int .u8 2, .int .u8 3, .int .u8 4, .int .u8 5, .int .u8 6, .int .u8 7].toList (by rfl) (by first | exact Sl.fresh' rfl rfl | exact hap2.sl K2.out (by simp [Value.ownBlock]) | exact hap2.sl K3.out (by simp [Value.ownBlock])) HO2.out (n + 8) (by omega) (bytesV (l ++ [0, 1, 2, 3, 4, 5, 6, 7])) HY.out (by omega) (by simp only [maxLen]; omega) (by first | (have := hap2.below.size; simp at this ⊢; omega) | (simp; omega)) ?_; intro A4 c4 w4 hap4 hc4 hm4)
        | (go_at_call 9; refine (cut_any A4 (n + 8) c4 (l ++ [0, 1, 2, 3, 4, 5, 6, 7]) mn mx b _ (Sl.ofOwn hap4.own) hc4 (by omega) h).mono ?_; rintro e w6 ⟨A6, c6, rfl, hM, hMc, hMm, hb6⟩))
    all_goals
      have q2 : Below w1.heap.size w1 w2 := by first | exact (((Below.refl _ _).alloc (Nat.le_refl _) _).drew.trans hap2.below) | exact ((((Below.refl _ _).alloc (Nat.le_refl _) _).alloc (by simp) _).drew.trans hap2.below)
      have q4 : Below w1.heap.size w1 w4 := by first | exact q2.trans hap4.below | exact (q2.alloc q2.size _).trans hap4.below
      have q6 := q4.trans (hb6.mono q4.size)
      have hbw := hb1.trans (q6.mono (by omega))
      have hL6 := hL.below hbw
      have hlL : L.length = m := by have := hL.1; simpa [natsV] using this
      have hM6 := Sl.ofOwn hM
      have hMl := cutL_length mn mx b (l ++ [0, 1, 2, 3, 4, 5, 6, 7]).length _ (Nat.le_refl _)
      have hll : l.length = n := by have := hs1.1; simpa [bytesV] using this
      simp only [List.length_append, List.length_cons, List.length_nil, hll] at hMl
      have hfin : wholeB l L mn mx b = (decide (m < (cutL mn mx b (l ++ [0, 1, 2, 3, 4, 5, 6, 7])).length) && sameB ((cutL mn mx b (l ++ [0, 1, 2, 3, 4, 5, 6, 7])).take m) L) := by
        have : L.isEmpty = false := by cases L with
          | nil => simp at hlL; omega
          | cons => rfl
        unfold wholeB
        rw [this, hlL]; rfl
      have HF := Lib.hid hfin
      clear hfin hlL hll q2 q4 q6 hap2 hap4 hb6 hM hL hs1 hb1 hm2 hm4
      generalize cutL mn mx b (l ++ [0, 1, 2, 3, 4, 5, 6, 7]) = M at *
      by_cases hlen : m < M.length
      · have hT : decide (m < M.length) = true := by simpa using hlen
        have hcut := hM6.upto (Nat.le_of_lt hlen)
        have hcut2 : Sl w6 1 A6 m (natsV (M.take m)) := by simpa [natsV] using hcut
        have HF2 : Hid (wholeB l L mn mx b = sameB (M.take m) L) := Lib.hid (by rw [HF.out, hT]; rfl)
        have hlen' : (m : Int) ≤ (c6 : Int) := by omega
        have hlen2 : (m : Int) < (M.length : Int) := by omega
        clear hT HF hcut hM6
        go_wp2_with fail
        refine (same_any _ _ m c6 m d (M.take m) L _ hcut2 hL6 (by omega) (by omega)).mono ?_
        rintro e w7 ⟨rfl, q, rfl⟩
        go_wp2_with fail
        go_ret
        exact ⟨by rw [HF2.out]; rfl, below_drewN hbw q⟩
      · have hT : decide (m < M.length) = false := by simpa using hlen
        have HF2 : Hid (wholeB l L mn mx b = false) := Lib.hid (by rw [HF.out, hT]; rfl)
        clear hT HF
        go_wp2_with fail
        go_ret
        exact ⟨by rw [HF2.out]; rfl, hbw⟩
end Go.Proofs.Ytdleobdbicdmoaa
