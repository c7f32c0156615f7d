/- The walk of the law GearEdit: where a byte is changed, the chunks that end ahead of it are the same. -/
import Derived.Test.YtdleobdbicdmoaaGearAwake
import Derived.Test.YtdleobdbicdmoaaGearSame
import Derived.Test.YtdleobdbicdmoaaGearLaws
set_option linter.unusedVariables false
namespace Go.Proofs.Ytdleobdbicdmoaa
open Go.RowKit

theorem bytesV_set (l : List UInt8) (k : Nat) (x : UInt8) : (bytesV l).set k (.int .u8 (x.toNat : Int)) = bytesV (l.set k x) := by
  simp [bytesV, List.map_set]

theorem take_set_eq (l : List UInt8) (k : Nat) (x : UInt8) : l.take k = (l.set k x).take k := by
  rw [List.take_set_of_le (Nat.le_refl _)]

set_option maxHeartbeats 400000 in
theorem edit_out (A : Option Addr) (n c : Nat) (l : List UInt8) (at_ : Int) (x : UInt8) (w : World) (hn : n ≤ 1048576) (hat : at_ < 0 ∨ (n : Int) ≤ at_) :
    Calls Try.prog 3 #[.slice A n c, .int .i64 at_, .int .u8 x.toNat] w fun e w' => e = .returned (.bool true) ∧ Below w.heap.size w w' := by
  by_cases h0 : at_ < 0
  · go_enter Try.func3, Try.ntmps3
    go_wp2_with fail
    refine (awake_any _).mono ?_
    rintro e w1 ⟨rfl, hb⟩
    go_wp2_with fail
    go_ret
    exact ⟨rfl, hb⟩
  · have h1 : (n : Int) ≤ at_ := by omega
    clear hat
    go_enter Try.func3, Try.ntmps3
    go_wp2_with fail
    refine (awake_any _).mono ?_
    rintro e w1 ⟨rfl, hb⟩
    go_wp2_with fail
    go_ret
    exact ⟨rfl, hb⟩

set_option maxHeartbeats 1000000 in
theorem edit_in (A : Option Addr) (n c : Nat) (l : List UInt8) (k : Nat) (x : UInt8) (w : World) (hs : Sl w 1 A n (bytesV l)) (hc : n ≤ c) (hn : n ≤ 1048576) (hk : k < n) :
    Calls Try.prog 3 #[.slice A n c, .int .i64 k, .int .u8 x.toNat] w fun e w' => e = .returned (.bool true) ∧ Below w.heap.size w w' := by
  have hl : l.length = n := by have := hs.1; simpa [bytesV] using this
  have HL := Lib.hid hl
  clear hl
  go_enter Try.func3, Try.ntmps3
  go_wp2_with fail
  refine (awake_any _).mono ?_
  rintro e w1 ⟨rfl, hb1⟩
  have hs1 := (hs.below hb1)
  have hk' : (k : Int) < (n : Int) := by omega
  have hk0 : (0 : Int) ≤ (k : Int) := by omega
  -- the copy: a new empty row, then append
  have hown := own_made (base := w1.heap.size + 1) (w1.alloc (.cells #[.int .i64 4, .int .i64 64, .int .i64 3] 25)) 5 1 (by simp)
  simp only [World.size_alloc] at hown
  obtain ⟨A', c', w2, hrun, hap, hc1, hc2⟩ := append_sl elemByte hown ((hs1.alloc _).alloc _) (bytesV_one l) (by omega) (by simp only [maxLen]; omega) (by simp) 22 c
  simp only [Nat.zero_add, List.nil_append] at hrun hap hc1
  have hown2 := hap.own
  have hbel2 := hap.below
  clear hap hown
  obtain ⟨g, rfl, hg, hg2⟩ := own_at hown2 (by omega)
  have kc := (hown2.cellAt k (by omega)).trans (bytesV_get l k (by rw [HL.out]; exact hk))
  have kf := hown2.frozenAt k
  have hst := (hown2.stored k (.int .u8 x.toNat)).1
  rw [bytesV_set] at hst
  have p1 := (hbel2.cell (p := ⟨w1.heap.size, 0, none⟩) (by simp)).trans (by go_simp : _ = some (.int .i64 4))
  have p2 := (hbel2.cell (p := ⟨w1.heap.size, 1, none⟩) (by simp)).trans (by go_simp : _ = some (.int .i64 64))
  have p3 := (hbel2.cell (p := ⟨w1.heap.size, 2, none⟩) (by simp)).trans (by go_simp : _ = some (.int .i64 3))
  have q1 := (World.cell?_setCell_other w2 ⟨g, k, none⟩ ⟨w1.heap.size, 0, none⟩ (.int .u8 x.toNat) (by intro e; injection e with e; omega)).trans p1
  have q2 := (World.cell?_setCell_other w2 ⟨g, k, none⟩ ⟨w1.heap.size, 1, none⟩ (.int .u8 x.toNat) (by intro e; injection e with e; omega)).trans p2
  have q3 := (World.cell?_setCell_other w2 ⟨g, k, none⟩ ⟨w1.heap.size, 2, none⟩ (.int .u8 x.toNat) (by intro e; injection e with e; omega)).trans p3
  clear p1 p2 p3 hown2
  go_wp2_with (at_builtin; refine wpList_run_append hrun ?_ ?_ ?_; exact rfl; exact rfl)
  have hbw : Below w1.heap.size w1 (w2.setCell ⟨g, k, none⟩ (.int .u8 x.toNat)) := ((((Below.refl _ _).alloc (Nat.le_refl _) _).alloc (by simp) _).trans (hbel2.mono (by omega))).setCell (by simp; omega) _
  have hbw0 := hb1.trans (hbw.mono hb1.size)
  have hsz := hbw.size
  refine (cut_any A n c l 4 64 3 _ (hs1.below hbw) hc (by omega) (by decide)).mono ?_
  rintro e w3 ⟨AL, cL, rfl, hL, hLc, hLm, hb3⟩
  have hsM := (Sl.ofOwn hst).below hb3
  have hbw3 := hbw0.trans (hb3.mono (by have := hb1.size; omega))
  have r1 := (hb3.cell (p := ⟨w1.heap.size, 0, none⟩) (World.block_lt_of_cell? _ _ q1)).trans q1
  have r2 := (hb3.cell (p := ⟨w1.heap.size, 1, none⟩) (World.block_lt_of_cell? _ _ q2)).trans q2
  have r3 := (hb3.cell (p := ⟨w1.heap.size, 2, none⟩) (World.block_lt_of_cell? _ _ q3)).trans q3
  clear q1 q2 q3 hst kc kf hbw hbw0 hbel2 hrun hs1 hs
  go_wp2_with fail
  refine (cut_any _ n c' (l.set k x) 4 64 3 _ hsM hc1 (by omega) (by decide)).mono ?_
  rintro e w4 ⟨AM, cM, rfl, hM, hMc, hMm, hb4⟩
  have hsL := (Sl.ofOwn hL).below hb4
  have hsM := (Sl.ofOwn hM)
  have hbw4 := hbw3.trans (hb4.mono (by have := hb1.size; have := hb3.size; omega))
  have hLn := cutL_length 4 64 3 l.length l (Nat.le_refl _)
  have hMn := cutL_length 4 64 3 (l.set k x).length (l.set k x) (Nat.le_refl _)
  have hsum := cut_sum 4 64 3 l.length l (Nat.le_refl _)
  have hcom := fun i => cut_common 4 64 3 i l (l.set k x) k (take_set_eq l k x) (by rw [HL.out]; exact hk)
  rw [List.length_set] at hMn
  rw [HL.out] at hLn hMn hsum
  clear r1 r2 r3 hb3 hb4 hL hM hLc hLm hMc hMm
  generalize cutL 4 64 3 l = L at *
  generalize cutL 4 64 3 (l.set k x) = M at *
  have HS := Lib.hid hsum
  have HC := Lib.hid hcom
  clear hsum hcom
  go_wp2_with fail
  go_loopw [13, 14] (fun s i wr => ∃ j q : Nat, j ≤ L.length ∧ s = .int .i64 ((L.take j).sum : Nat) ∧ i = .int .i64 j ∧ wr = w4.drewN q ∧ (L.take j).sum ≤ k) (fun _ i _ => L.length - (intOf i).toNat)
  case atStart => exact ⟨0, 0, by omega, rfl, rfl, rfl, by simp⟩
  case round =>
    obtain ⟨j, q, hj, rfl, rfl, rfl, hjk⟩ := hrel
    by_cases hlt : j < L.length
    · obtain ⟨b1, o1, y, rfl, _, c1, hy⟩ := natsV_look hsL hlt
      have hsu := sum_take_succ hy
      have hle := sum_take_le L (j + 1)
      rw [HS.out] at hle
      have hy2 : (L.take j).sum + y ≤ n := by omega
      by_cases hgt : k < (L.take j).sum + y
      · have hgt' : (k : Int) < ((L.take j).sum : Nat) + (y : Nat) := by omega
        clear hsu hle hy
        generalize (L.take j).sum = S at *
        go_wp2_with fail
        go_ret
        exact ⟨rfl, below_drewN hbw4 q⟩
      · have hco := HC.out j hlt (by omega)
        rw [hy] at hco
        have hjM : j < M.length := by
          rcases Nat.lt_or_ge j M.length with h | h
          · exact h
          · rw [List.getElem?_eq_none h] at hco; cases hco
        obtain ⟨b2, o2, z, rfl, _, c2, hz⟩ := natsV_look hsM hjM
        rw [hco] at hz
        injection hz with hz
        subst hz
        have hgt' : ¬ (k : Int) < ((L.take j).sum : Nat) + (y : Nat) := by omega
        have HSU := Lib.hid hsu
        clear hsu hle hy hco
        generalize hS : (L.take j).sum = S at *
        clear hS
        have hge : decide ((M.length : Int) ≤ (j : Int)) = false := by simp; omega
        go_wp2_with fail
        go_quiet (fail)
        go_wp2_with fail
        go_roundw
        case rel => exact ⟨j + 1, q + _, by omega, by rw [HSU.out]; go_num, by go_num, rfl, by rw [HSU.out]; omega⟩
        case measure => simp [intOf]; omega
    · go_wp2_with fail
      go_ret
      exact ⟨rfl, below_drewN hbw4 q⟩

theorem edit_walk (A : Option Addr) (n c : Nat) (l : List UInt8) (k : Int) (x : UInt8) (w : World) (hs : Sl w 1 A n (bytesV l)) (hc : n ≤ c) (hm : c ≤ maxLen) (hn : n ≤ 1048576) (wf : (Lit.int .i64 k).wf = true) :
    Calls Try.prog 3 #[.slice A n c, .int .i64 k, .int .u8 x.toNat] w fun e w' => e = .returned (.bool true) ∧ Below w.heap.size w w' := by
  by_cases h : k < 0 ∨ (n : Int) ≤ k
  · exact edit_out A n c l k x w hn h
  · obtain ⟨j, rfl⟩ : ∃ j : Nat, k = (j : Int) := ⟨k.toNat, by omega⟩
    exact edit_in A n c l j x w hs hc hn (by omega)
end Go.Proofs.Ytdleobdbicdmoaa
