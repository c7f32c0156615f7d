/- The walks of package gear: each function computes what GearPlain says. -/
import Derived.Test.YtknbbekinpamjaaGearPlain
import Derived.Deep.QuietTactic
import Derived.BigQuiet
import Derived.Deep.RegionWith
import Derived.Deep.LoopGhost
namespace Go.Proofs.Ytknbbekinpamjaa
open Go.RowKit

theorem gear_any (x : Int) (w : World) (h0 : 0 ≤ x) (h1 : x ≤ 255) :
    Calls Try.prog 32 #[.int .u8 x] w fun e w' => e = .returned (.int .u64 (gearI x)) ∧ w = w' := by
  go_enter Try.func32, Try.ntmps32
  go_wp2
  go_ret
  exact ⟨rfl, rfl⟩

theorem take_any (g : Nat) (h : Int) (x : UInt8) (w : World) (hc : w.cell? ⟨g, 0, none⟩ = some (.int .u64 h)) (hf : w.frozen? ⟨g, 0, none⟩ = false) :
    Calls Try.prog 30 #[.pointer (some ⟨g, 0, none⟩), .int .u8 x.toNat] w fun e w' => e = .returned (.tuple #[]) ∧ (w.setCell ⟨g, 0, none⟩ (.int .u64 (hashI h x))).drew = w' := by
  have h0 : 0 ≤ (x.toNat : Int) := by omega
  have h1 : (x.toNat : Int) ≤ 255 := by have := x.toNat_lt; omega
  go_enter Try.func30, Try.ntmps30
  go_wp2_with fail
  go_region_with (go_at_call 32; refine (gear_any _ _ h0 h1).mono ?_; rintro e w' ⟨rfl, rfl⟩)
  all_goals
    go_end0
    exact ⟨rfl, rfl⟩

theorem ends_any (g : Nat) (h b : Int) (w : World) (h0 : 0 ≤ b) (h1 : b ≤ 20) (hc : w.cell? ⟨g, 0, none⟩ = some (.int .u64 h)) :
    Calls Try.prog 31 #[.pointer (some ⟨g, 0, none⟩), .int .i64 b] w fun e w' => e = .returned (.bool (endsB b h)) ∧ w = w' := by
  go_enter Try.func31, Try.ntmps31
  go_wp2
  go_ret
  exact ⟨rfl, rfl⟩

set_option maxHeartbeats 400000 in
theorem next_any (A : Option Addr) (n c : Nat) (l : List UInt8) (mn mx b : Int) (w : World) (hs : Sl w 1 A n (bytesV l)) (hn : n ≤ 1000000000) (hb0 : 0 ≤ b) (hb1 : b ≤ 20) :
    Calls Try.prog 29 #[.slice A n c, .agg #[.int .i64 mn, .int .i64 mx, .int .i64 b]] w fun e w' =>
      e = .returned (.int .i64 (nextL mn mx b 0 0 l : Nat)) ∧ Below w.heap.size w w' := by
  have hl : l.length = n := by have := hs.1; simpa [bytesV] using this
  have HL := Lib.hid hl
  clear hl
  go_enter Try.func29, Try.ntmps29
  go_wp2_with fail
  go_loopw [11] (fun i wr => ∃ (k : Nat) (h : Int), k ≤ n ∧ i = .int .i64 k ∧ wr.cell? ⟨w.heap.size + 1, 0, none⟩ = some (.int .u64 h) ∧ wr.frozen? ⟨w.heap.size + 1, 0, none⟩ = false ∧
      wr.cell? ⟨w.heap.size, 0, none⟩ = some (.int .i64 mn) ∧ wr.cell? ⟨w.heap.size, 1, none⟩ = some (.int .i64 mx) ∧ wr.cell? ⟨w.heap.size, 2, none⟩ = some (.int .i64 b) ∧
      Below w.heap.size w wr ∧ w.heap.size + 1 < wr.heap.size ∧ Hid (nextL mn mx b h k (l.drop k) = nextL mn mx b 0 0 l)) (fun i _ => n - (intOf i).toNat)
  case atStart =>
    refine ⟨0, 0, by omega, rfl, ?_, ?_, ?_, ?_, ?_, ?_, ?_, ?_⟩
    · go_simp
    · go_simp
    · go_simp
    · go_simp
    · go_simp
    · exact ((Below.refl _ _).alloc (Nat.le_refl _) _).alloc (by simp) _
    · simp
    · exact Lib.hid (by simp)
  case round =>
    obtain ⟨k, h, hk, rfl, c0, f0, c1, c2, c3, hbw, hsz, H⟩ := hrel
    by_cases hlt : k < n
    · obtain ⟨bl, off, x, rfl, hbl, hcu, hd⟩ := bytesV_look hs hlt
      have hcr := (hbw.cell (p := ⟨bl, off + k, none⟩) hbl).trans hcu
      clear hcu hs
      have HD := Lib.hid hd
      clear hd
      have hb' : Below w.heap.size w (wr.setCell ⟨w.heap.size + 1, 0, none⟩ (.int .u64 (hashI h x))).drew := (hbw.setCell (by simp) _).drew
      have HB := Lib.hid hb'
      clear hb'
      have hc0 : (wr.setCell ⟨w.heap.size + 1, 0, none⟩ (.int .u64 (hashI h x))).drew.cell? ⟨w.heap.size + 1, 0, none⟩ = some (.int .u64 (hashI h x)) := by go_simp
      go_wp2_with fail
      refine (take_any _ h x _ c0 f0).mono ?_
      rintro e w' ⟨rfl, rfl⟩
      go_wp2_with (go_at_call 31; refine (ends_any _ (hashI h x) b _ hb0 hb1 hc0).mono ?_; rintro e w' ⟨rfl, rfl⟩)
      · go_ret
        have h1 : (k : Int) + 1 = mx := by assumption
        have := next_stop HD.out H.out (by simp [stopB, h1])
        exact ⟨by rw [this, ← h1]; rfl, HB.out⟩
      · go_ret
        have h1 : mn ≤ (k : Int) + 1 := by assumption
        have h2 : b = 0 := by assumption
        have := next_stop HD.out H.out (by simp [stopB, h1, h2])
        exact ⟨by rw [this]; rfl, HB.out⟩
      · go_ret
        have h1 : mn ≤ (k : Int) + 1 := by assumption
        have h2 : ((k : Int) + 1 == mx) = true ∨ (b == 0) = true ∨ endsB b (hashI h x) = true := by assumption
        have := next_stop HD.out H.out (by simp [stopB, h1]; simpa using h2)
        exact ⟨by rw [this]; rfl, HB.out⟩
      · go_roundw
        case rel =>
          have h2 : ((k : Int) + 1 == mx) = false ∧ (b == 0) = false ∧ endsB b (hashI h x) = false := by assumption
          refine ⟨k + 1, hashI h x, by omega, by go_num, by go_simp, by go_simp, by go_simp, by go_simp, by go_simp, HB.out, by simp [World.setCell]; omega, ?_⟩
          exact Lib.hid (next_go HD.out H.out (by simp [stopB, h2.1, h2.2.1, h2.2.2]))
        case measure => simp [intOf]; omega
      · go_roundw
        case rel =>
          have h2 : ¬ mn ≤ (k : Int) + 1 := by assumption
          have h3 : ((k : Int) + 1 == mx) = false := by assumption
          refine ⟨k + 1, hashI h x, by omega, by go_num, by go_simp, by go_simp, by go_simp, by go_simp, by go_simp, HB.out, by simp [World.setCell]; omega, ?_⟩
          exact Lib.hid (next_go HD.out H.out (by simp [stopB, h2, h3]))
        case measure => simp [intOf]; omega
    · have HK := Lib.hid (next_end H.out HL.out (show k = n by omega))
      go_wp2_with fail
      go_ret
      exact ⟨by rw [← HK.out]; rfl, hbw⟩

theorem check_ok (mn mx b : Int) (w : World) (h : wrongB mn mx b = false) :
    Calls Try.prog 28 #[.agg #[.int .i64 mn, .int .i64 mx, .int .i64 b]] w fun e w' => e = .returned (.int .i64 0) ∧ Below w.heap.size w w' := by
  obtain ⟨h1, h2, h3, h4, h5⟩ := wrongB_false h
  clear h
  go_enter Try.func28, Try.ntmps28
  go_wp2
  go_ret
  exact ⟨rfl, (Below.refl _ _).alloc (Nat.le_refl _) _⟩

theorem check_wrong (mn mx b : Int) (w : World) (h : wrongB mn mx b = true) :
    Calls Try.prog 28 #[.agg #[.int .i64 mn, .int .i64 mx, .int .i64 b]] w fun e w' => e = .returned (.int .i64 1) ∧ Below w.heap.size w w' := by
  have h1 := wrongB_true h
  clear h
  have H := Lib.hid h1
  clear h1
  go_enter Try.func28, Try.ntmps28
  go_wp2
  all_goals
    go_ret
    have h1 := H.out
    first | exact ⟨rfl, (Below.refl _ _).alloc (Nat.le_refl _) _⟩ | (exfalso; simp_all; omega)

theorem elemInt : ElemOf Try.prog 59 3 (.int .i64 0) 1 8 := ⟨Try.underlying59, by kernel_rfl, rfl, by decide⟩
theorem elemByte : ElemOf Try.prog 22 5 (.int .u8 0) 1 1 := ⟨Try.underlying22, by kernel_rfl, rfl, by decide⟩

theorem cut_wrong (A : Option Addr) (n c : Nat) (mn mx b : Int) (w : World) (h : wrongB mn mx b = true) :
    Calls Try.prog 25 #[.slice A n c, .agg #[.int .i64 mn, .int .i64 mx, .int .i64 b]] w fun e w' => e = .returned (.tuple #[.slice none 0 0, .int .i64 1]) ∧ Below w.heap.size w w' := by
  have H := Lib.hid h
  clear h
  go_enter Try.func25, Try.ntmps25
  go_wp2_with fail
  refine (check_wrong mn mx b _ H.out).mono ?_
  rintro e w' ⟨rfl, hb⟩
  go_wp2
  go_ret2
  exact ⟨rfl, ((Below.refl _ _).alloc (Nat.le_refl _) _).trans (hb.mono (by simp))⟩

set_option maxHeartbeats 400000 in
theorem cut_any (A : Option Addr) (n c : Nat) (l : List UInt8) (mn mx b : Int) (w : World) (hs : Sl w 1 A n (bytesV l)) (hc : n ≤ c) (hn : n ≤ 1000000000) (h : wrongB mn mx b = false) :
    Calls Try.prog 25 #[.slice A n c, .agg #[.int .i64 mn, .int .i64 mx, .int .i64 b]] w (CutPost 3 w (cutL mn mx b l)) := by
  have hl : l.length = n := by have := hs.1; simpa [bytesV] using this
  have hm := cutL_length mn mx b l.length l (Nat.le_refl _)
  have HM := Lib.hid hm
  have HL := Lib.hid hl
  have HW := Lib.hid h
  obtain ⟨_, _, _, hb0, hb1⟩ := wrongB_false h
  clear hl h hm
  go_enter Try.func25, Try.ntmps25
  go_wp2_with fail
  refine (check_ok mn mx b _ HW.out).mono ?_
  rintro e w1 ⟨rfl, hb⟩
  have hbw := ((Below.refl w.heap.size w).alloc (Nat.le_refl _) (.cells #[.int .i64 mn, .int .i64 mx, .int .i64 b] 42)).trans (hb.mono (by simp))
  have hz : w.heap.size < w1.heap.size := by have := hb.size; simp at this; omega
  have c1 := (hb.cell (p := ⟨w.heap.size, 0, none⟩) (by simp)).trans (by go_simp : _ = some (.int .i64 mn))
  have c2 := (hb.cell (p := ⟨w.heap.size, 1, none⟩) (by simp)).trans (by go_simp : _ = some (.int .i64 mx))
  have c3 := (hb.cell (p := ⟨w.heap.size, 2, none⟩) (by simp)).trans (by go_simp : _ = some (.int .i64 b))
  clear hb
  go_wp2_with fail
  go_loopw [0, 7] (fun s o wr => ∃ (As : Option Addr) (ns cs : Nat) (r : List UInt8) (Ao : Option Addr) (co : Nat) (d : List Nat), s = .slice As ns cs ∧ Sl w 1 As ns (bytesV r) ∧ ns ≤ cs ∧ ns ≤ n ∧
      o = .slice Ao d.length co ∧ wr.ownsRow (w.heap.size + 1) 3 1 (.slice Ao d.length co) d.length (natsV d) ∧ Below w.heap.size w wr ∧ w.heap.size < wr.heap.size ∧
      wr.cell? ⟨w.heap.size, 0, none⟩ = some (.int .i64 mn) ∧ wr.cell? ⟨w.heap.size, 1, none⟩ = some (.int .i64 mx) ∧ wr.cell? ⟨w.heap.size, 2, none⟩ = some (.int .i64 b) ∧
      Hid (d ++ cutL mn mx b r = cutL mn mx b l)) (fun s _ _ => lenOf s)
  case atStart =>
    exact ⟨A, n, c, l, none, 0, [], rfl, hs, hc, Nat.le_refl _, rfl, World.ownsRow_nil _ _ _ _, hbw, hz, c1, c2, c3, rfl⟩
  case round =>
    obtain ⟨As, ns, cs, r, Ao, co, d, rfl, hsr, hcs, hnn, rfl, hown, hbr, hzr, k1, k2, k3, H⟩ := hrel
    by_cases hz0 : ns = 0
    · subst hz0
      go_wp2_with fail
      go_ret2
      have hr : bytesV r = [] := hsr.empty
      have hr : r = [] := by simpa [bytesV] using hr
      subst hr
      have H' := H.out
      rw [cutL_nil, List.append_nil] at H'
      rw [← H']
      exact ⟨Ao, co, rfl, own_mono hown (by omega), (own_cap hown).1, (own_cap hown).2, hbr⟩
    · have hpos : (0 : Int) < (ns : Int) := by omega
      go_wp2_with fail
      refine (next_any As ns cs r mn mx b _ (hsr.below hbr) (by omega) hb0 hb1).mono ?_
      rintro e w2 ⟨rfl, hb2⟩
      have hrl : r.length = ns := by have := hsr.1; simpa [bytesV] using this
      have hr0 : r ≠ [] := by intro h; subst h; simp at hrl; omega
      have q1 := nextL_pos mn mx b r 0 hr0
      have q2 := nextL_le mn mx b r 0 0
      have q3 := cutL_cons mn mx b hr0
      generalize nextL mn mx b 0 0 r = n1 at *
      have Q3 := Lib.hid q3
      have q4 : n1 ≤ ns := by omega
      have q5 : d.length + 1 ≤ n := by
        have h1 := H.out
        have h2 := HM.out
        have h3 := HL.out
        rw [q3] at h1
        have h4 := congrArg List.length h1
        simp at h4
        omega
      clear q2 q3 hrl hr0
      have hown2 := (own_below hown hb2).alloc (.cells #[.int .i64 (n1 : Int)] 3)
      have hbr2 : Below w.heap.size w (w2.alloc (.cells #[.int .i64 (n1 : Int)] 3)) := (hbr.trans (hb2.mono (by omega))).alloc (by have := hb2.size; omega) _
      have hs2 := Sl.one w2 (.int .i64 (n1 : Int)) 3
      have e1 := (hb2.cell (p := ⟨w.heap.size, 0, none⟩) hzr).trans k1
      have e2 := (hb2.cell (p := ⟨w.heap.size, 1, none⟩) hzr).trans k2
      have e3 := (hb2.cell (p := ⟨w.heap.size, 2, none⟩) hzr).trans k3
      have hz2 : w.heap.size + 1 ≤ w2.heap.size := by have := hb2.size; omega
      clear k1 k2 k3 hown hbr hb2
      obtain ⟨A', c', w3, hrun, hap, hc1, hc2⟩ := append_sl elemInt hown2 hs2 (by simp; rfl) (by omega) (by simp only [maxLen]; omega) (by simp; omega) 59 1
      have hbr3 := hbr2.trans (hap.below.mono (by omega))
      have hw3 := hap.below.size
      have g1 := (hap.below.cell (p := ⟨w.heap.size, 0, none⟩) (by simp)).trans ((World.cell?_alloc_lt w2 _ _ (show w.heap.size < w2.heap.size by omega)).trans e1)
      have g2 := (hap.below.cell (p := ⟨w.heap.size, 1, none⟩) (by simp)).trans ((World.cell?_alloc_lt w2 _ _ (show w.heap.size < w2.heap.size by omega)).trans e2)
      have g3 := (hap.below.cell (p := ⟨w.heap.size, 2, none⟩) (by simp)).trans ((World.cell?_alloc_lt w2 _ _ (show w.heap.size < w2.heap.size by omega)).trans e3)
      have hsr' := hsr.from1 q4 hcs
      have hz3 : w.heap.size < w3.heap.size := by simp at hw3; omega
      have hown3 := hap.own
      clear hap e1 e2 e3 hbr2 hown2 hs2
      go_wp2_with (at_builtin; refine wpList_run_append hrun ?_ ?_ ?_; exact rfl; exact rfl)
      go_roundw
      case rel =>
        refine ⟨_, ns - n1, cs - n1, r.drop n1, A', c', d ++ [n1], rfl, ?_, by omega, by omega, ?_, ?_, hbr3, hz3, g1, g2, g3, ?_⟩
        · rw [← bytesV_drop]; exact hsr'
        · rw [List.length_append]; rfl
        · simpa [natsV] using hown3
        · have h1 := H.out
          rw [Q3.out] at h1
          exact Lib.hid (by simpa using h1)
      case measure => simp [lenOf]; omega
end Go.Proofs.Ytknbbekinpamjaa
