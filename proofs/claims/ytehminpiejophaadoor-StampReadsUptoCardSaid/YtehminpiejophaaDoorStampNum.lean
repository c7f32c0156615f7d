/- stamp.number: digits without a nought ahead. -/
import Derived.Test.YtehminpiejophaaDoorStampPrint
import Derived.Test.YtehminpiejophaaDoorStampLdexp
import Derived.Lib.SmallJoins
set_option linter.unusedVariables false
set_option linter.unusedSimpArgs false
namespace Go.Proofs.YtehminpiejophaaDoor
open Go.RowKit

def strL (l : List UInt8) : ByteArray := ⟨l.toArray⟩
theorem strL_size (l : List UInt8) : (strL l).size = l.length := by simp [strL, ByteArray.size]
/-- what a panic of this package's carries -/
abbrev brokE : List PanicEntry := [{ v := .iface 47 (.agg #[]), recovered := false }]

/-- the package variables that are read -/
structure Globs (w : World) : Prop where
  pow : Pow10 w
  big : 4 < w.heap.size
  max : ∃ m : Int, w.cell? ⟨2, 0, none⟩ = some (.int .i64 m)
  syn : ∃ ev, w.cell? ⟨3, 0, none⟩ = some ev ∧ (ev = .nilIface ∨ ∃ te pe, ev = .iface te pe)
  rng : ∃ ev, w.cell? ⟨4, 0, none⟩ = some ev ∧ (ev = .nilIface ∨ ∃ te pe, ev = .iface te pe)
theorem Globs.go {w w' : World} (h : Globs w) (hb : Below w.heap.size w w') : Globs w' := by
  obtain ⟨h1, h2, ⟨m, h3⟩, ⟨a, h4, b⟩, ⟨c, h5, d⟩⟩ := h
  exact ⟨tabKept hb h1, Nat.lt_of_lt_of_le h2 hb.size, ⟨m, (hb.cell (p := ⟨2, 0, none⟩) (by show 2 < _; omega)).trans h3⟩, ⟨a, (hb.cell (p := ⟨3, 0, none⟩) (by show 3 < _; omega)).trans h4, b⟩, ⟨c, (hb.cell (p := ⟨4, 0, none⟩) (by show 4 < _; omega)).trans h5, d⟩⟩

def numP (l : List UInt8) (most : Int) : Option Int :=
  match Lib.parseIntB 64 l with
  | .ok v => match l with
    | [] => none
    | c :: r => if c.toNat < 48 then none else if 57 < c.toNat then none else if c.toNat = 48 ∧ r ≠ [] then none else if most < v then none else some v
  | _ => none

/-- what it gives, or how it panics -/
def NumPost (w : World) (o : Option Int) (e : Ending) (w' : World) : Prop := Below w.heap.size w w' ∧ match o with
  | some v => e = .returned (.int .i64 v)
  | none => e = .panicked brokE

set_option maxRecDepth 100000 in
set_option maxHeartbeats 4000000 in
theorem number_bad (l : List UInt8) (most : Int) (w : World) (HP : Calls Tryd.prog 46 #[.string (strL l), .int .i64 10, .int .i64 64] w fun e w' => ∃ N v, e = .returned (.tuple #[.int .i64 v, .iface 91 (.pointer (some ⟨N, 0, none⟩))]) ∧ Below w.heap.size w w') :
    Calls Tryd.prog 39 #[.string (strL l), .int .i64 most] w (NumPost w none) := by
  have HP2 := Lib.hid HP
  clear HP
  go_enter Tryd.func39, Tryd.ntmps39
  go_wp2_with fail
  refine HP2.out.mono ?_
  rintro e w2 ⟨N, v, rfl, hb⟩
  have HB := Lib.hid hb
  clear hb
  go_wp2_with fail
  exact ⟨rfl, HB.out, rfl⟩

set_option maxRecDepth 100000 in
set_option maxHeartbeats 4000000 in
theorem number_ok (c : UInt8) (r : List UInt8) (v most : Int) (w : World) (hl : (c :: r).length ≤ 4294967280) (hv : Lib.parseIntB 64 (c :: r) = .ok v) :
    Calls Tryd.prog 39 #[.string (strL (c :: r)), .int .i64 most] w (NumPost w (numP (c :: r) most)) := by
  have HP : Hid (Calls Tryd.prog 46 #[.string (strL (c :: r)), .int .i64 10, .int .i64 64] w fun e w' => e = .returned (.tuple #[.int .i64 v, .nilIface]) ∧ Below w.heap.size w w') := Lib.hid
    ((Tryd.strconv_ParseInt_10_at64_ok (strL (c :: r)) (by rw [strL_size]; omega) v (by simpa [strL] using hv) w).mono fun e w' ⟨he, hw⟩ => ⟨he, by
      rcases hw with rfl | ⟨t, rfl⟩
      · exact Below.refl _ _
      · exact Joins.below_bytesWorld _ _ _ _ (Nat.le_refl _)⟩)
  have HR := Lib.hid (show numP (c :: r) most = if c.toNat < 48 then none else if 57 < c.toNat then none else if c.toNat = 48 ∧ r ≠ [] then none else if most < v then none else some v by unfold numP; rw [hv])
  have hq1 : 0 < (strL (c :: r)).size := by rw [strL_size, List.length_cons]; omega
  have hq2 : (strL (c :: r))[0] = c := rfl
  have hq3 : c.toNat = 48 → ((strL (c :: r)).toList == [48]) = decide (r = []) := fun h => by
    rw [ByteArray.toList_eq]
    show ((c :: r) == [48]) = _
    have : c = 48 := UInt8.toNat_inj.1 h
    rw [this]
    cases r <;> rfl
  have hcl := c.toNat_lt
  generalize numP (c :: r) most = R at *
  generalize strL (c :: r) = q at *
  clear hv hl
  by_cases h1 : c.toNat < 48
  · have i1 : (c.toNat : Int) < 48 := by omega
    have HRR := Lib.hid (show R = none by rw [HR.out, if_pos h1])
    clear HR hq3 hcl h1
    go_enter Tryd.func39, Tryd.ntmps39
    go_wp2_with fail
    refine HP.out.mono ?_
    rintro e w2 ⟨rfl, hb⟩
    have HB := Lib.hid hb
    clear hb HP
    go_wp2_with fail
    rw [HRR.out]
    exact ⟨rfl, HB.out, rfl⟩
  · have i1 : ¬ (c.toNat : Int) < 48 := by omega
    by_cases h2 : 57 < c.toNat
    · have i2 : (57 : Int) < (c.toNat : Int) := by omega
      have HRR := Lib.hid (show R = none by rw [HR.out, if_neg h1, if_pos h2])
      clear HR hq3 hcl h1 h2
      go_enter Tryd.func39, Tryd.ntmps39
      go_wp2_with fail
      refine HP.out.mono ?_
      rintro e w2 ⟨rfl, hb⟩
      have HB := Lib.hid hb
      clear hb HP
      go_wp2_with fail
      rw [HRR.out]
      exact ⟨rfl, HB.out, rfl⟩
    · have i2 : ¬ (57 : Int) < (c.toNat : Int) := by omega
      by_cases h3 : c.toNat = 48
      · have i3 : (c.toNat : Int) = 48 := by omega
        have hq := hq3 h3
        by_cases h4 : r = []
        · rw [decide_eq_true h4] at hq
          have hqn : ((q.toList != [48])) = false := by rw [bne, hq]; rfl
          by_cases h5 : most < v
          · have HRR := Lib.hid (show R = none by rw [HR.out, if_neg h1, if_neg h2, if_neg (by rw [h4]; simp), if_pos h5])
            clear HR hq3 hcl h1 h2 h3 h4
            go_enter Tryd.func39, Tryd.ntmps39
            go_wp2_with fail
            refine HP.out.mono ?_
            rintro e w2 ⟨rfl, hb⟩
            have HB := Lib.hid hb
            clear hb HP
            go_wp2_with fail
            rw [HRR.out]
            exact ⟨rfl, HB.out, rfl⟩
          · have HRR := Lib.hid (show R = some v by rw [HR.out, if_neg h1, if_neg h2, if_neg (by rw [h4]; simp), if_neg h5])
            clear HR hq3 hcl h1 h2 h3 h4
            go_enter Tryd.func39, Tryd.ntmps39
            go_wp2_with fail
            refine HP.out.mono ?_
            rintro e w2 ⟨rfl, hb⟩
            have HB := Lib.hid hb
            clear hb HP
            go_wp2_with fail
            go_ret
            rw [HRR.out]
            exact ⟨HB.out, rfl⟩
        · rw [decide_eq_false h4] at hq
          have hqn : ((q.toList != [48])) = true := by rw [bne, hq]; rfl
          have HRR := Lib.hid (show R = none by rw [HR.out, if_neg h1, if_neg h2, if_pos ⟨h3, h4⟩])
          clear HR hq3 hcl h1 h2 h3 h4
          go_enter Tryd.func39, Tryd.ntmps39
          go_wp2_with fail
          refine HP.out.mono ?_
          rintro e w2 ⟨rfl, hb⟩
          have HB := Lib.hid hb
          clear hb HP
          go_wp2_with fail
          rw [HRR.out]
          exact ⟨rfl, HB.out, rfl⟩
      · have i3 : ¬ (c.toNat : Int) = 48 := by omega
        by_cases h5 : most < v
        · have HRR := Lib.hid (show R = none by rw [HR.out, if_neg h1, if_neg h2, if_neg (fun h => h3 h.1), if_pos h5])
          clear HR hq3 hcl h1 h2 h3
          go_enter Tryd.func39, Tryd.ntmps39
          go_wp2_with fail
          refine HP.out.mono ?_
          rintro e w2 ⟨rfl, hb⟩
          have HB := Lib.hid hb
          clear hb HP
          go_wp2_with fail
          rw [HRR.out]
          exact ⟨rfl, HB.out, rfl⟩
        · have HRR := Lib.hid (show R = some v by rw [HR.out, if_neg h1, if_neg h2, if_neg (fun h => h3 h.1), if_neg h5])
          clear HR hq3 hcl h1 h2 h3
          go_enter Tryd.func39, Tryd.ntmps39
          go_wp2_with fail
          refine HP.out.mono ?_
          rintro e w2 ⟨rfl, hb⟩
          have HB := Lib.hid hb
          clear hb HP
          go_wp2_with fail
          go_ret
          rw [HRR.out]
          exact ⟨HB.out, rfl⟩

theorem number_any (l : List UInt8) (most : Int) (w : World) (hl : l.length ≤ 4294967280) (hg : Globs w) :
    Calls Tryd.prog 39 #[.string (strL l), .int .i64 most] w (NumPost w (numP l most)) := by
  have e : (strL l).data.toList = l := by simp [strL]
  cases hv : Lib.parseIntB 64 l with
  | ok v =>
    cases l with
    | nil => exact absurd hv (by simp [Lib.parseIntB])
    | cons c r => exact number_ok c r v most w hl hv
  | «syntax» =>
    have hn : numP l most = none := by unfold numP; rw [hv]
    rw [hn]
    obtain ⟨ev, hs, hev⟩ := hg.syn
    exact number_bad l most w ((Tryd.strconv_ParseInt_10_at64_syntax (strL l) (by rw [strL_size]; omega) (by rw [e]; exact hv) _ w hs hev).mono fun e w' ⟨N, he, _, _, hb⟩ => ⟨N, _, he, hb⟩)
  | range =>
    have hn : numP l most = none := by unfold numP; rw [hv]
    rw [hn]
    obtain ⟨ev, hs, hev⟩ := hg.rng
    exact number_bad l most w ((Tryd.strconv_ParseInt_10_at64_range (strL l) (by rw [strL_size]; omega) (by rw [e]; exact hv) _ w hs hev).mono fun e w' ⟨N, he, _, _, hb⟩ => ⟨N, _, he, hb⟩)
end Go.Proofs.YtehminpiejophaaDoor
