/- the statements' guard of glob: awake. -/
import Derived.Test.YtlddnghfjdjglaaDoorGlobFuel
set_option linter.unusedVariables false
set_option linter.unusedSimpArgs false
namespace Go.Proofs.YtlddnghfjdjglaaDoor
open Go.RowKit

def awP : List Pc := [none, some [litA 97, starA, litA 46, ⟨false, false, false, [(99, 99), (104, 104)]⟩]]
def awQ : List Pc := [some [starA, litA 46, litA 111]]
def awK : List Pc := [some [litA 107, litA 101, litA 101, litA 112, litA 46, litA 111]]
theorem awP_parse : parseG [42, 42, 47, 97, 42, 46, 91, 99, 104, 93] = .ok awP := by rw [parseF_eq]; rfl
theorem awE_parse : parseG [97, 91, 98] = .error 60 := by rw [parseF_eq]; rfl
theorem awQ_parse : parseG [42, 46, 111] = .ok awQ := by rw [parseF_eq]; rfl
theorem awK_parse : parseG [107, 101, 101, 112, 46, 111] = .ok awK := by rw [parseF_eq]; rfl
theorem aw_rules : rulesG 0 [[42, 46, 111], [33, 107, 101, 101, 112, 46, 111]] = .ok [⟨awQ, false⟩, ⟨awK, true⟩] := by
  have h1 : lineG [42, 46, 111] = .ok (some ⟨awQ, false⟩) := by
    show (match parseG [42, 46, 111] with | .ok p => (.ok (some ⟨p, false⟩) : Rz (Option Rul)) | .error e => .error e) = _
    rw [awQ_parse]
  have h2 : lineG [33, 107, 101, 101, 112, 46, 111] = .ok (some ⟨awK, true⟩) := by
    show (match parseG [107, 101, 101, 112, 46, 111] with | .ok p => (.ok (some ⟨p, true⟩) : Rz (Option Rul)) | .error e => .error e) = _
    rw [awK_parse]
  rw [rulesG, h1]
  simp only []
  rw [rulesG, h2]
  simp only [rulesG]
theorem aw1 : matchM awP [120, 47, 121, 47, 97, 98, 99, 46, 99] = true := match_eval 50 _ _ _ (by decide) (by decide +kernel)
theorem aw2 : matchM awP [97, 46, 104] = true := match_eval 50 _ _ _ (by decide) (by decide +kernel)
theorem aw3 : matchM awP [97, 47, 98, 46, 99] = false := match_eval 50 _ _ _ (by decide) (by decide +kernel)
theorem awQ1 : matchM awQ [97, 46, 111] = true := match_eval 50 _ _ _ (by decide) (by decide +kernel)
theorem awK1 : matchM awK [97, 46, 111] = false := match_eval 50 _ _ _ (by decide) (by decide +kernel)
theorem awK2 : matchM awK [107, 101, 101, 112, 46, 111] = true := match_eval 50 _ _ _ (by decide) (by decide +kernel)
theorem aw4 : skipsG [⟨awQ, false⟩, ⟨awK, true⟩] [97, 46, 111] = true := by
  have h : cutsG [97, 46, 111] = [3] := by decide +kernel
  simp [skipsG, h, lastG, awQ1, awK1]
theorem aw5 : skipsG [⟨awQ, false⟩, ⟨awK, true⟩] [107, 101, 101, 112, 46, 111] = false := by
  have h : cutsG [107, 101, 101, 112, 46, 111] = [6] := by decide +kernel
  simp [skipsG, h, lastG, awK2]
theorem aw6 : skipsG [⟨awQ, false⟩, ⟨awK, true⟩] [97, 46, 111, 47, 98] = true := by
  have h : cutsG [97, 46, 111, 47, 98] = [3, 5] := by decide +kernel
  simp [skipsG, h, lastG, awQ1, awK1]
/-- a pattern that was parsed, later -/
theorem pat_use {w0 w w' : World} {av : Av} {v : Value} {ps : List Pc} (h : patR.R w av [v] ps) (hb : Below w.heap.size w w') : patR.R w' no [v] ps := patR.stable h ((Moves.of_below hb).trans (Moves.forget _ _))
theorem pat_ptr {w : World} {av : Av} {v : Value} {ps : List Pc} (h : patR.R w av [v] ps) : ∃ g, v = .pointer (some ⟨g, 0, none⟩) := by
  obtain ⟨g, _, _, e, _⟩ := h
  injection e with e
  exact ⟨g, e⟩
theorem rul_ptr {w : World} {av : Av} {v : Value} {qs : List Rul} (h : rulesR.R w av [v] qs) : ∃ g, v = .pointer (some ⟨g, 0, none⟩) := by
  obtain ⟨g, _, _, e, _⟩ := h
  injection e with e
  exact ⟨g, e⟩
/-- the texts of literals -/
theorem lines_sl {w w' : World} {A : Option Addr} {ls : List (List UInt8)} {n : Nat} (h : Sl w' 1 A n (ls.map fun l => Value.string (strL l))) (hn : ls.length = n) : SlOf strR w' no A (ls.map strL) :=
  ⟨(ls.map strL).map Value.string, by rw [List.length_map, List.map_map, hn]; exact h, each_str_mk _, fun _ _ _ _ h => h⟩

set_option maxRecDepth 100000 in
set_option maxHeartbeats 4000000 in
theorem awake_any (W0 : World) : Calls Tryd.prog 9 #[] W0 fun e w' => e = .returned (.bool true) ∧ Below W0.heap.size W0 w' := by
  go_enter Tryd.func9, Tryd.ntmps9
  go_wp2_with fail
  refine (parse_any [42, 42, 47, 97, 42, 46, 91, 99, 104, 93] W0 (by decide)).mono ?_
  intro e w1 hp
  obtain ⟨hb1, hp⟩ := hp
  rw [awP_parse] at hp
  obtain ⟨v1, rfl, hp1⟩ := hp
  obtain ⟨g1, rfl⟩ := pat_ptr hp1
  have HB1 := Lib.hid hb1
  have HP1 := Lib.hid hp1
  clear hb1 hp1
  go_wp2_with fail
  refine (parse_any [97, 91, 98] w1 (by decide)).mono ?_
  intro e w2 hp
  obtain ⟨hb2, hp⟩ := hp
  rw [awE_parse] at hp
  obtain rfl : e = _ := hp
  have HB2 := Lib.hid (HB1.out.trans (hb2.mono HB1.out.size))
  have HP2 := Lib.hid (pat_use (w0 := w2) HP1.out hb2)
  clear hb2 HB1 HP1
  have hba : Below w2.heap.size w2 (w2.alloc (.cells #[.string ⟨#[42, 46, 111]⟩, .string ⟨#[33, 107, 101, 101, 112, 46, 111]⟩] 9)) := (Below.refl _ _).alloc (Nat.le_refl _) _
  have HB3 := Lib.hid (HB2.out.trans (hba.mono HB2.out.size))
  have HP3 := Lib.hid (pat_use (w0 := w2) HP2.out hba)
  have HSL := Lib.hid (lines_sl (w := w2) (ls := [[42, 46, 111], [33, 107, 101, 101, 112, 46, 111]]) (n := 2) (Sl.fresh w2 #[.string ⟨#[42, 46, 111]⟩, .string ⟨#[33, 107, 101, 101, 112, 46, 111]⟩] 9 (0, 0) 2 1 rfl) rfl)
  clear hba HB2 HP2
  go_wp2_with fail
  generalize w2.alloc (.cells #[.string ⟨#[42, 46, 111]⟩, .string ⟨#[33, 107, 101, 101, 112, 46, 111]⟩] 9) = w3 at *
  refine (new_any _ 2 2 [[42, 46, 111], [33, 107, 101, 101, 112, 46, 111]] w3 HSL.out rfl (by decide) (by decide)).mono ?_
  intro e w4 hp
  obtain ⟨hb4, hp⟩ := hp
  rw [aw_rules] at hp
  obtain ⟨v4, rfl, hp4⟩ := hp
  obtain ⟨g4, rfl⟩ := rul_ptr hp4
  have HB4 := Lib.hid (HB3.out.trans (hb4.mono HB3.out.size))
  have HP4 := Lib.hid (pat_use (w0 := w3) HP3.out hb4)
  have HR4 := Lib.hid (rulesR.stable hp4 (Moves.forget _ _))
  clear hb4 hp4 HB3 HP3 HSL
  go_wp2_with fail
  refine (pmatch_any g1 awP [120, 47, 121, 47, 97, 98, 99, 46, 99] w4 HP4.out (by decide) (by unfold awP; simp) (by decide)).mono ?_
  rintro e w5 ⟨rfl, hb5⟩
  rw [aw1]
  have HB5 := Lib.hid (HB4.out.trans (hb5.mono HB4.out.size))
  have HP5 := Lib.hid (pat_use (w0 := w4) HP4.out hb5)
  have HR5 := Lib.hid (rulesR.stable HR4.out (Moves.of_below hb5))
  clear hb5 HB4 HP4 HR4
  go_wp2_with fail
  refine (pmatch_any g1 awP [97, 46, 104] w5 HP5.out (by decide) (by unfold awP; simp) (by decide)).mono ?_
  rintro e w6 ⟨rfl, hb6⟩
  rw [aw2]
  have HB6 := Lib.hid (HB5.out.trans (hb6.mono HB5.out.size))
  have HP6 := Lib.hid (pat_use (w0 := w5) HP5.out hb6)
  have HR6 := Lib.hid (rulesR.stable HR5.out (Moves.of_below hb6))
  clear hb6 HB5 HP5 HR5
  go_wp2_with fail
  refine (pmatch_any g1 awP [97, 47, 98, 46, 99] w6 HP6.out (by decide) (by unfold awP; simp) (by decide)).mono ?_
  rintro e w7 ⟨rfl, hb7⟩
  rw [aw3]
  have HB7 := Lib.hid (HB6.out.trans (hb7.mono HB6.out.size))
  have HP7 := Lib.hid (pat_use (w0 := w6) HP6.out hb7)
  have HR7 := Lib.hid (rulesR.stable HR6.out (Moves.of_below hb7))
  clear hb7 HB6 HP6 HR6
  go_wp2_with fail
  refine (skips_any g4 [⟨awQ, false⟩, ⟨awK, true⟩] [97, 46, 111] w7 HR7.out (by decide)).mono ?_
  rintro e w8 ⟨rfl, hb8⟩
  rw [aw4]
  have HB8 := Lib.hid (HB7.out.trans (hb8.mono HB7.out.size))
  have HP8 := Lib.hid (pat_use (w0 := w7) HP7.out hb8)
  have HR8 := Lib.hid (rulesR.stable HR7.out (Moves.of_below hb8))
  clear hb8 HB7 HP7 HR7
  go_wp2_with fail
  refine (skips_any g4 [⟨awQ, false⟩, ⟨awK, true⟩] [107, 101, 101, 112, 46, 111] w8 HR8.out (by decide)).mono ?_
  rintro e w9 ⟨rfl, hb9⟩
  rw [aw5]
  have HB9 := Lib.hid (HB8.out.trans (hb9.mono HB8.out.size))
  have HP9 := Lib.hid (pat_use (w0 := w8) HP8.out hb9)
  have HR9 := Lib.hid (rulesR.stable HR8.out (Moves.of_below hb9))
  clear hb9 HB8 HP8 HR8
  go_wp2_with fail
  refine (skips_any g4 [⟨awQ, false⟩, ⟨awK, true⟩] [97, 46, 111, 47, 98] w9 HR9.out (by decide)).mono ?_
  rintro e w10 ⟨rfl, hb10⟩
  rw [aw6]
  have HB10 := Lib.hid (HB9.out.trans (hb10.mono HB9.out.size))
  have HP10 := Lib.hid (pat_use (w0 := w9) HP9.out hb10)
  have HR10 := Lib.hid (rulesR.stable HR9.out (Moves.of_below hb10))
  clear hb10 HB9 HP9 HR9
  go_wp2_with fail
  go_ret
  exact ⟨rfl, HB10.out⟩
end Go.Proofs.YtlddnghfjdjglaaDoor
