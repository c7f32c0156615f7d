/- stamp.Parse. -/
import Derived.Test.YtehminpiejophaaDoorStampCaught
import Derived.Test.YtehminpiejophaaDoorDoor
set_option linter.unusedVariables false
set_option linter.unusedSimpArgs false
namespace Go.Proofs.YtehminpiejophaaDoor
open Go.RowKit

/-- what Parse answers: a number's bits, or that it is none -/
def ParsePost (w : World) (l : List UInt8) (e : Ending) (w' : World) : Prop :=
  Below w.heap.size w w' ∧ ((∃ b, Reads l b ∧ e = .returned (.tuple #[.float .f64 b, .int .i64 0])) ∨ ((∀ b, ¬ Reads l b) ∧ e = .returned (.tuple #[.float .f64 0, .int .i64 10])))

attribute [local go_sem] run_store_float
set_option maxRecDepth 100000 in
set_option maxHeartbeats 4000000 in
theorem pparse_any (l : List UInt8) (w : World) (hl : l.length ≤ 4294967280) (hg : Globs w) : Calls Tryd.prog 17 #[.string (strL l)] w (ParsePost w l) := by
  have hmf : ∀ (fn : Fn) (first cap : Array Value) (w : World), (Instr.makeFunc fn first cap).run Tryd.prog w = .ok (.func fn first cap) w := fun _ _ _ _ => rfl
  obtain ⟨w1, hw1⟩ : ∃ w1, w1 = (w.alloc (.cells #[.float .f64 0] 22)).alloc (.cells #[.int .i64 0] 29) := ⟨_, rfl⟩
  have hb1 : Below w.heap.size w w1 := by rw [hw1]; exact ((Below.refl _ _).alloc (Nat.le_refl _) _).alloc (by simp) _
  have HB1 := Lib.hid hb1
  have HV1 := Lib.hid (show Blk w1 w.heap.size 22 #[.float .f64 0] by rw [hw1]; exact (Blk.new w _ _).alloc _)
  have HE1 := Lib.hid (show Blk w1 (w.heap.size + 1) 29 #[.int .i64 0] by
    have := Blk.new (w.alloc (.cells #[.float .f64 0] 22)) 29 #[.int .i64 0]
    rw [hw1]; simpa using this)
  have HP := Lib.hid (parse_any l w1 hl (hg.go hb1))
  have HG := Lib.hid (show w.heap.size < w1.heap.size by have := HE1.out.lt; omega)
  generalize strL l = q at *
  clear hl hg hb1
  go_enter_defers Tryd.func17, Tryd.ntmps17
  go_upto_region 1 with fail
  rw [← hw1]
  clear hw1
  generalize hgg : w.heap.size = g at *
  have HGG := Lib.hid hgg
  clear hgg
  go_wp2_with fail
  refine HP.out.mono ?_
  rintro e w4 ⟨hb4, hx⟩
  have HB4 := Lib.hid (HB1.out.trans (hb4.mono (by have := HG.out; omega)))
  have hv := HV1.out.below hb4 HV1.out.lt
  have he := HE1.out.below hb4 HE1.out.lt
  have HV := Lib.hid hv
  have HE := Lib.hid he
  clear hb4 HP HV1 HE1 HB1
  rcases hx with ⟨b, hb, rfl⟩ | ⟨hb, rfl⟩
  · have HR := Lib.hid hb
    have v0 := hv.cell 0
    have f0 := hv.frozen 0
    have HV2 := Lib.hid ((hv.set_ 0 (.float .f64 b)).other (g' := g + 1) (by omega) 0 (.int .i64 0))
    have HE2 := Lib.hid ((he.other (g' := g) (by omega) 0 (.float .f64 b)).set_ 0 (.int .i64 0))
    have v1 := (he.other (g' := g) (by omega) 0 (.float .f64 b)).cell 0
    have f1 := (he.other (g' := g) (by omega) 0 (.float .f64 b)).frozen 0
    have HB5 := Lib.hid ((HB4.out.setCell (p := ⟨g, 0, none⟩) (Nat.le_refl g) (.float .f64 b)).setCell (p := ⟨g + 1, 0, none⟩) (by show g ≤ g + 1; omega) (.int .i64 0))
    clear hb hv he
    go_wp2_with fail
    generalize (w4.setCell ⟨g, 0, none⟩ (.float .f64 b)).setCell ⟨g + 1, 0, none⟩ (.int .i64 0) = W at *
    refine leaves_cons (f := 26) (args := #[.pointer (some ⟨g, 0, none⟩), .pointer (some ⟨g + 1, 0, none⟩)]) (by simp) (by simp [go_sem]) ?_
    refine (pcaught_idle _ _).mono ?_
    rintro e u' w7 ⟨rfl, rfl, rfl⟩
    have r1 := (HV2.out.alloc (.cells #[] 47)).cell 0
    have r2 := (HE2.out.alloc (.cells #[] 47)).cell 0
    have hal : Below W.heap.size W (W.alloc (.cells #[] 47)) := (Below.refl _ _).alloc (Nat.le_refl _) _
    have HB6 := Lib.hid (HB5.out.trans (hal.mono (by have := HE2.out.lt; omega)))
    clear hal
    generalize W.alloc (.cells #[] 47) = W2 at *
    simp [settle, Leaves, results, Tryd.results17, go_sem, r1, r2]
    unfold ParsePost
    rw [HGG.out]
    exact ⟨HB6.out, .inl ⟨b, HR.out, rfl⟩⟩
  · have HR := Lib.hid hb
    have V1 := ((hv.alloc (.cells #[] 47)).set_ 0 (.float .f64 0)).other (g' := g + 1) (by omega) 0 (.int .i64 10)
    have E1 := ((he.alloc (.cells #[] 47)).other (g' := g) (by omega) 0 (.float .f64 0)).set_ 0 (.int .i64 10)
    have HB5 := ((HB4.out.alloc (by have := he.lt; omega) (.cells #[] 47)).setCell (p := ⟨g, 0, none⟩) (Nat.le_refl g) (.float .f64 0)).setCell (p := ⟨g + 1, 0, none⟩) (by show g ≤ g + 1; omega) (.int .i64 10)
    refine leaves_cons (f := 26) (args := #[.pointer (some ⟨g, 0, none⟩), .pointer (some ⟨g + 1, 0, none⟩)]) (by simp) (by simp [go_sem]) ?_
    refine (pcaught_hit g 0 0 [] w4 hv he).mono ?_
    rintro e u' w7 ⟨rfl, rfl, rfl⟩
    have r1 := V1.cell 0
    have r2 := E1.cell 0
    generalize ((w4.alloc (.cells #[] 47)).setCell ⟨g, 0, none⟩ (.float .f64 0)).setCell ⟨g + 1, 0, none⟩ (.int .i64 10) = w8 at *
    simp [settle, Leaves, results, Tryd.results17, go_sem, r1, r2]
    unfold ParsePost
    rw [HGG.out]
    exact ⟨HB5, .inr ⟨HR.out, rfl⟩⟩
end Go.Proofs.YtehminpiejophaaDoor
