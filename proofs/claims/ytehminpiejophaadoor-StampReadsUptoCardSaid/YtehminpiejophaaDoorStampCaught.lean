/- stamp.Parse's deferred function, that recovers. -/
import Derived.Test.YtehminpiejophaaDoorStampParse3
import Derived.Test.YtehminpiejophaaDoorRecov
import Derived.Test.YtehminpiejophaaDoorBlk
set_option linter.unusedVariables false
namespace Go.Proofs.YtehminpiejophaaDoor
open Go.RowKit

theorem run_store_float {P : Program} {w : World} {a : Addr} {m : Mode} (k : FloatKind) (b : Nat) : (store a (.float k b) m).run P w = stored P w a (.float k b) m := run_store P w a _ m rfl
attribute [local go_sem] run_store_float

set_option maxRecDepth 100000 in
set_option maxHeartbeats 1000000 in
theorem pcaught_hit (g : Nat) (y : Nat) (z : Int) (older : List PanicEntry) (w : World) (HP : Blk w g 22 #[.float .f64 y]) (HQ : Blk w (g + 1) 29 #[.int .i64 z]) :
    CallsD Tryd.prog 26 #[.pointer (some ⟨g, 0, none⟩), .pointer (some ⟨g + 1, 0, none⟩)] (.panicking ({ v := .iface 47 (.agg #[]), recovered := false } :: older)) w fun e u' w' =>
      e = .returned (.tuple #[]) ∧ u' = .panicking ({ v := .iface 47 (.agg #[]), recovered := true } :: older) ∧ w' = ((w.alloc (.cells #[] 47)).setCell ⟨g, 0, none⟩ (.float .f64 0)).setCell ⟨g + 1, 0, none⟩ (.int .i64 10) := by
  have hsi : (Tryd.prog.info? 47).map (·.size) = some (#[] : Array Value).size := by kernel_rfl
  refine callsD_of_wpS Tryd.func26 rfl fun c₀ cs hu => ?_
  change Code.wpS _ _ _ { tmps := #[.pointer (some ⟨g, 0, none⟩), .pointer (some ⟨g + 1, 0, none⟩), undef, undef, undef, undef, undef, undef, undef, undef], defers := [] } _ _
  have hta := run_assert_hit (P := Tryd.prog) (x := 20) Tryd.underlying47
  apply wpS_seq
  apply wpS_region
  refine WpR.out (l := [0, 1, 2, 3, 4, 5, 6, 7]) ?_
  refine WpR.recover (a' := ?_) (v := .iface 47 (.agg #[])) (cs' := { c₀ with mode := .panicking ({ v := .iface 47 (.agg #[]), recovered := true } :: older) } :: cs) rfl rfl ?_ ?_ ?_ ?_
  rotate_left 1
  · go_simp
  · simp [recoverD, hu]
  · (go_simp; try with_reducible rfl)
  refine WpR.val (v := ?_) (a' := ?_) (w' := w) rfl rfl ?_ ?_ ?_
  rotate_left 2
  · (go_simp; try with_reducible rfl)
  · (go_simp; try with_reducible rfl)
  refine WpR.val (v := ?_) (a' := ?_) (w' := w) rfl rfl ?_ ?_ ?_
  rotate_left 2
  · (go_simp; try with_reducible rfl)
  · (go_simp; try with_reducible rfl)
  refine WpR.val (v := ?_) (a' := ?_) (w' := w) rfl rfl ?_ ?_ ?_
  rotate_left 2
  · (go_simp; try with_reducible rfl)
  · (go_simp; try with_reducible rfl)
  refine WpR.val (v := ?_) (a' := ?_) (w' := w) rfl rfl ?_ ?_ ?_
  rotate_left 2
  · (go_simp; try with_reducible rfl)
  · (go_simp; try with_reducible rfl)
  refine WpR.val (v := ?_) (a' := ?_) (w' := w.alloc (.cells #[] 47)) rfl rfl ?_ ?_ ?_
  rotate_left 2
  · (go_simp; try with_reducible rfl)
  · (go_simp; try with_reducible rfl)
  refine WpR.skip (a' := ?_) (w' := w.alloc (.cells #[] 47)) rfl rfl ?_ ?_ ?_
  rotate_left 1
  · (go_simp; try with_reducible rfl)
  · (go_simp; try with_reducible rfl)
  refine WpR.val (v := ?_) (a' := ?_) (w' := w.alloc (.cells #[] 47)) rfl rfl ?_ ?_ ?_
  rotate_left 2
  · (go_simp; try with_reducible rfl)
  · (go_simp; try with_reducible rfl)
  refine WpR.done ?_
  refine wpS_of_wp ?_
  have HP1 := HP.alloc (.cells #[] 47)
  have HQ1 := HQ.alloc (.cells #[] 47)
  have HQ2 := HQ1.other (g' := g) (by omega) 0 (.float .f64 0)
  have hc' := HP1.cell 0
  have hz' := HP1.frozen 0
  have hd' := HQ2.cell 0
  have hy' := HQ2.frozen 0
  clear HP1 HQ1 HQ2 HP HQ
  go_wp2_with fail
  simp [bodyPostS, results, Tryd.results26]

set_option maxRecDepth 100000 in
set_option maxHeartbeats 1000000 in
theorem pcaught_idle (g : Nat) (w : World) :
    CallsD Tryd.prog 26 #[.pointer (some ⟨g, 0, none⟩), .pointer (some ⟨g + 1, 0, none⟩)] .returning w fun e u' w' =>
      e = .returned (.tuple #[]) ∧ u' = .returning ∧ w' = w.alloc (.cells #[] 47) := by
  have hta := fun w : World => run_assert_nil (P := Tryd.prog) (x := 20) (z := .agg #[]) Tryd.underlying47 w (by kernel_rfl)
  refine callsD_of_wpS Tryd.func26 rfl fun c₀ cs hu => ?_
  change Code.wpS _ _ _ { tmps := #[.pointer (some ⟨g, 0, none⟩), .pointer (some ⟨g + 1, 0, none⟩), undef, undef, undef, undef, undef, undef, undef, undef], defers := [] } _ _
  apply wpS_seq
  apply wpS_region
  refine WpR.out (l := [0, 1, 2, 3, 4, 5, 6, 7]) ?_
  refine WpR.idle (a' := ?_) rfl rfl ?_ ?_ ?_ ?_
  rotate_left 1
  · go_simp
  · simp [recoverD, hu]
  · (go_simp; try with_reducible rfl)
  refine WpR.val (v := ?_) (a' := ?_) (w' := w) rfl rfl ?_ ?_ ?_
  rotate_left 2
  · (go_simp; try with_reducible rfl)
  · (go_simp; try with_reducible rfl)
  refine WpR.val (v := ?_) (a' := ?_) (w' := w) rfl rfl ?_ ?_ ?_
  rotate_left 2
  · (go_simp; try with_reducible rfl)
  · (go_simp; try with_reducible rfl)
  refine WpR.val (v := ?_) (a' := ?_) (w' := w) rfl rfl ?_ ?_ ?_
  rotate_left 2
  · (go_simp; try with_reducible rfl)
  · (go_simp; try with_reducible rfl)
  refine WpR.val (v := ?_) (a' := ?_) (w' := w) rfl rfl ?_ ?_ ?_
  rotate_left 2
  · (go_simp; try with_reducible rfl)
  · (go_simp; try with_reducible rfl)
  refine WpR.val (v := ?_) (a' := ?_) (w' := w.alloc (.cells #[] 47)) rfl rfl ?_ ?_ ?_
  rotate_left 2
  · (go_simp; try with_reducible rfl)
  · (go_simp; try with_reducible rfl)
  refine WpR.skip (a' := ?_) (w' := w.alloc (.cells #[] 47)) rfl rfl ?_ ?_ ?_
  rotate_left 1
  · (go_simp; try with_reducible rfl)
  · (go_simp; try with_reducible rfl)
  refine WpR.val (v := ?_) (a' := ?_) (w' := w.alloc (.cells #[] 47)) rfl rfl ?_ ?_ ?_
  rotate_left 2
  · (go_simp; try with_reducible rfl)
  · (go_simp; try with_reducible rfl)
  refine WpR.done ?_
  refine wpS_of_wp ?_
  go_wp2_with fail
  cases c₀
  simp_all [bodyPostS, results, Tryd.results26]

end Go.Proofs.YtehminpiejophaaDoor
