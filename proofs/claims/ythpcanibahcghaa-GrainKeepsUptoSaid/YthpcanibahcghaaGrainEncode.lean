/- grain.Encode: its deferred functions, and itself. -/
import Derived.Test.YthpcanibahcghaaGrainWrite
import Derived.Test.YthpcanibahcghaaRecov
import Derived.Test.YthpcanibahcghaaBlk
set_option linter.unusedVariables false
namespace Go.Proofs.Ythpcanibahcghaa
open Go.RowKit

set_option maxHeartbeats 1000000 in
theorem caught_stop (p : Addr) (x z : Int) (older : List PanicEntry) (w : World) (hp : p.block < w.heap.size) (hc : w.cell? p = some (.int .i64 x)) (hz : w.frozen? p = false) :
    CallsD Try.prog 21 #[.pointer (some p)] (.panicking ({ v := .iface 60 (.agg #[.int .i64 z]), recovered := false } :: older)) w fun e u' w' =>
      e = .returned (.tuple #[]) ∧ u' = .panicking ({ v := .iface 60 (.agg #[.int .i64 z]), recovered := true } :: older) ∧ w' = (w.alloc (.cells #[.int .i64 z] 60)).setCell p (.int .i64 z) := by
  have hsi : (Try.prog.info? 60).map (·.size) = some (#[Value.int .i64 z] : Array Value).size := by kernel_rfl
  refine callsD_of_wpS Try.func21 rfl fun c₀ cs hu => ?_
  change Code.wpS _ _ _ { tmps := #[.pointer (some p), undef, undef, undef, undef, undef, undef, undef, undef, undef, undef, undef, undef, undef], defers := [] } _ _
  have hta := run_assert_hit (P := Try.prog) (x := 20) Try.underlying60
  apply wpS_seq
  apply wpS_region
  refine WpR.out (l := [0, 1, 2, 3, 4, 5, 6, 7]) ?_
  refine WpR.recover (a' := ?_) (v := .iface 60 (.agg #[.int .i64 z])) (cs' := { c₀ with mode := .panicking ({ v := .iface 60 (.agg #[.int .i64 z]), recovered := true } :: older) } :: cs) rfl rfl ?_ ?_ ?_ ?_
  rotate_left 1
  · go_simp
  · simp [recoverD, hu]
  · (go_simp; try with_reducible rfl)
  refine WpR.val (v := ?_) (a' := ?_) (w' := w) rfl rfl ?_ ?_ ?_
  rotate_left 2
  · (go_simp; try with_reducible rfl)
  · (go_simp; try with_reducible rfl)
  refine WpR.val (v := ?_) (a' := ?_) (w' := w) rfl rfl ?_ ?_ ?_
  rotate_left 2
  · (go_simp; try with_reducible rfl)
  · (go_simp; try with_reducible rfl)
  refine WpR.val (v := ?_) (a' := ?_) (w' := w) rfl rfl ?_ ?_ ?_
  rotate_left 2
  · (go_simp; try with_reducible rfl)
  · (go_simp; try with_reducible rfl)
  refine WpR.val (v := ?_) (a' := ?_) (w' := w) rfl rfl ?_ ?_ ?_
  rotate_left 2
  · (go_simp; try with_reducible rfl)
  · (go_simp; try with_reducible rfl)
  refine WpR.val (v := ?_) (a' := ?_) (w' := w.alloc (.cells #[.int .i64 0] 60)) rfl rfl ?_ ?_ ?_
  rotate_left 2
  · (go_simp; try with_reducible rfl)
  · (go_simp; try with_reducible rfl)
  refine WpR.skip (a' := ?_) (w' := w.alloc (.cells #[.int .i64 z] 60)) rfl rfl ?_ ?_ ?_
  rotate_left 1
  · (go_simp; try with_reducible rfl)
  · (go_simp; try with_reducible rfl)
  refine WpR.val (v := ?_) (a' := ?_) (w' := w.alloc (.cells #[.int .i64 z] 60)) rfl rfl ?_ ?_ ?_
  rotate_left 2
  · (go_simp; try with_reducible rfl)
  · (go_simp; try with_reducible rfl)
  refine WpR.done ?_
  refine wpS_of_wp ?_
  have hc' : (w.alloc (.cells #[.int .i64 z] 60)).cell? p = some (.int .i64 x) := (World.cell?_alloc_lt _ _ _ hp).trans hc
  have hz' : (w.alloc (.cells #[.int .i64 z] 60)).frozen? p = false := (World.frozen?_alloc_old w _ p (by omega)).trans hz
  go_wp2_with fail
  simp [bodyPostS, results, Try.results21]

set_option maxHeartbeats 1000000 in
theorem caught_idle (p : Addr) (w : World) :
    CallsD Try.prog 21 #[.pointer (some p)] .returning w fun e u' w' =>
      e = .returned (.tuple #[]) ∧ u' = .returning ∧ w' = w.alloc (.cells #[.int .i64 0] 60) := by
  have hta := fun w : World => run_assert_nil (P := Try.prog) (x := 20) (z := .agg #[.int .i64 0]) Try.underlying60 w (by kernel_rfl)
  refine callsD_of_wpS Try.func21 rfl fun c₀ cs hu => ?_
  change Code.wpS _ _ _ { tmps := #[.pointer (some p), undef, undef, undef, undef, undef, undef, undef, undef, undef, undef, undef, undef, undef], defers := [] } _ _
  apply wpS_seq
  apply wpS_region
  refine WpR.out (l := [0, 1, 2, 3, 4, 5, 6, 7]) ?_
  refine WpR.idle (a' := ?_) rfl rfl ?_ ?_ ?_ ?_
  rotate_left 1
  · go_simp
  · simp [recoverD, hu]
  · (go_simp; try with_reducible rfl)
  refine WpR.val (v := ?_) (a' := ?_) (w' := w) rfl rfl ?_ ?_ ?_
  rotate_left 2
  · (go_simp; try with_reducible rfl)
  · (go_simp; try with_reducible rfl)
  refine WpR.val (v := ?_) (a' := ?_) (w' := w) rfl rfl ?_ ?_ ?_
  rotate_left 2
  · (go_simp; try with_reducible rfl)
  · (go_simp; try with_reducible rfl)
  refine WpR.val (v := ?_) (a' := ?_) (w' := w) rfl rfl ?_ ?_ ?_
  rotate_left 2
  · (go_simp; try with_reducible rfl)
  · (go_simp; try with_reducible rfl)
  refine WpR.val (v := ?_) (a' := ?_) (w' := w) rfl rfl ?_ ?_ ?_
  rotate_left 2
  · (go_simp; try with_reducible rfl)
  · (go_simp; try with_reducible rfl)
  refine WpR.val (v := ?_) (a' := ?_) (w' := w.alloc (.cells #[.int .i64 0] 60)) rfl rfl ?_ ?_ ?_
  rotate_left 2
  · (go_simp; try with_reducible rfl)
  · (go_simp; try with_reducible rfl)
  refine WpR.skip (a' := ?_) (w' := w.alloc (.cells #[.int .i64 0] 60)) rfl rfl ?_ ?_ ?_
  rotate_left 1
  · (go_simp; try with_reducible rfl)
  · (go_simp; try with_reducible rfl)
  refine WpR.val (v := ?_) (a' := ?_) (w' := w.alloc (.cells #[.int .i64 0] 60)) rfl rfl ?_ ?_ ?_
  rotate_left 2
  · (go_simp; try with_reducible rfl)
  · (go_simp; try with_reducible rfl)
  refine WpR.done ?_
  refine wpS_of_wp ?_
  go_wp2_with fail
  cases c₀
  simp_all [bodyPostS, results, Try.results21]

theorem encodeD_ok (pe pb : Addr) (u : FrameMode) (w : World) (he : w.cell? pe = some (.int .i64 0)) :
    CallsD Try.prog 20 #[.pointer (some pe), .pointer (some pb)] u w fun e u' w' => u' = u ∧ e = .returned (.tuple #[]) ∧ w' = w := by
  go_enter_d Try.func20, Try.ntmps20
  go_wp2_with fail
  go_end0
  exact ⟨rfl, rfl⟩
theorem encodeD_bad (pe pb : Addr) (z : Int) (y : Value) (u : FrameMode) (w : World) (hz : z ≠ 0) (he : w.cell? pe = some (.int .i64 z)) (hb : w.cell? pb = some y) (hy : w.frozen? pb = false) :
    CallsD Try.prog 20 #[.pointer (some pe), .pointer (some pb)] u w fun e u' w' => u' = u ∧ e = .returned (.tuple #[]) ∧ w' = w.setCell pb (.slice none 0 0) := by
  have hz' : (z != 0) = true := by simp [hz]
  clear hz
  go_enter_d Try.func20, Try.ntmps20
  go_wp2_with fail
  go_end0
  exact ⟨rfl, rfl⟩

def EncPost (w : World) (r : Res (List UInt8)) (e : Ending) (w' : World) : Prop :=
  Below w.heap.size w w' ∧ match r with
    | .ok o => ∃ A m c, e = .returned (.tuple #[.slice A m c, .int .i64 0]) ∧ m = o.length ∧ w'.ownsRow w.heap.size 5 1 (.slice A m c) m (bytesV o)
    | .error z => e = .returned (.tuple #[.slice none 0 0, .int .i64 z])

theorem own_setCell {base : Nat} {w : World} {e : TypeId} {sz n : Nat} {v : Value} {xs : List Value} (h : w.ownsRow base e sz v n xs) {b i : Nat} (u : Value) (hb : b < base) : (w.setCell ⟨b, i, none⟩ u).ownsRow base e sz v n xs := by
  refine h.kept (grown_set w b i u) ?_
  cases hv : v.ownBlock with
  | none => exact .inl rfl
  | some k =>
    right
    intro e
    have e := Option.some.inj e
    have := (h.lt k hv).1
    omega

/-- Encode's three variables: the value, the bytes, the error -/
structure EncVars (w : World) (g : Nat) (w3 : World) (KV : Array Value) : Prop where
  below : Below g w w3
  size : w3.heap.size = g + 3
  v : w3.heap[g]? = some (.cells KV 27 (0, 0))
  b : w3.heap[g + 1]? = some (.cells #[.slice none 0 0] 23 (0, 0))
  e : w3.heap[g + 2]? = some (.cells #[.int .i64 0] 29 (0, 0))
theorem EncVars.made (w : World) (KV : Array Value) : EncVars w w.heap.size (((w.alloc (.cells KV 27)).alloc (.cells #[.slice none 0 0] 23)).alloc (.cells #[.int .i64 0] 29)) KV := by
  refine ⟨(((Below.refl _ _).alloc (Nat.le_refl _) _).alloc (by simp) _).alloc (by simp; omega) _, by simp, ?_, ?_, ?_⟩
  · rw [Below.heap_alloc _ _ _ (by simp; omega), Below.heap_alloc _ _ _ (by simp)]; exact heap_alloc_new w _
  · rw [Below.heap_alloc _ _ _ (by simp)]
    have := heap_alloc_new (w.alloc (.cells KV 27)) (.cells #[.slice none 0 0] 23)
    simpa using this
  · have := heap_alloc_new ((w.alloc (.cells KV 27)).alloc (.cells #[.slice none 0 0] 23)) (.cells #[.int .i64 0] 29)
    simpa using this

set_option maxHeartbeats 2000000 in
theorem encode_big {cs : List Value} (v : Val) (w : World) (hv : valR.R w no cs v) (hbk : bulkV v ≤ 1100000) :
    Calls Try.prog 10 #[.agg cs.toArray] w (EncPost w (enc v)) := by
  have hmf : ∀ (fn : Fn) (first cap : Array Value) (w : World), (Instr.makeFunc fn first cap).run Try.prog w = .ok (.func fn first cap) w := fun _ _ _ _ => rfl
  have hk5 : cs.length = 5 := valR.len hv
  have HKI := Lib.hid (show (Try.prog.info? 27).map (·.size) = some cs.toArray.size by rw [show cs.toArray.size = 5 from by simpa using hk5]; kernel_rfl)
  obtain ⟨w3, hw3⟩ : ∃ w3, w3 = ((w.alloc (.cells cs.toArray 27)).alloc (.cells #[.slice none 0 0] 23)).alloc (.cells #[.int .i64 0] 29) := ⟨_, rfl⟩
  have HE := Lib.hid (EncVars.made w cs.toArray)
  rw [← hw3] at HE
  have hv3 : valR.R w3 (own (.slice none 0 0)) cs v := valR.stable hv ((Moves.of_below HE.out.below).trans (Moves.less w3 (fun b _ h => by simp [own, Value.ownBlock] at h)))
  have HW := Lib.hid (write_any (base := w3.heap.size) 16 (A := none) (m := 0) (c := 0) (xs := []) v w3 (Nat.le_refl _) hv3 hbk (by omega) (World.ownsRow_nil _ _ _ _) (Nat.le_refl _))
  obtain ⟨KV, hKV⟩ : ∃ KV : Array Value, KV = cs.toArray := ⟨_, rfl⟩
  rw [← hKV] at HKI HW HE hw3 ⊢
  clear hKV hv hv3 hk5 hbk
  have henc : wrV 16 [] v = enc v := rfl
  rw [henc] at HW
  go_enter_defers Try.func10, Try.ntmps10
  go_upto_region 3 with fail
  rw [← hw3]
  clear hw3 henc
  generalize hg : w.heap.size = g at *
  have HG := Lib.hid hg
  clear hg
  go_wp2_with (refine wpList_load_row rfl 27 (.tmp 1) rfl g rfl 27 KV (0, 0) _ HE.out.v Try.underlying27 rfl HKI.out ?_)
  refine HW.out.mono ?_
  intro e w4 hp
  obtain ⟨hb4, hp⟩ := hp
  have hsz := HE.out.size
  have B1 : Blk w4 (g + 1) 23 #[.slice none 0 0] := (hb4.block _ (by omega)).trans HE.out.b
  have B2 : Blk w4 (g + 1 + 1) 29 #[.int .i64 0] := (hb4.block _ (by omega)).trans HE.out.e
  have HB := Lib.hid (HE.out.below.trans (hb4.mono (by omega)))
  have hsz4 := hb4.size
  cases hr : enc v with
  | ok o =>
    rw [hr] at hp
    obtain ⟨A, m, c, rfl, hm, hown, _⟩ := hp
    have HM := Lib.hid hm
    have c1 : w4.cell? ⟨g + 1, 0, none⟩ = some (.slice none 0 0) := B1.cell 0
    have c2 : w4.cell? ⟨g + 1 + 1, 0, none⟩ = some (.int .i64 0) := B2.cell 0
    have f1 := B1.frozen 0
    have f2 := B2.frozen 0
    have D1 := B1.set_ 0 (.slice A m c)
    have D1' := D1.other (g' := g + 1 + 1) (by omega) 0 (.int .i64 0)
    have D2 := (B2.other (g' := g + 1) (by omega) 0 (.slice A m c)).set_ 0 (.int .i64 0)
    have e1 : ((w4.setCell ⟨g + 1, 0, none⟩ (.slice A m c)).setCell ⟨g + 1 + 1, 0, none⟩ (.int .i64 0)).cell? ⟨g + 1 + 1, 0, none⟩ = some (.int .i64 0) := D2.cell 0
    have hown6 := own_setCell (own_setCell hown (b := g + 1) (i := 0) (.slice A m c) (by omega)) (b := g + 1 + 1) (i := 0) (.int .i64 0) (by omega)
    have HB6 := (HB.out.setCell (p := ⟨g + 1, 0, none⟩) (by show g ≤ g + 1; omega) (.slice A m c)).setCell (p := ⟨g + 1 + 1, 0, none⟩) (by show g ≤ g + 1 + 1; omega) (.int .i64 0)
    clear hm hb4 B1 B2 HW D1 hsz
    obtain ⟨w6, hw6⟩ : ∃ w6, w6 = ((w4.setCell ⟨g + 1, 0, none⟩ (.slice A m c)).setCell ⟨g + 1 + 1, 0, none⟩ (.int .i64 0)) := ⟨_, rfl⟩
    have HW6 := Lib.hid hw6
    rw [← hw6] at D1' D2 e1 hown6 HB6
    clear hw6
    have HD1 := Lib.hid D1'
    have HD2 := Lib.hid D2
    clear D1' D2 e1
    go_wp2_with fail
    rw [← HW6.out]
    refine leaves_cons (f := 21) (args := #[.pointer (some ⟨g + 1 + 1, 0, none⟩)]) (by simp) (by simp [go_sem]) ?_
    refine (caught_idle _ _).mono ?_
    rintro e u' w7 ⟨rfl, rfl, rfl⟩
    have E1 := HD1.out.alloc (.cells #[.int .i64 0] 60)
    have E2 := HD2.out.alloc (.cells #[.int .i64 0] 60)
    refine leaves_cons (f := 20) (args := #[.pointer (some ⟨g + 1 + 1, 0, none⟩), .pointer (some ⟨g + 1, 0, none⟩)]) (by simp [settle]) (by simp [go_sem]) ?_
    refine (encodeD_ok _ _ _ _ (E2.cell 0)).mono ?_
    rintro e u' w8 ⟨rfl, rfl, rfl⟩
    have r1 := E1.cell 0
    have r2 := E2.cell 0
    simp [settle, Leaves, results, Try.results10, go_sem, r1, r2]
    unfold EncPost
    rw [HG.out, hr]
    exact ⟨HB6.alloc (by have h1 := HE.out.size; have h2 := HB6.size; rw [HG.out] at h2; exact h2) _, A, m, c, rfl, HM.out, own_mono (hown6.alloc _) (by have := HE.out.size; omega)⟩
  | error z =>
    rw [hr] at hp
    obtain rfl : e = _ := hp
    have HZ := Lib.hid (wrV_err 16 [] v z hr)
    have hlt : g + 1 + 1 < w4.heap.size := by omega
    have E1 := (B1.alloc (.cells #[.int .i64 z] 60)).other (g' := g + 1 + 1) (by omega) 0 (.int .i64 z)
    have E2 := (B2.alloc (.cells #[.int .i64 z] 60)).set_ 0 (.int .i64 z)
    have hgl : g ≤ w4.heap.size := by omega
    have HB5 := (HB.out.alloc hgl (.cells #[.int .i64 z] 60)).setCell (p := ⟨g + 1 + 1, 0, none⟩) (by show g ≤ g + 1 + 1; omega) (.int .i64 z)
    clear hb4 HW hsz
    refine leaves_cons (f := 21) (args := #[.pointer (some ⟨g + 1 + 1, 0, none⟩)]) (by simp) (by simp [go_sem]) ?_
    refine (caught_stop ⟨g + 1 + 1, 0, none⟩ 0 z [] w4 hlt (B2.cell 0) (B2.frozen 0)).mono ?_
    rintro e u' w7 ⟨rfl, rfl, rfl⟩
    refine leaves_cons (f := 20) (args := #[.pointer (some ⟨g + 1 + 1, 0, none⟩), .pointer (some ⟨g + 1, 0, none⟩)]) (by simp [settle]) (by simp [go_sem]) ?_
    refine (encodeD_bad _ _ z _ _ _ HZ.out (E2.cell 0) (E1.cell 0) (E1.frozen 0)).mono ?_
    rintro e u' w8 ⟨rfl, rfl, rfl⟩
    have r1 := (E1.set_ 0 (.slice none 0 0)).cell 0
    have r2 := (E2.other (g' := g + 1) (by omega) 0 (.slice none 0 0)).cell 0
    have HB6 := HB5.setCell (p := ⟨g + 1, 0, none⟩) (by show g ≤ g + 1; omega) (.slice none 0 0)
    generalize ((w4.alloc (.cells #[.int .i64 z] 60)).setCell ⟨g + 1 + 1, 0, none⟩ (.int .i64 z)).setCell ⟨g + 1, 0, none⟩ (.slice none 0 0) = w8 at *
    simp [settle, Leaves, results, Try.results10, go_sem, r1, r2]
    unfold EncPost
    rw [HG.out]
    exact ⟨HB6, rfl⟩
theorem encode_any {cs : List Value} (v : Val) (w : World) (hv : valR.R w no cs v) (hbk : bulkV v ≤ 1048576) :
    Calls Try.prog 10 #[.agg cs.toArray] w (EncPost w (enc v)) := encode_big v w hv (by omega)
end Go.Proofs.Ythpcanibahcghaa
