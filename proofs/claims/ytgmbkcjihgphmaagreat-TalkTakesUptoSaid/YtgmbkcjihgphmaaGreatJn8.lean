/- Contracts and laws for what the statement reaches, joined: GrainEncode, GrainDecode, GrainKept, ObjFns, ObjFns2, ObjOpen. -/
import Derived.Test.YtgmbkcjihgphmaaGreatJn3
import Derived.Test.YtgmbkcjihgphmaaGreatJn4
import Derived.Test.YtgmbkcjihgphmaaGreatJn5
import Derived.Test.YtgmbkcjihgphmaaGreatJn6
import Derived.Test.YtgmbkcjihgphmaaGreatJn7
/- grain.Encode: its deferred functions, and itself. -/
set_option linter.unusedVariables false
namespace Go.Proofs.YtgmbkcjihgphmaaGreat
open Go.RowKit
set_option maxRecDepth 100000 in
set_option maxHeartbeats 1000000 in
theorem caught_stop (p : Addr) (x z : Int) (older : List PanicEntry) (w : World) (hp : p.block < w.heap.size) (hc : w.cell? p = some (.int .i64 x)) (hz : w.frozen? p = false) :
  CallsD Tryz.prog 88 #[.pointer (some p)] (.panicking ({ v := .iface 190 (.agg #[.int .i64 z]), recovered := false } :: older)) w fun e u' w' =>
   e = .returned (.tuple #[]) ∧ u' = .panicking ({ v := .iface 190 (.agg #[.int .i64 z]), recovered := true } :: older) ∧ w' = (w.alloc (.cells #[.int .i64 z] 190)).setCell p (.int .i64 z) := by
 have hsi : (Tryz.prog.info? 190).map (·.size) = some (#[Value.int .i64 z] : Array Value).size := by kernel_rfl
 refine callsD_of_wpS Tryz.func88 rfl fun c₀ cs hu => ?_
 change Code.wpS _ _ _ { tmps := #[.pointer (some p), undef, undef, undef, undef, undef, undef, undef, undef, undef, undef, undef, undef, undef], defers := [] } _ _
 have hta := run_assert_hit (P := Tryz.prog) (x := 20) Tryz.underlying190
 apply wpS_seq
 apply wpS_region
 refine WpR.out (l := [0, 1, 2, 3, 4, 5, 6, 7]) ?_
 refine WpR.recover (a' := ?_) (v := .iface 190 (.agg #[.int .i64 z])) (cs' := { c₀ with mode := .panicking ({ v := .iface 190 (.agg #[.int .i64 z]), recovered := true } :: older) } :: cs) rfl rfl ?_ ?_ ?_ ?_
 rotate_left 1
 ·go_simp
 ·simp [recoverD, hu]
 ·(go_simp; try with_reducible rfl)
 refine WpR.val (v := ?_) (a' := ?_) (w' := w) rfl rfl ?_ ?_ ?_
 rotate_left 2
 ·(go_simp; try with_reducible rfl)
 ·(go_simp; try with_reducible rfl)
 refine WpR.val (v := ?_) (a' := ?_) (w' := w) rfl rfl ?_ ?_ ?_
 rotate_left 2
 ·(go_simp; try with_reducible rfl)
 ·(go_simp; try with_reducible rfl)
 refine WpR.val (v := ?_) (a' := ?_) (w' := w) rfl rfl ?_ ?_ ?_
 rotate_left 2
 ·(go_simp; try with_reducible rfl)
 ·(go_simp; try with_reducible rfl)
 refine WpR.val (v := ?_) (a' := ?_) (w' := w) rfl rfl ?_ ?_ ?_
 rotate_left 2
 ·(go_simp; try with_reducible rfl)
 ·(go_simp; try with_reducible rfl)
 refine WpR.val (v := ?_) (a' := ?_) (w' := w.alloc (.cells #[.int .i64 0] 190)) rfl rfl ?_ ?_ ?_
 rotate_left 2
 ·(go_simp; try with_reducible rfl)
 ·(go_simp; try with_reducible rfl)
 refine WpR.skip (a' := ?_) (w' := w.alloc (.cells #[.int .i64 z] 190)) rfl rfl ?_ ?_ ?_
 rotate_left 1
 ·(go_simp; try with_reducible rfl)
 ·(go_simp; try with_reducible rfl)
 refine WpR.val (v := ?_) (a' := ?_) (w' := w.alloc (.cells #[.int .i64 z] 190)) rfl rfl ?_ ?_ ?_
 rotate_left 2
 ·(go_simp; try with_reducible rfl)
 ·(go_simp; try with_reducible rfl)
 refine WpR.done ?_
 refine wpS_of_wp ?_
 have hc' : (w.alloc (.cells #[.int .i64 z] 190)).cell? p = some (.int .i64 x) := (World.cell?_alloc_lt _ _ _ hp).trans hc
 have hz' : (w.alloc (.cells #[.int .i64 z] 190)).frozen? p = false := (World.frozen?_alloc_old w _ p (by omega)).trans hz
 go_wp2_with fail
 simp [bodyPostS, results, Tryz.results88]
set_option maxRecDepth 100000 in
set_option maxHeartbeats 1000000 in
theorem caught_idle (p : Addr) (w : World) :
  CallsD Tryz.prog 88 #[.pointer (some p)] .returning w fun e u' w' =>
   e = .returned (.tuple #[]) ∧ u' = .returning ∧ w' = w.alloc (.cells #[.int .i64 0] 190) := by
 have hta := fun w : World => run_assert_nil (P := Tryz.prog) (x := 20) (z := .agg #[.int .i64 0]) Tryz.underlying190 w (by kernel_rfl)
 refine callsD_of_wpS Tryz.func88 rfl fun c₀ cs hu => ?_
 change Code.wpS _ _ _ { tmps := #[.pointer (some p), undef, undef, undef, undef, undef, undef, undef, undef, undef, undef, undef, undef, undef], defers := [] } _ _
 apply wpS_seq
 apply wpS_region
 refine WpR.out (l := [0, 1, 2, 3, 4, 5, 6, 7]) ?_
 refine WpR.idle (a' := ?_) rfl rfl ?_ ?_ ?_ ?_
 rotate_left 1
 ·go_simp
 ·simp [recoverD, hu]
 ·(go_simp; try with_reducible rfl)
 refine WpR.val (v := ?_) (a' := ?_) (w' := w) rfl rfl ?_ ?_ ?_
 rotate_left 2
 ·(go_simp; try with_reducible rfl)
 ·(go_simp; try with_reducible rfl)
 refine WpR.val (v := ?_) (a' := ?_) (w' := w) rfl rfl ?_ ?_ ?_
 rotate_left 2
 ·(go_simp; try with_reducible rfl)
 ·(go_simp; try with_reducible rfl)
 refine WpR.val (v := ?_) (a' := ?_) (w' := w) rfl rfl ?_ ?_ ?_
 rotate_left 2
 ·(go_simp; try with_reducible rfl)
 ·(go_simp; try with_reducible rfl)
 refine WpR.val (v := ?_) (a' := ?_) (w' := w) rfl rfl ?_ ?_ ?_
 rotate_left 2
 ·(go_simp; try with_reducible rfl)
 ·(go_simp; try with_reducible rfl)
 refine WpR.val (v := ?_) (a' := ?_) (w' := w.alloc (.cells #[.int .i64 0] 190)) rfl rfl ?_ ?_ ?_
 rotate_left 2
 ·(go_simp; try with_reducible rfl)
 ·(go_simp; try with_reducible rfl)
 refine WpR.skip (a' := ?_) (w' := w.alloc (.cells #[.int .i64 0] 190)) rfl rfl ?_ ?_ ?_
 rotate_left 1
 ·(go_simp; try with_reducible rfl)
 ·(go_simp; try with_reducible rfl)
 refine WpR.val (v := ?_) (a' := ?_) (w' := w.alloc (.cells #[.int .i64 0] 190)) rfl rfl ?_ ?_ ?_
 rotate_left 2
 ·(go_simp; try with_reducible rfl)
 ·(go_simp; try with_reducible rfl)
 refine WpR.done ?_
 refine wpS_of_wp ?_
 go_wp2_with fail
 cases c₀
 simp_all [bodyPostS, results, Tryz.results88]
theorem encodeD_ok (pe pb : Addr) (u : FrameMode) (w : World) (he : w.cell? pe = some (.int .i64 0)) :
  CallsD Tryz.prog 87 #[.pointer (some pe), .pointer (some pb)] u w fun e u' w' => u' = u ∧ e = .returned (.tuple #[]) ∧ w' = w := by
 go_enter_d Tryz.func87, Tryz.ntmps87
 go_wp2_with fail
 go_end0
 exact ⟨rfl, rfl⟩
theorem encodeD_bad (pe pb : Addr) (z : Int) (y : Value) (u : FrameMode) (w : World) (hz : z ≠ 0) (he : w.cell? pe = some (.int .i64 z)) (hb : w.cell? pb = some y) (hy : w.frozen? pb = false) :
  CallsD Tryz.prog 87 #[.pointer (some pe), .pointer (some pb)] u w fun e u' w' => u' = u ∧ e = .returned (.tuple #[]) ∧ w' = w.setCell pb (.slice none 0 0) := by
 have hz' : (z != 0) = true := by simp [hz]
 clear hz
 go_enter_d Tryz.func87, Tryz.ntmps87
 go_wp2_with fail
 go_end0
 exact ⟨rfl, rfl⟩
def EncPost (w : World) (r : Res (List UInt8)) (e : Ending) (w' : World) : Prop :=
 Below w.heap.size w w' ∧ match r with
  | .ok o => ∃ A m c, e = .returned (.tuple #[.slice A m c, .int .i64 0]) ∧ m = o.length ∧ w'.ownsRow w.heap.size 5 1 (.slice A m c) m (bytesV o)
  | .error z => e = .returned (.tuple #[.slice none 0 0, .int .i64 z])
theorem own_setCell {base : Nat} {w : World} {e : TypeId} {sz n : Nat} {v : Value} {xs : List Value} (h : w.ownsRow base e sz v n xs) {b i : Nat} (u : Value) (hb : b < base) : (w.setCell ⟨b, i, none⟩ u).ownsRow base e sz v n xs := by
 refine h.kept (grown_set w b i u) ?_
 cases hv : v.ownBlock with
 | none => exact .inl rfl
 | some k =>
  right
  intro e
  have e := Option.some.inj e
  have := (h.lt k hv).1
  omega
/-- Encode's three variables: the value, the bytes, the error -/
structure EncVars (w : World) (g : Nat) (w3 : World) (KV : Array Value) : Prop where
 below : Below g w w3
 size : w3.heap.size = g + 3
 v : w3.heap[g]? = some (.cells KV 94 (0, 0))
 b : w3.heap[g + 1]? = some (.cells #[.slice none 0 0] 38 (0, 0))
 e : w3.heap[g + 2]? = some (.cells #[.int .i64 0] 55 (0, 0))
theorem EncVars.made (w : World) (KV : Array Value) : EncVars w w.heap.size (((w.alloc (.cells KV 94)).alloc (.cells #[.slice none 0 0] 38)).alloc (.cells #[.int .i64 0] 55)) KV := by
 refine ⟨(((Below.refl _ _).alloc (Nat.le_refl _) _).alloc (by simp) _).alloc (by simp; omega) _, by simp, ?_, ?_, ?_⟩
 ·rw [Below.heap_alloc _ _ _ (by simp; omega), Below.heap_alloc _ _ _ (by simp)]; exact heap_alloc_new w _
 ·rw [Below.heap_alloc _ _ _ (by simp)]
  have := heap_alloc_new (w.alloc (.cells KV 94)) (.cells #[.slice none 0 0] 38)
  simpa using this
 ·have := heap_alloc_new ((w.alloc (.cells KV 94)).alloc (.cells #[.slice none 0 0] 38)) (.cells #[.int .i64 0] 55)
  simpa using this
set_option maxRecDepth 100000 in
set_option maxHeartbeats 2000000 in
theorem encode_big {cs : List Value} (v : Val) (w : World) (hv : valR.R w no cs v) (hbk : bulkV v ≤ 1100000) :
  Calls Tryz.prog 61 #[.agg cs.toArray] w (EncPost w (enc v)) := by
 have hmf : ∀ (fn : Fn) (first cap : Array Value) (w : World), (Instr.makeFunc fn first cap).run Tryz.prog w = .ok (.func fn first cap) w := fun _ _ _ _ => rfl
 have hk5 : cs.length = 5 := valR.len hv
 have HKI := Lib.hid (show (Tryz.prog.info? 94).map (·.size) = some cs.toArray.size by rw [show cs.toArray.size = 5 from by simpa using hk5]; kernel_rfl)
 obtain ⟨w3, hw3⟩ : ∃ w3, w3 = ((w.alloc (.cells cs.toArray 94)).alloc (.cells #[.slice none 0 0] 38)).alloc (.cells #[.int .i64 0] 55) := ⟨_, rfl⟩
 have HE := Lib.hid (EncVars.made w cs.toArray)
 rw [← hw3] at HE
 have hv3 : valR.R w3 (own (.slice none 0 0)) cs v := valR.stable hv ((Moves.of_below HE.out.below).trans (Moves.less w3 (fun b _ h => by simp [own, Value.ownBlock] at h)))
 have HW := Lib.hid (write_any (base := w3.heap.size) 16 (A := none) (m := 0) (c := 0) (xs := []) v w3 (Nat.le_refl _) hv3 hbk (by omega) (World.ownsRow_nil _ _ _ _) (Nat.le_refl _))
 obtain ⟨KV, hKV⟩ : ∃ KV : Array Value, KV = cs.toArray := ⟨_, rfl⟩
 rw [← hKV] at HKI HW HE hw3 ⊢
 clear hKV hv hv3 hk5 hbk
 have henc : wrV 16 [] v = enc v := rfl
 rw [henc] at HW
 go_enter_defers Tryz.func61, Tryz.ntmps61
 go_upto_region 3 with fail
 rw [← hw3]
 clear hw3 henc
 generalize hg : w.heap.size = g at *
 have HG := Lib.hid hg
 clear hg
 go_wp2_with (refine wpList_load_row rfl 94 (.tmp 1) rfl g rfl 94 KV (0, 0) _ HE.out.v Tryz.underlying94 rfl HKI.out ?_)
 refine HW.out.mono ?_
 intro e w4 hp
 obtain ⟨hb4, hp⟩ := hp
 have hsz := HE.out.size
 have B1 : Blk w4 (g + 1) 38 #[.slice none 0 0] := (hb4.block _ (by omega)).trans HE.out.b
 have B2 : Blk w4 (g + 1 + 1) 55 #[.int .i64 0] := (hb4.block _ (by omega)).trans HE.out.e
 have HB := Lib.hid (HE.out.below.trans (hb4.mono (by omega)))
 have hsz4 := hb4.size
 cases hr : enc v with
 | ok o =>
  rw [hr] at hp
  obtain ⟨A, m, c, rfl, hm, hown, _⟩ := hp
  have HM := Lib.hid hm
  have c1 : w4.cell? ⟨g + 1, 0, none⟩ = some (.slice none 0 0) := B1.cell 0
  have c2 : w4.cell? ⟨g + 1 + 1, 0, none⟩ = some (.int .i64 0) := B2.cell 0
  have f1 := B1.frozen 0
  have f2 := B2.frozen 0
  have D1 := B1.set_ 0 (.slice A m c)
  have D1' := D1.other (g' := g + 1 + 1) (by omega) 0 (.int .i64 0)
  have D2 := (B2.other (g' := g + 1) (by omega) 0 (.slice A m c)).set_ 0 (.int .i64 0)
  have e1 : ((w4.setCell ⟨g + 1, 0, none⟩ (.slice A m c)).setCell ⟨g + 1 + 1, 0, none⟩ (.int .i64 0)).cell? ⟨g + 1 + 1, 0, none⟩ = some (.int .i64 0) := D2.cell 0
  have hown6 := own_setCell (own_setCell hown (b := g + 1) (i := 0) (.slice A m c) (by omega)) (b := g + 1 + 1) (i := 0) (.int .i64 0) (by omega)
  have HB6 := (HB.out.setCell (p := ⟨g + 1, 0, none⟩) (by show g ≤ g + 1; omega) (.slice A m c)).setCell (p := ⟨g + 1 + 1, 0, none⟩) (by show g ≤ g + 1 + 1; omega) (.int .i64 0)
  clear hm hb4 B1 B2 HW D1 hsz
  obtain ⟨w6, hw6⟩ : ∃ w6, w6 = ((w4.setCell ⟨g + 1, 0, none⟩ (.slice A m c)).setCell ⟨g + 1 + 1, 0, none⟩ (.int .i64 0)) := ⟨_, rfl⟩
  have HW6 := Lib.hid hw6
  rw [← hw6] at D1' D2 e1 hown6 HB6
  clear hw6
  have HD1 := Lib.hid D1'
  have HD2 := Lib.hid D2
  clear D1' D2 e1
  go_wp2_with fail
  rw [← HW6.out]
  refine leaves_cons (f := 88) (args := #[.pointer (some ⟨g + 1 + 1, 0, none⟩)]) (by simp) (by simp [go_sem]) ?_
  refine (caught_idle _ _).mono ?_
  rintro e u' w7 ⟨rfl, rfl, rfl⟩
  have E1 := HD1.out.alloc (.cells #[.int .i64 0] 190)
  have E2 := HD2.out.alloc (.cells #[.int .i64 0] 190)
  refine leaves_cons (f := 87) (args := #[.pointer (some ⟨g + 1 + 1, 0, none⟩), .pointer (some ⟨g + 1, 0, none⟩)]) (by simp [settle]) (by simp [go_sem]) ?_
  refine (encodeD_ok _ _ _ _ (E2.cell 0)).mono ?_
  rintro e u' w8 ⟨rfl, rfl, rfl⟩
  have r1 := E1.cell 0
  have r2 := E2.cell 0
  simp [settle, Leaves, results, Tryz.results61, go_sem, r1, r2]
  unfold EncPost
  rw [HG.out, hr]
  exact ⟨HB6.alloc (by have h1 := HE.out.size; have h2 := HB6.size; rw [HG.out] at h2; exact h2) _, A, m, c, rfl, HM.out, own_mono (hown6.alloc _) (by have := HE.out.size; omega)⟩
 | error z =>
  rw [hr] at hp
  obtain rfl : e = _ := hp
  have HZ := Lib.hid (wrV_err 16 [] v z hr)
  have hlt : g + 1 + 1 < w4.heap.size := by omega
  have E1 := (B1.alloc (.cells #[.int .i64 z] 190)).other (g' := g + 1 + 1) (by omega) 0 (.int .i64 z)
  have E2 := (B2.alloc (.cells #[.int .i64 z] 190)).set_ 0 (.int .i64 z)
  have hgl : g ≤ w4.heap.size := by omega
  have HB5 := (HB.out.alloc hgl (.cells #[.int .i64 z] 190)).setCell (p := ⟨g + 1 + 1, 0, none⟩) (by show g ≤ g + 1 + 1; omega) (.int .i64 z)
  clear hb4 HW hsz
  refine leaves_cons (f := 88) (args := #[.pointer (some ⟨g + 1 + 1, 0, none⟩)]) (by simp) (by simp [go_sem]) ?_
  refine (caught_stop ⟨g + 1 + 1, 0, none⟩ 0 z [] w4 hlt (B2.cell 0) (B2.frozen 0)).mono ?_
  rintro e u' w7 ⟨rfl, rfl, rfl⟩
  refine leaves_cons (f := 87) (args := #[.pointer (some ⟨g + 1 + 1, 0, none⟩), .pointer (some ⟨g + 1, 0, none⟩)]) (by simp [settle]) (by simp [go_sem]) ?_
  refine (encodeD_bad _ _ z _ _ _ HZ.out (E2.cell 0) (E1.cell 0) (E1.frozen 0)).mono ?_
  rintro e u' w8 ⟨rfl, rfl, rfl⟩
  have r1 := (E1.set_ 0 (.slice none 0 0)).cell 0
  have r2 := (E2.other (g' := g + 1) (by omega) 0 (.slice none 0 0)).cell 0
  have HB6 := HB5.setCell (p := ⟨g + 1, 0, none⟩) (by show g ≤ g + 1; omega) (.slice none 0 0)
  generalize ((w4.alloc (.cells #[.int .i64 z] 190)).setCell ⟨g + 1 + 1, 0, none⟩ (.int .i64 z)).setCell ⟨g + 1, 0, none⟩ (.slice none 0 0) = w8 at *
  simp [settle, Leaves, results, Tryz.results61, go_sem, r1, r2]
  unfold EncPost
  rw [HG.out]
  exact ⟨HB6, rfl⟩
end Go.Proofs.YtgmbkcjihgphmaaGreat
/- grain.Decode. -/
namespace Go.Proofs.YtgmbkcjihgphmaaGreat
open Go.RowKit
/-- the zero value's cells -/
abbrev zV : Array Value := cellsV 0 0 none 0 0 0 none 0 0
theorem decodeD_ok (pe pv : Addr) (u : FrameMode) (w : World) (he : w.cell? pe = some (.int .i64 0)) :
  CallsD Tryz.prog 97 #[.pointer (some pe), .pointer (some pv)] u w fun e u' w' => u' = u ∧ e = .returned (.tuple #[]) ∧ w' = w := by
 go_enter_d Tryz.func97, Tryz.ntmps97
 go_wp2_with fail
 go_end0
 exact ⟨rfl, rfl⟩
theorem decodeD_bad (pe : Addr) (gv : Nat) (z : Int) (K : Array Value) (u : FrameMode) (w : World) (hz : z ≠ 0) (he : w.cell? pe = some (.int .i64 z)) (hK : K.size = 5) (hb : Blk w gv 94 K) :
  CallsD Tryz.prog 97 #[.pointer (some pe), .pointer (some ⟨gv, 0, none⟩)] u w fun e u' w' => u' = u ∧ e = .returned (.tuple #[]) ∧ w' = w.setRow gv zV := by
 have hz' : (z != 0) = true := by simp [hz]
 obtain ⟨KV, hKV⟩ : ∃ KV, KV = zV := ⟨_, rfl⟩
 have HI := Lib.hid (show (Tryz.prog.info? 94).map (·.size) = some KV.size by rw [hKV]; exact cellsV_info 0 0 none 0 0 0 none 0 0)
 have HO := Lib.hid (show KV.all (·.oneCell') = true by rw [hKV]; exact cellsV_one 0 0 none 0 0 0 none 0 0)
 have HS := Lib.hid (show K.size = KV.size by rw [hK, hKV]; rfl)
 have HB := Lib.hid hb
 have HKV := Lib.hid hKV
 rw [← hKV]
 clear hz hKV hb hK
 go_enter_d Tryz.func97, Tryz.ntmps97
 go_wp2_with (first | (refine wpList_store_row rfl _ _ _ rfl gv KV rfl (by rw [HKV.out]; rfl) 94 _ HB.out HI.out HS.out HO.out ?_) | fail)
 go_end0
 exact ⟨rfl, rfl⟩
def DecPost (w : World) (r : Res Val) (e : Ending) (w' : World) : Prop :=
 Below w.heap.size w w' ∧ match r with
  | .ok v => ∃ cs : List Value, e = .returned (.tuple #[.agg cs.toArray, .int .i64 0]) ∧ valR.R w' (fun b => b < w.heap.size) cs v
  | .error z => e = .returned (.tuple #[.agg zV, .int .i64 z])
theorem results_two_row {fn : Func} {p q : Tmp} (h : fn.results = #[.cell p 94, .cell q 55]) (tmps : Array Value) (w : World) (g g' : Nat) (t : TypeId) (cs : Array Value) (z : Int)
  (hp : tmps.getD p undef = .pointer (some ⟨g, 0, none⟩)) (hq : tmps.getD q undef = .pointer (some ⟨g', 0, none⟩)) (hg : w.heap[g]? = some (.cells cs t (0, 0))) (hg' : w.cell? ⟨g', 0, none⟩ = some (.int .i64 z))
  (hi : (Tryz.prog.info? 94).map (·.size) = some cs.size) :
  (results fn tmps).run Tryz.prog w = .ok (.tuple #[.agg cs, .int .i64 z]) w := by
 have hp' : tmps[p]?.getD undef = .pointer (some ⟨g, 0, none⟩) := by simpa using hp
 have hq' : tmps[q]?.getD undef = .pointer (some ⟨g', 0, none⟩) := by simpa using hq
 have hl := run_loadVar_row w g t 94 cs (0, 0) _ hg Tryz.underlying94 rfl hi
 have h2 : (loadVar 55 ⟨g', 0, none⟩).run Tryz.prog w = .ok (.int .i64 z) w := by simp [go_sem, hg']
 simp [results, h, hp', hq', asAddr, hl, h2]
/-- Decode's variables: the value, the error, the cursor -/
structure DecVars (w w3 : World) (g : Nat) (A : Option Addr) (n c : Nat) : Prop where
 below : Below g w w3
 size : w3.heap.size = g + 3
 v : Blk w3 g 94 zV
 e : Blk w3 (g + 1) 55 #[.int .i64 0]
 c : Blk w3 (g + 2) 187 #[.slice A n c]
theorem DecVars.made (w : World) (A : Option Addr) (n c : Nat) : DecVars w (((w.alloc (.cells zV 94)).alloc (.cells #[.int .i64 0] 55)).alloc (.cells #[.slice A n c] 187)) w.heap.size A n c := by
 refine ⟨(((Below.refl _ _).alloc (Nat.le_refl _) _).alloc (by simp) _).alloc (by simp; omega) _, by simp, ?_, ?_, ?_⟩
 ·exact ((Blk.new w _ _).alloc _).alloc _
 ·have := (Blk.new (w.alloc (.cells zV 94)) 55 #[.int .i64 0]).alloc (.cells #[.slice A n c] 187)
  simpa using this
 ·have := Blk.new ((w.alloc (.cells zV 94)).alloc (.cells #[.int .i64 0] 55)) 187 #[.slice A n c]
  simpa using this
theorem rdT_err_ne : ∀ (l : List UInt8) (s n : Nat) (x : UInt8) (z : Int), rdT s n x l = .error z → z ≠ 0
 | [], s, n, x, z, h => by
  unfold rdT at h
  split at h
  ·cases h
  ·injection h with h; omega
 | y :: r, s, n, x, z, h => by
  unfold rdT at h
  split at h
  ·cases h
  ·split at h
   ·injection h with h; omega
   ·exact rdT_err_ne r _ _ _ _ h
theorem rd_err_ne : ∀ (d : Nat) (l : List UInt8) (z : Int), rd d l = .error z → z ≠ 0
 | 0, l, z, h => by injection h with h; omega
 | d + 1, l, z, h => by
  have hn : ∀ (k : Nat) (l : List UInt8) (z : Int), rdN (rd d) k l = .error z → z ≠ 0 := by
   intro k
   induction k with
   | zero => intro l z h; cases h
   | succ k ih =>
    intro l z h
    rw [rdN] at h
    split at h
    ·split at h
     ·cases h
     ·rename_i q; injection h with h; subst h; exact ih _ _ q
    ·rename_i q; injection h with h; subst h; exact rd_err_ne d _ _ q
  unfold rd at h
  split at h
  ·rename_i e he
   injection h with h
   subst h
   cases l with
   | nil => injection he with he; omega
   | cons x r =>
    rw [rdH] at he
    split at he
    ·cases he
    ·rename_i q; injection he with he; subst he; exact rdT_err_ne _ _ _ _ _ q
  ·split at h
   ·cases h
   split at h
   ·split at h
    ·injection h with h; omega
    ·cases h
   split at h
   ·split at h
    ·injection h with h; omega
    ·split at h
     ·injection h with h; omega
     ·cases h
   ·split at h
    ·cases h
    ·rename_i q; injection h with h; subst h; exact hn _ _ _ q
/-- the door behind a panic that tells an error -/
theorem dec_door {w w4 : World} {g : Nat} {tmps K : Array Value} {z : Int} (hz : z ≠ 0) (HG : w.heap.size = g) (hB : Below g w w4) (hv : Blk w4 g 94 K) (hK : K.size = 5) (he : Blk w4 (g + 1) 55 #[.int .i64 0])
  (hp : tmps.getD 2 undef = .pointer (some ⟨g, 0, none⟩)) (hq : tmps.getD 3 undef = .pointer (some ⟨g + 1, 0, none⟩)) :
  Leaves Tryz.prog Tryz.f77 tmps (DecPost w (.error z)) [{ target := .fn (.func 88) #[], args := #[.pointer (some ⟨g + 1, 0, none⟩)] }, { target := .fn (.func 97) #[.pointer (some ⟨g + 1, 0, none⟩), .pointer (some ⟨g, 0, none⟩)], args := #[] }] (.panicking (stopE z)) w4 := by
 have hlt : g + 1 < w4.heap.size := he.lt
 have E1 := (hv.alloc (.cells #[.int .i64 z] 190)).other (g' := g + 1) (by omega) 0 (.int .i64 z)
 have E2 := (he.alloc (.cells #[.int .i64 z] 190)).set_ 0 (.int .i64 z)
 have hgl : g ≤ w4.heap.size := by omega
 have HB5 := (hB.alloc hgl (.cells #[.int .i64 z] 190)).setCell (p := ⟨g + 1, 0, none⟩) (by show g ≤ g + 1; omega) (.int .i64 z)
 refine leaves_cons (f := 88) (args := #[.pointer (some ⟨g + 1, 0, none⟩)]) (by simp) (by simp [go_sem]) ?_
 refine (caught_stop ⟨g + 1, 0, none⟩ 0 z [] w4 hlt (he.cell 0) (he.frozen 0)).mono ?_
 rintro e u' w7 ⟨rfl, rfl, rfl⟩
 refine leaves_cons (f := 97) (args := #[.pointer (some ⟨g + 1, 0, none⟩), .pointer (some ⟨g, 0, none⟩)]) (by simp [settle]) (by simp [go_sem]) ?_
 refine (decodeD_bad _ g z K _ _ hz (E2.cell 0) hK E1).mono ?_
 rintro e u' w8 ⟨rfl, rfl, rfl⟩
 have r1 := setRow_heap _ g _ zV _ _ E1
 have r2 := (cell_setRow_other ((w4.alloc (.cells #[.int .i64 z] 190)).setCell ⟨g + 1, 0, none⟩ (.int .i64 z)) g zV ⟨g + 1, 0, none⟩ (by show g + 1 ≠ g; omega)).trans (E2.cell 0)
 have HB6 := below_setRow HB5 (Nat.le_refl g) zV
 refine ⟨_, results_two_row rfl tmps _ g (g + 1) _ zV z hp hq r1 r2 (cellsV_info 0 0 none 0 0 0 none 0 0), ?_⟩
 unfold DecPost
 rw [HG]
 exact ⟨HB6, rfl⟩
set_option maxRecDepth 100000 in
set_option maxHeartbeats 2000000 in
theorem decode_any (A : Option Addr) (n c : Nat) (l : List UInt8) (w : World) (hs : Sl w 1 A n (bytesV l)) (hc : n ≤ c) (hm : c ≤ maxLen) :
  Calls Tryz.prog 77 #[.slice A n c] w (DecPost w (dec l)) := by
 have hn : 0 < n → ∀ b off sp, A = some ⟨b, off, sp⟩ → b < w.heap.size := fun h0 b off sp e => by
  obtain ⟨b', off', he, hb, _⟩ := hs.2 h0
  rw [he] at e
  have e := Option.some.inj e
  injection e with e
  omega
 have hmf : ∀ (fn : Fn) (first cap : Array Value) (w : World), (Instr.makeFunc fn first cap).run Tryz.prog w = .ok (.func fn first cap) w := fun _ _ _ _ => rfl
 have hln : l.length = n := by have := hs.1; simpa [bytesV_length] using this
 by_cases hlong : 1048576 < n
 ·have hlI : (1048576 : Int) < (n : Int) := by omega
  have hdec : dec l = .error 2 := by unfold dec; rw [if_pos (by omega)]
  rw [hdec]
  obtain ⟨KV, hKV⟩ : ∃ KV, KV = zV := ⟨_, rfl⟩
  have HI := Lib.hid (show (Tryz.prog.info? 94).map (·.size) = some KV.size by rw [hKV]; exact cellsV_info 0 0 none 0 0 0 none 0 0)
  have HO := Lib.hid (show KV.all (·.oneCell') = true by rw [hKV]; exact cellsV_one 0 0 none 0 0 0 none 0 0)
  have HKV := Lib.hid hKV
  have hb0 := (Blk.new w 94 #[.int .i64 0, .int .u64 0, .slice none 0 0, .float .f64 0, .slice none 0 0]).alloc (.cells #[.int .i64 0] 55)
  have he0 : Blk ((w.alloc (.cells #[.int .i64 0, .int .u64 0, .slice none 0 0, .float .f64 0, .slice none 0 0] 94)).alloc (.cells #[.int .i64 0] 55)) (w.heap.size + 1) 55 #[.int .i64 0] := by
   have := Blk.new (w.alloc (.cells #[.int .i64 0, .int .u64 0, .slice none 0 0, .float .f64 0, .slice none 0 0] 94)) 55 #[.int .i64 0]
   simpa using this
  have hbel : Below w.heap.size w ((w.alloc (.cells #[.int .i64 0, .int .u64 0, .slice none 0 0, .float .f64 0, .slice none 0 0] 94)).alloc (.cells #[.int .i64 0] 55)) := ((Below.refl _ _).alloc (Nat.le_refl _) _).alloc (by simp) _
  have he1 := he0.grown (grown_row _ w.heap.size KV) (fun e => by have := Option.some.inj e; omega)
  have HB0 := Lib.hid hb0
  have HE1 := Lib.hid he1
  have c1 := he1.cell 0
  have f1 := he1.frozen 0
  have HBE := Lib.hid hbel
  clear hKV hdec hb0 he0 he1 hbel hs hn hm hln hmf
  go_enter_defers Tryz.func77, Tryz.ntmps77
  go_wp2_with (first | (refine wpList_store_row rfl _ _ _ rfl w.heap.size KV rfl (by rw [HKV.out]; rfl) 94 _ HB0.out HI.out (by rw [HKV.out]; rfl) HO.out ?_) | fail)
  have r1 := (show Blk _ w.heap.size 94 KV from setRow_heap _ w.heap.size _ KV _ _ HB0.out).other (g' := w.heap.size + 1) (by omega) 0 (.int .i64 2)
  have r2 := (HE1.out.set_ 0 (.int .i64 2)).cell 0
  have HB := (below_setRow HBE.out (Nat.le_refl _) KV).setCell (p := ⟨w.heap.size + 1, 0, none⟩) (by show w.heap.size ≤ w.heap.size + 1; omega) (.int .i64 2)
  refine ⟨_, results_two_row rfl _ _ w.heap.size (w.heap.size + 1) _ KV 2 rfl rfl r1 r2 HI.out, ?_⟩
  exact ⟨HB, by rw [HKV.out]⟩
 ·have hlI : ¬ (1048576 : Int) < (n : Int) := by omega
  have hdec : dec l = match rd 16 l with | .error e => .error e | .ok (v, []) => .ok v | .ok (_, _ :: _) => .error 23 := by unfold dec; rw [if_neg (by omega)]; rfl
  obtain ⟨w3, hw3⟩ : ∃ w3, w3 = ((w.alloc (.cells zV 94)).alloc (.cells #[.int .i64 0] 55)).alloc (.cells #[.slice A n c] 187) := ⟨_, rfl⟩
  have HD := Lib.hid (DecVars.made w A n c)
  rw [← hw3] at HD
  have HC := Lib.hid (show Cur w3 (w.heap.size + 2) A n c l from ⟨HD.out.c, hs.below HD.out.below, hc, hm, fun h0 b off sp e => by have := hn h0 b off sp e; omega⟩)
  have HV := Lib.hid (value_any 16 (Nat.le_refl _) HC.out (by omega))
  have HDEC := Lib.hid hdec
  have HM := Lib.hid hm
  clear hdec hs hn hm
  go_enter_defers Tryz.func77, Tryz.ntmps77
  go_upto_region 6 with fail
  change Code.wp _ _ _ _ (((w.alloc (.cells zV 94)).alloc (.cells #[.int .i64 0] 55)).alloc (.cells #[.slice A n c] 187))
  rw [← hw3]
  clear hw3
  generalize hg : w.heap.size = g at *
  have HG := Lib.hid hg
  clear hg
  go_wp2_with fail
  refine HV.out.mono ?_
  intro e w4 hp
  obtain ⟨hg4, hp⟩ := hp
  have hsz := HD.out.size
  have HBW := Lib.hid (show Below g w w4 from HD.out.below.trans ⟨hg4.os, hg4.tape, hg4.output, hg4.size, fun k hk => hg4.block k (by omega) (fun e => by have := Option.some.inj e; omega)⟩)
  have BV : Blk w4 g 94 zV := HD.out.v.grown hg4 (fun e => by have := Option.some.inj e; omega)
  have BE : Blk w4 (g + 1) 55 #[.int .i64 0] := HD.out.e.grown hg4 (fun e => by have := Option.some.inj e; omega)
  have hsz4 := hg4.size
  cases hr : rd 16 l with
  | error z =>
   rw [hr] at hp
   obtain rfl : e = _ := hp
   have hd := HDEC.out
   rw [hr] at hd
   rw [hd]
   exact dec_door (rd_err_ne 16 l z hr) HG.out HBW.out BV rfl BE rfl rfl
  | ok p =>
   obtain ⟨v, q⟩ := p
   rw [hr] at hp
   obtain ⟨cs, rfl, hvr, A5, n5, c5, hc5⟩ := hp
   have hk5 : cs.length = 5 := valR.len hvr
   have HKI := Lib.hid (show (Tryz.prog.info? 94).map (·.size) = some cs.toArray.size by rw [show cs.toArray.size = 5 from by simpa using hk5]; exact val_info)
   have HKO := Lib.hid (show cs.toArray.all (·.oneCell') = true by simpa using valR.one hvr)
   have HK5 := Lib.hid (show zV.size = cs.toArray.size by simp [cellsV, hk5])
   have HKS := Lib.hid (show cs.toArray.size = 5 by simpa using hk5)
   have HVR := Lib.hid hvr
   have HBV := Lib.hid BV
   have HBE := Lib.hid BE
   have HHR := Lib.hid hr
   obtain ⟨KV, hKV⟩ : ∃ KV : Array Value, KV = cs.toArray := ⟨_, rfl⟩
   have HKV := Lib.hid hKV
   rw [← hKV] at HKI HKO HK5 HKS ⊢
   have HCB := Lib.hid (hc5.blk.grown (grown_row w4 g KV) (fun e => by have := Option.some.inj e; omega))
   have hn5 := hc5.len
   have q5 : (w4.setRow g KV).cell? ⟨g + 1 + 1, 0, none⟩ = some (.slice A5 n5 c5) := HCB.out.cell 0
   have HE5 := Lib.hid (HBE.out.grown (grown_row w4 g KV) (fun e => by have := Option.some.inj e; omega))
   have HV5 := Lib.hid (setRow_heap w4 g _ KV _ _ HBV.out)
   have HVR5 := Lib.hid (valR.stable HVR.out ((Moves.grown (grown_row w4 g KV) (show g < w3.heap.size by omega)).trans (Moves.less _ (av' := fun b => b < g) (fun b _ e => by omega))))
   have HB5 := Lib.hid (below_setRow HBW.out (Nat.le_refl g) KV)
   clear hKV hvr hk5 BV BE hr hc5 HV HC
   have hd := HDEC.out
   rw [HHR.out] at hd
   cases q with
   | cons y q =>
    have hd' : dec l = .error 23 := hd
    have HDD := Lib.hid hd'
    have hn0 : (0 : Int) < (n5 : Int) := by simp at hn5; omega
    clear hd hd' HDEC HHR hn5
    go_wp2_with (first | (refine wpList_store_row rfl _ _ _ rfl g KV rfl rfl 94 _ HBV.out HKI.out HK5.out HKO.out ?_) | fail)
    rw [HDD.out]
    refine dec_door (z := 23) (K := KV) (by decide) HG.out HB5.out HV5.out HKS.out HE5.out ?_ ?_ <;> rfl
   | nil =>
    have hd' : dec l = .ok v := hd
    obtain rfl : n5 = 0 := by simpa using hn5.symm
    have HDD := Lib.hid hd'
    clear hd hd' HDEC HHR hn5
    have e5 : ((w4.setRow g KV).setRow g KV).cell? ⟨g + 1, 0, none⟩ = some (.int .i64 0) := (HE5.out.grown (grown_row _ g KV) (fun e => by have := Option.some.inj e; omega)).cell 0
    have f5 : ((w4.setRow g KV).setRow g KV).frozen? ⟨g + 1, 0, none⟩ = false := (HE5.out.grown (grown_row _ g KV) (fun e => by have := Option.some.inj e; omega)).frozen 0
    go_wp2_with (first
     | (refine wpList_load_row rfl 94 (.tmp 2) rfl g rfl 94 KV (0, 0) _ HV5.out Tryz.underlying94 rfl HKI.out ?_)
     | (refine wpList_store_row rfl _ _ _ rfl g KV rfl rfl 94 _ HBV.out HKI.out HK5.out HKO.out ?_)
     | (refine wpList_store_row rfl _ _ _ rfl g KV rfl rfl 94 _ HV5.out HKI.out rfl HKO.out ?_))
    have V1 : Blk ((w4.setRow g KV).setRow g KV) g 94 KV := setRow_heap _ g _ KV _ _ HV5.out
    have V2 := V1.other (g' := g + 1) (by omega) 0 (.int .i64 0)
    have E2 := (HE5.out.grown (grown_row _ g KV) (fun e => by have := Option.some.inj e; omega)).set_ 0 (.int .i64 0)
    have BB := (below_setRow HB5.out (Nat.le_refl g) KV).setCell (p := ⟨g + 1, 0, none⟩) (by show g ≤ g + 1; omega) (.int .i64 0)
    have RR := valR.stable HVR.out (((Moves.grown (grown_row w4 g KV) (show g < w3.heap.size by omega)).trans (Moves.grown (grown_row _ g KV) (show g < w3.heap.size by omega))).trans (Moves.grown (grown_set _ (g + 1) 0 (.int .i64 0)) (show g + 1 < w3.heap.size by omega)))
    generalize ((w4.setRow g KV).setRow g KV).setCell ⟨g + 1, 0, none⟩ (.int .i64 0) = W at *
    refine leaves_cons (f := 88) (args := #[.pointer (some ⟨g + 1, 0, none⟩)]) (by simp) (by simp [go_sem]) ?_
    refine (caught_idle _ _).mono ?_
    rintro e u' w7 ⟨rfl, rfl, rfl⟩
    have V3 := V2.alloc (.cells #[.int .i64 0] 190)
    have E3 := E2.alloc (.cells #[.int .i64 0] 190)
    refine leaves_cons (f := 97) (args := #[.pointer (some ⟨g + 1, 0, none⟩), .pointer (some ⟨g, 0, none⟩)]) (by simp [settle]) (by simp [go_sem]) ?_
    refine (decodeD_ok _ _ _ _ (E3.cell 0)).mono ?_
    rintro e u' w8 ⟨rfl, rfl, rfl⟩
    refine ⟨_, results_two_row rfl _ _ g (g + 1) _ KV 0 rfl rfl V3 (E3.cell 0) HKI.out, ?_⟩
    unfold DecPost
    rw [HG.out, HDD.out]
    have hgW : g ≤ W.heap.size := by have := V2.lt; omega
    refine ⟨BB.alloc hgW _, cs, by rw [HKV.out], valR.stable RR ((Moves.of_below ((Below.refl _ _).alloc (Nat.le_refl _) _)).trans (Moves.less _ (fun b _ e => by omega)))⟩
end Go.Proofs.YtgmbkcjihgphmaaGreat
/- grain: Encode and Decode as others use them: what they answer, with and without an error, in one form. -/
namespace Go.Proofs.YtgmbkcjihgphmaaGreat
open Go.RowKit
open Go.ChangeShapes Go.WideShapes Go.ChangeAt in
def okZ {α : Type} : Res α → Int
 | .ok _ => 0
 | .error z => z
def okV : Res Val → Val
 | .ok v => v
 | .error _ => .mk 0 0 [] 0 []
def okB : Res (List UInt8) → List UInt8
 | .ok o => o
 | .error _ => []
theorem DecPost.use {w w' : World} {D : Res Val} {e : Ending} (h : DecPost w D e w') : ∃ cs : List Value, e = .returned (.tuple #[.agg cs.toArray, .int .i64 (okZ D)]) ∧ valR.R w' (fun b => b < w.heap.size) cs (okV D) ∧ Below w.heap.size w w' := by
 obtain ⟨hb, h⟩ := h
 cases D with
 | error z => exact ⟨zV.toList, h, valR_flat w' _ (k := 0) 0 0 (by decide) (by decide) (by decide), hb⟩
 | ok v => obtain ⟨cs, he, hv⟩ := h; exact ⟨cs, he, hv, hb⟩
theorem EncPost.use {w w' : World} {E : Res (List UInt8)} {e : Ending} (h : EncPost w E e w') : ∃ A c, e = .returned (.tuple #[.slice A (okB E).length c, .int .i64 (okZ E)]) ∧ w'.ownsRow w.heap.size 5 1 (.slice A (okB E).length c) (okB E).length (bytesV (okB E)) ∧ Below w.heap.size w w' := by
 obtain ⟨hb, h⟩ := h
 cases E with
 | error z => exact ⟨none, 0, h, World.ownsRow_nil _ _ _ _, hb⟩
 | ok o => obtain ⟨A, m, c, he, rfl, ho⟩ := h; exact ⟨A, c, he, ho, hb⟩
theorem dec_err_ne {l : List UInt8} {z : Int} (h : dec l = .error z) : z ≠ 0 := by
 unfold dec at h
 split at h
 ·injection h with h; omega
 ·split at h
  ·rename_i q; injection h with h; subst h; exact rd_err_ne _ _ _ q
  ·cases h
  ·injection h with h; omega
/-- a value in a block of its own -/
structure Kept (w : World) (g : Nat) (KV : Array Value) (v : Val) : Prop where
 blk : Blk w g 94 KV
 val : valR.R w no KV.toList v
theorem Kept.below {w w' : World} {g : Nat} {KV : Array Value} {v : Val} (h : Kept w g KV v) (hb : Below w.heap.size w w') : Kept w' g KV v :=
 ⟨h.blk.below hb h.blk.lt, valR.stable h.val (Moves.of_below hb)⟩
theorem keepNew (w : World) {cs : List Value} {v : Val} {av : Av} (hv : valR.R w av cs v) : ∃ KV : Array Value, KV = cs.toArray ∧ Hid (Kept (w.alloc (.cells KV 94)) w.heap.size KV v) ∧ Hid ((Tryz.prog.info? 94).map (·.size) = some KV.size) ∧ Hid (KV.all (·.oneCell') = true) ∧ Hid (5 = KV.size) ∧
  Hid ((w.alloc (.cells #[.int .i64 0, .int .u64 0, .slice none 0 0, .float .f64 0, .slice none 0 0] 94)).heap[w.heap.size]? = some (.cells #[.int .i64 0, .int .u64 0, .slice none 0 0, .float .f64 0, .slice none 0 0] 94)) := by
 have hk5 : cs.length = 5 := valR.len hv
 refine ⟨cs.toArray, rfl, Lib.hid ⟨Blk.new _ _ _, ?_⟩, Lib.hid (by rw [show cs.toArray.size = 5 from by simpa using hk5]; exact val_info), Lib.hid (by simpa using valR.one hv), Lib.hid (by simpa using hk5.symm), Lib.hid (heap_alloc_new w _)⟩
 exact valR.stable hv ((Moves.forget w _).trans (Moves.of_below ((Below.refl _ _).alloc (Nat.le_refl _) _)))
/-- a value's cells -/
theorem Kept.cells {w : World} {g : Nat} {KV : Array Value} {k : Int} {u : Nat} {b : List UInt8} {f : Nat} {l : List Val} (h : Kept w g KV (.mk k u b f l)) : ∃ A cA L cL, w.cell? ⟨g, 0, none⟩ = some (.int .i64 k) ∧ w.cell? ⟨g, 1, none⟩ = some (.int .u64 (u : Int)) ∧ w.cell? ⟨g, 2, none⟩ = some (.slice A b.length cA) ∧ w.cell? ⟨g, 3, none⟩ = some (.float .f64 f) ∧ w.cell? ⟨g, 4, none⟩ = some (.slice L l.length cL) ∧
  Sl w 1 A b.length (bytesV b) ∧ b.length ≤ cA ∧ cA ≤ maxLen ∧ SlOf valR w no L l ∧ l.length ≤ cL ∧ cL ≤ maxLen := by
 obtain ⟨A, cA, L, cL, he, _, _, _, ⟨h1, h2, h3⟩, h4, h5, h6⟩ := valR_iff.1 h.val
 have hc : ∀ i, w.cell? ⟨g, i, none⟩ = KV.toList[i]? := fun i => by rw [h.blk.cell i]; simp
 refine ⟨A, cA, L, cL, ?_, ?_, ?_, ?_, ?_, h3.bytes, h1, h2, h6, h4, h5⟩ <;> (rw [hc, he]; rfl)
/-- the same, the blocks that the reading keeps away from told too -/
theorem blk_cells {w : World} {av : Av} {g : Nat} {KV : Array Value} {k : Int} {u : Nat} {b : List UInt8} {f : Nat} {l : List Val} (hb : Blk w g 94 KV) (hv : valR.R w av KV.toList (.mk k u b f l)) : ∃ A cA L cL, w.cell? ⟨g, 0, none⟩ = some (.int .i64 k) ∧ w.cell? ⟨g, 1, none⟩ = some (.int .u64 (u : Int)) ∧ w.cell? ⟨g, 2, none⟩ = some (.slice A b.length cA) ∧ w.cell? ⟨g, 3, none⟩ = some (.float .f64 f) ∧ w.cell? ⟨g, 4, none⟩ = some (.slice L l.length cL) ∧
  SlOf byteR w av A b ∧ b.length ≤ cA ∧ cA ≤ maxLen ∧ SlOf valR w av L l ∧ l.length ≤ cL ∧ cL ≤ maxLen := by
 obtain ⟨A, cA, L, cL, he, _, _, _, ⟨h1, h2, h3⟩, h4, h5, h6⟩ := valR_iff.1 hv
 have hc : ∀ i, w.cell? ⟨g, i, none⟩ = KV.toList[i]? := fun i => by rw [hb.cell i]; simp
 refine ⟨A, cA, L, cL, ?_, ?_, ?_, ?_, ?_, h3, h1, h2, h6, h4, h5⟩ <;> (rw [hc, he]; rfl)
theorem keepNewA (w : World) {cs : List Value} {v : Val} {av : Av} (hv : valR.R w av cs v) : ∃ KV : Array Value, KV = cs.toArray ∧ Hid (Blk (w.alloc (.cells KV 94)) w.heap.size 94 KV) ∧ Hid (valR.R (w.alloc (.cells KV 94)) av KV.toList v) ∧ Hid ((Tryz.prog.info? 94).map (·.size) = some KV.size) ∧ Hid (KV.all (·.oneCell') = true) ∧ Hid (5 = KV.size) ∧
  Hid ((w.alloc (.cells #[.int .i64 0, .int .u64 0, .slice none 0 0, .float .f64 0, .slice none 0 0] 94)).heap[w.heap.size]? = some (.cells #[.int .i64 0, .int .u64 0, .slice none 0 0, .float .f64 0, .slice none 0 0] 94)) := by
 have hk5 : cs.length = 5 := valR.len hv
 exact ⟨cs.toArray, rfl, Lib.hid (Blk.new _ _ _), Lib.hid (valR.stable hv (Moves.of_below ((Below.refl _ _).alloc (Nat.le_refl _) _))), Lib.hid (by rw [show cs.toArray.size = 5 from by simpa using hk5]; exact val_info), Lib.hid (by simpa using valR.one hv), Lib.hid (by simpa using hk5.symm), Lib.hid (heap_alloc_new w _)⟩
end Go.Proofs.YtgmbkcjihgphmaaGreat
/- object's small readers: need, text, id, list. -/
namespace Go.Proofs.YtgmbkcjihgphmaaGreat
open Go.RowKit
attribute [local go_sem ↓] cvt_eq
/-- what object gives up with -/
abbrev flawE (z : Int) : List PanicEntry := [{ v := .iface 152 (.agg #[.int .i64 z]), recovered := false }]
theorem need_yes (z : Int) (w : World) : Calls Tryz.prog 67 #[.bool true, .int .i64 z] w fun e w' => e = .returned (.tuple #[]) ∧ w' = w := by
 go_enter Tryz.func67, Tryz.ntmps67
 go_wp2_with fail
 go_end0
 exact ⟨rfl, rfl⟩
theorem need_no (z : Int) (w : World) : Calls Tryz.prog 67 #[.bool false, .int .i64 z] w fun e w' => e = .panicked (flawE z) ∧ w' = w := by
 go_enter Tryz.func67, Tryz.ntmps67
 go_wp2_with fail
 exact ⟨rfl, rfl, rfl⟩
def TxtPost (w : World) (r : Res (List UInt8)) (e : Ending) (w' : World) : Prop :=
 Below w.heap.size w w' ∧ match r with
  | .ok b => e = .returned (.string ⟨b.toArray⟩)
  | .error z => e = .panicked (flawE z)
def IdPost (w : World) (r : Res (List UInt8)) (e : Ending) (w' : World) : Prop :=
 Below w.heap.size w w' ∧ match r with
  | .ok b => e = .returned (.agg (bytesV b).toArray) ∧ b.length = 32
  | .error z => e = .panicked (flawE z)
def LstPost (w : World) (av : Av) (r : Res (List Val)) (e : Ending) (w' : World) : Prop :=
 Below w.heap.size w w' ∧ match r with
  | .ok l => ∃ L c, e = .returned (.slice L l.length c) ∧ l.length ≤ c ∧ c ≤ maxLen ∧ SlOf valR w' av L l
  | .error z => e = .panicked (flawE z)
set_option maxRecDepth 100000 in
set_option maxHeartbeats 1000000 in
theorem text_get (cs : List Value) (v : Val) (most : Nat) (w : World) (hv : valR.R w no cs v) (hm : most ≤ 1000000000) :
  Calls Tryz.prog 83 #[.agg cs.toArray, .int .i64 (most : Int)] w (TxtPost w (textG v most)) := by
 obtain ⟨KV, hKV, HK, -, -, -, -⟩ := keepNew w hv
 rw [← hKV]
 clear hKV hv
 obtain ⟨k, u, b, f, l⟩ := v
 obtain ⟨A, cA, L, cL, c0, c1, c2, c3, c4, hs, hb1, hb2, _⟩ := HK.out.cells
 have HB := Lib.hid ((Below.refl w.heap.size w).alloc (Nat.le_refl _) (.cells KV 94))
 have HS := Lib.hid hs
 obtain ⟨n, hn⟩ : ∃ n, n = b.length := ⟨_, rfl⟩
 rw [← hn] at c2 hs hb1
 have HN := Lib.hid hn
 simp only [maxLen] at hb2
 obtain ⟨R, hR⟩ : ∃ R, R = textG (.mk k u b f l) most := ⟨_, rfl⟩
 have HR := Lib.hid (show R = if k ≠ 1 then .error 91 else if most < n then .error 2 else .ok b by rw [hR, hn]; rfl)
 rw [← hR]
 clear hs hn hR HK
 go_enter Tryz.func83, Tryz.ntmps83
 go_upto_region 1 with fail
 generalize w.alloc (.cells KV 94) = w1 at *
 by_cases hk : k = 1
 ·have e1 : (k == 1) = true := by simp [hk]
  by_cases hl : n ≤ most
  ·have hI : (n : Int) ≤ (most : Int) := by omega
   have HRR := Lib.hid (show R = .ok b by rw [HR.out, if_neg (by simp [hk]), if_neg (by omega)])
   have hcv : cvt w1 A n cA = .ok (.string ⟨b.toArray⟩) w1 := by rw [HN.out]; exact cvt_of HS.out cA
   clear hk
   go_wp2_with fail
   refine (need_yes 91 _).mono ?_
   rintro e w' ⟨rfl, rfl⟩
   go_wp2_with fail
   refine (need_yes 2 _).mono ?_
   rintro e w' ⟨rfl, rfl⟩
   go_wp2_with fail
   go_ret
   exact ⟨HB.out, by rw [HRR.out]; rfl⟩
  ·have hI : ¬ (n : Int) ≤ (most : Int) := by omega
   have HRR := Lib.hid (show R = .error 2 by rw [HR.out, if_neg (by simp [hk]), if_pos (by omega)])
   clear hk
   go_wp2_with fail
   refine (need_yes 91 _).mono ?_
   rintro e w' ⟨rfl, rfl⟩
   go_wp2_with fail
   refine (need_no 2 _).mono ?_
   rintro e w' ⟨rfl, rfl⟩
   exact ⟨rfl, HB.out, by rw [HRR.out]⟩
 ·have e1 : (k == 1) = false := by simp [hk]
  have HRR := Lib.hid (show R = .error 91 by rw [HR.out, if_pos (by simpa using hk)])
  clear hk
  go_wp2_with fail
  refine (need_no 91 _).mono ?_
  rintro e w' ⟨rfl, rfl⟩
  exact ⟨rfl, HB.out, by rw [HRR.out]⟩
end Go.Proofs.YtgmbkcjihgphmaaGreat
/- object's small readers: list, id. -/
namespace Go.Proofs.YtgmbkcjihgphmaaGreat
open Go.RowKit
attribute [local go_sem ↓] cvt_eq
set_option maxRecDepth 100000 in
set_option maxHeartbeats 1000000 in
theorem list_get (cs : List Value) (v : Val) (most : Nat) (w : World) (av : Av) (hv : valR.R w av cs v) (hm : most ≤ 1000000000) :
  Calls Tryz.prog 80 #[.agg cs.toArray, .int .i64 (most : Int)] w (LstPost w av (listG v most)) := by
 obtain ⟨KV, hKV, HK, HKV, -, -, -, -⟩ := keepNewA w hv
 rw [← hKV]
 clear hKV hv
 obtain ⟨k, u, b, f, l⟩ := v
 obtain ⟨A, cA, L, cL, c0, c1, c2, c3, c4, _, _, _, hs, hb1, hb2⟩ := blk_cells HK.out HKV.out
 have HB := Lib.hid ((Below.refl w.heap.size w).alloc (Nat.le_refl _) (.cells KV 94))
 have HS := Lib.hid hs
 have HC := Lib.hid (And.intro hb1 hb2)
 obtain ⟨n, hn⟩ : ∃ n, n = l.length := ⟨_, rfl⟩
 rw [← hn] at c4 hb1
 have HN := Lib.hid hn
 simp only [maxLen] at hb2
 obtain ⟨R, hR⟩ : ∃ R, R = listG (.mk k u b f l) most := ⟨_, rfl⟩
 have HR := Lib.hid (show R = if k ≠ 3 then .error 91 else if most < n then .error 2 else .ok l by rw [hR, hn]; rfl)
 rw [← hR]
 clear hs hn hR HK HKV
 go_enter Tryz.func80, Tryz.ntmps80
 go_upto_region 1 with fail
 generalize w.alloc (.cells KV 94) = w1 at *
 by_cases hk : k = 3
 ·have e1 : (k == 3) = true := by simp [hk]
  by_cases hl : n ≤ most
  ·have hI : (n : Int) ≤ (most : Int) := by omega
   have HRR := Lib.hid (show R = .ok l by rw [HR.out, if_neg (by simp [hk]), if_neg (by omega)])
   clear hk
   go_wp2_with fail
   refine (need_yes 91 _).mono ?_
   rintro e w' ⟨rfl, rfl⟩
   go_wp2_with fail
   refine (need_yes 2 _).mono ?_
   rintro e w' ⟨rfl, rfl⟩
   go_wp2_with fail
   go_ret
   refine ⟨HB.out, ?_⟩
   rw [HRR.out]
   exact ⟨L, cL, by rw [← HN.out]; rfl, HC.out.1, HC.out.2, HS.out⟩
  ·have hI : ¬ (n : Int) ≤ (most : Int) := by omega
   have HRR := Lib.hid (show R = .error 2 by rw [HR.out, if_neg (by simp [hk]), if_pos (by omega)])
   clear hk
   go_wp2_with fail
   refine (need_yes 91 _).mono ?_
   rintro e w' ⟨rfl, rfl⟩
   go_wp2_with fail
   refine (need_no 2 _).mono ?_
   rintro e w' ⟨rfl, rfl⟩
   exact ⟨rfl, HB.out, by rw [HRR.out]⟩
 ·have e1 : (k == 3) = false := by simp [hk]
  have HRR := Lib.hid (show R = .error 91 by rw [HR.out, if_pos (by simpa using hk)])
  clear hk
  go_wp2_with fail
  refine (need_no 91 _).mono ?_
  rintro e w' ⟨rfl, rfl⟩
  exact ⟨rfl, HB.out, by rw [HRR.out]⟩
theorem array_at (w : World) (b o c : Nat) : (Instr.arrayAt 33 (.slice (some ⟨b, o, none⟩) 32 c)).run Tryz.prog w = .ok (.pointer (some ⟨b, o, none⟩)) w := by
 simp [Instr.arrayAt, run_underlying Tryz.underlying33]
set_option maxRecDepth 100000 in
set_option maxHeartbeats 1000000 in
theorem id_get (cs : List Value) (v : Val) (w : World) (hv : valR.R w no cs v) :
  Calls Tryz.prog 81 #[.agg cs.toArray] w (IdPost w (idG v)) := by
 obtain ⟨KV, hKV, HK, -, -, -, -⟩ := keepNew w hv
 rw [← hKV]
 clear hKV hv
 obtain ⟨k, u, b, f, l⟩ := v
 have HK2 := Lib.hid (HK.out.below ((Below.refl _ _).alloc (Nat.le_refl _) (.cells (bytesV (List.replicate 32 0)).toArray 33)))
 obtain ⟨A, cA, L, cL, c0, c1, c2, c3, c4, hs, hb1, hb2, _⟩ := HK2.out.cells
 have HB := Lib.hid (((Below.refl w.heap.size w).alloc (Nat.le_refl _) (.cells KV 94)).alloc (by simp) (.cells (bytesV (List.replicate 32 0)).toArray 33))
 have HZ : Hid (Blk ((w.alloc (.cells KV 94)).alloc (.cells (bytesV (List.replicate 32 0)).toArray 33)) (w.heap.size + 1) 33 (bytesV (List.replicate 32 0)).toArray) := Lib.hid (by
  have := Blk.new (w.alloc (.cells KV 94)) 33 (bytesV (List.replicate 32 0)).toArray
  simpa using this)
 have HS := Lib.hid hs
 obtain ⟨n, hn⟩ : ∃ n, n = b.length := ⟨_, rfl⟩
 rw [← hn] at c2 hs hb1
 have HN := Lib.hid hn
 simp only [maxLen] at hb2
 obtain ⟨R, hR⟩ : ∃ R, R = idG (.mk k u b f l) := ⟨_, rfl⟩
 have HR := Lib.hid (show R = if k ≠ 1 ∨ n ≠ 32 then .error 91 else .ok b by rw [hR, hn]; rfl)
 rw [← hR]
 clear hs hn hR HK HK2
 go_enter Tryz.func81, Tryz.ntmps81
 go_upto_region 1 with fail
 change Code.wp _ _ _ _ ((w.alloc (.cells KV 94)).alloc (.cells (bytesV (List.replicate 32 0)).toArray 33))
 generalize (w.alloc (.cells KV 94)).alloc (.cells (bytesV (List.replicate 32 0)).toArray 33) = w1 at *
 by_cases hk : k = 1
 ·have e1 : (k == 1) = true := by simp [hk]
  by_cases hl : n = 32
  ·have HRR := Lib.hid (show R = .ok b by rw [HR.out, if_neg (by simp [hk, hl])])
   subst hl
   obtain ⟨bA, oA, rfl, hbA, hcA⟩ := HS.out.2 (by rw [← HN.out]; omega)
   obtain ⟨KB, hKB⟩ : ∃ KB, KB = (bytesV b).toArray := ⟨_, rfl⟩
   have HAT := Lib.hid (show At w1 ⟨bA, oA, none⟩ KB from fun j u hu => by
    have h1 := hcA j u (by rw [hKB] at hu; simpa using hu)
    exact h1)
   have HI := Lib.hid (show (Tryz.prog.info? 33).map (·.size) = some KB.size by rw [hKB]; exact oid_size HN.out.symm)
   have HO := Lib.hid (show KB.all (·.oneCell') = true by rw [hKB]; exact oid_one b)
   have HSZ := Lib.hid (show (bytesV (List.replicate 32 0)).toArray.size = KB.size by rw [hKB]; simp [bytesV, ← HN.out])
   have HKB := Lib.hid hKB
   have haa := fun w => array_at w bA oA cA
   clear hk hcA hKB
   go_wp2_with fail
   refine (need_yes 91 _).mono ?_
   rintro e w' ⟨rfl, rfl⟩
   go_wp2_with (first
    | (refine wpList_load_at rfl _ _ rfl bA oA rfl KB _ HAT.out Tryz.underlying33 rfl HI.out ?_)
    | (refine wpList_store_row rfl _ _ _ rfl (w.heap.size + 1) KB rfl rfl 33 _ HZ.out HI.out HSZ.out HO.out ?_) | fail)
   refine bodyPost_ret (results_cell_row rfl _ _ (w.heap.size + 1) 33 KB (0, 0) _ rfl (setRow_heap _ (w.heap.size + 1) _ _ _ _ HZ.out) Tryz.underlying33 rfl HI.out) rfl ?_
   refine ⟨below_setRow HB.out (Nat.le_succ _) KB, ?_⟩
   rw [HRR.out]
   exact ⟨by rw [HKB.out], HN.out.symm⟩
  ·have e2 : ((n : Int) == 32) = false := by simp; omega
   have HRR := Lib.hid (show R = .error 91 by rw [HR.out, if_pos (.inr hl)])
   clear hk hl
   go_wp2_with fail
   refine (need_no 91 _).mono ?_
   rintro e w' ⟨rfl, rfl⟩
   exact ⟨rfl, HB.out, by rw [HRR.out]⟩
 ·have e1 : (k == 1) = false := by simp [hk]
  have HRR := Lib.hid (show R = .error 91 by rw [HR.out, if_pos (.inl (by simpa using hk))])
  clear hk
  go_wp2_with fail
  refine (need_no 91 _).mono ?_
  rintro e w' ⟨rfl, rfl⟩
  exact ⟨rfl, HB.out, by rw [HRR.out]⟩
end Go.Proofs.YtgmbkcjihgphmaaGreat
/- object.open: the values of a record of a kind. -/
namespace Go.Proofs.YtgmbkcjihgphmaaGreat
open Go.RowKit
/-- a list's first value in memory -/
theorem head_cells {w : World} {L : Option Addr} {h : Val} {t : List Val} {av : Av} (hs : SlOf valR w av L (h :: t)) : ∃ b o, L = some ⟨b, o, none⟩ ∧ b < w.heap.size ∧ w.cell? ⟨b, o, none⟩ = some (.int .i64 h.kind) ∧ w.cell? ⟨b, o + 1, none⟩ = some (.int .u64 (h.num : Int)) := by
 obtain ⟨b, o, cs, x, e, hb, hx, hr, hc, _⟩ := hs.look (i := 0) rfl (by simp)
 obtain rfl := Option.some.inj hx
 obtain ⟨k, u, bs, f, l⟩ := h
 obtain ⟨A, cA, M, cM, rfl, _⟩ := valR_iff.1 hr
 exact ⟨b, o, e, hb, hc 0 _ rfl, hc 1 _ rfl⟩
set_option maxRecDepth 100000 in
set_option maxHeartbeats 4000000 in
theorem open_get (A : Option Addr) (n c : Nat) (l : List UInt8) (kind count : Nat) (w : World) (hs : Sl w 1 A n (bytesV l)) (hnc : n ≤ c) (hcm : c ≤ maxLen) (hk : kind ≤ 4) (hct : 1 ≤ count) (hct5 : count ≤ 5) :
  Calls Tryz.prog 79 #[.slice A n c, .int .i64 (kind : Int), .int .i64 (count : Int)] w (LstPost w (fun b => b < w.heap.size) (openG l kind count)) := by
 have HD := Lib.hid (decode_any A n c l w hs hnc hcm)
 obtain ⟨R, hR⟩ : ∃ R, R = openG l kind count := ⟨_, rfl⟩
 obtain ⟨D, hD⟩ : ∃ D, D = dec l := ⟨_, rfl⟩
 have HR := Lib.hid (show R = bindR D (fun v => openV v kind count) by rw [hR, hD]; rfl)
 have HDL := Lib.hid hD
 rw [← hD] at HD
 rw [← hR]
 have hkw : IntKind.u64.wrap (kind : Int) = (kind : Int) := by rw [wrap_u64]; omega
 clear hR hD hs hcm
 go_enter Tryz.func79, Tryz.ntmps79
 go_wp2_with fail
 refine HD.out.mono ?_
 intro e w2 hp
 obtain ⟨cs, rfl, hv, hb2⟩ := hp.use
 obtain ⟨KV, hKV, HK, HKV, HI, HO, HS5, HN⟩ := keepNewA w2 hv
 rw [← hKV]
 have HB := Lib.hid (hb2.trans (((Below.refl w2.heap.size w2).alloc (Nat.le_refl _) (.cells KV 94)).mono hb2.size))
 clear hKV hv hb2 hp HD
 go_upto_region 2 with (first | (refine wpList_store_row rfl _ _ _ rfl w2.heap.size KV rfl rfl 94 _ HN.out HI.out HS5.out HO.out ?_) | fail)
 rw [World.setRow_alloc_new]
 clear HN HS5 HO
 generalize w2.alloc (.cells KV 94) = w3 at *
 generalize w2.heap.size = gv at *
 cases D with
 | error z =>
  have hz := dec_err_ne HDL.out.symm
  have hzb : (z == 0) = false := by simp [hz]
  have HRR := Lib.hid (show R = .error z from HR.out)
  have hz2 : okZ (.error z : Res Val) = z := rfl
  rw [hz2]
  clear hz hz2 HDL HR
  go_wp2_with fail
  refine (need_no z _).mono ?_
  rintro e w' ⟨rfl, rfl⟩
  exact ⟨rfl, HB.out, by rw [HRR.out]⟩
 | ok v =>
  have hz2 : okZ (.ok v : Res Val) = 0 := rfl
  rw [hz2]
  have HKV2 : Hid (valR.R w3 (fun b => b < w.heap.size) KV.toList v) := HKV
  clear HKV
  have HRR := Lib.hid (show R = openV v kind count from HR.out)
  clear hz2 HR HDL
  obtain ⟨k, u, b, f, l'⟩ := v
  obtain ⟨A', cA, L, cL, c0, c1, c2, c3, c4, _, _, _, hsl, hl1, hl2⟩ := blk_cells HK.out HKV2.out
  have HR := HRR
  have HSL := Lib.hid hsl
  have HL2 := Lib.hid hl2
  simp only [maxLen] at hl2
  obtain ⟨m, hm⟩ : ∃ m, m = l'.length := ⟨_, rfl⟩
  have HM := Lib.hid hm
  rw [← hm] at c4 hl1
  clear HRR hsl hm
  go_wp2_with fail
  refine (need_yes 0 _).mono ?_
  rintro e w' ⟨rfl, rfl⟩
  by_cases hk3 : k = 3
  ·have e1 : (k == 3) = true := by simp [hk3]
   by_cases hmc : m = count + 1
   ·have e2 : ((m : Int) == (count : Int) + 1) = true := by simp; omega
    cases l' with
    | nil => exfalso; have := HM.out; simp at this; omega
    | cons h t =>
     obtain ⟨bL, oL, rfl, hbL, d0, d1⟩ := head_cells HSL.out
     have hlt := HM.out
     have HR2 := Lib.hid (show R = if h.kind ≠ 0 then .error 91 else if h.num ≠ kind then .error 90 else .ok t by rw [HR.out]; unfold openV; rw [if_neg (by simp [Val.kind, Val.list, hk3]; simp at hlt; omega)]; rfl)
     have HT := Lib.hid (show t.length = count by simp at hlt; omega)
     have hm0 : (0 : Int) < (m : Int) := by omega
     have hm1 : (1 : Int) ≤ (m : Int) := by omega
     have hcc : (m : Int) ≤ (cL : Int) := by omega
     have hc1 : ¬ cL = 1 := by omega
     have hm0' : 0 < m := by omega
     have HMC := Lib.hid hmc
     clear hk3 hmc hlt HR
     by_cases h0 : h.kind = 0
     ·have e3 : (h.kind == 0) = true := by simp [h0]
      by_cases hn : h.num = kind
      ·have e4 : ((h.num : Int) == (kind : Int)) = true := by simp [hn]
       have HRR := Lib.hid (show R = .ok t by rw [HR2.out, if_neg (by simp [h0]), if_neg (by simp [hn])])
       clear h0 hn HR2
       go_wp2_with fail
       refine (need_yes 91 _).mono ?_
       rintro e w' ⟨rfl, rfl⟩
       go_wp2_with fail
       refine (need_yes 90 _).mono ?_
       rintro e w' ⟨rfl, rfl⟩
       go_wp2_with fail
       go_ret
       refine ⟨HB.out, ?_⟩
       rw [HRR.out]
       have hfr := HSL.out.from (k := 1) (c := cL) HM.out.symm (by have := HMC.out; omega) (by omega)
       rw [if_neg hc1] at hfr
       refine ⟨some ⟨bL, oL + 5, none⟩, cL - 1, ?_, by rw [HT.out]; have := HMC.out; omega, by have := HL2.out; omega, hfr⟩
       have hmm : m - 1 = t.length := by rw [HT.out]; have := HMC.out; omega
       rw [← hmm]; rfl
      ·have e4 : ((h.num : Int) == (kind : Int)) = false := by simp; omega
       have HRR := Lib.hid (show R = .error 90 by rw [HR2.out, if_neg (by simp [h0]), if_pos hn])
       clear h0 hn HR2
       go_wp2_with fail
       refine (need_yes 91 _).mono ?_
       rintro e w' ⟨rfl, rfl⟩
       go_wp2_with fail
       refine (need_no 90 _).mono ?_
       rintro e w' ⟨rfl, rfl⟩
       exact ⟨rfl, HB.out, by rw [HRR.out]⟩
     ·have e3 : (h.kind == 0) = false := by simp [h0]
      have HRR := Lib.hid (show R = .error 91 by rw [HR2.out, if_pos h0])
      clear h0 HR2
      go_wp2_with fail
      refine (need_no 91 _).mono ?_
      rintro e w' ⟨rfl, rfl⟩
      exact ⟨rfl, HB.out, by rw [HRR.out]⟩
   ·have e2 : ((m : Int) == (count : Int) + 1) = false := by simp; omega
    have HRR := Lib.hid (show R = .error 91 by rw [HR.out]; unfold openV; rw [if_pos (.inr (by show l'.length ≠ _; rw [← HM.out]; exact hmc))])
    clear hk3 hmc
    go_wp2_with fail
    refine (need_no 91 _).mono ?_
    rintro e w' ⟨rfl, rfl⟩
    exact ⟨rfl, HB.out, by rw [HRR.out]⟩
  ·have e1 : (k == 3) = false := by simp [hk3]
   have HRR := Lib.hid (show R = .error 91 by rw [HR.out]; unfold openV; rw [if_pos (.inl hk3)])
   clear hk3
   go_wp2_with fail
   refine (need_no 91 _).mono ?_
   rintro e w' ⟨rfl, rfl⟩
   exact ⟨rfl, HB.out, by rw [HRR.out]⟩
theorem openG_len {l : List UInt8} {kind count : Nat} {vs : List Val} (h : openG l kind count = .ok vs) : vs.length = count := by
 unfold openG at h
 cases hd : dec l with
 | error z => rw [hd] at h; cases h
 | ok v =>
  rw [hd] at h
  obtain ⟨k, u, b, f, l'⟩ := v
  have h : openV (.mk k u b f l') kind count = .ok vs := h
  unfold openV at h
  split at h
  ·cases h
  ·rename_i hc
   have hlen : l'.length = count + 1 := by
    apply Classical.byContradiction
    intro h; exact hc (.inr h)
   cases l' with
   | nil => cases h
   | cons a t =>
    simp only [Val.list] at h
    split at h
    ·cases h
    ·split at h
     ·cases h
     ·injection h with h; subst h; simpa using hlen
end Go.Proofs.YtgmbkcjihgphmaaGreat
