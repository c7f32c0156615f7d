/- Contracts and laws for what the statement reaches, joined: ObjTree. -/
import Derived.Test.YtgmbkcjihgphmaaJn13
import Derived.Test.YtgmbkcjihgphmaaJn14
/- object.GetTree: its entries' row, its deferred function, its door. -/
set_option linter.unusedVariables false
set_option linter.unusedSimpArgs false
namespace Go.Proofs.Ytgmbkcjihgphmaa
open Go.RowKit

/-- the entries so far, in a row of the call's own, told of in block g -/
structure EL (w2 wr : World) (g : Nat) (A : Option Addr) (m c : Nat) (is : List EntT) : Prop where
  row : RowR entR 66 wr w2.heap.size A m c is
  grown : w2.grownBy wr (some g)
  lt : g < w2.heap.size
theorem EL.start {w2 : World} {g : Nat} (h : g < w2.heap.size) : EL w2 w2 g none 0 0 [] := ⟨RowR.nil _ _ _ _, grown_refl _ _, h⟩
theorem EL.below {w2 wr w' : World} {g : Nat} {A : Option Addr} {m c : Nat} {is : List EntT} (h : EL w2 wr g A m c is) (hb : Below wr.heap.size wr w') : EL w2 w' g A m c is := ⟨h.row.below hb, grown_trans h.grown (grown_below hb _), h.lt⟩
/-- one more entry -/
theorem EL.push {w2 wr : World} {g : Nat} {A : Option Addr} {m c : Nat} {is : List EntT} {x : EntT} (h : EL w2 wr g A m c is) (hx : x.2.2.1.length = 32) (hf : x.2.2.2 < 2 ^ 64) (hm : m ≤ 1000000) (c0 : Nat) :
    ∃ A' c' w', (Builtin.append_ #[64, 64] 64 #[.slice A m c, .slice (some ⟨wr.heap.size, 0, none⟩) 1 c0]).run Try.prog (wr.alloc (.cells (entK x.1 x.2.1 x.2.2.1 x.2.2.2) 66)) = .ok (.slice A' (m + 1) c') w' ∧ EL w2 w' g A' (m + 1) c' (is ++ [x]) ∧
      wr.grownBy w' (Value.slice A m c).ownBlock ∧ (∀ b, (Value.slice A m c).ownBlock = some b → w2.heap.size ≤ b) := by
  have hsz := h.grown.size
  obtain ⟨A', c', w', run, hrow, _, hg, _, _, _⟩ := h.row.push elemEnt hsz (av := fun _ => True) (ent_of wr _ hx hf) (fun _ _ _ => trivial) (by omega) (by simp only [maxLen]; omega) 64 c0
  have hob : ∀ b, (Value.slice A m c).ownBlock = some b → w2.heap.size ≤ b := fun b hb => (h.row.lt hb).1
  exact ⟨A', c', w', run, ⟨hrow, grown_own h.grown hg hob, h.lt⟩, hg, hob⟩
theorem EL.set {w2 wr : World} {g off : Nat} {A : Option Addr} {m c : Nat} {is : List EntT} (h : EL w2 wr g A m c is) (u : Value) : EL w2 (wr.setCell ⟨g, off, none⟩ u) g A m c is :=
  ⟨h.row.grown (grown_set wr g off u) (fun k e hk => by have e := Option.some.inj e; have := (h.row.lt hk).1; have := h.lt; omega) (fun _ _ _ k => k), grown_trans h.grown (grown_set wr g off u), h.lt⟩
/-- the entries as a slice in new memory -/
theorem EL.sl {w2 wr : World} {g : Nat} {A : Option Addr} {m c : Nat} {is : List EntT} (h : EL w2 wr g A m c is) {B : Nat} (hB : B ≤ w2.heap.size) : SlOf entR wr (fun b => b < B) A is ∧ m = is.length ∧ m ≤ c ∧ c ≤ maxLen := by
  obtain ⟨h1, h2⟩ := h.row.cap
  refine ⟨?_, h.row.len, h1, h2⟩
  refine h.row.sl.away B (fun h0 b off e => ?_) (fun _ _ k => k)
  obtain ⟨g', hg, hb, _⟩ := h.row.at (by rw [h.row.len]; exact h0)
  rw [hg] at e
  have e := Option.some.inj e
  injection e with e
  omega

/-- 'Entry{..}', as the loop makes it ('attribute [local go_sem ↓] bEnt_eq') -/
noncomputable def bEnt (w : World) (a b c : Value) : Result Value := (Instr.build 66 #[(0, a), (2, b), (1, c)]).run Try.prog w
theorem bEnt_eq (w : World) (a b c : Value) : (Instr.build 66 #[(0, a), (2, b), (1, c)]).run Try.prog w = bEnt w a b c := rfl
set_option maxRecDepth 100000 in
theorem built_ent (s : ByteArray) (d : Bool) : ∀ (i : List UInt8), i.length = 32 → Try.prog.built 66 [(0, .string s), (2, .agg (bytesV i).toArray), (1, .bool d)] = some (entK s d i 0)
  | [x0, x1, x2, x3, x4, x5, x6, x7, x8, x9, x10, x11, x12, x13, x14, x15, x16, x17, x18, x19, x20, x21, x22, x23, x24, x25, x26, x27, x28, x29, x30, x31], _ => by kernel_rfl
theorem bEnt_of (w : World) (s : ByteArray) (d : Bool) {i : List UInt8} (h : i.length = 32) : bEnt w (.string s) (.agg (bytesV i).toArray) (.bool d) = .ok (.agg (entK s d i 0)) w := run_build w _ _ _ (built_ent s d i h)

/-- '[]Entry{x}', as an append's last part makes it -/
noncomputable def bsEnt (w : World) (v : Value) : Result Value := (Instr.buildSlice 64 1 #[(0, v)]).run Try.prog w
theorem bsEnt_eq (w : World) (v : Value) : (Instr.buildSlice 64 1 #[(0, v)]).run Try.prog w = bsEnt w v := rfl
theorem ent_sizeOf (w : World) : (sizeOf 66).run Try.prog w = .ok 35 w := by
  have h := ent_info
  cases hq : Try.prog.info? 66 with
  | none => rw [hq] at h; simp at h
  | some i =>
    rw [hq] at h
    have h1 : i.size = 35 := by simpa using h
    simp [sizeOf, typeInfo, hq, h1]
theorem ent_zero (w : World) : (zeroValue 66).run Try.prog w = .ok (.agg zEnt) w := by kernel_rfl
theorem bsEnt_of (w : World) (K : Array Value) (hK : K.size = 35) : bsEnt w (.agg K) = .ok (.slice (some ⟨w.heap.size, 0, none⟩) 1 1) (w.alloc (.cells K 66)) := by
  unfold bsEnt Instr.buildSlice
  have hf : ∀ cells : Array Value, cells.size = 35 → Instr.fill (fun i => some (i * 35, 35)) cells [(0, .agg K)] = some K := by
    intro cells hc
    have hK2 : (Value.agg K).cells = K := rfl
    have h := fill_all K cells (by omega)
    unfold Instr.fill
    simp only [hK2]
    have hc1 : (decide (K.size ≠ 35) || decide (0 * 35 + K.size > cells.size)) = false := by simp [hK, hc]
    simp only [Nat.zero_mul] at hc1 ⊢
    rw [if_neg (by rw [hc1]; decide)]
    unfold Instr.fill
    rw [h]
  simp [run_underlying Try.underlying64, Sem.run_bind, ent_sizeOf, ent_zero, Value.cells]
  rw [hf _ (by simp)]
  simp [newRow, Sem.run_bind]

/-! ### the deferred function, the door -/
theorem treeD_ok (pe pv : Addr) (u : FrameMode) (w : World) (he : w.cell? pe = some (.int .i64 0)) :
    CallsD Try.prog 62 #[.pointer (some pe), .pointer (some pv)] u w fun e u' w' => u' = u ∧ e = .returned (.tuple #[]) ∧ w' = w := by
  go_enter_d Try.func62, Try.ntmps62
  go_wp2_with fail
  go_end0
  exact ⟨rfl, rfl⟩
theorem treeD_bad (pe : Addr) (gv : Nat) (z : Int) (v : Value) (u : FrameMode) (w : World) (hz : z ≠ 0) (he : w.cell? pe = some (.int .i64 z)) (hb : Blk w gv 64 #[v]) (hv : ∃ A n c, v = .slice A n c) :
    CallsD Try.prog 62 #[.pointer (some pe), .pointer (some ⟨gv, 0, none⟩)] u w fun e u' w' => u' = u ∧ e = .returned (.tuple #[]) ∧ w' = w.setCell ⟨gv, 0, none⟩ (.slice none 0 0) := by
  have hz' : (z != 0) = true := by simp [hz]
  obtain ⟨A, n, c, rfl⟩ := hv
  have hc := hb.cell 0
  have hf := hb.frozen 0
  have hl := hb.lt
  clear hz hb
  go_enter_d Try.func62, Try.ntmps62
  go_wp2_with fail
  go_end0
  exact ⟨rfl, rfl⟩

theorem results_sl_err {fn : Func} {p q : Tmp} (h : fn.results = #[.cell p 64, .cell q 29]) (tmps : Array Value) (w : World) (g g' : Nat) (A : Option Addr) (n c : Nat) (z : Int)
    (hp : tmps.getD p undef = .pointer (some ⟨g, 0, none⟩)) (hq : tmps.getD q undef = .pointer (some ⟨g', 0, none⟩)) (hg : w.cell? ⟨g, 0, none⟩ = some (.slice A n c)) (hg' : w.cell? ⟨g', 0, none⟩ = some (.int .i64 z)) :
    (results fn tmps).run Try.prog w = .ok (.tuple #[.slice A n c, .int .i64 z]) w := by
  have hp' : tmps[p]?.getD undef = .pointer (some ⟨g, 0, none⟩) := by simpa using hp
  have hq' : tmps[q]?.getD undef = .pointer (some ⟨g', 0, none⟩) := by simpa using hq
  have hl : (loadVar 64 ⟨g, 0, none⟩).run Try.prog w = .ok (.slice A n c) w := by simp [go_sem, hg]
  have h2 : (loadVar 29 ⟨g', 0, none⟩).run Try.prog w = .ok (.int .i64 z) w := by simp [go_sem, hg']
  simp [results, h, hp', hq', asAddr, hl, h2]

def TreePost (w : World) (r : Res (List EntT)) (e : Ending) (w' : World) : Prop :=
  Below w.heap.size w w' ∧ match r with
    | .ok x => ∃ A c, e = .returned (.tuple #[.slice A x.length c, .int .i64 0]) ∧ SlOf entR w' (fun b => b < w.heap.size) A x ∧ x.length ≤ c ∧ c ≤ maxLen
    | .error z => e = .returned (.tuple #[.slice none 0 0, .int .i64 z])

/-- GetTree's variables -/
structure TV (w w2 : World) (g : Nat) (v : Value) : Prop where
  below : Below g w w2
  x : Blk w2 g 64 #[v]
  e : Blk w2 (g + 1) 29 #[.int .i64 0]
theorem TV.go {w w2 w3 : World} {g : Nat} {v : Value} (h : TV w w2 g v) (hb : Below w2.heap.size w2 w3) : TV w w3 g v :=
  ⟨h.below.trans (hb.mono (Nat.le_of_lt h.x.lt)), h.x.below hb h.x.lt, h.e.below hb h.e.lt⟩
theorem TV.set {w w2 : World} {g : Nat} {v : Value} (h : TV w w2 g v) (u : Value) : TV w (w2.setCell ⟨g, 0, none⟩ u) g u :=
  ⟨h.below.setCell (p := ⟨g, 0, none⟩) (Nat.le_refl g) u, h.x.set_ 0 u, h.e.other (by omega) 0 u⟩
theorem TV.grown {w w2 w3 : World} {g : Nat} {v : Value} {o : Option Nat} (h : TV w w2 g v) (hg : w2.grownBy w3 o) (ho : ∀ b, o = some b → g + 2 ≤ b) : TV w w3 g v := by
  refine ⟨h.below.trans ⟨hg.os, hg.tape, hg.output, hg.size, fun b hb => hg.block b (by have := h.x.lt; omega) (fun e => by have := ho b e.symm; omega)⟩, h.x.grown hg (fun e => by have := ho g e.symm; omega), h.e.grown hg (fun e => by have := ho (g + 1) e.symm; omega)⟩

abbrev treeDs (g : Nat) : List Deferred := [{ target := .fn (.func 36) #[], args := #[.pointer (some ⟨g + 1, 0, none⟩)] }, { target := .fn (.func 62) #[.pointer (some ⟨g + 1, 0, none⟩), .pointer (some ⟨g, 0, none⟩)], args := #[] }]
/-- what a panic of GetTree's must show -/
def treePn (w : World) (g : Nat) (R : Res (List EntT)) (ch : List PanicEntry) (w' : World) : Prop := ∃ z, ch = flawE z ∧ z ≠ 0 ∧ R = .error z ∧ ∃ A n c, TV w w' g (.slice A n c)
theorem tree_out {w w4 : World} {g : Nat} {R : Res (List EntT)} {ch : List PanicEntry} {tmps : Array Value} {ds : List Deferred} (HG : w.heap.size = g) (hpn : treePn w g R ch w4) (hp : tmps.getD 2 undef = .pointer (some ⟨g, 0, none⟩)) (hq : tmps.getD 3 undef = .pointer (some ⟨g + 1, 0, none⟩)) (h3 : ds = treeDs g) :
    Leaves Try.prog Try.f46 tmps (TreePost w R) ds (.panicking ch) w4 := by
  obtain ⟨z, rfl, hz, rfl, A, n, c, hv⟩ := hpn
  subst h3
  have hlt : g + 1 < w4.heap.size := hv.e.lt
  have E1 := (hv.x.alloc (.cells #[.int .i64 z] 127)).other (g' := g + 1) (by omega) 0 (.int .i64 z)
  have E2 := (hv.e.alloc (.cells #[.int .i64 z] 127)).set_ 0 (.int .i64 z)
  have hgl : g ≤ w4.heap.size := by omega
  have HB5 := (hv.below.alloc hgl (.cells #[.int .i64 z] 127)).setCell (p := ⟨g + 1, 0, none⟩) (by show g ≤ g + 1; omega) (.int .i64 z)
  refine leaves_cons (f := 36) (args := #[.pointer (some ⟨g + 1, 0, none⟩)]) (by simp) (by simp [go_sem]) ?_
  refine (ocaught_flaw ⟨g + 1, 0, none⟩ 0 z [] w4 hlt (hv.e.cell 0) (hv.e.frozen 0)).mono ?_
  rintro e u' w7 ⟨rfl, rfl, rfl⟩
  refine leaves_cons (f := 62) (args := #[.pointer (some ⟨g + 1, 0, none⟩), .pointer (some ⟨g, 0, none⟩)]) (by simp [settle]) (by simp [go_sem]) ?_
  refine (treeD_bad _ g z _ _ _ hz (E2.cell 0) E1 ⟨_, _, _, rfl⟩).mono ?_
  rintro e u' w8 ⟨rfl, rfl, rfl⟩
  have F1 := E1.set_ 0 (.slice none 0 0)
  have F2 := E2.other (g' := g) (by omega) 0 (.slice none 0 0)
  have HB6 := HB5.setCell (p := ⟨g, 0, none⟩) (Nat.le_refl g) (.slice none 0 0)
  refine ⟨_, results_sl_err rfl tmps _ g (g + 1) none 0 0 z hp hq (F1.cell 0) (F2.cell 0), ?_⟩
  unfold TreePost
  rw [HG]
  exact ⟨HB6, rfl⟩
/-- GetTree's end -/
theorem tree_end {w w5 w15 : World} {g : Nat} {A' : Option Addr} {k c' : Nat} {is : List EntT} {R : Res (List EntT)} {tmps : Array Value} {ds : List Deferred} (HG : w.heap.size = g) (HX : TV w w15 g (.slice A' k c')) (HL : EL w5 w15 g A' k c' is) (hsz : g + 2 ≤ w5.heap.size)
    (hR : R = .ok is) (h1 : tmps.getD 2 undef = .pointer (some ⟨g, 0, none⟩) := by rfl) (h2 : tmps.getD 3 undef = .pointer (some ⟨g + 1, 0, none⟩) := by rfl) (h3 : ds = treeDs g := by rfl) :
    Leaves Try.prog Try.f46 tmps (TreePost w R) ds .returning (w15.setCell ⟨g + 1, 0, none⟩ (.int .i64 0)) := by
  subst h3
  have HX3 := HX.x.other (g' := g + 1) (by omega) 0 (.int .i64 0)
  have HE3 := HX.e.set_ 0 (.int .i64 0)
  have HB3 := HX.below.setCell (p := ⟨g + 1, 0, none⟩) (by show g ≤ g + 1; omega) (.int .i64 0)
  have HG3 : w15.grownBy (w15.setCell ⟨g + 1, 0, none⟩ (.int .i64 0)) (some (g + 1)) := grown_set _ _ _ _
  obtain ⟨HS3, hmi, hmc, hcm⟩ := HL.sl (B := g + 2) hsz
  have HS4 : SlOf entR (w15.setCell ⟨g + 1, 0, none⟩ (.int .i64 0)) (fun b => b < g + 2) A' is := HS3.stable (Moves.grown HG3 (by show g + 1 < g + 2; omega))
  generalize w15.setCell ⟨g + 1, 0, none⟩ (.int .i64 0) = W at *
  refine leaves_cons (f := 36) (args := #[.pointer (some ⟨g + 1, 0, none⟩)]) (by simp) (by simp [go_sem]) ?_
  refine (ocaught_idle _ _).mono ?_
  rintro e u' w7 ⟨rfl, rfl, rfl⟩
  have V3 := HX3.alloc (.cells #[.int .i64 0] 127)
  have E3 := HE3.alloc (.cells #[.int .i64 0] 127)
  refine leaves_cons (f := 62) (args := #[.pointer (some ⟨g + 1, 0, none⟩), .pointer (some ⟨g, 0, none⟩)]) (by simp [settle]) (by simp [go_sem]) ?_
  refine (treeD_ok _ _ _ _ (E3.cell 0)).mono ?_
  rintro e u' w8 ⟨rfl, rfl, rfl⟩
  refine ⟨_, results_sl_err rfl tmps _ g (g + 1) A' k c' 0 h1 h2 (V3.cell 0) (E3.cell 0), ?_⟩
  unfold TreePost
  rw [HG, hR]
  have hgW : g ≤ W.heap.size := by have := HX3.lt; omega
  refine ⟨HB3.alloc hgW _, A', c', by rw [hmi], HS4.stable ((Moves.of_below ((Below.refl _ _).alloc (Nat.le_refl _) _)).trans (Moves.less _ (fun b _ e => by show b < g + 2; omega))), by rw [← hmi]; exact hmc, hcm⟩

/-! ### errors -/
theorem entEnd_err {row : List Val} {s i : List UInt8} {z : Int} (h : entEnd row s i = .error z) : z ≠ 0 := by
  unfold entEnd at h
  split at h
  · cases h
  · split at h
    · injection h with h; omega
    · cases h
/-- a struct stored whole, in a region that draws its order -/
theorem step_store_row {P : Program} {Q : Exit → Act → World → Prop} {o : Oper} {a : Act} {w : World} {K : Act → World → Prop} {E : Prop} (hgd : o.guard = none) (x y : Operand) {ty : TypeId} (ho : o.op = .store ty x y)
    (g : Nat) (cells : Array Value) (hx : a.eval x = .pointer (some ⟨g, 0, none⟩)) (hy : a.eval y = .agg cells) (t : TypeId) (cur : Array Value) (hg : w.heap[g]? = some (.cells cur t (0, 0)))
    (hi : (P.info? ty).map (·.size) = some cells.size) (hl : cur.size = cells.size) (h1 : cells.all (·.oneCell') = true) (h : K (a.put o.dst undef) (w.setRow g cells)) :
    ∀ {ops : Array Oper}, if Region.wanted o (yielded ops a.tmps) = true then Oper.wp P o a w K Q else E := by
  intro ops
  have hr := run_storeCells_at (P := P) g 0 t cells.toList 0 cur w hg (by simp; omega) (fun v hv => (Array.all_eq_true_iff_forall_mem.1 h1) v (by simpa using hv))
  have hrow : (cur.toList.take 0 ++ cells.toList ++ cur.toList.drop (0 + cells.size)).toArray = cells := by
    rw [List.drop_of_length_le (by simp; omega)]; simp
  have hs : (storeVar ty ⟨g, 0, none⟩ (.agg cells)).run P w = .ok () (w.setRow g cells) := by
    cases hq : P.info? ty with
    | none => simp [hq] at hi
    | some i =>
      have hs : cells.size = i.size := by simp [hq] at hi; omega
      simp only [Nat.add_zero, Array.length_toList] at hr
      rw [hrow] at hr
      simp [storeVar, sizeOf, typeInfo, hq, Value.cells, hs]
      simpa [hs] using hr
  have hw : Region.wanted o (yielded ops a.tmps) = true := by simp [Region.wanted, hgd]
  rw [if_pos hw]
  unfold Oper.wp execOp
  simp only [ho, hx, hy, Instr.storeAt, Instr.sureAddr, Sem.run_bind, Sem.run_pure, Result.andThen_ok, hs]
  exact h
/-- a slice of one, made outside of a drawn region -/
theorem wpList_build1 {P : Program} {ops : Array Oper} {rest : List Oper} {o : Oper} {a : Act} {w w' : World} {Q : Exit → Act → World → Prop} (hgd : o.guard = none) (x : Operand) {t : TypeId} (ho : o.op = .buildSlice t 1 #[(0, x)]) (y v' : Value) (hx : a.eval x = y)
    (hrun : (Instr.buildSlice t 1 #[(0, y)]).run P w = .ok v' w') (h : wpList P ops Q rest (a.put o.dst v') w') : wpList P ops Q (o :: rest) a w := by
  refine wpList_plain hgd fun _ hK => ?_
  unfold Oper.wp execOp
  simp only [ho, List.map_toArray, List.map_cons, List.map_nil, hx, Sem.run_bind, hrun, Result.andThen_ok, Sem.run_pure]
  exact hK _ _ h
theorem exec_build3 {P : Program} {o : Oper} {a : Act} {w : World} (t : TypeId) (i j k : Nat) (x y z : Operand) (ho : o.op = .build t #[(i, x), (j, y), (k, z)]) (vx vy vz v : Value) (hx : a.eval x = vx) (hy : a.eval y = vy) (hz : a.eval z = vz)
    (h : (Instr.build t #[(i, vx), (j, vy), (k, vz)]).run P w = .ok v w) : (execOp a.eval o).run P w = .ok (.value v) w := by
  subst hx hy hz
  unfold execOp
  simp only [ho, List.map_toArray, List.map_cons, List.map_nil, Sem.run_bind, h, Result.andThen_ok, Sem.run_pure]
theorem ent_alloc {w8 W : World} (h : Below w8.heap.size w8 W) : ∃ W' ge, W.alloc (.cells zEnt 66) = W' ∧ W.heap.size = ge ∧ Below w8.heap.size w8 W' ∧ w8.heap.size ≤ ge ∧ Blk W' ge 66 zEnt := ⟨_, _, rfl, rfl, h.alloc h.size _, h.size, Blk.new _ _ _⟩
theorem TV.other {w w2 : World} {g ge i : Nat} {v : Value} (h : TV w w2 g v) (hg : g + 2 ≤ ge) (u : Value) : TV w (w2.setCell ⟨ge, i, none⟩ u) g v :=
  ⟨h.below.setCell (p := ⟨ge, i, none⟩) (by show g ≤ ge; omega) u, h.x.other (by omega) i u, h.e.other (by omega) i u⟩
theorem EL.other {w2 wr : World} {g ge off : Nat} {A : Option Addr} {m c : Nat} {is : List EntT} (h : EL w2 wr g A m c is) (hne : ∀ b, own (.slice A m c) b → b ≠ ge) (hge : w2.heap.size ≤ ge) (u : Value) : EL w2 (wr.setCell ⟨ge, off, none⟩ u) g A m c is :=
  ⟨h.row.grown (grown_set wr ge off u) (fun k e hk => by have e := Option.some.inj e; exact hne k hk e.symm) (fun _ _ _ k => k), grown_new h.grown (grown_set wr ge off u) hge, h.lt⟩
theorem val_flt {w : World} {av : Av} {cs : List Value} {v : Val} (hv : valR.R w av cs v) : v.flt < 2 ^ 64 := by
  obtain ⟨k, u, bs, f, l⟩ := v
  obtain ⟨A, cA, M, cM, rfl, _, _, h, _⟩ := valR_iff.1 hv
  exact h
end Go.Proofs.Ytgmbkcjihgphmaa
