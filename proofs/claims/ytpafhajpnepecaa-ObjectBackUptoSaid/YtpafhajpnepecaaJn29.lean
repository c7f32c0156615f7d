/- Contracts and laws for what the statement reaches, joined: IdEq, ObjLawFns. -/
import Derived.Test.YtpafhajpnepecaaJn22
import Derived.Test.YtpafhajpnepecaaJn28
import Derived.Test.YtpafhajpnepecaaJn4
import Derived.Stop.BytesEq
/- Ids (arrays of 32 bytes): loaded whole, compared. -/
set_option linter.unusedVariables false
namespace Go.Proofs.Ytpafhajpnepecaa
open Go.RowKit

/-- the load of an id behind a name ('attribute [local go_sem ↓] ldId_eq') -/
noncomputable def ldId (w : World) (g : Nat) : Result Value := (loadVar 27 ⟨g, 0, none⟩).run Try.prog w
theorem ldId_eq (w : World) (g : Nat) : (loadVar 27 ⟨g, 0, none⟩).run Try.prog w = ldId w g := rfl
theorem ldId_of {w : World} {g : Nat} {t : TypeId} {l : List UInt8} (h : Blk w g t (bytesV l).toArray) (hl : l.length = 32) : ldId w g = .ok (.agg (bytesV l).toArray) w :=
  run_loadVar_row (P := Try.prog) w g t 27 _ (0, 0) _ h Try.underlying27 rfl (id_size hl)
theorem bytesV_cell (l : List UInt8) : (bytesV l).toArray = (l.map Extern.Stop.cell).toArray := rfl
/-- two ids compared, behind a name ('attribute [local go_sem ↓] eqlId_eq neqId_eq') -/
noncomputable def eqlId (w : World) (x y : Array Value) : Result Value := (binOp .eql 27 (.agg x) (.agg y)).run Try.prog w
noncomputable def neqId (w : World) (x y : Array Value) : Result Value := (binOp .neq 27 (.agg x) (.agg y)).run Try.prog w
theorem eqlId_eq (w : World) (x y : Array Value) : (binOp .eql 27 (.agg x) (.agg y)).run Try.prog w = eqlId w x y := rfl
theorem neqId_eq (w : World) (x y : Array Value) : (binOp .neq 27 (.agg x) (.agg y)).run Try.prog w = neqId w x y := rfl
theorem u8_sizeOf (w : World) : (sizeOf 5).run Try.prog w = .ok 1 w := by
  have h : (Try.prog.info? 5).map (·.size) = some 1 := by kernel_rfl
  cases hq : Try.prog.info? 5 with
  | none => simp [hq] at h
  | some i =>
    have h1 : i.size = 1 := by simpa [hq] using h
    simp [sizeOf, typeInfo, hq, h1]
theorem eqlId_of {x y : List UInt8} (hx : x.length = 32) (hy : y.length = 32) (w : World) : eqlId w (bytesV x).toArray (bytesV y).toArray = .ok (.bool (x == y)) w :=
  run_eql_bytes (P := Try.prog) w 27 5 32 Try.underlying27 Try.underlying5 u8_sizeOf x y hx hy
theorem neqId_of {x y : List UInt8} (hx : x.length = 32) (hy : y.length = 32) (w : World) : neqId w (bytesV x).toArray (bytesV y).toArray = .ok (.bool (!(x == y))) w := by
  unfold neqId
  rw [run_neq_struct, bytesV_cell, bytesV_cell, run_equalIn_bytes w 9998 27 5 32 Try.underlying27 Try.underlying5 u8_sizeOf x y hx hy]
  rfl
end Go.Proofs.Ytpafhajpnepecaa

/- towlinelaw09's helpers: blob, tree, commit, ids, trees, commits. -/
set_option linter.unusedVariables false
set_option linter.unusedSimpArgs false
namespace Go.Proofs.Ytpafhajpnepecaa
open Go.RowKit
attribute [local go_sem ↓] eqlId_eq neqId_eq

theorem blob_as (A : Option Addr) (n c : Nat) (sz : Int) (w : World) : Calls Try.prog 11 #[.agg #[.slice A n c, .int .i64 sz]] w fun e w' => e = .returned (.agg #[.slice A n c, .int .i64 sz]) ∧ Below w.heap.size w w' := by
  obtain ⟨KX, hKX⟩ : ∃ KX : Array Value, KX = #[.slice A n c, .int .i64 sz] := ⟨_, rfl⟩
  have hb : Below w.heap.size w ((w.alloc (.cells #[.slice A n c, .int .i64 sz] 24)).alloc (.cells zBlob 38)) := ((Below.refl _ _).alloc (Nat.le_refl _) _).alloc (by simp) _
  have HB := Lib.hid hb
  have hx := (Blk.new w 24 #[.slice A n c, .int .i64 sz]).alloc (.cells zBlob 38)
  have HY := Lib.hid (show Blk ((w.alloc (.cells #[.slice A n c, .int .i64 sz] 24)).alloc (.cells zBlob 38)) (w.heap.size + 1) 38 zBlob by
    have := Blk.new (w.alloc (.cells #[.slice A n c, .int .i64 sz] 24)) 38 zBlob; simpa using this)
  have x0 : ((w.alloc (.cells #[.slice A n c, .int .i64 sz] 24)).alloc (.cells zBlob 38)).cell? ⟨w.heap.size, 0, none⟩ = some (.slice A n c) := hx.cell 0
  have x1 : ((w.alloc (.cells #[.slice A n c, .int .i64 sz] 24)).alloc (.cells zBlob 38)).cell? ⟨w.heap.size, 1, none⟩ = some (.int .i64 sz) := hx.cell 1
  have HI := Lib.hid (show (Try.prog.info? 38).map (·.size) = some KX.size by rw [hKX]; exact rblob_info)
  have HO := Lib.hid (show KX.all (·.oneCell') = true by rw [hKX]; simp [Value.oneCell'])
  have HZ := Lib.hid (show zBlob.size = KX.size by rw [hKX]; rfl)
  have HKX := Lib.hid hKX
  clear hb hx hKX
  go_enter Try.func11, Try.ntmps11
  go_upto_region 1 with fail
  change Code.wp _ _ _ _ ((w.alloc (.cells #[.slice A n c, .int .i64 sz] 24)).alloc (.cells zBlob 38))
  generalize (w.alloc (.cells #[.slice A n c, .int .i64 sz] 24)).alloc (.cells zBlob 38) = w1 at *
  generalize hg : w.heap.size = g at *
  have HG := Lib.hid hg
  clear hg
  go_wp2_with (first | (refine wpList_store_row rfl _ _ _ rfl (g + 1) KX rfl (by rw [HKX.out]; rfl) 38 _ HY.out HI.out HZ.out HO.out ?_) | fail)
  refine bodyPost_ret (results_cell_row rfl _ _ (g + 1) 38 KX (0, 0) _ rfl (setRow_heap _ (g + 1) _ _ _ _ HY.out) Try.underlying38 rfl HI.out) rfl ?_
  rw [HG.out]
  exact ⟨by rw [HKX.out], below_setRow HB.out (Nat.le_succ _) KX⟩

theorem wpList_built4 {P : Program} {ops : Array Oper} {rest : List Oper} {o : Oper} {a : Act} {w : World} {Q : Exit → Act → World → Prop} (hg : o.guard = none) (t : TypeId) (x0 x1 x2 x3 : Operand) {i0 i1 i2 i3 : Nat} (ho : o.op = .build t #[(i0, x0), (i1, x1), (i2, x2), (i3, x3)]) {v0 v1 v2 v3 : Value} (K : Array Value)
    (h0 : a.eval x0 = v0) (h1 : a.eval x1 = v1) (h2 : a.eval x2 = v2) (h3 : a.eval x3 = v3) (hb : P.built t [(i0, v0), (i1, v1), (i2, v2), (i3, v3)] = some K) (h : wpList P ops Q rest (a.put o.dst (.agg K)) w) : wpList P ops Q (o :: rest) a w := by
  subst h0 h1 h2 h3
  exact wpList_build hg t _ ho (by simp [hb]) (by simpa [hb] using h)
theorem wpList_built5 {P : Program} {ops : Array Oper} {rest : List Oper} {o : Oper} {a : Act} {w : World} {Q : Exit → Act → World → Prop} (hg : o.guard = none) (t : TypeId) (x0 x1 x2 x3 x4 : Operand) {i0 i1 i2 i3 i4 : Nat} (ho : o.op = .build t #[(i0, x0), (i1, x1), (i2, x2), (i3, x3), (i4, x4)]) {v0 v1 v2 v3 v4 : Value} (K : Array Value)
    (h0 : a.eval x0 = v0) (h1 : a.eval x1 = v1) (h2 : a.eval x2 = v2) (h3 : a.eval x3 = v3) (h4 : a.eval x4 = v4) (hb : P.built t [(i0, v0), (i1, v1), (i2, v2), (i3, v3), (i4, v4)] = some K) (h : wpList P ops Q rest (a.put o.dst (.agg K)) w) : wpList P ops Q (o :: rest) a w := by
  subst h0 h1 h2 h3 h4
  exact wpList_build hg t _ ho (by simp [hb]) (by simpa [hb] using h)
set_option maxRecDepth 100000 in
theorem rent_built4 (s : ByteArray) (d : Bool) (f : Nat) : ∀ (i : List UInt8), i.length = 32 → Try.prog.built 96 [(0, .string s), (1, .bool d), (2, .agg (bytesV i).toArray), (3, .float .f64 f)] = some (entK s d i f)
  | [x0, x1, x2, x3, x4, x5, x6, x7, x8, x9, x10, x11, x12, x13, x14, x15, x16, x17, x18, x19, x20, x21, x22, x23, x24, x25, x26, x27, x28, x29, x30, x31], _ => by kernel_rfl
set_option maxRecDepth 100000 in
theorem rcom_built5 (A : Option Addr) (m c f : Nat) (a n : ByteArray) : ∀ (i : List UInt8), i.length = 32 → Try.prog.built 46 [(0, .agg (bytesV i).toArray), (1, .slice A m c), (2, .float .f64 f), (3, .string a), (4, .string n)] = some (comK i A m c f a n)
  | [x0, x1, x2, x3, x4, x5, x6, x7, x8, x9, x10, x11, x12, x13, x14, x15, x16, x17, x18, x19, x20, x21, x22, x23, x24, x25, x26, x27, x28, x29, x30, x31], _ => by kernel_rfl

set_option maxRecDepth 100000 in
set_option maxHeartbeats 4000000 in
theorem com_as (tr : List UInt8) (A : Option Addr) (m c f : Nat) (au nt : ByteArray) (w : World) (h32 : tr.length = 32) : Calls Try.prog 17 #[.agg (comK tr A m c f au nt)] w fun e w' => e = .returned (.agg (comK tr A m c f au nt)) ∧ Below w.heap.size w w' := by
  obtain ⟨K, hK⟩ : ∃ K, K = comK tr A m c f au nt := ⟨_, rfl⟩
  obtain ⟨w1, hw1⟩ : ∃ w1, w1 = (w.alloc (.cells K 30)).alloc (.cells zCom 46) := ⟨_, rfl⟩
  have HB := Lib.hid (show Below w.heap.size w w1 by rw [hw1]; exact ((Below.refl _ _).alloc (Nat.le_refl _) _).alloc (by simp) _)
  have hx : Blk w1 w.heap.size 30 K := by rw [hw1]; exact (Blk.new w _ _).alloc _
  have HY := Lib.hid (show Blk w1 (w.heap.size + 1) 46 zCom by
    have := Blk.new (w.alloc (.cells K 30)) 46 zCom
    rw [hw1]; simpa using this)
  obtain ⟨KB, hKB⟩ : ∃ KB, KB = (bytesV tr).toArray := ⟨_, rfl⟩
  have HAI := Lib.hid (show At w1 ⟨w.heap.size, 0, none⟩ KB by rw [hKB]; exact com_id_at (by rw [← hK]; exact hx))
  have HIB := Lib.hid (show (Try.prog.info? 27).map (·.size) = some KB.size by rw [hKB]; exact oid_size h32)
  have x1 : w1.cell? ⟨w.heap.size, 32, none⟩ = some (.slice A m c) := by rw [hx.cell 32, hK]; exact (comK_get h32 _ _ _ _ _ _).1
  have x2 : w1.cell? ⟨w.heap.size, 33, none⟩ = some (.float .f64 f) := by rw [hx.cell 33, hK]; exact (comK_get h32 _ _ _ _ _ _).2.1
  have x3 : w1.cell? ⟨w.heap.size, 34, none⟩ = some (.string au) := by rw [hx.cell 34, hK]; exact (comK_get h32 _ _ _ _ _ _).2.2.1
  have x4 : w1.cell? ⟨w.heap.size, 35, none⟩ = some (.string nt) := by rw [hx.cell 35, hK]; exact (comK_get h32 _ _ _ _ _ _).2.2.2
  have HBU := Lib.hid (show Try.prog.built 46 [(0, .agg KB), (1, .slice A m c), (2, .float .f64 f), (3, .string au), (4, .string nt)] = some K by rw [hKB, hK]; exact rcom_built5 A m c f au nt tr h32)
  have HI := Lib.hid (show (Try.prog.info? 46).map (·.size) = some K.size by rw [hK, comK_size h32]; exact rcom_info)
  have HO := Lib.hid (show K.all (·.oneCell') = true by rw [hK]; exact comK_one _ _ _ _ _ _ _)
  have HZ := Lib.hid (show zCom.size = K.size by rw [hK, comK_size h32, comK_size (by simp)])
  rw [← hK]
  have HW := Lib.hid hw1
  clear hx hK hKB hw1
  go_enter Try.func17, Try.ntmps17
  go_upto_region 1 with fail
  change Code.wp _ _ _ _ ((w.alloc (.cells K 30)).alloc (.cells zCom 46))
  rw [← HW.out]
  clear HW
  generalize hg : w.heap.size = g at *
  have HG := Lib.hid hg
  clear hg
  go_wp2_with (first
    | (refine wpList_load_at rfl _ _ rfl g 0 rfl KB _ HAI.out Try.underlying27 rfl HIB.out ?_)
    | (refine wpList_built5 rfl 46 (.tmp 4) (.tmp 6) (.tmp 8) (.tmp 10) (.tmp 12) rfl K rfl rfl rfl rfl rfl HBU.out ?_)
    | (refine wpList_store_row rfl _ _ _ rfl (g + 1) K rfl rfl 46 _ HY.out HI.out HZ.out HO.out ?_) | fail)
  refine bodyPost_ret (results_cell_row rfl _ _ (g + 1) 46 K (0, 0) _ rfl (setRow_heap _ (g + 1) _ _ _ _ HY.out) Try.underlying46 rfl HI.out) rfl ?_
  rw [HG.out]
  exact ⟨rfl, below_setRow HB.out (Nat.le_succ _) K⟩

set_option maxRecDepth 100000 in
set_option maxHeartbeats 4000000 in
theorem ids_same (A B : Option Addr) (n c m d : Nat) (l : List (List UInt8)) (W0 : World) (ha : SlOf oidR W0 no A l) (hb : SlOf oidR W0 no B l) (hn : n = l.length) (hm : m = l.length) (hl : n ≤ 1000000000) :
    Calls Try.prog 30 #[.slice A n c, .slice B m d] W0 fun e w' => e = .returned (.bool true) ∧ Below W0.heap.size W0 w' := by
  obtain rfl : m = n := hm.trans hn.symm
  have HA := Lib.hid ha
  have HB := Lib.hid hb
  have HN := Lib.hid hn.symm
  clear ha hb hm hn
  go_enter Try.func30, Try.ntmps30
  go_wp2_with fail
  go_loopw [13] (fun s13 wr => ∃ k : Nat, k ≤ m ∧ s13 = .int .i64 (k : Int) ∧ Hid (Below W0.heap.size W0 wr)) (fun s13 wr => m - (intOf s13).toNat)
  case atStart => exact ⟨0, by omega, rfl, Lib.hid (Below.refl _ _)⟩
  case round =>
    obtain ⟨k, hk, rfl, HBL⟩ := hrel
    by_cases hlt : k < m
    · have hltI : (k : Int) < (m : Int) := by omega
      obtain ⟨b1, o1, x, rfl, hb1, hx, h32, hat⟩ := oids_look (HA.out.below HBL.out) HN.out hlt
      obtain ⟨b2, o2, y, rfl, hb2, hy, _, hat2⟩ := oids_look (HB.out.below HBL.out) HN.out hlt
      obtain rfl : y = x := by rw [hx] at hy; exact (Option.some.inj hy).symm
      have hne := fun w => neqId_of h32 h32 w
      simp only [beq_self_eq_true, Bool.not_true] at hne
      obtain ⟨KX, hKX⟩ : ∃ KX, KX = (bytesV y).toArray := ⟨_, rfl⟩
      have HI := Lib.hid (show (Try.prog.info? 27).map (·.size) = some KX.size by rw [hKX]; exact oid_size h32)
      rw [← hKX] at hat hat2 hne
      have HAT := Lib.hid hat
      have HAT2 := Lib.hid hat2
      have hdr : Below wr.heap.size wr wr.drew := Same.below ⟨1, rfl⟩ _
      have HB2 := Lib.hid (HBL.out.trans (hdr.mono HBL.out.size))
      clear hx hy h32 hat hat2 hKX
      go_upto_region 6 with fail
      refine wp_region_held (S := fun w => Below wr.heap.size wr w) (by kernel_rfl) ?_
      change wpAnyH _ _ _ _ _ _ _ _ (World.drew _)
      refine held_take (i := 0) (v := ?_) (a' := ?_) rfl (by kernel_rfl) (by kernel_rfl) (by kernel_rfl) (fun _ _ _ h => h) (by rfl) hdr ?_ ?_ ?_
      rotate_left 2
      · (intro w hS; go_simp; try with_reducible rfl)
      · (go_simp; try with_reducible rfl)
      refine held_take (i := 1) (v := ?_) (a' := ?_) rfl (by kernel_rfl) (by kernel_rfl) (by kernel_rfl) (fun _ _ _ h => h) (by rfl) hdr ?_ ?_ ?_
      rotate_left 2
      · (intro w hS; go_simp; try with_reducible rfl)
      · (go_simp; try with_reducible rfl)
      refine held_take (i := 2) (v := ?_) (a' := ?_) rfl (by kernel_rfl) (by kernel_rfl) (by kernel_rfl) (fun _ _ _ h => h) (by rfl) hdr ?_ ?_ ?_
      rotate_left 2
      · (intro w hS; go_simp; try with_reducible rfl)
      · (go_simp; try with_reducible rfl)
      refine held_take (i := 3) (v := ?_) (a' := ?_) rfl (by kernel_rfl) (by kernel_rfl) (by kernel_rfl) (fun _ _ _ h => h) (by rfl) hdr ?_ ?_ ?_
      rotate_left 2
      · (intro w hS; refine exec_load_at 27 (.tmp 18) ?_ b1 (o1 + k * 32) ?_ KX _ (HAT.out.below hS hb1) Try.underlying27 rfl HI.out; exact rfl; exact rfl)
      · (go_simp; try with_reducible rfl)
      refine held_take (i := 4) (v := ?_) (a' := ?_) rfl (by kernel_rfl) (by kernel_rfl) (by kernel_rfl) (fun _ _ _ h => h) (by rfl) hdr ?_ ?_ ?_
      rotate_left 2
      · (intro w hS; go_simp; try with_reducible rfl)
      · (go_simp; try with_reducible rfl)
      refine held_take (i := 5) (v := ?_) (a' := ?_) rfl (by kernel_rfl) (by kernel_rfl) (by kernel_rfl) (fun _ _ _ h => h) (by rfl) hdr ?_ ?_ ?_
      rotate_left 2
      · (intro w hS; go_simp; try with_reducible rfl)
      · (go_simp; try with_reducible rfl)
      refine held_take (i := 6) (v := ?_) (a' := ?_) rfl (by kernel_rfl) (by kernel_rfl) (by kernel_rfl) (fun _ _ _ h => h) (by rfl) hdr ?_ ?_ ?_
      rotate_left 2
      · (intro w hS; go_simp; try with_reducible rfl)
      · (go_simp; try with_reducible rfl)
      refine held_take (i := 7) (v := ?_) (a' := ?_) rfl (by kernel_rfl) (by kernel_rfl) (by kernel_rfl) (fun _ _ _ h => h) (by rfl) hdr ?_ ?_ ?_
      rotate_left 2
      · (intro w hS; refine exec_load_at 27 (.tmp 22) ?_ b2 (o2 + k * 32) ?_ KX _ (HAT2.out.below hS hb2) Try.underlying27 rfl HI.out; exact rfl; exact rfl)
      · (go_simp; try with_reducible rfl)
      refine held_take (i := 8) (v := ?_) (a' := ?_) rfl (by kernel_rfl) (by kernel_rfl) (by kernel_rfl) (fun _ _ _ h => h) (by rfl) hdr ?_ ?_ ?_
      rotate_left 2
      · (intro w hS; go_simp; try with_reducible rfl)
      · (go_simp; try with_reducible rfl)
      refine wpAnyH_done (by kernel_rfl) ?_ _
      go_wp2_with fail
      go_roundw
      case rel => exact ⟨k + 1, by omega, by go_num, HB2⟩
      case measure => simp [intOf]; omega
    · have hltI : ¬ (k : Int) < (m : Int) := by omega
      go_wp2_with fail
      go_ret
      exact ⟨rfl, HBL.out⟩

set_option maxRecDepth 100000 in
set_option maxHeartbeats 4000000 in
theorem tree_as (A : Option Addr) (n c : Nat) (l : List EntT) (w : World) (hs : SlOf entR w no A l) (hn : n = l.length) (hnl : n ≤ 1000000000) :
    Calls Try.prog 14 #[.slice A n c] w fun e w' => (∃ A' c', e = .returned (.slice A' l.length c') ∧ SlOf entR w' (fun b => b < w.heap.size) A' l ∧ l.length ≤ c' ∧ c' ≤ maxLen) ∧ Below w.heap.size w w' := by
  have HS := Lib.hid hs
  have HN := Lib.hid hn.symm
  clear hs hn
  have HR0 := Lib.hid (show RowB entR 96 w w.heap.size none 0 0 (l.take 0) from RowB.nil _ _ _ _)
  go_enter Try.func14, Try.ntmps14
  go_wp2_with fail
  go_loopw [3, 8] (fun s3 s8 wr => ∃ (k : Nat) (A' : Option Addr) (c' : Nat), k ≤ n ∧ s3 = .slice A' k c' ∧ s8 = .int .i64 (k : Int) ∧ Hid (Below w.heap.size w wr) ∧ Hid (RowB entR 96 wr w.heap.size A' k c' (l.take k))) (fun s3 s8 wr => n - (intOf s8).toNat)
  case atStart => exact ⟨0, none, 0, by omega, rfl, rfl, Lib.hid (Below.refl _ _), HR0⟩
  case round =>
    obtain ⟨k, A', c', hk, rfl, rfl, HBL, HRW⟩ := hrel
    by_cases hlt : k < n
    · have hltI : (k : Int) < (n : Int) := by omega
      obtain ⟨b1, o1, x, hA, hb1, hx, h32, hf, hat⟩ := ents_look (HS.out.below HBL.out) HN.out hlt
      obtain ⟨s, d, i, f⟩ := x
      have h32 : i.length = 32 := h32
      obtain ⟨KX, hKX⟩ : ∃ KX, KX = entK s d i f := ⟨_, rfl⟩
      have hKs : KX.size = 35 := by rw [hKX]; exact entK_size h32 _ _ _
      have HI := Lib.hid (show (Try.prog.info? 76).map (·.size) = some KX.size by rw [hKX]; exact entK_info h32 _ _ _)
      have HO := Lib.hid (show KX.all (·.oneCell') = true by rw [hKX]; exact entK_one _ _ _ _)
      have HZS := Lib.hid (show zEnt.size = KX.size by rw [hKX, entK_size (by simp), entK_size h32])
      have HAT := Lib.hid (show At wr ⟨b1, o1 + k * 35, none⟩ KX by rw [hKX]; exact hat)
      have HBN := Lib.hid (Blk.new wr 76 zEnt)
      have HK := Lib.hid (Blk.new wr 76 KX)
      have hba : Below wr.heap.size wr (wr.alloc (.cells KX 76)) := (Below.refl _ _).alloc (Nat.le_refl _) _
      have HBL8 := Lib.hid (HBL.out.trans (hba.mono HBL.out.size))
      have HRW8 := Lib.hid (HRW.out.below hba)
      have HTK := Lib.hid (show l.take k ++ [(s, d, i, f)] = l.take (k + 1) by rw [List.take_add_one, hx]; simp)
      obtain ⟨KB, hKB⟩ : ∃ KB, KB = (bytesV i).toArray := ⟨_, rfl⟩
      have HAI := Lib.hid (show At (wr.alloc (.cells KX 76)) ⟨wr.heap.size, 2, none⟩ KB by rw [hKB]; exact ent_id_at (by rw [← hKX]; exact HK.out))
      have HIB := Lib.hid (show (Try.prog.info? 27).map (·.size) = some KB.size by rw [hKB]; exact oid_size h32)
      have HBU := Lib.hid (show Try.prog.built 96 [(0, .string s), (1, .bool d), (2, .agg KB), (3, .float .f64 f)] = some KX by rw [hKB, hKX]; exact rent_built4 s d f i h32)
      have hbs := fun w => bsREnt_of w KX hKs
      have x0 : (wr.alloc (.cells KX 76)).cell? ⟨wr.heap.size, 0, none⟩ = some (.string s) := by rw [HK.out.cell 0, hKX]; exact (entK_get h32 _ _ _).1
      have x1 : (wr.alloc (.cells KX 76)).cell? ⟨wr.heap.size, 1, none⟩ = some (.bool d) := by rw [HK.out.cell 1, hKX]; exact (entK_get h32 _ _ _).2.1
      have x3 : (wr.alloc (.cells KX 76)).cell? ⟨wr.heap.size, 34, none⟩ = some (.float .f64 f) := by rw [HK.out.cell 34, hKX]; exact (entK_get h32 _ _ _).2.2
      obtain ⟨A9, c9, w10, run9, hrow, hb10, _, _, _⟩ := HRW8.out.push elemREnt HBL8.out.size (av := fun _ => True) (ent_of (wr.alloc (.cells KX 76)) _ (x := (s, d, i, f)) h32 hf) (fun _ _ _ => trivial) (by omega) (by simp only [maxLen]; omega) 42 1
      rw [show (entK (s, d, i, f).1 (s, d, i, f).2.1 (s, d, i, f).2.2.1 (s, d, i, f).2.2.2).toList.toArray = KX by rw [Array.toArray_toList, hKX]] at run9
      rw [HTK.out] at hrow
      have HR9 := Lib.hid hrow
      have HB9 := Lib.hid (HBL8.out.trans hb10)
      subst hA
      clear hx h32 hf hat hKX hKB hKs hba HRW HBL hrow hb10 HRW8 HBL8 HTK
      go_upto_region 5 with (first
        | (refine wpList_load_at rfl _ _ rfl b1 (o1 + k * 35) rfl KX _ HAT.out Try.underlying76 rfl HI.out ?_)
        | (refine wpList_store_row rfl _ _ _ rfl wr.heap.size KX rfl rfl 76 _ HBN.out HI.out HZS.out HO.out ?_) | fail)
      rw [World.setRow_alloc_new]
      clear HBN HI HO HZS HAT
      generalize wr.alloc (.cells KX 76) = w8 at *
      generalize wr.heap.size = gx at *
      go_wp2_with (first
        | (refine wpList_load_at rfl _ _ rfl gx 2 rfl KB _ HAI.out Try.underlying27 rfl HIB.out ?_)
        | (refine wpList_built4 rfl 96 (.tmp 14) (.tmp 16) (.tmp 18) (.tmp 20) rfl KX rfl rfl rfl rfl HBU.out ?_)
        | (refine wpList_build1 rfl (.tmp 21) rfl (.agg KX) _ rfl (hbs _) ?_)
        | (at_builtin; refine wpList_run_append run9 ?_ ?_ ?_; exact rfl; exact rfl)
        | fail)
      go_roundw
      case rel => exact ⟨k + 1, A9, c9, by omega, rfl, by go_num, HB9, HR9⟩
      case measure => simp [intOf]; omega
    · have hltI : ¬ (k : Int) < (n : Int) := by omega
      obtain rfl : k = n := by omega
      have htk : l.take k = l := List.take_of_length_le (by rw [HN.out]; exact Nat.le_refl _)
      have hrow := HRW.out
      rw [htk] at hrow
      have HR := Lib.hid hrow
      clear hrow htk HRW
      go_wp2_with fail
      go_ret
      obtain ⟨h1, h2⟩ := HR.out.cap
      have hl := HR.out.len
      exact ⟨⟨A', c', by rw [← hl]; rfl, HR.out.sl, by rw [← hl]; exact h1, h2⟩, HBL.out⟩
end Go.Proofs.Ytpafhajpnepecaa
