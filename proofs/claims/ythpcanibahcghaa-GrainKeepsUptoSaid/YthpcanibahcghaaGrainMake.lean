/- grain: Num, Text, Real, Row. -/
import Derived.Test.YthpcanibahcghaaGrainWrite
import Derived.Test.YthpcanibahcghaaBlk
import Derived.Laws.Rows
import Derived.Laws.CopyOwn
set_option linter.unusedVariables false
namespace Go.Proofs.Ythpcanibahcghaa
open Go.RowKit

/-- the cells of a value -/
def cellsV (k : Int) (u : Nat) (A : Option Addr) (n c : Nat) (f : Nat) (L : Option Addr) (m d : Nat) : Array Value := #[.int .i64 k, .int .u64 (u : Int), .slice A n c, .float .f64 f, .slice L m d]
theorem val_info : (Try.prog.info? 27).map (·.size) = some 5 := by kernel_rfl
theorem cellsV_info (k : Int) (u : Nat) (A : Option Addr) (n c : Nat) (f : Nat) (L : Option Addr) (m d : Nat) : (Try.prog.info? 27).map (·.size) = some (cellsV k u A n c f L m d).size := val_info
theorem cellsV_one (k : Int) (u : Nat) (A : Option Addr) (n c : Nat) (f : Nat) (L : Option Addr) (m d : Nat) : (cellsV k u A n c f L m d).all (·.oneCell') = true := by simp [cellsV, Value.oneCell']
/-- a whole row loaded behind a guard that says yes -/
theorem wpList_load_row_g {P : Program} {ops : Array Oper} {rest : List Oper} {o : Oper} {a : Act} {w : World} {Q : Exit → Act → World → Prop} {gd : Nat × Bool} (hgd : o.guard = some gd) (hw : (yielded ops a.tmps gd.1 == some gd.2) = true) (ty : TypeId) (x : Operand) (ho : o.op = .load ty x)
    (g : Nat) (hx : a.eval x = .pointer (some ⟨g, 0, none⟩)) (t : TypeId) (cs : Array Value) (fr : Nat × Nat) (d : TypeDesc) (hg : w.heap[g]? = some (.cells cs t fr))
    (hu : P.underlying ty = some d) (hd : (match d with | .struct _ | .array _ _ => true | _ => false) = true) (hi : (P.info? ty).map (·.size) = some cs.size)
    (h : wpList P ops Q rest (a.put o.dst (.agg cs)) w) : wpList P ops Q (o :: rest) a w :=
  wpList_step fun _ hK => by
    have hwt : Region.wanted o (yielded ops a.tmps) = true := by unfold Region.wanted; rw [hgd]; exact hw
    rw [if_pos hwt]
    exact wp_load_row ty x ho g hx t cs fr d hg hu hd hi (hK _ _ h)
theorem below_row (w w' : World) (z KV : Array Value) (t : TypeId) (h : Below w.heap.size (w.alloc (.cells z t)) w') : Below w.heap.size w (w'.setRow w.heap.size KV) :=
  below_setRow (((Below.refl _ _).alloc (Nat.le_refl _) _).trans h) (Nat.le_refl _) KV

theorem num_any (n : Nat) (w : World) : Calls Try.prog 16 #[.int .u64 (n : Int)] w fun e w' => e = .returned (.agg (cellsV 0 n none 0 0 0 none 0 0)) ∧ Below w.heap.size w w' := by
  obtain ⟨KV, hKV⟩ : ∃ KV, KV = cellsV 0 n none 0 0 0 none 0 0 := ⟨_, rfl⟩
  have HI := Lib.hid (hKV ▸ cellsV_info 0 n none 0 0 0 none 0 0)
  have HO := Lib.hid (hKV ▸ cellsV_one 0 n none 0 0 0 none 0 0)
  rw [← hKV]
  go_enter Try.func16, Try.ntmps16
  go_wp2_with (first | (refine wpList_store_row rfl _ _ _ rfl w.heap.size KV rfl (by rw [hKV]; rfl) 27 _ (heap_alloc_new w _) HI.out (by rw [hKV]; rfl) HO.out ?_) | fail)
  refine bodyPost_ret (results_cell_row rfl _ _ w.heap.size 27 KV (0, 0) _ rfl (setRow_heap _ w.heap.size _ _ _ _ (heap_alloc_new w _)) Try.underlying27 rfl HI.out) rfl ?_
  exact ⟨rfl, below_row w _ _ KV _ (Below.refl _ _)⟩

theorem real_any (b : Nat) (w : World) : Calls Try.prog 18 #[.float .f64 b] w fun e w' => e = .returned (.agg (cellsV 2 0 none 0 0 (canonB b) none 0 0)) ∧ Below w.heap.size w w' := by
  obtain ⟨C, hC⟩ : ∃ C, C = canonB b := ⟨_, rfl⟩
  have HC := Lib.hid (fun w => canon_any b w)
  rw [← hC] at HC ⊢
  obtain ⟨KV, hKV⟩ : ∃ KV, KV = cellsV 2 0 none 0 0 C none 0 0 := ⟨_, rfl⟩
  have HI := Lib.hid (hKV ▸ cellsV_info 2 0 none 0 0 C none 0 0)
  have HO := Lib.hid (hKV ▸ cellsV_one 2 0 none 0 0 C none 0 0)
  have HKV := Lib.hid hKV
  rw [← hKV]
  clear hKV hC
  go_enter Try.func18, Try.ntmps18
  go_wp2_with fail
  refine (HC.out _).mono ?_
  rintro e w2 ⟨rfl, hs⟩
  have hblk : w2.heap[w.heap.size]? = some (.cells #[.int .i64 0, .int .u64 0, .slice none 0 0, .float .f64 0, .slice none 0 0] 27 (0, 0)) := by rw [hs.heap]; exact heap_alloc_new w _
  have HB := Lib.hid (hs.below w.heap.size)
  have HBL := Lib.hid hblk
  clear hblk hs
  go_wp2_with (first | (refine wpList_store_row rfl _ _ _ rfl w.heap.size KV rfl (by rw [HKV.out]; rfl) 27 _ HBL.out HI.out (by rw [HKV.out]; rfl) HO.out ?_) | fail)
  refine bodyPost_ret (results_cell_row rfl _ _ w.heap.size 27 KV (0, 0) _ rfl (setRow_heap _ w.heap.size _ _ _ _ HBL.out) Try.underlying27 rfl HI.out) rfl ?_
  exact ⟨rfl, below_row w _ _ KV _ HB.out⟩
end Go.Proofs.Ythpcanibahcghaa
