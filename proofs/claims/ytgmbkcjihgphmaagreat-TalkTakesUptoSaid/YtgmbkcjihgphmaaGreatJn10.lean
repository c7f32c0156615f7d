/- Contracts and laws for what the statement reaches, joined: ObjCom, StrL, ObjName, ObjName2, ObjEnt. -/
import Derived.Test.YtgmbkcjihgphmaaGreatJn1
import Derived.Test.YtgmbkcjihgphmaaGreatJn2
import Derived.Test.YtgmbkcjihgphmaaGreatJn9
import Derived.Laws.CopyRow
import Derived.Laws.RangeAny
/- object.GetCommit: its row, its deferred function, its door. -/
set_option linter.unusedVariables false
set_option linter.unusedSimpArgs false
namespace Go.Proofs.YtgmbkcjihgphmaaGreat
open Go.RowKit
/-- a part of a row stored -/
theorem wpList_store_part {P : Program} {ops : Array Oper} {rest : List Oper} {o : Oper} {a : Act} {w : World} {Q : Exit → Act → World → Prop} (hgd : o.guard = none) (ty : TypeId) (x y : Operand) (ho : o.op = .store ty x y)
  (g off : Nat) (cells : Array Value) (hx : a.eval x = .pointer (some ⟨g, off, none⟩)) (hy : a.eval y = .agg cells) (t : TypeId) (cur : Array Value) (hg : w.heap[g]? = some (.cells cur t (0, 0)))
  (hi : (P.info? ty).map (·.size) = some cells.size) (hl : off + cells.size ≤ cur.size) (h1 : cells.all (·.oneCell') = true)
  (h : wpList P ops Q rest (a.put o.dst undef) (w.setRow g (cur.toList.take off ++ cells.toList ++ cur.toList.drop (off + cells.size)).toArray)) : wpList P ops Q (o :: rest) a w := by
 have hr := run_storeCells_at (P := P) g off t cells.toList 0 cur w hg (by simpa using hl) (fun v hv => (Array.all_eq_true_iff_forall_mem.1 h1) v (by simpa using hv))
 have hs : (storeVar ty ⟨g, off, none⟩ (.agg cells)).run P w = .ok () (w.setRow g (cur.toList.take off ++ cells.toList ++ cur.toList.drop (off + cells.size)).toArray) := by
  cases hq : P.info? ty with
  | none => simp [hq] at hi
  | some i =>
   have hs : cells.size = i.size := by simp [hq] at hi; omega
   simp only [Nat.add_zero, Array.length_toList] at hr
   simp [storeVar, sizeOf, typeInfo, hq, Value.cells, hs]
   simpa [hs] using hr
 refine wpList_plain hgd fun _ hK => ?_
 unfold Oper.wp execOp
 simp only [ho, hx, hy, Instr.storeAt, Instr.sureAddr, Sem.run_bind, Sem.run_pure, Result.andThen_ok, hs]
 exact hK _ _ h
theorem set_parts (cur : Array Value) (i : Nat) (v : Value) (h : i < cur.size) : (cur.toList.take i ++ [v] ++ cur.toList.drop (i + 1)).toArray = cur.setIfInBounds i v := by
 apply Array.ext'
 rw [Array.toList_setIfInBounds, List.set_eq_take_append_cons_drop, if_pos (by simpa using h)]
 simp
/-- a number with a point stored (go_simp has no such rule) -/
theorem wpList_store_flt {P : Program} {ops : Array Oper} {rest : List Oper} {o : Oper} {a : Act} {w : World} {Q : Exit → Act → World → Prop} (hgd : o.guard = none) (ty : TypeId) (x y : Operand) (ho : o.op = .store ty x y)
  (g i f : Nat) (hx : a.eval x = .pointer (some ⟨g, i, none⟩)) (hy : a.eval y = .float .f64 f) (t : TypeId) (cur : Array Value) (hg : w.heap[g]? = some (.cells cur t (0, 0)))
  (hi : (P.info? ty).map (·.size) = some 1) (hl : i < cur.size)
  (h : wpList P ops Q rest (a.put o.dst undef) (w.setCell ⟨g, i, none⟩ (.float .f64 f))) : wpList P ops Q (o :: rest) a w := by
 have hr := run_storeCells_at (P := P) g i t [.float .f64 f] 0 cur w hg (by simp; omega) (fun v hv => by simp at hv; subst hv; rfl)
 have he : w.setCell ⟨g, i, none⟩ (.float .f64 f) = w.setRow g (cur.toList.take i ++ [Value.float .f64 f] ++ cur.toList.drop (i + 1)).toArray := by
  rw [set_parts cur i _ hl, setCell_eq_setRow w g i cur t (0, 0) _ hg]
 have hs : (storeVar ty ⟨g, i, none⟩ (.float .f64 f)).run P w = .ok () (w.setCell ⟨g, i, none⟩ (.float .f64 f)) := by
  rw [he]
  cases hq : P.info? ty with
  | none => simp [hq] at hi
  | some j =>
   have hs : j.size = 1 := by simpa [hq] using hi
   simp only [Nat.add_zero, List.length_cons, List.length_nil, Nat.zero_add] at hr
   simp [storeVar, sizeOf, typeInfo, hq, Value.cells, hs]
   simpa using hr
 refine wpList_plain hgd fun _ hK => ?_
 unfold Oper.wp execOp
 simp only [ho, hx, hy, Instr.storeAt, Instr.sureAddr, Sem.run_bind, Sem.run_pure, Result.andThen_ok, hs]
 exact hK _ _ h
theorem flt_info : (Tryz.prog.info? 64).map (·.size) = some 1 := by kernel_rfl
/-- a commit's cells -/
def comK (T : List UInt8) (A : Option Addr) (m c : Nat) (f : Nat) (a n : ByteArray) : Array Value := (bytesV T ++ [Value.slice A m c, Value.float .f64 f, Value.string a, Value.string n]).toArray
abbrev zId : List UInt8 := List.replicate 32 0
abbrev zCom : Array Value := comK zId none 0 0 0 ⟨#[]⟩ ⟨#[]⟩
theorem com_info : (Tryz.prog.info? 66).map (·.size) = some 36 := by kernel_rfl
theorem comK_size {T : List UInt8} (h : T.length = 32) (A : Option Addr) (m c f : Nat) (a n : ByteArray) : (comK T A m c f a n).size = 36 := by simp [comK, bytesV, h]
theorem comK_one (T : List UInt8) (A : Option Addr) (m c f : Nat) (a n : ByteArray) : (comK T A m c f a n).all (·.oneCell') = true := by
 rw [Array.all_eq_true_iff_forall_mem]
 intro v hv
 simp [comK] at hv
 rcases hv with hv | rfl | rfl | rfl | rfl
 ·exact bytesV_one T v hv
 all_goals rfl
theorem comK_info {T : List UInt8} (h : T.length = 32) (A : Option Addr) (m c f : Nat) (a n : ByteArray) : (Tryz.prog.info? 66).map (·.size) = some (comK T A m c f a n).size := by rw [comK_size h]; exact com_info
theorem comK_tree {T U : List UInt8} (hT : T.length = 32) (hU : U.length = 32) (A : Option Addr) (m c f : Nat) (a n : ByteArray) :
  ((comK T A m c f a n).toList.take 0 ++ (bytesV U).toArray.toList ++ (comK T A m c f a n).toList.drop (0 + (bytesV U).toArray.size)).toArray = comK U A m c f a n := by
 have h1 : (bytesV T).length = 32 := by rw [bytesV_length, hT]
 have h2 : (bytesV U).length = 32 := by rw [bytesV_length, hU]
 unfold comK
 simp only [List.take_zero, List.nil_append, Nat.zero_add, List.size_toArray, h2]
 rw [List.drop_append, h1, List.drop_of_length_le (by omega)]
 simp
theorem comK_get {T : List UInt8} (h : T.length = 32) (A : Option Addr) (m c f : Nat) (a n : ByteArray) : (comK T A m c f a n)[32]? = some (.slice A m c) ∧ (comK T A m c f a n)[33]? = some (.float .f64 f) ∧ (comK T A m c f a n)[34]? = some (.string a) ∧ (comK T A m c f a n)[35]? = some (.string n) := by
 have h1 : (bytesV T).length = 32 := by rw [bytesV_length, h]
 unfold comK
 refine ⟨?_, ?_, ?_, ?_⟩ <;> (rw [List.getElem?_toArray, List.getElem?_append_right (by omega), h1]; rfl)
theorem comK_set {T : List UInt8} (h : T.length = 32) (A A' : Option Addr) (m m' c c' f f' : Nat) (a a' n n' : ByteArray) : (comK T A m c f a n).setIfInBounds 32 (.slice A' m' c') = comK T A' m' c' f a n ∧ (comK T A m c f a n).setIfInBounds 33 (.float .f64 f') = comK T A m c f' a n ∧
  (comK T A m c f a n).setIfInBounds 34 (.string a') = comK T A m c f a' n ∧ (comK T A m c f a n).setIfInBounds 35 (.string n') = comK T A m c f a n' := by
 have h1 : (bytesV T).length = 32 := by rw [bytesV_length, h]
 unfold comK
 refine ⟨?_, ?_, ?_, ?_⟩ <;> (rw [List.setIfInBounds_toArray, List.set_append_right _ _ (by omega), h1]; rfl)
theorem comD_ok (pe pv : Addr) (u : FrameMode) (w : World) (he : w.cell? pe = some (.int .i64 0)) :
  CallsD Tryz.prog 84 #[.pointer (some pe), .pointer (some pv)] u w fun e u' w' => u' = u ∧ e = .returned (.tuple #[]) ∧ w' = w := by
 go_enter_d Tryz.func84, Tryz.ntmps84
 go_wp2_with fail
 go_end0
 exact ⟨rfl, rfl⟩
set_option maxRecDepth 100000 in
theorem comD_bad (pe : Addr) (gv : Nat) (z : Int) (K : Array Value) (u : FrameMode) (w : World) (hz : z ≠ 0) (he : w.cell? pe = some (.int .i64 z)) (hK : K.size = 36) (hb : Blk w gv 66 K) :
  CallsD Tryz.prog 84 #[.pointer (some pe), .pointer (some ⟨gv, 0, none⟩)] u w fun e u' w' => u' = u ∧ e = .returned (.tuple #[]) ∧ w' = w.setRow gv zCom := by
 have hz' : (z != 0) = true := by simp [hz]
 obtain ⟨KV, hKV⟩ : ∃ KV, KV = zCom := ⟨_, rfl⟩
 have HI := Lib.hid (show (Tryz.prog.info? 66).map (·.size) = some KV.size by rw [hKV]; exact comK_info (by simp) _ _ _ _ _ _)
 have HO := Lib.hid (show KV.all (·.oneCell') = true by rw [hKV]; exact comK_one _ _ _ _ _ _ _)
 have HS := Lib.hid (show K.size = KV.size by rw [hK, hKV]; exact (comK_size (by simp) _ _ _ _ _ _).symm)
 have HB := Lib.hid hb
 have HKV := Lib.hid hKV
 rw [← hKV]
 clear hz hKV hb hK
 go_enter_d Tryz.func84, Tryz.ntmps84
 go_wp2_with (first | (refine wpList_store_row rfl _ _ _ rfl gv KV rfl (by rw [HKV.out]; try rfl) 66 _ HB.out HI.out HS.out HO.out ?_) | fail)
 go_end0
 exact ⟨rfl, rfl⟩
def ComPost (w : World) (r : Res ComT) (e : Ending) (w' : World) : Prop :=
 Below w.heap.size w w' ∧ match r with
  | .ok x => ∃ A c, e = .returned (.tuple #[.agg (comK x.1 A x.2.1.length c x.2.2.1 x.2.2.2.1 x.2.2.2.2), .int .i64 0]) ∧ x.1.length = 32 ∧ SlOf oidR w' (fun b => b < w.heap.size) A x.2.1 ∧ x.2.1.length ≤ c ∧ c ≤ maxLen
  | .error z => e = .returned (.tuple #[.agg zCom, .int .i64 z])
/-- the door of GetCommit behind a panic that tells an error -/
theorem com_door {w w4 : World} {g : Nat} {tmps K : Array Value} {z : Int} (hz : z ≠ 0) (HG : w.heap.size = g) (hB : Below g w w4) (hv : Blk w4 g 66 K) (hK : K.size = 36) (he : Blk w4 (g + 1) 55 #[.int .i64 0])
  (hp : tmps.getD 2 undef = .pointer (some ⟨g, 0, none⟩)) (hq : tmps.getD 3 undef = .pointer (some ⟨g + 1, 0, none⟩)) :
  Leaves Tryz.prog Tryz.f56 tmps (ComPost w (.error z)) [{ target := .fn (.func 41) #[], args := #[.pointer (some ⟨g + 1, 0, none⟩)] }, { target := .fn (.func 84) #[.pointer (some ⟨g + 1, 0, none⟩), .pointer (some ⟨g, 0, none⟩)], args := #[] }] (.panicking (flawE z)) w4 := by
 have hlt : g + 1 < w4.heap.size := he.lt
 have E1 := (hv.alloc (.cells #[.int .i64 z] 152)).other (g' := g + 1) (by omega) 0 (.int .i64 z)
 have E2 := (he.alloc (.cells #[.int .i64 z] 152)).set_ 0 (.int .i64 z)
 have hgl : g ≤ w4.heap.size := by omega
 have HB5 := (hB.alloc hgl (.cells #[.int .i64 z] 152)).setCell (p := ⟨g + 1, 0, none⟩) (by show g ≤ g + 1; omega) (.int .i64 z)
 refine leaves_cons (f := 41) (args := #[.pointer (some ⟨g + 1, 0, none⟩)]) (by simp) (by simp [go_sem]) ?_
 refine (ocaught_flaw ⟨g + 1, 0, none⟩ 0 z [] w4 hlt (he.cell 0) (he.frozen 0)).mono ?_
 rintro e u' w7 ⟨rfl, rfl, rfl⟩
 refine leaves_cons (f := 84) (args := #[.pointer (some ⟨g + 1, 0, none⟩), .pointer (some ⟨g, 0, none⟩)]) (by simp [settle]) (by simp [go_sem]) ?_
 refine (comD_bad _ g z K _ _ hz (E2.cell 0) hK E1).mono ?_
 rintro e u' w8 ⟨rfl, rfl, rfl⟩
 have r1 := setRow_heap _ g _ zCom _ _ E1
 have r2 := (cell_setRow_other ((w4.alloc (.cells #[.int .i64 z] 152)).setCell ⟨g + 1, 0, none⟩ (.int .i64 z)) g zCom ⟨g + 1, 0, none⟩ (by show g + 1 ≠ g; omega)).trans (E2.cell 0)
 have HB6 := below_setRow HB5 (Nat.le_refl g) zCom
 refine ⟨_, results_row_err rfl tmps _ g (g + 1) _ zCom z hp hq r1 r2 Tryz.underlying66 rfl (comK_info (by simp) _ _ _ _ _ _), ?_⟩
 unfold ComPost
 rw [HG]
 exact ⟨HB6, rfl⟩
/-- what was read is in its one form -/
theorem openG_norm {l : List UInt8} {kind count : Nat} {vs : List Val} (h : openG l kind count = .ok vs) : ∀ v ∈ vs, norm 15 v = v := by
 unfold openG at h
 cases hd : dec l with
 | error z => rw [hd] at h; cases h
 | ok v =>
  rw [hd] at h
  obtain ⟨_, hn, _, _⟩ := dec_back hd
  obtain ⟨k, u, b, f, l'⟩ := v
  have h : openV (.mk k u b f l') kind count = .ok vs := h
  unfold openV at h
  split at h
  ·cases h
  ·rename_i hc
   have hk : k = 3 := by
    apply Classical.byContradiction
    intro h; exact hc (.inl h)
   subst hk
   have hl : l'.map (norm 15) = l' := by
    have := congrArg Val.list hn
    simpa [norm, Val.kind, Val.list] using this
   have hall : ∀ v ∈ l', norm 15 v = v := by
    intro v hv
    obtain ⟨i, hi⟩ := List.mem_iff_getElem?.1 hv
    have h2 : (l'.map (norm 15))[i]? = some (norm 15 v) := by rw [List.getElem?_map, hi]; rfl
    rw [hl, hi] at h2
    exact (Option.some.inj h2).symm
   cases l' with
   | nil => cases h
   | cons a t =>
    simp only [Val.list] at h
    split at h
    ·cases h
    ·split at h
     ·cases h
     ·injection h with h; subst h
      exact fun v hv => hall v (by simp [hv])
theorem norm_flt {v : Val} (h : norm 15 v = v) (hk : v.kind = 2) : canonB v.flt = v.flt := by
 obtain ⟨k, u, b, f, l⟩ := v
 have hk : k = 2 := hk
 subst hk
 have h2 : norm 15 (.mk 2 u b f l) = .mk 2 0 [] (canonB f) [] := rfl
 rw [h2] at h
 exact congrArg Val.flt h
end Go.Proofs.YtgmbkcjihgphmaaGreat
/- strings out of bytes. -/
namespace Go.Proofs.YtgmbkcjihgphmaaGreat
def strL (l : List UInt8) : ByteArray := ⟨l.toArray⟩
theorem strL_size (l : List UInt8) : (strL l).size = l.length := by simp [strL, ByteArray.size]
theorem strL_append (l r : List UInt8) : strL l ++ strL r = strL (l ++ r) := by
 apply ByteArray.ext
 simp [strL, ByteArray.data_append]
end Go.Proofs.YtgmbkcjihgphmaaGreat
/- path.Name: is it a name? (strings.IndexFunc with the program's own test) -/
namespace Go.Proofs.YtgmbkcjihgphmaaGreat
open Go.RowKit
/-- the bytes that one rune takes up are all high, where the first is -/
theorem decode_highs (s : ByteArray) (pos : Nat) (h : pos < s.size) (ha : 128 ≤ (s[pos]'h).toNat) : pos + (Utf8.decode s pos).2 ≤ s.size ∧ ∀ k, k < (Utf8.decode s pos).2 → 128 ≤ (s.get! (pos + k)).toNat := by
 have hn : ¬ (s[pos]'h).toNat < 128 := by omega
 have h0 : 128 ≤ (s.get! (pos + 0)).toNat := by rw [get_at s pos h]; exact ha
 have key : ∀ w : Nat, (∀ k, 0 < k → k < w → pos + k < s.size ∧ (s.get! (pos + k)).toNat / 64 = 2) → pos + w ≤ s.size ∧ ∀ k, k < w → 128 ≤ (s.get! (pos + k)).toNat := by
  intro w hw
  refine ⟨?_, fun k hk => ?_⟩
  ·rcases Nat.lt_or_ge 1 w with h1 | h1
   ·have := (hw (w - 1) (by omega) (by omega)).1; omega
   ·omega
  ·rcases Nat.eq_zero_or_pos k with rfl | hp
   ·exact h0
   ·have := (hw k hp hk).2; omega
 simp only [Utf8.decode, get_at s pos h, hn, if_false]
 split
 ·rename_i hc
  simp at hc
  split
  ·refine key 2 fun k h1 h2 => ?_
   obtain rfl : k = 1 := by omega
   exact ⟨by omega, by omega⟩
  ·exact key 1 fun k h1 h2 => by omega
 split
 ·rename_i hc
  simp at hc
  split
  ·refine key 3 fun k h1 h2 => ?_
   rcases (by omega : k = 1 ∨ k = 2) with rfl | rfl <;> exact ⟨by omega, by omega⟩
  ·exact key 1 fun k h1 h2 => by omega
 split
 ·rename_i hc
  simp at hc
  split
  ·refine key 4 fun k h1 h2 => ?_
   rcases (by omega : k = 1 ∨ k = 2 ∨ k = 3) with rfl | rfl | rfl <;> exact ⟨by omega, by omega⟩
  ·exact key 1 fun k h1 h2 => by omega
 ·exact key 1 fun k h1 h2 => by omega
theorem get_list (s : ByteArray) (k : Nat) (hk : k < s.size) : (sB s)[k]? = some (s.get! k) := by
 have h1 : s.get! k = s[k]'hk := get_at s k hk
 rw [h1]
 unfold sB
 rw [Array.getElem?_toList, Array.getElem?_eq_getElem (by simpa using hk)]
 rfl
/-- path.bad -/
theorem bad_any (r : Nat) (w : World) (hr : r ≤ 2147483647) : Calls Tryz.prog 93 #[.int .i32 (r : Int)] w fun e w' => e = .returned (.bool (decide (r < 32 ∨ r = 127 ∨ r = 47))) ∧ w' = w := by
 by_cases h1 : r < 32
 ·have a1 : decide ((r : Int) < 32) = true := by simp; omega
  have hd := Lib.hid (show decide (r < 32 ∨ r = 127 ∨ r = 47) = true by simp [h1])
  clear h1
  go_enter Tryz.func93, Tryz.ntmps93
  go_wp2_with fail
  go_ret
  exact ⟨by rw [hd.out]; rfl, rfl⟩
 ·have a1 : decide ((r : Int) < 32) = false := by simp; omega
  by_cases h2 : r = 127
  ·have a2 : ((r : Int) == 127) = true := by simp; omega
   have hd := Lib.hid (show decide (r < 32 ∨ r = 127 ∨ r = 47) = true by simp [h2])
   clear h1 h2
   go_enter Tryz.func93, Tryz.ntmps93
   go_wp2_with fail
   go_ret
   exact ⟨by rw [hd.out]; rfl, rfl⟩
  ·have a2 : ((r : Int) == 127) = false := by simp; omega
   by_cases h3 : r = 47
   ·have a3 : ((r : Int) == 47) = true := by simp; omega
    have hd := Lib.hid (show decide (r < 32 ∨ r = 127 ∨ r = 47) = true by simp [h3])
    clear h1 h2 h3
    go_enter Tryz.func93, Tryz.ntmps93
    go_wp2_with fail
    go_ret
    exact ⟨by rw [hd.out]; rfl, rfl⟩
   ·have a3 : ((r : Int) == 47) = false := by simp; omega
    have hd := Lib.hid (show decide (r < 32 ∨ r = 127 ∨ r = 47) = false by simp [h1, h2, h3])
    clear h1 h2 h3
    go_enter Tryz.func93, Tryz.ntmps93
    go_wp2_with fail
    go_ret
    exact ⟨by rw [hd.out]; rfl, rfl⟩
theorem badB_high {x : UInt8} (h : 128 ≤ x.toNat) : badB x = false := by
 have h1 : ¬ x < 32 := by intro h2; have := UInt8.lt_iff_toNat_lt.1 h2; simp at this; omega
 have h2 : ¬ x = 127 := by rintro rfl; simp at h
 have h3 : ¬ x = 47 := by rintro rfl; simp at h
 simp [badB, h1, h2, h3]
/-- what one rune says of the bytes that it takes up -/
theorem rune_bad (s : ByteArray) (p : Nat) (h : p < s.size) : ∃ c d, Utf8.decode s p = (c, d) ∧ c ≤ 2147483647 ∧ 1 ≤ d ∧ p + d ≤ s.size ∧ decide (c < 32 ∨ c = 127 ∨ c = 47) = badB (s.get! p) ∧ (badB (s.get! p) = false → ∀ k, p ≤ k → k < p + d → badB (s.get! k) = false) := by
 have hg : s.get! p = s[p]'h := get_at s p h
 have hle := decode_le s p
 by_cases ha : (s[p]'h).toNat < 128
 ·refine ⟨(s[p]'h).toNat, 1, decode_ascii s p h ha, by omega, Nat.le_refl _, by omega, ?_, fun hb k h1 h2 => ?_⟩
  ·rw [hg]
   obtain ⟨x, hx⟩ : ∃ x, x = s[p]'h := ⟨_, rfl⟩
   rw [← hx]
   have e1 : (x < 32) = (x.toNat < 32) := by rw [UInt8.lt_iff_toNat_lt]; rfl
   have e2 : (x = 127) = (x.toNat = 127) := by rw [← UInt8.toNat_inj]; rfl
   have e3 : (x = 47) = (x.toNat = 47) := by rw [← UInt8.toNat_inj]; rfl
   rw [Bool.eq_iff_iff]
   simp [badB, e1, e2, e3, or_assoc]
  ·obtain rfl : k = p := by omega
   exact hb
 ·obtain ⟨h1, h2⟩ := decode_high s p h (by omega)
  obtain ⟨h3, h4⟩ := decode_highs s p h (by omega)
  have hb : badB (s.get! p) = false := badB_high (by rw [hg]; omega)
  rcases hq : Utf8.decode s p with ⟨c, d⟩
  rw [hq] at h1 h2 h3 h4 hle
  refine ⟨c, d, rfl, hle, h2, h3, ?_, fun _ k k1 k2 => ?_⟩
  ·rw [hb]; simp only [] at h1; simp; omega
  ·have := h4 (k - p) (by simp only []; omega)
   rw [show p + (k - p) = k from by omega] at this
   exact badB_high this
theorem all_get (s : ByteArray) : ((sB s).all (fun x => !badB x) = true) ↔ ∀ k, k < s.size → badB (s.get! k) = false := by
 rw [List.all_eq_true]
 constructor
 ·intro h k hk
  have := h _ (List.mem_of_getElem? (get_list s k hk))
  simpa using this
 ·intro h x hx
  obtain ⟨k, hk⟩ := List.mem_iff_getElem?.1 hx
  have hl := (List.getElem?_eq_some_iff.1 hk).1
  have hk2 : k < s.size := by simpa [sB] using hl
  rw [get_list s k hk2] at hk
  injection hk with hk
  rw [← hk, h k hk2]; rfl
theorem iter_below (w : World) (s : ByteArray) (p : Nat) : Below w.heap.size w (w.iter s p) := (Below.refl _ _).alloc (Nat.le_refl _) _
set_option maxRecDepth 100000 in
set_option maxHeartbeats 1000000 in
theorem indexFunc0_any (s : ByteArray) (w : World) (hs : s.size ≤ 1000000000) : Calls Tryz.prog 102 #[.string s, .func (.func 93) #[] #[], .bool true] w fun e w' =>
  ∃ k : Int, e = .returned (.int .i64 k) ∧ decide (k < 0) = (sB s).all (fun x => !badB x) ∧ Below w.heap.size w w' := by
 go_enter Tryz.func102, Tryz.ntmps102
 go_wp2_with fail
 go_loopw [7] (fun s7 wr => ∃ p, p ≤ s.size ∧ wr = w.iter s p ∧ Hid (∀ k, k < p → badB (s.get! k) = false)) (fun _ wr => s.size - wr.iterPos w.heap.size)
 case atStart => exact ⟨0, by omega, rfl, Lib.hid (fun k h => by omega)⟩
 case round =>
  obtain ⟨p, hp, rfl, HP⟩ := hrel
  by_cases hlt : p < s.size
  ·obtain ⟨c, d, hcd, hc, hd, hpd, hbad, hnext⟩ := rune_bad s p hlt
   have hnx : ∀ ty, (Instr.next (.pointer (some ⟨w.heap.size, 0, none⟩)) true ty).run Tryz.prog (w.iter s p) = .ok (.tuple #[.bool true, .int .i64 p, .int .i32 c]) (w.iter s (p + d)) := fun ty => by
    have := run_next_any (P := Tryz.prog) w s p ty hlt
    rwa [hcd] at this
   have HNX := Lib.hid hnext
   have HBA := Lib.hid hbad
   clear hcd hnext hbad
   go_wp2_with fail
   refine (bad_any c _ hc).mono ?_
   rintro e w2 ⟨rfl, rfl⟩
   rw [HBA.out]
   by_cases hb : badB (s.get! p) = true
   ·rw [hb]
    have hall : (sB s).all (fun x => !badB x) = false := by
     rw [← Bool.not_eq_true, all_get]
     intro h
     have := h p hlt
     rw [hb] at this
     cases this
    have HA := Lib.hid hall
    clear hnx hall hb
    go_wp2_with fail
    go_ret
    exact ⟨(p : Int), rfl, by rw [HA.out]; simp, iter_below _ _ _⟩
   ·have hb' : badB (s.get! p) = false := by simpa using hb
    rw [hb']
    have HN2 := Lib.hid (HNX.out hb')
    clear hnx hb hb'
    go_wp2_with fail
    go_roundw
    case rel =>
     refine ⟨p + d, hpd, rfl, Lib.hid fun k hk => ?_⟩
     rcases Nat.lt_or_ge k p with h1 | h1
     ·exact HP.out k h1
     ·exact HN2.out k h1 hk
    case measure => simp; omega
  ·have hnx : ∀ ty, (Instr.next (.pointer (some ⟨w.heap.size, 0, none⟩)) true ty).run Tryz.prog (w.iter s p) = .ok (.tuple #[.bool false]) (w.iter s p) := fun ty => run_next_end (P := Tryz.prog) w s p ty hlt
   have HA := Lib.hid ((all_get s).2 (fun k hk => HP.out k (by omega)))
   go_wp2_with fail
   go_ret
   exact ⟨-1, rfl, by rw [HA.out]; rfl, iter_below _ _ _⟩
theorem indexFunc_any (s : ByteArray) (w : World) (hs : s.size ≤ 1000000000) : Calls Tryz.prog 92 #[.string s, .func (.func 93) #[] #[]] w fun e w' =>
  ∃ k : Int, e = .returned (.int .i64 k) ∧ decide (k < 0) = (sB s).all (fun x => !badB x) ∧ Below w.heap.size w w' := by
 go_enter Tryz.func92, Tryz.ntmps92
 go_wp2_with fail
 refine (indexFunc0_any s w hs).mono ?_
 rintro e w2 ⟨k, rfl, hk, hb⟩
 have HK := Lib.hid hk
 clear hk
 go_wp2_with fail
 go_ret
 exact ⟨k, rfl, HK.out, hb⟩
end Go.Proofs.YtgmbkcjihgphmaaGreat
/- path.Name and the document's Name. -/
namespace Go.Proofs.YtgmbkcjihgphmaaGreat
open Go.RowKit
/-- the tests on a name's text, as the walk has them -/
theorem name_tests (s : ByteArray) : s.toList.isEmpty = (sB s == []) ∧ (s.toList == [46]) = (sB s == [46]) ∧ (s.toList == [46, 46]) = (sB s == [46, 46]) ∧ (sB s).length = s.size := by
 unfold sB
 rw [ByteArray.toList_eq]
 refine ⟨?_, rfl, rfl, by simp⟩
 cases s.data.toList <;> rfl
set_option maxRecDepth 100000 in
set_option maxHeartbeats 2000000 in
theorem name_any (s : ByteArray) (w : World) (hs : s.size ≤ 1000000000) : Calls Tryz.prog 68 #[.string s] w fun e w' => e = .returned (.bool (nameG (sB s))) ∧ Below w.heap.size w w' := by
 obtain ⟨t0, t1, t2, t3⟩ := name_tests s
 have k1 : ({ data := #[46] } : ByteArray).toList = [46] := ByteArray.toList_mk [46]
 have k2 : ({ data := #[46, 46] } : ByteArray).toList = [46, 46] := ByteArray.toList_mk [46, 46]
 have HIF := Lib.hid (fun w => indexFunc_any s w hs)
 obtain ⟨G, hG⟩ : ∃ G, G = nameG (sB s) := ⟨_, rfl⟩
 have HG := Lib.hid hG
 rw [← hG]
 by_cases h0 : (sB s == []) = true
 ·have hg := Lib.hid (show G = false by rw [hG]; simp [nameG] at h0 ⊢; simp [h0])
  rw [h0] at t0
  clear hG h0 t1 t2 t3
  go_enter Tryz.func68, Tryz.ntmps68
  go_wp2_with fail
  go_ret
  exact ⟨by rw [hg.out]; rfl, Below.refl _ _⟩
 have h0' : (sB s == []) = false := by simpa using h0
 rw [h0'] at t0
 by_cases h1 : (sB s == [46]) = true
 ·have hg := Lib.hid (show G = false by rw [hG]; simp at h1; simp [nameG, h1])
  rw [h1] at t1
  clear hG h0 h1 t2 t3
  go_enter Tryz.func68, Tryz.ntmps68
  go_wp2_with fail
  go_ret
  exact ⟨by rw [hg.out]; rfl, Below.refl _ _⟩
 have h1' : (sB s == [46]) = false := by simpa using h1
 rw [h1'] at t1
 by_cases h2 : (sB s == [46, 46]) = true
 ·have hg := Lib.hid (show G = false by rw [hG]; simp at h2; simp [nameG, h2])
  rw [h2] at t2
  clear hG h0 h1 h2 t3
  go_enter Tryz.func68, Tryz.ntmps68
  go_wp2_with fail
  go_ret
  exact ⟨by rw [hg.out]; rfl, Below.refl _ _⟩
 have h2' : (sB s == [46, 46]) = false := by simpa using h2
 rw [h2'] at t2
 by_cases h3 : s.size ≤ 64
 ·have h3I : (s.size : Int) ≤ 64 := by omega
  have hg := Lib.hid (show G = (sB s).all (fun x => !badB x) by
   rw [hG]; unfold nameG
   rw [show (sB s != []) = true by simp [bne, h0'], show (sB s != [46]) = true by simp [bne, h1'], show (sB s != [46, 46]) = true by simp [bne, h2'], t3]
   simp [h3])
  clear hG h0 h1 h2 h0' h1' h2' t3
  go_enter Tryz.func68, Tryz.ntmps68
  go_wp2_with fail
  refine (HIF.out w).mono ?_
  rintro e w2 ⟨k, rfl, hk, hb⟩
  rw [← hg.out] at hk
  have HK := Lib.hid hk
  obtain ⟨D, hD⟩ : ∃ D, D = decide (k < 0) := ⟨_, rfl⟩
  have HD := Lib.hid hD
  have hD' := hD.symm
  clear hk hD
  go_wp2_with fail
  go_ret
  exact ⟨by rw [← HK.out, ← HD.out]; rfl, hb⟩
 ·have h3I : ¬ (s.size : Int) ≤ 64 := by omega
  have hg := Lib.hid (show G = false by rw [hG]; unfold nameG; rw [t3]; simp [h3])
  clear hG h0 h1 h2 h0' h1' h2' t3
  go_enter Tryz.func68, Tryz.ntmps68
  go_wp2_with fail
  go_ret
  exact ⟨by rw [hg.out]; rfl, Below.refl _ _⟩
end Go.Proofs.YtgmbkcjihgphmaaGreat
/- A tree's entries in memory. -/
namespace Go.Proofs.YtgmbkcjihgphmaaGreat
open Go.RowKit
abbrev entR : Rd EntT := prodR strR (prodR boolR (prodR oidR fltR))
/-- an entry's cells -/
def entK (s : ByteArray) (d : Bool) (i : List UInt8) (f : Nat) : Array Value := (Value.string s :: Value.bool d :: (bytesV i ++ [Value.float .f64 f])).toArray
abbrev zEnt : Array Value := entK ⟨#[]⟩ false zId 0
theorem ent_cells {w : World} {av : Av} {cs : List Value} {x : EntT} (h : entR.R w av cs x) : cs = (entK x.1 x.2.1 x.2.2.1 x.2.2.2).toList ∧ x.2.2.1.length = 32 ∧ x.2.2.2 < 2 ^ 64 := by
 obtain ⟨c1, c2, rfl, h1, d1, d2, rfl, h2, e1, e2, rfl, h3, h4, h5⟩ := h
 obtain ⟨h6, h7⟩ := oid_cells h3
 have h1 : c1 = _ := h1
 have h2 : d1 = _ := h2
 subst h1 h2 h4 h6
 exact ⟨rfl, h7, h5⟩
theorem ent_of (w : World) (av : Av) {x : EntT} (h : x.2.2.1.length = 32) (hf : x.2.2.2 < 2 ^ 64) : entR.R w av (entK x.1 x.2.1 x.2.2.1 x.2.2.2).toList x :=
 ⟨[_], _, rfl, rfl, [_], _, rfl, rfl, bytesV x.2.2.1, [_], rfl, oid_of w av h, rfl, hf⟩
theorem entK_size {i : List UInt8} (h : i.length = 32) (s : ByteArray) (d : Bool) (f : Nat) : (entK s d i f).size = 35 := by simp [entK, bytesV, h]
theorem entK_one (s : ByteArray) (d : Bool) (i : List UInt8) (f : Nat) : (entK s d i f).all (·.oneCell') = true := by
 rw [Array.all_eq_true_iff_forall_mem]
 intro v hv
 simp [entK] at hv
 rcases hv with rfl | rfl | hv | rfl
 ·rfl
 ·rfl
 ·exact bytesV_one i v hv
 ·rfl
theorem ent_info : (Tryz.prog.info? 70).map (·.size) = some 35 := by kernel_rfl
theorem entK_info {i : List UInt8} (h : i.length = 32) (s : ByteArray) (d : Bool) (f : Nat) : (Tryz.prog.info? 70).map (·.size) = some (entK s d i f).size := by rw [entK_size h]; exact ent_info
theorem entK_get {i : List UInt8} (h : i.length = 32) (s : ByteArray) (d : Bool) (f : Nat) : (entK s d i f)[0]? = some (.string s) ∧ (entK s d i f)[1]? = some (.bool d) ∧ (entK s d i f)[34]? = some (.float .f64 f) := by
 have h1 : (bytesV i).length = 32 := by rw [bytesV_length, h]
 refine ⟨rfl, rfl, ?_⟩
 unfold entK
 rw [List.getElem?_toArray, List.getElem?_cons_succ, List.getElem?_cons_succ, List.getElem?_append_right (by omega), h1]; rfl
theorem entK_set {i : List UInt8} (h : i.length = 32) (s : ByteArray) (d : Bool) (f f' : Nat) : (entK s d i f).setIfInBounds 34 (.float .f64 f') = entK s d i f' := by
 have h1 : (bytesV i).length = 32 := by rw [bytesV_length, h]
 unfold entK
 rw [List.setIfInBounds_toArray, List.set_cons_succ, List.set_cons_succ, List.set_append_right _ _ (by omega), h1]; rfl
theorem elemEnt : ElemOf Tryz.prog 68 70 (.agg zEnt) 35 64 := ⟨Tryz.underlying68, by kernel_rfl, rfl, by decide⟩
theorem ents_look {w : World} {av : Av} {A : Option Addr} {os : List EntT} {n i : Nat} (h : SlOf entR w av A os) (hl : os.length = n) (hi : i < n) :
  ∃ b off o, A = some ⟨b, off, none⟩ ∧ b < w.heap.size ∧ os[i]? = some o ∧ o.2.2.1.length = 32 ∧ o.2.2.2 < 2 ^ 64 ∧ At w ⟨b, off + i * 35, none⟩ (entK o.1 o.2.1 o.2.2.1 o.2.2.2) := by
 obtain ⟨b, off, cs, o, e, hb, hx, hr, hc⟩ := h.at hl hi
 obtain ⟨rfl, h32, hf⟩ := ent_cells hr
 exact ⟨b, off, o, e, hb, hx, h32, hf, hc⟩
/-! ### ordered -/
def OrdPost (w : World) (z : Int) (e : Ending) (w' : World) : Prop := Below w.heap.size w w' ∧ e = if z = 0 then .returned (.tuple #[]) else .panicked (flawE z)
def notUp : Option (List UInt8) → List UInt8 → Bool
 | none, _ => false
 | some q, s => !(Op.bytesLess q s)
theorem ord_step {l : List EntT} {i : Nat} {x : EntT} {p : Option (List UInt8)} (hx : l[i]? = some x) : ordG p (l.drop i) = if nameG (sB x.1) = false then 50 else if notUp p (sB x.1) = true then 92 else ordG (some (sB x.1)) (l.drop (i + 1)) := by
 obtain ⟨hl, he⟩ := List.getElem?_eq_some_iff.1 hx
 rw [List.drop_eq_getElem_cons hl, he]
 cases p <;> (rw [ordG.eq_def]; rfl)
set_option maxRecDepth 100000 in
set_option maxHeartbeats 4000000 in
theorem ordered_any (A : Option Addr) (n c : Nat) (l : List EntT) (W0 : World) (hs : SlOf entR W0 no A l) (hn : n = l.length) (hnl : n ≤ 1000000000) (hsz : ∀ x ∈ l, x.1.size ≤ 1000000000) :
  Calls Tryz.prog 42 #[.slice A n c] W0 (OrdPost W0 (orderedG l)) := by
 obtain ⟨G, hG⟩ : ∃ G, G = orderedG l := ⟨_, rfl⟩
 rw [← hG]
 have HS := Lib.hid hs
 have HM := Lib.hid hn
 have HZ := Lib.hid hsz
 by_cases h1 : n ≤ 1024
 ·have hI : (n : Int) ≤ 1024 := by omega
  have HG0 := Lib.hid (show G = ordG none (l.drop 0) by rw [hG]; unfold orderedG; rw [if_neg (by omega), List.drop_zero])
  clear hG hs hn hsz
  go_enter Tryz.func42, Tryz.ntmps42
  go_wp2_with fail
  refine (need_yes 2 _).mono ?_
  rintro e w' ⟨rfl, rfl⟩
  go_wp2_with fail
  go_loopw [10] (fun s10 wr => ∃ (i : Nat) (p : Option (List UInt8)), i ≤ n ∧ s10 = .int .i64 (i : Int) ∧ Below w'.heap.size w' wr ∧ Hid ((i = 0 → p = none) ∧ ∀ j x, i = j + 1 → l[j]? = some x → p = some (sB x.1)) ∧ Hid (G = ordG p (l.drop i))) (fun s10 wr => n - (intOf s10).toNat)
  case atStart => exact ⟨0, none, by omega, rfl, Below.refl _ _, Lib.hid ⟨fun _ => rfl, fun j x h => by omega⟩, HG0⟩
  case round =>
   obtain ⟨i, p, hin, rfl, hbl, HP, HR⟩ := hrel
   by_cases hi : i < n
   ·have hiI : (i : Int) < (n : Int) := by omega
    obtain ⟨b1, o1, x, hA, hb1, hx, h32, hf, hat⟩ := ents_look (HS.out.below hbl) HM.out.symm hi
    have hr := HR.out
    rw [ord_step hx] at hr
    have HRR := Lib.hid hr
    have HX := Lib.hid hx
    have HN := Lib.hid (fun w => name_any x.1 w (HZ.out x (List.mem_of_getElem? hx)))
    obtain ⟨KX, hKX⟩ : ∃ KX, KX = entK x.1 x.2.1 x.2.2.1 x.2.2.2 := ⟨_, rfl⟩
    have hK0 : KX[0]? = some (.string x.1) := by rw [hKX]; rfl
    have HI := Lib.hid (show (Tryz.prog.info? 70).map (·.size) = some KX.size by rw [hKX]; exact entK_info h32 _ _ _)
    have HO := Lib.hid (show KX.all (·.oneCell') = true by rw [hKX]; exact entK_one _ _ _ _)
    have HZS := Lib.hid (show zEnt.size = KX.size by rw [hKX, entK_size (by simp), entK_size h32])
    rw [← hKX] at hat
    have HAT := Lib.hid hat
    have HBN := Lib.hid (Blk.new wr 70 zEnt)
    have HK := Lib.hid (Blk.new wr 70 KX)
    have HB2 := Lib.hid (show Below wr.heap.size wr (wr.alloc (.cells KX 70)) from (Below.refl _ _).alloc (Nat.le_refl _) _)
    subst hA
    clear hr hx hat HR hKX h32 hf
    go_upto_region 4 with (first
     | (refine wpList_load_at rfl _ _ rfl b1 (o1 + i * 35) rfl KX _ HAT.out Tryz.underlying70 rfl HI.out ?_)
     | (refine wpList_store_row rfl _ _ _ rfl wr.heap.size KX rfl rfl 70 _ HBN.out HI.out HZS.out HO.out ?_) | fail)
    rw [World.setRow_alloc_new]
    have HAT2 := Lib.hid (HAT.out.below HB2.out hb1)
    have hb2 : b1 < (wr.alloc (.cells KX 70)).heap.size := Nat.lt_of_lt_of_le hb1 HB2.out.size
    clear HBN HI HO HZS HAT
    have hbl2 := hbl.trans (HB2.out.mono hbl.size)
    clear HB2
    generalize wr.alloc (.cells KX 70) = w2 at *
    generalize wr.heap.size = gx at *
    have hcx : w2.cell? ⟨gx, 0, none⟩ = some (.string x.1) := (HK.out.cell 0).trans hK0
    go_wp2_with fail
    refine (HN.out _).mono ?_
    rintro e w3 ⟨rfl, hb3⟩
    have hbl3 := hbl2.trans (hb3.mono hbl2.size)
    cases hnm : nameG (sB x.1) with
    | false =>
     have HG2 := Lib.hid (show G = 50 by rw [HRR.out, if_pos hnm])
     clear hnm
     go_wp2_with fail
     refine (need_no 50 _).mono ?_
     rintro e w' ⟨rfl, rfl⟩
     exact ⟨rfl, hbl3, by rw [HG2.out]; rfl⟩
    | true =>
     have HG2 := Lib.hid (show G = if notUp p (sB x.1) = true then 92 else ordG (some (sB x.1)) (l.drop (i + 1)) by rw [HRR.out, if_neg (by simp [hnm])])
     clear hnm HRR
     go_wp2_with fail
     refine (need_yes 50 _).mono ?_
     rintro e w4 ⟨rfl, rfl⟩
     have hgx2 : gx < w2.heap.size := HK.out.lt
     have hgx3 : gx < w4.heap.size := Nat.lt_of_lt_of_le hgx2 hb3.size
     have hcx3 : w4.cell? ⟨gx, 0, none⟩ = some (.string x.1) := (hb3.cell (p := ⟨gx, 0, none⟩) hgx2).trans hcx
     have hdr : Below w4.heap.size w4 w4.drew := Same.below ⟨1, rfl⟩ _
     have hbl5 := hbl3.trans (hdr.mono hbl3.size)
     by_cases hi0 : i = 0
     ·subst hi0
      obtain rfl := HP.out.1 rfl
      have HG3 := Lib.hid (show G = ordG (some (sB x.1)) (l.drop (0 + 1)) by rw [HG2.out]; rfl)
      have HP2 := Lib.hid (show (0 + 1 = 0 → some (sB x.1) = none) ∧ ∀ (j : Nat) (y : EntT), 0 + 1 = j + 1 → l[j]? = some y → some (sB x.1) = some (sB y.1) from ⟨fun h => by omega, fun j y h1 h2 => by
       obtain rfl : j = 0 := by omega
       rw [HX.out] at h2; injection h2 with h2; rw [h2]⟩)
      clear HG2 HP HAT2 hb2 hcx hb3 hbl2 hbl HN HK
      go_upto_region 5 with fail
      refine wp_region_held (S := fun w => Below w4.heap.size w4 w) (by kernel_rfl) ?_
      change wpAnyH _ _ _ _ _ _ _ _ (World.drew _)
      refine rgT 0 hdr ?_
      refine rgT 1 hdr ?_
      refine rgT 2 hdr ?_
      refine held_no (i := 3) (a' := ?_) rfl (by kernel_rfl) (by kernel_rfl) (by kernel_rfl) (fun _ _ _ h => h) (by rfl) hdr ?_ ?_
      rotate_left 1
      ·(go_simp; try with_reducible rfl)
      refine held_no (i := 4) (a' := ?_) rfl (by kernel_rfl) (by kernel_rfl) (by kernel_rfl) (fun _ _ _ h => h) (by rfl) hdr ?_ ?_
      rotate_left 1
      ·(go_simp; try with_reducible rfl)
      refine held_no (i := 5) (a' := ?_) rfl (by kernel_rfl) (by kernel_rfl) (by kernel_rfl) (fun _ _ _ h => h) (by rfl) hdr ?_ ?_
      rotate_left 1
      ·(go_simp; try with_reducible rfl)
      refine held_no (i := 6) (a' := ?_) rfl (by kernel_rfl) (by kernel_rfl) (by kernel_rfl) (fun _ _ _ h => h) (by rfl) hdr ?_ ?_
      rotate_left 1
      ·(go_simp; try with_reducible rfl)
      refine held_no (i := 7) (a' := ?_) rfl (by kernel_rfl) (by kernel_rfl) (by kernel_rfl) (fun _ _ _ h => h) (by rfl) hdr ?_ ?_
      rotate_left 1
      ·(go_simp; try with_reducible rfl)
      refine held_no (i := 8) (a' := ?_) rfl (by kernel_rfl) (by kernel_rfl) (by kernel_rfl) (fun _ _ _ h => h) (by rfl) hdr ?_ ?_
      rotate_left 1
      ·(go_simp; try with_reducible rfl)
      refine held_no (i := 9) (a' := ?_) rfl (by kernel_rfl) (by kernel_rfl) (by kernel_rfl) (fun _ _ _ h => h) (by rfl) hdr ?_ ?_
      rotate_left 1
      ·(go_simp; try with_reducible rfl)
      refine held_no (i := 10) (a' := ?_) rfl (by kernel_rfl) (by kernel_rfl) (by kernel_rfl) (fun _ _ _ h => h) (by rfl) hdr ?_ ?_
      rotate_left 1
      ·(go_simp; try with_reducible rfl)
      refine held_no (i := 11) (a' := ?_) rfl (by kernel_rfl) (by kernel_rfl) (by kernel_rfl) (fun _ _ _ h => h) (by rfl) hdr ?_ ?_
      rotate_left 1
      ·(go_simp; try with_reducible rfl)
      refine rgT 12 hdr ?_
      refine held_ready (rs := [13]) (by kernel_rfl) (by simp) ?_
      refine AllHeld.cons rfl (fun KR hKR => ?_) ?_
      ·go_simp
       refine (need_yes 92 _).mono ?_
       rintro e w6 ⟨rfl, rfl⟩
       refine hKR _ _ hdr ?_
       clear hKR KR
       refine wpAnyH_done (by kernel_rfl) ?_ _
       go_wp2_with fail
       go_roundw
       case rel => exact ⟨0 + 1, some (sB x.1), by omega, by go_num, hbl5, HP2, HG3⟩
       case measure => simp [intOf]; omega
      exact AllHeld.nil
     ·obtain ⟨b9, o9, y, hA9, hb9, hy, hy32, hyf, haty⟩ := ents_look (HS.out.below hbl3) HM.out.symm (i := i - 1) (by omega)
      have hA9 := Option.some.inj hA9
      injection hA9 with e1 e2
      subst e1 e2
      have hp := HP.out.2 (i - 1) y (by omega) hy
      have i1 : (i : Int) - 1 = ((i - 1 : Nat) : Int) := by omega
      obtain ⟨i', hi'⟩ : ∃ i', i' = i - 1 := ⟨_, rfl⟩
      rw [← hi'] at i1 haty
      have iw : IntKind.i64.wrap ((i : Int) - 1) = (i' : Int) := by rw [i1]; exact IntWalk.i64_in _ (by omega)
      have i2 : (0 : Int) ≤ (i' : Int) := by omega
      have i3 : (i' : Int) < (n : Int) := by omega
      have e0 : ((i : Int) == 0) = false := by simp; omega
      have hcy : w4.cell? ⟨b1, o1 + i' * 35, none⟩ = some (.string y.1) := by have := haty 0 _ (entK_get hy32 _ _ _).1; simpa using this
      have HG3 := Lib.hid (show G = if (!(Op.bytesLess (sB y.1) (sB x.1))) = true then 92 else ordG (some (sB x.1)) (l.drop (i + 1)) by rw [HG2.out, hp]; rfl)
      have HP2 := Lib.hid (show (i + 1 = 0 → some (sB x.1) = none) ∧ ∀ (j : Nat) (y : EntT), i + 1 = j + 1 → l[j]? = some y → some (sB x.1) = some (sB y.1) from ⟨fun h => by omega, fun j y h1 h2 => by
       obtain rfl : j = i := by omega
       rw [HX.out] at h2; injection h2 with h2; rw [h2]⟩)
      have hlb : b1 < w4.heap.size := hb9
      clear HG2 HP HAT2 hb2 hcx hb3 hbl2 hbl HN HK i1 hi' haty hy hyf hy32 hp hb9 hi0
      go_upto_region 5 with fail
      cases hls : Op.bytesLess (sB y.1) (sB x.1) with
      | true =>
       have e3 : Op.bytesLess y.1.toList x.1.toList = true := by rw [Lib.toList_data, Lib.toList_data]; exact hls
       have HG4 := Lib.hid (show G = ordG (some (sB x.1)) (l.drop (i + 1)) by rw [HG3.out, hls]; rfl)
       clear hls HG3
       refine wp_region_held (S := fun w => Below w4.heap.size w4 w) (by kernel_rfl) ?_
       change wpAnyH _ _ _ _ _ _ _ _ (World.drew _)
       refine rgT 0 hdr ?_
       refine rgT 1 hdr ?_
       refine rgT 2 hdr ?_
       refine rgT 3 hdr ?_
       refine rgT 4 hdr ?_
       refine rgT 5 hdr ?_
       refine rgT 6 hdr ?_
       refine rgT 7 hdr ?_
       refine rgU 8 (v := ?_) (a' := ?_) hdr ?_ ?_ ?_
       rotate_left 2
       ·(intro w hS; have t := (hS.cell (p := ⟨b1, o1 + i' * 35, none⟩) hlb).trans hcy; go_simp; try with_reducible rfl)
       ·(go_simp; try with_reducible rfl)
       refine rgT 9 hdr ?_
       refine rgU 10 (v := ?_) (a' := ?_) hdr ?_ ?_ ?_
       rotate_left 2
       ·(intro w hS; have t := (hS.cell (p := ⟨gx, 0, none⟩) hgx3).trans hcx3; go_simp; try with_reducible rfl)
       ·(go_simp; try with_reducible rfl)
       refine rgT 11 hdr ?_
       refine rgT 12 hdr ?_
       refine held_ready (rs := [13]) (by kernel_rfl) (by simp) ?_
       refine AllHeld.cons rfl (fun KR hKR => ?_) ?_
       ·go_simp
        refine (need_yes 92 _).mono ?_
        rintro e w6 ⟨rfl, rfl⟩
        refine hKR _ _ hdr ?_
        clear hKR KR
        refine wpAnyH_done (by kernel_rfl) ?_ _
        go_wp2_with fail
        go_roundw
        case rel => exact ⟨i + 1, some (sB x.1), by omega, by go_num, hbl5, HP2, HG4⟩
        case measure => simp [intOf]; omega
       exact AllHeld.nil
      | false =>
       have e3 : Op.bytesLess y.1.toList x.1.toList = false := by rw [Lib.toList_data, Lib.toList_data]; exact hls
       have HG4 := Lib.hid (show G = 92 by rw [HG3.out, hls]; rfl)
       clear hls HG3
       refine wp_region_held (S := fun w => Below w4.heap.size w4 w) (by kernel_rfl) ?_
       change wpAnyH _ _ _ _ _ _ _ _ (World.drew _)
       refine rgT 0 hdr ?_
       refine rgT 1 hdr ?_
       refine rgT 2 hdr ?_
       refine rgT 3 hdr ?_
       refine rgT 4 hdr ?_
       refine rgT 5 hdr ?_
       refine rgT 6 hdr ?_
       refine rgT 7 hdr ?_
       refine rgU 8 (v := ?_) (a' := ?_) hdr ?_ ?_ ?_
       rotate_left 2
       ·(intro w hS; have t := (hS.cell (p := ⟨b1, o1 + i' * 35, none⟩) hlb).trans hcy; go_simp; try with_reducible rfl)
       ·(go_simp; try with_reducible rfl)
       refine rgT 9 hdr ?_
       refine rgU 10 (v := ?_) (a' := ?_) hdr ?_ ?_ ?_
       rotate_left 2
       ·(intro w hS; have t := (hS.cell (p := ⟨gx, 0, none⟩) hgx3).trans hcx3; go_simp; try with_reducible rfl)
       ·(go_simp; try with_reducible rfl)
       refine rgT 11 hdr ?_
       refine rgT 12 hdr ?_
       refine held_ready (rs := [13]) (by kernel_rfl) (by simp) ?_
       refine AllHeld.cons rfl (fun KR hKR => ?_) ?_
       ·go_simp
        refine (need_no 92 _).mono ?_
        rintro e w6 ⟨rfl, rfl⟩
        exact ⟨rfl, hbl5, by rw [HG4.out]; rfl⟩
       exact AllHeld.nil
   ·have hiI : ¬ (i : Int) < (n : Int) := by omega
    have hg := Lib.hid (show G = 0 by
     rw [HR.out, List.drop_of_length_le (by rw [← HM.out]; omega)]; rfl)
    go_wp2_with fail
    go_end0
    exact ⟨hbl, by rw [hg.out, if_pos rfl]⟩
 ·have hI : ¬ (n : Int) ≤ 1024 := by omega
  have HG2 := Lib.hid (show G = 2 by rw [hG]; unfold orderedG; rw [if_pos (by omega)])
  clear hG hs hn
  go_enter Tryz.func42, Tryz.ntmps42
  go_wp2_with fail
  refine (need_no 2 _).mono ?_
  rintro e w' ⟨rfl, rfl⟩
  exact ⟨rfl, Below.refl _ _, by rw [HG2.out]; rfl⟩
end Go.Proofs.YtgmbkcjihgphmaaGreat
