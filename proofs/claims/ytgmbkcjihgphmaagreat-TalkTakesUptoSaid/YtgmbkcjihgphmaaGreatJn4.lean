/- Contracts and laws for what the statement reaches, joined: ObjIds, Stb, IdEq, TalkMap, TalkMapSet, TalkRec, TalkShelf. -/
import Derived.Test.YtgmbkcjihgphmaaGreatJn1
import Derived.Test.YtgmbkcjihgphmaaGreatJn2
import Derived.Test.YtgmbkcjihgphmaaGreatJn3
import Derived.ChangeMaps4
import Derived.Deep.CutBlock
import Derived.Deep.DeepCutAuto
import Derived.DeepKeys4
import Derived.Laws.CopyRow
import Derived.Laws.ResultCell
import Derived.MapKept
import Derived.Maps.Keyed
import Derived.Stop.BytesEq
/- Ids in memory, as the object layer uses them. -/
set_option linter.unusedVariables false
namespace Go.Proofs.YtgmbkcjihgphmaaGreat
open Go.RowKit
abbrev oidR : Rd (List UInt8) := arrR 32 byteR
theorem oid_each {w : World} {av : Av} {cs : List Value} {l : List UInt8} (h : Each (byteR.R w av) cs l) : cs = bytesV l := by
 induction h with
 | nil => rfl
 | cons h1 _ ih => rw [ih, show _ = _ from h1]; rfl
theorem oid_cells {w : World} {av : Av} {cs : List Value} {l : List UInt8} (h : oidR.R w av cs l) : cs = bytesV l ∧ l.length = 32 := ⟨oid_each h.2, h.1⟩
theorem oid_info : (Tryz.prog.info? 33).map (·.size) = some 32 := by kernel_rfl
theorem oid_size {l : List UInt8} (h : l.length = 32) : (Tryz.prog.info? 33).map (·.size) = some (bytesV l).toArray.size := by
 rw [show (bytesV l).toArray.size = 32 by simp [bytesV, h]]; exact oid_info
theorem oid_one (l : List UInt8) : (bytesV l).toArray.all (·.oneCell') = true := by simpa using bytesV_one l
theorem oid_of (w : World) (av : Av) {l : List UInt8} (h : l.length = 32) : oidR.R w av (bytesV l) l := by
 refine ⟨h, ?_⟩
 clear h
 induction l with
 | nil => exact .nil
 | cons x l ih => exact .cons (cs := [.int .u8 (x.toNat : Int)]) rfl ih
theorem oids_look {w : World} {av : Av} {A : Option Addr} {os : List (List UInt8)} {n i : Nat} (h : SlOf oidR w av A os) (hl : os.length = n) (hi : i < n) :
  ∃ b off o, A = some ⟨b, off, none⟩ ∧ b < w.heap.size ∧ os[i]? = some o ∧ o.length = 32 ∧ At w ⟨b, off + i * 32, none⟩ (bytesV o).toArray := by
 obtain ⟨b, off, cs, o, e, hb, hx, hr, hc⟩ := h.at hl hi
 obtain ⟨rfl, h32⟩ := oid_cells hr
 exact ⟨b, off, o, e, hb, hx, h32, hc⟩
theorem oids_32 {w : World} {av : Av} {A : Option Addr} {os : List (List UInt8)} (h : SlOf oidR w av A os) : ∀ o ∈ os, o.length = 32 := fun o ho => by
 obtain ⟨j, hj⟩ := List.mem_iff_getElem?.1 ho
 have hjl := (List.getElem?_eq_some_iff.1 hj).1
 obtain ⟨_, _, o', _, _, h1, h2, _⟩ := oids_look h rfl (i := j) hjl
 rw [hj] at h1; injection h1 with h1; rw [h1]; exact h2
/-- an id's cells as a slice of bytes -/
theorem sl_at {w : World} {b off : Nat} {l : List UInt8} (h : At w ⟨b, off, none⟩ (bytesV l).toArray) (hb : b < w.heap.size) : Sl w 1 (some ⟨b, off, none⟩) l.length (bytesV l) := by
 refine ⟨by rw [bytesV_length, Nat.mul_one], fun _ => ⟨b, off, rfl, hb, fun j u hu => ?_⟩⟩
 exact h j u (by simpa using hu)
theorem rise_step {ps : List (List UInt8)} {i : Nat} {p q : List UInt8} (hq : ps[i]? = some q) : riseG (some p) (ps.drop i) = (Op.bytesLess p q && riseG (some q) (ps.drop (i + 1))) := by
 obtain ⟨hl, he⟩ := List.getElem?_eq_some_iff.1 hq
 rw [List.drop_eq_getElem_cons hl, he, riseG]
set_option maxRecDepth 100000 in
set_option maxHeartbeats 4000000 in
theorem rising_any (A : Option Addr) (m c : Nat) (ps : List (List UInt8)) (W0 : World) (hs : SlOf oidR W0 no A ps) (hm : m = ps.length) (hml : m ≤ 1000000000) :
  Calls Tryz.prog 38 #[.slice A m c] W0 fun e w' => e = .returned (.bool (risingG ps)) ∧ Below W0.heap.size W0 w' := by
 obtain ⟨G, hG⟩ : ∃ G, G = risingG ps := ⟨_, rfl⟩
 rw [← hG]
 have HS := Lib.hid hs
 have HM := Lib.hid hm
 by_cases h2 : m < 2
 ·have hI : ¬ (1 : Int) < (m : Int) := by omega
  have hg := Lib.hid (show G = true by
   rw [hG]
   match ps, hm with
   | [], _ => rfl
   | [x], _ => rfl
   | x :: y :: r, hm => simp at hm; omega)
  have hN : ¬ 1 < m := by omega
  clear hG hs hm h2
  go_enter Tryz.func38, Tryz.ntmps38
  go_wp2_with fail
  go_loopw [3] (fun s3 wr => s3 = .int .i64 1 ∧ Below W0.heap.size W0 wr) (fun s3 wr => 0)
  case atStart => exact ⟨rfl, Below.refl _ _⟩
  case round =>
   obtain ⟨rfl, hbl⟩ := hrel
   go_wp2_with fail
   go_ret
   exact ⟨by rw [hg.out]; rfl, hbl⟩
 ·obtain ⟨p0, hp0⟩ : ∃ p0, ps[0]? = some p0 := ⟨ps[0]'(by omega), List.getElem?_eq_getElem (by omega)⟩
  have hG0 : G = riseG (some p0) (ps.drop 1) := by
   rw [hG]
   cases ps with
   | nil => simp at hp0
   | cons x r => simp at hp0; subst hp0; rfl
  have HG0 := Lib.hid hG0
  have HP0 := Lib.hid hp0
  clear hG hs hm hG0 hp0
  go_enter Tryz.func38, Tryz.ntmps38
  go_wp2_with fail
  go_loopw [3] (fun s3 wr => ∃ (i : Nat) (p : List UInt8), 1 ≤ i ∧ i ≤ m ∧ s3 = .int .i64 (i : Int) ∧ Below W0.heap.size W0 wr ∧ Hid (ps[i - 1]? = some p) ∧ Hid (G = riseG (some p) (ps.drop i))) (fun s3 wr => m - (intOf s3).toNat)
  case atStart => exact ⟨1, p0, by omega, by omega, rfl, Below.refl _ _, HP0, HG0⟩
  case round =>
   obtain ⟨i, p, hi1, him, rfl, hbl, HP, HR⟩ := hrel
   by_cases hi : i < m
   ·have hiI : (i : Int) < (m : Int) := by omega
    obtain ⟨b1, o1, x1, hA, hb1, hx1, h321, hat1⟩ := oids_look (HS.out.below hbl) HM.out.symm (i := i - 1) (by omega)
    obtain ⟨b2, o2, x2, hA2, hb2, hx2, h322, hat2⟩ := oids_look (HS.out.below hbl) HM.out.symm hi
    rw [hA] at hA2
    have e := Option.some.inj hA2
    injection e with e1 e2
    subst e1 e2 hA
    rw [HP.out] at hx1
    obtain rfl := Option.some.inj hx1
    have hr := HR.out
    rw [rise_step hx2] at hr
    have HRR := Lib.hid hr
    have HX2 := Lib.hid hx2
    have i1 : (i : Int) - 1 = ((i - 1 : Nat) : Int) := by omega
    obtain ⟨i', hi'⟩ : ∃ i', i' = i - 1 := ⟨_, rfl⟩
    rw [← hi'] at i1 hat1
    have iw : IntKind.i64.wrap ((i : Int) - 1) = (i' : Int) := by rw [i1]; exact IntWalk.i64_in _ (by omega)
    have i2 : (0 : Int) ≤ (i' : Int) := by omega
    have i3 : (i' : Int) < (m : Int) := by omega
    have HS1 := Lib.hid (by have := sl_at hat1 hb1; rwa [h321] at this : Sl wr 1 (some ⟨b1, o1 + i' * 32, none⟩) 32 (bytesV p))
    have HS2 := Lib.hid (by have := sl_at hat2 hb1; rwa [h322] at this : Sl wr 1 (some ⟨b1, o1 + i * 32, none⟩) 32 (bytesV x2))
    have HC := Lib.hid (compare_any (some ⟨b1, o1 + i' * 32, none⟩) 32 32 p (some ⟨b1, o1 + i * 32, none⟩) 32 32 x2 wr.drew (HS1.out.below (Same.below ⟨1, rfl⟩ _)) (HS2.out.below (Same.below ⟨1, rfl⟩ _)) (by omega) (by omega))
    clear hr hx2 hat1 hat2 h321 h322 HP HR hA2 hb2 i1 hi'
    go_upto_region 4 with fail
    have hdr : Below wr.heap.size wr wr.drew := Same.below ⟨1, rfl⟩ _
    refine wp_region_held (S := fun w => Below wr.heap.size wr w) (by kernel_rfl) ?_
    change wpAnyH _ _ _ _ _ _ _ _ (World.drew _)
    refine rgT 0 (Same.below ⟨1, rfl⟩ _) ?_
    refine rgT 1 (Same.below ⟨1, rfl⟩ _) ?_
    refine rgT 2 (Same.below ⟨1, rfl⟩ _) ?_
    refine rgT 3 (Same.below ⟨1, rfl⟩ _) ?_
    refine rgT 4 (Same.below ⟨1, rfl⟩ _) ?_
    refine rgT 5 (Same.below ⟨1, rfl⟩ _) ?_
    refine rgT 6 (Same.below ⟨1, rfl⟩ _) ?_
    refine rgT 7 (Same.below ⟨1, rfl⟩ _) ?_
    refine rgT 8 (Same.below ⟨1, rfl⟩ _) ?_
    refine held_ready (rs := [9]) (by kernel_rfl) (by simp) ?_
    refine AllHeld.cons rfl (fun KR hKR => ?_) ?_
    ·go_simp
     refine HC.out.mono ?_
     rintro e w5 ⟨k, rfl, hk, rfl⟩
     have HK := Lib.hid hk
     clear hk
     refine hKR _ _ hdr ?_
     clear hKR KR
     refine rgT 10 hdr ?_
     refine wpAnyH_done (by kernel_rfl) ?_ _
     by_cases hk0 : k < 0
     ·have hl : Op.bytesLess p x2 = true := by rw [← HK.out]; simpa using hk0
      have hk1 : ¬ (0 : Int) ≤ k := by omega
      have HG2 := Lib.hid (show G = riseG (some x2) (ps.drop (i + 1)) by rw [HRR.out, hl]; simp)
      clear hl hk0
      go_wp2_with fail
      go_roundw
      case rel => exact ⟨i + 1, x2, by omega, by omega, by go_num, hbl.trans (hdr.mono hbl.size), by simpa using HX2, HG2⟩
      case measure => simp [intOf]; omega
     ·have hl : Op.bytesLess p x2 = false := by rw [← HK.out]; simpa using hk0
      have hk1 : (0 : Int) ≤ k := by omega
      have HG2 := Lib.hid (show G = false by rw [HRR.out, hl]; simp)
      clear hl hk0
      go_wp2_with fail
      go_ret
      exact ⟨by rw [HG2.out]; rfl, hbl.trans (hdr.mono hbl.size)⟩
    exact AllHeld.nil
   ·have hiI : ¬ (i : Int) < (m : Int) := by omega
    have hg := Lib.hid (show G = true by
     rw [HR.out, List.drop_of_length_le (by rw [← HM.out]; omega)]; rfl)
    go_wp2_with fail
    go_ret
    exact ⟨by rw [hg.out]; rfl, hbl⟩
end Go.Proofs.YtgmbkcjihgphmaaGreat
/- '[]byte(s)' behind a name; two results, the first out of a row. -/
namespace Go.Proofs.YtgmbkcjihgphmaaGreat
open Go.RowKit
abbrev zID : Array Value := (bytesV (List.replicate 32 0)).toArray
theorem id_size {l : List UInt8} (h : l.length = 32) : (Tryz.prog.info? 33).map (·.size) = some (bytesV l).toArray.size := by
 have h2 : (Tryz.prog.info? 33).map (·.size) = some 32 := by kernel_rfl
 have h3 : (bytesV l).toArray.size = 32 := by simp [bytesV, h]
 rw [h3]; exact h2
theorem id_one (l : List UInt8) : (bytesV l).toArray.all (·.oneCell') = true := by
 rw [Array.all_eq_true']
 intro v hv
 exact bytesV_one l v (by simpa using hv)
/-- '[]byte(s)' behind a name -/
noncomputable def stb (w : World) (s : ByteArray) : Result Value := (convert 9 38 (.string s)).run Tryz.prog w
theorem stb_eq (w : World) (s : ByteArray) : (convert 9 38 (.string s)).run Tryz.prog w = stb w s := rfl
/-- the two results, the first out of a row -/
theorem results_row_tmp {P : Program} {fn : Func} {p u : Tmp} {ty : TypeId} (h : fn.results = #[.cell p ty, .tmp u]) (tmps : Array Value) (w : World) (g : Nat) (t : TypeId) (cs : Array Value) (fr : Nat × Nat) (d : TypeDesc)
  (hp : tmps.getD p undef = .pointer (some ⟨g, 0, none⟩)) (hg : w.heap[g]? = some (.cells cs t fr))
  (hu : P.underlying ty = some d) (hd : (match d with | .struct _ | .array _ _ => true | _ => false) = true) (hi : (P.info? ty).map (·.size) = some cs.size) :
  (results fn tmps).run P w = .ok (.tuple #[.agg cs, tmps.getD u undef]) w := by
 rw [results_cell_tmp h]
 have hp' : tmps[p]?.getD undef = .pointer (some ⟨g, 0, none⟩) := by simpa using hp
 simp [hp', asAddr, run_loadVar_row w g t ty cs fr d hg hu hd hi, Result.andThen]
end Go.Proofs.YtgmbkcjihgphmaaGreat
/- Ids (arrays of 32 bytes): loaded whole, compared. -/
namespace Go.Proofs.YtgmbkcjihgphmaaGreat
open Go.RowKit
theorem bytesV_cell (l : List UInt8) : (bytesV l).toArray = (l.map Extern.Stop.cell).toArray := rfl
/-- two ids compared, behind a name ('attribute [local go_sem ↓] eqlId_eq neqId_eq') -/
noncomputable def eqlId (w : World) (x y : Array Value) : Result Value := (binOp .eql 33 (.agg x) (.agg y)).run Tryz.prog w
noncomputable def neqId (w : World) (x y : Array Value) : Result Value := (binOp .neq 33 (.agg x) (.agg y)).run Tryz.prog w
theorem eqlId_eq (w : World) (x y : Array Value) : (binOp .eql 33 (.agg x) (.agg y)).run Tryz.prog w = eqlId w x y := rfl
theorem neqId_eq (w : World) (x y : Array Value) : (binOp .neq 33 (.agg x) (.agg y)).run Tryz.prog w = neqId w x y := rfl
theorem u8_sizeOf (w : World) : (sizeOf 5).run Tryz.prog w = .ok 1 w := by
 have h : (Tryz.prog.info? 5).map (·.size) = some 1 := by kernel_rfl
 cases hq : Tryz.prog.info? 5 with
 | none => simp [hq] at h
 | some i =>
  have h1 : i.size = 1 := by simpa [hq] using h
  simp [sizeOf, typeInfo, hq, h1]
theorem eqlId_of {x y : List UInt8} (hx : x.length = 32) (hy : y.length = 32) (w : World) : eqlId w (bytesV x).toArray (bytesV y).toArray = .ok (.bool (x == y)) w :=
 run_eql_bytes (P := Tryz.prog) w 33 5 32 Tryz.underlying33 Tryz.underlying5 u8_sizeOf x y hx hy
theorem neqId_of {x y : List UInt8} (hx : x.length = 32) (hy : y.length = 32) (w : World) : neqId w (bytesV x).toArray (bytesV y).toArray = .ok (.bool (!(x == y))) w := by
 unfold neqId
 rw [run_neq_struct, bytesV_cell, bytesV_cell, run_equalIn_bytes w 9998 33 5 32 Tryz.underlying33 Tryz.underlying5 u8_sizeOf x y hx hy]
 rfl
end Go.Proofs.YtgmbkcjihgphmaaGreat
/- maps by ids: what is found in them, what a store leaves. -/
set_option linter.unusedSimpArgs false
namespace Go.Proofs.YtgmbkcjihgphmaaGreat
open Go.RowKit Go.MapKept
open Go.Maps (Keyed)
theorem idLaw : Keyed Tryz.prog 33 := Keyed.of_law (deep_law_laid (show laidOutB Tryz.prog = true by kernel_rfl) (m := 2) (by omega) (of_decide_eq_true (by kernel_rfl)) (by kernel_rfl) (by rw [Tryz.underlying33]))
theorem mapM_all {α β : Type} (f : α → Option β) (g : α → β) : ∀ l : List α, (∀ x ∈ l, f x = some (g x)) → l.mapM f = some (l.map g)
 | [], _ => rfl
 | x :: r, h => by
  rw [List.mapM_cons, h x (by simp), mapM_all f g r fun y hy => h y (by simp [hy])]; rfl
theorem id_key {l : List UInt8} (h : l.length = 32) : ∃ k, keyOf Tryz.prog 33 (.agg (bytesV l).toArray) = some k := by
 have hc : Tryz.prog.cellsOf 33 = 32 := by kernel_rfl
 have hc1 : Tryz.prog.cellsOf 5 = 1 := by kernel_rfl
 have hk : Tryz.prog.keyType 33 = true := by kernel_rfl
 have hn : ∃ n, Tryz.prog.types.size = n + 1 := ⟨Tryz.prog.types.size - 1, by have : 0 < Tryz.prog.types.size := of_decide_eq_true (by kernel_rfl); omega⟩
 obtain ⟨n, hn⟩ := hn
 have hlen : (bytesV l).length = 32 := by rw [bytesV_length]; exact h
 unfold keyOf
 rw [Tryz.underlying33]
 simp only []
 have hf : (Value.agg (bytesV l).toArray).formed Tryz.prog 33 = true := by
  simp [Value.formed, Tryz.underlying33, hc, hlen]
 rw [hk, hf, hn]
 have hl : Tryz.prog.keyLits (n + 1 + 1) 33 (Value.agg (bytesV l).toArray).cells.toList = some ((List.range 32).map fun i => [Lit.int .u8 ((l.getD i 0).toNat : Int)]).flatten := by
  unfold Program.keyLits
  simp only [Tryz.underlying33, Value.cells]
  rw [if_pos (by rw [hc]; simpa using hlen)]
  rw [mapM_all _ (fun i => [Lit.int .u8 ((l.getD i 0).toNat : Int)]) (List.range 32) ?_]
  ·rfl
  ·intro i hi
   have hi : i < 32 := List.mem_range.1 hi
   have e : (((bytesV l).toArray.toList.drop (i * Tryz.prog.cellsOf 5)).take (Tryz.prog.cellsOf 5)) = [.int .u8 ((l.getD i 0).toNat : Int)] := by
    rw [hc1, Nat.mul_one, List.toList_toArray]
    have h2 : (bytesV l)[i]? = some (.int .u8 ((l.getD i 0).toNat : Int)) := by
     unfold bytesV
     rw [List.getElem?_map, List.getElem?_eq_getElem (by omega)]
     simp [List.getD, List.getElem?_eq_getElem (show i < l.length by omega)]
    obtain ⟨h3, h4⟩ := List.getElem?_eq_some_iff.1 h2
    rw [List.drop_eq_getElem_cons h3, h4]; rfl
   rw [e]
   unfold Program.keyLits
   rw [Tryz.underlying5]
   simp only []
   have hlt := (l.getD i 0).toNat_lt
   have hw : (Lit.int .u8 ((l.getD i 0).toNat : Int)).wf = true := by
    have e1 : IntKind.u8.min = 0 := rfl
    have e2 : IntKind.u8.max = 255 := rfl
    generalize (l.getD i 0).toNat = n at *
    simp only [Lit.wf, e1, e2]
    simp
    omega
   generalize (l.getD i 0).toNat = n at *
   simp [hw]
 rw [hl]
 exact ⟨_, rfl⟩
abbrev idV (l : List UInt8) : Value := .agg (bytesV l).toArray
theorem bytesV_inj {a b : List UInt8} (h : bytesV a = bytesV b) : a = b := by
 unfold bytesV at h
 induction a generalizing b with
 | nil => cases b with
  | nil => rfl
  | cons y s => cases h
 | cons x r ih =>
  cases b with
  | nil => cases h
  | cons y s =>
   injection h with h1 h2
   injection h1 with _ h1
   rw [ih h2, show x = y from UInt8.toNat_inj.1 (by omega)]
theorem idV_inj {a b : List UInt8} (h : idV a = idV b) : a = b := by
 injection h with h
 exact bytesV_inj (by simpa using h)
/-- the entries of a map by ids, in the order in which they came -/
abbrev IM := List (List UInt8 × Value)
def IM.get (m : IM) (k : List UInt8) : Option Value := (m.find? (fun p => p.1 == k)).map (·.2)
def IM.set (m : IM) (k : List UInt8) (v : Value) : IM := if m.any (fun p => p.1 == k) then m.map (fun p => if p.1 == k then (p.1, v) else p) else m ++ [(k, v)]
structure MapEs (es : Array MapEntry) (clock : Nat) (m : IM) : Prop where
 ents : es.toList.map (fun e => (e.key, e.val)) = m.map (fun p => (idV p.1, p.2))
 ids : ∀ p ∈ m, p.1.length = 32
 nodup : m.Pairwise (fun p q => p.1 ≠ q.1)
 born : ∀ e ∈ es.toList, e.born < clock
 apart : es.toList.Pairwise (fun a b => a.born ≠ b.born)
/-- block b holds the map m -/
def MapW (w : World) (b : Nat) (m : IM) : Prop := ∃ es clock, w.heap[b]? = some (.map es clock) ∧ MapEs es clock m
theorem MapEs.len {es : Array MapEntry} {clock : Nat} {m : IM} (h : MapEs es clock m) : es.toList.length = m.length := by
 have := congrArg List.length h.ents; simpa using this
theorem MapEs.at_ {es : Array MapEntry} {clock : Nat} {m : IM} (h : MapEs es clock m) {j : Nat} {e : MapEntry} (he : es.toList[j]? = some e) : ∃ p, m[j]? = some p ∧ e.key = idV p.1 ∧ e.val = p.2 := by
 have h1 : (es.toList.map (fun e => (e.key, e.val)))[j]? = some (e.key, e.val) := by rw [List.getElem?_map, he]; rfl
 rw [h.ents, List.getElem?_map] at h1
 cases hm : m[j]? with
 | none => rw [hm] at h1; cases h1
 | some p =>
  rw [hm] at h1
  have h1 := Option.some.inj h1
  injection h1 with h2 h3
  exact ⟨p, rfl, h2.symm, h3.symm⟩
theorem MapEs.keys {es : Array MapEntry} {clock : Nat} {m : IM} (h : MapEs es clock m) : ∀ e ∈ es.toList, ∃ l, keyOf Tryz.prog 33 e.key = some l := fun e he => by
 obtain ⟨j, hj⟩ := List.getElem?_of_mem he
 obtain ⟨p, hp, hk, _⟩ := h.at_ hj
 rw [hk]
 exact id_key (h.ids p (List.mem_of_getElem? hp))
/-- what findKey says -/
theorem MapEs.find {es : Array MapEntry} {clock : Nat} {m : IM} (h : MapEs es clock m) (w : World) {k : List UInt8} (hk : k.length = 32) :
  ((Instr.findKey 33 (idV k) es.toList).run Tryz.prog w = .ok none w ∧ ∀ p ∈ m, p.1 ≠ k) ∨ ∃ j p, (Instr.findKey 33 (idV k) es.toList).run Tryz.prog w = .ok (some (j, p.2)) w ∧ m[j]? = some p ∧ p.1 = k ∧ (∃ e, es.toList[j]? = some e ∧ e.key = idV k) := by
 obtain ⟨lk, hlk⟩ := id_key hk
 rcases idLaw.find w hlk es.toList h.keys with ⟨h1, h2⟩ | ⟨j, e, h1, h2, h3⟩
 ·left
  refine ⟨h1, fun p hp e => ?_⟩
  obtain ⟨j, hj⟩ := List.getElem?_of_mem hp
  have hlt : j < es.toList.length := by rw [h.len]; exact (List.getElem?_eq_some_iff.1 hj).1
  obtain ⟨q, hq, hk1, _⟩ := h.at_ (List.getElem?_eq_getElem hlt)
  rw [hj] at hq
  have hq := Option.some.inj hq
  subst hq
  exact h2 _ (List.getElem_mem hlt) (by rw [hk1, e])
 ·right
  obtain ⟨p, hp, hk1, hv⟩ := h.at_ h2
  refine ⟨j, p, by rw [h1, hv], hp, idV_inj (hk1.symm.trans h3), e, h2, h3⟩
theorem IM.get_none {m : IM} {k : List UInt8} (h : ∀ p ∈ m, p.1 ≠ k) : m.get k = none := by
 unfold IM.get
 rw [List.find?_eq_none.2 (fun p hp => by simpa using h p hp)]; rfl
theorem IM.get_some {m : IM} {k : List UInt8} {j : Nat} {p : List UInt8 × Value} (hn : m.Pairwise (fun p q => p.1 ≠ q.1)) (h : m[j]? = some p) (hk : p.1 = k) : m.get k = some p.2 := by
 unfold IM.get
 have : m.find? (fun p => p.1 == k) = some p := by
  induction m generalizing j with
  | nil => simp at h
  | cons q r ih =>
   cases j with
   | zero =>
    simp at h; subst h
    rw [List.find?_cons_of_pos (by simpa using hk)]
   | succ j =>
    simp at h
    have hq : q.1 ≠ k := fun e => (List.pairwise_cons.1 hn).1 p (List.mem_of_getElem? h) (e.trans hk.symm)
    rw [List.find?_cons_of_neg (by simpa using hq)]
    exact ih (List.pairwise_cons.1 hn).2 h
 rw [this]; rfl
section
variable {w : World} {b : Nat} {m : IM} {k : List UInt8}
theorem MapW.lt (h : MapW w b m) : b < w.heap.size := by obtain ⟨es, cl, h, _⟩ := h; exact (Array.getElem?_eq_some_iff.1 h).1
theorem MapW.same {w' : World} (h : MapW w b m) (he : w'.heap[b]? = w.heap[b]?) : MapW w' b m := by obtain ⟨es, cl, h1, h2⟩ := h; exact ⟨es, cl, he.trans h1, h2⟩
theorem MapW.below {w' : World} (h : MapW w b m) (hb : Below w.heap.size w w') : MapW w' b m := h.same (hb.block b h.lt)
theorem MapW.no_cell (h : MapW w b m) (i : Nat) (z : Option Nat) : w.cell? ⟨b, i, z⟩ = none := by
 obtain ⟨es, cl, h1, _⟩ := h
 simp [World.cell?, h1]
theorem MapW.nodup (h : MapW w b m) : m.Pairwise (fun p q => p.1 ≠ q.1) := by obtain ⟨es, cl, _, h⟩ := h; exact h.nodup
/-- a look-up -/
theorem MapW.lookup {t e : TypeId} (h : MapW w b m) (hk : k.length = 32) (ht : Tryz.prog.underlying t = some (.map 33 e)) {z : Value} (hz : (zeroValue e).run Tryz.prog w = .ok z w) (c : Bool) :
  (Instr.lookup t (.map (some b)) (idV k) c).run Tryz.prog w = .ok (if c then .tuple #[(m.get k).getD z, .bool (m.get k).isSome] else (m.get k).getD z) w := by
 obtain ⟨es, clock, hb, H⟩ := h
 obtain ⟨lk, hlk⟩ := id_key hk
 have hch := fun em => idLaw.check w em hlk
 rcases H.find w hk with ⟨h1, h2⟩ | ⟨j, p, h1, h2, h3, _⟩
 ·rw [IM.get_none h2]
  cases c <;> simp [Instr.lookup, run_underlying ht, MapKept.run_getObj_map hb, hch, h1, hz, Result.andThen]
 ·rw [IM.get_some H.nodup h2 h3]
  cases c <;> simp [Instr.lookup, run_underlying ht, MapKept.run_getObj_map hb, hch, h1, Result.andThen]
end
end Go.Proofs.YtgmbkcjihgphmaaGreat
/- maps by ids: stores. -/
namespace Go.Proofs.YtgmbkcjihgphmaaGreat
open Go.RowKit Go.MapKept
open Go.ChangeMaps (setBlock heap_setBlock_same heap_setBlock_other)
theorem IM.set_at {m : IM} {k : List UInt8} {v : Value} {j : Nat} {p : List UInt8 × Value} (hn : m.Pairwise (fun p q => p.1 ≠ q.1)) (h : m[j]? = some p) (hk : p.1 = k) : m.set k v = m.modify j (fun p => (p.1, v)) := by
 unfold IM.set
 rw [if_pos (List.any_eq_true.2 ⟨p, List.mem_of_getElem? h, by simpa using hk⟩)]
 apply List.ext_getElem?
 intro i
 rw [List.getElem?_map, List.getElem?_modify]
 cases hi : m[i]? with
 | none => rfl
 | some q =>
  by_cases hij : j = i
  ·subst hij
   rw [hi] at h
   cases h
   simp [hk]
  ·have hne : q.1 ≠ k := by
    obtain ⟨h1, h2⟩ := List.getElem?_eq_some_iff.1 hi
    obtain ⟨h3, h4⟩ := List.getElem?_eq_some_iff.1 h
    have hp := List.pairwise_iff_getElem.1 hn
    rcases Nat.lt_or_gt_of_ne hij with hl | hl
    ·have := hp j i h3 h1 hl
     rw [h2, h4, hk] at this
     exact fun e => this e.symm
    ·have := hp i j h1 h3 hl
     rw [h2, h4, hk] at this
     exact this
   simp [hne, hij]
theorem IM.set_new {m : IM} {k : List UInt8} {v : Value} (h : ∀ p ∈ m, p.1 ≠ k) : m.set k v = m ++ [(k, v)] := by
 unfold IM.set
 rw [if_neg]
 intro e
 obtain ⟨p, hp, hk⟩ := List.any_eq_true.1 e
 exact h p hp (by simpa using hk)
section
variable {es : Array MapEntry} {clock : Nat} {m : IM} {k : List UInt8} {v : Value}
theorem MapEs.push (h : MapEs es clock m) (hk : k.length = 32) (hn : ∀ p ∈ m, p.1 ≠ k) : MapEs (es.push { key := idV k, val := v, born := clock }) (clock + 1) (m ++ [(k, v)]) := by
 refine ⟨?_, ?_, ?_, ?_, ?_⟩
 ·rw [Array.toList_push, List.map_append, List.map_append, h.ents]; rfl
 ·intro p hp
  rcases List.mem_append.1 hp with h1 | h1
  ·exact h.ids p h1
  ·rw [List.mem_singleton.1 h1]; exact hk
 ·rw [List.pairwise_append]
  refine ⟨h.nodup, List.pairwise_singleton _ _, fun p hp q hq => ?_⟩
  rw [List.mem_singleton.1 hq]
  exact hn p hp
 ·intro e he
  rw [Array.toList_push] at he
  rcases List.mem_append.1 he with h1 | h1
  ·have := h.born e h1; omega
  ·rw [List.mem_singleton.1 h1]; exact Nat.lt_succ_self _
 ·rw [Array.toList_push, List.pairwise_append]
  refine ⟨h.apart, List.pairwise_singleton _ _, fun e he q hq => ?_⟩
  rw [List.mem_singleton.1 hq]
  have := h.born e he
  show e.born ≠ clock
  omega
theorem MapEs.modify (h : MapEs es clock m) {j : Nat} {p : List UInt8 × Value} (hp : m[j]? = some p) (f : MapEntry → MapEntry) (v' : Value) (hf : ∀ e, es.toList[j]? = some e → (f e).key = idV p.1 ∧ (f e).val = v' ∧ (f e).born = e.born) : MapEs (es.modify j f) clock (m.modify j (fun p => (p.1, v'))) := by
 have hb : ∀ i, (es.toList.modify j f)[i]?.map (fun x : MapEntry => x.born) = es.toList[i]?.map (fun x : MapEntry => x.born) := fun i => by
  rw [List.getElem?_modify]
  cases hi : es.toList[i]? with
  | none => rfl
  | some e =>
   by_cases hij : j = i
   ·subst hij; simp [(hf e hi).2.2]
   ·simp [hij]
 have hbm : (es.toList.modify j f).map (fun x : MapEntry => x.born) = es.toList.map (fun x : MapEntry => x.born) := by
  apply List.ext_getElem?
  intro i
  rw [List.getElem?_map, List.getElem?_map]
  exact hb i
 refine ⟨?_, ?_, ?_, ?_, ?_⟩
 ·rw [Array.toList_modify]
  apply List.ext_getElem?
  intro i
  rw [List.getElem?_map, List.getElem?_map, List.getElem?_modify, List.getElem?_modify]
  have he := congrArg (·[i]?) h.ents
  simp only [List.getElem?_map] at he
  cases hi : es.toList[i]? with
  | none =>
   rw [hi] at he
   cases hm : m[i]? with
   | none => rfl
   | some q => rw [hm] at he; cases he
  | some e =>
   rw [hi] at he
   cases hm : m[i]? with
   | none => rw [hm] at he; cases he
   | some q =>
    rw [hm] at he
    have he := Option.some.inj he
    by_cases hij : j = i
    ·subst hij
     rw [hm] at hp
     cases hp
     have := hf e hi
     simp [this.1, this.2.1]
    ·simp [hij]
     injection he with h1 h2
     exact ⟨h1, h2⟩
 ·intro q hq
  obtain ⟨i, hi⟩ := List.getElem?_of_mem hq
  rw [List.getElem?_modify] at hi
  cases hm : m[i]? with
  | none => rw [hm] at hi; cases hi
  | some r =>
   rw [hm] at hi
   have hr := h.ids r (List.mem_of_getElem? hm)
   have hi := Option.some.inj hi
   rw [← hi]
   split <;> exact hr
 ·have hkm : (m.modify j (fun p => (p.1, v'))).map (·.1) = m.map (·.1) := by
   apply List.ext_getElem?
   intro i
   rw [List.getElem?_map, List.getElem?_map, List.getElem?_modify]
   cases hm : m[i]? with
   | none => rfl
   | some r => by_cases hij : j = i <;> simp [hij]
  have h1 : (m.map (·.1)).Pairwise (fun a b => a ≠ b) := List.pairwise_map.2 h.nodup
  rw [← hkm] at h1
  exact List.pairwise_map.1 h1
 ·intro e he
  rw [Array.toList_modify] at he
  have hx : e.born ∈ es.toList.map (fun x : MapEntry => x.born) := by rw [← hbm]; exact List.mem_map_of_mem he
  obtain ⟨e', h1, h2⟩ := List.mem_map.1 hx
  rw [← h2]; exact h.born e' h1
 ·rw [Array.toList_modify]
  have h1 : (es.toList.map (fun x : MapEntry => x.born)).Pairwise (fun a b => a ≠ b) := List.pairwise_map.2 h.apart
  rw [← hbm] at h1
  exact List.pairwise_map.1 h1
end
theorem grown_setBlock {w : World} {b : Nat} {es : Array MapEntry} {cl : Nat} {o' : Obj} (hb : w.heap[b]? = some (.map es cl)) : w.grownBy (setBlock w b o') (some b) := ⟨rfl, rfl, rfl, by simp [setBlock], fun i _ hi => heap_setBlock_other hb _ (fun e => hi (by rw [e]))⟩
section
variable {w : World} {b : Nat} {m : IM} {k : List UInt8}
/-- 'm[k] = v' -/
theorem MapW.update {t e : TypeId} (h : MapW w b m) (hk : k.length = 32) (ht : Tryz.prog.underlying t = some (.map 33 e)) (v : Value) :
  ∃ w', (Instr.mapUpdate t (.map (some b)) (idV k) v).run Tryz.prog w = .ok () w' ∧ MapW w' b (m.set k v) ∧ w.grownBy w' (some b) ∧ w'.heap.size = w.heap.size := by
 obtain ⟨es, clock, hb, H⟩ := h
 obtain ⟨lk, hlk⟩ := id_key hk
 have hch := fun em => idLaw.check w em hlk
 have hst := idLaw.stays w hlk
 rcases H.find w hk with ⟨h1, h2⟩ | ⟨j, p, h1, h2, h3, en, h4, h5⟩
 ·refine ⟨setBlock w b (.map (es.push { key := idV k, val := v, born := clock }) (clock + 1)), ?_, ⟨_, _, heap_setBlock_same hb _, ?_⟩, grown_setBlock hb, by simp [setBlock]⟩
  ·simp [Instr.mapUpdate, run_underlying ht, MapKept.run_getObj_map hb, hch, h1, MapKept.run_setObj_map _ hb, Result.andThen, setBlock]
  ·rw [IM.set_new h2]; exact H.push hk h2
 ·have hj : es[j]? = some en := by simpa using h4
  refine ⟨setBlock w b (.map (es.modify j fun e => { e with key := idV k, val := v }) clock), ?_, ⟨_, _, heap_setBlock_same hb _, ?_⟩, grown_setBlock hb, by simp [setBlock]⟩
  ·simp [Instr.mapUpdate, run_underlying ht, MapKept.run_getObj_map hb, hch, h1, hj, h5, hst, MapKept.run_setObj_map _ hb, Result.andThen, setBlock]
  ·rw [IM.set_at H.nodup h2 h3]
   exact H.modify h2 _ v fun e he => ⟨by rw [h3], rfl, rfl⟩
/-- the entry of stamp s is that of k -/
def EntAt (w : World) (b s : Nat) (k : List UInt8) : Prop := ∃ es clock, w.heap[b]? = some (.map es clock) ∧ ∃ (j : Nat) (e : MapEntry), es.toList[j]? = some e ∧ e.born = s ∧ e.key = idV k
/-- 'm[k] op= ..', first half: the entry is there -/
theorem MapW.entry {t e : TypeId} (h : MapW w b m) (hk : k.length = 32) (ht : Tryz.prog.underlying t = some (.map 33 e)) {z : Value} (hz : (zeroValue e).run Tryz.prog w = .ok z w) :
  ∃ (w' : World) (s : Nat), (Instr.mapEntry t (.map (some b)) (idV k)).run Tryz.prog w = .ok (.tuple #[(m.get k).getD z, .int .i64 (s : Int)]) w' ∧ MapW w' b (m.set k ((m.get k).getD z)) ∧ EntAt w' b s k ∧ w.grownBy w' (some b) ∧ w'.heap.size = w.heap.size := by
 obtain ⟨es, clock, hb, H⟩ := h
 obtain ⟨lk, hlk⟩ := id_key hk
 have hch := fun em => idLaw.check w em hlk
 have hst := idLaw.stays w hlk
 rcases H.find w hk with ⟨h1, h2⟩ | ⟨j, p, h1, h2, h3, en, h4, h5⟩
 ·refine ⟨setBlock w b (.map (es.push { key := idV k, val := z, born := clock }) (clock + 1)), clock, ?_, ⟨_, _, heap_setBlock_same hb _, ?_⟩, ⟨_, _, heap_setBlock_same hb _, es.size, { key := idV k, val := z, born := clock }, ?_, rfl, rfl⟩, grown_setBlock hb, by simp [setBlock]⟩
  ·rw [IM.get_none h2]
   simp [Instr.mapEntry, run_underlying ht, MapKept.run_getObj_map hb, hch, h1, hz, MapKept.run_setObj_map _ hb, Result.andThen, setBlock, goInt]
  ·rw [IM.set_new h2, IM.get_none h2]; exact H.push hk h2
  ·rw [Array.toList_push, List.getElem?_append_right (by simp)]; simp
 ·have hj : es[j]? = some en := by simpa using h4
  refine ⟨setBlock w b (.map (es.modify j fun e => { e with key := idV k }) clock), en.born, ?_, ⟨_, _, heap_setBlock_same hb _, ?_⟩, ⟨_, _, heap_setBlock_same hb _, j, { en with key := idV k }, ?_, rfl, rfl⟩, grown_setBlock hb, by simp [setBlock]⟩
  ·rw [IM.get_some H.nodup h2 h3]
   simp [Instr.mapEntry, run_underlying ht, MapKept.run_getObj_map hb, hch, h1, hj, h5, hst, MapKept.run_setObj_map _ hb, Result.andThen, setBlock, goInt]
  ·rw [IM.get_some H.nodup h2 h3, IM.set_at H.nodup h2 h3]
   exact H.modify h2 _ p.2 fun e he => ⟨by rw [h3], by
    obtain ⟨q, hq, _, hv⟩ := H.at_ he
    rw [h2] at hq
    cases hq
    exact hv, rfl⟩
  ·rw [Array.toList_modify, List.getElem?_modify, h4]; simp
/-- .. second half: its value -/
theorem MapW.entryStore {t : TypeId} {s : Nat} (h : MapW w b m) (hs : EntAt w b s k) (v : Value) :
  ∃ w', (Instr.entryStore t (.map (some b)) (.int .i64 (s : Int)) v).run Tryz.prog w = .ok () w' ∧ MapW w' b (m.set k v) ∧ w.grownBy w' (some b) ∧ w'.heap.size = w.heap.size := by
 obtain ⟨es, clock, hb, H⟩ := h
 obtain ⟨es', clock', hb', j, en, hj, hbn, hkn⟩ := hs
 rw [hb] at hb'
 cases hb'
 obtain ⟨p, hp, hk1, hv⟩ := H.at_ hj
 have hpk : p.1 = k := idV_inj (hk1.symm.trans hkn)
 have hfi : es.findIdx? (fun e => (e.born : Int) == (s : Int)) = some j := by
  have hft : ∀ f : MapEntry → Bool, es.findIdx? f = es.toList.findIdx? f := fun f => by cases es; simp
  rw [hft, List.findIdx?_eq_some_iff_getElem]
  obtain ⟨h1, h2⟩ := List.getElem?_eq_some_iff.1 hj
  refine ⟨h1, by rw [h2]; simp [hbn], fun i hi => ?_⟩
  have hil : i < es.toList.length := by omega
  have := List.pairwise_iff_getElem.1 H.apart i j hil h1 hi
  rw [h2, hbn] at this
  show ¬ (((es.toList[i]).born : Int) == (s : Int)) = true
  rw [beq_iff_eq]
  omega
 refine ⟨setBlock w b (.map (es.modify j fun e => { e with val := v }) clock), ?_, ⟨_, _, heap_setBlock_same hb _, ?_⟩, grown_setBlock hb, by simp [setBlock]⟩
 ·simp [Instr.entryStore, MapKept.run_getObj_map hb, asInt, asIntOf, hfi, MapKept.run_setObj_map _ hb, Result.andThen, setBlock]
 ·rw [IM.set_at H.nodup hp hpk]
  exact H.modify hp _ v fun e he => ⟨by rw [hj] at he; cases he; exact hk1, rfl, rfl⟩
theorem IM.set_set (m : IM) (k : List UInt8) (u v : Value) (hn : m.Pairwise (fun p q => p.1 ≠ q.1)) : (m.set k u).set k v = m.set k v := by
 by_cases h : ∃ p ∈ m, p.1 = k
 ·obtain ⟨p, hp, hk⟩ := h
  obtain ⟨j, hj⟩ := List.getElem?_of_mem hp
  rw [IM.set_at hn hj hk]
  have hn2 : (m.modify j (fun p => (p.1, u))).Pairwise (fun p q => p.1 ≠ q.1) := by
   have hkm : (m.modify j (fun p => (p.1, u))).map (·.1) = m.map (·.1) := by
    apply List.ext_getElem?
    intro i
    rw [List.getElem?_map, List.getElem?_map, List.getElem?_modify]
    cases hm : m[i]? with
    | none => rfl
    | some r => by_cases hij : j = i <;> simp [hij]
   have h1 : (m.map (·.1)).Pairwise (fun a b => a ≠ b) := List.pairwise_map.2 hn
   rw [← hkm] at h1
   exact List.pairwise_map.1 h1
  have hj2 : (m.modify j (fun p => (p.1, u)))[j]? = some (p.1, u) := by rw [List.getElem?_modify, hj]; simp
  rw [IM.set_at hn2 hj2 hk, IM.set_at hn hj hk]
  apply List.ext_getElem?
  intro i
  rw [List.getElem?_modify, List.getElem?_modify, List.getElem?_modify]
  cases hm : m[i]? with
  | none => rfl
  | some r => by_cases hij : j = i <;> simp [hij]
 ·have h2 : ∀ p ∈ m, p.1 ≠ k := fun p hp e => h ⟨p, hp, e⟩
  rw [IM.set_new h2, IM.set_new h2]
  have hn2 : (m ++ [(k, u)]).Pairwise (fun p q => p.1 ≠ q.1) := by
   rw [List.pairwise_append]
   exact ⟨hn, List.pairwise_singleton _ _, fun p hp q hq => by rw [List.mem_singleton.1 hq]; exact h2 p hp⟩
  have hj2 : (m ++ [(k, u)])[m.length]? = some (k, u) := by rw [List.getElem?_append_right (Nat.le_refl _)]; simp
  rw [IM.set_at hn2 hj2 rfl]
  apply List.ext_getElem?
  intro i
  rw [List.getElem?_modify]
  rcases Nat.lt_or_ge i m.length with hi | hi
  ·rw [List.getElem?_append_left hi, List.getElem?_append_left hi]
   cases m[i]? with
   | none => rfl
   | some r => simp [show ¬ m.length = i by omega]
  ·rw [List.getElem?_append_right hi, List.getElem?_append_right hi]
   by_cases hil : i = m.length
   ·subst hil; simp
   ·rw [List.getElem?_eq_none (by simp; omega), List.getElem?_eq_none (by simp; omega)]; rfl
end
end Go.Proofs.YtgmbkcjihgphmaaGreat
/- records: how they lie in memory; towlineref20.Get. -/
namespace Go.Proofs.YtgmbkcjihgphmaaGreat
open Go.RowKit
attribute [local go_sem ↓] eqlId_eq neqId_eq
abbrev RecT := List UInt8 × ByteArray
def recR : Rd RecT := prodR oidR strR
theorem rec_cells {w : World} {av : Av} {cs : List Value} {r : RecT} (h : recR.R w av cs r) : cs = bytesV r.1 ++ [.string r.2] ∧ r.1.length = 32 := by
 obtain ⟨c1, c2, rfl, h1, h2⟩ := h
 obtain ⟨rfl, h3⟩ := oid_cells h1
 have h2 : c2 = [.string r.2] := h2
 exact ⟨by rw [h2], h3⟩
theorem rec_of (w : World) (av : Av) {r : RecT} (h : r.1.length = 32) : recR.R w av (bytesV r.1 ++ [Value.string r.2]) r := ⟨_, _, rfl, oid_of w av h, rfl⟩
theorem recs_look {w : World} {av : Av} {A : Option Addr} {rs : List RecT} {n i : Nat} (h : SlOf recR w av A rs) (hl : rs.length = n) (hi : i < n) :
  ∃ b off r, A = some ⟨b, off, none⟩ ∧ b < w.heap.size ∧ rs[i]? = some r ∧ r.1.length = 32 ∧ At w ⟨b, off + i * 33, none⟩ (bytesV r.1).toArray ∧ w.cell? ⟨b, off + i * 33 + 32, none⟩ = some (.string r.2) := by
 obtain ⟨b, off, cs, r, e, hb, hx, hr, hc⟩ := h.at hl hi
 obtain ⟨rfl, h32⟩ := rec_cells hr
 have hc : At w ⟨b, off + i * 33, none⟩ (bytesV r.1 ++ [Value.string r.2]).toArray := hc
 refine ⟨b, off, r, e, hb, hx, h32, fun j u hu => hc j u ?_, hc 32 _ ?_⟩
 ·have hu : (bytesV r.1)[j]? = some u := by simpa using hu
  have hlt := (List.getElem?_eq_some_iff.1 hu).1
  rw [List.getElem?_toArray, List.getElem?_append_left hlt, hu]
 ·rw [List.getElem?_toArray, List.getElem?_append_right (by rw [bytesV_length, h32]; exact Nat.le_refl _), bytesV_length, h32]; rfl
/-- the bytes of a record -/
def getS (rs : List RecT) (id : List UInt8) : Option ByteArray := (rs.find? (fun r => r.1 == id)).map (·.2)
def GetSPost (w : World) (r : Option ByteArray) (e : Ending) (w' : World) : Prop :=
 Below w.heap.size w w' ∧ match r with
  | some s => e = .returned (.tuple #[.string s, .int .i64 0])
  | none => e = .returned (.tuple #[.string ⟨#[]⟩, .int .i64 4])
set_option maxRecDepth 100000 in
set_option maxHeartbeats 4000000 in
theorem refGet_any (A : Option Addr) (n c : Nat) (rs : List RecT) (id : List UInt8) (W0 : World) (hs : SlOf recR W0 no A rs) (hn : n = rs.length) (hl : n ≤ 1000000000) (hid : id.length = 32) :
  Calls Tryz.prog 32 #[.slice A n c, idV id] W0 (GetSPost W0 (getS rs id)) := by
 have HS := Lib.hid hs
 have HN := Lib.hid hn.symm
 obtain ⟨KI, hKI⟩ : ∃ KI, KI = (bytesV id).toArray := ⟨_, rfl⟩
 have HKI := Lib.hid hKI
 have HII := Lib.hid (show (Tryz.prog.info? 33).map (·.size) = some KI.size by rw [hKI]; exact oid_size hid)
 rw [show idV id = .agg KI by rw [hKI]]
 have hb1 : Below W0.heap.size W0 (W0.alloc (.cells KI 33)) := (Below.refl _ _).alloc (Nat.le_refl _) _
 have HB1 := Lib.hid hb1
 have HK1 := Lib.hid (Blk.new W0 33 KI)
 obtain ⟨R, hR⟩ : ∃ R, R = getS rs id := ⟨_, rfl⟩
 have HR := Lib.hid hR
 rw [← hR]
 clear hs hn hKI hb1 hR
 go_enter Tryz.func32, Tryz.ntmps32
 go_wp2_with fail
 generalize W0.alloc (.cells KI 33) = w1 at *
 generalize hg : W0.heap.size = g at *
 have HG := Lib.hid hg
 clear hg
 go_loopw [6] (fun s6 wr => ∃ k : Nat, k ≤ n ∧ s6 = .int .i64 (k : Int) ∧ Hid (getS (rs.take k) id = none) ∧ Hid (Below g W0 wr) ∧ Hid (Blk wr g 33 KI)) (fun s6 wr => n - (intOf s6).toNat)
 case atStart => exact ⟨0, by omega, rfl, Lib.hid rfl, HB1, HK1⟩
 case round =>
  obtain ⟨k, hk, rfl, HNO, HBL, HK⟩ := hrel
  by_cases hlt : k < n
  ·have hltI : (k : Int) < (n : Int) := by omega
   obtain ⟨b1, o1, r, rfl, hb1, hx, h32, hat, hst⟩ := recs_look (HS.out.below (by rw [HG.out]; exact HBL.out)) HN.out hlt
   have he := fun w => eqlId_of h32 hid w
   rw [← HKI.out] at he
   obtain ⟨KX, hKX⟩ : ∃ KX, KX = (bytesV r.1).toArray := ⟨_, rfl⟩
   have HI := Lib.hid (show (Tryz.prog.info? 33).map (·.size) = some KX.size by rw [hKX]; exact oid_size h32)
   rw [← hKX] at hat he
   have HAT := Lib.hid hat
   have hdr : Below wr.heap.size wr wr.drew := Same.below ⟨1, rfl⟩ _
   have HB2 := Lib.hid (HBL.out.trans (hdr.mono (by have := HBL.out.size; have := HK.out.lt; omega)))
   have HK2 := Lib.hid (HK.out.below hdr HK.out.lt)
   have hglt := HK.out.lt
   by_cases heq : r.1 = id
   ·have hres : getS rs id = some r.2 := by
     unfold getS at *
     have h1 : rs = rs.take k ++ r :: rs.drop (k + 1) := by
      have := List.take_append_drop k rs
      obtain ⟨h2, h3⟩ := List.getElem?_eq_some_iff.1 hx
      rw [List.drop_eq_getElem_cons h2, h3] at this
      exact this.symm
     have h2 : (rs.take k).find? (fun r => r.1 == id) = none := by
      have := HNO.out
      cases hf : (rs.take k).find? (fun r => r.1 == id) with
      | none => rfl
      | some x => rw [hf] at this; cases this
     rw [h1, List.find?_append, h2, Option.none_or, List.find?_cons_of_pos (by simpa using heq)]; rfl
    have HRR := Lib.hid (HR.out.trans hres)
    rw [heq, beq_self_eq_true] at he
    have hst2 : wr.drew.cell? ⟨b1, o1 + k * 33 + 32, none⟩ = some (.string r.2) := hst
    clear hx h32 hat hKX hres
    go_upto_region 4 with fail
    refine wp_region_held (S := fun w => Below wr.heap.size wr w) (by kernel_rfl) ?_
    change wpAnyH _ _ _ _ _ _ _ _ (World.drew _)
    refine rgT 0 hdr ?_
    refine rgT 1 hdr ?_
    refine rgT 2 hdr ?_
    refine rgT 3 hdr ?_
    refine rgU 4 (v := ?_) (a' := ?_) hdr ?_ ?_ ?_
    rotate_left 2
    ·(intro w hS; refine exec_load_at 33 (.tmp 16) ?_ b1 (o1 + k * 33) ?_ KX _ (HAT.out.below hS hb1) Tryz.underlying33 rfl HI.out; exact rfl; exact rfl)
    ·(go_simp; try with_reducible rfl)
    refine rgU 5 (v := ?_) (a' := ?_) hdr ?_ ?_ ?_
    rotate_left 2
    ·(intro w hS; refine exec_load_at 33 (.tmp 3) ?_ g 0 ?_ KI _ (At.of_row (HK.out.below hS hglt)) Tryz.underlying33 rfl HII.out; exact rfl; exact rfl)
    ·(go_simp; try with_reducible rfl)
    refine rgT 6 hdr ?_
    refine wpAnyH_done (by kernel_rfl) ?_ _
    go_wp2_with fail
    go_ret2
    rw [HRR.out]
    exact ⟨by rw [HG.out]; exact HB2.out, rfl⟩
   ·have hno : getS (rs.take (k + 1)) id = none := by
     have := HNO.out
     unfold getS at *
     rw [List.take_add_one, hx, List.find?_append]
     cases hf : (rs.take k).find? (fun r => r.1 == id) with
     | none => simp [heq]
     | some x => rw [hf] at this; cases this
    have HNO2 := Lib.hid hno
    rw [beq_eq_false_iff_ne.2 heq] at he
    clear hx h32 hat hKX hno hst
    go_upto_region 4 with fail
    refine wp_region_held (S := fun w => Below wr.heap.size wr w) (by kernel_rfl) ?_
    change wpAnyH _ _ _ _ _ _ _ _ (World.drew _)
    refine rgT 0 hdr ?_
    refine rgT 1 hdr ?_
    refine rgT 2 hdr ?_
    refine rgT 3 hdr ?_
    refine rgU 4 (v := ?_) (a' := ?_) hdr ?_ ?_ ?_
    rotate_left 2
    ·(intro w hS; refine exec_load_at 33 (.tmp 16) ?_ b1 (o1 + k * 33) ?_ KX _ (HAT.out.below hS hb1) Tryz.underlying33 rfl HI.out; exact rfl; exact rfl)
    ·(go_simp; try with_reducible rfl)
    refine rgU 5 (v := ?_) (a' := ?_) hdr ?_ ?_ ?_
    rotate_left 2
    ·(intro w hS; refine exec_load_at 33 (.tmp 3) ?_ g 0 ?_ KI _ (At.of_row (HK.out.below hS hglt)) Tryz.underlying33 rfl HII.out; exact rfl; exact rfl)
    ·(go_simp; try with_reducible rfl)
    refine rgT 6 hdr ?_
    refine wpAnyH_done (by kernel_rfl) ?_ _
    go_wp2_with fail
    go_roundw
    case rel => exact ⟨k + 1, by omega, by go_num, HNO2, HB2, HK2⟩
    case measure => simp [intOf]; omega
  ·have hltI : ¬ (k : Int) < (n : Int) := by omega
   have HRR := Lib.hid (show R = none by
    have := HNO.out
    rw [List.take_of_length_le (by have := HN.out; omega)] at this
    rw [HR.out]; exact this)
   go_wp2_with fail
   go_ret2
   rw [HRR.out]
   exact ⟨by rw [HG.out]; exact HBL.out, rfl⟩
end Go.Proofs.YtgmbkcjihgphmaaGreat
/- shelf: records as a source. -/
namespace Go.Proofs.YtgmbkcjihgphmaaGreat
open Go.RowKit
attribute [local go_sem ↓] cvs_eq
theorem bytes_each (w : World) (av : Av) : ∀ b : List UInt8, Each (byteR.R w av) (bytesV b) b
 | [] => .nil
 | x :: r => .cons (cs := [.int .u8 (x.toNat : Int)]) rfl (bytes_each w av r)
theorem slB_of {w : World} {A : Option Addr} {b : List UInt8} {n B : Nat} (h : Sl w 1 A n (bytesV b)) (hn : n = b.length) (hA : ∀ g off, A = some ⟨g, off, none⟩ → B ≤ g) : SlOf byteR w (fun g => g < B) A b :=
 ⟨bytesV b, by rw [← hn]; exact h, bytes_each w _ b, fun _ g off e => by have := hA g off e; omega⟩
theorem each_bytes {w : World} {av : Av} {cs : List Value} {b : List UInt8} (h : Each (byteR.R w av) cs b) : cs = bytesV b := by
 induction h with
 | nil => rfl
 | cons h1 _ ih => rw [ih, h1]; rfl
theorem slOf_bytes {w : World} {av : Av} {A : Option Addr} {b : List UInt8} (h : SlOf byteR w av A b) : Sl w 1 A b.length (bytesV b) := by
 obtain ⟨vs, h1, h2, _⟩ := h
 rw [each_bytes h2] at h1
 exact h1
/-- what a source answers -/
def SrcPost (w : World) (r : Option (List UInt8)) (e : Ending) (w' : World) : Prop :=
 Below w.heap.size w w' ∧ match r with
  | some b => ∃ A c, e = .returned (.tuple #[.slice A b.length c, .int .i64 0]) ∧ SlOf byteR w' (fun g => g < w.heap.size) A b ∧ b.length ≤ c ∧ c ≤ maxLen
  | none => ∃ A n c, e = .returned (.tuple #[.slice A n c, .int .i64 4])
def getB (rs : List RecT) (id : List UInt8) : Option (List UInt8) := (getS rs id).map fun s => s.data.toList
set_option maxRecDepth 100000 in
set_option maxHeartbeats 4000000 in
theorem shelfGet_any (A : Option Addr) (n c : Nat) (rs : List RecT) (id : List UInt8) (W0 : World) (hs : SlOf recR W0 no A rs) (hn : n = rs.length) (hl : n ≤ 1000000000) (hid : id.length = 32) (hsz : ∀ r ∈ rs, r.2.size ≤ maxLen) :
  Calls Tryz.prog 123 #[.agg #[.slice A n c], idV id] W0 (SrcPost W0 (getB rs id)) := by
 obtain ⟨KI, hKI⟩ : ∃ KI, KI = (bytesV id).toArray := ⟨_, rfl⟩
 have HII := Lib.hid (show (Tryz.prog.info? 33).map (·.size) = some KI.size by rw [hKI]; exact oid_size hid)
 obtain ⟨w1, hw1⟩ : ∃ w1, w1 = (W0.alloc (.cells #[.slice A n c] 31)).alloc (.cells KI 33) := ⟨_, rfl⟩
 have HB1 := Lib.hid (show Below W0.heap.size W0 w1 by rw [hw1]; exact ((Below.refl _ _).alloc (Nat.le_refl _) _).alloc (by simp) _)
 have HX := (Blk.new W0 31 #[.slice A n c]).alloc (.cells KI 33)
 rw [← hw1] at HX
 have HK := Lib.hid (show Blk w1 (W0.heap.size + 1) 33 KI by
  have := Blk.new (W0.alloc (.cells #[.slice A n c] 31)) 33 KI
  rw [hw1]; simpa using this)
 have c0 : w1.cell? ⟨W0.heap.size, 0, none⟩ = some (.slice A n c) := HX.cell 0
 have HG := Lib.hid (refGet_any A n c rs id w1 (hs.below HB1.out) hn hl hid)
 rw [show idV id = .agg KI by rw [hKI]] at HG ⊢
 have HSZ := Lib.hid (show ∀ s, getS rs id = some s → s.size ≤ maxLen from fun s h => by
  unfold getS at h
  cases hf : rs.find? (fun r => r.1 == id) with
  | none => rw [hf] at h; cases h
  | some r => rw [hf] at h; cases h; exact hsz r (List.mem_of_find?_eq_some hf))
 obtain ⟨R, hR⟩ : ∃ R, R = getS rs id := ⟨_, rfl⟩
 have HR := Lib.hid (show getB rs id = R.map fun s => s.data.toList by rw [hR]; rfl)
 rw [← hR] at HG HSZ
 rw [HR.out]
 have HW := Lib.hid hw1
 clear hs hn hid hsz hR hw1 HX hKI HR
 go_enter Tryz.func123, Tryz.ntmps123
 go_upto_region 1 with fail
 rw [← HW.out]
 clear HW
 generalize hg : W0.heap.size = g at *
 have HGG := Lib.hid hg
 clear hg
 go_wp2_with (first | (refine wpList_load_at rfl _ _ rfl (g + 1) 0 rfl KI _ (At.of_row HK.out) Tryz.underlying33 rfl HII.out ?_) | fail)
 refine HG.out.mono ?_
 rintro e w2 ⟨hb2, hm⟩
 have HB2 := Lib.hid (HB1.out.trans (hb2.mono (by have := HK.out.lt; omega)))
 clear hb2 HG
 cases R with
 | some s =>
  obtain rfl : e = _ := hm
  obtain ⟨A3, c3, w3, hrun, hsl, h1, h2, h3, g3, rfl, hg3⟩ := toBytes w2 s (HSZ.out s rfl)
  have hst : cvs w2 s = .ok (.slice (some ⟨g3, 0, none⟩) s.size c3) w3 := hrun
  clear hrun
  have HB3 := Lib.hid (HB2.out.trans (h3.mono (by have := HB2.out.size; have := HGG.out; omega)))
  have HS3 := Lib.hid (slB_of (B := g) hsl Array.length_toList.symm (fun x off e => by have e := Option.some.inj e; injection e with e; have := HB2.out.size; have := HGG.out; omega))
  clear h3 HSZ hsl hg3
  go_wp2_with fail
  go_ret2
  unfold SrcPost
  rw [HGG.out]
  have hlen : s.data.toList.length = s.size := Array.length_toList
  refine ⟨HB3.out, some ⟨g3, 0, none⟩, c3, by rw [hlen]; rfl, HS3.out, by show s.data.toList.length ≤ c3; omega, h2⟩
 | none =>
  obtain rfl : e = _ := hm
  obtain ⟨E0, hE0⟩ : ∃ E0 : ByteArray, E0 = ⟨#[]⟩ := ⟨_, rfl⟩
  rw [← hE0]
  obtain ⟨A3, c3, w3, hrun, hsl, h1, h2, h3, _⟩ := toBytes w2 E0 (by rw [hE0]; decide)
  have hst : cvs w2 E0 = .ok (.slice A3 E0.size c3) w3 := hrun
  clear hrun hE0
  have HB3 := Lib.hid (HB2.out.trans (h3.mono (by have := HB2.out.size; have := HGG.out; omega)))
  clear h3 HSZ hsl
  go_wp2_with fail
  go_ret2
  unfold SrcPost
  rw [HGG.out]
  exact ⟨HB3.out, _, _, _, rfl⟩
end Go.Proofs.YtgmbkcjihgphmaaGreat
