/- Contracts and laws for what the statement reaches, joined: GrainValue, Recov. -/
import Derived.Test.YtgmbkcjihgphmaaGreatJn1
import Derived.Test.YtgmbkcjihgphmaaGreatJn6
import Derived.Deep.WholeRow
import Derived.Defers
import Derived.Laws.Tables
import Derived.Recover
/- grain's cursor: value. -/
set_option linter.unusedVariables false
namespace Go.Proofs.YtgmbkcjihgphmaaGreat
open Go.RowKit
attribute [local go_sem ↓] cutA_eq
theorem grown_below {w w' : World} (h : Below w.heap.size w w') (r : Option Nat) : w.grownBy w' r := ⟨h.os, h.tape, h.output, h.size, fun k hk _ => h.block k hk⟩
theorem grown_row (w : World) (g : Nat) (cs : Array Value) : w.grownBy (w.setRow g cs) (some g) := ⟨rfl, rfl, rfl, by simp, fun k hk hne => setRow_other w g k cs (fun e => hne (congrArg some e))⟩
/-- what turns in blocks that are new does not count -/
theorem grown_new {w w2 w3 : World} {r : Option Nat} {g : Nat} (h : w.grownBy w2 r) (k : w2.grownBy w3 (some g)) (hg : w.heap.size ≤ g) : w.grownBy w3 r :=
 ⟨k.os.trans h.os, k.tape.trans h.tape, k.output.trans h.output, Nat.le_trans h.size k.size, fun b hb hne => (k.block b (Nat.lt_of_lt_of_le hb h.size) (fun e => by have := Option.some.inj e; omega)).trans (h.block b hb hne)⟩
theorem Cur.below {w w' : World} {gc : Nat} {A : Option Addr} {n c : Nat} {l : List UInt8} (h : Cur w gc A n c l) (hb : Below w.heap.size w w') : Cur w' gc A n c l :=
 ⟨h.blk.below hb h.blk.lt, h.sl.below hb, h.le, h.max, h.src⟩
theorem Cur.turnR {w w' : World} {gc : Nat} {row : Option Nat} {A : Option Addr} {n c : Nat} {l : List UInt8} (h : Cur w gc A n c l) (hg : w.grownBy w' row) (hlt : ∀ k, row = some k → gc < k) : Cur w' gc A n c l := by
 refine ⟨h.blk.grown hg (fun e => by have := hlt gc e.symm; omega), ⟨h.sl.1, fun hn => ?_⟩, h.le, h.max, h.src⟩
 obtain ⟨b, off, he, hb, hc⟩ := h.sl.2 hn
 refine ⟨b, off, he, Nat.lt_of_lt_of_le hb hg.size, fun j u hu => ?_⟩
 have := h.src hn b off none he
 rw [World.cell?_of_block (hg.block b hb (fun e => by have := hlt b e.symm; omega))]
 exact hc j u hu
theorem Cur.turn {w w' : World} {gc g : Nat} {A : Option Addr} {n c : Nat} {l : List UInt8} (h : Cur w gc A n c l) (hg : w.grownBy w' (some g)) (hlt : gc < g) : Cur w' gc A n c l :=
 h.turnR hg (fun k e => by have := Option.some.inj e; omega)
def ValPost (w : World) (gc : Nat) (r : Res (Val × List UInt8)) (e : Ending) (w' : World) : Prop :=
 w.grownBy w' (some gc) ∧ match r with
  | .ok (v, l) => ∃ cs : List Value, e = .returned (.agg cs.toArray) ∧ valR.R w' (fun b => b < w.heap.size) cs v ∧ ∃ A m c, Cur w' gc A m c l
  | .error z => e = .panicked (stopE z)
theorem own_row {base : Nat} {w : World} {e : TypeId} {sz n : Nat} {v : Value} {xs : List Value} (h : w.ownsRow base e sz v n xs) {g : Nat} {cs : Array Value} (hb : g < base) : (w.setRow g cs).ownsRow base e sz v n xs := by
 refine h.kept (grown_row w g cs) ?_
 cases hv : v.ownBlock with
 | none => exact .inl rfl
 | some k =>
  right
  intro e
  have e := Option.some.inj e
  have := (h.lt k hv).1
  omega
/-- a value without parts in memory -/
theorem valR_flat (w : World) (av : Av) {k : Int} (u f : Nat) (hk : (Lit.int .i64 k).wf = true) (hu : u < 2 ^ 64) (hf : f < 2 ^ 64) : valR.R w av (cellsV k u none 0 0 f none 0 0).toList (.mk k u [] f []) :=
 valR_iff.2 ⟨none, 0, none, 0, rfl, hk, hu, hf, ⟨Nat.le_refl _, Nat.zero_le _, SlOf.nil⟩, Nat.le_refl _, Nat.zero_le _, SlOf.nil⟩
/-- behind the head: the variable for the result lies in gv -/
structure VIn (w w2 : World) (gc : Nat) (l : List UInt8) (A : Option Addr) (n c : Nat) : Prop where
 grown : w.grownBy w2 (some gc)
 lt : gc < w.heap.size
 blk : Blk w2 w.heap.size 94 #[.int .i64 0, .int .u64 0, .slice none 0 0, .float .f64 0, .slice none 0 0]
 cur : Cur w2 gc A n c l
set_option maxRecDepth 100000 in
set_option maxHeartbeats 1000000 in
theorem value_num {w : World} {gc : Nat} {A : Option Addr} {n c : Nat} {l : List UInt8} {z : Int} {nn : Nat} {r : List UInt8} (hz : ¬ (16 : Int) < z) (h : Cur w gc A n c l) (hr : rdH l = .ok (0, nn, r)) (hnn : nn < 2 ^ 64) :
  Calls Tryz.prog 98 #[.pointer (some ⟨gc, 0, none⟩), .int .i64 z] w (ValPost w gc (.ok (.mk 0 nn [] 0 [], r))) := by
 have hlt := h.blk.lt
 have HB1 : Below w.heap.size w (w.alloc (.cells #[.int .i64 0, .int .u64 0, .slice none 0 0, .float .f64 0, .slice none 0 0] 94)) := (Below.refl _ _).alloc (Nat.le_refl _) _
 have HC1 := Lib.hid (h.below HB1)
 have HH := Lib.hid (curHead_any HC1.out)
 rw [hr] at HH
 have HG1 := Lib.hid (grown_below HB1 (some gc))
 clear hr HB1 h
 go_enter Tryz.func98, Tryz.ntmps98
 go_wp2_with fail
 refine HH.out.mono ?_
 rintro e w2 ⟨hg2, hz2, rfl, A2, m2, c2, hc2⟩
 have HV : Hid (VIn w w2 gc r A2 m2 c2) := Lib.hid ⟨World.grownBy.trans HG1.out hg2, hlt, (Blk.new w _ _).grown hg2 (fun e => by have := Option.some.inj e; omega), hc2⟩
 clear hg2 hz2 hc2 HH HC1 HG1
 go_wp2_with fail
 refine (num_any nn w2).mono ?_
 rintro e w3 ⟨rfl, hb3⟩
 have HBL := Lib.hid (HV.out.blk.below hb3 HV.out.blk.lt)
 have HG3 := Lib.hid (grown_trans HV.out.grown (grown_below hb3 _))
 have HC3 := Lib.hid (HV.out.cur.below hb3)
 obtain ⟨KV, hKV⟩ : ∃ KV, KV = cellsV 0 nn none 0 0 0 none 0 0 := ⟨_, rfl⟩
 have HI := Lib.hid (hKV ▸ cellsV_info 0 nn none 0 0 0 none 0 0)
 have HO := Lib.hid (hKV ▸ cellsV_one 0 nn none 0 0 0 none 0 0)
 have HKV := Lib.hid hKV
 rw [← hKV]
 clear hKV hb3 HV
 go_wp2_with (first | (refine wpList_store_row rfl _ _ _ rfl w.heap.size KV rfl rfl 94 _ HBL.out HI.out (by rw [HKV.out]; rfl) HO.out ?_) | fail)
 refine bodyPost_ret (results_cell_row rfl _ _ w.heap.size 94 KV (0, 0) _ rfl (setRow_heap _ w.heap.size _ _ _ _ HBL.out) Tryz.underlying94 rfl HI.out) rfl ?_
 refine ⟨grown_new HG3.out (grown_row _ _ _) (Nat.le_refl _), KV.toList, by simp, ?_, A2, m2, c2, HC3.out.turn (grown_row _ _ _) hlt⟩
 rw [HKV.out]
 exact valR_flat _ _ nn 0 (by decide) hnn (by omega)
/-- bytes in a row of the call's own, away from what was there -/
theorem SlOf.ownBytes {w : World} {base B : Nat} {A : Option Addr} {m c : Nat} {l : List UInt8} (h : w.ownsRow base 5 1 (.slice A m c) m (bytesV l)) (hB : B ≤ base) : SlOf byteR w (fun b => b < B) A l := by
 have hl := own_len h
 refine ⟨bytesV l, by have := Sl.ofOwn h; rw [hl] at this; exact this, each_byte_mk l, fun h0 b off e => ?_⟩
 obtain ⟨g, hg, hb, _⟩ := own_at h (by omega)
 rw [hg] at e
 have e := Option.some.inj e
 injection e with e
 omega
theorem valR_bytes {w : World} {base B : Nat} {A : Option Addr} {m c : Nat} {l : List UInt8} (h : w.ownsRow base 5 1 (.slice A m c) m (bytesV l)) (hB : B ≤ base) : valR.R w (fun b => b < B) (cellsV 1 0 A m c 0 none 0 0).toList (.mk 1 0 l 0 []) := by
 have hl := own_len h
 obtain ⟨h1, h2⟩ := own_cap h
 exact valR_iff.2 ⟨A, c, none, 0, by rw [hl]; rfl, by decide, by omega, by omega, ⟨by omega, h2, SlOf.ownBytes h hB⟩, Nat.le_refl _, Nat.zero_le _, SlOf.nil⟩
set_option maxRecDepth 100000 in
set_option maxHeartbeats 1000000 in
theorem value_bytes {w : World} {gc : Nat} {A : Option Addr} {n c : Nat} {l : List UInt8} {z : Int} {nn : Nat} {r : List UInt8} (hz : ¬ (16 : Int) < z) (h : Cur w gc A n c l) (hr : rdH l = .ok (1, nn, r)) (hrl : r.length ≤ 1048576) :
  Calls Tryz.prog 98 #[.pointer (some ⟨gc, 0, none⟩), .int .i64 z] w (ValPost w gc (if r.length < nn then .error 20 else .ok (.mk 1 0 (r.take nn) 0 [], r.drop nn))) := by
 generalize hR : (if r.length < nn then Except.error 20 else Except.ok (Val.mk 1 0 (r.take nn) 0 [], r.drop nn) : Res (Val × List UInt8)) = R
 have HR := Lib.hid hR
 clear hR
 have hlt := h.blk.lt
 have HB1 : Below w.heap.size w (w.alloc (.cells #[.int .i64 0, .int .u64 0, .slice none 0 0, .float .f64 0, .slice none 0 0] 94)) := (Below.refl _ _).alloc (Nat.le_refl _) _
 have HC1 := Lib.hid (h.below HB1)
 have HH := Lib.hid (curHead_any HC1.out)
 rw [hr] at HH
 have HG1 := Lib.hid (grown_below HB1 (some gc))
 clear hr HB1 h
 go_enter Tryz.func98, Tryz.ntmps98
 go_wp2_with fail
 refine HH.out.mono ?_
 rintro e w2 ⟨hg2, hz2, rfl, A2, m2, c2, hc2⟩
 have HV : Hid (VIn w w2 gc r A2 m2 c2) := Lib.hid ⟨World.grownBy.trans HG1.out hg2, hlt, (Blk.new w _ _).grown hg2 (fun e => by have := Option.some.inj e; omega), hc2⟩
 have hm2 := hc2.len
 clear hg2 hz2 hc2 HH HC1 HG1
 -- the empty literal lies ahead of the take
 have hbn : Below w2.heap.size w2 (w2.alloc (.cells #[] 5)) := (Below.refl _ _).alloc (Nat.le_refl _) _
 have HC2 := Lib.hid (HV.out.cur.below hbn)
 have HG2 := Lib.hid (grown_trans HV.out.grown (grown_below hbn _))
 have HBL2 := Lib.hid (HV.out.blk.below hbn HV.out.blk.lt)
 have HE := Lib.hid (own_made (base := w.heap.size + 1) w2 5 1 HV.out.blk.lt)
 have hsz2 := HV.out.grown.size
 obtain ⟨g2, hg2⟩ : ∃ g2, g2 = w2.heap.size := ⟨_, rfl⟩
 have HGE := Lib.hid hg2
 by_cases hs : r.length < nn
 ·have hR := HR.out
  rw [if_pos hs] at hR
  have HR1 := Lib.hid hR
  clear hbn hR HR hg2
  go_wp2_with fail
  refine (take_short nn HC2.out (by omega)).mono ?_
  rintro e w3 ⟨rfl, rfl⟩
  refine ⟨rfl, HG2.out, ?_⟩
  rw [← HR1.out]
 ·have hR := HR.out
  rw [if_neg hs] at hR
  have HR1 := Lib.hid hR
  clear hbn hR HR hg2
  go_wp2_with fail
  refine (take_any nn HC2.out (by omega)).mono ?_
  rintro e w3 ⟨rfl, hs3, hc3, hg3, hz3⟩
  have hE3 := HE.out.kept hg3 (by right; simp [Value.ownBlock]; have := HV.out.lt; omega)
  obtain ⟨A4, c4, w4, run4, ap4, hc4, hm4⟩ := append_sl elemByte hE3 hs3 (bytesV_one _) (by omega) (by simp only [maxLen]; omega) (by rw [hz3]; simp; omega) 38 c2
  have hgr4 : w3.grownBy w4 (some w2.heap.size) := ap4.grown
  have HB4 := Lib.hid ((HBL2.out.grown hg3 (fun e => by have := Option.some.inj e; omega)).grown hgr4 (fun e => by have := Option.some.inj e; have := HV.out.blk.lt; omega))
  have HC4 := Lib.hid (hc3.turn hgr4 (by have := HV.out.lt; omega))
  have HG4 := Lib.hid (grown_new (grown_trans HG2.out hg3) hgr4 hsz2)
  have hown4 := ap4.own
  simp only [Nat.zero_add, List.nil_append] at hown4 run4
  have HO4 := Lib.hid hown4
  obtain ⟨KV, hKV⟩ : ∃ KV, KV = cellsV 1 0 A4 nn c4 0 none 0 0 := ⟨_, rfl⟩
  have HI := Lib.hid (hKV ▸ cellsV_info 1 0 A4 nn c4 0 none 0 0)
  have HO := Lib.hid (hKV ▸ cellsV_one 1 0 A4 nn c4 0 none 0 0)
  have HKV := Lib.hid hKV
  clear hKV hown4 ap4 hs3 hc3 hg3 hgr4 hE3
  go_wp2_with (first | (at_builtin; refine wpList_run_append run4 ?_ ?_ ?_; exact rfl; exact rfl) | (refine wpList_store_row rfl _ _ _ rfl w.heap.size KV rfl (by rw [HKV.out]; rfl) 94 _ HB4.out HI.out (by rw [HKV.out]; rfl) HO.out ?_) | fail)
  refine bodyPost_ret (results_cell_row rfl _ _ w.heap.size 94 KV (0, 0) _ rfl (setRow_heap _ w.heap.size _ _ _ _ HB4.out) Tryz.underlying94 rfl HI.out) rfl ?_
  refine ⟨grown_new HG4.out (grown_row _ _ _) (Nat.le_refl _), ?_⟩
  rw [← HR1.out]
  refine ⟨KV.toList, by simp, ?_, _, _, _, HC4.out.turn (grown_row _ _ _) hlt⟩
  rw [HKV.out]
  exact valR_bytes (base := w.heap.size + 1) (own_row HO4.out (Nat.lt_succ_self _)) (Nat.le_succ _)
theorem ofBe_snoc (l : List UInt8) (x : UInt8) : ofBe (l ++ [x]) = ofBe l * 256 + x.toNat := by simp [ofBe]
theorem ofBe_lt : ∀ (l : List UInt8), ofBe l < 256 ^ l.length := by
 intro l
 have : ∀ (l : List UInt8), ofBe l.reverse < 256 ^ l.length := by
  intro l
  induction l with
  | nil => simp [ofBe]
  | cons x l ih =>
   rw [List.reverse_cons, ofBe_snoc, List.length_cons, Nat.pow_succ]
   have := u8_lt x
   omega
 have h := this l.reverse
 simpa using h
theorem be_step {B : Nat} {x : UInt8} (hB : B < 2 ^ 56) : bits .or .u64 ((B : Int) * 256) (x.toNat : Int) = ((B * 256 + x.toNat : Nat) : Int) := by
 have e : ((B : Int) * 256) = ((B * 256 : Nat) : Int) := by omega
 have h := u64_or_nat (B * 256) x.toNat (by omega) (by have := u8_lt x; omega)
 rw [nat_join 8 (B * 256) x.toNat (by omega) (u8_lt x)] at h
 rw [e, h]
set_option maxRecDepth 100000 in
set_option maxHeartbeats 1000000 in
theorem value_flt {w : World} {gc : Nat} {A : Option Addr} {n c : Nat} {l : List UInt8} {z : Int} {nn : Nat} {r : List UInt8} (hz : ¬ (16 : Int) < z) (h : Cur w gc A n c l) (hr : rdH l = .ok (2, nn, r)) :
  Calls Tryz.prog 98 #[.pointer (some ⟨gc, 0, none⟩), .int .i64 z] w (ValPost w gc (if r.length < 8 then .error 20 else
    if nn ≠ 0 ∨ canonB (ofBe (r.take 8)) ≠ ofBe (r.take 8) then .error 22 else .ok (.mk 2 0 [] (ofBe (r.take 8)) [], r.drop 8))) := by
 generalize hR : (if r.length < 8 then Except.error 20 else if nn ≠ 0 ∨ canonB (ofBe (r.take 8)) ≠ ofBe (r.take 8) then Except.error 22 else Except.ok (Val.mk 2 0 [] (ofBe (r.take 8)) [], r.drop 8) : Res (Val × List UInt8)) = R
 have HR := Lib.hid hR
 clear hR
 have hlt := h.blk.lt
 have HB1 : Below w.heap.size w (w.alloc (.cells #[.int .i64 0, .int .u64 0, .slice none 0 0, .float .f64 0, .slice none 0 0] 94)) := (Below.refl _ _).alloc (Nat.le_refl _) _
 have HC1 := Lib.hid (h.below HB1)
 have HH := Lib.hid (curHead_any HC1.out)
 rw [hr] at HH
 have HG1 := Lib.hid (grown_below HB1 (some gc))
 clear hr HB1 h
 go_enter Tryz.func98, Tryz.ntmps98
 go_wp2_with fail
 refine HH.out.mono ?_
 rintro e w2 ⟨hg2, hz2, rfl, A2, m2, c2, hc2⟩
 have HV : Hid (VIn w w2 gc r A2 m2 c2) := Lib.hid ⟨World.grownBy.trans HG1.out hg2, hlt, (Blk.new w _ _).grown hg2 (fun e => by have := Option.some.inj e; omega), hc2⟩
 have hm2 := hc2.len
 clear hg2 hz2 hc2 HH HC1 HG1
 by_cases hs : r.length < 8
 ·have hR := HR.out
  rw [if_pos hs] at hR
  have HR1 := Lib.hid hR
  clear hR HR
  go_wp2_with fail
  refine (take_short 8 HV.out.cur (by omega)).mono ?_
  rintro e w3 ⟨rfl, rfl⟩
  refine ⟨rfl, HV.out.grown, ?_⟩
  rw [← HR1.out]
 ·have hR := HR.out
  rw [if_neg hs] at hR
  have HR1 := Lib.hid hR
  clear hR HR
  go_wp2_with fail
  refine (take_any 8 HV.out.cur (by omega)).mono ?_
  rintro e w3 ⟨rfl, hs3, hc3, hg3, hz3⟩
  have HB3 := Lib.hid (HV.out.blk.grown hg3 (fun e => by have := Option.some.inj e; omega))
  have HG3 := Lib.hid (grown_trans HV.out.grown hg3)
  have HC3 := Lib.hid hc3
  have hl8 : (r.take 8).length = 8 := by rw [List.length_take]; omega
  obtain ⟨T, hT⟩ : ∃ T, T = r.take 8 := ⟨_, rfl⟩
  rw [← hT] at HR1 hs3 hl8
  clear hT hc3 hg3 HV
  have HS3 := Lib.hid hs3
  clear hs3
  go_wp2_with fail
  go_loopw [7, 39] (fun s7 s39 wr => ∃ p B : Nat, p ≤ 8 ∧ s39 = .int .i64 (p : Int) ∧ s7 = .int .u64 (B : Int) ∧ Hid (B = ofBe (T.take p)) ∧ wr = w3) (fun s7 s39 wr => 8 - (intOf s39).toNat)
  case atStart => exact ⟨0, 0, by omega, rfl, rfl, Lib.hid (by simp [ofBe]), rfl⟩
  case round =>
   obtain ⟨p, B, hp, rfl, rfl, HB, rfl⟩ := hrel
   by_cases hp8 : p < 8
   ·have hpI : (p : Int) < 8 := by omega
    obtain ⟨b, off, x, rfl, hb, hcell, hdr⟩ := bytesV_look HS3.out hp8
    have hx : T[p]? = some x := by
     have := congrArg List.head? hdr
     simpa [List.head?_drop] using this
    have hB56 : B < 2 ^ 56 := by
     have h1 := ofBe_lt (T.take p)
     rw [← HB.out, List.length_take, Nat.min_eq_left (by omega)] at h1
     exact Nat.lt_of_lt_of_le h1 (show (256 : Nat) ^ p ≤ 2 ^ 56 from by
      have := Nat.pow_le_pow_right (show 0 < 256 by omega) (show p ≤ 7 by omega)
      exact Nat.le_trans this (by decide))
    have hst := be_step (x := x) hB56
    have hxw : IntKind.u64.wrap (x.toNat : Int) = (x.toNat : Int) := by have := u8_lt x; rw [wrap_u64]; omega
    have hBw : IntKind.u64.wrap ((B : Int) * 256) = (B : Int) * 256 := by rw [wrap_u64]; omega
    obtain ⟨B2, hB2⟩ : ∃ B2, B2 = B * 256 + x.toNat := ⟨_, rfl⟩
    rw [← hB2] at hst
    have HB2 : Hid (B2 = ofBe (T.take (p + 1))) := Lib.hid (by
     rw [List.take_add_one, hx, Option.toList_some, ofBe_snoc, ← HB.out, hB2])
    clear hB2 hdr hx HB
    go_wp2_with fail
    go_roundw
    case rel => exact ⟨p + 1, B2, by omega, by go_num, rfl, HB2, by first | trivial | rfl⟩
    case measure => simp [intOf]; omega
   ·obtain rfl : p = 8 := by omega
    have hB := HB.out
    rw [List.take_of_length_le (by omega)] at hB
    rw [← hB] at HR1
    have hB64 : B < 2 ^ 64 := by
     have h1 := ofBe_lt T
     rw [← hB, hl8] at h1
     exact Nat.lt_of_lt_of_le h1 (by decide)
    have hfr := ext_from
    have hbt := ext_bits
    clear hB HB HS3
    by_cases hn0 : nn = 0
    ·subst hn0
     have e0 : (((0 : Nat) : Int) != 0) = false := rfl
     obtain ⟨C, hC⟩ : ∃ C, C = canonB B := ⟨_, rfl⟩
     have HCA := Lib.hid (canon_any B wr)
     rw [← hC] at HCA HR1
     have HC := Lib.hid hC
     clear hC
     go_wp2_with fail
     refine HCA.out.mono ?_
     rintro e w5 ⟨rfl, hs5⟩
     have HB5 := Lib.hid (HB3.out.same hs5)
     have HG5 := Lib.hid (grown_trans HG3.out (grown_below (hs5.below _) (some gc)))
     have HC5 := Lib.hid (HC3.out.below (hs5.below _))
     clear hs5 HCA hz3
     by_cases hCB : C = B
     ·have hR := HR1.out
      rw [if_neg (by rw [hCB]; simp)] at hR
      have HR2 := Lib.hid hR
      have HCC := Lib.hid (HC.out.symm.trans hCB)
      have e1 : ((C : Int) != (B : Int)) = false := by rw [hCB]; simp
      clear hR HR1 hCB HC
      go_wp2_with fail
      refine (real_any B w5).mono ?_
      rintro e w6 ⟨rfl, hb6⟩
      rw [HCC.out]
      have HBL := Lib.hid (HB5.out.below hb6 HB5.out.lt)
      have HG6 := Lib.hid (grown_trans HG5.out (grown_below hb6 _))
      have HC6 := Lib.hid (HC5.out.below hb6)
      obtain ⟨KV, hKV⟩ : ∃ KV, KV = cellsV 2 0 none 0 0 B none 0 0 := ⟨_, rfl⟩
      have HI := Lib.hid (hKV ▸ cellsV_info 2 0 none 0 0 B none 0 0)
      have HO := Lib.hid (hKV ▸ cellsV_one 2 0 none 0 0 B none 0 0)
      have HKV := Lib.hid hKV
      rw [← hKV]
      clear hKV hb6
      go_wp2_with (first | (refine wpList_store_row rfl _ _ _ rfl w.heap.size KV rfl rfl 94 _ HBL.out HI.out (by rw [HKV.out]; rfl) HO.out ?_) | fail)
      refine bodyPost_ret (results_cell_row rfl _ _ w.heap.size 94 KV (0, 0) _ rfl (setRow_heap _ w.heap.size _ _ _ _ HBL.out) Tryz.underlying94 rfl HI.out) rfl ?_
      refine ⟨grown_new HG6.out (grown_row _ _ _) (Nat.le_refl _), ?_⟩
      rw [← HR2.out]
      refine ⟨KV.toList, by simp, ?_, _, _, _, HC6.out.turn (grown_row _ _ _) hlt⟩
      rw [HKV.out]
      exact valR_flat _ _ 0 B (by decide) (by omega) hB64
     ·have hR := HR1.out
      rw [if_pos (.inr hCB)] at hR
      have HR2 := Lib.hid hR
      have e1 : ((C : Int) != (B : Int)) = true := by simp; omega
      clear hR HR1 hCB HC
      go_wp2_with fail
      refine ⟨rfl, HG5.out, ?_⟩
      rw [← HR2.out]
      rfl
    ·have hR := HR1.out
     rw [if_pos (.inl hn0)] at hR
     have HR2 := Lib.hid hR
     have e1 : ((nn : Int) != 0) = true := by simp; omega
     clear hR HR1 hn0
     go_wp2_with fail
     refine ⟨rfl, HG3.out, ?_⟩
     rw [← HR2.out]
     rfl
/-! ### lists -/
theorem elemVal : ElemOf Tryz.prog 92 94 (.agg #[.int .i64 0, .int .u64 0, .slice none 0 0, .float .f64 0, .slice none 0 0]) 5 72 := ⟨Tryz.underlying92, by kernel_rfl, rfl, by decide⟩
theorem headL_ne (k n : Nat) : headL k n ≠ [] := tailL_ne _ _
theorem rd_lt {d : Nat} {l : List UInt8} {v : Val} {q : List UInt8} (h : rd d l = .ok (v, q)) : q.length < l.length := by
 obtain ⟨e, rfl, he, _, _⟩ := rd_back d l v q h
 have : e ≠ [] := by
  cases d with
  | zero => cases he
  | succ d =>
   unfold wrp at he
   have hn := headL_ne
   split at he
   ·injection he with he; rw [← he]; exact hn _ _
   split at he
   ·injection he with he; rw [← he]; simp [hn]
   split at he
   ·injection he with he; rw [← he]; simp [hn]
   split at he
   ·split at he
    ·injection he with he; rw [← he]; simp [hn]
    ·cases he
   ·cases he
 have := List.length_pos_iff.2 this
 rw [List.length_append]; omega
def lstR : Res (List Val × List UInt8) → Res (Val × List UInt8)
 | .ok (vs, q) => .ok (.mk 3 0 [] 0 vs, q)
 | .error e => .error e
/-- what is left to read, put behind what was read -/
def conL (vs : List Val) : Res (List Val × List UInt8) → Res (List Val × List UInt8)
 | .ok (us, q) => .ok (vs ++ us, q)
 | .error e => .error e
theorem conL_step {d k : Nat} {l q : List UInt8} {x : Val} (vs : List Val) (h : rd d l = .ok (x, q)) : conL vs (rdN (rd d) (k + 1) l) = conL (vs ++ [x]) (rdN (rd d) k q) := by
 rw [rdN, h]
 simp only []
 cases rdN (rd d) k q with
 | error e => rfl
 | ok p => obtain ⟨us, q'⟩ := p; simp [conL]
theorem conL_err {d k : Nat} {l : List UInt8} {z : Int} (vs : List Val) (h : rd d l = .error z) : conL vs (rdN (rd d) (k + 1) l) = .error z := by
 rw [rdN, h]; rfl
theorem Moves.grown {w w' : World} {av : Av} {g : Nat} (h : w.grownBy w' (some g)) (hg : av g) : Moves w w' av av :=
 ⟨h.size, fun b hb hn => h.block b hb (fun e => hn (by have := Option.some.inj e; rw [this]; exact hg)), fun _ _ h => h⟩
/-- the list that is read: its values so far, in a row of the call's own -/
structure ListIn (w wr : World) (gc gv base : Nat) (L : Option Addr) (m c : Nat) (vs : List Val) : Prop where
 row : ∃ xs, wr.ownsRow base 94 5 (.slice L m c) m xs ∧ Each (valR.R wr (fun b => own (.slice L m c) b ∨ b < gv + 1)) xs vs
 len : m = vs.length
 ne : ¬ own (.slice L m c) gv
 gvb : Blk wr gv 94 (cellsV 3 0 none 0 0 0 L m c)
 resb : Blk wr w.heap.size 94 #[.int .i64 0, .int .u64 0, .slice none 0 0, .float .f64 0, .slice none 0 0]
 grown : w.grownBy wr (some gc)
 lt : gc < w.heap.size
 lt2 : w.heap.size < base
 lt3 : base ≤ gv
theorem ListIn.start {w w2 : World} {gc : Nat} {l : List UInt8} {A : Option Addr} {n c : Nat} (h : VIn w w2 gc l A n c) :
  ListIn w ((w2.alloc (.cells #[] 94)).alloc (.cells (cellsV 3 0 none 0 0 0 (some ⟨w2.heap.size, 0, none⟩) 0 0) 94)) gc (w2.heap.size + 1) w2.heap.size (some ⟨w2.heap.size, 0, none⟩) 0 0 [] := by
 have hb : Below w2.heap.size w2 ((w2.alloc (.cells #[] 94)).alloc (.cells (cellsV 3 0 none 0 0 0 (some ⟨w2.heap.size, 0, none⟩) 0 0) 94)) := ((Below.refl _ _).alloc (Nat.le_refl _) _).alloc (by simp) _
 refine ⟨⟨[], (own_made w2 94 5 (Nat.le_refl _)).alloc _, .nil⟩, rfl, by simp [own, Value.ownBlock], ?_, h.blk.below hb h.blk.lt, grown_trans h.grown (grown_below hb _), h.lt, h.blk.lt, Nat.le_succ _⟩
 have := Blk.new (w2.alloc (.cells #[] 94)) 94 (cellsV 3 0 none 0 0 0 (some ⟨w2.heap.size, 0, none⟩) 0 0)
 simpa using this
/-- one more value -/
theorem ListIn.more {w wr w5 w7 : World} {gc gv base : Nat} {L L' : Option Addr} {m c c' : Nat} {vs : List Val} {x : Val} {cs : List Value} (h : ListIn w wr gc gv base L m c vs) (hg : wr.grownBy w5 (some gc)) (hx : valR.R w5 (fun b => b < wr.heap.size) cs x)
  (hap : Appended (w5.alloc (.cells cs.toArray 94)) w7 base 94 5 (.slice L m c) (.slice L' (m + 1) c') (m + 1) ((h.row.choose) ++ cs)) :
  ListIn w (w7.setCell ⟨gv, 4, none⟩ (.slice L' (m + 1) c')) gc gv base L' (m + 1) c' (vs ++ [x]) := by
 have hgl := h.gvb.lt
 have hgcv : gc < gv + 1 := by have := h.lt; have := h.lt2; have := h.lt3; omega
 have hrow := h.row.choose_spec
 have hba : Below w5.heap.size w5 (w5.alloc (.cells cs.toArray 94)) := (Below.refl _ _).alloc (Nat.le_refl _) _
 have hsz5 := hg.size
 have hownlt : ∀ b, own (.slice L m c) b → b < wr.heap.size := fun b e => (hrow.1.lt b e).2
 -- what the steps do to readings that keep away from the row and the old blocks
 have m1 : Moves wr w5 (fun b => own (.slice L m c) b ∨ b < gv + 1) (fun b => own (.slice L m c) b ∨ b < gv + 1) := Moves.grown hg (.inr hgcv)
 have m2 : Moves w5 (w5.alloc (.cells cs.toArray 94)) (fun b => own (.slice L m c) b ∨ b < gv + 1) (fun b => own (.slice L m c) b ∨ b < gv + 1) := Moves.of_below hba
 have m3 : Moves (w5.alloc (.cells cs.toArray 94)) w7 (fun b => own (.slice L m c) b ∨ b < gv + 1) (fun b => own (.slice L' (m + 1) c') b ∨ b < gv + 1) := Moves.of_app_in hap (fun b e => .inl e) (fun b e => e.elim (fun e => .inr e) (fun e => .inl (.inr e)))
 have m4 : Moves w7 (w7.setCell ⟨gv, 4, none⟩ (.slice L' (m + 1) c')) (fun b => own (.slice L' (m + 1) c') b ∨ b < gv + 1) (fun b => own (.slice L' (m + 1) c') b ∨ b < gv + 1) := Moves.grown (grown_set _ _ _ _) (.inr (Nat.lt_succ_self _))
 have hne' : ¬ own (.slice L' (m + 1) c') gv := by
  intro e
  rcases hap.place with hp | hp
  ·exact h.ne (by unfold own at *; rw [← hp]; exact e)
  ·unfold own at e
   rw [hp] at e
   have := Option.some.inj e
   simp at this
   omega
 have hgvw5 : Blk w5 gv 94 (cellsV 3 0 none 0 0 0 L m c) := h.gvb.grown hg (fun e => by have := Option.some.inj e; have := h.lt; have := h.lt2; have := h.lt3; omega)
 have hgva := hgvw5.below hba hgvw5.lt
 have hgv7 : Blk w7 gv 94 (cellsV 3 0 none 0 0 0 L m c) := hgva.grown hap.grown (fun e => h.ne e.symm)
 have hres5 : Blk w5 w.heap.size 94 _ := h.resb.grown hg (fun e => by have := Option.some.inj e; have := h.lt; omega)
 have hres7 := (hres5.below hba hres5.lt).grown hap.grown (fun e => by have := (hrow.1.lt _ e.symm).1; have := h.lt2; omega)
 have hgr7 : w.grownBy w7 (some gc) := ⟨hap.below.os.trans ((grown_trans (grown_trans h.grown hg) (grown_below hba (some gc))).os), hap.below.tape.trans ((grown_trans (grown_trans h.grown hg) (grown_below hba (some gc))).tape), hap.below.output.trans ((grown_trans (grown_trans h.grown hg) (grown_below hba (some gc))).output), Nat.le_trans (grown_trans (grown_trans h.grown hg) (grown_below hba (some gc))).size hap.below.size,
  fun b hb hn => (hap.below.block b (by have := h.lt2; omega)).trans ((grown_trans (grown_trans h.grown hg) (grown_below hba (some gc))).block b hb hn)⟩
 refine ⟨⟨_, ?_, ((hrow.2.mono fun _ _ k => valR.stable k (((m1.trans m2).trans m3).trans m4)).snoc (valR.stable hx ?_))⟩, by simp [h.len], hne', ?_, hres7.other (by have := h.lt2; have := h.lt3; omega) 4 _, grown_new hgr7 (grown_set _ _ _ _) (by have := h.lt2; have := h.lt3; omega), h.lt, h.lt2, h.lt3⟩
 ·exact hap.own.kept (grown_set w7 gv 4 _) (by
   cases hv : (Value.slice L' (m + 1) c').ownBlock with
   | none => exact .inl rfl
   | some k => right; intro e; exact hne' (by unfold own; rw [hv]; exact e))
 ·have q : Moves w5 w5 (fun b => b < wr.heap.size) (fun b => own (.slice L m c) b ∨ b < gv + 1) := Moves.less w5 (fun b _ e => e.elim (hownlt b) (fun e => by omega))
  exact ((q.trans m2).trans m3).trans m4
 ·have := hgv7.set_ 4 (.slice L' (m + 1) c')
  exact this
/-- the list as a value -/
theorem ListIn.val {w wr : World} {gc gv base : Nat} {L : Option Addr} {m c : Nat} {vs : List Val} (h : ListIn w wr gc gv base L m c vs) (KV : Array Value) : valR.R (wr.setRow w.heap.size KV) (fun b => b < w.heap.size) (cellsV 3 0 none 0 0 0 L m c).toList (.mk 3 0 [] 0 vs) := by
 obtain ⟨xs, hrow, hes⟩ := h.row
 obtain ⟨h1, h2⟩ := own_cap hrow
 have hrow' := own_row hrow (g := w.heap.size) (cs := KV) h.lt2
 have mv : Moves wr (wr.setRow w.heap.size KV) (fun b => own (.slice L m c) b ∨ b < gv + 1) (fun b => b < w.heap.size) :=
  (Moves.grown (grown_row wr w.heap.size KV) (.inr (by have := h.lt2; have := h.lt3; omega))).trans (Moves.less _ (fun b _ e => .inr (by have := h.lt2; have := h.lt3; omega)))
 refine valR_iff.2 ⟨none, 0, L, c, by rw [← h.len]; rfl, by decide, by omega, by omega, ⟨Nat.le_refl _, Nat.zero_le _, SlOf.nil⟩, by rw [← h.len]; exact h1, h2, xs, ?_, hes.mono fun _ _ k => valR.stable k mv, fun h0 b off e => ?_⟩
 ·rw [← h.len]; exact Sl.ofOwn hrow'
 ·obtain ⟨g, hg, hb, _⟩ := own_at hrow' (by rw [h.len]; exact h0)
  rw [hg] at e
  have e := Option.some.inj e
  injection e with e
  have := h.lt2
  omega
set_option maxRecDepth 100000 in
set_option maxHeartbeats 2000000 in
theorem value_list {w : World} {gc : Nat} {A : Option Addr} {n c : Nat} {l : List UInt8} {z : Int} {nn d : Nat} {r : List UInt8} (hz : ¬ (16 : Int) < z) (hz0 : -1000 ≤ z) (h : Cur w gc A n c l) (hr : rdH l = .ok (3, nn, r)) (hnn : nn < 2 ^ 64) (hrl : r.length ≤ 1048576)
  (ih : ∀ {w : World} {A : Option Addr} {n c : Nat} {l : List UInt8}, Cur w gc A n c l → l.length ≤ 1048576 → Calls Tryz.prog 98 #[.pointer (some ⟨gc, 0, none⟩), .int .i64 (z + 1)] w (ValPost w gc (rd d l))) :
  Calls Tryz.prog 98 #[.pointer (some ⟨gc, 0, none⟩), .int .i64 z] w (ValPost w gc (lstR (rdN (rd d) nn r))) := by
 obtain ⟨RR, hRR⟩ : ∃ RR, RR = rdN (rd d) nn r := ⟨_, rfl⟩
 have HRR := Lib.hid (show conL [] (rdN (rd d) nn r) = RR by rw [hRR]; cases rdN (rd d) nn r <;> simp [conL])
 generalize hR : lstR (rdN (rd d) nn r) = R
 have HR := Lib.hid (show lstR RR = R by rw [hRR, ← hR])
 clear hR hRR
 have HIH := Lib.hid (fun w A n c l => @ih w A n c l)
 clear ih
 have hlt := h.blk.lt
 have HB1 : Below w.heap.size w (w.alloc (.cells #[.int .i64 0, .int .u64 0, .slice none 0 0, .float .f64 0, .slice none 0 0] 94)) := (Below.refl _ _).alloc (Nat.le_refl _) _
 have HC1 := Lib.hid (h.below HB1)
 have HH := Lib.hid (curHead_any HC1.out)
 rw [hr] at HH
 have HG1 := Lib.hid (grown_below HB1 (some gc))
 clear hr HB1 h
 go_enter Tryz.func98, Tryz.ntmps98
 go_wp2_with fail
 refine HH.out.mono ?_
 rintro e w2 ⟨hg2, hz2, rfl, A2, m2, c2, hc2⟩
 have HV : Hid (VIn w w2 gc r A2 m2 c2) := Lib.hid ⟨World.grownBy.trans HG1.out hg2, hlt, (Blk.new w _ _).grown hg2 (fun e => by have := Option.some.inj e; omega), hc2⟩
 clear hg2 hz2 hc2 HH HC1 HG1
 have HL0 := Lib.hid (ListIn.start HV.out)
 have HC0 := Lib.hid (HV.out.cur.below (((Below.refl w2.heap.size w2).alloc (Nat.le_refl _) (.cells #[] 94)).alloc (by simp) (.cells (cellsV 3 0 none 0 0 0 (some ⟨w2.heap.size, 0, none⟩) 0 0) 94)))
 obtain ⟨K0, hK0⟩ : ∃ K0, K0 = cellsV 3 0 none 0 0 0 (some ⟨w2.heap.size, 0, none⟩) 0 0 := ⟨_, rfl⟩
 have HI := Lib.hid (hK0 ▸ cellsV_info 3 0 none 0 0 0 (some ⟨w2.heap.size, 0, none⟩) 0 0)
 have HO := Lib.hid (hK0 ▸ cellsV_one 3 0 none 0 0 0 (some ⟨w2.heap.size, 0, none⟩) 0 0)
 have HK0 := Lib.hid hK0
 rw [← hK0] at HL0 HC0
 clear hK0
 have hnewA := Lib.hid (heap_alloc_new (w2.alloc (.cells #[] 94)) (.cells #[.int .i64 0, .int .u64 0, .slice none 0 0, .float .f64 0, .slice none 0 0] 94))
 have hszA : (w2.alloc (.cells #[] 94)).heap.size = w2.heap.size + 1 := by simp
 rw [hszA] at hnewA
 go_wp2_with (first | (refine wpList_store_row rfl _ _ _ rfl (w2.heap.size + 1) K0 rfl (by rw [HK0.out]; rfl) 94 _ hnewA.out HI.out (by rw [HK0.out]; rfl) HO.out ?_) | fail)
 have hset : ((w2.alloc (.cells #[] 94)).alloc (.cells #[.int .i64 0, .int .u64 0, .slice none 0 0, .float .f64 0, .slice none 0 0] 94)).setRow (w2.heap.size + 1) K0 = (w2.alloc (.cells #[] 94)).alloc (.cells K0 94) := by
  rw [← hszA]; exact World.setRow_alloc_new _ _ _ _
 rw [hset]
 clear hset hszA hnewA HV HK0 HI HO
 generalize (w2.alloc (.cells #[] 94)).alloc (.cells K0 94) = w3 at *
 generalize w2.heap.size = b0 at *
 clear K0 w2
 have hzw : IntKind.i64.wrap (z + 1) = z + 1 := IntWalk.i64_in _ (by omega)
 go_frame
 go_loopw [6] (fun s6 wr => ∃ (k : Nat) (L : Option Addr) (m c' : Nat) (vs : List Val) (A' : Option Addr) (n' d' : Nat) (l' : List UInt8), s6 = .int .u64 (k : Int) ∧ k < 2 ^ 64 ∧ Hid (conL vs (rdN (rd d) k l') = RR) ∧ Hid (m + l'.length ≤ r.length) ∧ Hid (ListIn w wr gc (b0 + 1) b0 L m c' vs) ∧ Hid (Cur wr gc A' n' d' l'))
  (fun s6 wr => (intOf s6).toNat)
 case atStart => exact ⟨nn, _, 0, 0, [], _, _, _, r, rfl, hnn, HRR, Lib.hid (by omega), HL0, HC0⟩
 case round =>
  obtain ⟨k, L, m, c', vs, A', n', d', l', rfl, hk64, HD, HM, HL, HC⟩ := hrel
  have hgv : wr.cell? ⟨b0 + 1, 4, none⟩ = some (.slice L m c') := HL.out.gvb.cell 4
  have fgv := HL.out.gvb.frozen 4
  by_cases hk0 : 0 < k
  ·obtain ⟨k1, rfl⟩ : ∃ k1, k = k1 + 1 := ⟨k - 1, by omega⟩
   have hkI : (0 : Int) < ((k1 + 1 : Nat) : Int) := by omega
   go_upto_region 23 with fail
   have hll : l'.length ≤ 1048576 := by have := HM.out; omega
   have hdr : Below wr.heap.size wr wr.drew := Same.below ⟨1, rfl⟩ _
   have HCV := Lib.hid (HIH.out wr.drew A' n' d' l' (HC.out.below hdr) hll)
   have hgcne : some (b0 + 1) ≠ some gc := fun e => by have := Option.some.inj e; have := HL.out.lt; have := HL.out.lt2; have := HL.out.lt3; omega
   refine wp_region_late (S := fun w => w.cell? ⟨b0 + 1, 4, none⟩ = some (.slice L m c')) (s := 9) (by kernel_rfl) ?_
   refine rgL 0 rfl (fun _ _ _ h => h) (fun _ => (show wr.drew.cell? ⟨b0 + 1, 4, none⟩ = some (.slice L m c') from hgv)) ?_
   refine late_load (i := 1) (m := 1) (v := ?_) (a' := ?_) rfl (by kernel_rfl) (by kernel_rfl) (by kernel_rfl) (by kernel_rfl) (by rfl) (fun _ _ _ h => h) (by rfl) (show wr.drew.cell? ⟨b0 + 1, 4, none⟩ = some (.slice L m c') from hgv) ?_ ?_ ?_
   rotate_left 2
   ·(intro w hS; have t := hS; go_simp; try with_reducible rfl)
   ·(go_simp; try with_reducible rfl)
   refine rgL 2 rfl (fun _ _ _ h => h) (fun _ => (show wr.drew.cell? ⟨b0 + 1, 4, none⟩ = some (.slice L m c') from hgv)) ?_
   refine rgL 3 rfl (fun _ _ _ h => h) (fun _ => (show wr.drew.cell? ⟨b0 + 1, 4, none⟩ = some (.slice L m c') from hgv)) ?_
   refine rgL 4 rfl (fun _ _ _ h => h) (fun _ => (show wr.drew.cell? ⟨b0 + 1, 4, none⟩ = some (.slice L m c') from hgv)) ?_
   refine late_one (i := 5) (by kernel_rfl) rfl (fun KR hKR => ?_)
   go_simp
   refine HCV.out.mono ?_
   intro e w5 hp
   obtain ⟨hg5, hp⟩ := hp
   have hg5' : wr.grownBy w5 (some gc) := grown_trans (grown_below hdr (some gc)) hg5
   rcases hrd : rd d l' with zz | ⟨x, q⟩
   ·rw [hrd] at hp
    obtain rfl : e = _ := hp
    refine ⟨rfl, grown_trans HL.out.grown hg5', ?_⟩
    have hRE : R = .error zz := by rw [← HR.out, ← HD.out, conL_err vs hrd]; rfl
    rw [hRE]
   rw [hrd] at hp
   obtain ⟨cs, rfl, hxr, A5, n5, d5, hc5⟩ := hp
   have hxr' : valR.R w5 (fun b => b < wr.heap.size) cs x := hxr
   obtain ⟨kx, ux, bx, fx, lx⟩ := x
   obtain ⟨Bx, cBx, Lx, cLx, hcs, _⟩ := valR_iff.1 hxr
   subst hcs
   have hcA : w5.cell? ⟨b0 + 1, 4, none⟩ = some (.slice L m c') := (World.cell?_of_block (hg5'.block _ HL.out.gvb.lt hgcne)).trans hgv
   have hB5 := HL.out.gvb.grown hg5' hgcne
   have hbx : Below w5.heap.size w5 (w5.alloc (.cells #[.int .i64 kx, .int .u64 (ux : Int), .slice Bx bx.length cBx, .float .f64 fx, .slice Lx lx.length cLx] 94)) := (Below.refl _ _).alloc (Nat.le_refl _) _
   have hBx := hB5.below hbx hB5.lt
   have hcB : (w5.alloc (.cells #[.int .i64 kx, .int .u64 (ux : Int), .slice Bx bx.length cBx, .float .f64 fx, .slice Lx lx.length cLx] 94)).cell? ⟨b0 + 1, 4, none⟩ = some (.slice L m c') := hBx.cell 4
   have hml : m + 1 ≤ 1048577 := by have := HM.out; omega
   have hrow := HL.out.row.choose_spec
   have hown5 := (hrow.1.kept hg5' (by
    cases hv : (Value.slice L m c').ownBlock with
    | none => exact .inl rfl
    | some kk => right; intro e; have e := Option.some.inj e; have := (hrow.1.lt kk hv).1; have := HL.out.lt; have := HL.out.lt2; omega)).alloc (.cells #[.int .i64 kx, .int .u64 (ux : Int), .slice Bx bx.length cBx, .float .f64 fx, .slice Lx lx.length cLx] 94)
   obtain ⟨A7, c7, w7, run7, ap7, hc7, hm7⟩ := append_sl elemVal hown5 (Sl.fresh w5 #[.int .i64 kx, .int .u64 (ux : Int), .slice Bx bx.length cBx, .float .f64 fx, .slice Lx lx.length cLx] 94 (0, 0) 1 5 rfl) (by intro u hu; exact valR.one hxr u (by simpa using hu)) (by omega) (by simp only [maxLen]; omega) (by have := HL.out.lt3; have := HL.out.gvb.lt; have := hg5'.size; simp; omega) 92 1
   have HLN := Lib.hid (HL.out.more hg5' hxr' ap7)
   have hB7 := hBx.grown ap7.grown (fun e => HL.out.ne e.symm)
   have hcC : w7.cell? ⟨b0 + 1, 4, none⟩ = some (.slice L m c') := hB7.cell 4
   have hfC := hB7.frozen 4
   have HC7 := Lib.hid (((hc5.below hbx).turnR ap7.grown (fun kk e => by have := (hrow.1.lt kk e).1; have := HL.out.lt; have := HL.out.lt2; omega)).turn (grown_set w7 (b0 + 1) 4 (.slice A7 (m + 1) c7)) (by have := HL.out.lt; have := HL.out.lt2; omega))
   have HMN := Lib.hid (show m + 1 + q.length ≤ r.length by have := HM.out; have := rd_lt hrd; omega)
   have HDN := Lib.hid (show conL (vs ++ [.mk kx ux bx fx lx]) (rdN (rd d) k1 q) = RR by rw [← conL_step vs hrd]; exact HD.out)
   refine hKR _ _ (fun _ => hcA) ?_
   clear hKR KR
   refine late_one (i := 6) (by kernel_rfl) rfl (fun KR hKR => ?_)
   go_simp
   skip
   refine hKR _ _ (fun _ => hcB) ?_
   clear hKR KR
   refine late_one (i := 7) (by kernel_rfl) rfl (fun KR hKR => ?_)
   refine step_run_append (by rfl) (.tmp 71) (.tmp 76) (by rfl) (by rfl) (by rfl) run7 ?_
   refine hKR _ _ (fun _ => hcC) ?_
   clear hKR KR
   refine rgL 8 rfl (fun _ _ _ h => h) (fun _ => hcC) ?_
   refine late_one (i := 9) (by kernel_rfl) rfl (fun KR hKR => ?_)
   go_simp
   skip
   refine hKR _ _ (fun h0 => Bool.noConfusion (show (true : Bool) = false from h0)) ?_
   clear hKR KR
   refine late_done' (by kernel_rfl) ?_ _
   clear run7 ap7 hown5 hrow hbx hBx hB5 hB7 hcA hcB hcC hxr hxr' HCV HD HM HL
   go_wp2_with fail
   go_roundw
   case rel => exact ⟨k1, A7, m + 1, c7, vs ++ [.mk kx ux bx fx lx], A5, n5, d5, q, by go_num, by omega, HDN, HMN, HLN, HC7⟩
   case measure => simp [intOf]
  ·obtain rfl : k = 0 := Nat.eq_zero_of_not_pos hk0
   have hRR : RR = .ok (vs, l') := by rw [← HD.out]; simp [conL, rdN]
   have HRE := Lib.hid (show R = .ok (.mk 3 0 [] 0 vs, l') by rw [← HR.out, hRR]; try rfl)
   obtain ⟨KV, hKV⟩ : ∃ KV, KV = cellsV 3 0 none 0 0 0 L m c' := ⟨_, rfl⟩
   have HI := Lib.hid (hKV ▸ cellsV_info 3 0 none 0 0 0 L m c')
   have HO := Lib.hid (hKV ▸ cellsV_one 3 0 none 0 0 0 L m c')
   have HG := Lib.hid (hKV ▸ HL.out.gvb)
   have HRB := Lib.hid HL.out.resb
   have HVR := Lib.hid (show valR.R (wr.setRow w.heap.size KV) (fun b => b < w.heap.size) KV.toList (.mk 3 0 [] 0 vs) by rw [hKV]; exact HL.out.val _)
   have HSZ := Lib.hid (show (#[.int .i64 0, .int .u64 0, .slice none 0 0, .float .f64 0, .slice none 0 0] : Array Value).size = KV.size by rw [hKV]; rfl)
   clear hRR hKV hgv fgv HD HM
   go_wp2_with (first
    | (refine wpList_load_row rfl 94 (.tmp 11) rfl (b0 + 1) rfl 94 KV (0, 0) _ HG.out Tryz.underlying94 rfl HI.out ?_)
    | (refine wpList_store_row rfl _ _ _ rfl w.heap.size KV rfl rfl 94 _ HRB.out HI.out HSZ.out HO.out ?_))
   refine bodyPost_ret (results_cell_row rfl _ _ w.heap.size 94 KV (0, 0) _ rfl (setRow_heap _ w.heap.size _ _ _ _ HRB.out) Tryz.underlying94 rfl HI.out) rfl ?_
   refine ⟨grown_new HL.out.grown (grown_row _ _ _) (Nat.le_refl _), ?_⟩
   rw [HRE.out]
   exact ⟨KV.toList, by simp, HVR.out, _, _, _, HC.out.turn (grown_row _ _ _) hlt⟩
/-- where the head is none, or one lies too deep -/
theorem value_head {w : World} {gc : Nat} {A : Option Addr} {n c : Nat} {l : List UInt8} {z zz : Int} (hz : ¬ (16 : Int) < z) (h : Cur w gc A n c l) (hr : rdH l = .error zz) :
  Calls Tryz.prog 98 #[.pointer (some ⟨gc, 0, none⟩), .int .i64 z] w (ValPost w gc (.error zz)) := by
 have HB1 : Below w.heap.size w (w.alloc (.cells #[.int .i64 0, .int .u64 0, .slice none 0 0, .float .f64 0, .slice none 0 0] 94)) := (Below.refl _ _).alloc (Nat.le_refl _) _
 have HC1 := Lib.hid (h.below HB1)
 have HH := Lib.hid (curHead_any HC1.out)
 rw [hr] at HH
 have HG1 := Lib.hid (grown_below HB1 (some gc))
 clear hr HB1 h
 go_enter Tryz.func98, Tryz.ntmps98
 go_wp2_with fail
 refine HH.out.mono ?_
 rintro e w2 ⟨hg2, hz2, rfl⟩
 exact ⟨rfl, World.grownBy.trans HG1.out hg2, rfl⟩
theorem value_deep {w : World} {gc : Nat} {l : List UInt8} : Calls Tryz.prog 98 #[.pointer (some ⟨gc, 0, none⟩), .int .i64 17] w (ValPost w gc (.error 24)) := by
 have HB1 : Below w.heap.size w (w.alloc (.cells #[.int .i64 0, .int .u64 0, .slice none 0 0, .float .f64 0, .slice none 0 0] 94)) := (Below.refl _ _).alloc (Nat.le_refl _) _
 have HG1 := Lib.hid (grown_below HB1 (some gc))
 clear HB1
 go_enter Tryz.func98, Tryz.ntmps98
 go_wp2_with fail
 exact ⟨rfl, HG1.out, rfl⟩
theorem value_any : ∀ (d : Nat) {w : World} {gc : Nat} {A : Option Addr} {n c : Nat} {l : List UInt8}, d ≤ 16 → Cur w gc A n c l → l.length ≤ 1048576 →
  Calls Tryz.prog 98 #[.pointer (some ⟨gc, 0, none⟩), .int .i64 ((17 : Int) - (d : Int))] w (ValPost w gc (rd d l)) := by
 intro d
 induction d with
 | zero => intro w gc A n c l _ _ _; exact value_deep (l := l)
 | succ d ih =>
  intro w gc A n c l hd h hl
  have hz : ¬ (16 : Int) < (17 : Int) - ((d + 1 : Nat) : Int) := by omega
  unfold rd
  cases hr : rdH l with
  | error zz => exact value_head hz h hr
  | ok p =>
   obtain ⟨k, nn, r⟩ := p
   obtain ⟨hlr, hk4, hnn⟩ := rdH_back hr
   have hrl : r.length ≤ 1048576 := by rw [hlr, List.length_append] at hl; omega
   simp only []
   by_cases h0 : k = 0
   ·subst h0; exact value_num hz h hr hnn
   rw [if_neg h0]
   by_cases h1 : k = 1
   ·subst h1; exact value_bytes hz h hr hrl
   rw [if_neg h1]
   by_cases h2 : k = 2
   ·subst h2; exact value_flt hz h hr
   rw [if_neg h2]
   obtain rfl : k = 3 := by omega
   have := value_list (d := d) hz (by omega) h hr hnn hrl (fun {w A n c l} h hl => by
    have h2 := ih (w := w) (gc := gc) (A := A) (n := n) (c := c) (l := l) (by omega) h hl
    rwa [show (17 : Int) - ((d + 1 : Nat) : Int) + 1 = (17 : Int) - (d : Int) from by omega])
   have hl2 : lstR (rdN (rd d) nn r) = match rdN (rd d) nn r with | .ok (vs, q) => .ok (.mk 3 0 [] 0 vs, q) | .error e => .error e := by cases rdN (rd d) nn r <;> rfl
   cases hq : rdN (rd d) nn r with
   | error e => rw [hq] at this; exact this
   | ok p => rw [hq] at this; exact this
end Go.Proofs.YtgmbkcjihgphmaaGreat
/- Steps through a region of a deferred function that recovers. -/
namespace Go.Proofs.YtgmbkcjihgphmaaGreat
open Go.RowKit
/-- the region from an operation on (behind a structure, that nothing unfolds it) -/
structure WpR (P : Program) (ops : Array Oper) (Q : Exit → Act → List Frame → World → Prop) (l : List Nat) (a : Act) (cs : List Frame) (w : World) : Prop where
 out : wpOpsS P ops Q l a cs w
section
variable {P : Program} {ops : Array Oper} {Q : Exit → Act → List Frame → World → Prop} {rest : List Nat} {i : Nat} {o : Oper} {a : Act} {cs : List Frame} {w : World}
theorem WpR.val {v : Value} {a' : Act} {w' : World} (ho : ops[i]? = some o) (hg : o.guard = none) (hr : (execOp a.eval o).run P w = .ok (.value v) w') (ha : a.put o.dst v = a') (h : WpR P ops Q rest a' cs w') : WpR P ops Q (i :: rest) a cs w := by
 subst ha
 refine ⟨?_⟩
 simp only [wpOpsS, ho]
 rw [if_pos (by simp [Region.wanted, hg]), hr]
 exact h.out
theorem WpR.skip {a' : Act} {w' : World} (ho : ops[i]? = some o) (hg : o.guard = none) (hr : (execOp a.eval o).run P w = .ok .skip w') (ha : a.put o.dst undef = a') (h : WpR P ops Q rest a' cs w') : WpR P ops Q (i :: rest) a cs w := by
 subst ha
 refine ⟨?_⟩
 simp only [wpOpsS, ho]
 rw [if_pos (by simp [Region.wanted, hg]), hr]
 exact h.out
theorem WpR.recover {v : Value} {a' : Act} {cs' : List Frame} (ho : ops[i]? = some o) (hg : o.guard = none) (hr : (execOp a.eval o).run P w = .ok .recover w) (hd : recoverD cs = some (v, cs')) (ha : a.put o.dst v = a') (h : WpR P ops Q rest a' cs' w) : WpR P ops Q (i :: rest) a cs w := by
 subst ha
 refine ⟨?_⟩
 simp only [wpOpsS, ho]
 rw [if_pos (by simp [Region.wanted, hg]), hr]
 simp only [hd]
 exact h.out
theorem WpR.idle {a' : Act} (ho : ops[i]? = some o) (hg : o.guard = none) (hr : (execOp a.eval o).run P w = .ok .recover w) (hd : recoverD cs = none) (ha : a.put o.dst .nilIface = a') (h : WpR P ops Q rest a' cs w) : WpR P ops Q (i :: rest) a cs w := by
 subst ha
 refine ⟨?_⟩
 simp only [wpOpsS, ho]
 rw [if_pos (by simp [Region.wanted, hg]), hr]
 simp only [hd]
 exact h.out
theorem WpR.done (h : Q .normal a cs w) : WpR P ops Q [] a cs w := ⟨h⟩
end
theorem run_assert_hit {P : Program} {x s : TypeId} {fs : Array Field} (hs : P.underlying s = some (.struct fs)) (v : Value) (w : World) : (Instr.typeAssert (.iface s v) x s true).run P w = .ok (.tuple #[v, .bool true]) w := by
 simp [Instr.typeAssert, run_underlying hs]
theorem run_assert_nil {P : Program} {x s : TypeId} {fs : Array Field} {z : Value} (hs : P.underlying s = some (.struct fs)) (w : World) (hz : (zeroValue s).run P w = .ok z w) : (Instr.typeAssert .nilIface x s true).run P w = .ok (.tuple #[z, .bool false]) w := by
 simp [Instr.typeAssert, run_underlying hs, hz]
end Go.Proofs.YtgmbkcjihgphmaaGreat
