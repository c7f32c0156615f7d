/- Contracts and laws for what the statement reaches, joined: TalkQueue, TalkLackKit, TalkLackAny, TalkAwakeLaw, GrainText, ObjSeal. -/
import Derived.Test.YtgmbkcjihgphmaaGreatJn13
import Derived.Test.YtgmbkcjihgphmaaGreatJn18
import Derived.Test.YtgmbkcjihgphmaaGreatJn19
import Derived.Test.YtgmbkcjihgphmaaGreatJn7
import Derived.Deep.AppendSrc
/- a queue of ids: what stands behind the elements that were taken, in a row of one's own. -/
set_option linter.unusedVariables false
set_option linter.unusedSimpArgs false
namespace Go.Proofs.YtgmbkcjihgphmaaGreat
open Go.RowKit
structure QW (w : World) (base : Nat) (A : Option Addr) (n c : Nat) (q : Ids) : Prop where
 len : n = q.length
 cap : n ≤ c ∧ c ≤ maxLen
 ids : ∀ x ∈ q, x.length = 32
 row : ∃ b off cur, A = some ⟨b, off, none⟩ ∧ base ≤ b ∧ Blk w b 33 cur ∧ (0 < c → off + c * 32 ≤ cur.size) ∧ ∀ j u, (q.flatMap bytesV)[j]? = some u → cur[off + j]? = some u
theorem flat_len : ∀ {q : Ids}, (∀ x ∈ q, x.length = 32) → (q.flatMap bytesV).length = q.length * 32
 | [], _ => rfl
 | x :: q, h => by
  rw [List.flatMap_cons, List.length_append, bytesV_length, h x (by simp), flat_len fun y hy => h y (by simp [hy]), List.length_cons]
  omega
section
variable {w w' : World} {base n c : Nat} {A : Option Addr} {q : Ids} {x : List UInt8}
theorem QW.below (h : QW w base A n c q) (hb : Below w.heap.size w w') : QW w' base A n c q := by
 obtain ⟨b, off, cur, h1, h2, h3, h4⟩ := h.row
 exact ⟨h.len, h.cap, h.ids, b, off, cur, h1, h2, h3.below hb h3.lt, h4⟩
theorem QW.grown (h : QW w base A n c q) {row : Option Nat} (hg : w.grownBy w' row) (hr : ∀ b, row = some b → own (.slice A n c) b → False) : QW w' base A n c q := by
 obtain ⟨b, off, cur, h1, h2, h3, h4⟩ := h.row
 subst h1
 exact ⟨h.len, h.cap, h.ids, b, off, cur, rfl, h2, h3.grown hg (fun e => hr b e.symm rfl), h4⟩
theorem QW.typ (h : QW w base A n c q) {b : Nat} (hb : own (.slice A n c) b) : base ≤ b ∧ ∃ cur, Blk w b 33 cur := by
 obtain ⟨b', off, cur, h1, h2, h3, h4⟩ := h.row
 subst h1
 have hb : some b' = some b := hb
 cases hb
 exact ⟨h2, cur, h3⟩
theorem QW.head (h : QW w base A n c (x :: q)) : ∃ b off, A = some ⟨b, off, none⟩ ∧ b < w.heap.size ∧ base ≤ b ∧ x.length = 32 ∧ At w ⟨b, off, none⟩ (bytesV x).toArray ∧ n = q.length + 1 ∧ n ≤ c := by
 obtain ⟨b, off, cur, h1, h2, h3, h4, h5⟩ := h.row
 refine ⟨b, off, h1, h3.lt, h2, h.ids x (by simp), fun j u hu => ?_, by have := h.len; simpa using this, h.cap.1⟩
 have hu : (bytesV x)[j]? = some u := by simpa using hu
 have hj := (List.getElem?_eq_some_iff.1 hu).1
 exact (h3.cell (off + j)).trans (h5 j u (by rw [List.flatMap_cons, List.getElem?_append_left hj, hu]))
theorem QW.tail {b off : Nat} (h : QW w base (some ⟨b, off, none⟩) n c (x :: q)) : QW w base (if c = 1 then some ⟨b, off, none⟩ else some ⟨b, off + 32, none⟩) (n - 1) (c - 1) q := by
 obtain ⟨b', off', cur, h1, h2, h3, h4, h5⟩ := h.row
 cases h1
 have hn : n = q.length + 1 := by have := h.len; simpa using this
 have hc := h.cap
 have h32 := h.ids x (by simp)
 refine ⟨by omega, by omega, fun y hy => h.ids y (by simp [hy]), ?_⟩
 by_cases e : c = 1
 ·rw [if_pos e]
  have hq : q = [] := List.eq_nil_of_length_eq_zero (by omega)
  subst hq
  exact ⟨b, off, cur, rfl, h2, h3, fun h => by omega, fun j u hu => by simp at hu⟩
 ·rw [if_neg e]
  refine ⟨b, off + 32, cur, rfl, h2, h3, fun h => by have := h4 (by omega); omega, fun j u hu => ?_⟩
  rw [show off + 32 + j = off + (32 + j) by omega]
  refine h5 (32 + j) u ?_
  rw [List.flatMap_cons, List.getElem?_append_right (by rw [bytesV_length, h32]; omega), bytesV_length, h32, ← hu]
  congr 1; omega
end
/-- some cells set, one by one -/
def setA : Array Value → Nat → List Value → Array Value
 | a, _, [] => a
 | a, o, v :: r => setA (a.setIfInBounds o v) (o + 1) r
theorem setA_size : ∀ (vs : List Value) (a : Array Value) (o : Nat), (setA a o vs).size = a.size
 | [], _, _ => rfl
 | v :: r, a, o => by rw [setA, setA_size r]; simp
theorem setA_out : ∀ (vs : List Value) (a : Array Value) (o k : Nat), (k < o ∨ o + vs.length ≤ k) → (setA a o vs)[k]? = a[k]?
 | [], _, _, _, _ => rfl
 | v :: r, a, o, k, h => by
  rw [setA, setA_out r _ _ _ (by simp at h; omega)]
  rw [Array.getElem?_setIfInBounds_ne (by simp at h; omega)]
theorem setA_in : ∀ (vs : List Value) (a : Array Value) (o j : Nat) (u : Value), o + vs.length ≤ a.size → vs[j]? = some u → (setA a o vs)[o + j]? = some u
 | [], _, _, _, _, _, h => by simp at h
 | v :: r, a, o, 0, u, hs, h => by
  simp at h; subst h
  rw [setA, setA_out r _ _ _ (.inl (by omega))]
  rw [Nat.add_zero, Array.getElem?_setIfInBounds_self, if_pos (by simp at hs; omega)]
 | v :: r, a, o, j + 1, u, hs, h => by
  rw [setA, show o + (j + 1) = o + 1 + j by omega]
  exact setA_in r _ _ j u (by simp at hs ⊢; omega) (by simpa using h)
theorem blk_setCells : ∀ (vs : List Value) (w : World) (b o : Nat) (t : TypeId) (K : Array Value), Blk w b t K → Blk (w.setCells b o vs) b t (setA K o vs) ∧ w.grownBy (w.setCells b o vs) (some b)
 | [], w, b, o, t, K, h => ⟨h, grown_refl _ _⟩
 | v :: r, w, b, o, t, K, h => by
  obtain ⟨h1, h2⟩ := blk_setCells r _ b (o + 1) t _ (h.set_ o v)
  exact ⟨h1, grown_trans (grown_set w b o v) h2⟩
theorem QW.push {w : World} {base n c : Nat} {A : Option Addr} {q : Ids} {x : List UInt8} (h : QW w base A n c q) (hx : x.length = 32) (hb : base ≤ w.heap.size) (hn : n ≤ 1000000000) :
  ∃ A' c' w', (Builtin.append_ #[46, 46] 46 #[.slice A n c, .slice (some ⟨w.heap.size, 0, none⟩) 1 1]).run Tryz.prog (w.alloc (.cells (bytesV x).toArray 33)) = .ok (.slice A' (n + 1) c') w' ∧ QW w' base A' (n + 1) c' (q ++ [x]) ∧
   Below base w w' ∧ w.grownBy w' (Value.slice A n c).ownBlock ∧ (∀ b, own (.slice A' (n + 1) c') b → own (.slice A n c) b ∨ w.heap.size ≤ b) := by
 obtain ⟨ht, hi, hzs, hsz⟩ := elemId
 obtain ⟨i, hi, hz, hsize, hby⟩ := info_parts hi
 have hba : Below w.heap.size w (w.alloc (.cells (bytesV x).toArray 33)) := (Below.refl _ _).alloc (Nat.le_refl _) _
 obtain ⟨w0, hw0⟩ : ∃ w0, w0 = w.alloc (.cells (bytesV x).toArray 33) := ⟨_, rfl⟩
 have hs0 : w0.heap.size = w.heap.size + 1 := by rw [hw0]; simp
 rw [← hw0] at hba ⊢
 have hnew : ∀ j u, (bytesV x)[j]? = some u → w0.cell? (Addr.add ⟨w.heap.size, 0, none⟩ j) = some u := fun j u hu => by
  rw [addr_add, hw0, Nat.zero_add, cell_of_row _ w.heap.size j _ _ (0, 0) (heap_alloc_new w _)]
  simpa using hu
 have hl : (bytesV x).length = 32 := by rw [bytesV_length, hx]
 have hsrc : _root_.Go.Src Tryz.prog i.size 46 (.slice (some ⟨w.heap.size, 0, none⟩) 1 1) 1 (bytesV x) w0 := _root_.Go.Src.ofSlice w0 ht _ 1 1 _ (by rw [hsize, hl]) hnew (bytesV_one x)
 have h0 := h.below hba
 obtain ⟨b, off, cur, hA, hbb, hblk, hcc, hcells⟩ := h0.row
 subst hA
 have hfl := flat_len h0.ids
 have hcap := h0.cap
 have hlen := h0.len
 have h32 : ∀ y ∈ q ++ [x], y.length = 32 := fun y hy => by
  rcases List.mem_append.1 hy with h1 | h1
  ·exact h0.ids y h1
  ·have h1 : y = x := by simpa using h1
   subst h1; exact hx
 have hflx : (q ++ [x]).flatMap bytesV = q.flatMap bytesV ++ bytesV x := by simp
 have g1 : w.grownBy w0 (some b) := ⟨hba.os, hba.tape, hba.output, hba.size, fun k hk _ => hba.block k hk⟩
 rcases Nat.lt_or_ge n c with hroom | hroom
 ·have hcc := hcc (by omega)
  have hrun := run_append_room_src (P := Tryz.prog) w0 46 46 46 33 i ht hi b off n c _ 1 _ hsrc (by omega) (fun j hj => by
   rw [hblk.cell, hsize, hl] at *
   rw [Array.getElem?_eq_getElem (by omega)]; rfl) (fun j hj => hblk.frozen _)
  rw [hsize] at hrun
  obtain ⟨k1, k2⟩ := blk_setCells (bytesV x) w0 b (off + n * 32) 33 cur hblk
  refine ⟨_, _, _, hrun, ⟨by simp [hlen], by omega, h32, b, off, _, rfl, hbb, k1, fun _ => by rw [setA_size]; exact hcc, fun j u hu => ?_⟩, (hba.mono hb).trans ((Below.refl base w0).grown k2 (by omega) (fun k e => by have := Option.some.inj e; omega)), grown_trans g1 k2, fun b' hb' => .inl hb'⟩
  rw [hflx] at hu
  rcases Nat.lt_or_ge j (n * 32) with hj | hj
  ·rw [List.getElem?_append_left (by omega)] at hu
   rw [setA_out _ _ _ _ (.inl (by omega))]
   exact hcells j u hu
  ·rw [List.getElem?_append_right (by omega), hfl, ← hlen] at hu
   have := setA_in (bytesV x) cur (off + n * 32) (j - n * 32) u (by rw [hl]; omega) hu
   rw [show off + n * 32 + (j - n * 32) = off + j by omega] at this
   exact this
 ·have holds : ∀ j u, (q.flatMap bytesV)[j]? = some u → w0.drew.cell? (Addr.add ⟨b, off, none⟩ j) = some u := fun j u hu => by
   rw [addr_add]
   exact (hblk.cell (off + j)).trans (hcells j u hu)
  have hold := run_firstCells_some (P := Tryz.prog) w0.drew i.size n ⟨b, off, none⟩ n c (q.flatMap bytesV) (by rw [hsize, hfl, hlen]) holds
  have hby2 : i.bytes = 32 := hby
  have hrun := run_append_grow_src (P := Tryz.prog) w0 46 46 46 33 i _ ht hi hz (some ⟨b, off, none⟩) n c _ hold _ 1 _ hsrc (by omega) (by omega) (growslice_fits (by omega) (by rw [hby2]; omega))
  have hge := grownCap_ge w0 (n + 1) c 33
  have hcm := grownCap_le_maxLen w0 (n + 1) c 33 (by simp only [maxLen]; omega)
  refine ⟨_, _, _, hrun, ⟨by simp [hlen], ⟨hge, hcm⟩, h32, _, 0, _, rfl, by show base ≤ w0.heap.size; omega, heap_alloc_new w0.drew _, fun _ => ?_, fun j u hu => ?_⟩, ?_, ⟨hba.os, hba.tape, hba.output, ?_, fun k hk _ => ?_⟩, fun b' hb' => ?_⟩
  ·simp only [Array.size_append, List.size_toArray, size_zeroCells, hzs, List.length_append, hfl, hl, ← hlen]
   omega
  ·rw [hflx] at hu
   have hj := (List.getElem?_eq_some_iff.1 hu).1
   rw [Nat.zero_add, Array.getElem?_append_left (by simpa using hj)]
   simpa using hu
  ·refine (hba.mono hb).trans ⟨rfl, rfl, rfl, by simp, fun k hk => Below.heap_alloc w0.drew _ k (by show k < w0.heap.size; omega)⟩
  ·simp; omega
  ·rw [Below.heap_alloc w0.drew _ k (by show k < w0.heap.size; omega)]
   exact hba.block k hk
  ·have hb' : some w0.heap.size = some b' := hb'
   right
   have := Option.some.inj hb'
   omega
end Go.Proofs.YtgmbkcjihgphmaaGreat
/- lacking in memory: the queue, what is lacking so far, how often each was seen. -/
namespace Go.Proofs.YtgmbkcjihgphmaaGreat
open Go.RowKit
/-- each that was come by was counted -/
def SeenC (M : IM) (l : Ids) (bd : Nat) : Prop := ∀ x, match M.get x with
 | none => x ∉ l
 | some v => x ∈ l ∧ ∃ j : Nat, v = .int .i64 (j : Int) ∧ 1 ≤ j ∧ j ≤ bd
theorem SeenC.val {M : IM} {l : Ids} {bd : Nat} (h : SeenC M l bd) (x : List UInt8) : ∃ v : Nat, (M.get x).getD (.int .i64 0) = .int .i64 (v : Int) ∧ (v = 0 ↔ x ∉ l) ∧ v ≤ bd := by
 have h := h x
 cases hv : M.get x with
 | none => rw [hv] at h; exact ⟨0, rfl, ⟨fun _ => h, fun _ => rfl⟩, Nat.zero_le _⟩
 | some v =>
  rw [hv] at h
  obtain ⟨h1, j, rfl, h2, h3⟩ := h
  exact ⟨j, rfl, ⟨fun e => by omega, fun e => absurd h1 e⟩, h3⟩
theorem SeenC.inc {M : IM} {l : Ids} {bd v : Nat} (h : SeenC M l bd) (x : List UInt8) (hv : v + 1 ≤ bd + 1) : SeenC (M.set x (.int .i64 ((v + 1 : Nat) : Int))) (if l.contains x = true then l else l ++ [x]) (bd + 1) := fun y => by
 rw [IM.get_set]
 have hmem : ∀ z, z ∈ (if l.contains x = true then l else l ++ [x]) ↔ z ∈ l ∨ z = x := fun z => by
  split
  ·rename_i hc
   have hc : x ∈ l := by simpa using hc
   exact ⟨.inl, fun q => q.elim id (fun e => e ▸ hc)⟩
  ·simp
 by_cases hx : x = y
 ·subst hx
  simp only [beq_self_eq_true, if_true]
  exact ⟨(hmem x).2 (.inr rfl), v + 1, rfl, by omega, hv⟩
 ·have h1 : ¬ (x == y) = true := by simpa using hx
  rw [if_neg h1]
  have h2 := h y
  cases hg : M.get y with
  | none =>
   rw [hg] at h2
   exact fun q => ((hmem y).1 q).elim h2 (fun e => hx e.symm)
  | some u =>
   rw [hg] at h2
   obtain ⟨k1, j, k2, k3, k4⟩ := h2
   exact ⟨(hmem y).2 (.inl k1), j, k2, k3, by omega⟩
structure LK (w0 wr : World) (ms : Nat) (A : Option Addr) (n c : Nat) (qq : Ids) (M : IM) (Ao : Option Addr) (mo co : Nat) (out : Ids) : Prop where
 q : QW wr w0.heap.size A n c qq
 o : RowR oidR 33 wr w0.heap.size Ao mo co out
 sep : ∀ b, own (.slice A n c) b → own (.slice Ao mo co) b → False
 map : MapW wr ms M
 base : w0.heap.size ≤ ms
 below : Below w0.heap.size w0 wr
section
variable {w0 w w' : World} {ms n c mo co : Nat} {A Ao : Option Addr} {qq out : Ids} {M M' : IM} {x : List UInt8}
theorem LK.go (h : LK w0 w ms A n c qq M Ao mo co out) (hb : Below w.heap.size w w') : LK w0 w' ms A n c qq M Ao mo co out :=
 ⟨h.q.below hb, h.o.below hb, h.sep, h.map.below hb, h.base, h.below.trans (hb.mono h.below.size)⟩
theorem LK.q_map (h : LK w0 w ms A n c qq M Ao mo co out) : ¬ own (.slice A n c) ms := fun ho => by
 obtain ⟨_, cur, hc⟩ := h.q.typ ho
 exact blk_map hc h.map rfl
theorem LK.o_map (h : LK w0 w ms A n c qq M Ao mo co out) : ¬ own (.slice Ao mo co) ms := fun ho => by
 obtain ⟨cur, hc⟩ := h.o.typ ho
 exact blk_map hc h.map rfl
theorem LK.turn (h : LK w0 w ms A n c qq M Ao mo co out) (hg : w.grownBy w' (some ms)) (hm : MapW w' ms M') : LK w0 w' ms A n c qq M' Ao mo co out :=
 ⟨h.q.grown hg (fun b e ho => h.q_map (by have e := Option.some.inj e; subst e; exact ho)), h.o.grown hg (fun b e ho => h.o_map (by have e := Option.some.inj e; subst e; exact ho)) (fun _ _ _ k => k), h.sep, hm, h.base,
  h.below.grown hg h.below.size (fun k e => by have := Option.some.inj e; have := h.base; omega)⟩
theorem LK.tail {b off : Nat} (h : LK w0 w ms (some ⟨b, off, none⟩) n c (x :: qq) M Ao mo co out) : LK w0 w ms (if c = 1 then some ⟨b, off, none⟩ else some ⟨b, off + 32, none⟩) (n - 1) (c - 1) qq M Ao mo co out :=
 ⟨h.q.tail, h.o, fun b' h1 h2 => h.sep b' (by split at h1 <;> exact h1) h2, h.map, h.base, h.below⟩
theorem LK.out_push (h : LK w0 w ms A n c qq M Ao mo co out) (hx : x.length = 32) (hm : mo ≤ 1000000000) :
  ∃ A' c' w', (Builtin.append_ #[46, 46] 46 #[.slice Ao mo co, .slice (some ⟨w.heap.size, 0, none⟩) 1 1]).run Tryz.prog (w.alloc (.cells (bytesV x).toArray 33)) = .ok (.slice A' (mo + 1) c') w' ∧ LK w0 w' ms A n c qq M A' (mo + 1) c' (out ++ [x]) := by
 obtain ⟨A', c', w', run, hr, hb, hg, hmv, _, _⟩ := h.o.push elemId h.below.size (av := fun _ => True) (oid_of w _ hx) (fun _ _ _ => trivial) (by omega) (by simp only [maxLen]; omega) 46 1
 refine ⟨A', c', w', run, h.q.grown hg (fun b e ho => h.sep b ho e), hr, fun b h1 h2 => ?_, h.map.same (hg.block ms h.map.lt (fun e => h.o_map e.symm)), h.base, h.below.trans hb⟩
 obtain ⟨_, cur, hc⟩ := h.q.typ h1
 exact hmv.ne b hc.lt (fun ho => h.sep b h1 ho) h2
def avQ (ms : Nat) (A : Option Addr) (n c : Nat) : Av := fun b => b = ms ∨ own (.slice A n c) b
theorem LK.q_push (h : LK w0 w ms A n c qq M Ao mo co out) (hx : x.length = 32) (hn : n ≤ 1000000000) :
  ∃ A' c' w', (Builtin.append_ #[46, 46] 46 #[.slice A n c, .slice (some ⟨w.heap.size, 0, none⟩) 1 1]).run Tryz.prog (w.alloc (.cells (bytesV x).toArray 33)) = .ok (.slice A' (n + 1) c') w' ∧ LK w0 w' ms A' (n + 1) c' (qq ++ [x]) M Ao mo co out ∧
   Moves w w' (avQ ms A n c) (avQ ms A' (n + 1) c') := by
 obtain ⟨A', c', w', run, hq, hb, hg, hnew⟩ := h.q.push hx h.below.size hn
 refine ⟨A', c', w', run, ⟨hq, h.o.grown hg (fun b e ho => h.sep b e ho) (fun _ _ _ k => k), fun b h1 h2 => ?_, h.map.same (hg.block ms h.map.lt (fun e => h.q_map e.symm)), h.base, h.below.trans hb⟩,
  ⟨hg.size, fun b hb' hne => hg.block b hb' (fun e => hne (.inr e.symm)), fun b hb' hne h' => h'.elim (fun q => hne (.inl q)) (fun q => (hnew b q).elim (fun q => hne (.inr q)) (fun q => by omega))⟩⟩
 rcases hnew b h1 with h3 | h3
 ·exact h.sep b h3 h2
 ·have := (h.o.lt h2).2; omega
end
/-- as long as the entry has not got its number -/
structure EV (wq w : World) (ms : Nat) (id : List UInt8) (v : Value) : Prop where
 grown : wq.grownBy w (some ms)
 look : ∃ M, MapW w ms M ∧ (M.get id).getD (.int .i64 0) = v
end Go.Proofs.YtgmbkcjihgphmaaGreat
/- (*talk.Fetch).lacking: level by level. -/
namespace Go.Proofs.YtgmbkcjihgphmaaGreat
open Go.RowKit
attribute [local go_sem ↓] bsId_eq
def LackRel (S : SrcT) (w0 : World) (ms : Nat) (U R : Ids) (s3 s5 : Value) (wr : World) (k : Nat) : Prop :=
 ∃ A n c Ao mo co l i out M, s3 = .slice A n c ∧ s5 = .slice Ao mo co ∧ LK w0 wr ms A n c (l.drop i) M Ao mo co out ∧ SeenC M l (4096 * i + 1) ∧ l.Nodup ∧ (∀ x ∈ l, x ∈ U) ∧ i ≤ l.length ∧ mo ≤ i ∧ lackP S k l i out = some R
def InPure (S : SrcT) (U R : Ids) (k i : Nat) (out lnk : Ids) (j : Nat) (l : Ids) (M : IM) : Prop :=
 SeenC M l (4096 * i + 1 + j) ∧ l.Nodup ∧ (∀ x ∈ l, x ∈ U) ∧ i + 1 ≤ l.length ∧ lackP S k (addIds l (lnk.drop j)) (i + 1) out = some R
theorem InPure.step {S : SrcT} {U R : Ids} {k i : Nat} {out lnk : Ids} {j v : Nat} {l : Ids} {M : IM} {y : List UInt8} (h : InPure S U R k i out lnk j l M) (hy : lnk[j]? = some y) (hU : y ∈ U) (hv : v ≤ 4096 * i + 1 + j) :
  InPure S U R k i out lnk (j + 1) (if l.contains y = true then l else l ++ [y]) (M.set y (.int .i64 ((v + 1 : Nat) : Int))) := by
 obtain ⟨h1, h2, h3, h4, h5⟩ := h
 obtain ⟨h6, h7⟩ := List.getElem?_eq_some_iff.1 hy
 refine ⟨h1.inc y (by omega), ?_, fun z hz => ?_, ?_, ?_⟩
 ·exact addIds_nodup [y] l h2
 ·rcases (addIds_mem [y] l z).1 hz with h8 | h8
  ·exact h3 z h8
  ·have h8 : z = y := by simpa using h8
   subst h8; exact hU
 ·split
  ·exact h4
  ·simp; omega
 ·rw [List.drop_eq_getElem_cons h6, h7] at h5
  exact h5
set_option maxRecDepth 100000 in
set_option maxHeartbeats 16000000 in
theorem lack_any {T : TypeId} {V : Value} {K : Nat} {S : SrcT} {nv g mb : Nat} {root : List UInt8} {m : IM} {ad : AsT} (W0 wE : World) (hS : SrcK W0 T V K S) (hB : Below W0.heap.size W0 wE) (h : FT wE W0.heap.size g T V root mb m ad) (hf : FinS S nv) (hnv : nv + ad.length ≤ 200000) :
  Calls Tryz.prog 29 #[.pointer (some ⟨g, 0, none⟩)] wE (IdsPost wE (lackL (srcF S ad) root)) := by
 have hmm := @run_makeMap Tryz.prog
 obtain ⟨S', hS'⟩ : ∃ S', S' = srcF S ad := ⟨_, rfl⟩
 have hfin := srcF_fin hf ad
 rw [← hS'] at hfin
 obtain ⟨U, hU1, hU2, hU3⟩ := hfin.all root
 have HU := Lib.hid (show U.length ≤ 900000000 by omega)
 have HUC := Lib.hid hU3
 obtain ⟨R, hR⟩ : ∃ R, R = lackL S' root := ⟨_, rfl⟩
 have hRU := hfin.lackL root
 rw [← hR] at hRU
 rw [← hS', ← hR]
 obtain ⟨KI, hKI⟩ : ∃ KI, KI = (bytesV root).toArray := ⟨_, rfl⟩
 have HII := Lib.hid (show (Tryz.prog.info? 33).map (·.size) = some KI.size by rw [hKI]; exact oid_size h.r32)
 have hks : KI.size = 32 := by rw [hKI]; simp [bytesV, h.r32]
 have hbs := bsId_of wE KI hks
 obtain ⟨w1, hw1⟩ : ∃ w1, w1 = wE.alloc (.cells KI 33) := ⟨_, rfl⟩
 have HB1 := Lib.hid (show Below wE.heap.size wE w1 by rw [hw1]; exact (Below.refl _ _).alloc (Nat.le_refl _) _)
 have HK1 := Lib.hid (show Blk w1 wE.heap.size 33 KI by rw [hw1]; exact Blk.new wE _ _)
 have HAT := Lib.hid (show At wE ⟨g, 1, none⟩ KI by rw [hKI]; exact fetch_id_at h.blk)
 have HAT1 := Lib.hid (show At (w1.alloc (.map #[] 0)) ⟨g, 1, none⟩ KI by rw [hKI]; exact fetch_id_at ((h.go HB1.out).go ((Below.refl _ _).alloc (Nat.le_refl _) (.map #[] 0))).blk)
 obtain ⟨w2, hins, hmw, hg2, hsz2⟩ := (mapW_new w1).update h.r32 Tryz.underlying135 (.int .i64 1)
 rw [show idV root = .agg KI by rw [hKI]] at hins
 have HBm := Lib.hid (show Below wE.heap.size wE (w1.alloc (.map #[] 0)) from HB1.out.alloc HB1.out.size _)
 have HB2 := Lib.hid (show Below wE.heap.size wE w2 from HBm.out.grown hg2 HBm.out.size (fun k hk => by cases hk; exact HB1.out.size))
 have HK2 := Lib.hid (show Blk w2 wE.heap.size 33 KI from (HK1.out.alloc _).grown hg2 (fun e => by have := HK1.out.lt; have e := Option.some.inj e; omega))
 have HQ0 := Lib.hid (show QW w2 wE.heap.size (some ⟨wE.heap.size, 0, none⟩) 1 1 [root] from
  ⟨rfl, ⟨Nat.le_refl _, by simp [maxLen]⟩, fun x hx => by have hx : x = root := (by simpa using hx); subst hx; exact h.r32, _, 0, KI, rfl, Nat.le_refl _, HK2.out, fun _ => by omega, fun j u hu => by
   rw [hKI, Nat.zero_add]
   simpa using hu⟩)
 have HRL0 := Lib.hid (show LackRel S' wE w1.heap.size U R (.slice (some ⟨wE.heap.size, 0, none⟩) 1 1) (.slice none 0 0) w2 ((nv + ad.length) * 4096 + 2) from
  ⟨_, _, _, none, 0, 0, [root], 0, [], _, rfl, rfl, ⟨HQ0.out, RowR.nil _ _ _ _, fun b _ h2 => by simp [own, Value.ownBlock] at h2, hmw, HB1.out.size, HB2.out⟩, fun x => by
   rw [IM.get_set]
   by_cases hx : root = x
   ·subst hx
    simp only [beq_self_eq_true, if_true]
    exact ⟨by simp, 1, rfl, Nat.le_refl _, Nat.le_refl _⟩
   ·have h1 : ¬ (root == x) = true := by simpa using hx
    rw [if_neg h1]
    show x ∉ [root]
    simpa using fun e => hx e.symm, by simp, fun x hx => by have hx : x = root := (by simpa using hx); subst hx; exact hU2, Nat.zero_le _, Nat.le_refl _, hRU⟩)
 have HFT := Lib.hid h
 have HGT := Lib.hid (fun w' (hb : Below wE.heap.size wE w') x (hx : x.length = 32) => show Calls Tryz.prog 20 #[.pointer (some ⟨g, 0, none⟩), idV x] w' (SrcPost w' (S' x)) by
  have h1 := fget_any W0 w' hS (hB.trans (hb.mono hB.size)) (h.go hb) x hx
  rw [← hS'] at h1
  exact h1)
 have HW1 := Lib.hid hw1
 generalize hN : (nv + ad.length) * 4096 + 2 = N at *
 clear hS hB h hf hnv hKI hw1 hmw hg2 HBm HB1 hfin hU1 hU2 hU3 hR hRU hN HQ0 HB2 HK2 hS' hks HFT
 go_enter Tryz.func29, Tryz.ntmps29
 go_upto_region 2 with (first
  | (refine wpList_load_at rfl _ _ rfl g 1 rfl KI _ HAT.out Tryz.underlying33 rfl HII.out ?_)
  | (refine wpList_build1 rfl (.tmp 16) rfl (.agg KI) _ rfl hbs ?_) | fail)
 rw [← HW1.out]
 go_upto_region 3 with (first
  | (refine wpList_load_at rfl _ _ rfl g 1 rfl KI _ HAT1.out Tryz.underlying33 rfl HII.out ?_) | fail)
 clear hins HAT HAT1 HK1 HW1 hbs
 generalize hms : w1.heap.size = ms at *
 clear hms hsz2
 go_wp2_with fail
 go_loopw [3, 5] (fun s3 s5 wr => ∃ A n c Ao mo co, s3 = .slice A n c ∧ s5 = .slice Ao mo co ∧ ∃ k, Hid (LackRel S' wE ms U R s3 s5 wr k)) (fun s3 s5 wr => leastN (LackRel S' wE ms U R s3 s5 wr))
 case atStart => exact ⟨_, _, _, _, _, _, rfl, rfl, N, HRL0⟩
 case round =>
  obtain ⟨A, n, c, Ao, mo, co, rfl, rfl, k0, hk0⟩ := hrel
  obtain ⟨hrel, hmin⟩ := leastN_spec hk0.out
  obtain ⟨k, hk⟩ : ∃ k, k = leastN (LackRel S' wE ms U R (.slice A n c) (.slice Ao mo co) wr) := ⟨_, rfl⟩
  rw [← hk] at hrel
  have HK := Lib.hid hk
  clear hk hk0 hmin HRL0
  obtain ⟨A', n', c', Ao', mo', co', l, i, out, M, e1, e2, hM, hSn, hnd, hsb, hil, hmo, hRu⟩ := hrel
  injection e1 with e1 e1' e1''
  injection e2 with e2 e2' e2''
  subst e1 e1' e1'' e2 e2' e2''
  have HPU := Lib.hid (And.intro hSn (And.intro hnd hsb))
  have HLU := Lib.hid (show l.length ≤ 900000000 from Nat.le_trans (List.Nodup.length_le_of_subset hnd (fun x hx => hsb x hx)) HU.out)
  have hlen := hM.q.len
  rw [List.length_drop] at hlen
  have HM := Lib.hid hM
  cases k with
  | zero => exact absurd hRu (by simp [lackP])
  | succ k =>
   have HIL := Lib.hid (And.intro hil (And.intro hmo hlen))
   cases hli : l[i]? with
   | none =>
    have hn : n = 0 := by have := List.getElem?_eq_none_iff.1 hli; omega
    subst hn
    have HRR := Lib.hid (show R = out by
     unfold lackP at hRu
     rw [hli] at hRu
     exact (Option.some.inj hRu).symm)
    clear hRu hM hSn hnd hsb hil hmo hlen HGT hli
    go_wp2_with fail
    go_ret
    rw [HRR.out]
    exact ⟨HM.out.below, Ao, mo, co, rfl, HM.out.o⟩
   | some x =>
    obtain ⟨hlt, hxe⟩ := List.getElem?_eq_some_iff.1 hli
    have hdr : l.drop i = x :: l.drop (i + 1) := by rw [List.drop_eq_getElem_cons hlt, hxe]
    rw [hdr] at HM
    obtain ⟨b1, o1, rfl, hb1, hbb, hx32, hat, hn1, hnc⟩ := HM.out.q.head
    have HRU := Lib.hid (show (match S' x with
     | none => lackP S' k l (i + 1) (out ++ [x])
     | some b => lackP S' k (addIds l (lkL (linksG b))) (i + 1) out) = some R by
     have := hRu
     unfold lackP at this
     rw [hli] at this
     exact this)
    obtain ⟨KX, hKX⟩ : ∃ KX, KX = (bytesV x).toArray := ⟨_, rfl⟩
    have HI := Lib.hid (show (Tryz.prog.info? 33).map (·.size) = some KX.size by rw [hKX]; exact oid_size hx32)
    rw [← hKX] at hat
    have HATX := Lib.hid hat
    have hks : KX.size = 32 := by rw [hKX]; simp [bytesV, hx32]
    have HZZ := Lib.hid (show zID.size = KX.size by rw [hks]; rfl)
    have HO := Lib.hid (show KX.all (·.oneCell') = true by rw [hKX]; exact oid_one _)
    have HNB := Lib.hid (Blk.new wr 33 zID)
    have hba : Below wr.heap.size wr (wr.alloc (.cells KX 33)) := (Below.refl _ _).alloc (Nat.le_refl _) _
    have HK4 := Lib.hid (Blk.new wr 33 KX)
    have HM4 := Lib.hid (HM.out.go hba).tail
    have HX32 := Lib.hid hx32
    have HKX := Lib.hid hKX
    have hnI : ((n : Int) = 0) ↔ False := ⟨fun h => by omega, False.elim⟩
    have hn0 : (0 : Int) < (n : Int) := by omega
    have hn0' : 0 < n := by omega
    have q3 : (1 : Int) ≤ (n : Int) := by omega
    have q4 : 1 ≤ n := by omega
    have q5 : (n : Int) ≤ (c : Int) := by omega
    have HLI := Lib.hid hlt
    clear hRu hM hSn hnd hsb hil hmo hlen hx32 hKX hat hba hdr hxe hlt hbb HM hli hn1
    go_upto_region 6 with (first | (refine wpList_load_at rfl _ _ rfl b1 o1 rfl KX _ HATX.out Tryz.underlying33 rfl HI.out ?_) | (refine wpList_store_row rfl _ _ _ rfl wr.heap.size KX rfl rfl 33 _ HNB.out HI.out HZZ.out HO.out ?_) | fail)
    rw [World.setRow_alloc_new]
    go_frame
    change Code.wp _ _ _ _ (wr.alloc (.cells KX 33))
    generalize hgo : wr.heap.size = go4 at *
    generalize wr.alloc (.cells KX 33) = w4 at *
    clear HNB HATX hgo
    go_upto_region 7 with fail
    obtain ⟨A2, hA2⟩ : ∃ A2, A2 = (if c = 1 then some (⟨b1, o1, none⟩ : Addr) else some ⟨b1, o1 + 32, none⟩) := ⟨_, rfl⟩
    rw [← hA2] at HM4 ⊢
    have HG4 := Lib.hid (HGT.out w4 HM4.out.below x HX32.out)
    rw [show idV x = .agg KX by rw [HKX.out]] at HG4
    clear hA2 hnI hn0 hn0' q3 q5
    go_wp2_with (first | (refine wpList_load_at rfl _ _ rfl go4 0 rfl KX _ (At.of_row HK4.out) Tryz.underlying33 rfl HI.out ?_) | fail)
    refine HG4.out.mono ?_
    intro e w5 hp
    have HM5 := Lib.hid (HM4.out.go hp.1)
    have HK5 := Lib.hid (HK4.out.below hp.1 HK4.out.lt)
    have hbs5 := fun w => bsId_of w KX hks
    obtain ⟨sx, hsx⟩ : ∃ sx, sx = S' x := ⟨_, rfl⟩
    rw [← hsx] at hp
    have HSX := Lib.hid hsx
    clear HM4 HK4 HG4 hks hsx
    cases sx with
    | none =>
     obtain ⟨_, A5, n5, c5, rfl⟩ := hp
     obtain ⟨A6, c6, w6, hrun, hm6⟩ := HM5.out.out_push HX32.out (by have := HIL.out; have := HLU.out; omega)
     rw [← HKX.out] at hrun
     have HR6 := Lib.hid (show LackRel S' wE ms U R (.slice A2 (n - 1) (c - 1)) (.slice A6 (mo + 1) c6) w6 k from
      ⟨A2, n - 1, c - 1, A6, mo + 1, c6, l, i + 1, out ++ [x], M, rfl, rfl, hm6, fun y => by
       have := HPU.out.1 y
       cases hg : M.get y with
       | none => rw [hg] at this; exact this
       | some v =>
        rw [hg] at this
        obtain ⟨k1, j, k2, k3, k4⟩ := this
        exact ⟨k1, j, k2, k3, by omega⟩, HPU.out.2.1, HPU.out.2.2, HLI.out, by have := HIL.out; omega, by
       have := HRU.out
       rw [← HSX.out] at this
       exact this⟩)
     clear hm6 HRU HSX HM5
     go_wp2_with (first
      | (refine wpList_load_at rfl _ _ rfl go4 0 rfl KX _ (At.of_row HK5.out) Tryz.underlying33 rfl HI.out ?_)
      | (refine wpList_build1 rfl (.tmp 41) rfl (.agg KX) _ rfl (hbs5 _) ?_)
      | (at_builtin; refine wpList_run_append hrun ?_ ?_ ?_; exact rfl; exact rfl) | fail)
     go_roundw
     case rel => exact ⟨_, _, _, _, _, _, rfl, rfl, k, HR6⟩
     case measure => exact Nat.lt_of_le_of_lt ((leastN_spec HR6.out).2 k HR6.out) (by rw [← HK.out]; exact Nat.lt_succ_self k)
    | some b =>
     obtain ⟨hb5, A5, c5, rfl, hs5, hc5, hm5⟩ := hp
     have HLN := Lib.hid (links_any A5 b.length c5 b w5 (slOf_bytes hs5) hc5 hm5)
     obtain ⟨nb, hnb⟩ : ∃ nb, nb = b.length := ⟨_, rfl⟩
     rw [← hnb] at HLN ⊢
     obtain ⟨lx, hlx⟩ : ∃ lx, lx = linksG b := ⟨_, rfl⟩
     rw [← hlx] at HLN
     have HRU2 := Lib.hid (show lackP S' k (addIds l (lkL lx)) (i + 1) out = some R by
      have := HRU.out
      rw [← HSX.out] at this
      rw [hlx]; exact this)
     have HUL := Lib.hid (show ∀ y ∈ lkL lx, y ∈ U by rw [hlx]; exact HUC.out x b HSX.out.symm)
     have HLX := Lib.hid (show (lkL lx).length ≤ 4096 by rw [hlx]; exact lkL_few b)
     clear hs5 hc5 hm5 hnb hlx HRU HSX hb5
     go_wp2_with fail
     refine HLN.out.mono ?_
     intro e w6 hp
     obtain ⟨⟨A6, c6, rfl, hs6, hl6, hm6⟩, hb6⟩ := hp.lk
     have HM6 := Lib.hid (HM5.out.go hb6)
     have HS6 := Lib.hid (show SlOf oidR w6 (avQ ms A2 (n - 1) (c - 1)) A6 (lkL lx) from hs6.stable (Moves.less w6 (fun y _ hy => by
      rcases hy with rfl | hy
      ·exact HM5.out.map.lt
      ·obtain ⟨_, cur, hc⟩ := HM5.out.q.typ hy
       exact hc.lt)))
     obtain ⟨nl, hnl⟩ : ∃ nl, nl = (lkL lx).length := ⟨_, rfl⟩
     rw [← hnl] at HLX ⊢
     have HNL := Lib.hid hnl.symm
     have hnl9 := HLX.out
     obtain ⟨lnk, hlnk⟩ : ∃ lnk, lnk = lkL lx := ⟨_, rfl⟩
     rw [← hlnk] at HS6 HNL HRU2 HUL
     clear hp hs6 hl6 hm6 hb6 HLN hnl hlnk HM5 HK5 hbs5 HLX
     have HP0 := Lib.hid (show InPure S' U R k i out lnk 0 l M from ⟨fun y => by
       have := HPU.out.1 y
       exact this, HPU.out.2.1, HPU.out.2.2, HLI.out, by rw [List.drop_zero]; exact HRU2.out⟩)
     clear HRU2 HPU
     have HIM := Lib.hid (show i ≤ 900000000 ∧ mo ≤ i from by have := HIL.out; have := HLU.out; omega)
     clear HLU HIL HLI
     go_wp2_with fail
     go_loopw [3, 51] (fun s3 s51 wr => ∃ (j : Nat) (A n c : _) (l : Ids) (M : IM), j ≤ nl ∧ s51 = .int .i64 (j : Int) ∧ s3 = .slice A n c ∧ Hid (LK wE wr ms A n c (l.drop (i + 1)) M Ao mo co out) ∧ Hid (InPure S' U R k i out lnk j l M) ∧ Hid (SlOf oidR wr (avQ ms A n c) A6 lnk)) (fun s3 s51 wr => nl - (intOf s51).toNat)
     case atStart => exact ⟨0, A2, n - 1, c - 1, l, M, Nat.zero_le _, rfl, rfl, HM6, HP0, HS6⟩
     case round =>
      obtain ⟨j, A, n, c, l, M, hj, rfl, rfl, HMR, HPR, HSR⟩ := hrel
      by_cases hlt : j < nl
      ·have hltI : (j : Int) < (nl : Int) := by omega
       obtain ⟨b2, o2, y, rfl, hb2, hy, hy32, haty⟩ := oids_look HSR.out HNL.out hlt
       obtain ⟨KY, hKY⟩ : ∃ KY, KY = (bytesV y).toArray := ⟨_, rfl⟩
       have HIY := Lib.hid (show (Tryz.prog.info? 33).map (·.size) = some KY.size by rw [hKY]; exact oid_size hy32)
       rw [← hKY] at haty
       have HATY := Lib.hid haty
       have hks : KY.size = 32 := by rw [hKY]; simp [bytesV, hy32]
       have hby := fun w => bsId_of w KY hks
       have HZY := Lib.hid (show zID.size = KY.size by rw [hks]; rfl)
       have HOY := Lib.hid (show KY.all (·.oneCell') = true by rw [hKY]; exact oid_one _)
       have HNB := Lib.hid (Blk.new wr 33 zID)
       obtain ⟨v, hv, hv0, hvb⟩ := HPR.out.1.val y
       have HPN := Lib.hid (HPR.out.step hy (HUL.out y (List.mem_of_getElem? hy)) hvb)
       obtain ⟨v2, hv2⟩ : ∃ v2, v2 = v + 1 := ⟨_, rfl⟩
       rw [← hv2] at HPN
       have HV2 := Lib.hid hv2
       have HV0 := Lib.hid hv0
       have hvw : IntKind.i64.wrap ((v : Int) + 1) = (v2 : Int) := by
        have hi := HIM.out.1
        rw [IntWalk.i64_in _ (by omega)]
        omega
       have HQN := Lib.hid (show n ≤ 900000000 by
        have h1 := HMR.out.q.len
        have h2 := List.Nodup.length_le_of_subset HPR.out.2.1 (fun x hx => HPR.out.2.2.1 x hx)
        have h3 := HU.out
        rw [List.length_drop] at h1
        omega)
       have hba : Below wr.heap.size wr (wr.alloc (.cells KY 33)) := (Below.refl _ _).alloc (Nat.le_refl _) _
       obtain ⟨wq, hwq⟩ : ∃ wq, wq = (wr.alloc (.cells KY 33)).drew := ⟨_, rfl⟩
       have hbq : Below wr.heap.size wr wq := by rw [hwq]; exact hba.trans ((Same.below ⟨1, rfl⟩ _))
       have HMQ := Lib.hid (HMR.out.go hbq)
       have HKQ := Lib.hid (show Blk wq wr.heap.size 33 KY by rw [hwq]; exact Blk.new wr 33 KY)
       have HSQ := Lib.hid (HSR.out.stable (Moves.of_below hbq))
       have HNO := Lib.hid (show some wr.heap.size ≠ some ms from fun e => blk_map HKQ.out HMQ.out.map (Option.some.inj e))
       have HKY := Lib.hid hKY
       have HY32 := Lib.hid hy32
       have HEC := Lib.hid (show EV wq wq ms y (.int .i64 (v : Int)) from ⟨grown_refl _ _, M, HMQ.out.map, hv⟩)
       have HEL := Lib.hid (fun w' (hE : EV wq w' ms y (.int .i64 (v : Int))) => show (Instr.lookup 135 (.map (some ms)) (.agg KY) false).run Tryz.prog w' = .ok (.int .i64 (v : Int)) w' by
        obtain ⟨M', h1, h2⟩ := hE.look
        have h3 := h1.lookup HY32.out Tryz.underlying135 (zeroInt w') false
        rw [h2, show idV y = .agg KY by rw [HKY.out]] at h3
        exact h3)
       obtain ⟨w8, s, hent, hmw8, hea8, hg8, _⟩ := HMQ.out.map.entry HY32.out Tryz.underlying135 (zeroInt wq)
       obtain ⟨w9, hsto, hmw9, hg9, _⟩ := hmw8.entryStore (t := 135) hea8 (.int .i64 (v2 : Int))
       rw [show idV y = .agg KY by rw [HKY.out]] at hent
       rw [hv] at hent hmw8 hmw9
       have hc8 : EV wq w8 ms y (.int .i64 (v : Int)) := ⟨hg8, _, hmw8, by rw [IM.get_set]; simp⟩
       rw [IM.set_set _ _ _ _ HMQ.out.map.nodup] at hmw9
       have HWQ := Lib.hid hwq
       clear hy hy32 haty hks hv hv0 hvb hv2 hba hwq hbq hmw8 hea8 hKY HMR HSR
       go_upto_region 14 with (first | (refine wpList_load_at rfl _ _ rfl b2 (o2 + j * 32) rfl KY _ HATY.out Tryz.underlying33 rfl HIY.out ?_) | (refine wpList_store_row rfl _ _ _ rfl wr.heap.size KY rfl rfl 33 _ HNB.out HIY.out HZY.out HOY.out ?_) | fail)
       rw [World.setRow_alloc_new]
       go_frame
       change Code.wp _ _ _ _ (wr.alloc (.cells KY 33))
       generalize hgo : wr.heap.size = go7 at *
       generalize wr.alloc (.cells KY 33) = w7 at *
       clear HNB HATY HZY HOY hgo
       refine wp_region_late (S := fun w' => EV wq w' ms y (.int .i64 (v : Int))) (s := 6) (by kernel_rfl) ?_
       change wpAnyL _ _ _ _ _ _ _ _ _ (World.drew _)
       rw [← HWQ.out]
       refine rgL 0 rfl (fun _ _ _ h => h) (fun _ => HEC.out) ?_
       refine late_load (i := 1) (m := 1) (v := ?_) (a' := ?_) rfl (by kernel_rfl) (by kernel_rfl) (by kernel_rfl) (by kernel_rfl) (by rfl) (fun _ _ _ h => h) (by rfl) HEC.out ?_ ?_ ?_
       rotate_left 2
       ·(intro w hS; refine exec_load_at 33 (.tmp 12) ?_ go7 0 ?_ KY _ (At.of_row (HKQ.out.grown hS.grown HNO.out)) Tryz.underlying33 rfl HIY.out; exact rfl; exact rfl)
       ·(go_simp; try with_reducible rfl)
       refine late_load (i := 2) (m := 2) (v := ?_) (a' := ?_) rfl (by kernel_rfl) (by kernel_rfl) (by kernel_rfl) (by kernel_rfl) (by rfl) (fun _ _ _ h => h) (by rfl) HEC.out ?_ ?_ ?_
       rotate_left 2
       ·(intro w hS; have t := HEL.out w hS; go_simp; try with_reducible rfl)
       ·(go_simp; try with_reducible rfl)
       refine rgL 3 rfl (fun _ _ _ h => h) (fun _ => HEC.out) ?_
       refine late_one (i := 4) (by kernel_rfl) rfl (fun KR hKR => ?_)
       refine step_mapEntry rfl (.tmp 55) (.tmp 56) rfl rfl rfl hent ?_
       refine hKR _ _ (fun _ => hc8) ?_
       clear hKR KR
       refine rgL 5 rfl (fun _ _ _ h => h) (fun _ => hc8) ?_
       refine late_one (i := 6) (by kernel_rfl) rfl (fun KR hKR => ?_)
       refine step_entryStore rfl (.tmp 55) (.tmp 60) (.tmp 58) rfl rfl rfl rfl hsto ?_
       refine hKR _ _ (fun h0 => Bool.noConfusion (show (true : Bool) = false from h0)) ?_
       clear hKR KR
       refine late_done' (by kernel_rfl) ?_ _
       go_upto_region 15 with fail
       have HM9 := Lib.hid (HMQ.out.turn (grown_trans hg8 hg9) hmw9)
       have HK9 := Lib.hid (HKQ.out.grown (grown_trans hg8 hg9) HNO.out)
       have HS9 := Lib.hid (HSQ.out.stable (⟨(grown_trans hg8 hg9).size, fun b hb hne => (grown_trans hg8 hg9).block b hb (fun e => hne (.inl (Option.some.inj e))), fun _ _ q => q⟩ : Moves wq w9 (avQ ms A n c) (avQ ms A n c)))
       have hlk9 : (Instr.lookup 135 (.map (some ms)) (.agg KY) false).run Tryz.prog w9 = .ok (.int .i64 (v2 : Int)) w9 := by
        have h1 := HM9.out.map.lookup HY32.out Tryz.underlying135 (zeroInt w9) false
        rw [show idV y = .agg KY by rw [HKY.out], IM.get_set] at h1
        simpa using h1
       clear hent hsto HEC HEL hc8 HMQ HKQ HNO HSQ hmw9 hg8 hg9 hvw
       rcases Nat.eq_zero_or_pos v with h0 | h0
       ·have hx1 : y ∉ l := HV0.out.1 h0
        have hx2 : ¬ l.contains y = true := by simpa using hx1
        rw [if_neg hx2] at HPN
        have HPN2 := Lib.hid HPN.out
        obtain ⟨A10, c10, w10, hrun, hm10, hmv⟩ := HM9.out.q_push HY32.out (by have := HQN.out; omega)
        rw [← HKY.out] at hrun
        have HM10 := Lib.hid (show LK wE w10 ms A10 (n + 1) c10 ((l ++ [y]).drop (i + 1)) (M.set y (.int .i64 (v2 : Int))) Ao mo co out by
         rw [List.drop_append_of_le_length HPR.out.2.2.2.1]; exact hm10)
        have HS10 := Lib.hid (HS9.out.stable hmv)
        have hv2 : (v2 : Int) = 1 := by have := HV2.out; omega
        clear hx1 hx2 hm10 hmv HPN HM9 HS9
        go_wp2_with (first
         | (refine wpList_load_at rfl _ _ rfl go7 0 rfl KY _ (At.of_row HK9.out) Tryz.underlying33 rfl HIY.out ?_)
         | (refine wpList_build1 rfl (.tmp 66) rfl (.agg KY) _ rfl (hby _) ?_)
         | (at_builtin; refine wpList_run_append hrun ?_ ?_ ?_; exact rfl; exact rfl) | fail)
        go_roundw
        case rel => exact ⟨j + 1, A10, n + 1, c10, l ++ [y], _, by omega, by go_num, rfl, HM10, HPN2, HS10⟩
        case measure => simp [intOf]; omega
       ·have hx1 : y ∈ l := by
         rcases Classical.em (y ∈ l) with h | h
         ·exact h
         ·have := HV0.out.2 h; omega
        have hx2 : l.contains y = true := by simpa using hx1
        rw [if_pos hx2] at HPN
        have HPN2 := Lib.hid HPN.out
        have z1 : ((v2 : Int) = 1) ↔ False := ⟨fun h => by have := HV2.out; omega, False.elim⟩
        have z2 : (v2 = 1) ↔ False := ⟨fun h => by have := HV2.out; omega, False.elim⟩
        have z3 : ((v2 : Int) == 1) = false := by rw [beq_eq_false_iff_ne]; exact fun h => z1.1 h
        clear hx1 hx2 HPN
        go_wp2_with (first
         | (refine wpList_load_at rfl _ _ rfl go7 0 rfl KY _ (At.of_row HK9.out) Tryz.underlying33 rfl HIY.out ?_) | fail)
        go_roundw
        case rel => exact ⟨j + 1, A, n, c, l, _, by omega, by go_num, rfl, HM9, HPN2, HS9⟩
        case measure => simp [intOf]; omega
      ·have hltI : ¬ (j : Int) < (nl : Int) := by omega
       have HR6 := Lib.hid (show LackRel S' wE ms U R (.slice A n c) (.slice Ao mo co) wr k from
        ⟨A, n, c, Ao, mo, co, l, i + 1, out, M, rfl, rfl, HMR.out, fun y => by
         have := HPR.out.1 y
         cases hg : M.get y with
         | none => rw [hg] at this; exact this
         | some v =>
          rw [hg] at this
          obtain ⟨k1, j, k2, k3, k4⟩ := this
          exact ⟨k1, j, k2, k3, by omega⟩, HPR.out.2.1, HPR.out.2.2.1, HPR.out.2.2.2.1, by have := HIM.out; omega, by
         have h1 := HPR.out.2.2.2.2
         rw [List.drop_of_length_le (by rw [HNL.out]; omega)] at h1
         exact h1⟩)
       clear HMR HPR HSR
       go_wp2_with fail
       go_roundw
       case rel => exact ⟨_, _, _, _, _, _, rfl, rfl, k, HR6⟩
       case measure => exact Nat.lt_of_le_of_lt ((leastN_spec HR6.out).2 k HR6.out) (by rw [← HK.out]; exact Nat.lt_succ_self k)
end Go.Proofs.YtgmbkcjihgphmaaGreat
/- awake's numbers, plain: a chunk that is lacking is wanted, and taken once. -/
namespace Go.Proofs.YtgmbkcjihgphmaaGreat
open Go.RowKit
def chA : List UInt8 := [11, 4, 13, 97, 98, 99]
abbrev rtA : List UInt8 := shaG chA
set_option maxRecDepth 100000 in
theorem chA_put : putChunk [97, 98, 99] = .ok chA := by
 have h : (match putChunk [97, 98, 99] with | .ok o => o == chA | .error _ => false) = true := by decide +kernel
 cases hp : putChunk [97, 98, 99] with
 | ok o => rw [hp] at h; rw [eq_of_beq h]
 | error z => rw [hp] at h; cases h
set_option maxRecDepth 100000 in
theorem chA_links : linksG chA = .ok [] := by
 have h : (match linksG chA with | .ok o => o == [] | .error _ => false) = true := by decide +kernel
 cases hp : linksG chA with
 | ok o => rw [hp] at h; rw [eq_of_beq h]
 | error z => rw [hp] at h; cases h
set_option maxRecDepth 100000 in
theorem no_links : lkB (linksG [110, 111]) = false := by
 have h : (match linksG [110, 111] with | .ok o => false | .error _ => true) = true := by decide +kernel
 cases hp : linksG [110, 111] with
 | ok o => rw [hp] at h; cases h
 | error z => rfl
set_option maxRecDepth 100000 in
theorem chA_block : (bytesU (blockS shaH (padded chA)) == List.replicate 32 0) = false := by decide +kernel
theorem rtA_ne : rtA ≠ List.replicate 32 0 := by
 have hl : (padded chA).length = 64 := by decide +kernel
 intro e
 have h := chA_block
 unfold rtA shaG at e
 rw [blocksS_step (by omega), blocksS_short (by rw [List.length_drop]; omega), blockS_take] at e
 rw [e] at h
 simp at h
theorem lack_gone {S : SrcT} {root : List UInt8} (h : S root = none) : lackL S root = [root] := lackL_eq (n := 2) (by simp [lackP, h])
theorem lack_leaf {S : SrcT} {root b : List UInt8} (h : S root = some b) (hl : linksG b = .ok []) : lackL S root = [] := lackL_eq (n := 2) (by simp [lackP, h, hl, lkL, addIds])
theorem mark_leaf {S : SrcT} {root b : List UInt8} (h : S root = some b) (hl : linksG b = .ok []) : markL S root = .ok [root] := markL_eq (n := 3) (by simp [markP, pushP, h, hl, reachP])
/-- nobody's records -/
abbrev srcN : SrcT := getB []
abbrev adA : AsT := [(rtA, chA)]
noncomputable abbrev lackA : AsT → List (List UInt8) := fun ad => lackL (srcF srcN ad) rtA
theorem srcA : srcF srcN adA rtA = some chA := by simp [srcF, getA]
theorem srcA0 : srcF srcN [] rtA = none := rfl
theorem srcAz : srcF srcN adA (List.replicate 32 0) = none := by
 have h : (rtA == List.replicate 32 0) = false := by simpa using rtA_ne
 simp only [srcF, getA, List.find?_cons, h]
 rfl
theorem lackA0 : lackA [] = [rtA] := lack_gone srcA0
theorem lackA1 : lackA adA = [] := lack_leaf srcA chA_links
theorem takeA : takeF lackA [[110, 111], chA, chA] [] 0 = (adA, 1) := by
 have h1 : lkB (linksG chA) = true := by rw [chA_links]; rfl
 have h2 : (lackA []).contains (shaG chA) = true := by rw [lackA0]; simp
 have h3 : (lackA adA).contains (shaG chA) = false := by rw [lackA1]; simp
 unfold takeF
 rw [no_links]
 simp only [Bool.false_and, if_neg (show ¬ (false = true) by decide)]
 unfold takeF
 rw [h1, h2]
 simp only [Bool.and_self, if_true]
 unfold takeF
 rw [h1, h3]
 simp [takeF]
theorem recsA : recsF srcN adA rtA = [chA] := by
 unfold recsF
 rw [mark_leaf srcA chA_links]
 simp [recM, getA]
theorem serveA : serveF (srcF srcN adA) [rtA, List.replicate 32 0] 0 [] = [chA] := by
 have h : ¬ (65536 < 0 + chA.length ∧ ([] : List (List UInt8)) ≠ []) := by simp
 simp only [serveF, srcA, srcAz, if_neg h]
 rfl
end Go.Proofs.YtgmbkcjihgphmaaGreat
/- grain.Text, grain.Row. -/
namespace Go.Proofs.YtgmbkcjihgphmaaGreat
open Go.RowKit
set_option maxRecDepth 100000 in
set_option maxHeartbeats 1000000 in
theorem text_any (s : ByteArray) (w : World) (hs : s.size ≤ maxLen) : Calls Tryz.prog 36 #[.string s] w fun e w' => (∃ cs : List Value, e = .returned (.agg cs.toArray) ∧ valR.R w' (fun b => b < w.heap.size) cs (.mk 1 0 s.data.toList 0 [])) ∧ Below w.heap.size w w' := by
 obtain ⟨A, c, w2, hrun, hsl, hc, hm, hb, b, rfl, hbw⟩ := toBytes (w.alloc (.cells #[.int .i64 0, .int .u64 0, .slice none 0 0, .float .f64 0, .slice none 0 0] 94)) s hs
 have HRUN := Lib.hid hrun
 have HSL := Lib.hid hsl
 have HB := Lib.hid hb
 have hbb : w.heap.size + 1 ≤ b := by simpa using hbw
 have HBL := Lib.hid ((Blk.new w 94 #[.int .i64 0, .int .u64 0, .slice none 0 0, .float .f64 0, .slice none 0 0]).below hb (by simp))
 obtain ⟨KV, hKV⟩ : ∃ KV, KV = cellsV 1 0 (some ⟨b, 0, none⟩) s.size c 0 none 0 0 := ⟨_, rfl⟩
 have HI := Lib.hid (show (Tryz.prog.info? 94).map (·.size) = some KV.size by rw [hKV]; exact cellsV_info _ _ _ _ _ _ _ _ _)
 have HO := Lib.hid (show KV.all (·.oneCell') = true by rw [hKV]; exact cellsV_one _ _ _ _ _ _ _ _ _)
 have HKV := Lib.hid hKV
 have HC := Lib.hid (And.intro hc hm)
 clear hKV hsl hb hc hm hbw
 go_enter Tryz.func36, Tryz.ntmps36
 go_wp2_with (first | (refine wpList_store_row rfl _ _ _ rfl w.heap.size KV rfl (by rw [HKV.out]; rfl) 94 _ HBL.out HI.out (by rw [HKV.out]; rfl) HO.out ?_) | fail)
 refine bodyPost_ret (results_cell_row rfl _ _ w.heap.size 94 KV (0, 0) _ rfl (setRow_heap _ w.heap.size _ _ _ _ HBL.out) Tryz.underlying94 rfl HI.out) rfl ?_
 have hlen : s.data.toList.length = s.size := Array.length_toList
 have hsl' : Sl (w2.setRow w.heap.size KV) 1 (some ⟨b, 0, none⟩) s.size (bytesV s.data.toList) := by
  refine ⟨HSL.out.1, fun hn => ?_⟩
  obtain ⟨b', off, he, hb', hc'⟩ := HSL.out.2 hn
  have e := Option.some.inj he
  injection e with e1 e2
  subst e1 e2
  refine ⟨b, 0, rfl, by simpa using hb', fun j u hu => ?_⟩
  rw [cell_setRow_other w2 w.heap.size KV ⟨b, 0 + j, none⟩ (by show b ≠ w.heap.size; omega)]
  exact hc' j u hu
 refine ⟨⟨KV.toList, by simp, ?_⟩, below_row w _ _ KV _ (HB.out.mono (by simp))⟩
 rw [HKV.out]
 rw [HKV.out] at hsl'
 refine valR_iff.2 ⟨some ⟨b, 0, none⟩, c, none, 0, by rw [hlen]; rfl, by decide, by omega, by omega, ⟨by rw [hlen]; exact HC.out.1, HC.out.2, bytesV s.data.toList, by rw [hlen]; exact hsl', each_byte_mk _, fun _ b' off e => ?_⟩, Nat.le_refl _, Nat.zero_le _, SlOf.nil⟩
 have e := Option.some.inj e
 injection e with e1 e2
 omega
set_option maxRecDepth 100000 in
set_option maxHeartbeats 1000000 in
theorem row_any (L : Option Addr) (m c : Nat) (vs : List Val) (w : World) (hs : SlOf valR w no L vs) (hm : m = vs.length) (hml : m ≤ 1048576) : Calls Tryz.prog 43 #[.slice L m c] w fun e w' => (∃ cs : List Value, e = .returned (.agg cs.toArray) ∧ valR.R w' no cs (.mk 3 0 [] 0 vs)) ∧ Below w.heap.size w w' := by
 subst hm
 obtain ⟨xs, hsl, hes, _⟩ := hs
 have hb2 : Below w.heap.size w ((w.alloc (.cells #[.int .i64 0, .int .u64 0, .slice none 0 0, .float .f64 0, .slice none 0 0] 94)).alloc (.cells #[] 94)) := ((Below.refl _ _).alloc (Nat.le_refl _) _).alloc (by simp) _
 have hown := own_made (base := w.heap.size + 1) (w.alloc (.cells #[.int .i64 0, .int .u64 0, .slice none 0 0, .float .f64 0, .slice none 0 0] 94)) 94 5 (by simp)
 obtain ⟨A7, c7, w7, run7, ap7, hc7, hm7⟩ := append_sl elemVal hown (hsl.below hb2) (hes.all (p := fun u => u.oneCell' = true) (fun _ _ h => valR.one h)) (by omega) (by simp only [maxLen]; omega) (by simp) 92 c
 simp only [Nat.zero_add, List.nil_append] at run7 ap7 hc7
 have hb7 : Below w.heap.size w w7 := hb2.trans (ap7.below.mono (Nat.le_succ _))
 have HR7 := Lib.hid ap7.own
 have HES := Lib.hid (hes.mono fun _ _ h => valR.stable h ((show Moves w w no (fun b => w.heap.size ≤ b) from ⟨Nat.le_refl _, fun _ _ _ => rfl, fun b h _ h' => by omega⟩).trans (Moves.of_below hb7)))
 have HB7 := Lib.hid hb7
 have HBL := Lib.hid (((Blk.new w 94 #[.int .i64 0, .int .u64 0, .slice none 0 0, .float .f64 0, .slice none 0 0]).alloc (.cells #[] 94)).below ap7.below (Nat.lt_succ_self _))
 obtain ⟨KV, hKV⟩ : ∃ KV, KV = cellsV 3 0 none 0 0 0 A7 vs.length c7 := ⟨_, rfl⟩
 have HI := Lib.hid (show (Tryz.prog.info? 94).map (·.size) = some KV.size by rw [hKV]; exact cellsV_info _ _ _ _ _ _ _ _ _)
 have HO := Lib.hid (show KV.all (·.oneCell') = true by rw [hKV]; exact cellsV_one _ _ _ _ _ _ _ _ _)
 have HKV := Lib.hid hKV
 have HC := Lib.hid (And.intro hc7 hm7)
 clear hKV hsl hes hb2 hown hb7 ap7 hc7 hm7
 have hsz : (w.alloc (.cells #[.int .i64 0, .int .u64 0, .slice none 0 0, .float .f64 0, .slice none 0 0] 94)).heap.size = w.heap.size + 1 := by simp
 rw [hsz] at run7
 go_enter Tryz.func43, Tryz.ntmps43
 go_wp2_with (first | (at_builtin; refine wpList_run_append run7 ?_ ?_ ?_; exact rfl; exact rfl) | (refine wpList_store_row rfl _ _ _ rfl w.heap.size KV rfl (by rw [HKV.out]; rfl) 94 _ HBL.out HI.out (by rw [HKV.out]; rfl) HO.out ?_) | fail)
 refine bodyPost_ret (results_cell_row rfl _ _ w.heap.size 94 KV (0, 0) _ rfl (setRow_heap _ w.heap.size _ _ _ _ HBL.out) Tryz.underlying94 rfl HI.out) rfl ?_
 refine ⟨⟨KV.toList, by simp, ?_⟩, below_setRow HB7.out (Nat.le_refl _) KV⟩
 have hrow := own_row HR7.out (g := w.heap.size) (cs := KV) (Nat.lt_succ_self _)
 have hmv : Moves w7 (w7.setRow w.heap.size KV) (fun b => w.heap.size ≤ b) no := (Moves.grown (grown_row w7 w.heap.size KV) (Nat.le_refl _)).trans (Moves.forget _ _)
 rw [show KV.toList = (cellsV 3 0 none 0 0 0 A7 vs.length c7).toList from by rw [HKV.out]]
 exact valR_iff.2 ⟨none, 0, A7, c7, rfl, by decide, by omega, by omega, ⟨Nat.le_refl _, Nat.zero_le _, SlOf.nil⟩, HC.out.1, HC.out.2, xs, Sl.ofOwn hrow, HES.out.mono fun _ _ k => valR.stable k hmv, fun _ _ _ _ h => h⟩
end Go.Proofs.YtgmbkcjihgphmaaGreat
/- object.seal, object.PutChunk. -/
namespace Go.Proofs.YtgmbkcjihgphmaaGreat
open Go.RowKit
attribute [local go_sem ↓] cvt_eq
theorem value_sizeOf (w : World) : (sizeOf 94).run Tryz.prog w = .ok 5 w := by
 have h := val_info
 cases hq : Tryz.prog.info? 94 with
 | none => rw [hq] at h; simp at h
 | some i =>
  rw [hq] at h
  have h1 : i.size = 5 := by simpa using h
  simp [sizeOf, typeInfo, hq, h1]
abbrev zVal : Array Value := #[.int .i64 0, .int .u64 0, .slice none 0 0, .float .f64 0, .slice none 0 0]
theorem value_zero (w : World) : (zeroValue 94).run Tryz.prog w = .ok (.agg zVal) w := by kernel_rfl
theorem bsVal_of (w : World) (K : Array Value) (hK : K.size = 5) : (Instr.buildSlice 92 1 #[(0, .agg K)]).run Tryz.prog w = .ok (.slice (some ⟨w.heap.size, 0, none⟩) 1 1) (w.alloc (.cells K 94)) := by
 unfold Instr.buildSlice
 have hf : ∀ cells : Array Value, cells.size = 5 → Instr.fill (fun i => some (i * 5, 5)) cells [(0, .agg K)] = some K := by
  intro cells hc
  have hK2 : (Value.agg K).cells = K := rfl
  have h := fill_all K cells (by omega)
  unfold Instr.fill
  simp only [hK2]
  have hc1 : (decide (K.size ≠ 5) || decide (0 * 5 + K.size > cells.size)) = false := by simp [hK, hc]
  simp only [Nat.zero_mul] at hc1 ⊢
  rw [if_neg (by rw [hc1]; decide)]
  unfold Instr.fill
  rw [h]
 simp [run_underlying Tryz.underlying92, Sem.run_bind, value_sizeOf, value_zero, Value.cells]
 rw [hf _ (by simp)]
 simp [newRow, Sem.run_bind]
theorem row_oneV {w : World} {K : Array Value} {base : Nat} (hK : K.size = 5) (hb : base ≤ w.heap.size) : (w.alloc (.cells K 94)).ownsRow base 94 5 (.slice (some ⟨w.heap.size, 0, none⟩) 1 1) 1 K.toList :=
 ⟨by simp [hK], .inr ⟨_, 1, K, rfl, hb, heap_alloc_new w _, Nat.le_refl _, by simp [maxLen], by simp [hK], by rw [List.take_of_length_le (by simp [hK])]⟩⟩
theorem EncPost.lower {w w2 w' : World} {r : Res (List UInt8)} {e : Ending} (h : EncPost w2 r e w') (hb : Below w.heap.size w w2) : EncPost w r e w' := by
 obtain ⟨h1, h2⟩ := h
 refine ⟨hb.trans (h1.mono hb.size), ?_⟩
 cases r with
 | error z => exact h2
 | ok o => obtain ⟨A, m, c, he, hm, ho⟩ := h2; exact ⟨A, m, c, he, hm, own_mono ho hb.size⟩
/-- the kind ahead of the values -/
theorem seal_row {w : World} {base : Nat} {K : Array Value} {kv : Val} {L : Option Addr} {m : Nat} {vs : List Val} (hK : valR.R w no K.toList kv) (hb : base ≤ w.heap.size) (h : SlOf valR w no L vs) (hm : m = vs.length) (h8 : m ≤ 8) (c0 : Nat) :
  ∃ A' c' w', (Builtin.append_ #[92, 92] 92 #[.slice (some ⟨w.heap.size, 0, none⟩) 1 1, .slice L m c0]).run Tryz.prog (w.alloc (.cells K 94)) = .ok (.slice A' (1 + m) c') w' ∧
   SlOf valR w' no A' (kv :: vs) ∧ Below base w w' ∧ 1 + m ≤ c' ∧ c' ≤ maxLen := by
 have hba : Below w.heap.size w (w.alloc (.cells K 94)) := (Below.refl _ _).alloc (Nat.le_refl _) _
 have hk5 : K.size = 5 := by have := valR.len hK; rw [Array.length_toList] at this; exact this
 obtain ⟨vs', hs0, he, _⟩ := h
 have hs := hs0.below hba
 rw [← hm] at hs
 have h1 : ∀ u ∈ vs', u.oneCell' = true := fun u hu => he.all (p := fun u => u.oneCell' = true) (fun _ _ h => valR.one h) u hu
 obtain ⟨A', c', w', run, ap, hc, hcm⟩ := append_sl (P := Tryz.prog) elemVal (row_oneV hk5 (Nat.le_refl _)) hs h1 (by omega) (by simp only [maxLen]; omega) (by simp) 92 c0
 have hbw : Below w.heap.size w w' := hba.trans ap.below
 have hmv : Moves w w' no (own (.slice A' (1 + m) c')) := ⟨hbw.size, fun b hb _ => hbw.block b hb, fun b hb _ ho => by have := (ap.own.lt b ho).1; omega⟩
 have hown := ap.own
 have hl : 1 + m = (kv :: vs).length := by rw [List.length_cons, hm]; omega
 rw [hl] at hown hmv run hc ⊢
 exact ⟨A', c', w', run, SlOf.ofOwn hown (.cons (valR.stable hK hmv) (he.mono fun _ _ k => valR.stable k hmv)), hbw.mono hb, hc, hcm⟩
set_option maxRecDepth 100000 in
set_option maxHeartbeats 4000000 in
theorem seal_any (kind : Nat) (L : Option Addr) (m c : Nat) (vs : List Val) (w : World) (hk : kind ≤ 4) (hs : SlOf valR w no L vs) (hm : m = vs.length) (hml : m ≤ 5) (hbk : bulkVs vs ≤ 1000000) :
  Calls Tryz.prog 35 #[.int .i64 (kind : Int), .slice L m c] w (EncPost w (sealG kind vs)) := by
 obtain ⟨R, hR⟩ : ∃ R, R = sealG kind vs := ⟨_, rfl⟩
 have HR := Lib.hid (show R = enc (.mk 3 0 [] 0 (numV kind :: vs)) from hR)
 rw [← hR]
 have hkw : IntKind.u64.wrap (kind : Int) = (kind : Int) := by rw [wrap_u64]; omega
 have HNUM := Lib.hid (num_any kind w)
 have HS := Lib.hid hs
 have HM := Lib.hid hm
 have HBK := Lib.hid hbk
 have HK4 := Lib.hid (show kind < 2 ^ 64 by omega)
 clear hR hs hm hbk hk
 go_enter Tryz.func35, Tryz.ntmps35
 go_wp2_with fail
 refine HNUM.out.mono ?_
 rintro e w2 ⟨rfl, hb2⟩
 obtain ⟨K, hK⟩ : ∃ K, K = cellsV 0 kind none 0 0 0 none 0 0 := ⟨_, rfl⟩
 have hk5 : K.size = 5 := by rw [hK]; rfl
 have hbs := fun w => bsVal_of w K hk5
 have hv : valR.R w2 no K.toList (numV kind) := by
  rw [hK]
  exact valR_iff.2 ⟨none, 0, none, 0, rfl, by decide, HK4.out, by omega, ⟨Nat.le_refl _, Nat.zero_le _, SlOf.nil⟩, Nat.le_refl _, Nat.zero_le _, SlOf.nil⟩
 obtain ⟨A3, c3, w3, run3, hsl3, hb3, hc3, hcm3⟩ := seal_row hv (Nat.le_refl _) (HS.out.below hb2) HM.out (by omega) c
 have HROW := Lib.hid (row_any A3 (1 + m) c3 (numV kind :: vs) w3 hsl3 (by rw [List.length_cons, HM.out]; omega) (by omega))
 have HB3 := Lib.hid (hb2.trans (hb3.mono hb2.size))
 rw [← hK]
 clear hK hk5 hv hsl3 hb3 hc3 hcm3 hb2 HNUM HS
 go_wp2_with (first
  | (refine wpList_build1 rfl (.tmp 8) rfl (.agg K) _ rfl (hbs _) ?_)
  | (at_builtin; refine wpList_run_append run3 ?_ ?_ ?_; exact rfl; exact rfl)
  | fail)
 refine HROW.out.mono ?_
 rintro e w4 ⟨⟨cs, rfl, hv4⟩, hb4⟩
 have HB4 := Lib.hid (HB3.out.trans (hb4.mono HB3.out.size))
 have HENC := Lib.hid (encode_big _ w4 hv4 (by simp only [bulkV, bulkVs, numV, List.length_nil]; have := HBK.out; omega))
 clear hv4 hb4 HROW run3 hbs
 obtain ⟨KV, hKV⟩ : ∃ KV, KV = cs.toArray := ⟨_, rfl⟩
 rw [← hKV] at HENC ⊢
 clear hKV
 go_wp2_with fail
 refine HENC.out.mono ?_
 intro e w5 hp
 have hp := hp.lower HB4.out
 rw [← HR.out] at hp
 have HP := Lib.hid hp
 clear hp HENC
 have hp := HP.out
 cases R with
 | error z =>
  obtain ⟨h1, h2⟩ := hp
  have h2 : e = _ := h2
  subst h2
  have H1 := Lib.hid h1
  clear h1 HP
  go_wp2_with fail
  go_ret2
  exact ⟨H1.out, rfl⟩
 | ok o =>
  obtain ⟨h1, A9, m9, c9, rfl, h3, h4⟩ := hp
  have H1 := Lib.hid (And.intro h1 (And.intro h3 h4))
  clear h1 h3 h4 HP
  go_wp2_with fail
  go_ret2
  exact ⟨H1.out.1, A9, m9, c9, rfl, H1.out.2⟩
end Go.Proofs.YtgmbkcjihgphmaaGreat
