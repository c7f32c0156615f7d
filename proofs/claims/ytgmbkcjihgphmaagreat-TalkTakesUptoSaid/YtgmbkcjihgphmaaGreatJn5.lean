/- Contracts and laws for what the statement reaches, joined: RowR, RowB, RowX, TalkServe, TalkStrs, TalkTexts, TalkSlices, GrainMore. -/
import Derived.Test.YtgmbkcjihgphmaaGreatJn1
import Derived.Test.YtgmbkcjihgphmaaGreatJn2
import Derived.Test.YtgmbkcjihgphmaaGreatJn3
import Derived.Test.YtgmbkcjihgphmaaGreatJn4
import Derived.Lib.SliceRun
/- Own rows of anything that a reading reads: begun, kept, one element put behind. -/
set_option linter.unusedVariables false
namespace Go.Proofs.YtgmbkcjihgphmaaGreat
open Go.RowKit
/-- a row of the call's own, whose elements read as l -/
structure RowR {α : Type} (r : Rd α) (e : TypeId) (w : World) (base : Nat) (A : Option Addr) (m c : Nat) (l : List α) : Prop where
 row : ∃ xs, w.ownsRow base e r.k (.slice A m c) m xs ∧ Each (r.R w (own (.slice A m c))) xs l
 len : m = l.length
section
variable {α : Type} {r : Rd α} {e : TypeId} {w w' : World} {base m c : Nat} {A : Option Addr} {l : List α}
theorem RowR.nil (r : Rd α) (e : TypeId) (w : World) (base : Nat) : RowR r e w base none 0 0 [] := ⟨⟨[], World.ownsRow_nil _ _ _ _, .nil⟩, rfl⟩
theorem RowR.below (h : RowR r e w base A m c l) (hb : Below w.heap.size w w') : RowR r e w' base A m c l := by
 obtain ⟨xs, h1, h2⟩ := h.row
 exact ⟨⟨xs, own_below h1 hb, h2.mono fun _ _ k => r.stable k (Moves.of_below hb)⟩, h.len⟩
theorem RowR.cap (h : RowR r e w base A m c l) : m ≤ c ∧ c ≤ maxLen := by
 obtain ⟨xs, h1, h2⟩ := h.row
 exact own_cap h1
theorem RowR.lt (h : RowR r e w base A m c l) {b : Nat} (hb : own (.slice A m c) b) : base ≤ b ∧ b < w.heap.size := by
 obtain ⟨xs, h1, h2⟩ := h.row
 exact h1.lt b hb
theorem RowR.at (h : RowR r e w base A m c l) (hm : 0 < m) : ∃ g, A = some ⟨g, 0, none⟩ ∧ base ≤ g ∧ g < w.heap.size := by
 obtain ⟨xs, h1, h2⟩ := h.row
 exact own_at h1 hm
/-- what is written in blocks that the row's parts keep away from -/
theorem RowR.grown {row : Option Nat} (h : RowR r e w base A m c l) (hg : w.grownBy w' row) (hr : ∀ k, row = some k → own (.slice A m c) k → False) (he : ∀ x ∈ l, ∀ cs, r.R w (own (.slice A m c)) cs x → r.R w' (own (.slice A m c)) cs x) : RowR r e w' base A m c l := by
 obtain ⟨xs, h1, h2⟩ := h.row
 refine ⟨⟨xs, h1.kept hg ?_, ?_⟩, h.len⟩
 ·cases hv : (Value.slice A m c).ownBlock with
  | none => exact .inl rfl
  | some k => right; intro e; exact hr k e.symm hv
 ·clear h h1
  induction h2 with
  | nil => exact .nil
  | cons k1 k2 ih => exact .cons (he _ (by simp) _ k1) (ih fun x hx => he x (by simp [hx]))
/-- the row as a slice that reads as l, in new memory -/
theorem RowR.sl (h : RowR r e w base A m c l) : SlOf r w no A l := by
 obtain ⟨xs, h1, h2⟩ := h.row
 refine ⟨xs, by rw [← h.len]; exact Sl.ofOwn h1, h2.mono fun _ _ k => r.stable k (Moves.forget w _), fun _ _ _ _ q => q⟩
/-- the same, away from what was there ahead of base, where the parts are so too -/
theorem SlOf.away {av : Av} (h : SlOf r w av A l) (B : Nat) (hn : 0 < l.length → ∀ b off, A = some ⟨b, off, none⟩ → B ≤ b) (he : ∀ x cs, r.R w av cs x → r.R w (fun b => b < B) cs x) : SlOf r w (fun b => b < B) A l := by
 obtain ⟨vs, h1, h2, h3⟩ := h
 exact ⟨vs, h1, h2.mono fun _ _ k => he _ _ k, fun h0 b off e => by have := hn h0 b off e; omega⟩
/-- one more element, out of the one-element slice that '.., x)' makes -/
theorem RowR.push {P : Program} {t : TypeId} {z : Value} {byt : Nat} (E : ElemOf P t e z r.k byt) (h : RowR r e w base A m c l) (hb : base ≤ w.heap.size) {av : Av} {cs : List Value} {x : α} (hx : r.R w av cs x)
  (hav : ∀ b, b < w.heap.size → own (.slice A m c) b → av b) (hbytes : (m + 1) * byt ≤ 140737488355328) (hm : m + 1 ≤ maxLen) (ty : TypeId) (c0 : Nat) :
  ∃ A' c' w', (Builtin.append_ #[t, t] ty #[.slice A m c, .slice (some ⟨w.heap.size, 0, none⟩) 1 c0]).run P (w.alloc (.cells cs.toArray e)) = .ok (.slice A' (m + 1) c') w' ∧ RowR r e w' base A' (m + 1) c' (l ++ [x]) ∧
   Below base w w' ∧ w.grownBy w' (Value.slice A m c).ownBlock ∧ Moves w w' (own (.slice A m c)) (own (.slice A' (m + 1) c')) ∧ m + 1 ≤ c' ∧ c' ≤ maxLen := by
 obtain ⟨xs, h1, h2⟩ := h.row
 have hba : Below w.heap.size w (w.alloc (.cells cs.toArray e)) := (Below.refl _ _).alloc (Nat.le_refl _) _
 obtain ⟨A', c', w', run, ap, hc, hcm⟩ := append_sl E (own_below h1 hba) (Sl.fresh w cs.toArray e (0, 0) 1 r.k (by simpa using r.len hx)) (fun u hu => r.one hx u (by simpa using hu)) hbytes hm (by simp; omega) ty c0
 have m1 : Moves w (w.alloc (.cells cs.toArray e)) (own (.slice A m c)) (own (.slice A m c)) := Moves.of_below hba
 have m2 : Moves (w.alloc (.cells cs.toArray e)) w' (own (.slice A m c)) (own (.slice A' (m + 1) c')) := Moves.of_app ap
 have hxx : r.R w' (own (.slice A' (m + 1) c')) cs x := r.stable hx (((Moves.less w (av' := own (.slice A m c)) hav).trans m1).trans m2)
 refine ⟨A', c', w', run, ⟨⟨xs ++ cs, ?_, (h2.mono fun _ _ k => r.stable k (m1.trans m2)).snoc hxx⟩, by simp [h.len]⟩, (hba.mono hb).trans (ap.below), ?_, m1.trans m2, hc, hcm⟩
 ·have := ap.own
  simpa using this
 ·have g1 : w.grownBy (w.alloc (.cells cs.toArray e)) (Value.slice A m c).ownBlock := ⟨hba.os, hba.tape, hba.output, hba.size, fun k hk _ => hba.block k hk⟩
  exact g1.trans ap.grown
end
end Go.Proofs.YtgmbkcjihgphmaaGreat
/- Own rows whose elements stay away from what was there ahead of base. -/
namespace Go.Proofs.YtgmbkcjihgphmaaGreat
open Go.RowKit
def avB (base : Nat) (v : Value) : Av := fun b => b < base ∨ own v b
structure RowB {α : Type} (r : Rd α) (e : TypeId) (w : World) (base : Nat) (A : Option Addr) (m c : Nat) (l : List α) : Prop where
 row : ∃ xs, w.ownsRow base e r.k (.slice A m c) m xs ∧ Each (r.R w (avB base (.slice A m c))) xs l
 len : m = l.length
section
variable {α : Type} {r : Rd α} {e : TypeId} {w w' : World} {base m c : Nat} {A : Option Addr} {l : List α}
theorem RowB.nil (r : Rd α) (e : TypeId) (w : World) (base : Nat) : RowB r e w base none 0 0 [] := ⟨⟨[], World.ownsRow_nil _ _ _ _, .nil⟩, rfl⟩
theorem RowB.below (h : RowB r e w base A m c l) (hb : Below w.heap.size w w') : RowB r e w' base A m c l := by
 obtain ⟨xs, h1, h2⟩ := h.row
 exact ⟨⟨xs, own_below h1 hb, h2.mono fun _ _ k => r.stable k (Moves.of_below hb)⟩, h.len⟩
theorem RowB.lt (h : RowB r e w base A m c l) {b : Nat} (hb : own (.slice A m c) b) : base ≤ b ∧ b < w.heap.size := by
 obtain ⟨xs, h1, h2⟩ := h.row
 exact h1.lt b hb
theorem RowB.cap (h : RowB r e w base A m c l) : m ≤ c ∧ c ≤ maxLen := by
 obtain ⟨xs, h1, h2⟩ := h.row
 exact own_cap h1
theorem RowB.sl (h : RowB r e w base A m c l) : SlOf r w (fun b => b < base) A l := by
 obtain ⟨xs, h1, h2⟩ := h.row
 refine ⟨xs, by rw [← h.len]; exact Sl.ofOwn h1, h2.mono fun _ _ k => r.stable k (Moves.less w (fun b _ h => .inl h)), fun h0 b off e => ?_⟩
 subst e
 have := (h1.lt b rfl).1
 show ¬ b < base
 omega
theorem RowB.push {P : Program} {t : TypeId} {z : Value} {byt : Nat} (E : ElemOf P t e z r.k byt) (h : RowB r e w base A m c l) (hb : base ≤ w.heap.size) {av : Av} {cs : List Value} {x : α} (hx : r.R w av cs x)
  (hav : ∀ b, b < w.heap.size → avB base (.slice A m c) b → av b) (hbytes : (m + 1) * byt ≤ 140737488355328) (hm : m + 1 ≤ maxLen) (ty : TypeId) (c0 : Nat) :
  ∃ A' c' w', (Builtin.append_ #[t, t] ty #[.slice A m c, .slice (some ⟨w.heap.size, 0, none⟩) 1 c0]).run P (w.alloc (.cells cs.toArray e)) = .ok (.slice A' (m + 1) c') w' ∧ RowB r e w' base A' (m + 1) c' (l ++ [x]) ∧
   Below base w w' ∧ w.grownBy w' (Value.slice A m c).ownBlock ∧ m + 1 ≤ c' ∧ c' ≤ maxLen := by
 obtain ⟨xs, h1, h2⟩ := h.row
 have hba : Below w.heap.size w (w.alloc (.cells cs.toArray e)) := (Below.refl _ _).alloc (Nat.le_refl _) _
 obtain ⟨A', c', w', run, ap, hc, hcm⟩ := append_sl E (own_below h1 hba) (Sl.fresh w cs.toArray e (0, 0) 1 r.k (by simpa using r.len hx)) (fun u hu => r.one hx u (by simpa using hu)) hbytes hm (by simp; omega) ty c0
 have m1 : Moves w (w.alloc (.cells cs.toArray e)) (avB base (.slice A m c)) (avB base (.slice A m c)) := Moves.of_below hba
 have k2 : Moves (w.alloc (.cells cs.toArray e)) w' (own (.slice A m c)) (own (.slice A' (m + 1) c')) := Moves.of_app ap
 have m2 : Moves (w.alloc (.cells cs.toArray e)) w' (avB base (.slice A m c)) (avB base (.slice A' (m + 1) c')) :=
  ⟨k2.size, fun b hb hn => k2.block b hb (fun h => hn (.inr h)), fun b hb hn h' => h'.elim (fun h => hn (.inl h)) (fun h => k2.ne b hb (fun q => hn (.inr q)) h)⟩
 have hxx : r.R w' (avB base (.slice A' (m + 1) c')) cs x := r.stable hx (((Moves.less w (av' := avB base (.slice A m c)) hav).trans m1).trans m2)
 refine ⟨A', c', w', run, ⟨⟨xs ++ cs, ?_, (h2.mono fun _ _ k => r.stable k (m1.trans m2)).snoc hxx⟩, by simp [h.len]⟩, (hba.mono hb).trans (ap.below), ?_, hc, hcm⟩
 ·have := ap.own
  simpa using this
 ·have g1 : w.grownBy (w.alloc (.cells cs.toArray e)) (Value.slice A m c).ownBlock := ⟨hba.os, hba.tape, hba.output, hba.size, fun k hk _ => hba.block k hk⟩
  exact g1.trans ap.grown
end
end Go.Proofs.YtgmbkcjihgphmaaGreat
/- Own rows whose elements stay away from some blocks x beside the row's own. -/
namespace Go.Proofs.YtgmbkcjihgphmaaGreat
open Go.RowKit
def avX (x : Av) (v : Value) : Av := fun b => x b ∨ own v b
structure RowX {α : Type} (r : Rd α) (e : TypeId) (w : World) (base : Nat) (x : Av) (A : Option Addr) (m c : Nat) (l : List α) : Prop where
 row : ∃ xs, w.ownsRow base e r.k (.slice A m c) m xs ∧ Each (r.R w (avX x (.slice A m c))) xs l
 len : m = l.length
section
variable {α : Type} {r : Rd α} {e : TypeId} {w w' : World} {base m c : Nat} {x : Av} {A : Option Addr} {l : List α}
theorem RowX.nil (r : Rd α) (e : TypeId) (w : World) (base : Nat) (x : Av) : RowX r e w base x none 0 0 [] := ⟨⟨[], World.ownsRow_nil _ _ _ _, .nil⟩, rfl⟩
theorem RowX.below (h : RowX r e w base x A m c l) (hb : Below w.heap.size w w') : RowX r e w' base x A m c l := by
 obtain ⟨xs, h1, h2⟩ := h.row
 exact ⟨⟨xs, own_below h1 hb, h2.mono fun _ _ k => r.stable k (Moves.of_below hb)⟩, h.len⟩
theorem RowX.lt (h : RowX r e w base x A m c l) {b : Nat} (hb : own (.slice A m c) b) : base ≤ b ∧ b < w.heap.size := by
 obtain ⟨xs, h1, h2⟩ := h.row
 exact h1.lt b hb
theorem RowX.push {P : Program} {t : TypeId} {z : Value} {byt : Nat} (E : ElemOf P t e z r.k byt) (h : RowX r e w base x A m c l) (hb : base ≤ w.heap.size) {av : Av} {cs : List Value} {y : α} (hx : r.R w av cs y)
  (hav : ∀ b, b < w.heap.size → avX x (.slice A m c) b → av b) (hbytes : (m + 1) * byt ≤ 140737488355328) (hm : m + 1 ≤ maxLen) (ty : TypeId) (c0 : Nat) :
  ∃ A' c' w', (Builtin.append_ #[t, t] ty #[.slice A m c, .slice (some ⟨w.heap.size, 0, none⟩) 1 c0]).run P (w.alloc (.cells cs.toArray e)) = .ok (.slice A' (m + 1) c') w' ∧ RowX r e w' base x A' (m + 1) c' (l ++ [y]) ∧
   Below base w w' ∧ w.grownBy w' (Value.slice A m c).ownBlock ∧ m + 1 ≤ c' ∧ c' ≤ maxLen ∧ (∀ b, b < w.heap.size → own (.slice A' (m + 1) c') b → own (.slice A m c) b) := by
 obtain ⟨xs, h1, h2⟩ := h.row
 have hba : Below w.heap.size w (w.alloc (.cells cs.toArray e)) := (Below.refl _ _).alloc (Nat.le_refl _) _
 obtain ⟨A', c', w', run, ap, hc, hcm⟩ := append_sl E (own_below h1 hba) (Sl.fresh w cs.toArray e (0, 0) 1 r.k (by simpa using r.len hx)) (fun u hu => r.one hx u (by simpa using hu)) hbytes hm (by simp; omega) ty c0
 have m1 : Moves w (w.alloc (.cells cs.toArray e)) (avX x (.slice A m c)) (avX x (.slice A m c)) := Moves.of_below hba
 have k2 : Moves (w.alloc (.cells cs.toArray e)) w' (own (.slice A m c)) (own (.slice A' (m + 1) c')) := Moves.of_app ap
 have m2 : Moves (w.alloc (.cells cs.toArray e)) w' (avX x (.slice A m c)) (avX x (.slice A' (m + 1) c')) :=
  ⟨k2.size, fun b hb hn => k2.block b hb (fun h => hn (.inr h)), fun b hb hn h' => h'.elim (fun h => hn (.inl h)) (fun h => k2.ne b hb (fun q => hn (.inr q)) h)⟩
 have hxx : r.R w' (avX x (.slice A' (m + 1) c')) cs y := r.stable hx (((Moves.less w (av' := avX x (.slice A m c)) hav).trans m1).trans m2)
 refine ⟨A', c', w', run, ⟨⟨xs ++ cs, ?_, (h2.mono fun _ _ k => r.stable k (m1.trans m2)).snoc hxx⟩, by simp [h.len]⟩, (hba.mono hb).trans (ap.below), ?_, hc, hcm, fun b hb ho => ?_⟩
 ·have := ap.own
  simpa using this
 ·have g1 : w.grownBy (w.alloc (.cells cs.toArray e)) (Value.slice A m c).ownBlock := ⟨hba.os, hba.tape, hba.output, hba.size, fun k hk _ => hba.block k hk⟩
  exact g1.trans ap.grown
 ·rcases Classical.em (own (.slice A m c) b) with h | h
  ·exact h
  ·exact absurd ho (k2.ne b (Nat.lt_of_lt_of_le hb hba.size) h)
end
end Go.Proofs.YtgmbkcjihgphmaaGreat
/- talk.Serve. -/
set_option linter.unusedSimpArgs false
namespace Go.Proofs.YtgmbkcjihgphmaaGreat
open Go.RowKit
/-- a source, as one calls it -/
structure SrcK (W0 : World) (T : TypeId) (V : Value) (K : Nat) (S : List UInt8 → Option (List UInt8)) : Prop where
 nil : ∀ n w, (nilAhead (n + 1) T V "Get").run Tryz.prog w = .ok (some false) w
 meth : ∀ n w, (method (n + 1) T V "Get").run Tryz.prog w = .ok (K, V) w
 call : ∀ args w, (callFunc K args).run Tryz.prog w = .ok (.enter K args) w
 small : ∀ id b, S id = some b → b.length ≤ 1000000000
 get : ∀ w, Below W0.heap.size W0 w → ∀ id : List UInt8, id.length = 32 → Calls Tryz.prog K #[V, idV id] w (SrcPost w (S id))
/-- what is handed out -/
def serveF (S : List UInt8 → Option (List UInt8)) : List (List UInt8) → Nat → List (List UInt8) → List (List UInt8)
 | [], _, out => out
 | id :: r, z, out => match S id with
  | none => serveF S r z out
  | some b => if 65536 < z + b.length ∧ out ≠ [] then out else serveF S r (z + b.length) (out ++ [b])
abbrev byR := slR byteR
theorem elemBB : ElemOf Tryz.prog 50 38 (.slice none 0 0) 1 24 := ⟨Tryz.underlying50, by kernel_rfl, rfl, by decide⟩
/-- some byte strings in new memory -/
def RowsPost (w : World) (l : List (List UInt8)) (e : Ending) (w' : World) : Prop :=
 Below w.heap.size w w' ∧ ∃ A m c, e = .returned (.slice A m c) ∧ RowR byR 38 w' w.heap.size A m c l
set_option maxRecDepth 100000 in
set_option maxHeartbeats 8000000 in
theorem serve_any (T : TypeId) (V : Value) (K : Nat) (S : List UInt8 → Option (List UInt8)) (A : Option Addr) (n c : Nat) (ids : List (List UInt8)) (W0 : World) (hS : SrcK W0 T V K S) (hs : SlOf oidR W0 no A ids) (hn : n = ids.length) (hl : n ≤ 1000000000) (hnc : n ≤ c) (hcm : c ≤ maxLen) :
  Calls Tryz.prog 21 #[.iface T V, .slice A n c] W0 (RowsPost W0 (serveF S (ids.take 16) 0 [])) := by
 have HS := Lib.hid hs
 have HN := Lib.hid hn.symm
 have HC := Lib.hid hcm
 have HSR := Lib.hid hS
 have hnil := hS.nil
 have hmet := hS.meth
 have hcall := hS.call
 obtain ⟨R, hR⟩ : ∃ R, R = serveF S (ids.take 16) 0 [] := ⟨_, rfl⟩
 rw [← hR]
 have HR := Lib.hid hR
 have hcase : (n ≤ 16 ∧ ¬ (16 : Int) < (n : Int)) ∨ (16 < n ∧ (16 : Int) < (n : Int)) := by omega
 clear hs hn hcm hS hR
 rcases hcase with ⟨hc1, hc2⟩ | ⟨hc1, hc2⟩
 ·have hmn : n ≤ n := by omega
  have hm16 : n ≤ 16 := by omega
  have HTK := Lib.hid (show (ids.take 16).length = n by rw [List.length_take]; have := HN.out; omega)
  go_enter Tryz.func21, Tryz.ntmps21
  go_wp2_with fail
  clear hc2 hc1
  go_loopw [5, 6, 17] (fun s5 s6 s17 wr => ∃ (k z m co : Nat) (Ao : Option Addr) (out : List (List UInt8)), k ≤ n ∧ s17 = .int .i64 (k : Int) ∧ s6 = .int .i64 (z : Int) ∧ s5 = .slice Ao m co ∧ Hid (m = out.length ∧ m ≤ k ∧ z ≤ k * 1000000000) ∧ Hid (RowR byR 38 wr W0.heap.size Ao m co out) ∧ Hid (serveF S ((ids.take 16).drop k) z out = R) ∧ Hid (Below W0.heap.size W0 wr)) (fun s5 s6 s17 wr => n - (intOf s17).toNat)
  case atStart => exact ⟨0, 0, 0, 0, none, [], by omega, rfl, rfl, rfl, Lib.hid ⟨rfl, by omega, by omega⟩, Lib.hid (RowR.nil _ _ _ _), Lib.hid HR.out.symm, Lib.hid (Below.refl _ _)⟩
  case round =>
   obtain ⟨k, z, m, co, Ao, out, hk, rfl, rfl, rfl, HZ, HRW, HF, HBL⟩ := hrel
   by_cases hlt : k < n
   ·have hltI : (k : Int) < (n : Int) := by omega
    obtain ⟨b1, o1, x, rfl, hb1, hx, h32, hat⟩ := oids_look (HS.out.below HBL.out) HN.out (show k < n by omega)
    obtain ⟨KX, hKX⟩ : ∃ KX, KX = (bytesV x).toArray := ⟨_, rfl⟩
    have HI := Lib.hid (show (Tryz.prog.info? 33).map (·.size) = some KX.size by rw [hKX]; exact oid_size h32)
    rw [← hKX] at hat
    have HAT := Lib.hid hat
    have HZZ := Lib.hid (show zID.size = KX.size by rw [hKX]; simp [bytesV, h32])
    have HO := Lib.hid (show KX.all (·.oneCell') = true by rw [hKX]; exact oid_one _)
    have HNB := Lib.hid (Blk.new wr 33 zID)
    have hba : Below wr.heap.size wr (wr.alloc (.cells zID 33)) := (Below.refl _ _).alloc (Nat.le_refl _) _
    have HBA := Lib.hid hba
    have HDR := Lib.hid (show serveF S ((ids.take 16).drop k) z out = match S x with
      | none => serveF S ((ids.take 16).drop (k + 1)) z out
      | some b => if 65536 < z + b.length ∧ out ≠ [] then out else serveF S ((ids.take 16).drop (k + 1)) (z + b.length) (out ++ [b]) by
     have hx2 : (ids.take 16)[k]? = some x := by rw [List.getElem?_take_of_lt (by omega)]; exact hx
     obtain ⟨h1, h2⟩ := List.getElem?_eq_some_iff.1 hx2
     rw [List.drop_eq_getElem_cons h1, h2]; rfl)
    rw [HF.out] at HDR
    have HGET := Lib.hid (fun w hw => HSR.out.get w hw x h32)
    rw [show idV x = .agg KX by rw [hKX]] at HGET
    clear hx hat hba HF hKX h32
    go_upto_region 6 with (first | (refine wpList_load_at rfl _ _ rfl b1 (o1 + k * 32) rfl KX _ HAT.out Tryz.underlying33 rfl HI.out ?_) | (refine wpList_store_row rfl _ _ _ rfl wr.heap.size KX rfl rfl 33 _ HNB.out HI.out HZZ.out HO.out ?_) | fail)
    rw [World.setRow_alloc_new]
    go_frame
    change Code.wp _ _ _ _ (wr.alloc (.cells KX 33))
    have HB2 := Lib.hid (HBL.out.alloc HBL.out.size (.cells KX 33))
    have HK2 := Lib.hid (Blk.new wr 33 KX)
    have HRW2 := Lib.hid (HRW.out.below ((Below.refl _ _).alloc (Nat.le_refl _) (.cells KX 33)))
    generalize hG : wr.heap.size = GO at *
    generalize wr.alloc (.cells KX 33) = w2 at *
    clear HRW HNB hG
    go_wp2_with (first | (refine wpList_load_at rfl _ _ rfl GO 0 rfl KX _ (At.of_row HK2.out) Tryz.underlying33 rfl HI.out ?_) | fail)
    refine (HGET.out w2 HB2.out).mono ?_
    rintro e w3 ⟨hb3, hm⟩
    have HB3 := Lib.hid (HB2.out.trans (hb3.mono HB2.out.size))
    have HRW3 := Lib.hid (HRW2.out.below hb3)
    have HOW := Lib.hid (show ∀ b, own (.slice Ao m co) b → b < w2.heap.size from fun b hb => (HRW2.out.lt hb).2)
    clear hb3 HRW2 HK2 HGET
    cases hSx : S x with
    | none =>
     rw [hSx] at hm HDR
     obtain ⟨A3, n3, c3, rfl⟩ := hm
     have HF2 := Lib.hid HDR.out.symm
     clear hSx HDR
     go_wp2_with fail
     go_roundw
     case rel => exact ⟨k + 1, z, m, co, Ao, out, by omega, by go_num, rfl, rfl, Lib.hid ⟨HZ.out.1, by have := HZ.out; omega, by have := HZ.out; omega⟩, HRW3, HF2, HB3⟩
     case measure => simp [intOf]; omega
    | some b =>
     rw [hSx] at hm HDR
     obtain ⟨A3, c3, rfl, hsb, hbc, hcm3⟩ := hm
     have hbl := HSR.out.small x b hSx
     have HDR2 := Lib.hid (show R = if 65536 < z + b.length ∧ out ≠ [] then out else serveF S ((ids.take 16).drop (k + 1)) (z + b.length) (out ++ [b]) from HDR.out)
     have HSB := Lib.hid hsb
     have HCB := Lib.hid (And.intro hbc hcm3)
     obtain ⟨bl, hbl2⟩ : ∃ bl, bl = b.length := ⟨_, rfl⟩
     rw [← hbl2] at HDR2 hbl
     obtain ⟨z2, hz2⟩ : ∃ z2, z2 = z + bl := ⟨_, rfl⟩
     have hzI : (z : Int) + (bl : Int) = (z2 : Int) := by omega
     rw [← hz2] at HDR2
     have hzb := HZ.out
     have hz2b : z2 ≤ (k + 1) * 1000000000 := by omega
     have HBLN := Lib.hid hbl2.symm
     have hz2c : z2 ≤ 17000000000 := by omega
     have hmk : m ≤ 16 := by omega
     clear hsb hbc hcm3 hSx HDR hz2 hzb
     rw [← hbl2]
     clear hbl2
     by_cases hbr : 65536 < z2 ∧ 0 < m
     ·have HRO := Lib.hid (show R = out by rw [HDR2.out, if_pos ⟨hbr.1, fun e => by have := HZ.out.1; rw [e] at this; simp at this; omega⟩])
      have q1 : (65536 : Int) < (z2 : Int) := by omega
      have q2 : (0 : Int) < (m : Int) := by omega
      clear HDR2 hbr
      go_wp2_with fail
      go_ret
      rw [HRO.out]
      exact ⟨HB3.out, Ao, m, co, rfl, HRW3.out⟩
     ·have HRO := Lib.hid (show serveF S ((ids.take 16).drop (k + 1)) z2 (out ++ [b]) = R by
       rw [HDR2.out, if_neg]
       rintro ⟨h1, h2⟩
       refine hbr ⟨h1, ?_⟩
       have := HZ.out.1
       have h3 := List.length_pos_iff.2 h2
       omega)
      obtain ⟨A5, c5, w5, hrun, HR5, hb5, _, _, _, _⟩ := HRW3.out.push elemBB HB3.out.size (av := fun g => g < w2.heap.size) (cs := [.slice A3 b.length c3]) (x := b) ⟨A3, c3, rfl, HCB.out.1, HCB.out.2, HSB.out⟩ (fun b _ hb => HOW.out b hb) (by omega) (by simp only [maxLen]; omega) 50 1
      rw [HBLN.out] at hrun
      have hrun : (Builtin.append_ #[50, 50] 50 #[.slice Ao m co, .slice (some ⟨w3.heap.size, 0, none⟩) 1 1]).run Tryz.prog (w3.alloc (.cells #[.slice A3 bl c3] 38)) = .ok (.slice A5 (m + 1) c5) w5 := hrun
      have HB5 := Lib.hid (HB3.out.trans hb5)
      have HRW5 := Lib.hid HR5
      have HZ5 := Lib.hid (show m + 1 = (out ++ [b]).length ∧ m + 1 ≤ k + 1 ∧ z2 ≤ (k + 1) * 1000000000 by have := HZ.out; exact ⟨by simp; omega, by omega, hz2b⟩)
      have hq : (¬ (65536 : Int) < (z2 : Int)) ∨ ((65536 : Int) < (z2 : Int) ∧ ¬ (0 : Int) < (m : Int)) := by omega
      clear HR5 hb5 HDR2 hbr HSB HCB HRW3 hz2b HBLN
      rcases hq with q1 | ⟨q1, q2⟩
      all_goals
       go_wp2_with (at_builtin; refine wpList_run_append hrun ?_ ?_ ?_; exact rfl; exact rfl)
       go_roundw
       case rel => exact ⟨k + 1, z2, m + 1, c5, A5, out ++ [b], by omega, by go_num, rfl, rfl, HZ5, HRW5, HRO, HB5⟩
       case measure => simp [intOf]; omega
   ·have HRO := Lib.hid (show out = R by
     have := HF.out
     rw [List.drop_of_length_le (by rw [HTK.out]; omega)] at this
     exact this)
    have hltI : ¬ (k : Int) < (n : Int) := by omega
    clear HF
    go_wp2_with fail
    go_ret
    rw [← HRO.out]
    exact ⟨HBL.out, Ao, m, co, rfl, HRW.out⟩
 ·have hmn : 16 ≤ n := by omega
  have hm16 : 16 ≤ 16 := by omega
  have HTK := Lib.hid (show (ids.take 16).length = 16 by rw [List.length_take]; have := HN.out; omega)
  go_enter Tryz.func21, Tryz.ntmps21
  go_wp2_with fail
  clear hc2 hc1
  go_loopw [5, 6, 17] (fun s5 s6 s17 wr => ∃ (k z m co : Nat) (Ao : Option Addr) (out : List (List UInt8)), k ≤ 16 ∧ s17 = .int .i64 (k : Int) ∧ s6 = .int .i64 (z : Int) ∧ s5 = .slice Ao m co ∧ Hid (m = out.length ∧ m ≤ k ∧ z ≤ k * 1000000000) ∧ Hid (RowR byR 38 wr W0.heap.size Ao m co out) ∧ Hid (serveF S ((ids.take 16).drop k) z out = R) ∧ Hid (Below W0.heap.size W0 wr)) (fun s5 s6 s17 wr => 16 - (intOf s17).toNat)
  case atStart => exact ⟨0, 0, 0, 0, none, [], by omega, rfl, rfl, rfl, Lib.hid ⟨rfl, by omega, by omega⟩, Lib.hid (RowR.nil _ _ _ _), Lib.hid HR.out.symm, Lib.hid (Below.refl _ _)⟩
  case round =>
   obtain ⟨k, z, m, co, Ao, out, hk, rfl, rfl, rfl, HZ, HRW, HF, HBL⟩ := hrel
   by_cases hlt : k < 16
   ·have hltI : (k : Int) < 16 := by omega
    obtain ⟨b1, o1, x, rfl, hb1, hx, h32, hat⟩ := oids_look (HS.out.below HBL.out) HN.out (show k < n by omega)
    obtain ⟨KX, hKX⟩ : ∃ KX, KX = (bytesV x).toArray := ⟨_, rfl⟩
    have HI := Lib.hid (show (Tryz.prog.info? 33).map (·.size) = some KX.size by rw [hKX]; exact oid_size h32)
    rw [← hKX] at hat
    have HAT := Lib.hid hat
    have HZZ := Lib.hid (show zID.size = KX.size by rw [hKX]; simp [bytesV, h32])
    have HO := Lib.hid (show KX.all (·.oneCell') = true by rw [hKX]; exact oid_one _)
    have HNB := Lib.hid (Blk.new wr 33 zID)
    have hba : Below wr.heap.size wr (wr.alloc (.cells zID 33)) := (Below.refl _ _).alloc (Nat.le_refl _) _
    have HBA := Lib.hid hba
    have HDR := Lib.hid (show serveF S ((ids.take 16).drop k) z out = match S x with
      | none => serveF S ((ids.take 16).drop (k + 1)) z out
      | some b => if 65536 < z + b.length ∧ out ≠ [] then out else serveF S ((ids.take 16).drop (k + 1)) (z + b.length) (out ++ [b]) by
     have hx2 : (ids.take 16)[k]? = some x := by rw [List.getElem?_take_of_lt (by omega)]; exact hx
     obtain ⟨h1, h2⟩ := List.getElem?_eq_some_iff.1 hx2
     rw [List.drop_eq_getElem_cons h1, h2]; rfl)
    rw [HF.out] at HDR
    have HGET := Lib.hid (fun w hw => HSR.out.get w hw x h32)
    rw [show idV x = .agg KX by rw [hKX]] at HGET
    clear hx hat hba HF hKX h32
    go_upto_region 6 with (first | (refine wpList_load_at rfl _ _ rfl b1 (o1 + k * 32) rfl KX _ HAT.out Tryz.underlying33 rfl HI.out ?_) | (refine wpList_store_row rfl _ _ _ rfl wr.heap.size KX rfl rfl 33 _ HNB.out HI.out HZZ.out HO.out ?_) | fail)
    rw [World.setRow_alloc_new]
    go_frame
    change Code.wp _ _ _ _ (wr.alloc (.cells KX 33))
    have HB2 := Lib.hid (HBL.out.alloc HBL.out.size (.cells KX 33))
    have HK2 := Lib.hid (Blk.new wr 33 KX)
    have HRW2 := Lib.hid (HRW.out.below ((Below.refl _ _).alloc (Nat.le_refl _) (.cells KX 33)))
    generalize hG : wr.heap.size = GO at *
    generalize wr.alloc (.cells KX 33) = w2 at *
    clear HRW HNB hG
    go_wp2_with (first | (refine wpList_load_at rfl _ _ rfl GO 0 rfl KX _ (At.of_row HK2.out) Tryz.underlying33 rfl HI.out ?_) | fail)
    refine (HGET.out w2 HB2.out).mono ?_
    rintro e w3 ⟨hb3, hm⟩
    have HB3 := Lib.hid (HB2.out.trans (hb3.mono HB2.out.size))
    have HRW3 := Lib.hid (HRW2.out.below hb3)
    have HOW := Lib.hid (show ∀ b, own (.slice Ao m co) b → b < w2.heap.size from fun b hb => (HRW2.out.lt hb).2)
    clear hb3 HRW2 HK2 HGET
    cases hSx : S x with
    | none =>
     rw [hSx] at hm HDR
     obtain ⟨A3, n3, c3, rfl⟩ := hm
     have HF2 := Lib.hid HDR.out.symm
     clear hSx HDR
     go_wp2_with fail
     go_roundw
     case rel => exact ⟨k + 1, z, m, co, Ao, out, by omega, by go_num, rfl, rfl, Lib.hid ⟨HZ.out.1, by have := HZ.out; omega, by have := HZ.out; omega⟩, HRW3, HF2, HB3⟩
     case measure => simp [intOf]; omega
    | some b =>
     rw [hSx] at hm HDR
     obtain ⟨A3, c3, rfl, hsb, hbc, hcm3⟩ := hm
     have hbl := HSR.out.small x b hSx
     have HDR2 := Lib.hid (show R = if 65536 < z + b.length ∧ out ≠ [] then out else serveF S ((ids.take 16).drop (k + 1)) (z + b.length) (out ++ [b]) from HDR.out)
     have HSB := Lib.hid hsb
     have HCB := Lib.hid (And.intro hbc hcm3)
     obtain ⟨bl, hbl2⟩ : ∃ bl, bl = b.length := ⟨_, rfl⟩
     rw [← hbl2] at HDR2 hbl
     obtain ⟨z2, hz2⟩ : ∃ z2, z2 = z + bl := ⟨_, rfl⟩
     have hzI : (z : Int) + (bl : Int) = (z2 : Int) := by omega
     rw [← hz2] at HDR2
     have hzb := HZ.out
     have hz2b : z2 ≤ (k + 1) * 1000000000 := by omega
     have HBLN := Lib.hid hbl2.symm
     have hz2c : z2 ≤ 17000000000 := by omega
     have hmk : m ≤ 16 := by omega
     clear hsb hbc hcm3 hSx HDR hz2 hzb
     rw [← hbl2]
     clear hbl2
     by_cases hbr : 65536 < z2 ∧ 0 < m
     ·have HRO := Lib.hid (show R = out by rw [HDR2.out, if_pos ⟨hbr.1, fun e => by have := HZ.out.1; rw [e] at this; simp at this; omega⟩])
      have q1 : (65536 : Int) < (z2 : Int) := by omega
      have q2 : (0 : Int) < (m : Int) := by omega
      clear HDR2 hbr
      go_wp2_with fail
      go_ret
      rw [HRO.out]
      exact ⟨HB3.out, Ao, m, co, rfl, HRW3.out⟩
     ·have HRO := Lib.hid (show serveF S ((ids.take 16).drop (k + 1)) z2 (out ++ [b]) = R by
       rw [HDR2.out, if_neg]
       rintro ⟨h1, h2⟩
       refine hbr ⟨h1, ?_⟩
       have := HZ.out.1
       have h3 := List.length_pos_iff.2 h2
       omega)
      obtain ⟨A5, c5, w5, hrun, HR5, hb5, _, _, _, _⟩ := HRW3.out.push elemBB HB3.out.size (av := fun g => g < w2.heap.size) (cs := [.slice A3 b.length c3]) (x := b) ⟨A3, c3, rfl, HCB.out.1, HCB.out.2, HSB.out⟩ (fun b _ hb => HOW.out b hb) (by omega) (by simp only [maxLen]; omega) 50 1
      rw [HBLN.out] at hrun
      have hrun : (Builtin.append_ #[50, 50] 50 #[.slice Ao m co, .slice (some ⟨w3.heap.size, 0, none⟩) 1 1]).run Tryz.prog (w3.alloc (.cells #[.slice A3 bl c3] 38)) = .ok (.slice A5 (m + 1) c5) w5 := hrun
      have HB5 := Lib.hid (HB3.out.trans hb5)
      have HRW5 := Lib.hid HR5
      have HZ5 := Lib.hid (show m + 1 = (out ++ [b]).length ∧ m + 1 ≤ k + 1 ∧ z2 ≤ (k + 1) * 1000000000 by have := HZ.out; exact ⟨by simp; omega, by omega, hz2b⟩)
      have hq : (¬ (65536 : Int) < (z2 : Int)) ∨ ((65536 : Int) < (z2 : Int) ∧ ¬ (0 : Int) < (m : Int)) := by omega
      clear HR5 hb5 HDR2 hbr HSB HCB HRW3 hz2b HBLN
      rcases hq with q1 | ⟨q1, q2⟩
      all_goals
       go_wp2_with (at_builtin; refine wpList_run_append hrun ?_ ?_ ?_; exact rfl; exact rfl)
       go_roundw
       case rel => exact ⟨k + 1, z2, m + 1, c5, A5, out ++ [b], by omega, by go_num, rfl, rfl, HZ5, HRW5, HRO, HB5⟩
       case measure => simp [intOf]; omega
   ·have HRO := Lib.hid (show out = R by
     have := HF.out
     rw [List.drop_of_length_le (by rw [HTK.out]; omega)] at this
     exact this)
    have hltI : ¬ (k : Int) < 16 := by omega
    clear HF
    go_wp2_with fail
    go_ret
    rw [← HRO.out]
    exact ⟨HBL.out, Ao, m, co, rfl, HRW.out⟩
end Go.Proofs.YtgmbkcjihgphmaaGreat
/- rows of strings. -/
namespace Go.Proofs.YtgmbkcjihgphmaaGreat
open Go.RowKit
theorem elemStr1 : ElemOf Tryz.prog 43 9 (.string .empty) 1 16 := ⟨Tryz.underlying43, by kernel_rfl, rfl, by decide⟩
abbrev dB (s : ByteArray) : List UInt8 := s.data.toList
def StrsPost (w : World) (l : List (List UInt8)) (e : Ending) (w' : World) : Prop :=
 Below w.heap.size w w' ∧ ∃ A m c ss, e = .returned (.slice A m c) ∧ RowR strR 9 w' w.heap.size A m c ss ∧ ss.map dB = l
end Go.Proofs.YtgmbkcjihgphmaaGreat
/- towlinelaw21.texts. -/
namespace Go.Proofs.YtgmbkcjihgphmaaGreat
open Go.RowKit
attribute [local go_sem ↓] cvt_eq
theorem bys_look {w : World} {av : Av} {A : Option Addr} {bs : List (List UInt8)} {n i : Nat} (h : SlOf byR w av A bs) (hl : bs.length = n) (hi : i < n) :
  ∃ b off x A1 c1, A = some ⟨b, off, none⟩ ∧ b < w.heap.size ∧ bs[i]? = some x ∧ w.cell? ⟨b, off + i, none⟩ = some (.slice A1 x.length c1) ∧ x.length ≤ c1 ∧ c1 ≤ maxLen ∧ SlOf byteR w av A1 x := by
 obtain ⟨b, off, cs, x, e, hb, hx, hr, hc⟩ := h.at hl hi
 obtain ⟨A1, c1, rfl, h1, h2, h3⟩ := hr
 refine ⟨b, off, x, A1, c1, e, hb, hx, ?_, h1, h2, h3⟩
 have := hc 0 (.slice A1 x.length c1) rfl
 have e : off + i * byR.k + 0 = off + i := by show off + i * 1 + 0 = _; omega
 rwa [e] at this
theorem strs_look {w : World} {av : Av} {A : Option Addr} {ss : List ByteArray} {n i : Nat} (h : SlOf strR w av A ss) (hl : ss.length = n) (hi : i < n) :
  ∃ b off x, A = some ⟨b, off, none⟩ ∧ b < w.heap.size ∧ ss[i]? = some x ∧ w.cell? ⟨b, off + i, none⟩ = some (.string x) := by
 obtain ⟨b, off, cs, x, e, hb, hx, hr, hc⟩ := h.at hl hi
 have hr : cs = [.string x] := hr
 subst hr
 refine ⟨b, off, x, e, hb, hx, ?_⟩
 have := hc 0 (.string x) rfl
 have e : off + i * strR.k + 0 = off + i := by show off + i * 1 + 0 = _; omega
 rwa [e] at this
set_option maxRecDepth 100000 in
set_option maxHeartbeats 4000000 in
theorem texts_same (A B : Option Addr) (n m c d : Nat) (ss : List ByteArray) (W0 : World) (ha : SlOf byR W0 no A (ss.map dB)) (hb : SlOf strR W0 no B ss) (hn : n = ss.length) (hm : m = ss.length) (hl : n ≤ 1000000000) :
  Calls Tryz.prog 14 #[.slice A n c, .slice B m d] W0 fun e w' => e = .returned (.bool true) ∧ Below W0.heap.size W0 w' := by
 obtain rfl : m = n := hm.trans hn.symm
 have HA := Lib.hid ha
 have HB := Lib.hid hb
 have HN := Lib.hid hn.symm
 have HN1 := Lib.hid (show (ss.map dB).length = m by rw [List.length_map]; exact hn.symm)
 clear ha hb hm hn
 go_enter Tryz.func14, Tryz.ntmps14
 go_wp2_with fail
 go_loopw [13] (fun s13 wr => ∃ k : Nat, k ≤ m ∧ s13 = .int .i64 (k : Int) ∧ Hid (Below W0.heap.size W0 wr)) (fun s13 wr => m - (intOf s13).toNat)
 case atStart => exact ⟨0, by omega, rfl, Lib.hid (Below.refl _ _)⟩
 case round =>
  obtain ⟨k, hk, rfl, HBL⟩ := hrel
  by_cases hlt : k < m
  ·have hltI : (k : Int) < (m : Int) := by omega
   obtain ⟨b1, o1, x, A1, c1, rfl, hb1, hx, hc1, hxc, hcm, hxs⟩ := bys_look ((HA.out.below HBL.out)) HN1.out hlt
   obtain ⟨b2, o2, y, rfl, hb2, hy, hc2⟩ := strs_look (HB.out.below HBL.out) HN.out hlt
   obtain rfl : x = dB y := by rw [List.getElem?_map, hy] at hx; exact (Option.some.inj hx).symm
   have HXS := Lib.hid (slOf_bytes hxs)
   have hye : (⟨(dB y).toArray⟩ : ByteArray) = y := by apply ByteArray.ext; simp [dB]
   have hne : (y.toList != y.toList) = false := by simp
   obtain ⟨xl, hxl⟩ : ∃ xl, xl = (dB y).length := ⟨_, rfl⟩
   rw [← hxl] at hc1
   have HXS2 := Lib.hid (show Sl wr 1 A1 xl (bytesV (dB y)) by rw [hxl]; exact HXS.out)
   have hdr : Below wr.heap.size wr wr.drew := Same.below ⟨1, rfl⟩ _
   have HB2 := Lib.hid (HBL.out.trans (hdr.mono HBL.out.size))
   have HC1 := Lib.hid hc1
   have HC2 := Lib.hid hc2
   have HYE := Lib.hid hye
   clear hx hy hxs HXS hxl hxc hcm hc1 hc2 hye
   go_upto_region 6 with fail
   refine wp_region_held (S := fun w => Below wr.heap.size wr w) (by kernel_rfl) ?_
   change wpAnyH _ _ _ _ _ _ _ _ (World.drew _)
   refine rgT 0 hdr ?_
   refine rgT 1 hdr ?_
   refine rgT 2 hdr ?_
   refine rgU 3 (v := ?_) (a' := ?_) hdr ?_ ?_ ?_
   rotate_left 2
   ·(intro w hS; have q1 := (hS.cell (p := ⟨b1, o1 + k, none⟩) hb1).trans HC1.out; go_simp; try with_reducible rfl)
   ·(go_simp; try with_reducible rfl)
   refine rgU 4 (v := ?_) (a' := ?_) hdr ?_ ?_ ?_
   rotate_left 2
   ·(intro w hS; have q2 := (cvt_of (HXS2.out.below hS) c1).trans (by rw [HYE.out]); go_simp; try with_reducible rfl)
   ·(go_simp; try with_reducible rfl)
   refine rgT 5 hdr ?_
   refine rgT 6 hdr ?_
   refine rgT 7 hdr ?_
   refine rgU 8 (v := ?_) (a' := ?_) hdr ?_ ?_ ?_
   rotate_left 2
   ·(intro w hS; have q3 := (hS.cell (p := ⟨b2, o2 + k, none⟩) hb2).trans HC2.out; go_simp; try with_reducible rfl)
   ·(go_simp; try with_reducible rfl)
   refine rgT 9 hdr ?_
   refine wpAnyH_done (by kernel_rfl) ?_ _
   go_wp2_with fail
   go_roundw
   case rel => exact ⟨k + 1, by omega, by go_num, HB2⟩
   case measure => simp [intOf]; omega
  ·have hltI : ¬ (k : Int) < (m : Int) := by omega
   go_wp2_with fail
   go_ret
   exact ⟨rfl, HBL.out⟩
end Go.Proofs.YtgmbkcjihgphmaaGreat
/- slices.Clone of bytes; slices.Contains of ids. -/
namespace Go.Proofs.YtgmbkcjihgphmaaGreat
open Go.RowKit
attribute [local go_sem ↓] eqlId_eq neqId_eq
theorem elemU8T : ElemOf Tryz.prog 38 5 (.int .u8 0) 1 1 := ⟨Tryz.underlying38, by kernel_rfl, rfl, by decide⟩
theorem own_empty (w : World) (t : TypeId) (sz : Nat) : (w.alloc (.cells #[] t)).ownsRow w.heap.size t sz (.slice (some ⟨w.heap.size, 0, none⟩) 0 0) 0 [] := by
 refine ⟨by simp, .inr ⟨w.heap.size, 0, #[], rfl, Nat.le_refl _, heap_alloc_new w _, Nat.le_refl _, by simp [maxLen], by simp, by simp⟩⟩
/-- some bytes in new memory -/
def NewBytes (w : World) (b : List UInt8) (e : Ending) (w' : World) : Prop :=
 Below w.heap.size w w' ∧ ∃ A c, e = .returned (.slice A b.length c) ∧ SlOf byteR w' (fun g => g < w.heap.size) A b ∧ b.length ≤ c ∧ c ≤ maxLen
set_option maxRecDepth 100000 in
set_option maxHeartbeats 4000000 in
theorem clone_any (A : Option Addr) (n c : Nat) (b : List UInt8) (w : World) (hs : Sl w 1 A n (bytesV b)) (hn : n = b.length) (hl : n ≤ 1000000000) :
  Calls Tryz.prog 30 #[.slice A n c] w (NewBytes w b) := by
 have qT : ∀ (w : World) (a : Option Addr) (n c n' c' : Nat), (binOp .eql 38 (.slice a n c) (.slice none n' c')).run Tryz.prog w = .ok (.bool a.isNone) w := fun w a n c n' c' => Lib.run_eql_slice_nil w _ _ a n c n' c' Tryz.underlying38
 cases A with
 | none =>
  have h0 : b = [] := by
   rcases Nat.eq_zero_or_pos n with h | h
   ·exact List.eq_nil_of_length_eq_zero (by omega)
   ·obtain ⟨_, _, e, _⟩ := hs.2 h; cases e
  subst h0
  have hn0 : n = 0 := hn
  subst hn0
  clear hs hn
  go_enter Tryz.func30, Tryz.ntmps30
  go_wp2_with fail
  go_ret
  exact ⟨Below.refl _ _, none, 0, rfl, SlOf.nil, Nat.le_refl _, by simp [maxLen]⟩
 | some a =>
  have hba : Below w.heap.size w (w.alloc (.cells #[] 5)) := (Below.refl _ _).alloc (Nat.le_refl _) _
  obtain ⟨A5, c5, w5, hrun, hap, h1, h2⟩ := append_sl elemU8T (own_empty w 5 1) (hs.below hba) (bytesV_one b) (by omega) (by simp only [maxLen]; omega) (by simp) 38 c
  rw [Nat.zero_add] at hrun hap h1
  have HB5 := Lib.hid (hba.trans hap.below)
  have HA5 := Lib.hid (show SlOf byteR w5 (fun g => g < w.heap.size) A5 b from slB_of (n := n) (by have := Sl.ofOwn hap.own; simpa using this) hn (fun g off e => by
   have h3 := hap.own.2
   rcases h3 with ⟨h4, h5⟩ | ⟨g', cap, cur, h4, h5, _⟩
   ·injection h4 with h4; rw [h4] at e; cases e
   ·injection h4 with h4; rw [h4] at e; have e := Option.some.inj e; injection e with e; omega))
  have HC5 := Lib.hid (And.intro h1 h2)
  have HN := Lib.hid hn
  clear hs hap h1 h2 hba hn
  go_enter Tryz.func30, Tryz.ntmps30
  go_wp2_with (at_builtin; refine wpList_run_append hrun ?_ ?_ ?_; exact rfl; exact rfl)
  go_ret
  exact ⟨HB5.out, A5, c5, by rw [← HN.out]; rfl, HA5.out, by rw [← HN.out]; exact HC5.out.1, HC5.out.2⟩
set_option maxRecDepth 100000 in
set_option maxHeartbeats 4000000 in
theorem index_any (A : Option Addr) (n c : Nat) (is : List (List UInt8)) (x : List UInt8) (W0 : World) (hs : SlOf oidR W0 no A is) (hn : n = is.length) (hl : n ≤ 1000000000) (hx : x.length = 32) :
  Calls Tryz.prog 58 #[.slice A n c, idV x] W0 fun e w' => (∃ z : Int, e = .returned (.int .i64 z) ∧ decide (0 ≤ z) = is.contains x) ∧ Below W0.heap.size W0 w' := by
 have HS := Lib.hid hs
 have HN := Lib.hid hn.symm
 obtain ⟨KI, hKI⟩ : ∃ KI, KI = (bytesV x).toArray := ⟨_, rfl⟩
 have HKI := Lib.hid hKI
 have HII := Lib.hid (show (Tryz.prog.info? 33).map (·.size) = some KI.size by rw [hKI]; exact oid_size hx)
 rw [show idV x = .agg KI by rw [hKI]]
 have HB1 := Lib.hid (show Below W0.heap.size W0 (W0.alloc (.cells KI 33)) from (Below.refl _ _).alloc (Nat.le_refl _) _)
 have HK1 := Lib.hid (Blk.new W0 33 KI)
 obtain ⟨R, hR⟩ : ∃ R, R = is.contains x := ⟨_, rfl⟩
 have HR := Lib.hid hR
 rw [← hR]
 clear hs hn hKI hR
 go_enter Tryz.func58, Tryz.ntmps58
 go_wp2_with fail
 generalize W0.alloc (.cells KI 33) = w1 at *
 generalize hg : W0.heap.size = g at *
 have HG := Lib.hid hg
 clear hg
 go_loopw [8] (fun s8 wr => ∃ k : Nat, k ≤ n ∧ s8 = .int .i64 (k : Int) ∧ Hid ((is.take k).contains x = false) ∧ Hid (Below g W0 wr) ∧ Hid (Blk wr g 33 KI)) (fun s8 wr => n - (intOf s8).toNat)
 case atStart => exact ⟨0, by omega, rfl, Lib.hid rfl, HB1, HK1⟩
 case round =>
  obtain ⟨k, hk, rfl, HNO, HBL, HK⟩ := hrel
  by_cases hlt : k < n
  ·have hltI : (k : Int) < (n : Int) := by omega
   obtain ⟨b1, o1, r, rfl, hb1, hxr, h32, hat⟩ := oids_look (HS.out.below (by rw [HG.out]; exact HBL.out)) HN.out hlt
   have he := fun w => eqlId_of hx h32 w
   rw [← HKI.out] at he
   obtain ⟨KX, hKX⟩ : ∃ KX, KX = (bytesV r).toArray := ⟨_, rfl⟩
   have HI := Lib.hid (show (Tryz.prog.info? 33).map (·.size) = some KX.size by rw [hKX]; exact oid_size h32)
   rw [← hKX] at hat he
   have HAT := Lib.hid hat
   have hdr : Below wr.heap.size wr wr.drew := Same.below ⟨1, rfl⟩ _
   have HB2 := Lib.hid (HBL.out.trans (hdr.mono (by have := HBL.out.size; have := HK.out.lt; omega)))
   have HK2 := Lib.hid (HK.out.below hdr HK.out.lt)
   have hglt := HK.out.lt
   by_cases heq : x = r
   ·have HRR := Lib.hid (show R = true by
     rw [HR.out, heq]
     exact List.contains_iff_mem.2 (List.mem_of_getElem? hxr))
    rw [heq, beq_self_eq_true] at he
    clear hxr h32 hat hKX
    go_upto_region 4 with fail
    refine wp_region_held (S := fun w => Below wr.heap.size wr w) (by kernel_rfl) ?_
    change wpAnyH _ _ _ _ _ _ _ _ (World.drew _)
    refine rgU 0 (v := ?_) (a' := ?_) hdr ?_ ?_ ?_
    rotate_left 2
    ·(intro w hS; refine exec_load_at 33 (.tmp 3) ?_ g 0 ?_ KI _ (At.of_row (HK.out.below hS hglt)) Tryz.underlying33 rfl HII.out; exact rfl; exact rfl)
    ·(go_simp; try with_reducible rfl)
    refine rgT 1 hdr ?_
    refine rgT 2 hdr ?_
    refine rgT 3 hdr ?_
    refine rgU 4 (v := ?_) (a' := ?_) hdr ?_ ?_ ?_
    rotate_left 2
    ·(intro w hS; refine exec_load_at 33 (.tmp 14) ?_ b1 (o1 + k * 32) ?_ KX _ (HAT.out.below hS hb1) Tryz.underlying33 rfl HI.out; exact rfl; exact rfl)
    ·(go_simp; try with_reducible rfl)
    refine rgT 5 hdr ?_
    refine wpAnyH_done (by kernel_rfl) ?_ _
    go_wp2_with fail
    go_ret
    exact ⟨⟨(k : Int), rfl, by rw [HRR.out]; exact decide_eq_true (by omega)⟩, by rw [HG.out]; exact HB2.out⟩
   ·have HNO2 := Lib.hid (show (is.take (k + 1)).contains x = false by
     rw [List.take_add_one, hxr, List.contains_eq_any_beq, List.any_append, ← List.contains_eq_any_beq, HNO.out]
     simp [heq])
    rw [beq_eq_false_iff_ne.2 heq] at he
    clear hxr h32 hat hKX
    go_upto_region 4 with fail
    refine wp_region_held (S := fun w => Below wr.heap.size wr w) (by kernel_rfl) ?_
    change wpAnyH _ _ _ _ _ _ _ _ (World.drew _)
    refine rgU 0 (v := ?_) (a' := ?_) hdr ?_ ?_ ?_
    rotate_left 2
    ·(intro w hS; refine exec_load_at 33 (.tmp 3) ?_ g 0 ?_ KI _ (At.of_row (HK.out.below hS hglt)) Tryz.underlying33 rfl HII.out; exact rfl; exact rfl)
    ·(go_simp; try with_reducible rfl)
    refine rgT 1 hdr ?_
    refine rgT 2 hdr ?_
    refine rgT 3 hdr ?_
    refine rgU 4 (v := ?_) (a' := ?_) hdr ?_ ?_ ?_
    rotate_left 2
    ·(intro w hS; refine exec_load_at 33 (.tmp 14) ?_ b1 (o1 + k * 32) ?_ KX _ (HAT.out.below hS hb1) Tryz.underlying33 rfl HI.out; exact rfl; exact rfl)
    ·(go_simp; try with_reducible rfl)
    refine rgT 5 hdr ?_
    refine wpAnyH_done (by kernel_rfl) ?_ _
    go_wp2_with fail
    go_roundw
    case rel => exact ⟨k + 1, by omega, by go_num, HNO2, HB2, HK2⟩
    case measure => simp [intOf]; omega
  ·have hltI : ¬ (k : Int) < (n : Int) := by omega
   have HRR := Lib.hid (show R = false by
    have := HNO.out
    rw [List.take_of_length_le (by have := HN.out; omega)] at this
    rw [HR.out]; exact this)
   go_wp2_with fail
   go_ret
   exact ⟨⟨-1, rfl, by rw [HRR.out]; decide⟩, by rw [HG.out]; exact HBL.out⟩
set_option maxRecDepth 100000 in
set_option maxHeartbeats 4000000 in
theorem contains_any (A : Option Addr) (n c : Nat) (is : List (List UInt8)) (x : List UInt8) (W0 : World) (hs : SlOf oidR W0 no A is) (hn : n = is.length) (hl : n ≤ 1000000000) (hx : x.length = 32) :
  Calls Tryz.prog 28 #[.slice A n c, idV x] W0 fun e w' => e = .returned (.bool (is.contains x)) ∧ Below W0.heap.size W0 w' := by
 obtain ⟨KI, hKI⟩ : ∃ KI, KI = (bytesV x).toArray := ⟨_, rfl⟩
 have HII := Lib.hid (show (Tryz.prog.info? 33).map (·.size) = some KI.size by rw [hKI]; exact oid_size hx)
 have hb1 : Below W0.heap.size W0 (W0.alloc (.cells KI 33)) := (Below.refl _ _).alloc (Nat.le_refl _) _
 have HIX := Lib.hid (index_any A n c is x (W0.alloc (.cells KI 33)) (hs.below hb1) hn hl hx)
 have HB1 := Lib.hid hb1
 have HK1 := Lib.hid (Blk.new W0 33 KI)
 rw [show idV x = .agg KI by rw [hKI]] at HIX ⊢
 clear hs hn hKI hb1
 obtain ⟨R, hR⟩ : ∃ R, R = is.contains x := ⟨_, rfl⟩
 rw [← hR] at HIX ⊢
 clear hR
 go_enter Tryz.func28, Tryz.ntmps28
 go_upto_region 1 with fail
 generalize W0.alloc (.cells KI 33) = w1 at *
 generalize hg : W0.heap.size = g at *
 have HG := Lib.hid hg
 clear hg
 go_wp2_with (first | (refine wpList_load_at rfl _ _ rfl g 0 rfl KI _ (At.of_row HK1.out) Tryz.underlying33 rfl HII.out ?_) | fail)
 refine HIX.out.mono ?_
 rintro e w2 ⟨⟨z, rfl, hz⟩, hb2⟩
 have HB2 := Lib.hid (HB1.out.trans (hb2.mono (by have := HK1.out.lt; omega)))
 have HZ := Lib.hid hz
 clear hb2 HIX
 cases R with
 | true =>
  have hz2 : (0 : Int) ≤ z := of_decide_eq_true HZ.out
  clear hz HZ
  go_wp2_with fail
  go_ret
  exact ⟨rfl, by rw [HG.out]; exact HB2.out⟩
 | false =>
  clear hz
  go_wp2_with fail
  go_ret
  exact ⟨by rw [← HZ.out]; rfl, by rw [HG.out]; exact HB2.out⟩
end Go.Proofs.YtgmbkcjihgphmaaGreat
/- grain, plain: numbers that fit; how much memory a value that was read takes. -/
namespace Go.Proofs.YtgmbkcjihgphmaaGreat
open Go.RowKit
end Go.Proofs.YtgmbkcjihgphmaaGreat
