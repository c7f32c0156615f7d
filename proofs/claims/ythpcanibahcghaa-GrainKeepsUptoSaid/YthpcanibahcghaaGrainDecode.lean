/- grain.Decode. -/
import Derived.Test.YthpcanibahcghaaGrainValue
import Derived.Test.YthpcanibahcghaaGrainEncode
set_option linter.unusedVariables false
namespace Go.Proofs.Ythpcanibahcghaa
open Go.RowKit

/-- the zero value's cells -/
abbrev zV : Array Value := cellsV 0 0 none 0 0 0 none 0 0

theorem decodeD_ok (pe pv : Addr) (u : FrameMode) (w : World) (he : w.cell? pe = some (.int .i64 0)) :
    CallsD Try.prog 24 #[.pointer (some pe), .pointer (some pv)] u w fun e u' w' => u' = u ∧ e = .returned (.tuple #[]) ∧ w' = w := by
  go_enter_d Try.func24, Try.ntmps24
  go_wp2_with fail
  go_end0
  exact ⟨rfl, rfl⟩
theorem decodeD_bad (pe : Addr) (gv : Nat) (z : Int) (K : Array Value) (u : FrameMode) (w : World) (hz : z ≠ 0) (he : w.cell? pe = some (.int .i64 z)) (hK : K.size = 5) (hb : Blk w gv 27 K) :
    CallsD Try.prog 24 #[.pointer (some pe), .pointer (some ⟨gv, 0, none⟩)] u w fun e u' w' => u' = u ∧ e = .returned (.tuple #[]) ∧ w' = w.setRow gv zV := by
  have hz' : (z != 0) = true := by simp [hz]
  obtain ⟨KV, hKV⟩ : ∃ KV, KV = zV := ⟨_, rfl⟩
  have HI := Lib.hid (show (Try.prog.info? 27).map (·.size) = some KV.size by rw [hKV]; exact cellsV_info 0 0 none 0 0 0 none 0 0)
  have HO := Lib.hid (show KV.all (·.oneCell') = true by rw [hKV]; exact cellsV_one 0 0 none 0 0 0 none 0 0)
  have HS := Lib.hid (show K.size = KV.size by rw [hK, hKV]; rfl)
  have HB := Lib.hid hb
  have HKV := Lib.hid hKV
  rw [← hKV]
  clear hz hKV hb hK
  go_enter_d Try.func24, Try.ntmps24
  go_wp2_with (first | (refine wpList_store_row rfl _ _ _ rfl gv KV rfl (by rw [HKV.out]; rfl) 27 _ HB.out HI.out HS.out HO.out ?_) | fail)
  go_end0
  exact ⟨rfl, rfl⟩

def DecPost (w : World) (r : Res Val) (e : Ending) (w' : World) : Prop :=
  Below w.heap.size w w' ∧ match r with
    | .ok v => ∃ cs : List Value, e = .returned (.tuple #[.agg cs.toArray, .int .i64 0]) ∧ valR.R w' (fun b => b < w.heap.size) cs v
    | .error z => e = .returned (.tuple #[.agg zV, .int .i64 z])

theorem results_two_row {fn : Func} {p q : Tmp} (h : fn.results = #[.cell p 27, .cell q 29]) (tmps : Array Value) (w : World) (g g' : Nat) (t : TypeId) (cs : Array Value) (z : Int)
    (hp : tmps.getD p undef = .pointer (some ⟨g, 0, none⟩)) (hq : tmps.getD q undef = .pointer (some ⟨g', 0, none⟩)) (hg : w.heap[g]? = some (.cells cs t (0, 0))) (hg' : w.cell? ⟨g', 0, none⟩ = some (.int .i64 z))
    (hi : (Try.prog.info? 27).map (·.size) = some cs.size) :
    (results fn tmps).run Try.prog w = .ok (.tuple #[.agg cs, .int .i64 z]) w := by
  have hp' : tmps[p]?.getD undef = .pointer (some ⟨g, 0, none⟩) := by simpa using hp
  have hq' : tmps[q]?.getD undef = .pointer (some ⟨g', 0, none⟩) := by simpa using hq
  have hl := run_loadVar_row w g t 27 cs (0, 0) _ hg Try.underlying27 rfl hi
  have h2 : (loadVar 29 ⟨g', 0, none⟩).run Try.prog w = .ok (.int .i64 z) w := by simp [go_sem, hg']
  simp [results, h, hp', hq', asAddr, hl, h2]

/-- Decode's variables: the value, the error, the cursor -/
structure DecVars (w w3 : World) (g : Nat) (A : Option Addr) (n c : Nat) : Prop where
  below : Below g w w3
  size : w3.heap.size = g + 3
  v : Blk w3 g 27 zV
  e : Blk w3 (g + 1) 29 #[.int .i64 0]
  c : Blk w3 (g + 2) 57 #[.slice A n c]
theorem DecVars.made (w : World) (A : Option Addr) (n c : Nat) : DecVars w (((w.alloc (.cells zV 27)).alloc (.cells #[.int .i64 0] 29)).alloc (.cells #[.slice A n c] 57)) w.heap.size A n c := by
  refine ⟨(((Below.refl _ _).alloc (Nat.le_refl _) _).alloc (by simp) _).alloc (by simp; omega) _, by simp, ?_, ?_, ?_⟩
  · exact ((Blk.new w _ _).alloc _).alloc _
  · have := (Blk.new (w.alloc (.cells zV 27)) 29 #[.int .i64 0]).alloc (.cells #[.slice A n c] 57)
    simpa using this
  · have := Blk.new ((w.alloc (.cells zV 27)).alloc (.cells #[.int .i64 0] 29)) 57 #[.slice A n c]
    simpa using this

theorem rdT_err_ne : ∀ (l : List UInt8) (s n : Nat) (x : UInt8) (z : Int), rdT s n x l = .error z → z ≠ 0
  | [], s, n, x, z, h => by
    unfold rdT at h
    split at h
    · cases h
    · injection h with h; omega
  | y :: r, s, n, x, z, h => by
    unfold rdT at h
    split at h
    · cases h
    · split at h
      · injection h with h; omega
      · exact rdT_err_ne r _ _ _ _ h
theorem rd_err_ne : ∀ (d : Nat) (l : List UInt8) (z : Int), rd d l = .error z → z ≠ 0
  | 0, l, z, h => by injection h with h; omega
  | d + 1, l, z, h => by
    have hn : ∀ (k : Nat) (l : List UInt8) (z : Int), rdN (rd d) k l = .error z → z ≠ 0 := by
      intro k
      induction k with
      | zero => intro l z h; cases h
      | succ k ih =>
        intro l z h
        rw [rdN] at h
        split at h
        · split at h
          · cases h
          · rename_i q; injection h with h; subst h; exact ih _ _ q
        · rename_i q; injection h with h; subst h; exact rd_err_ne d _ _ q
    unfold rd at h
    split at h
    · rename_i e he
      injection h with h
      subst h
      cases l with
      | nil => injection he with he; omega
      | cons x r =>
        rw [rdH] at he
        split at he
        · cases he
        · rename_i q; injection he with he; subst he; exact rdT_err_ne _ _ _ _ _ q
    · split at h
      · cases h
      split at h
      · split at h
        · injection h with h; omega
        · cases h
      split at h
      · split at h
        · injection h with h; omega
        · split at h
          · injection h with h; omega
          · cases h
      · split at h
        · cases h
        · rename_i q; injection h with h; subst h; exact hn _ _ _ q

/-- the door behind a panic that tells an error -/
theorem dec_door {w w4 : World} {g : Nat} {tmps K : Array Value} {z : Int} (hz : z ≠ 0) (HG : w.heap.size = g) (hB : Below g w w4) (hv : Blk w4 g 27 K) (hK : K.size = 5) (he : Blk w4 (g + 1) 29 #[.int .i64 0])
    (hp : tmps.getD 2 undef = .pointer (some ⟨g, 0, none⟩)) (hq : tmps.getD 3 undef = .pointer (some ⟨g + 1, 0, none⟩)) :
    Leaves Try.prog Try.f12 tmps (DecPost w (.error z)) [{ target := .fn (.func 21) #[], args := #[.pointer (some ⟨g + 1, 0, none⟩)] }, { target := .fn (.func 24) #[.pointer (some ⟨g + 1, 0, none⟩), .pointer (some ⟨g, 0, none⟩)], args := #[] }] (.panicking (stopE z)) w4 := by
  have hlt : g + 1 < w4.heap.size := he.lt
  have E1 := (hv.alloc (.cells #[.int .i64 z] 60)).other (g' := g + 1) (by omega) 0 (.int .i64 z)
  have E2 := (he.alloc (.cells #[.int .i64 z] 60)).set_ 0 (.int .i64 z)
  have hgl : g ≤ w4.heap.size := by omega
  have HB5 := (hB.alloc hgl (.cells #[.int .i64 z] 60)).setCell (p := ⟨g + 1, 0, none⟩) (by show g ≤ g + 1; omega) (.int .i64 z)
  refine leaves_cons (f := 21) (args := #[.pointer (some ⟨g + 1, 0, none⟩)]) (by simp) (by simp [go_sem]) ?_
  refine (caught_stop ⟨g + 1, 0, none⟩ 0 z [] w4 hlt (he.cell 0) (he.frozen 0)).mono ?_
  rintro e u' w7 ⟨rfl, rfl, rfl⟩
  refine leaves_cons (f := 24) (args := #[.pointer (some ⟨g + 1, 0, none⟩), .pointer (some ⟨g, 0, none⟩)]) (by simp [settle]) (by simp [go_sem]) ?_
  refine (decodeD_bad _ g z K _ _ hz (E2.cell 0) hK E1).mono ?_
  rintro e u' w8 ⟨rfl, rfl, rfl⟩
  have r1 := setRow_heap _ g _ zV _ _ E1
  have r2 := (cell_setRow_other ((w4.alloc (.cells #[.int .i64 z] 60)).setCell ⟨g + 1, 0, none⟩ (.int .i64 z)) g zV ⟨g + 1, 0, none⟩ (by show g + 1 ≠ g; omega)).trans (E2.cell 0)
  have HB6 := below_setRow HB5 (Nat.le_refl g) zV
  refine ⟨_, results_two_row rfl tmps _ g (g + 1) _ zV z hp hq r1 r2 (cellsV_info 0 0 none 0 0 0 none 0 0), ?_⟩
  unfold DecPost
  rw [HG]
  exact ⟨HB6, rfl⟩

set_option maxRecDepth 100000 in
set_option maxHeartbeats 2000000 in
theorem decode_any (A : Option Addr) (n c : Nat) (l : List UInt8) (w : World) (hs : Sl w 1 A n (bytesV l)) (hc : n ≤ c) (hm : c ≤ maxLen) :
    Calls Try.prog 12 #[.slice A n c] w (DecPost w (dec l)) := by
  have hn : 0 < n → ∀ b off sp, A = some ⟨b, off, sp⟩ → b < w.heap.size := fun h0 b off sp e => by
    obtain ⟨b', off', he, hb, _⟩ := hs.2 h0
    rw [he] at e
    have e := Option.some.inj e
    injection e with e
    omega
  have hmf : ∀ (fn : Fn) (first cap : Array Value) (w : World), (Instr.makeFunc fn first cap).run Try.prog w = .ok (.func fn first cap) w := fun _ _ _ _ => rfl
  have hln : l.length = n := by have := hs.1; simpa [bytesV_length] using this
  by_cases hlong : 1048576 < n
  · have hlI : (1048576 : Int) < (n : Int) := by omega
    have hdec : dec l = .error 2 := by unfold dec; rw [if_pos (by omega)]
    rw [hdec]
    obtain ⟨KV, hKV⟩ : ∃ KV, KV = zV := ⟨_, rfl⟩
    have HI := Lib.hid (show (Try.prog.info? 27).map (·.size) = some KV.size by rw [hKV]; exact cellsV_info 0 0 none 0 0 0 none 0 0)
    have HO := Lib.hid (show KV.all (·.oneCell') = true by rw [hKV]; exact cellsV_one 0 0 none 0 0 0 none 0 0)
    have HKV := Lib.hid hKV
    have hb0 := (Blk.new w 27 #[.int .i64 0, .int .u64 0, .slice none 0 0, .float .f64 0, .slice none 0 0]).alloc (.cells #[.int .i64 0] 29)
    have he0 : Blk ((w.alloc (.cells #[.int .i64 0, .int .u64 0, .slice none 0 0, .float .f64 0, .slice none 0 0] 27)).alloc (.cells #[.int .i64 0] 29)) (w.heap.size + 1) 29 #[.int .i64 0] := by
      have := Blk.new (w.alloc (.cells #[.int .i64 0, .int .u64 0, .slice none 0 0, .float .f64 0, .slice none 0 0] 27)) 29 #[.int .i64 0]
      simpa using this
    have hbel : Below w.heap.size w ((w.alloc (.cells #[.int .i64 0, .int .u64 0, .slice none 0 0, .float .f64 0, .slice none 0 0] 27)).alloc (.cells #[.int .i64 0] 29)) := ((Below.refl _ _).alloc (Nat.le_refl _) _).alloc (by simp) _
    have he1 := he0.grown (grown_row _ w.heap.size KV) (fun e => by have := Option.some.inj e; omega)
    have HB0 := Lib.hid hb0
    have HE1 := Lib.hid he1
    have c1 := he1.cell 0
    have f1 := he1.frozen 0
    have HBE := Lib.hid hbel
    clear hKV hdec hb0 he0 he1 hbel hs hn hm hln hmf
    go_enter_defers Try.func12, Try.ntmps12
    go_wp2_with (first | (refine wpList_store_row rfl _ _ _ rfl w.heap.size KV rfl (by rw [HKV.out]; rfl) 27 _ HB0.out HI.out (by rw [HKV.out]; rfl) HO.out ?_) | fail)
    have r1 := (show Blk _ w.heap.size 27 KV from setRow_heap _ w.heap.size _ KV _ _ HB0.out).other (g' := w.heap.size + 1) (by omega) 0 (.int .i64 2)
    have r2 := (HE1.out.set_ 0 (.int .i64 2)).cell 0
    have HB := (below_setRow HBE.out (Nat.le_refl _) KV).setCell (p := ⟨w.heap.size + 1, 0, none⟩) (by show w.heap.size ≤ w.heap.size + 1; omega) (.int .i64 2)
    refine ⟨_, results_two_row rfl _ _ w.heap.size (w.heap.size + 1) _ KV 2 rfl rfl r1 r2 HI.out, ?_⟩
    exact ⟨HB, by rw [HKV.out]⟩
  · have hlI : ¬ (1048576 : Int) < (n : Int) := by omega
    have hdec : dec l = match rd 16 l with | .error e => .error e | .ok (v, []) => .ok v | .ok (_, _ :: _) => .error 23 := by unfold dec; rw [if_neg (by omega)]; rfl
    obtain ⟨w3, hw3⟩ : ∃ w3, w3 = ((w.alloc (.cells zV 27)).alloc (.cells #[.int .i64 0] 29)).alloc (.cells #[.slice A n c] 57) := ⟨_, rfl⟩
    have HD := Lib.hid (DecVars.made w A n c)
    rw [← hw3] at HD
    have HC := Lib.hid (show Cur w3 (w.heap.size + 2) A n c l from ⟨HD.out.c, hs.below HD.out.below, hc, hm, fun h0 b off sp e => by have := hn h0 b off sp e; omega⟩)
    have HV := Lib.hid (value_any 16 (Nat.le_refl _) HC.out (by omega))
    have HDEC := Lib.hid hdec
    have HM := Lib.hid hm
    clear hdec hs hn hm
    go_enter_defers Try.func12, Try.ntmps12
    go_upto_region 6 with fail
    change Code.wp _ _ _ _ (((w.alloc (.cells zV 27)).alloc (.cells #[.int .i64 0] 29)).alloc (.cells #[.slice A n c] 57))
    rw [← hw3]
    clear hw3
    generalize hg : w.heap.size = g at *
    have HG := Lib.hid hg
    clear hg
    go_wp2_with fail
    refine HV.out.mono ?_
    intro e w4 hp
    obtain ⟨hg4, hp⟩ := hp
    have hsz := HD.out.size
    have HBW := Lib.hid (show Below g w w4 from HD.out.below.trans ⟨hg4.os, hg4.tape, hg4.output, hg4.size, fun k hk => hg4.block k (by omega) (fun e => by have := Option.some.inj e; omega)⟩)
    have BV : Blk w4 g 27 zV := HD.out.v.grown hg4 (fun e => by have := Option.some.inj e; omega)
    have BE : Blk w4 (g + 1) 29 #[.int .i64 0] := HD.out.e.grown hg4 (fun e => by have := Option.some.inj e; omega)
    have hsz4 := hg4.size
    cases hr : rd 16 l with
    | error z =>
      rw [hr] at hp
      obtain rfl : e = _ := hp
      have hd := HDEC.out
      rw [hr] at hd
      rw [hd]
      exact dec_door (rd_err_ne 16 l z hr) HG.out HBW.out BV rfl BE rfl rfl
    | ok p =>
      obtain ⟨v, q⟩ := p
      rw [hr] at hp
      obtain ⟨cs, rfl, hvr, A5, n5, c5, hc5⟩ := hp
      have hk5 : cs.length = 5 := valR.len hvr
      have HKI := Lib.hid (show (Try.prog.info? 27).map (·.size) = some cs.toArray.size by rw [show cs.toArray.size = 5 from by simpa using hk5]; exact val_info)
      have HKO := Lib.hid (show cs.toArray.all (·.oneCell') = true by simpa using valR.one hvr)
      have HK5 := Lib.hid (show zV.size = cs.toArray.size by simp [cellsV, hk5])
      have HKS := Lib.hid (show cs.toArray.size = 5 by simpa using hk5)
      have HVR := Lib.hid hvr
      have HBV := Lib.hid BV
      have HBE := Lib.hid BE
      have HHR := Lib.hid hr
      obtain ⟨KV, hKV⟩ : ∃ KV : Array Value, KV = cs.toArray := ⟨_, rfl⟩
      have HKV := Lib.hid hKV
      rw [← hKV] at HKI HKO HK5 HKS ⊢
      have HCB := Lib.hid (hc5.blk.grown (grown_row w4 g KV) (fun e => by have := Option.some.inj e; omega))
      have hn5 := hc5.len
      have q5 : (w4.setRow g KV).cell? ⟨g + 1 + 1, 0, none⟩ = some (.slice A5 n5 c5) := HCB.out.cell 0
      have HE5 := Lib.hid (HBE.out.grown (grown_row w4 g KV) (fun e => by have := Option.some.inj e; omega))
      have HV5 := Lib.hid (setRow_heap w4 g _ KV _ _ HBV.out)
      have HVR5 := Lib.hid (valR.stable HVR.out ((Moves.grown (grown_row w4 g KV) (show g < w3.heap.size by omega)).trans (Moves.less _ (av' := fun b => b < g) (fun b _ e => by omega))))
      have HB5 := Lib.hid (below_setRow HBW.out (Nat.le_refl g) KV)
      clear hKV hvr hk5 BV BE hr hc5 HV HC
      have hd := HDEC.out
      rw [HHR.out] at hd
      cases q with
      | cons y q =>
        have hd' : dec l = .error 23 := hd
        have HDD := Lib.hid hd'
        have hn0 : (0 : Int) < (n5 : Int) := by simp at hn5; omega
        clear hd hd' HDEC HHR hn5
        go_wp2_with (first | (refine wpList_store_row rfl _ _ _ rfl g KV rfl rfl 27 _ HBV.out HKI.out HK5.out HKO.out ?_) | fail)
        rw [HDD.out]
        refine dec_door (z := 23) (K := KV) (by decide) HG.out HB5.out HV5.out HKS.out HE5.out ?_ ?_ <;> rfl
      | nil =>
        have hd' : dec l = .ok v := hd
        obtain rfl : n5 = 0 := by simpa using hn5.symm
        have HDD := Lib.hid hd'
        clear hd hd' HDEC HHR hn5
        have e5 : ((w4.setRow g KV).setRow g KV).cell? ⟨g + 1, 0, none⟩ = some (.int .i64 0) := (HE5.out.grown (grown_row _ g KV) (fun e => by have := Option.some.inj e; omega)).cell 0
        have f5 : ((w4.setRow g KV).setRow g KV).frozen? ⟨g + 1, 0, none⟩ = false := (HE5.out.grown (grown_row _ g KV) (fun e => by have := Option.some.inj e; omega)).frozen 0
        go_wp2_with (first
          | (refine wpList_load_row rfl 27 (.tmp 2) rfl g rfl 27 KV (0, 0) _ HV5.out Try.underlying27 rfl HKI.out ?_)
          | (refine wpList_store_row rfl _ _ _ rfl g KV rfl rfl 27 _ HBV.out HKI.out HK5.out HKO.out ?_)
          | (refine wpList_store_row rfl _ _ _ rfl g KV rfl rfl 27 _ HV5.out HKI.out rfl HKO.out ?_))
        have V1 : Blk ((w4.setRow g KV).setRow g KV) g 27 KV := setRow_heap _ g _ KV _ _ HV5.out
        have V2 := V1.other (g' := g + 1) (by omega) 0 (.int .i64 0)
        have E2 := (HE5.out.grown (grown_row _ g KV) (fun e => by have := Option.some.inj e; omega)).set_ 0 (.int .i64 0)
        have BB := (below_setRow HB5.out (Nat.le_refl g) KV).setCell (p := ⟨g + 1, 0, none⟩) (by show g ≤ g + 1; omega) (.int .i64 0)
        have RR := valR.stable HVR.out (((Moves.grown (grown_row w4 g KV) (show g < w3.heap.size by omega)).trans (Moves.grown (grown_row _ g KV) (show g < w3.heap.size by omega))).trans (Moves.grown (grown_set _ (g + 1) 0 (.int .i64 0)) (show g + 1 < w3.heap.size by omega)))
        generalize ((w4.setRow g KV).setRow g KV).setCell ⟨g + 1, 0, none⟩ (.int .i64 0) = W at *
        refine leaves_cons (f := 21) (args := #[.pointer (some ⟨g + 1, 0, none⟩)]) (by simp) (by simp [go_sem]) ?_
        refine (caught_idle _ _).mono ?_
        rintro e u' w7 ⟨rfl, rfl, rfl⟩
        have V3 := V2.alloc (.cells #[.int .i64 0] 60)
        have E3 := E2.alloc (.cells #[.int .i64 0] 60)
        refine leaves_cons (f := 24) (args := #[.pointer (some ⟨g + 1, 0, none⟩), .pointer (some ⟨g, 0, none⟩)]) (by simp [settle]) (by simp [go_sem]) ?_
        refine (decodeD_ok _ _ _ _ (E3.cell 0)).mono ?_
        rintro e u' w8 ⟨rfl, rfl, rfl⟩
        refine ⟨_, results_two_row rfl _ _ g (g + 1) _ KV 0 rfl rfl V3 (E3.cell 0) HKI.out, ?_⟩
        unfold DecPost
        rw [HG.out, HDD.out]
        have hgW : g ≤ W.heap.size := by have := V2.lt; omega
        refine ⟨BB.alloc hgW _, cs, by rw [HKV.out], valR.stable RR ((Moves.of_below ((Below.refl _ _).alloc (Nat.le_refl _) _)).trans (Moves.less _ (fun b _ e => by omega)))⟩
end Go.Proofs.Ythpcanibahcghaa
