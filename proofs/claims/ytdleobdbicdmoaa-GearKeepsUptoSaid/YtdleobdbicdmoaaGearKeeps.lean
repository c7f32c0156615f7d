/- The walk of the law GearKeeps: what is handed in is left as it was and not kept; chunks are new memory, each its own. -/
import Derived.Test.YtdleobdbicdmoaaGearAwake
import Derived.Test.YtdleobdbicdmoaaGearSplit
import Derived.Test.YtdleobdbicdmoaaGearJoin
import Derived.Test.YtdleobdbicdmoaaRegion
import Derived.Deep.DeepCutAuto
import Derived.Deep.CutBlock
set_option linter.unusedVariables false
namespace Go.Proofs.Ytdleobdbicdmoaa
open Go.RowKit
attribute [local go_sem ↓] Go.wp_at_zero Go.wp_at_succ cvt_eq

theorem set_get {α : Type} {l : List α} {k i : Nat} {x y : α} (h : (l.set k x)[i]? = some y) : (i = k ∧ y = x) ∨ (i ≠ k ∧ l[i]? = some y) := by
  rw [List.getElem?_set] at h
  split at h
  · rename_i e
    split at h
    · injection h with h
      exact .inl ⟨e.symm, h.symm⟩
    · cases h
  · rename_i e
    exact .inr ⟨fun q => e q.symm, h⟩

/-- One of the rows is appended to: all others are as they were. -/
theorem OwnEach.replace {w w' : World} {base b : Nat} {E : TypeId} {vs : List Value} {ls : List (List UInt8)} {k : Nat} {v v' : Value} {l' : List UInt8}
    (h : OwnEach w base E vs ls) (hk : vs[k]? = some v) (hap : Appended w w' b E 1 v v' l'.length (bytesV l')) (hb : base ≤ b) : OwnEach w' base E (vs.set k v') (ls.set k l') := by
  have hne : ∀ (i : Nat) (u : Value), i ≠ k → vs[i]? = some u → u.ownBlock = none ∨ u.ownBlock ≠ v.ownBlock := by
    intro i u hik hu
    rcases Nat.lt_or_ge i k with hlt | hge
    · exact h.apart i k u v hlt hu hk
    · rcases h.apart k i v u (by omega) hk hu with h1 | h1
      · cases hub : u.ownBlock with
        | none => exact .inl rfl
        | some x => rw [h1]; exact .inr (by simp)
      · exact .inr (fun e => h1 e.symm)
  have hlt : ∀ (i : Nat) (u : Value) (x : Nat), vs[i]? = some u → u.ownBlock = some x → x < w.heap.size := by
    intro i u x hu hx
    obtain ⟨_, _, ho⟩ := h.get hu
    exact (ho.lt x hx).2
  have hnew : ∀ (i : Nat) (u : Value), i ≠ k → vs[i]? = some u → u.ownBlock = none ∨ u.ownBlock ≠ v'.ownBlock := by
    intro i u hik hu
    rcases hap.place with hp | hp
    · rw [hp]; exact hne i u hik hu
    · rw [hp]
      cases hub : u.ownBlock with
      | none => exact .inl rfl
      | some x =>
        right
        intro e
        injection e with e
        have := hlt i u x hu hub
        omega
  refine ⟨by simp [h.len], fun i u x hu hx => ?_, fun i j u x hij hu hx => ?_⟩
  · rcases set_get hu with ⟨rfl, rfl⟩ | ⟨hik, hu'⟩
    · rcases set_get hx with ⟨_, rfl⟩ | ⟨hc, _⟩
      · exact own_mono hap.own hb
      · exact absurd rfl hc
    · rcases set_get hx with ⟨rfl, _⟩ | ⟨_, hx'⟩
      · exact absurd rfl hik
      · exact (h.own i u x hu' hx').kept hap.grown (hne i u hik hu')
  · rcases set_get hu with ⟨rfl, rfl⟩ | ⟨hik, hu'⟩
    · rcases set_get hx with ⟨rfl, _⟩ | ⟨hjk, hx'⟩
      · omega
      · rcases hnew j x hjk hx' with h1 | h1
        · rw [h1]
          cases (Value.ownBlock _) with
          | none => exact .inl rfl
          | some y => exact .inr (by simp)
        · exact .inr (fun e => h1 e.symm)
    · rcases set_get hx with ⟨rfl, rfl⟩ | ⟨hjk, hx'⟩
      · exact hnew i u hik hu'
      · exact h.apart i j u x hij hu' hx'

theorem kept_by {w w' : World} {base B : Nat} {e : TypeId} {sz : Nat} {v : Value} {n : Nat} {xs : List Value} (h : w.ownsRow base e sz v n xs) (hb : Below B w w') (hv : ∀ k, v.ownBlock = some k → k < B) : w'.ownsRow base e sz v n xs := by
  refine ⟨h.1, ?_⟩
  rcases h.2 with h2 | ⟨g, cap, cur, rfl, hg, hh, r⟩
  · exact .inl h2
  · exact .inr ⟨g, cap, cur, rfl, hg, by rw [hb.block g (hv g rfl)]; exact hh, r⟩

theorem OwnEach.last {w : World} {base : Nat} {E : TypeId} {vs : List Value} {ls : List (List UInt8)} {v : Value} {l : List UInt8} (h : OwnEach w base E (vs ++ [v]) (ls ++ [l])) : OwnEach w base E vs ls ∧ w.ownsRow base E 1 v l.length (bytesV l) := by
  have hl : vs.length = ls.length := by have := h.len; simpa using this
  refine ⟨⟨hl, fun i u k hu hk => ?_, fun i j u x hij hu hx => ?_⟩, ?_⟩
  · have h1 := (List.getElem?_eq_some_iff.1 hu).1
    exact h.own i u k (by rw [List.getElem?_append_left h1]; exact hu) (by rw [List.getElem?_append_left (by omega)]; exact hk)
  · have h1 := (List.getElem?_eq_some_iff.1 hu).1
    have h2 := (List.getElem?_eq_some_iff.1 hx).1
    exact h.apart i j u x hij (by rw [List.getElem?_append_left h1]; exact hu) (by rw [List.getElem?_append_left h2]; exact hx)
  · exact h.own vs.length v l (by simp) (by rw [hl]; simp)

/-- the chunks of which the first k have a byte more -/
def more99 (k : Nat) (C : List (List UInt8)) : List (List UInt8) := (C.take k).map (· ++ [99]) ++ C.drop k
theorem more99_zero (C : List (List UInt8)) : more99 0 C = C := by simp [more99]
theorem more99_all (C : List (List UInt8)) : more99 C.length C = C.map (· ++ [99]) := by simp [more99]
theorem more99_length (k : Nat) (C : List (List UInt8)) (hk : k ≤ C.length) : (more99 k C).length = C.length := by simp [more99]; omega
theorem more99_get {k : Nat} {C : List (List UInt8)} (hk : k < C.length) : (more99 k C)[k]? = some C[k] := by
  unfold more99
  rw [List.getElem?_append_right (by simp; omega)]
  simp [Nat.min_eq_left (Nat.le_of_lt hk), hk]
theorem more99_set {k : Nat} {C : List (List UInt8)} (hk : k < C.length) : (more99 k C).set k (C[k] ++ [99]) = more99 (k + 1) C := by
  unfold more99
  have hl : ((C.take k).map (· ++ [99])).length = k := by simp; omega
  rw [List.set_append_right _ _ (by omega), hl, Nat.sub_self, List.drop_eq_getElem_cons hk, List.set_cons_zero, List.take_add_one, List.getElem?_eq_getElem hk]
  simp only [List.map_append, Option.toList_some, List.map_cons, List.map_nil, List.append_assoc, List.cons_append, List.nil_append]

theorem keeps_wrong (A : Option Addr) (n c : Nat) (l : List UInt8) (mn mx b : Int) (w : World) (hs : Sl w 1 A n (bytesV l)) (hc : n ≤ c) (hn : n ≤ 1048576) (hw : wrongB mn mx b = true) :
    Calls Try.prog 7 #[.slice A n c, .agg #[.int .i64 mn, .int .i64 mx, .int .i64 b]] w fun e w' => e = .returned (.bool true) ∧ Below w.heap.size w w' := by
  have hb0' : Below w.heap.size w (w.alloc (.cells #[.int .i64 mn, .int .i64 mx, .int .i64 b] 25)) := (Below.refl _ _).alloc (Nat.le_refl _) _
  have hP0 : (w.alloc (.cells #[.int .i64 mn, .int .i64 mx, .int .i64 b] 25)).cell? ⟨w.heap.size, 0, none⟩ = some (.int .i64 mn) ∧ (w.alloc (.cells #[.int .i64 mn, .int .i64 mx, .int .i64 b] 25)).cell? ⟨w.heap.size, 1, none⟩ = some (.int .i64 mx) ∧ (w.alloc (.cells #[.int .i64 mn, .int .i64 mx, .int .i64 b] 25)).cell? ⟨w.heap.size, 2, none⟩ = some (.int .i64 b) := by
    refine ⟨?_, ?_, ?_⟩ <;> go_simp
  have HW := Lib.hid hw
  have hz0 : w.heap.size < (w.alloc (.cells #[.int .i64 mn, .int .i64 mx, .int .i64 b] 25)).heap.size := by simp
  have hl : l.length = n := by have := hs.1; simpa [bytesV] using this
  clear hw
  go_enter Try.func7, Try.ntmps7
  go_wp2_with fail
  refine (awake_any _).mono ?_
  rintro e w1 ⟨rfl, hb1'⟩
  have hP1 := cells3_keep hb1' hz0 hP0
  have hb01 := hb0'.trans (hb1'.mono (by simp))
  have hz1 := Nat.lt_of_lt_of_le hz0 hb1'.size
  clear hP0 hb0' hb1' hz0
  have hs1 := hs.below hb01
  have m0 := own_made (base := w1.heap.size) w1 5 1 (Nat.le_refl _)
  obtain ⟨A1, c1, w2, run1, ap1, hc1, _⟩ := append_sl elemByte m0 (hs1.alloc _) (bytesV_one l) (by omega) (by simp only [maxLen]; omega) (by simp) 22 c
  simp only [Nat.zero_add, List.nil_append] at run1 ap1 hc1
  have z1 : Below w1.heap.size w1 w2 := ((Below.refl _ _).alloc (Nat.le_refl _) _).trans ap1.below
  obtain ⟨A2, c2, w3, run2, ap2, hc2, _⟩ := append_sl elemByte (ap1.own.alloc (.cells #[.int .u8 77] 5)) (Sl.one w2 (.int .u8 77) 5) (by simp; rfl) (by omega) (by simp only [maxLen]; omega) (by have := z1.size; simp; omega) 22 1
  have z2 : Below w1.heap.size w1 w3 := (z1.alloc z1.size _).trans ap2.below
  have hP3 := cells3_keep z2 hz1 hP1
  have hb03 := hb01.trans (z2.mono hb01.size)
  have hz3 := Nat.lt_of_lt_of_le hz1 z2.size
  have hnc2 : (n : Int) ≤ (c2 : Int) := by omega
  clear ap1 ap2 m0 z1 z2 hP1 hs1 hb01 hs
  obtain ⟨p1, p2, p3⟩ := id hP3
  go_wp2_with (first | (at_builtin; refine wpList_run_append run1 ?_ ?_ ?_; exact rfl; exact rfl) | (at_builtin; refine wpList_run_append run2 ?_ ?_ ?_; exact rfl; exact rfl))
  refine (split_wrong _ _ _ mn mx b _ HW.out).mono ?_
  rintro e w4 ⟨rfl, hb4⟩
  have hb04 := hb03.trans (hb4.mono hb03.size)
  clear run1 run2 hP3 hb03 hb4 p1 p2 p3
  go_wp2_with fail
  go_ret
  exact ⟨rfl, hb04⟩

set_option maxRecDepth 100000 in
set_option maxHeartbeats 4000000 in
theorem keeps_ok (A : Option Addr) (n c : Nat) (l : List UInt8) (mn mx b : Int) (w : World) (hs : Sl w 1 A n (bytesV l)) (hc : n ≤ c) (hn : n ≤ 1048576) (hw : wrongB mn mx b = false) :
    Calls Try.prog 7 #[.slice A n c, .agg #[.int .i64 mn, .int .i64 mx, .int .i64 b]] w fun e w' => e = .returned (.bool true) ∧ Below w.heap.size w w' := by
  have hb0' : Below w.heap.size w (w.alloc (.cells #[.int .i64 mn, .int .i64 mx, .int .i64 b] 25)) := (Below.refl _ _).alloc (Nat.le_refl _) _
  have hP0 : (w.alloc (.cells #[.int .i64 mn, .int .i64 mx, .int .i64 b] 25)).cell? ⟨w.heap.size, 0, none⟩ = some (.int .i64 mn) ∧ (w.alloc (.cells #[.int .i64 mn, .int .i64 mx, .int .i64 b] 25)).cell? ⟨w.heap.size, 1, none⟩ = some (.int .i64 mx) ∧ (w.alloc (.cells #[.int .i64 mn, .int .i64 mx, .int .i64 b] 25)).cell? ⟨w.heap.size, 2, none⟩ = some (.int .i64 b) := by
    refine ⟨?_, ?_, ?_⟩ <;> go_simp
  have HW := Lib.hid hw
  have hz0 : w.heap.size < (w.alloc (.cells #[.int .i64 mn, .int .i64 mx, .int .i64 b] 25)).heap.size := by simp
  have hl : l.length = n := by have := hs.1; simpa [bytesV] using this
  have hlen := cutL_length mn mx b l.length l (Nat.le_refl _)
  have hsum := cut_sum mn mx b l.length l (Nat.le_refl _)
  have hflat := chunksOf_flat (cutL mn mx b l) l hsum
  have hcl := chunksOf_length (cutL mn mx b l) l
  rw [hl] at hlen
  have HL := Lib.hid hl
  have HF := Lib.hid hflat
  have hCn : (chunksOf (cutL mn mx b l) l).length ≤ n := by rw [hcl]; exact hlen
  clear hw hflat hcl hl hsum hlen
  go_enter Try.func7, Try.ntmps7
  go_wp2_with fail
  refine (awake_any _).mono ?_
  rintro e w1 ⟨rfl, hb1'⟩
  have hP1 := cells3_keep hb1' hz0 hP0
  have hb01 := hb0'.trans (hb1'.mono (by simp))
  have hz1 := Nat.lt_of_lt_of_le hz0 hb1'.size
  clear hP0 hb0' hb1' hz0
  have hs1 := hs.below hb01
  have m0 := own_made (base := w1.heap.size) w1 5 1 (Nat.le_refl _)
  obtain ⟨A1, c1, w2, run1, ap1, hc1, _⟩ := append_sl elemByte m0 (hs1.alloc _) (bytesV_one l) (by omega) (by simp only [maxLen]; omega) (by simp) 22 c
  simp only [Nat.zero_add, List.nil_append] at run1 ap1 hc1
  have z1 : Below w1.heap.size w1 w2 := ((Below.refl _ _).alloc (Nat.le_refl _) _).trans ap1.below
  obtain ⟨A2, c2, w3, run2, ap2, hc2, _⟩ := append_sl elemByte (ap1.own.alloc (.cells #[.int .u8 77] 5)) (Sl.one w2 (.int .u8 77) 5) (by simp; rfl) (by omega) (by simp only [maxLen]; omega) (by have := z1.size; simp; omega) 22 1
  have z2 : Below w1.heap.size w1 w3 := (z1.alloc z1.size _).trans ap2.below
  have hmine := ap2.own
  obtain ⟨g, rfl, hg1, hg3⟩ := own_at hmine (by omega)
  have hsm : Sl w3 1 (some ⟨g, 0, none⟩) n (bytesV l) := by
    have h := (Sl.ofOwn hmine).upto (k := n) (by omega)
    rw [Nat.mul_one, List.take_append_of_le_length (by rw [bytesV_length, HL.out]; omega), List.take_of_length_le (by rw [bytesV_length, HL.out]; omega)] at h
    exact h
  have hP3 := cells3_keep z2 hz1 hP1
  have hb03 := hb01.trans (z2.mono hb01.size)
  have hz3 := Nat.lt_of_lt_of_le hz1 z2.size
  have hnc2 : (n : Int) ≤ (c2 : Int) := by omega
  clear ap1 ap2 m0 z1 z2 hP1 hs1 hb01
  obtain ⟨p1, p2, p3⟩ := id hP3
  go_wp2_with (first | (at_builtin; refine wpList_run_append run1 ?_ ?_ ?_; exact rfl; exact rfl) | (at_builtin; refine wpList_run_append run2 ?_ ?_ ?_; exact rfl; exact rfl))
  refine (split_any (some ⟨g, 0, none⟩) n c2 l mn mx b _ hsm (by omega) (by omega) HW.out).mono ?_
  rintro e w4 ⟨AC, cC, vs, rfl, hcrow, heach, hb4⟩
  have hb04 := hb03.trans (hb4.mono hb03.size)
  have hP4 := cells3_keep hb4 hz3 hP3
  have hmine4 := own_below hmine hb4
  have z34 := hb4.size
  obtain ⟨C', hC'⟩ : ∃ C', C' = chunksOf (cutL mn mx b l) l := ⟨_, rfl⟩
  have HCD := Lib.hid hC'.symm
  clear hC'
  rw [HCD.out] at HF hCn hcrow heach ⊢
  obtain ⟨C, rfl⟩ : ∃ C, C = C' := ⟨_, rfl⟩
  have HC : Hid (C.length ≤ n) := Lib.hid hCn
  clear p1 p2 p3 hP3 hmine hsm hb4 run1 run2
  go_wp2_with fail
  refine (join_any AC C.length cC vs C _ (Sl.ofOwn hcrow) heach.all (by omega) (by rw [HF.out, HL.out]; omega)).mono ?_
  rw [HF.out]
  rintro e w5 ⟨AJ, cJ, rfl, hJ, hb5⟩
  have each5 := (heach.below hb5).snoc hJ z34 (fun i u k hu hk => by
    obtain ⟨_, _, ho⟩ := heach.get hu
    exact (ho.lt k hk).2)
  have crow5 := own_below hcrow hb5
  have mine5 := own_below hmine4 hb5
  have hb05 := hb04.trans (hb5.mono hb04.size)
  have hz4 : w.heap.size < w4.heap.size := by omega
  have hP5 := cells3_keep hb5 hz4 hP4
  have z35 : w3.heap.size ≤ w5.heap.size := by have := hb5.size; omega
  clear hb04 hP4 hmine4 hcrow heach hJ hb5
  go_wp2_with fail
  go_loopw [39] (fun i wr => ∃ (k : Nat) (ms : List Value), k ≤ n ∧ i = .int .i64 k ∧ ms.length = n ∧ Hid (∀ (j : Nat) (x : Value), ms[j]? = some x → ∃ z, x = .int .u8 z) ∧
      wr.ownsRow w1.heap.size 5 1 (.slice (some ⟨g, 0, none⟩) (n + 1) c2) (n + 1) (ms ++ [.int .u8 77]) ∧ w5.grownBy wr (some g)) (fun i _ => n - (intOf i).toNat)
  case atStart =>
    refine ⟨0, bytesV l, by omega, rfl, by rw [bytesV_length, HL.out], Lib.hid fun j x hx => ?_, mine5, World.grownBy.refl _ _⟩
    obtain ⟨b, _, rfl⟩ := List.mem_map.1 (List.mem_of_getElem? hx)
    exact ⟨_, rfl⟩
  case round =>
    obtain ⟨k, ms, hk, rfl, hms, HMS, mine6, hgr⟩ := hrel
    by_cases hlt : k < n
    · obtain ⟨z, hz⟩ := HMS.out k ms[k] (List.getElem?_eq_getElem (by omega))
      have hcell := (mine6.cellAt k (by omega)).trans (show (ms ++ [Value.int .u8 77])[k]? = some (.int .u8 z) by rw [List.getElem?_append_left (by omega), List.getElem?_eq_getElem (by omega), hz])
      have hfr := mine6.frozenAt k
      have hst := fun u => mine6.stored k u
      have HST := Lib.hid hst
      have hlt' : (k : Int) < (n : Int) := by omega
      clear hst mine6 each5 crow5 mine5 hz hP5 hs
      go_wp2_with fail
      go_roundw
      case rel =>
        refine ⟨k + 1, ms.set k (.int .u8 (IntKind.u8.wrap (z + 1))), by omega, by go_num, by simpa using hms, Lib.hid fun j x hx => ?_, ?_, ?_⟩
        · rcases set_get hx with ⟨_, rfl⟩ | ⟨_, hx'⟩
          · exact ⟨_, rfl⟩
          · exact HMS.out j x hx'
        · have := (HST.out (.int .u8 (IntKind.u8.wrap (z + 1)))).1
          rw [List.set_append_left _ _ (by omega)] at this
          exact this
        · exact ⟨hgr.os, hgr.tape, hgr.output, Nat.le_trans hgr.size (by simp [World.setCell]), fun i hi hne => (Below.heap_setCell _ _ _ i (by simp at hne ⊢; omega)).trans (hgr.block i hi hne)⟩
      case measure => simp [intOf]; omega
    · have hms' : ms.length = n := hms
      have hge : ¬ (k : Int) < (n : Int) := by omega
      have each6 := each5.kept hgr (fun i u hu => by
        obtain ⟨_, _, ho⟩ := each5.get hu
        cases hub : u.ownBlock with
        | none => exact .inl rfl
        | some x =>
          right
          intro e
          injection e with e
          have := (ho.lt x hub).1
          omega)
      have crow6 := crow5.kept hgr (by
        cases hub : (Value.slice AC C.length cC).ownBlock with
        | none => exact .inl rfl
        | some x =>
          right
          intro e
          injection e with e
          have := (crow5.lt x hub).1
          omega)
      have hb06 : Below w.heap.size w wr := hb05.grown hgr hb05.size (fun k hk => by injection hk with hk; omega)
      have hP6 : wr.cell? ⟨w.heap.size, 0, none⟩ = some (.int .i64 mn) ∧ wr.cell? ⟨w.heap.size, 1, none⟩ = some (.int .i64 mx) ∧ wr.cell? ⟨w.heap.size, 2, none⟩ = some (.int .i64 b) :=
        cells3_keep (B := w.heap.size + 1) (((Below.refl (w.heap.size + 1) w5)).grown hgr (by omega) (fun k hk => by injection hk with hk; omega)) (by omega) hP5
      have z36 : w3.heap.size ≤ wr.heap.size := by have := hgr.size; omega
      clear each5 crow5 hb05 hP5 mine5 hgr HMS hms hk hlt
      obtain ⟨w6, rfl⟩ : ∃ w6 : World, w6 = wr := ⟨_, rfl⟩
      go_wp2_with fail
      go_loopw [51] (fun i wr => ∃ (k : Nat) (us : List Value), k ≤ C.length ∧ i = .int .i64 k ∧ us.length = C.length ∧ OwnEach wr w3.heap.size 5 (us ++ [.slice AJ l.length cJ]) (more99 k C ++ [l]) ∧
          wr.ownsRow w3.heap.size 22 1 (.slice AC C.length cC) C.length us ∧ Below w3.heap.size w6 wr) (fun i _ => C.length - (intOf i).toNat)
      case atStart =>
        refine ⟨0, vs, by omega, rfl, ?_, ?_, crow6, Below.refl _ _⟩
        · have := crow6.1; omega
        · rw [more99_zero]; exact each6
      case round =>
        obtain ⟨k, us, hk, rfl, hul, each, crow, hb67⟩ := hrel
        have z37 : w3.heap.size ≤ wr.heap.size := by have := hb67.size; omega
        by_cases hlt : k < C.length
        · obtain ⟨gc, rfl, _, _⟩ := own_at crow (by omega)
          have huk : us[k]? = some us[k] := List.getElem?_eq_getElem (by omega)
          have huk' : (us ++ [Value.slice AJ l.length cJ])[k]? = some us[k] := by rw [List.getElem?_append_left (by omega)]; exact huk
          obtain ⟨lk, hlk, ho⟩ := each.get huk'
          have hlk' : lk = C[k] := by
            rw [List.getElem?_append_left (by rw [more99_length k C hk]; exact hlt), more99_get hlt] at hlk
            injection hlk with hlk
            exact hlk.symm
          obtain ⟨Ak, ck, hval, hc1, hc2⟩ := own_form ho
          rw [hval] at ho huk huk'
          have hcell := (crow.cellAt k (by omega)).trans huk
          have hlkn : lk.length ≤ n := by
            have h1 := flat_take_le C (k + 1)
            have h2 := flat_take_succ (List.getElem?_eq_getElem hlt)
            rw [h2, List.length_append, HF.out, HL.out, ← hlk'] at h1
            omega
          obtain ⟨A9, c9, w8, run9, ap9, hc9, _⟩ := append_sl elemByte (ho.alloc (.cells #[.int .u8 99] 5)) (Sl.one wr (.int .u8 99) 5) (by simp; rfl) (by omega) (by simp only [maxLen]; omega) (by simp; omega) 22 1
          have ap9' : Appended (wr.alloc (.cells #[.int .u8 99] 5)) w8 w3.heap.size 5 1 (.slice Ak lk.length ck) (.slice A9 (lk.length + 1) c9) (lk ++ [99]).length (bytesV (lk ++ [99])) := by
            rw [List.length_append]
            simpa [bytesV] using ap9
          have balloc : Below wr.heap.size wr (wr.alloc (.cells #[.int .u8 99] 5)) := (Below.refl _ _).alloc (Nat.le_refl _) _
          have each8 := (each.below balloc).replace huk' ap9' (Nat.le_refl _)
          have e99 : (more99 k C).set k (lk ++ [99]) = more99 (k + 1) C := by rw [hlk']; exact more99_set hlt
          rw [List.set_append_left _ _ (by omega), List.set_append_left _ _ (by rw [more99_length k C hk]; exact hlt), e99] at each8
          have crow8 := (own_below crow balloc).kept ap9.grown (own_ne crow ho (by decide))
          have hcell8 := (crow8.cellAt k (by omega)).trans huk
          have hfr8 := crow8.frozenAt k
          have hst := crow8.stored k (.slice A9 (lk.length + 1) c9)
          have each9 := each8.kept hst.2 (fun i u hu => by
            obtain ⟨_, _, ho'⟩ := each8.get hu
            exact own_ne ho' crow8 (by decide))
          have hb68 : Below w3.heap.size w6 (w8.setCell ⟨gc, k, none⟩ (.slice A9 (lk.length + 1) c9)) := ((hb67.alloc z37 _).trans ap9.below).setCell (by have := (crow.lt gc rfl).1; simpa using this) _
          have crow9 := hst.1
          have hlt' : (k : Int) < (C.length : Int) := by omega
          have E9 := Lib.hid each9
          have C9 := Lib.hid crow9
          clear e99 each8 crow8 hst each9 crow9 hval hlk hlk' huk huk' ho ap9 ap9' balloc each crow each6 crow6 hP6 hs
          go_wp2_with (at_builtin; refine wpList_run_append run9 ?_ ?_ ?_; exact rfl; exact rfl)
          go_roundw
          case rel =>
            refine ⟨k + 1, us.set k (.slice A9 (lk.length + 1) c9), by omega, by go_num, by simpa using hul, ?_, ?_, hb68⟩
            · exact E9.out
            · exact C9.out
          case measure => simp [intOf]; omega
        · have hkC : k = C.length := by omega
          have hge : ¬ (k : Int) < (C.length : Int) := by omega
          rw [hkC, more99_all] at each
          have hb37 : Below w.heap.size w wr := hb06.trans (hb67.mono (by omega))
          have hP7 := cells3_keep hb67 (by omega) hP6
          have hmine7 := kept_by mine6 hb67 (fun x hx => by simp only [Value.ownBlock, Option.some.injEq] at hx; omega)
          clear hkC hb67 hb06 hP6 mine6 each6 crow6 hk hlt
          obtain ⟨w7, rfl⟩ : ∃ w7 : World, w7 = wr := ⟨_, rfl⟩
          obtain ⟨p1, p2, p3⟩ := id hP7
          go_wp2_with fail
          refine (split_any A n c l mn mx b w7 (hs.below hb37) hc (by omega) HW.out).mono ?_
          rw [HCD.out]
          rintro e w8 ⟨AD, cD, ds, rfl, hdrow, hdeach, hb8⟩
          have each8 := each.below hb8
          have crow8 := own_below crow hb8
          have mine8 := own_below hmine7 hb8
          have hb38 := hb37.trans (hb8.mono hb37.size)
          have hs8 := hs.below hb38
          have hsD := Sl.ofOwn hdrow
          have hallD := hdeach.all
          clear each crow hmine7 hb37 hP7 p1 p2 p3 hdrow hdeach hb8 hs
          go_wp2_with fail
          go_loopw [72] (fun i wr => ∃ k q : Nat, k ≤ C.length ∧ i = .int .i64 k ∧ wr = w8.drewN q) (fun i _ => C.length - (intOf i).toNat)
          case atStart => exact ⟨0, 0, by omega, rfl, rfl⟩
          case round =>
            obtain ⟨k, q, hk, rfl, rfl⟩ := hrel
            by_cases hlt : k < C.length
            · obtain ⟨gc, rfl, _, _⟩ := own_at crow8 (by omega)
              have huk : us[k]? = some us[k] := List.getElem?_eq_getElem (by omega)
              obtain ⟨lk, hlk, ho⟩ := each8.last.1.get huk
              have hlk' : lk = C[k] ++ [99] := by
                rw [List.getElem?_map, List.getElem?_eq_getElem hlt] at hlk
                injection hlk with hlk
                exact hlk.symm
              obtain ⟨ch, hch⟩ : ∃ ch, ch = C[k] := ⟨_, rfl⟩
              rw [← hch] at hlk'
              obtain ⟨N, hN⟩ : ∃ N, N = lk.length := ⟨_, rfl⟩
              rw [← hN] at ho
              obtain ⟨Ak, ck, hval, hc1, hc2⟩ := own_form ho
              rw [hval] at ho huk
              have hcell := (crow8.cellAt k (by omega)).trans huk
              have hNl : N = ch.length + 1 := by rw [hN, hlk', List.length_append]; rfl
              have hcut : Sl w8 1 Ak (N - 1) (bytesV ch) := by
                have h := (Sl.ofOwn ho).upto (k := N - 1) (by omega)
                rw [Nat.mul_one, bytesV_take, hlk', List.take_append_of_le_length (by omega), List.take_of_length_le (by omega)] at h
                exact h
              obtain ⟨bd, od, Ad, cd, ld, rfl, _, hcd, hld, hdk, _, _⟩ := hallD.look hsD hlt
              have hld' : ld = ch := by
                rw [List.getElem?_eq_getElem hlt] at hld
                injection hld with hld
                rw [hch]; exact hld.symm
              subst hld'
              have HCUT := Lib.hid hcut
              have HDK := Lib.hid hdk
              have hN1 : 1 ≤ N := by omega
              have hNc : (N : Int) - 1 ≤ (ck : Int) := by omega
              have hN0 : (0 : Int) ≤ (N : Int) - 1 := by omega
              have hN0' : (1 : Int) ≤ (N : Int) := by omega
              have hNm : N ≤ maxLen := by omega
              unfold maxLen at hNm
              have hwr : IntKind.i64.wrap ((N : Int) - 1) = (N : Int) - 1 := IntWalk.i64_in _ ⟨by omega, by omega⟩
              have hlt' : (k : Int) < (C.length : Int) := by omega
              have HS0 : ∃ q', (w8.drewN q).drew = w8.drewN q' := ⟨q + 1, rfl⟩
              clear each8 crow8 mine8 hb38 hs8 hsD hallD huk hlk hlk' hch hN hval ho hNl hcut hld hdk
              go_wp2_with fail
              refine wp_region_held (S := fun w' => ∃ q', w' = w8.drewN q') (by kernel_rfl) ?_
              change wpAnyH _ _ _ _ _ _ _ _ (World.drew _)
              refine held_take (i := 0) (v := ?_) (a' := ?_) rfl (by kernel_rfl) (by kernel_rfl) (by kernel_rfl) (fun _ _ _ h => h) (by rfl) HS0 ?_ ?_ ?_
              rotate_left 2
              · (intro w hS; go_simp; try with_reducible rfl)
              · (go_simp; try with_reducible rfl)
              refine held_take (i := 1) (v := ?_) (a' := ?_) rfl (by kernel_rfl) (by kernel_rfl) (by kernel_rfl) (fun _ _ _ h => h) (by rfl) HS0 ?_ ?_ ?_
              rotate_left 2
              · (intro w hS; go_simp; try with_reducible rfl)
              · (go_simp; try with_reducible rfl)
              refine held_take (i := 2) (v := ?_) (a' := ?_) rfl (by kernel_rfl) (by kernel_rfl) (by kernel_rfl) (fun _ _ _ h => h) (by rfl) HS0 ?_ ?_ ?_
              rotate_left 2
              · (intro w hS; go_simp; try with_reducible rfl)
              · (go_simp; try with_reducible rfl)
              refine held_take (i := 3) (v := ?_) (a' := ?_) rfl (by kernel_rfl) (by kernel_rfl) (by kernel_rfl) (fun _ _ _ h => h) (by rfl) HS0 ?_ ?_ ?_
              rotate_left 2
              · (intro w hS; obtain ⟨q1, rfl⟩ := hS; go_simp; try with_reducible rfl)
              · (go_simp; try with_reducible rfl)
              refine held_take (i := 4) (v := ?_) (a' := ?_) rfl (by kernel_rfl) (by kernel_rfl) (by kernel_rfl) (fun _ _ _ h => h) (by rfl) HS0 ?_ ?_ ?_
              rotate_left 2
              · (intro w hS; go_simp; try with_reducible rfl)
              · (go_simp; try with_reducible rfl)
              refine held_take (i := 5) (v := ?_) (a' := ?_) rfl (by kernel_rfl) (by kernel_rfl) (by kernel_rfl) (fun _ _ _ h => h) (by rfl) HS0 ?_ ?_ ?_
              rotate_left 2
              · (intro w hS; go_simp; try with_reducible rfl)
              · (go_simp; try with_reducible rfl)
              refine held_take (i := 6) (v := ?_) (a' := ?_) rfl (by kernel_rfl) (by kernel_rfl) (by kernel_rfl) (fun _ _ _ h => h) (by rfl) HS0 ?_ ?_ ?_
              rotate_left 2
              · (intro w hS; go_simp; try with_reducible rfl)
              · (go_simp; try with_reducible rfl)
              refine held_take (i := 7) (v := ?_) (a' := ?_) rfl (by kernel_rfl) (by kernel_rfl) (by kernel_rfl) (fun _ _ _ h => h) (by rfl) HS0 ?_ ?_ ?_
              rotate_left 2
              · (intro w hS; obtain ⟨q1, rfl⟩ := hS; go_simp; try with_reducible rfl)
              · (go_simp; try with_reducible rfl)
              refine held_take (i := 8) (v := ?_) (a' := ?_) rfl (by kernel_rfl) (by kernel_rfl) (by kernel_rfl) (fun _ _ _ h => h) (by rfl) HS0 ?_ ?_ ?_
              rotate_left 2
              · (intro w hS; go_simp; try with_reducible rfl)
              · (go_simp; try with_reducible rfl)
              refine held_take (i := 9) (v := ?_) (a' := ?_) rfl (by kernel_rfl) (by kernel_rfl) (by kernel_rfl) (fun _ _ _ h => h) (by rfl) HS0 ?_ ?_ ?_
              rotate_left 2
              · (intro w hS; go_simp; try with_reducible rfl)
              · (go_simp; try with_reducible rfl)
              refine held_take (i := 10) (v := ?_) (a' := ?_) rfl (by kernel_rfl) (by kernel_rfl) (by kernel_rfl) (fun _ _ _ h => h) (by rfl) HS0 ?_ ?_ ?_
              rotate_left 2
              · (intro w hS; go_simp; try with_reducible rfl)
              · (go_simp; try with_reducible rfl)
              refine held_take (i := 11) (v := ?_) (a' := ?_) rfl (by kernel_rfl) (by kernel_rfl) (by kernel_rfl) (fun _ _ _ h => h) (by rfl) HS0 ?_ ?_ ?_
              rotate_left 2
              · (intro w hS; obtain ⟨q1, rfl⟩ := hS; have cvx := cvt_of (w := w8.drewN q1) HCUT.out ck; go_simp; try with_reducible rfl)
              · (go_simp; try with_reducible rfl)
              refine held_take (i := 12) (v := ?_) (a' := ?_) rfl (by kernel_rfl) (by kernel_rfl) (by kernel_rfl) (fun _ _ _ h => h) (by rfl) HS0 ?_ ?_ ?_
              rotate_left 2
              · (intro w hS; go_simp; try with_reducible rfl)
              · (go_simp; try with_reducible rfl)
              refine held_take (i := 13) (v := ?_) (a' := ?_) rfl (by kernel_rfl) (by kernel_rfl) (by kernel_rfl) (fun _ _ _ h => h) (by rfl) HS0 ?_ ?_ ?_
              rotate_left 2
              · (intro w hS; go_simp; try with_reducible rfl)
              · (go_simp; try with_reducible rfl)
              refine held_take (i := 14) (v := ?_) (a' := ?_) rfl (by kernel_rfl) (by kernel_rfl) (by kernel_rfl) (fun _ _ _ h => h) (by rfl) HS0 ?_ ?_ ?_
              rotate_left 2
              · (intro w hS; go_simp; try with_reducible rfl)
              · (go_simp; try with_reducible rfl)
              refine held_take (i := 15) (v := ?_) (a' := ?_) rfl (by kernel_rfl) (by kernel_rfl) (by kernel_rfl) (fun _ _ _ h => h) (by rfl) HS0 ?_ ?_ ?_
              rotate_left 2
              · (intro w hS; obtain ⟨q1, rfl⟩ := hS; go_simp; try with_reducible rfl)
              · (go_simp; try with_reducible rfl)
              refine held_take (i := 16) (v := ?_) (a' := ?_) rfl (by kernel_rfl) (by kernel_rfl) (by kernel_rfl) (fun _ _ _ h => h) (by rfl) HS0 ?_ ?_ ?_
              rotate_left 2
              · (intro w hS; obtain ⟨q1, rfl⟩ := hS; have cvx := cvt_of (w := w8.drewN q1) HDK.out cd; go_simp; try with_reducible rfl)
              · (go_simp; try with_reducible rfl)
              refine held_take (i := 17) (v := ?_) (a' := ?_) rfl (by kernel_rfl) (by kernel_rfl) (by kernel_rfl) (fun _ _ _ h => h) (by rfl) HS0 ?_ ?_ ?_
              rotate_left 2
              · (intro w hS; go_simp; try with_reducible rfl)
              · (go_simp; try with_reducible rfl)
              refine wpAnyH_done (by kernel_rfl) ?_ _
              go_wp2_with fail
              go_roundw
              case rel => exact ⟨k + 1, q + 1, by omega, by go_num, rfl⟩
              case measure => simp [intOf]; omega
            · have hge : ¬ (k : Int) < (C.length : Int) := by omega
              obtain ⟨_, hJ8⟩ := each8.last
              have HJ8 := (Sl.ofOwn hJ8)
              have cv1 := cvt_of (w := w8.drewN q) HJ8 cJ
              have cv2 := cvt_of (w := w8.drewN q) hs8 c
              have h77 : (mine8).1 = mine8.1 := rfl
              have hcell := (mine8.cellAt n (by omega)).trans (show (ms ++ [Value.int .u8 77])[n]? = some (.int .u8 77) by rw [List.getElem?_append_right (by omega), hms']; simp)
              have hnc3 : (n : Int) + 1 ≤ (c2 : Int) := by omega
              clear each8 crow8 mine8 hsD hallD hlt hk hs8 HJ8 hJ8 h77
              go_wp2_with fail
              go_ret
              exact ⟨rfl, below_drewN hb38 q⟩

theorem keeps_any (A : Option Addr) (n c : Nat) (l : List UInt8) (mn mx b : Int) (w : World) (hs : Sl w 1 A n (bytesV l)) (hc : n ≤ c) (hm : c ≤ maxLen) (hn : n ≤ 1048576) (wf0 : (Lit.int .i64 mn).wf = true) (wf1 : (Lit.int .i64 mx).wf = true) (wf2 : (Lit.int .i64 b).wf = true) :
    Calls Try.prog 7 #[.slice A n c, .agg #[.int .i64 mn, .int .i64 mx, .int .i64 b]] w fun e w' => e = .returned (.bool true) ∧ Below w.heap.size w w' := by
  by_cases hw : wrongB mn mx b = true
  · exact keeps_wrong A n c l mn mx b w hs hc hn hw
  · exact keeps_ok A n c l mn mx b w hs hc hn (by simpa using hw)
end Go.Proofs.Ytdleobdbicdmoaa
