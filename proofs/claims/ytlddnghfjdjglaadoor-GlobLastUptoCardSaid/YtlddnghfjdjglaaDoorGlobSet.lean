/- glob's scan: set. -/
import Derived.Test.YtlddnghfjdjglaaDoorGlobSt
import Derived.Deep.CutBlock
import Derived.Deep.DeepCutAuto
set_option linter.unusedVariables false
set_option linter.unusedSimpArgs false
namespace Go.Proofs.YtlddnghfjdjglaaDoor
open Go.RowKit

def SetPost (w : World) (g : Nat) (r : Option (Atm × List UInt8)) (e : Ending) (w' : World) : Prop :=
  w.grownBy w' (some g) ∧ match r with
    | some (a, l) => ∃ F n c T d, e = .returned (.agg (atK a.no F n c T n d)) ∧ a = ⟨false, false, a.no, a.rs⟩ ∧ n = a.rs.length ∧ n ≤ c ∧ c ≤ maxLen ∧ n ≤ d ∧ d ≤ maxLen ∧ SlOf byteR w' (fun b => b < w.heap.size) F (a.rs.map (·.1)) ∧ SlOf byteR w' (fun b => b < w.heap.size) T (a.rs.map (·.2)) ∧ Scn w' g l
    | none => e = .panicked brokE
/-- how much of the scan's text is left -/
def leftOf (w : World) (g : Nat) : Nat := match w.cell? ⟨g, 0, none⟩ with
  | some (.string s) => s.size
  | _ => 0
theorem left_scn {w : World} {g : Nat} {l : List UInt8} (h : Scn w g l) : leftOf w g = l.length := by
  unfold leftOf
  rw [h.cell 0]
  simp [strL, ByteArray.size]
theorem row_away {w : World} {B B0 : Nat} {A : Option Addr} {n c : Nat} {l : List UInt8} (h : RowR byteR 5 w B A n c l) (hB : B0 ≤ B) : SlOf byteR w (fun b => b < B0) A l :=
  h.sl.away B0 (fun h0 b off e => by
    obtain ⟨g, hg, h1, _⟩ := h.at (by rw [h.len]; exact h0)
    rw [e] at hg
    injection hg with hg
    injection hg with e1 _
    omega) (fun _ _ k => k)
theorem or_end {a b : Bool} (h : false = (a || !b)) : b = true := by cases a <;> cases b <;> simp_all
theorem and_both {a b : Bool} (h : true = (a && !b)) : a = true := by cases a <;> cases b <;> simp_all
theorem setL_end {rs : List (UInt8 × UInt8)} {l : List UInt8} (h : (rs.isEmpty || !begins [93] l) = false) : setL rs l = some (rs, l.drop 1) := by
  rw [setL, if_pos (by cases h1 : rs.isEmpty <;> cases h2 : begins [93] l <;> simp_all)]
theorem setL_bad {rs : List (UInt8 × UInt8)} {l : List UInt8} (h : (rs.isEmpty || !begins [93] l) = true) (hr : rangeG l = none) : setL rs l = none := by
  rw [setL, if_neg (by cases h1 : rs.isEmpty <;> cases h2 : begins [93] l <;> simp_all)]
  split
  · rfl
  · rename_i p r h1; rw [hr] at h1; cases h1
theorem setL_step {rs : List (UInt8 × UInt8)} {l r : List UInt8} {p : UInt8 × UInt8} (h : (rs.isEmpty || !begins [93] l) = true) (hr : rangeG l = some (p, r)) : setL rs l = setL (rs ++ [p]) r := by
  rw [setL, if_neg (by cases h1 : rs.isEmpty <;> cases h2 : begins [93] l <;> simp_all)]
  split
  · rename_i h1; rw [hr] at h1; cases h1
  · rename_i p' r' h1; rw [hr] at h1; injection h1 with h1; injection h1 with h2 h3; subst h2 h3; rfl
theorem range_bad {l : List UInt8} (h : letterG l = none) : rangeG l = none := by unfold rangeG; rw [h]
theorem range_one {l r : List UInt8} {x : UInt8} (h : letterG l = some (x, r)) (hd : (begins [45] r && !begins [45, 93] r) = false) : rangeG l = some ((x, x), r) := by
  unfold rangeG; rw [h]; simp only [hd]; rfl
theorem range_two {l r : List UInt8} {x : UInt8} (h : letterG l = some (x, r)) (hd : (begins [45] r && !begins [45, 93] r) = true) : rangeG l = match letterG (r.drop 1) with | none => none | some (y, r') => if y < x then none else some ((x, y), r') := by
  unfold rangeG; rw [h]; simp only [hd, if_true]; rfl
theorem begins_one {x : UInt8} {l : List UInt8} (h : begins [x] l = true) : l = x :: l.drop 1 := by
  cases l with
  | nil => simp [begins] at h
  | cons y t => simp [begins] at h; subst h; rfl

set_option maxRecDepth 100000 in
set_option maxHeartbeats 4000000 in
theorem set_any (g : Nat) (l : List UInt8) (w : World) (h : Scn w g l) (hl : l.length ≤ 1000000) :
    Calls Tryd.prog 43 #[.pointer (some ⟨g, 0, none⟩)] w (SetPost w g (setG l)) := by
  obtain ⟨w1, hw1⟩ : ∃ w1, w1 = (w.alloc (.cells (atK false none 0 0 none 0 0) 76)).alloc (.cells (atK false none 0 0 none 0 0) 76) := ⟨_, rfl⟩
  have hb1 : Below w.heap.size w w1 := by rw [hw1]; exact ((Below.refl _ _).alloc (Nat.le_refl _) _).alloc (by simp) _
  have hsz : w1.heap.size = w.heap.size + 2 := by rw [hw1]; simp
  have HST1 := Lib.hid (show SetSt w w1 (w.heap.size + 2) g w.heap.size (w.heap.size + 1) (atK false none 0 0 none 0 0) (atK false none 0 0 none 0 0) none 0 0 none 0 0 [] [] l from
    ⟨grown_below hb1 _, by omega, ⟨h.lt, Nat.le_refl _, by omega, by omega⟩, h.below hb1 h.lt, by rw [hw1]; exact (Blk.new w _ _).alloc _, by
      have := Blk.new (w.alloc (.cells (atK false none 0 0 none 0 0) 76)) 76 (atK false none 0 0 none 0 0)
      rw [hw1]; simpa using this, RowR.nil _ _ _ _, RowR.nil _ _ _ _, fun b h1 _ => by cases h1⟩)
  obtain ⟨R, hR⟩ : ∃ R, R = setG l := ⟨_, rfl⟩
  obtain ⟨no, hno⟩ : ∃ no, no = begins [33] l := ⟨_, rfl⟩
  obtain ⟨l1, hl1⟩ : ∃ l1, l1 = if begins [33] l then l.drop 1 else l := ⟨_, rfl⟩
  have HR := Lib.hid (show R = match setL [] l1 with | none => none | some (rs, r) => some (⟨false, false, no, rs⟩, r) by rw [hR, hl1, hno]; rfl)
  have HNO := Lib.hid hno
  have HL1 := Lib.hid hl1
  have HLN := Lib.hid (show l1.length ≤ 1000000 by rw [hl1]; split; (rw [List.length_drop]; omega); exact hl)
  rw [← hR]
  clear h hl hR hno hl1 hb1 hsz
  go_enter Tryd.func43, Tryd.ntmps43
  go_upto_region 2 with fail
  change Code.wp _ _ _ _ ((w.alloc (.cells (atK false none 0 0 none 0 0) 76)).alloc (.cells (atK false none 0 0 none 0 0) 76))
  rw [← hw1]
  clear hw1
  generalize hg : w.heap.size = g2 at *
  have HG := Lib.hid hg
  clear hg
  have c0 : w1.cell? ⟨g, 0, none⟩ = some (.string (strL l)) := HST1.out.scan.cell 0
  go_wp2_with fail
  refine (begins_any l [33] w1).mono ?_
  rintro e w1 ⟨rfl, rfl⟩
  clear c0
  rw [← HNO.out]
  go_upto_if 10 with fail
  go_cut [] (fun wx => Hid (SetSt w wx (g2 + 2) g g2 (g2 + 1) (atK false none 0 0 none 0 0) (atK no none 0 0 none 0 0) none 0 0 none 0 0 [] [] l1))
  case first =>
    cases no with
    | true =>
      have hl := begins_one HNO.out.symm
      have hl1 : l1 = l.drop 1 := by rw [HL1.out, if_pos HNO.out.symm]
      rw [← hl1] at hl
      have HN := Lib.hid (next_any g l w1 HST1.out.scan)
      have HLL := Lib.hid hl
      clear hl hl1
      go_wp2_with fail
      refine HN.out.mono ?_
      intro e w2 hp
      rw [HLL.out] at hp
      obtain ⟨hg2, rfl, hs2⟩ := hp
      have HST2 := Lib.hid (HST1.out.scanned hg2 hs2)
      have HST3 := Lib.hid (HST2.out.set 2 (.bool true))
      have hc := HST2.out.blk.cell 2
      have hf := HST2.out.blk.frozen 2
      clear hg2 hs2 HN HST1
      go_wp2_with fail
      go_meet
      case rel => exact HST3
    | false =>
      have HLL := Lib.hid (show l1 = l by rw [HL1.out, if_neg (by rw [← HNO.out]; decide)])
      go_wp2_with fail
      go_meet
      case rel => rw [HLL.out]; exact HST1
  case rest =>
    rename World => w3
    have HST4 := hcut
    clear hcut HST1 HL1
    go_wp2_with fail
    go_loopw [] (fun wr => ∃ (F : Option Addr) (n c : Nat) (T : Option Addr) (d : Nat) (rs : List (UInt8 × UInt8)) (l' : List UInt8), Hid (SetSt w wr (g2 + 2) g g2 (g2 + 1) (atK false none 0 0 none 0 0) (atK no F n c T n d) F n c T n d (rs.map (·.1)) (rs.map (·.2)) l') ∧ Hid (setL rs l' = setL [] l1) ∧ Hid (n = rs.length) ∧ Hid (n + l'.length ≤ 1000000)) (fun wr => leftOf wr g)
    case atStart => exact ⟨none, 0, 0, none, 0, [], l1, HST4, Lib.hid rfl, Lib.hid rfl, Lib.hid (by have := HLN.out; omega)⟩
    case round =>
      obtain ⟨F, n, c, T, d, rs, l', HST, HSL, HN, HNL⟩ := hrel
      have c0 : wr.cell? ⟨g, 0, none⟩ = some (.string (strL l')) := HST.out.scan.cell 0
      have c3 : wr.cell? ⟨g2 + 1, 3, none⟩ = some (.slice F n c) := HST.out.blk.cell 3
      obtain ⟨bb, hbb⟩ : ∃ bb, bb = (rs.isEmpty || !begins [93] l') := ⟨_, rfl⟩
      have HBB := Lib.hid hbb
      clear hbb
      go_upto_region 5 with fail
      go_cut [25] (fun v wx => v = .bool bb ∧ wx = wr)
      case first =>
        cases hrs : rs with
        | nil =>
          obtain rfl : n = 0 := by rw [HN.out, hrs]; rfl
          have hv : bb = true := by rw [HBB.out, hrs]; rfl
          subst hv
          go_wp2_with fail
          go_meet
          case rel => exact ⟨rfl, rfl⟩
        | cons p q =>
          have hnz : ((n : Int) == 0) = false := by have := HN.out; rw [hrs] at this; simp at this ⊢; omega
          have hv : bb = !begins [93] l' := by rw [HBB.out, hrs]; rfl
          have HV := Lib.hid hv
          clear hv hrs
          go_wp2_with fail
          refine (begins_any l' [93] wr).mono ?_
          rintro e wr ⟨rfl, rfl⟩
          go_wp2_with fail
          go_meet
          case rel => exact ⟨by rw [HV.out], rfl⟩
      case rest =>
        obtain ⟨rfl, hwr⟩ := hcut
        obtain rfl : wr = _ := hwr.symm
        cases bb with
        | false =>
          have hse := setL_end HBB.out.symm
          have hl : l' = 93 :: l'.drop 1 := begins_one (or_end HBB.out)
          have HRR := Lib.hid (show R = some (⟨false, false, no, rs⟩, l'.drop 1) by rw [HR.out, ← HSL.out, hse])
          have HN1 := Lib.hid (next_any g l' wr HST.out.scan)
          have HLL := Lib.hid hl
          clear c0 c3 hse hl
          go_wp2_with fail
          refine HN1.out.mono ?_
          intro e w5 hp
          rw [HLL.out] at hp
          obtain ⟨hg5, rfl, hs5⟩ := hp
          have HST5 := Lib.hid (HST.out.scanned hg5 hs5)
          obtain ⟨KV, hKV⟩ : ∃ KV, KV = atK no F n c T n d := ⟨_, rfl⟩
          have HKV := Lib.hid hKV
          have HI := Lib.hid (show (Tryd.prog.info? 76).map (·.size) = some KV.size by rw [hKV]; kernel_rfl)
          have HO := Lib.hid (show KV.all (·.oneCell') = true by rw [hKV]; simp [atK, Value.oneCell'])
          have HZ := Lib.hid (show (atK false none 0 0 none 0 0).size = KV.size by rw [hKV]; rfl)
          have HBK := Lib.hid (show Blk w5 (g2 + 1) 76 KV by rw [hKV]; exact HST5.out.blk)
          clear hg5 hs5 HN1 hKV HST
          go_wp2_with (first
            | (refine wpList_load_row rfl 76 (.tmp 3) rfl (g2 + 1) rfl 76 KV (0, 0) _ HBK.out Tryd.underlying76 rfl HI.out ?_)
            | (refine wpList_store_row rfl _ _ _ rfl g2 KV rfl rfl 76 _ HST5.out.res HI.out HZ.out HO.out ?_)
            | fail)
          refine bodyPost_ret (results_cell_row rfl _ _ g2 76 KV (0, 0) _ rfl (setRow_heap _ g2 _ _ _ _ HST5.out.res) Tryd.underlying76 rfl HI.out) rfl ?_
          rw [HRR.out]
          have hgr : w5.grownBy (w5.setRow g2 KV) (some g2) := ⟨rfl, rfl, rfl, by simp, fun k hk hne => setRow_other w5 g2 k KV (fun e => hne (congrArg some e))⟩
          obtain ⟨o1, o2, o3, o4⟩ := HST5.out.ord
          refine ⟨grown_new HST5.out.grown hgr o2, F, n, c, T, d, by rw [HKV.out], rfl, HN.out, (HST5.out.f.cap).1, (HST5.out.f.cap).2, (HST5.out.t.cap).1, (HST5.out.t.cap).2, ?_, ?_, HST5.out.scan.grown hgr (fun e => by injection e with e; omega)⟩
          · exact row_away (row_byte HST5.out.f hgr (fun k e hk => by injection e with e; have := (HST5.out.f.lt hk).1; omega)) (by omega)
          · exact row_away (row_byte HST5.out.t hgr (fun k e hk => by injection e with e; have := (HST5.out.t.lt hk).1; omega)) (by omega)
        | true =>
          have HLT := Lib.hid (letter_any g l' wr HST.out.scan)
          clear c0 c3
          go_wp2_with fail
          refine HLT.out.mono ?_
          intro e w5 hp
          obtain ⟨hg5, hp⟩ := hp
          revert hp
          cases hlt : letterG l' with
          | none =>
            intro hp
            obtain rfl : e = _ := hp
            have hrr : R = none := by rw [HR.out, ← HSL.out, setL_bad HBB.out.symm (range_bad hlt)]
            exact ⟨rfl, grown_trans HST.out.grown hg5, by rw [hrr]⟩
          | some q =>
            obtain ⟨x, r⟩ := q
            rintro ⟨rfl, hs5⟩
            have HST5 := Lib.hid (HST.out.scanned hg5 hs5)
            have HLX := Lib.hid hlt
            have HRL := Lib.hid (letterG_len hlt)
            have c0 : w5.cell? ⟨g, 0, none⟩ = some (.string (strL r)) := HST5.out.scan.cell 0
            obtain ⟨dash, hdash⟩ : ∃ dash, dash = (begins [45] r && !begins [45, 93] r) := ⟨_, rfl⟩
            have HDA := Lib.hid hdash
            clear hlt hg5 hs5 HLT hdash
            go_upto_region 8 with fail
            go_cut [41] (fun v wx => v = .bool dash ∧ wx = w5)
            case first =>
              go_wp2_with fail
              refine (begins_any r [45] w5).mono ?_
              rintro e w5 ⟨rfl, rfl⟩
              cases hb : begins [45] r with
              | false =>
                have HV := Lib.hid (show dash = false by rw [HDA.out, hb]; rfl)
                clear hb
                go_wp2_with fail
                go_meet
                case rel => exact ⟨by rw [HV.out], rfl⟩
              | true =>
                have HV := Lib.hid (show dash = !begins [45, 93] r by rw [HDA.out, hb]; rfl)
                clear hb
                go_wp2_with fail
                refine (begins_any r [45, 93] w5).mono ?_
                rintro e w5 ⟨rfl, rfl⟩
                go_wp2_with fail
                go_meet
                case rel => exact ⟨by rw [HV.out], rfl⟩
            case rest =>
              obtain ⟨rfl, hwr⟩ := hcut
              obtain rfl : w5 = _ := hwr.symm
              go_upto_if 41 with fail
              go_cut [5] (fun v wx => ∃ (y : UInt8) (l2 : List UInt8), v = .int .u8 (y.toNat : Int) ∧ Hid (SetSt w wx (g2 + 2) g g2 (g2 + 1) (atK false none 0 0 none 0 0) (atK no F n c T n d) F n c T n d (rs.map (·.1)) (rs.map (·.2)) l2) ∧ Hid (rangeG l' = if y < x then none else some ((x, y), l2)) ∧ Hid (l2.length + 1 ≤ l'.length))
              case first =>
                cases dash with
                | false =>
                  go_wp2_with fail
                  go_meet
                  case rel => exact ⟨x, r, rfl, HST5, Lib.hid (by rw [range_one HLX.out HDA.out.symm, if_neg (by simp)]), Lib.hid (by have := HRL.out; omega)⟩
                | true =>
                  have hr : r = 45 :: r.drop 1 := begins_one (and_both HDA.out)
                  have HN6 := Lib.hid (next_any g r w5 HST5.out.scan)
                  have HLL := Lib.hid hr
                  clear c0 hr
                  go_wp2_with fail
                  refine HN6.out.mono ?_
                  intro e w6 hp
                  rw [HLL.out] at hp
                  obtain ⟨hg6, rfl, hs6⟩ := hp
                  have HST6 := Lib.hid (HST5.out.scanned hg6 hs6)
                  have HLT := Lib.hid (letter_any g (r.drop 1) w6 hs6)
                  clear hg6 hs6 HN6
                  go_wp2_with fail
                  refine HLT.out.mono ?_
                  intro e w7 hp
                  obtain ⟨hg7, hp⟩ := hp
                  have hr2 := range_two HLX.out HDA.out.symm
                  revert hp
                  cases hl2 : letterG (r.drop 1) with
                  | none =>
                    intro hp
                    obtain rfl : e = _ := hp
                    rw [hl2] at hr2
                    have hrr : R = none := by rw [HR.out, ← HSL.out, setL_bad HBB.out.symm hr2]
                    exact ⟨rfl, grown_trans HST6.out.grown hg7, by rw [hrr]⟩
                  | some q =>
                    obtain ⟨y, l2⟩ := q
                    rintro ⟨rfl, hs7⟩
                    rw [hl2] at hr2
                    have HST7 := Lib.hid (HST6.out.scanned hg7 hs7)
                    have HR2 := Lib.hid hr2
                    have HLE := Lib.hid (letterG_len hl2)
                    clear hr2 hl2 hg7 hs7 HLT
                    go_wp2_with fail
                    go_meet
                    case rel => exact ⟨y, l2, rfl, HST7, HR2, Lib.hid (by have := HRL.out; have := HLE.out; rw [List.length_drop] at this; omega)⟩
              case rest =>
                obtain ⟨y, l2, rfl, HST7, HRG, HLE⟩ := hcut
                rename World => w7
                have HRN := Lib.hid (HST7.out.grown)
                by_cases hyx : y < x
                · have hlt : (y.toNat : Int) < (x.toNat : Int) := by have := UInt8.lt_iff_toNat_lt.1 hyx; omega
                  have HRR := Lib.hid (show R = none by rw [HR.out, ← HSL.out, setL_bad HBB.out.symm (by rw [HRG.out, if_pos hyx])])
                  clear hyx c0
                  go_wp2_with fail
                  exact ⟨rfl, HRN.out, by rw [HRR.out]⟩
                · have hlt : ¬ (y.toNat : Int) < (x.toNat : Int) := by have : ¬ y.toNat < x.toNat := fun h => hyx (UInt8.lt_iff_toNat_lt.2 h); omega
                  have HSS := Lib.hid (show setL (rs ++ [(x, y)]) l2 = setL [] l1 by rw [← setL_step HBB.out.symm (by rw [HRG.out, if_neg hyx])]; exact HSL.out)
                  have hnb : n + 1 ≤ 140737488355328 := by have := HNL.out; omega
                  have HE1 := Lib.hid (HST.out.scan)
                  clear hyx c0 HST HSL HST5 HLX HDA HRG HBB HRL
                  go_upto_region 13 with fail
                  have hd : Below w7.heap.size w7 w7.drew := Same.below ⟨1, rfl⟩ _
                  have hst := Lib.hid (HST7.out.below hd)
                  have hcls : Blk w7.drew (g2 + 1) 76 (atK no F n c T n d) := hst.out.blk
                  clear HST7 hd
                  refine wp_region_late (S := fun w => Blk w (g2 + 1) 76 (atK no F n c T n d)) (s := 11) (by kernel_rfl) ?_
                  change wpAnyL _ _ _ _ _ _ _ _ _ (World.drew _)
                  generalize World.drew w7 = wd at hst hcls ⊢
                  refine late_pure (i := 0) (v := ?_) (a' := ?_) rfl (by kernel_rfl) (by kernel_rfl) (by kernel_rfl) (by rfl) (fun _ _ _ h => h) (by rfl) (fun _ => hcls) ?_ ?_ ?_
                  rotate_left 2
                  · (intro w; go_simp; try with_reducible rfl)
                  · (go_simp; try with_reducible rfl)
                  refine late_load (i := 1) (m := 1) (v := ?_) (a' := ?_) rfl (by kernel_rfl) (by kernel_rfl) (by kernel_rfl) (by kernel_rfl) (by rfl) (fun _ _ _ h => h) (by rfl) hcls ?_ ?_ ?_
                  rotate_left 2
                  · (intro w hS; have t : w.cell? ⟨g2 + 1, 3, none⟩ = some (.slice F n c) := hS.cell 3; go_simp; try with_reducible rfl)
                  · (go_simp; try with_reducible rfl)
                  refine late_pure (i := 2) (v := ?_) (a' := ?_) rfl (by kernel_rfl) (by kernel_rfl) (by kernel_rfl) (by rfl) (fun _ _ _ h => h) (by rfl) (fun _ => hcls) ?_ ?_ ?_
                  rotate_left 2
                  · (intro w; go_simp; try with_reducible rfl)
                  · (go_simp; try with_reducible rfl)
                  refine late_pure (i := 5) (v := ?_) (a' := ?_) rfl (by kernel_rfl) (by kernel_rfl) (by kernel_rfl) (by rfl) (fun _ _ _ h => h) (by rfl) (fun _ => hcls) ?_ ?_ ?_
                  rotate_left 2
                  · (intro w; go_simp; try with_reducible rfl)
                  · (go_simp; try with_reducible rfl)
                  refine late_load (i := 6) (m := 6) (v := ?_) (a' := ?_) rfl (by kernel_rfl) (by kernel_rfl) (by kernel_rfl) (by kernel_rfl) (by rfl) (fun _ _ _ h => h) (by rfl) hcls ?_ ?_ ?_
                  rotate_left 2
                  · (intro w hS; have t : w.cell? ⟨g2 + 1, 4, none⟩ = some (.slice T n d) := hS.cell 4; go_simp; try with_reducible rfl)
                  · (go_simp; try with_reducible rfl)
                  refine late_pure (i := 7) (v := ?_) (a' := ?_) rfl (by kernel_rfl) (by kernel_rfl) (by kernel_rfl) (by rfl) (fun _ _ _ h => h) (by rfl) (fun _ => hcls) ?_ ?_ ?_
                  rotate_left 2
                  · (intro w; go_simp; try with_reducible rfl)
                  · (go_simp; try with_reducible rfl)
                  refine late_ready (rs := [3, 8]) (by kernel_rfl) (by simp) ?_
                  refine AllLate.cons rfl (fun KR hKR => ?_) ?_
                  · go_simp
                    obtain ⟨w3, b3, hw3, hb3, q1, o1, _, hst3, hbl3⟩ := hst.out.elem x
                    change KR _ (World.alloc _ (.cells _ _))
                    rw [hw3, hb3]
                    have hst := Lib.hid hst3
                    have hcls := hst3.blk
                    try have q2 := q2.below hbl3
                    clear hw3 hb3 hst3
                    refine hKR _ _ (fun _ => hcls) ?_
                    clear hKR KR
                    refine late_ready (rs := [4, 8]) (by kernel_rfl) (by simp) ?_
                    refine AllLate.cons rfl (fun KR hKR => ?_) ?_
                    · obtain ⟨F', c', w4, run4, hst4, hgr4⟩ := hst.out.pushF q1 hnb 1
                      refine step_run_append (by rfl) (.tmp 52) (.tmp 54) (by rfl) (by rfl) (by rfl) run4 ?_
                      have hst := Lib.hid hst4
                      have hcls := hst4.blk
                      try have q2 := sl_else q2 hgr4 o2
                      clear hst4 run4
                      refine hKR _ _ (fun _ => hcls) ?_
                      clear hKR KR
                      refine late_pure (i := 10) (v := ?_) (a' := ?_) rfl (by kernel_rfl) (by kernel_rfl) (by kernel_rfl) (by rfl) (fun _ _ _ h => h) (by rfl) (fun _ => hcls) ?_ ?_ ?_
                      rotate_left 2
                      · (intro w; go_simp; try with_reducible rfl)
                      · (go_simp; try with_reducible rfl)
                      refine late_one (i := 8) (by kernel_rfl) rfl (fun KR hKR => ?_)
                      go_simp
                      obtain ⟨w8, b8, hw8, hb8, q2, o2, _, hst8, hbl8⟩ := hst.out.elem y
                      change KR _ (World.alloc _ (.cells _ _))
                      rw [hw8, hb8]
                      have hst := Lib.hid hst8
                      have hcls := hst8.blk
                      try have q1 := q1.below hbl8
                      clear hw8 hb8 hst8
                      refine hKR _ _ (fun _ => hcls) ?_
                      clear hKR KR
                      refine late_one (i := 9) (by kernel_rfl) rfl (fun KR hKR => ?_)
                      obtain ⟨T', d', w9, run9, hst9, hgr9⟩ := hst.out.pushT q2 hnb 1
                      refine step_run_append (by rfl) (.tmp 57) (.tmp 59) (by rfl) (by rfl) (by rfl) run9 ?_
                      have hst := Lib.hid hst9
                      have hcls := hst9.blk
                      have hend := Lib.hid ((hst9.set 3 (.slice F' (n + 1) c')).set 4 (.slice T' (n + 1) d'))
                      have f3 := hst9.blk.frozen 3
                      have k3 : w9.cell? ⟨g2 + 1, 3, none⟩ = some (.slice F n c) := hst9.blk.cell 3
                      have f4 := (hst9.set 3 (.slice F' (n + 1) c')).blk.frozen 4
                      have k4 : (w9.setCell ⟨g2 + 1, 3, none⟩ (.slice F' (n + 1) c')).cell? ⟨g2 + 1, 4, none⟩ = some (.slice T n d) := (hst9.set 3 (.slice F' (n + 1) c')).blk.cell 4
                      clear hst9 run9
                      refine hKR _ _ (fun _ => hcls) ?_
                      clear hKR KR
                      refine late_one (i := 11) (by kernel_rfl) rfl (fun KR hKR => ?_)
                      go_simp
                      skip
                      refine hKR _ _ (fun h0 => Bool.noConfusion (show (true : Bool) = false from h0)) ?_
                      clear hKR KR
                      refine late_pure (i := 12) (v := ?_) (a' := ?_) rfl (by kernel_rfl) (by kernel_rfl) (by kernel_rfl) (by rfl) (fun _ _ _ h => h) (by rfl) (fun h0 => Bool.noConfusion (show (true : Bool) = false from h0)) ?_ ?_ ?_
                      rotate_left 2
                      · (intro w; go_simp; try with_reducible rfl)
                      · (go_simp; try with_reducible rfl)
                      refine late_one (i := 13) (by kernel_rfl) rfl (fun KR hKR => ?_)
                      go_simp
                      skip
                      refine hKR _ _ (fun h0 => Bool.noConfusion (show (true : Bool) = false from h0)) ?_
                      clear hKR KR
                      refine late_done' (by kernel_rfl) ?_ _
                      go_wp2_with fail
                      go_roundw
                      case rel => exact ⟨F', n + 1, c', T', d', rs ++ [(x, y)], l2, Lib.hid (by rw [List.map_append, List.map_append]; exact hend.out), HSS, Lib.hid (by rw [List.length_append, ← HN.out]; rfl), Lib.hid (by have := HNL.out; have := HLE.out; omega)⟩
                      case measure => show leftOf _ g < leftOf wr g; rw [left_scn hend.out.scan, left_scn HE1.out]; have := HLE.out; omega
                    refine AllLate.cons rfl (fun KR hKR => ?_) ?_
                    · go_simp
                      obtain ⟨w8, b8, hw8, hb8, q2, o2, _, hst8, hbl8⟩ := hst.out.elem y
                      change KR _ (World.alloc _ (.cells _ _))
                      rw [hw8, hb8]
                      have hst := Lib.hid hst8
                      have hcls := hst8.blk
                      try have q1 := q1.below hbl8
                      clear hw8 hb8 hst8
                      refine hKR _ _ (fun _ => hcls) ?_
                      clear hKR KR
                      refine late_one (i := 4) (by kernel_rfl) rfl (fun KR hKR => ?_)
                      obtain ⟨F', c', w4, run4, hst4, hgr4⟩ := hst.out.pushF q1 hnb 1
                      refine step_run_append (by rfl) (.tmp 52) (.tmp 54) (by rfl) (by rfl) (by rfl) run4 ?_
                      have hst := Lib.hid hst4
                      have hcls := hst4.blk
                      try have q2 := sl_else q2 hgr4 o2
                      clear hst4 run4
                      refine hKR _ _ (fun _ => hcls) ?_
                      clear hKR KR
                      refine late_pure (i := 10) (v := ?_) (a' := ?_) rfl (by kernel_rfl) (by kernel_rfl) (by kernel_rfl) (by rfl) (fun _ _ _ h => h) (by rfl) (fun _ => hcls) ?_ ?_ ?_
                      rotate_left 2
                      · (intro w; go_simp; try with_reducible rfl)
                      · (go_simp; try with_reducible rfl)
                      refine late_one (i := 9) (by kernel_rfl) rfl (fun KR hKR => ?_)
                      obtain ⟨T', d', w9, run9, hst9, hgr9⟩ := hst.out.pushT q2 hnb 1
                      refine step_run_append (by rfl) (.tmp 57) (.tmp 59) (by rfl) (by rfl) (by rfl) run9 ?_
                      have hst := Lib.hid hst9
                      have hcls := hst9.blk
                      have hend := Lib.hid ((hst9.set 3 (.slice F' (n + 1) c')).set 4 (.slice T' (n + 1) d'))
                      have f3 := hst9.blk.frozen 3
                      have k3 : w9.cell? ⟨g2 + 1, 3, none⟩ = some (.slice F n c) := hst9.blk.cell 3
                      have f4 := (hst9.set 3 (.slice F' (n + 1) c')).blk.frozen 4
                      have k4 : (w9.setCell ⟨g2 + 1, 3, none⟩ (.slice F' (n + 1) c')).cell? ⟨g2 + 1, 4, none⟩ = some (.slice T n d) := (hst9.set 3 (.slice F' (n + 1) c')).blk.cell 4
                      clear hst9 run9
                      refine hKR _ _ (fun _ => hcls) ?_
                      clear hKR KR
                      refine late_one (i := 11) (by kernel_rfl) rfl (fun KR hKR => ?_)
                      go_simp
                      skip
                      refine hKR _ _ (fun h0 => Bool.noConfusion (show (true : Bool) = false from h0)) ?_
                      clear hKR KR
                      refine late_pure (i := 12) (v := ?_) (a' := ?_) rfl (by kernel_rfl) (by kernel_rfl) (by kernel_rfl) (by rfl) (fun _ _ _ h => h) (by rfl) (fun h0 => Bool.noConfusion (show (true : Bool) = false from h0)) ?_ ?_ ?_
                      rotate_left 2
                      · (intro w; go_simp; try with_reducible rfl)
                      · (go_simp; try with_reducible rfl)
                      refine late_one (i := 13) (by kernel_rfl) rfl (fun KR hKR => ?_)
                      go_simp
                      skip
                      refine hKR _ _ (fun h0 => Bool.noConfusion (show (true : Bool) = false from h0)) ?_
                      clear hKR KR
                      refine late_done' (by kernel_rfl) ?_ _
                      go_wp2_with fail
                      go_roundw
                      case rel => exact ⟨F', n + 1, c', T', d', rs ++ [(x, y)], l2, Lib.hid (by rw [List.map_append, List.map_append]; exact hend.out), HSS, Lib.hid (by rw [List.length_append, ← HN.out]; rfl), Lib.hid (by have := HNL.out; have := HLE.out; omega)⟩
                      case measure => show leftOf _ g < leftOf wr g; rw [left_scn hend.out.scan, left_scn HE1.out]; have := HLE.out; omega
                    exact AllLate.nil
                  refine AllLate.cons rfl (fun KR hKR => ?_) ?_
                  · go_simp
                    obtain ⟨w8, b8, hw8, hb8, q2, o2, _, hst8, hbl8⟩ := hst.out.elem y
                    change KR _ (World.alloc _ (.cells _ _))
                    rw [hw8, hb8]
                    have hst := Lib.hid hst8
                    have hcls := hst8.blk
                    try have q1 := q1.below hbl8
                    clear hw8 hb8 hst8
                    refine hKR _ _ (fun _ => hcls) ?_
                    clear hKR KR
                    refine late_one (i := 3) (by kernel_rfl) rfl (fun KR hKR => ?_)
                    go_simp
                    obtain ⟨w3, b3, hw3, hb3, q1, o1, _, hst3, hbl3⟩ := hst.out.elem x
                    change KR _ (World.alloc _ (.cells _ _))
                    rw [hw3, hb3]
                    have hst := Lib.hid hst3
                    have hcls := hst3.blk
                    try have q2 := q2.below hbl3
                    clear hw3 hb3 hst3
                    refine hKR _ _ (fun _ => hcls) ?_
                    clear hKR KR
                    refine late_one (i := 4) (by kernel_rfl) rfl (fun KR hKR => ?_)
                    obtain ⟨F', c', w4, run4, hst4, hgr4⟩ := hst.out.pushF q1 hnb 1
                    refine step_run_append (by rfl) (.tmp 52) (.tmp 54) (by rfl) (by rfl) (by rfl) run4 ?_
                    have hst := Lib.hid hst4
                    have hcls := hst4.blk
                    try have q2 := sl_else q2 hgr4 o2
                    clear hst4 run4
                    refine hKR _ _ (fun _ => hcls) ?_
                    clear hKR KR
                    refine late_pure (i := 10) (v := ?_) (a' := ?_) rfl (by kernel_rfl) (by kernel_rfl) (by kernel_rfl) (by rfl) (fun _ _ _ h => h) (by rfl) (fun _ => hcls) ?_ ?_ ?_
                    rotate_left 2
                    · (intro w; go_simp; try with_reducible rfl)
                    · (go_simp; try with_reducible rfl)
                    refine late_one (i := 9) (by kernel_rfl) rfl (fun KR hKR => ?_)
                    obtain ⟨T', d', w9, run9, hst9, hgr9⟩ := hst.out.pushT q2 hnb 1
                    refine step_run_append (by rfl) (.tmp 57) (.tmp 59) (by rfl) (by rfl) (by rfl) run9 ?_
                    have hst := Lib.hid hst9
                    have hcls := hst9.blk
                    have hend := Lib.hid ((hst9.set 3 (.slice F' (n + 1) c')).set 4 (.slice T' (n + 1) d'))
                    have f3 := hst9.blk.frozen 3
                    have k3 : w9.cell? ⟨g2 + 1, 3, none⟩ = some (.slice F n c) := hst9.blk.cell 3
                    have f4 := (hst9.set 3 (.slice F' (n + 1) c')).blk.frozen 4
                    have k4 : (w9.setCell ⟨g2 + 1, 3, none⟩ (.slice F' (n + 1) c')).cell? ⟨g2 + 1, 4, none⟩ = some (.slice T n d) := (hst9.set 3 (.slice F' (n + 1) c')).blk.cell 4
                    clear hst9 run9
                    refine hKR _ _ (fun _ => hcls) ?_
                    clear hKR KR
                    refine late_one (i := 11) (by kernel_rfl) rfl (fun KR hKR => ?_)
                    go_simp
                    skip
                    refine hKR _ _ (fun h0 => Bool.noConfusion (show (true : Bool) = false from h0)) ?_
                    clear hKR KR
                    refine late_pure (i := 12) (v := ?_) (a' := ?_) rfl (by kernel_rfl) (by kernel_rfl) (by kernel_rfl) (by rfl) (fun _ _ _ h => h) (by rfl) (fun h0 => Bool.noConfusion (show (true : Bool) = false from h0)) ?_ ?_ ?_
                    rotate_left 2
                    · (intro w; go_simp; try with_reducible rfl)
                    · (go_simp; try with_reducible rfl)
                    refine late_one (i := 13) (by kernel_rfl) rfl (fun KR hKR => ?_)
                    go_simp
                    skip
                    refine hKR _ _ (fun h0 => Bool.noConfusion (show (true : Bool) = false from h0)) ?_
                    clear hKR KR
                    refine late_done' (by kernel_rfl) ?_ _
                    go_wp2_with fail
                    go_roundw
                    case rel => exact ⟨F', n + 1, c', T', d', rs ++ [(x, y)], l2, Lib.hid (by rw [List.map_append, List.map_append]; exact hend.out), HSS, Lib.hid (by rw [List.length_append, ← HN.out]; rfl), Lib.hid (by have := HNL.out; have := HLE.out; omega)⟩
                    case measure => show leftOf _ g < leftOf wr g; rw [left_scn hend.out.scan, left_scn HE1.out]; have := HLE.out; omega
                  exact AllLate.nil
end Go.Proofs.YtlddnghfjdjglaaDoor
