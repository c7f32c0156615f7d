/- Contracts and laws for what the statement reaches, joined: ObjIds, GrainMore. -/
import Derived.Test.YtpafhajpnepecaaJn2
import Derived.Test.YtpafhajpnepecaaJn3
import Derived.Test.YtpafhajpnepecaaJn4
import Derived.Deep.CutBlock
import Derived.Deep.DeepCutAuto
/- Ids in memory, as the object layer uses them. -/
set_option linter.unusedVariables false
namespace Go.Proofs.Ytpafhajpnepecaa
open Go.RowKit

abbrev oidR : Rd (List UInt8) := arrR 32 byteR
theorem oid_each {w : World} {av : Av} {cs : List Value} {l : List UInt8} (h : Each (byteR.R w av) cs l) : cs = bytesV l := by
  induction h with
  | nil => rfl
  | cons h1 _ ih => rw [ih, show _ = _ from h1]; rfl
theorem oid_cells {w : World} {av : Av} {cs : List Value} {l : List UInt8} (h : oidR.R w av cs l) : cs = bytesV l ∧ l.length = 32 := ⟨oid_each h.2, h.1⟩
theorem oid_info : (Try.prog.info? 27).map (·.size) = some 32 := by kernel_rfl
theorem oid_size {l : List UInt8} (h : l.length = 32) : (Try.prog.info? 27).map (·.size) = some (bytesV l).toArray.size := by
  rw [show (bytesV l).toArray.size = 32 by simp [bytesV, h]]; exact oid_info
theorem oid_one (l : List UInt8) : (bytesV l).toArray.all (·.oneCell') = true := by simpa using bytesV_one l
theorem oid_of (w : World) (av : Av) {l : List UInt8} (h : l.length = 32) : oidR.R w av (bytesV l) l := by
  refine ⟨h, ?_⟩
  clear h
  induction l with
  | nil => exact .nil
  | cons x l ih => exact .cons (cs := [.int .u8 (x.toNat : Int)]) rfl ih
theorem oids_look {w : World} {av : Av} {A : Option Addr} {os : List (List UInt8)} {n i : Nat} (h : SlOf oidR w av A os) (hl : os.length = n) (hi : i < n) :
    ∃ b off o, A = some ⟨b, off, none⟩ ∧ b < w.heap.size ∧ os[i]? = some o ∧ o.length = 32 ∧ At w ⟨b, off + i * 32, none⟩ (bytesV o).toArray := by
  obtain ⟨b, off, cs, o, e, hb, hx, hr, hc⟩ := h.at hl hi
  obtain ⟨rfl, h32⟩ := oid_cells hr
  exact ⟨b, off, o, e, hb, hx, h32, hc⟩
theorem oids_32 {w : World} {av : Av} {A : Option Addr} {os : List (List UInt8)} (h : SlOf oidR w av A os) : ∀ o ∈ os, o.length = 32 := fun o ho => by
  obtain ⟨j, hj⟩ := List.mem_iff_getElem?.1 ho
  have hjl := (List.getElem?_eq_some_iff.1 hj).1
  obtain ⟨_, _, o', _, _, h1, h2, _⟩ := oids_look h rfl (i := j) hjl
  rw [hj] at h1; injection h1 with h1; rw [h1]; exact h2
/-- an id's cells as a slice of bytes -/
theorem sl_at {w : World} {b off : Nat} {l : List UInt8} (h : At w ⟨b, off, none⟩ (bytesV l).toArray) (hb : b < w.heap.size) : Sl w 1 (some ⟨b, off, none⟩) l.length (bytesV l) := by
  refine ⟨by rw [bytesV_length, Nat.mul_one], fun _ => ⟨b, off, rfl, hb, fun j u hu => ?_⟩⟩
  exact h j u (by simpa using hu)

theorem rise_step {ps : List (List UInt8)} {i : Nat} {p q : List UInt8} (hq : ps[i]? = some q) : riseG (some p) (ps.drop i) = (Op.bytesLess p q && riseG (some q) (ps.drop (i + 1))) := by
  obtain ⟨hl, he⟩ := List.getElem?_eq_some_iff.1 hq
  rw [List.drop_eq_getElem_cons hl, he, riseG]

set_option maxRecDepth 100000 in
set_option maxHeartbeats 4000000 in
theorem rising_any (A : Option Addr) (m c : Nat) (ps : List (List UInt8)) (W0 : World) (hs : SlOf oidR W0 no A ps) (hm : m = ps.length) (hml : m ≤ 1000000000) :
    Calls Try.prog 52 #[.slice A m c] W0 fun e w' => e = .returned (.bool (risingG ps)) ∧ Below W0.heap.size W0 w' := by
  obtain ⟨G, hG⟩ : ∃ G, G = risingG ps := ⟨_, rfl⟩
  rw [← hG]
  have HS := Lib.hid hs
  have HM := Lib.hid hm
  by_cases h2 : m < 2
  · have hI : ¬ (1 : Int) < (m : Int) := by omega
    have hg := Lib.hid (show G = true by
      rw [hG]
      match ps, hm with
      | [], _ => rfl
      | [x], _ => rfl
      | x :: y :: r, hm => simp at hm; omega)
    have hN : ¬ 1 < m := by omega
    clear hG hs hm h2
    go_enter Try.func52, Try.ntmps52
    go_wp2_with fail
    go_loopw [3] (fun s3 wr => s3 = .int .i64 1 ∧ Below W0.heap.size W0 wr) (fun s3 wr => 0)
    case atStart => exact ⟨rfl, Below.refl _ _⟩
    case round =>
      obtain ⟨rfl, hbl⟩ := hrel
      go_wp2_with fail
      go_ret
      exact ⟨by rw [hg.out]; rfl, hbl⟩
  · obtain ⟨p0, hp0⟩ : ∃ p0, ps[0]? = some p0 := ⟨ps[0]'(by omega), List.getElem?_eq_getElem (by omega)⟩
    have hG0 : G = riseG (some p0) (ps.drop 1) := by
      rw [hG]
      cases ps with
      | nil => simp at hp0
      | cons x r => simp at hp0; subst hp0; rfl
    have HG0 := Lib.hid hG0
    have HP0 := Lib.hid hp0
    clear hG hs hm hG0 hp0
    go_enter Try.func52, Try.ntmps52
    go_wp2_with fail
    go_loopw [3] (fun s3 wr => ∃ (i : Nat) (p : List UInt8), 1 ≤ i ∧ i ≤ m ∧ s3 = .int .i64 (i : Int) ∧ Below W0.heap.size W0 wr ∧ Hid (ps[i - 1]? = some p) ∧ Hid (G = riseG (some p) (ps.drop i))) (fun s3 wr => m - (intOf s3).toNat)
    case atStart => exact ⟨1, p0, by omega, by omega, rfl, Below.refl _ _, HP0, HG0⟩
    case round =>
      obtain ⟨i, p, hi1, him, rfl, hbl, HP, HR⟩ := hrel
      by_cases hi : i < m
      · have hiI : (i : Int) < (m : Int) := by omega
        obtain ⟨b1, o1, x1, hA, hb1, hx1, h321, hat1⟩ := oids_look (HS.out.below hbl) HM.out.symm (i := i - 1) (by omega)
        obtain ⟨b2, o2, x2, hA2, hb2, hx2, h322, hat2⟩ := oids_look (HS.out.below hbl) HM.out.symm hi
        rw [hA] at hA2
        have e := Option.some.inj hA2
        injection e with e1 e2
        subst e1 e2 hA
        rw [HP.out] at hx1
        obtain rfl := Option.some.inj hx1
        have hr := HR.out
        rw [rise_step hx2] at hr
        have HRR := Lib.hid hr
        have HX2 := Lib.hid hx2
        have i1 : (i : Int) - 1 = ((i - 1 : Nat) : Int) := by omega
        obtain ⟨i', hi'⟩ : ∃ i', i' = i - 1 := ⟨_, rfl⟩
        rw [← hi'] at i1 hat1
        have iw : IntKind.i64.wrap ((i : Int) - 1) = (i' : Int) := by rw [i1]; exact IntWalk.i64_in _ (by omega)
        have i2 : (0 : Int) ≤ (i' : Int) := by omega
        have i3 : (i' : Int) < (m : Int) := by omega
        have HS1 := Lib.hid (by have := sl_at hat1 hb1; rwa [h321] at this : Sl wr 1 (some ⟨b1, o1 + i' * 32, none⟩) 32 (bytesV p))
        have HS2 := Lib.hid (by have := sl_at hat2 hb1; rwa [h322] at this : Sl wr 1 (some ⟨b1, o1 + i * 32, none⟩) 32 (bytesV x2))
        have HC := Lib.hid (compare_any (some ⟨b1, o1 + i' * 32, none⟩) 32 32 p (some ⟨b1, o1 + i * 32, none⟩) 32 32 x2 wr.drew (HS1.out.below (Same.below ⟨1, rfl⟩ _)) (HS2.out.below (Same.below ⟨1, rfl⟩ _)) (by omega) (by omega))
        clear hr hx2 hat1 hat2 h321 h322 HP HR hA2 hb2 i1 hi'
        go_upto_region 4 with fail
        have hdr : Below wr.heap.size wr wr.drew := Same.below ⟨1, rfl⟩ _
        refine wp_region_held (S := fun w => Below wr.heap.size wr w) (by kernel_rfl) ?_
        change wpAnyH _ _ _ _ _ _ _ _ (World.drew _)
        refine held_take (i := 0) (v := ?_) (a' := ?_) rfl (by kernel_rfl) (by kernel_rfl) (by kernel_rfl) (fun _ _ _ h => h) (by rfl) (Same.below ⟨1, rfl⟩ _) ?_ ?_ ?_
        rotate_left 2
        · (intro w hS; go_simp; try with_reducible rfl)
        · (go_simp; try with_reducible rfl)
        refine held_take (i := 1) (v := ?_) (a' := ?_) rfl (by kernel_rfl) (by kernel_rfl) (by kernel_rfl) (fun _ _ _ h => h) (by rfl) (Same.below ⟨1, rfl⟩ _) ?_ ?_ ?_
        rotate_left 2
        · (intro w hS; go_simp; try with_reducible rfl)
        · (go_simp; try with_reducible rfl)
        refine held_take (i := 2) (v := ?_) (a' := ?_) rfl (by kernel_rfl) (by kernel_rfl) (by kernel_rfl) (fun _ _ _ h => h) (by rfl) (Same.below ⟨1, rfl⟩ _) ?_ ?_ ?_
        rotate_left 2
        · (intro w hS; go_simp; try with_reducible rfl)
        · (go_simp; try with_reducible rfl)
        refine held_take (i := 3) (v := ?_) (a' := ?_) rfl (by kernel_rfl) (by kernel_rfl) (by kernel_rfl) (fun _ _ _ h => h) (by rfl) (Same.below ⟨1, rfl⟩ _) ?_ ?_ ?_
        rotate_left 2
        · (intro w hS; go_simp; try with_reducible rfl)
        · (go_simp; try with_reducible rfl)
        refine held_take (i := 4) (v := ?_) (a' := ?_) rfl (by kernel_rfl) (by kernel_rfl) (by kernel_rfl) (fun _ _ _ h => h) (by rfl) (Same.below ⟨1, rfl⟩ _) ?_ ?_ ?_
        rotate_left 2
        · (intro w hS; go_simp; try with_reducible rfl)
        · (go_simp; try with_reducible rfl)
        refine held_take (i := 5) (v := ?_) (a' := ?_) rfl (by kernel_rfl) (by kernel_rfl) (by kernel_rfl) (fun _ _ _ h => h) (by rfl) (Same.below ⟨1, rfl⟩ _) ?_ ?_ ?_
        rotate_left 2
        · (intro w hS; go_simp; try with_reducible rfl)
        · (go_simp; try with_reducible rfl)
        refine held_take (i := 6) (v := ?_) (a' := ?_) rfl (by kernel_rfl) (by kernel_rfl) (by kernel_rfl) (fun _ _ _ h => h) (by rfl) (Same.below ⟨1, rfl⟩ _) ?_ ?_ ?_
        rotate_left 2
        · (intro w hS; go_simp; try with_reducible rfl)
        · (go_simp; try with_reducible rfl)
        refine held_take (i := 7) (v := ?_) (a' := ?_) rfl (by kernel_rfl) (by kernel_rfl) (by kernel_rfl) (fun _ _ _ h => h) (by rfl) (Same.below ⟨1, rfl⟩ _) ?_ ?_ ?_
        rotate_left 2
        · (intro w hS; go_simp; try with_reducible rfl)
        · (go_simp; try with_reducible rfl)
        refine held_take (i := 8) (v := ?_) (a' := ?_) rfl (by kernel_rfl) (by kernel_rfl) (by kernel_rfl) (fun _ _ _ h => h) (by rfl) (Same.below ⟨1, rfl⟩ _) ?_ ?_ ?_
        rotate_left 2
        · (intro w hS; go_simp; try with_reducible rfl)
        · (go_simp; try with_reducible rfl)
        refine held_ready (rs := [9]) (by kernel_rfl) (by simp) ?_
        refine AllHeld.cons rfl (fun KR hKR => ?_) ?_
        · go_simp
          refine HC.out.mono ?_
          rintro e w5 ⟨k, rfl, hk, rfl⟩
          have HK := Lib.hid hk
          clear hk
          refine hKR _ _ hdr ?_
          clear hKR KR
          refine held_take (i := 10) (v := ?_) (a' := ?_) rfl (by kernel_rfl) (by kernel_rfl) (by kernel_rfl) (fun _ _ _ h => h) (by rfl) hdr ?_ ?_ ?_
          rotate_left 2
          · (intro w hS; go_simp; try with_reducible rfl)
          · (go_simp; try with_reducible rfl)
          refine wpAnyH_done (by kernel_rfl) ?_ _
          by_cases hk0 : k < 0
          · have hl : Op.bytesLess p x2 = true := by rw [← HK.out]; simpa using hk0
            have hk1 : ¬ (0 : Int) ≤ k := by omega
            have HG2 := Lib.hid (show G = riseG (some x2) (ps.drop (i + 1)) by rw [HRR.out, hl]; simp)
            clear hl hk0
            go_wp2_with fail
            go_roundw
            case rel => exact ⟨i + 1, x2, by omega, by omega, by go_num, hbl.trans (hdr.mono hbl.size), by simpa using HX2, HG2⟩
            case measure => simp [intOf]; omega
          · have hl : Op.bytesLess p x2 = false := by rw [← HK.out]; simpa using hk0
            have hk1 : (0 : Int) ≤ k := by omega
            have HG2 := Lib.hid (show G = false by rw [HRR.out, hl]; simp)
            clear hl hk0
            go_wp2_with fail
            go_ret
            exact ⟨by rw [HG2.out]; rfl, hbl.trans (hdr.mono hbl.size)⟩
        exact AllHeld.nil
      · have hiI : ¬ (i : Int) < (m : Int) := by omega
        have hg := Lib.hid (show G = true by
          rw [HR.out, List.drop_of_length_le (by rw [← HM.out]; omega)]; rfl)
        go_wp2_with fail
        go_ret
        exact ⟨by rw [hg.out]; rfl, hbl⟩

theorem before_step {x y : List UInt8} {i : Nat} {u v : UInt8} (hx : x[i]? = some u) (hy : y[i]? = some v) : Op.bytesLess (x.drop i) (y.drop i) = if u.toNat < v.toNat then true else if v.toNat < u.toNat then false else Op.bytesLess (x.drop (i + 1)) (y.drop (i + 1)) := by
  obtain ⟨h1, e1⟩ := List.getElem?_eq_some_iff.1 hx
  obtain ⟨h2, e2⟩ := List.getElem?_eq_some_iff.1 hy
  rw [List.drop_eq_getElem_cons h1, List.drop_eq_getElem_cons h2, e1, e2, less_cons]

set_option maxRecDepth 100000 in
set_option maxHeartbeats 4000000 in
theorem before_any (x y : List UInt8) (W0 : World) (hx : x.length = 32) (hy : y.length = 32) :
    Calls Try.prog 81 #[.agg (bytesV x).toArray, .agg (bytesV y).toArray] W0 fun e w' => e = .returned (.bool (Op.bytesLess x y)) ∧ Below W0.heap.size W0 w' := by
  obtain ⟨G, hG⟩ : ∃ G, G = Op.bytesLess x y := ⟨_, rfl⟩
  rw [← hG]
  obtain ⟨XV, hXV⟩ : ∃ XV, XV = (bytesV x).toArray := ⟨_, rfl⟩
  obtain ⟨YV, hYV⟩ : ∃ YV, YV = (bytesV y).toArray := ⟨_, rfl⟩
  have HXV := Lib.hid hXV
  have HYV := Lib.hid hYV
  have HX := Lib.hid hx
  have HY := Lib.hid hy
  have HG := Lib.hid hG
  have HBX := Lib.hid ((Blk.new W0 27 XV).alloc (.cells YV 27))
  have HBY := Lib.hid (show Blk ((W0.alloc (.cells XV 27)).alloc (.cells YV 27)) (W0.heap.size + 1) 27 YV by have := Blk.new (W0.alloc (.cells XV 27)) 27 YV; simpa using this)
  have HB0 := Lib.hid (show Below W0.heap.size W0 ((W0.alloc (.cells XV 27)).alloc (.cells YV 27)) from ((Below.refl _ _).alloc (Nat.le_refl _) _).alloc (by simp) _)
  rw [← hXV, ← hYV]
  clear hXV hYV hx hy hG
  go_enter Try.func81, Try.ntmps81
  go_upto_region 1 with fail
  generalize (W0.alloc (.cells XV 27)).alloc (.cells YV 27) = w2 at *
  go_wp2_with fail
  go_loopw [5] (fun s5 wr => ∃ i : Nat, i ≤ 32 ∧ s5 = .int .i64 (i : Int) ∧ Below w2.heap.size w2 wr ∧ Hid (G = Op.bytesLess (x.drop i) (y.drop i))) (fun s5 wr => 32 - (intOf s5).toNat)
  case atStart => exact ⟨0, by omega, rfl, Below.refl _ _, Lib.hid (by simpa using HG.out)⟩
  case round =>
    obtain ⟨i, hi32, rfl, hbl, HR⟩ := hrel
    by_cases hi : i < 32
    · have hiI : (i : Int) < 32 := by omega
      obtain ⟨u, hu⟩ : ∃ u, x[i]? = some u := ⟨x[i]'(by rw [HX.out]; exact hi), List.getElem?_eq_getElem _⟩
      obtain ⟨v, hv⟩ : ∃ v, y[i]? = some v := ⟨y[i]'(by rw [HY.out]; exact hi), List.getElem?_eq_getElem _⟩
      have hcx : wr.cell? ⟨W0.heap.size, i, none⟩ = some (.int .u8 (u.toNat : Int)) := by
        rw [(HBX.out.below hbl HBX.out.lt).cell i, HXV.out]
        simp [bytesV, hu]
      have hcy : wr.cell? ⟨W0.heap.size + 1, i, none⟩ = some (.int .u8 (v.toNat : Int)) := by
        rw [(HBY.out.below hbl HBY.out.lt).cell i, HYV.out]
        simp [bytesV, hv]
      have hlx : W0.heap.size < wr.heap.size := Nat.lt_of_lt_of_le HBX.out.lt hbl.size
      have hly : W0.heap.size + 1 < wr.heap.size := Nat.lt_of_lt_of_le HBY.out.lt hbl.size
      have hu256 := u8_lt u
      have hv256 := u8_lt v
      have hr := HR.out
      rw [before_step hu hv] at hr
      have HRR := Lib.hid hr
      have hdr : Below wr.heap.size wr wr.drew := Same.below ⟨1, rfl⟩ _
      clear hr hu hv HR
      go_upto_region 4 with fail
      go_cut [16] (fun s wx => s = .bool ((u.toNat : Int) != (v.toNat : Int)) ∧ Below wr.heap.size wr wx)
      case first =>
        refine wp_region_held (S := fun w => Below wr.heap.size wr w) (by kernel_rfl) ?_
        change wpAnyH _ _ _ _ _ _ _ _ (World.drew _)
        refine held_take (i := 0) (v := ?_) (a' := ?_) rfl (by kernel_rfl) (by kernel_rfl) (by kernel_rfl) (fun _ _ _ h => h) (by rfl) (Same.below ⟨1, rfl⟩ _) ?_ ?_ ?_
        rotate_left 2
        · (intro w hS; go_simp; try with_reducible rfl)
        · (go_simp; try with_reducible rfl)
        refine held_take (i := 1) (v := ?_) (a' := ?_) rfl (by kernel_rfl) (by kernel_rfl) (by kernel_rfl) (fun _ _ _ h => h) (by rfl) (Same.below ⟨1, rfl⟩ _) ?_ ?_ ?_
        rotate_left 2
        · (intro w hS; go_simp; try with_reducible rfl)
        · (go_simp; try with_reducible rfl)
        refine held_take (i := 2) (v := ?_) (a' := ?_) rfl (by kernel_rfl) (by kernel_rfl) (by kernel_rfl) (fun _ _ _ h => h) (by rfl) (Same.below ⟨1, rfl⟩ _) ?_ ?_ ?_
        rotate_left 2
        · (intro w hS; have t := (hS.cell (p := ⟨W0.heap.size, i, none⟩) hlx).trans hcx; go_simp; try with_reducible rfl)
        · (go_simp; try with_reducible rfl)
        refine held_take (i := 3) (v := ?_) (a' := ?_) rfl (by kernel_rfl) (by kernel_rfl) (by kernel_rfl) (fun _ _ _ h => h) (by rfl) (Same.below ⟨1, rfl⟩ _) ?_ ?_ ?_
        rotate_left 2
        · (intro w hS; go_simp; try with_reducible rfl)
        · (go_simp; try with_reducible rfl)
        refine held_take (i := 4) (v := ?_) (a' := ?_) rfl (by kernel_rfl) (by kernel_rfl) (by kernel_rfl) (fun _ _ _ h => h) (by rfl) (Same.below ⟨1, rfl⟩ _) ?_ ?_ ?_
        rotate_left 2
        · (intro w hS; go_simp; try with_reducible rfl)
        · (go_simp; try with_reducible rfl)
        refine held_take (i := 5) (v := ?_) (a' := ?_) rfl (by kernel_rfl) (by kernel_rfl) (by kernel_rfl) (fun _ _ _ h => h) (by rfl) (Same.below ⟨1, rfl⟩ _) ?_ ?_ ?_
        rotate_left 2
        · (intro w hS; have t := (hS.cell (p := ⟨W0.heap.size + 1, i, none⟩) hly).trans hcy; go_simp; try with_reducible rfl)
        · (go_simp; try with_reducible rfl)
        refine held_take (i := 6) (v := ?_) (a' := ?_) rfl (by kernel_rfl) (by kernel_rfl) (by kernel_rfl) (fun _ _ _ h => h) (by rfl) (Same.below ⟨1, rfl⟩ _) ?_ ?_ ?_
        rotate_left 2
        · (intro w hS; go_simp; try with_reducible rfl)
        · (go_simp; try with_reducible rfl)
        refine wpAnyH_done (by kernel_rfl) ?_ _
        go_wp2_with fail
        go_meet
        case rel => exact ⟨rfl, hdr⟩
      case rest =>
      obtain ⟨rfl, hbq⟩ := hcut
      rename World => wq
      have hcx2 : wq.cell? ⟨W0.heap.size, i, none⟩ = some (.int .u8 (u.toNat : Int)) := (hbq.cell (p := ⟨W0.heap.size, i, none⟩) hlx).trans hcx
      have hcy2 : wq.cell? ⟨W0.heap.size + 1, i, none⟩ = some (.int .u8 (v.toNat : Int)) := (hbq.cell (p := ⟨W0.heap.size + 1, i, none⟩) hly).trans hcy
      have hlx2 := Nat.lt_of_lt_of_le hlx hbq.size
      have hly2 := Nat.lt_of_lt_of_le hly hbq.size
      have hfin := hbl.trans (hbq.mono hbl.size)
      clear hcx hcy hlx hly hdr hbl hbq
      by_cases huv : u.toNat = v.toNat
      · have e1 : ((u.toNat : Int) != (v.toNat : Int)) = false := by simp; omega
        have HG2 := Lib.hid (show G = Op.bytesLess (x.drop (i + 1)) (y.drop (i + 1)) by rw [HRR.out, if_neg (by omega), if_neg (by omega)])
        rw [e1]
        clear huv e1
        go_wp2_with fail
        go_roundw
        case rel => exact ⟨i + 1, by omega, by go_num, hfin, HG2⟩
        case measure => simp [intOf]; omega
      · have e1 : ((u.toNat : Int) != (v.toNat : Int)) = true := by simp; omega
        have HD := Lib.hid (show G = decide (u.toNat < v.toNat) by
          rw [HRR.out]
          by_cases h : u.toNat < v.toNat
          · rw [if_pos h]; simp [h]
          · rw [if_neg h, if_pos (by omega)]; simp [h])
        rw [e1]
        have hdr : Below wq.heap.size wq wq.drew := Same.below ⟨1, rfl⟩ _
        clear huv e1 HRR
        go_upto_region 5 with fail
        refine wp_region_held (S := fun w => Below wq.heap.size wq w) (by kernel_rfl) ?_
        change wpAnyH _ _ _ _ _ _ _ _ (World.drew _)
        refine held_take (i := 0) (v := ?_) (a' := ?_) rfl (by kernel_rfl) (by kernel_rfl) (by kernel_rfl) (fun _ _ _ h => h) (by rfl) (Same.below ⟨1, rfl⟩ _) ?_ ?_ ?_
        rotate_left 2
        · (intro w hS; go_simp; try with_reducible rfl)
        · (go_simp; try with_reducible rfl)
        refine held_take (i := 1) (v := ?_) (a' := ?_) rfl (by kernel_rfl) (by kernel_rfl) (by kernel_rfl) (fun _ _ _ h => h) (by rfl) (Same.below ⟨1, rfl⟩ _) ?_ ?_ ?_
        rotate_left 2
        · (intro w hS; go_simp; try with_reducible rfl)
        · (go_simp; try with_reducible rfl)
        refine held_take (i := 2) (v := ?_) (a' := ?_) rfl (by kernel_rfl) (by kernel_rfl) (by kernel_rfl) (fun _ _ _ h => h) (by rfl) (Same.below ⟨1, rfl⟩ _) ?_ ?_ ?_
        rotate_left 2
        · (intro w hS; have t := (hS.cell (p := ⟨W0.heap.size, i, none⟩) hlx2).trans hcx2; go_simp; try with_reducible rfl)
        · (go_simp; try with_reducible rfl)
        refine held_take (i := 3) (v := ?_) (a' := ?_) rfl (by kernel_rfl) (by kernel_rfl) (by kernel_rfl) (fun _ _ _ h => h) (by rfl) (Same.below ⟨1, rfl⟩ _) ?_ ?_ ?_
        rotate_left 2
        · (intro w hS; go_simp; try with_reducible rfl)
        · (go_simp; try with_reducible rfl)
        refine held_take (i := 4) (v := ?_) (a' := ?_) rfl (by kernel_rfl) (by kernel_rfl) (by kernel_rfl) (fun _ _ _ h => h) (by rfl) (Same.below ⟨1, rfl⟩ _) ?_ ?_ ?_
        rotate_left 2
        · (intro w hS; go_simp; try with_reducible rfl)
        · (go_simp; try with_reducible rfl)
        refine held_take (i := 5) (v := ?_) (a' := ?_) rfl (by kernel_rfl) (by kernel_rfl) (by kernel_rfl) (fun _ _ _ h => h) (by rfl) (Same.below ⟨1, rfl⟩ _) ?_ ?_ ?_
        rotate_left 2
        · (intro w hS; have t := (hS.cell (p := ⟨W0.heap.size + 1, i, none⟩) hly2).trans hcy2; go_simp; try with_reducible rfl)
        · (go_simp; try with_reducible rfl)
        refine held_take (i := 6) (v := ?_) (a' := ?_) rfl (by kernel_rfl) (by kernel_rfl) (by kernel_rfl) (fun _ _ _ h => h) (by rfl) (Same.below ⟨1, rfl⟩ _) ?_ ?_ ?_
        rotate_left 2
        · (intro w hS; go_simp; try with_reducible rfl)
        · (go_simp; try with_reducible rfl)
        refine held_take (i := 7) (v := ?_) (a' := ?_) rfl (by kernel_rfl) (by kernel_rfl) (by kernel_rfl) (fun _ _ _ h => h) (by rfl) (Same.below ⟨1, rfl⟩ _) ?_ ?_ ?_
        rotate_left 2
        · (intro w hS; go_simp; try with_reducible rfl)
        · (go_simp; try with_reducible rfl)
        refine wpAnyH_done (by kernel_rfl) ?_ _
        go_wp2_with fail
        go_ret
        have h3 := hfin.trans (hdr.mono hfin.size)
        exact ⟨by rw [HD.out]; rfl, HB0.out.trans (h3.mono HB0.out.size)⟩
    · have hiI : ¬ (i : Int) < 32 := by omega
      have hg := Lib.hid (show G = false by
        rw [HR.out, List.drop_of_length_le (l := x) (by rw [HX.out]; omega), List.drop_of_length_le (l := y) (by rw [HY.out]; omega)]; rfl)
      go_wp2_with fail
      go_ret
      exact ⟨by rw [hg.out]; rfl, HB0.out.trans (hbl.mono HB0.out.size)⟩
end Go.Proofs.Ytpafhajpnepecaa

/- grain, plain: numbers that fit; how much memory a value that was read takes. -/
set_option linter.unusedVariables false
namespace Go.Proofs.Ytpafhajpnepecaa
open Go.RowKit

theorem Each.mem {α : Type} {R : List Value → α → Prop} {vs : List Value} {xs : List α} (h : Each R vs xs) : ∀ x ∈ xs, ∃ cs, R cs x := by
  induction h with
  | nil => intro x hx; cases hx
  | cons h1 _ ih =>
    intro x hx
    rcases List.mem_cons.1 hx with rfl | hx
    · exact ⟨_, h1⟩
    · exact ih x hx

theorem valR_fits : ∀ (d : Nat) (v : Val) (w : World) (av : Av) (cs : List Value), valR.R w av cs v → Fits d v := by
  intro d
  induction d with
  | zero => intro v w av cs h; trivial
  | succ d ih =>
    intro v w av cs h
    obtain ⟨k, u, b, f, l⟩ := v
    obtain ⟨A, cA, L, cL, _, _, hu, hf, ⟨h4, h5, _⟩, h7, h8, vs, _, he, _⟩ := valR_iff.1 h
    refine ⟨hu, hf, ?_, ?_, fun x hx => ?_⟩
    · show b.length < 2 ^ 64; simp only [maxLen] at h5; omega
    · show l.length < 2 ^ 64; simp only [maxLen] at h8; omega
    · obtain ⟨cs', hc⟩ := he.mem x hx
      exact ih x w av cs' hc

theorem headL_pos (k n : Nat) : 1 ≤ (headL k n).length := List.length_pos_iff.2 (tailL_ne _ _)

theorem bulk_wrp : ∀ (d : Nat) (v : Val) (e : List UInt8), wrp d v = .ok e → bulkV (norm d v) ≤ e.length := by
  intro d
  induction d with
  | zero => intro v e h; cases h
  | succ d ih =>
    have hl : ∀ (l : List Val) (e : List UInt8), wrpL (wrp d) l = .ok e → bulkVs (l.map (norm d)) ≤ e.length := by
      intro l
      induction l with
      | nil => intro e h; simp [bulkVs]
      | cons v r ihl =>
        intro e h
        rw [wrpL] at h
        split at h
        · rename_i e1 h1
          split at h
          · rename_i e2 h2
            injection h with h
            subst h
            have a := ih v e1 h1
            have b := ihl e2 h2
            rw [List.map_cons, bulkVs, List.length_append]
            omega
          · cases h
        · cases h
    intro v e h
    unfold wrp at h
    unfold norm
    split at h
    · rename_i hk
      injection h with h
      subst h
      rw [if_pos hk]
      have := headL_pos 0 v.num
      simp [bulkV, bulkVs]; omega
    rename_i hk0
    rw [if_neg hk0]
    split at h
    · rename_i hk
      injection h with h
      subst h
      rw [if_pos hk]
      have := headL_pos 1 v.bytes.length
      simp [bulkV, bulkVs]; omega
    rename_i hk1
    rw [if_neg hk1]
    split at h
    · rename_i hk
      injection h with h
      subst h
      rw [if_pos hk]
      have := headL_pos 2 0
      simp [bulkV, bulkVs]; omega
    rename_i hk2
    rw [if_neg hk2]
    split at h
    · split at h
      · rename_i e1 h1
        injection h with h
        subst h
        have := hl _ _ h1
        have := headL_pos 3 v.list.length
        simp [bulkV]; omega
      · cases h
    · cases h

/-- what was read is small -/
theorem bulk_dec {l : List UInt8} {v : Val} (h : dec l = .ok v) : bulkV v ≤ 1048576 ∧ enc v = .ok l := by
  obtain ⟨h1, h2, _, h4⟩ := dec_back h
  obtain ⟨h5, _⟩ := (enc_iff v l).1 h1
  have := bulk_wrp 16 v l h5
  rw [h2] at this
  exact ⟨by omega, h1⟩
/-- what was written is read as what of it counts, and that is written alike -/
theorem dec_norm {v : Val} {o : List UInt8} {w : World} {av : Av} {cs : List Value} (hv : valR.R w av cs v) (h : enc v = .ok o) : dec o = .ok (norm 16 v) ∧ bulkV (norm 16 v) ≤ 1048576 ∧ enc (norm 16 v) = .ok o ∧ (norm 16 v).kind = v.kind := by
  have hd := dec_enc (valR_fits 16 v w av cs hv) h
  obtain ⟨h1, h2⟩ := bulk_dec hd
  obtain ⟨h5, _⟩ := (enc_iff v o).1 h
  exact ⟨hd, h1, h2, norm_kind h5⟩
end Go.Proofs.Ytpafhajpnepecaa
