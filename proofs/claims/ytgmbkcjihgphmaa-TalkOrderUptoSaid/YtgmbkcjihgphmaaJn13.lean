/- Contracts and laws for what the statement reaches, joined: ObjEnt. -/
import Derived.Test.YtgmbkcjihgphmaaJn12
/- A tree's entries in memory. -/
set_option linter.unusedVariables false
set_option linter.unusedSimpArgs false
namespace Go.Proofs.Ytgmbkcjihgphmaa
open Go.RowKit

abbrev entR : Rd EntT := prodR strR (prodR boolR (prodR oidR fltR))
/-- an entry's cells -/
def entK (s : ByteArray) (d : Bool) (i : List UInt8) (f : Nat) : Array Value := (Value.string s :: Value.bool d :: (bytesV i ++ [Value.float .f64 f])).toArray
abbrev zEnt : Array Value := entK ⟨#[]⟩ false zId 0
theorem ent_cells {w : World} {av : Av} {cs : List Value} {x : EntT} (h : entR.R w av cs x) : cs = (entK x.1 x.2.1 x.2.2.1 x.2.2.2).toList ∧ x.2.2.1.length = 32 ∧ x.2.2.2 < 2 ^ 64 := by
  obtain ⟨c1, c2, rfl, h1, d1, d2, rfl, h2, e1, e2, rfl, h3, h4, h5⟩ := h
  obtain ⟨h6, h7⟩ := oid_cells h3
  have h1 : c1 = _ := h1
  have h2 : d1 = _ := h2
  subst h1 h2 h4 h6
  exact ⟨rfl, h7, h5⟩
theorem ent_of (w : World) (av : Av) {x : EntT} (h : x.2.2.1.length = 32) (hf : x.2.2.2 < 2 ^ 64) : entR.R w av (entK x.1 x.2.1 x.2.2.1 x.2.2.2).toList x :=
  ⟨[_], _, rfl, rfl, [_], _, rfl, rfl, bytesV x.2.2.1, [_], rfl, oid_of w av h, rfl, hf⟩
theorem entK_size {i : List UInt8} (h : i.length = 32) (s : ByteArray) (d : Bool) (f : Nat) : (entK s d i f).size = 35 := by simp [entK, bytesV, h]
theorem entK_one (s : ByteArray) (d : Bool) (i : List UInt8) (f : Nat) : (entK s d i f).all (·.oneCell') = true := by
  rw [Array.all_eq_true_iff_forall_mem]
  intro v hv
  simp [entK] at hv
  rcases hv with rfl | rfl | hv | rfl
  · rfl
  · rfl
  · exact bytesV_one i v hv
  · rfl
theorem ent_info : (Try.prog.info? 66).map (·.size) = some 35 := by kernel_rfl
theorem entK_info {i : List UInt8} (h : i.length = 32) (s : ByteArray) (d : Bool) (f : Nat) : (Try.prog.info? 66).map (·.size) = some (entK s d i f).size := by rw [entK_size h]; exact ent_info
theorem entK_get {i : List UInt8} (h : i.length = 32) (s : ByteArray) (d : Bool) (f : Nat) : (entK s d i f)[0]? = some (.string s) ∧ (entK s d i f)[1]? = some (.bool d) ∧ (entK s d i f)[34]? = some (.float .f64 f) := by
  have h1 : (bytesV i).length = 32 := by rw [bytesV_length, h]
  refine ⟨rfl, rfl, ?_⟩
  unfold entK
  rw [List.getElem?_toArray, List.getElem?_cons_succ, List.getElem?_cons_succ, List.getElem?_append_right (by omega), h1]; rfl
theorem entK_set {i : List UInt8} (h : i.length = 32) (s : ByteArray) (d : Bool) (f f' : Nat) : (entK s d i f).setIfInBounds 34 (.float .f64 f') = entK s d i f' := by
  have h1 : (bytesV i).length = 32 := by rw [bytesV_length, h]
  unfold entK
  rw [List.setIfInBounds_toArray, List.set_cons_succ, List.set_cons_succ, List.set_append_right _ _ (by omega), h1]; rfl
theorem elemEnt : ElemOf Try.prog 64 66 (.agg zEnt) 35 64 := ⟨Try.underlying64, by kernel_rfl, rfl, by decide⟩
theorem ents_look {w : World} {av : Av} {A : Option Addr} {os : List EntT} {n i : Nat} (h : SlOf entR w av A os) (hl : os.length = n) (hi : i < n) :
    ∃ b off o, A = some ⟨b, off, none⟩ ∧ b < w.heap.size ∧ os[i]? = some o ∧ o.2.2.1.length = 32 ∧ o.2.2.2 < 2 ^ 64 ∧ At w ⟨b, off + i * 35, none⟩ (entK o.1 o.2.1 o.2.2.1 o.2.2.2) := by
  obtain ⟨b, off, cs, o, e, hb, hx, hr, hc⟩ := h.at hl hi
  obtain ⟨rfl, h32, hf⟩ := ent_cells hr
  exact ⟨b, off, o, e, hb, hx, h32, hf, hc⟩

/-! ### ordered -/
def OrdPost (w : World) (z : Int) (e : Ending) (w' : World) : Prop := Below w.heap.size w w' ∧ e = if z = 0 then .returned (.tuple #[]) else .panicked (flawE z)
def notUp : Option (List UInt8) → List UInt8 → Bool
  | none, _ => false
  | some q, s => !(Op.bytesLess q s)
theorem ord_step {l : List EntT} {i : Nat} {x : EntT} {p : Option (List UInt8)} (hx : l[i]? = some x) : ordG p (l.drop i) = if nameG (sB x.1) = false then 50 else if notUp p (sB x.1) = true then 92 else ordG (some (sB x.1)) (l.drop (i + 1)) := by
  obtain ⟨hl, he⟩ := List.getElem?_eq_some_iff.1 hx
  rw [List.drop_eq_getElem_cons hl, he]
  cases p <;> (rw [ordG.eq_def]; rfl)

set_option maxRecDepth 100000 in
set_option maxHeartbeats 4000000 in
theorem ordered_any (A : Option Addr) (n c : Nat) (l : List EntT) (W0 : World) (hs : SlOf entR W0 no A l) (hn : n = l.length) (hnl : n ≤ 1000000000) (hsz : ∀ x ∈ l, x.1.size ≤ 1000000000) :
    Calls Try.prog 37 #[.slice A n c] W0 (OrdPost W0 (orderedG l)) := by
  obtain ⟨G, hG⟩ : ∃ G, G = orderedG l := ⟨_, rfl⟩
  rw [← hG]
  have HS := Lib.hid hs
  have HM := Lib.hid hn
  have HZ := Lib.hid hsz
  by_cases h1 : n ≤ 1024
  · have hI : (n : Int) ≤ 1024 := by omega
    have HG0 := Lib.hid (show G = ordG none (l.drop 0) by rw [hG]; unfold orderedG; rw [if_neg (by omega), List.drop_zero])
    clear hG hs hn hsz
    go_enter Try.func37, Try.ntmps37
    go_wp2_with fail
    refine (need_yes 2 _).mono ?_
    rintro e w' ⟨rfl, rfl⟩
    go_wp2_with fail
    go_loopw [10] (fun s10 wr => ∃ (i : Nat) (p : Option (List UInt8)), i ≤ n ∧ s10 = .int .i64 (i : Int) ∧ Below w'.heap.size w' wr ∧ Hid ((i = 0 → p = none) ∧ ∀ j x, i = j + 1 → l[j]? = some x → p = some (sB x.1)) ∧ Hid (G = ordG p (l.drop i))) (fun s10 wr => n - (intOf s10).toNat)
    case atStart => exact ⟨0, none, by omega, rfl, Below.refl _ _, Lib.hid ⟨fun _ => rfl, fun j x h => by omega⟩, HG0⟩
    case round =>
      obtain ⟨i, p, hin, rfl, hbl, HP, HR⟩ := hrel
      by_cases hi : i < n
      · have hiI : (i : Int) < (n : Int) := by omega
        obtain ⟨b1, o1, x, hA, hb1, hx, h32, hf, hat⟩ := ents_look (HS.out.below hbl) HM.out.symm hi
        have hr := HR.out
        rw [ord_step hx] at hr
        have HRR := Lib.hid hr
        have HX := Lib.hid hx
        have HN := Lib.hid (fun w => name_any x.1 w (HZ.out x (List.mem_of_getElem? hx)))
        obtain ⟨KX, hKX⟩ : ∃ KX, KX = entK x.1 x.2.1 x.2.2.1 x.2.2.2 := ⟨_, rfl⟩
        have hK0 : KX[0]? = some (.string x.1) := by rw [hKX]; rfl
        have HI := Lib.hid (show (Try.prog.info? 66).map (·.size) = some KX.size by rw [hKX]; exact entK_info h32 _ _ _)
        have HO := Lib.hid (show KX.all (·.oneCell') = true by rw [hKX]; exact entK_one _ _ _ _)
        have HZS := Lib.hid (show zEnt.size = KX.size by rw [hKX, entK_size (by simp), entK_size h32])
        rw [← hKX] at hat
        have HAT := Lib.hid hat
        have HBN := Lib.hid (Blk.new wr 66 zEnt)
        have HK := Lib.hid (Blk.new wr 66 KX)
        have HB2 := Lib.hid (show Below wr.heap.size wr (wr.alloc (.cells KX 66)) from (Below.refl _ _).alloc (Nat.le_refl _) _)
        subst hA
        clear hr hx hat HR hKX h32 hf
        go_upto_region 4 with (first
          | (refine wpList_load_at rfl _ _ rfl b1 (o1 + i * 35) rfl KX _ HAT.out Try.underlying66 rfl HI.out ?_)
          | (refine wpList_store_row rfl _ _ _ rfl wr.heap.size KX rfl rfl 66 _ HBN.out HI.out HZS.out HO.out ?_) | fail)
        rw [World.setRow_alloc_new]
        have HAT2 := Lib.hid (HAT.out.below HB2.out hb1)
        have hb2 : b1 < (wr.alloc (.cells KX 66)).heap.size := Nat.lt_of_lt_of_le hb1 HB2.out.size
        clear HBN HI HO HZS HAT
        have hbl2 := hbl.trans (HB2.out.mono hbl.size)
        clear HB2
        generalize wr.alloc (.cells KX 66) = w2 at *
        generalize wr.heap.size = gx at *
        have hcx : w2.cell? ⟨gx, 0, none⟩ = some (.string x.1) := (HK.out.cell 0).trans hK0
        go_wp2_with fail
        refine (HN.out _).mono ?_
        rintro e w3 ⟨rfl, hb3⟩
        have hbl3 := hbl2.trans (hb3.mono hbl2.size)
        cases hnm : nameG (sB x.1) with
        | false =>
          have HG2 := Lib.hid (show G = 50 by rw [HRR.out, if_pos hnm])
          clear hnm
          go_wp2_with fail
          refine (need_no 50 _).mono ?_
          rintro e w' ⟨rfl, rfl⟩
          exact ⟨rfl, hbl3, by rw [HG2.out]; rfl⟩
        | true =>
          have HG2 := Lib.hid (show G = if notUp p (sB x.1) = true then 92 else ordG (some (sB x.1)) (l.drop (i + 1)) by rw [HRR.out, if_neg (by simp [hnm])])
          clear hnm HRR
          go_wp2_with fail
          refine (need_yes 50 _).mono ?_
          rintro e w4 ⟨rfl, rfl⟩
          have hgx2 : gx < w2.heap.size := HK.out.lt
          have hgx3 : gx < w4.heap.size := Nat.lt_of_lt_of_le hgx2 hb3.size
          have hcx3 : w4.cell? ⟨gx, 0, none⟩ = some (.string x.1) := (hb3.cell (p := ⟨gx, 0, none⟩) hgx2).trans hcx
          have hdr : Below w4.heap.size w4 w4.drew := Same.below ⟨1, rfl⟩ _
          have hbl5 := hbl3.trans (hdr.mono hbl3.size)
          by_cases hi0 : i = 0
          · subst hi0
            obtain rfl := HP.out.1 rfl
            have HG3 := Lib.hid (show G = ordG (some (sB x.1)) (l.drop (0 + 1)) by rw [HG2.out]; rfl)
            have HP2 := Lib.hid (show (0 + 1 = 0 → some (sB x.1) = none) ∧ ∀ (j : Nat) (y : EntT), 0 + 1 = j + 1 → l[j]? = some y → some (sB x.1) = some (sB y.1) from ⟨fun h => by omega, fun j y h1 h2 => by
              obtain rfl : j = 0 := by omega
              rw [HX.out] at h2; injection h2 with h2; rw [h2]⟩)
            clear HG2 HP HAT2 hb2 hcx hb3 hbl2 hbl HN HK
            go_upto_region 5 with fail
            refine wp_region_held (S := fun w => Below w4.heap.size w4 w) (by kernel_rfl) ?_
            change wpAnyH _ _ _ _ _ _ _ _ (World.drew _)
            refine held_take (i := 0) (v := ?_) (a' := ?_) rfl (by kernel_rfl) (by kernel_rfl) (by kernel_rfl) (fun _ _ _ h => h) (by rfl) hdr ?_ ?_ ?_
            rotate_left 2
            · (intro w hS; go_simp; try with_reducible rfl)
            · (go_simp; try with_reducible rfl)
            refine held_take (i := 1) (v := ?_) (a' := ?_) rfl (by kernel_rfl) (by kernel_rfl) (by kernel_rfl) (fun _ _ _ h => h) (by rfl) hdr ?_ ?_ ?_
            rotate_left 2
            · (intro w hS; go_simp; try with_reducible rfl)
            · (go_simp; try with_reducible rfl)
            refine held_take (i := 2) (v := ?_) (a' := ?_) rfl (by kernel_rfl) (by kernel_rfl) (by kernel_rfl) (fun _ _ _ h => h) (by rfl) hdr ?_ ?_ ?_
            rotate_left 2
            · (intro w hS; go_simp; try with_reducible rfl)
            · (go_simp; try with_reducible rfl)
            refine held_no (i := 3) (a' := ?_) rfl (by kernel_rfl) (by kernel_rfl) (by kernel_rfl) (fun _ _ _ h => h) (by rfl) hdr ?_ ?_
            rotate_left 1
            · (go_simp; try with_reducible rfl)
            refine held_no (i := 4) (a' := ?_) rfl (by kernel_rfl) (by kernel_rfl) (by kernel_rfl) (fun _ _ _ h => h) (by rfl) hdr ?_ ?_
            rotate_left 1
            · (go_simp; try with_reducible rfl)
            refine held_no (i := 5) (a' := ?_) rfl (by kernel_rfl) (by kernel_rfl) (by kernel_rfl) (fun _ _ _ h => h) (by rfl) hdr ?_ ?_
            rotate_left 1
            · (go_simp; try with_reducible rfl)
            refine held_no (i := 6) (a' := ?_) rfl (by kernel_rfl) (by kernel_rfl) (by kernel_rfl) (fun _ _ _ h => h) (by rfl) hdr ?_ ?_
            rotate_left 1
            · (go_simp; try with_reducible rfl)
            refine held_no (i := 7) (a' := ?_) rfl (by kernel_rfl) (by kernel_rfl) (by kernel_rfl) (fun _ _ _ h => h) (by rfl) hdr ?_ ?_
            rotate_left 1
            · (go_simp; try with_reducible rfl)
            refine held_no (i := 8) (a' := ?_) rfl (by kernel_rfl) (by kernel_rfl) (by kernel_rfl) (fun _ _ _ h => h) (by rfl) hdr ?_ ?_
            rotate_left 1
            · (go_simp; try with_reducible rfl)
            refine held_no (i := 9) (a' := ?_) rfl (by kernel_rfl) (by kernel_rfl) (by kernel_rfl) (fun _ _ _ h => h) (by rfl) hdr ?_ ?_
            rotate_left 1
            · (go_simp; try with_reducible rfl)
            refine held_no (i := 10) (a' := ?_) rfl (by kernel_rfl) (by kernel_rfl) (by kernel_rfl) (fun _ _ _ h => h) (by rfl) hdr ?_ ?_
            rotate_left 1
            · (go_simp; try with_reducible rfl)
            refine held_no (i := 11) (a' := ?_) rfl (by kernel_rfl) (by kernel_rfl) (by kernel_rfl) (fun _ _ _ h => h) (by rfl) hdr ?_ ?_
            rotate_left 1
            · (go_simp; try with_reducible rfl)
            refine held_take (i := 12) (v := ?_) (a' := ?_) rfl (by kernel_rfl) (by kernel_rfl) (by kernel_rfl) (fun _ _ _ h => h) (by rfl) hdr ?_ ?_ ?_
            rotate_left 2
            · (intro w hS; go_simp; try with_reducible rfl)
            · (go_simp; try with_reducible rfl)
            refine held_ready (rs := [13]) (by kernel_rfl) (by simp) ?_
            refine AllHeld.cons rfl (fun KR hKR => ?_) ?_
            · go_simp
              refine (need_yes 92 _).mono ?_
              rintro e w6 ⟨rfl, rfl⟩
              refine hKR _ _ hdr ?_
              clear hKR KR
              refine wpAnyH_done (by kernel_rfl) ?_ _
              go_wp2_with fail
              go_roundw
              case rel => exact ⟨0 + 1, some (sB x.1), by omega, by go_num, hbl5, HP2, HG3⟩
              case measure => simp [intOf]; omega
            exact AllHeld.nil
          · obtain ⟨b9, o9, y, hA9, hb9, hy, hy32, hyf, haty⟩ := ents_look (HS.out.below hbl3) HM.out.symm (i := i - 1) (by omega)
            have hA9 := Option.some.inj hA9
            injection hA9 with e1 e2
            subst e1 e2
            have hp := HP.out.2 (i - 1) y (by omega) hy
            have i1 : (i : Int) - 1 = ((i - 1 : Nat) : Int) := by omega
            obtain ⟨i', hi'⟩ : ∃ i', i' = i - 1 := ⟨_, rfl⟩
            rw [← hi'] at i1 haty
            have iw : IntKind.i64.wrap ((i : Int) - 1) = (i' : Int) := by rw [i1]; exact IntWalk.i64_in _ (by omega)
            have i2 : (0 : Int) ≤ (i' : Int) := by omega
            have i3 : (i' : Int) < (n : Int) := by omega
            have e0 : ((i : Int) == 0) = false := by simp; omega
            have hcy : w4.cell? ⟨b1, o1 + i' * 35, none⟩ = some (.string y.1) := by have := haty 0 _ (entK_get hy32 _ _ _).1; simpa using this
            have HG3 := Lib.hid (show G = if (!(Op.bytesLess (sB y.1) (sB x.1))) = true then 92 else ordG (some (sB x.1)) (l.drop (i + 1)) by rw [HG2.out, hp]; rfl)
            have HP2 := Lib.hid (show (i + 1 = 0 → some (sB x.1) = none) ∧ ∀ (j : Nat) (y : EntT), i + 1 = j + 1 → l[j]? = some y → some (sB x.1) = some (sB y.1) from ⟨fun h => by omega, fun j y h1 h2 => by
              obtain rfl : j = i := by omega
              rw [HX.out] at h2; injection h2 with h2; rw [h2]⟩)
            have hlb : b1 < w4.heap.size := hb9
            clear HG2 HP HAT2 hb2 hcx hb3 hbl2 hbl HN HK i1 hi' haty hy hyf hy32 hp hb9 hi0
            go_upto_region 5 with fail
            cases hls : Op.bytesLess (sB y.1) (sB x.1) with
            | true =>
              have e3 : Op.bytesLess y.1.toList x.1.toList = true := by rw [Lib.toList_data, Lib.toList_data]; exact hls
              have HG4 := Lib.hid (show G = ordG (some (sB x.1)) (l.drop (i + 1)) by rw [HG3.out, hls]; rfl)
              clear hls HG3
              refine wp_region_held (S := fun w => Below w4.heap.size w4 w) (by kernel_rfl) ?_
              change wpAnyH _ _ _ _ _ _ _ _ (World.drew _)
              refine held_take (i := 0) (v := ?_) (a' := ?_) rfl (by kernel_rfl) (by kernel_rfl) (by kernel_rfl) (fun _ _ _ h => h) (by rfl) hdr ?_ ?_ ?_
              rotate_left 2
              · (intro w hS; go_simp; try with_reducible rfl)
              · (go_simp; try with_reducible rfl)
              refine held_take (i := 1) (v := ?_) (a' := ?_) rfl (by kernel_rfl) (by kernel_rfl) (by kernel_rfl) (fun _ _ _ h => h) (by rfl) hdr ?_ ?_ ?_
              rotate_left 2
              · (intro w hS; go_simp; try with_reducible rfl)
              · (go_simp; try with_reducible rfl)
              refine held_take (i := 2) (v := ?_) (a' := ?_) rfl (by kernel_rfl) (by kernel_rfl) (by kernel_rfl) (fun _ _ _ h => h) (by rfl) hdr ?_ ?_ ?_
              rotate_left 2
              · (intro w hS; go_simp; try with_reducible rfl)
              · (go_simp; try with_reducible rfl)
              refine held_take (i := 3) (v := ?_) (a' := ?_) rfl (by kernel_rfl) (by kernel_rfl) (by kernel_rfl) (fun _ _ _ h => h) (by rfl) hdr ?_ ?_ ?_
              rotate_left 2
              · (intro w hS; go_simp; try with_reducible rfl)
              · (go_simp; try with_reducible rfl)
              refine held_take (i := 4) (v := ?_) (a' := ?_) rfl (by kernel_rfl) (by kernel_rfl) (by kernel_rfl) (fun _ _ _ h => h) (by rfl) hdr ?_ ?_ ?_
              rotate_left 2
              · (intro w hS; go_simp; try with_reducible rfl)
              · (go_simp; try with_reducible rfl)
              refine held_take (i := 5) (v := ?_) (a' := ?_) rfl (by kernel_rfl) (by kernel_rfl) (by kernel_rfl) (fun _ _ _ h => h) (by rfl) hdr ?_ ?_ ?_
              rotate_left 2
              · (intro w hS; go_simp; try with_reducible rfl)
              · (go_simp; try with_reducible rfl)
              refine held_take (i := 6) (v := ?_) (a' := ?_) rfl (by kernel_rfl) (by kernel_rfl) (by kernel_rfl) (fun _ _ _ h => h) (by rfl) hdr ?_ ?_ ?_
              rotate_left 2
              · (intro w hS; go_simp; try with_reducible rfl)
              · (go_simp; try with_reducible rfl)
              refine held_take (i := 7) (v := ?_) (a' := ?_) rfl (by kernel_rfl) (by kernel_rfl) (by kernel_rfl) (fun _ _ _ h => h) (by rfl) hdr ?_ ?_ ?_
              rotate_left 2
              · (intro w hS; go_simp; try with_reducible rfl)
              · (go_simp; try with_reducible rfl)
              refine held_take (i := 8) (v := ?_) (a' := ?_) rfl (by kernel_rfl) (by kernel_rfl) (by kernel_rfl) (fun _ _ _ h => h) (by rfl) hdr ?_ ?_ ?_
              rotate_left 2
              · (intro w hS; have t := (hS.cell (p := ⟨b1, o1 + i' * 35, none⟩) hlb).trans hcy; go_simp; try with_reducible rfl)
              · (go_simp; try with_reducible rfl)
              refine held_take (i := 9) (v := ?_) (a' := ?_) rfl (by kernel_rfl) (by kernel_rfl) (by kernel_rfl) (fun _ _ _ h => h) (by rfl) hdr ?_ ?_ ?_
              rotate_left 2
              · (intro w hS; go_simp; try with_reducible rfl)
              · (go_simp; try with_reducible rfl)
              refine held_take (i := 10) (v := ?_) (a' := ?_) rfl (by kernel_rfl) (by kernel_rfl) (by kernel_rfl) (fun _ _ _ h => h) (by rfl) hdr ?_ ?_ ?_
              rotate_left 2
              · (intro w hS; have t := (hS.cell (p := ⟨gx, 0, none⟩) hgx3).trans hcx3; go_simp; try with_reducible rfl)
              · (go_simp; try with_reducible rfl)
              refine held_take (i := 11) (v := ?_) (a' := ?_) rfl (by kernel_rfl) (by kernel_rfl) (by kernel_rfl) (fun _ _ _ h => h) (by rfl) hdr ?_ ?_ ?_
              rotate_left 2
              · (intro w hS; go_simp; try with_reducible rfl)
              · (go_simp; try with_reducible rfl)
              refine held_take (i := 12) (v := ?_) (a' := ?_) rfl (by kernel_rfl) (by kernel_rfl) (by kernel_rfl) (fun _ _ _ h => h) (by rfl) hdr ?_ ?_ ?_
              rotate_left 2
              · (intro w hS; go_simp; try with_reducible rfl)
              · (go_simp; try with_reducible rfl)
              refine held_ready (rs := [13]) (by kernel_rfl) (by simp) ?_
              refine AllHeld.cons rfl (fun KR hKR => ?_) ?_
              · go_simp
                refine (need_yes 92 _).mono ?_
                rintro e w6 ⟨rfl, rfl⟩
                refine hKR _ _ hdr ?_
                clear hKR KR
                refine wpAnyH_done (by kernel_rfl) ?_ _
                go_wp2_with fail
                go_roundw
                case rel => exact ⟨i + 1, some (sB x.1), by omega, by go_num, hbl5, HP2, HG4⟩
                case measure => simp [intOf]; omega
              exact AllHeld.nil
            | false =>
              have e3 : Op.bytesLess y.1.toList x.1.toList = false := by rw [Lib.toList_data, Lib.toList_data]; exact hls
              have HG4 := Lib.hid (show G = 92 by rw [HG3.out, hls]; rfl)
              clear hls HG3
              refine wp_region_held (S := fun w => Below w4.heap.size w4 w) (by kernel_rfl) ?_
              change wpAnyH _ _ _ _ _ _ _ _ (World.drew _)
              refine held_take (i := 0) (v := ?_) (a' := ?_) rfl (by kernel_rfl) (by kernel_rfl) (by kernel_rfl) (fun _ _ _ h => h) (by rfl) hdr ?_ ?_ ?_
              rotate_left 2
              · (intro w hS; go_simp; try with_reducible rfl)
              · (go_simp; try with_reducible rfl)
              refine held_take (i := 1) (v := ?_) (a' := ?_) rfl (by kernel_rfl) (by kernel_rfl) (by kernel_rfl) (fun _ _ _ h => h) (by rfl) hdr ?_ ?_ ?_
              rotate_left 2
              · (intro w hS; go_simp; try with_reducible rfl)
              · (go_simp; try with_reducible rfl)
              refine held_take (i := 2) (v := ?_) (a' := ?_) rfl (by kernel_rfl) (by kernel_rfl) (by kernel_rfl) (fun _ _ _ h => h) (by rfl) hdr ?_ ?_ ?_
              rotate_left 2
              · (intro w hS; go_simp; try with_reducible rfl)
              · (go_simp; try with_reducible rfl)
              refine held_take (i := 3) (v := ?_) (a' := ?_) rfl (by kernel_rfl) (by kernel_rfl) (by kernel_rfl) (fun _ _ _ h => h) (by rfl) hdr ?_ ?_ ?_
              rotate_left 2
              · (intro w hS; go_simp; try with_reducible rfl)
              · (go_simp; try with_reducible rfl)
              refine held_take (i := 4) (v := ?_) (a' := ?_) rfl (by kernel_rfl) (by kernel_rfl) (by kernel_rfl) (fun _ _ _ h => h) (by rfl) hdr ?_ ?_ ?_
              rotate_left 2
              · (intro w hS; go_simp; try with_reducible rfl)
              · (go_simp; try with_reducible rfl)
              refine held_take (i := 5) (v := ?_) (a' := ?_) rfl (by kernel_rfl) (by kernel_rfl) (by kernel_rfl) (fun _ _ _ h => h) (by rfl) hdr ?_ ?_ ?_
              rotate_left 2
              · (intro w hS; go_simp; try with_reducible rfl)
              · (go_simp; try with_reducible rfl)
              refine held_take (i := 6) (v := ?_) (a' := ?_) rfl (by kernel_rfl) (by kernel_rfl) (by kernel_rfl) (fun _ _ _ h => h) (by rfl) hdr ?_ ?_ ?_
              rotate_left 2
              · (intro w hS; go_simp; try with_reducible rfl)
              · (go_simp; try with_reducible rfl)
              refine held_take (i := 7) (v := ?_) (a' := ?_) rfl (by kernel_rfl) (by kernel_rfl) (by kernel_rfl) (fun _ _ _ h => h) (by rfl) hdr ?_ ?_ ?_
              rotate_left 2
              · (intro w hS; go_simp; try with_reducible rfl)
              · (go_simp; try with_reducible rfl)
              refine held_take (i := 8) (v := ?_) (a' := ?_) rfl (by kernel_rfl) (by kernel_rfl) (by kernel_rfl) (fun _ _ _ h => h) (by rfl) hdr ?_ ?_ ?_
              rotate_left 2
              · (intro w hS; have t := (hS.cell (p := ⟨b1, o1 + i' * 35, none⟩) hlb).trans hcy; go_simp; try with_reducible rfl)
              · (go_simp; try with_reducible rfl)
              refine held_take (i := 9) (v := ?_) (a' := ?_) rfl (by kernel_rfl) (by kernel_rfl) (by kernel_rfl) (fun _ _ _ h => h) (by rfl) hdr ?_ ?_ ?_
              rotate_left 2
              · (intro w hS; go_simp; try with_reducible rfl)
              · (go_simp; try with_reducible rfl)
              refine held_take (i := 10) (v := ?_) (a' := ?_) rfl (by kernel_rfl) (by kernel_rfl) (by kernel_rfl) (fun _ _ _ h => h) (by rfl) hdr ?_ ?_ ?_
              rotate_left 2
              · (intro w hS; have t := (hS.cell (p := ⟨gx, 0, none⟩) hgx3).trans hcx3; go_simp; try with_reducible rfl)
              · (go_simp; try with_reducible rfl)
              refine held_take (i := 11) (v := ?_) (a' := ?_) rfl (by kernel_rfl) (by kernel_rfl) (by kernel_rfl) (fun _ _ _ h => h) (by rfl) hdr ?_ ?_ ?_
              rotate_left 2
              · (intro w hS; go_simp; try with_reducible rfl)
              · (go_simp; try with_reducible rfl)
              refine held_take (i := 12) (v := ?_) (a' := ?_) rfl (by kernel_rfl) (by kernel_rfl) (by kernel_rfl) (fun _ _ _ h => h) (by rfl) hdr ?_ ?_ ?_
              rotate_left 2
              · (intro w hS; go_simp; try with_reducible rfl)
              · (go_simp; try with_reducible rfl)
              refine held_ready (rs := [13]) (by kernel_rfl) (by simp) ?_
              refine AllHeld.cons rfl (fun KR hKR => ?_) ?_
              · go_simp
                refine (need_no 92 _).mono ?_
                rintro e w6 ⟨rfl, rfl⟩
                exact ⟨rfl, hbl5, by rw [HG4.out]; rfl⟩
              exact AllHeld.nil
      · have hiI : ¬ (i : Int) < (n : Int) := by omega
        have hg := Lib.hid (show G = 0 by
          rw [HR.out, List.drop_of_length_le (by rw [← HM.out]; omega)]; rfl)
        go_wp2_with fail
        go_end0
        exact ⟨hbl, by rw [hg.out, if_pos rfl]⟩
  · have hI : ¬ (n : Int) ≤ 1024 := by omega
    have HG2 := Lib.hid (show G = 2 by rw [hG]; unfold orderedG; rw [if_pos (by omega)])
    clear hG hs hn
    go_enter Try.func37, Try.ntmps37
    go_wp2_with fail
    refine (need_no 2 _).mono ?_
    rintro e w' ⟨rfl, rfl⟩
    exact ⟨rfl, Below.refl _ _, by rw [HG2.out]; rfl⟩
end Go.Proofs.Ytgmbkcjihgphmaa
