/- Contracts and laws for what the statement reaches, joined: ObjLawSame, ShaWords, ShaPlain. -/
import Derived.Test.YtpafhajpnepecaaJn1
import Derived.Test.YtpafhajpnepecaaJn29
import Derived.Laws.Bits
import Derived.Laws.Bits64
import Derived.Laws.Bits64b
import Derived.Laws.BitsAll
import Derived.Laws.BitsAllLaws
import Derived.Laws.ShiftsVarLaws
import Derived.Laws.Small
/- towlinelaw09.trees, .commits: two readings of one tree, or commit, are the same. -/
set_option linter.unusedVariables false
set_option linter.unusedSimpArgs false
namespace Go.Proofs.Ytpafhajpnepecaa
open Go.RowKit
attribute [local go_sem ↓] eqlId_eq neqId_eq

set_option maxRecDepth 100000 in
set_option maxHeartbeats 8000000 in
theorem trees_same (A B : Option Addr) (n c m d : Nat) (l : List EntT) (W0 : World) (ha : SlOf entR W0 no A l) (hb : SlOf entR W0 no B l) (hn : n = l.length) (hm : m = l.length) (hl : n ≤ 1000000000) :
    Calls Try.prog 31 #[.slice A n c, .slice B m d] W0 fun e w' => e = .returned (.bool true) ∧ Below W0.heap.size W0 w' := by
  obtain rfl : m = n := hm.trans hn.symm
  have HA := Lib.hid ha
  have HB := Lib.hid hb
  have HN := Lib.hid hn.symm
  have hef := ext_bits
  clear ha hb hm hn
  go_enter Try.func31, Try.ntmps31
  go_wp2_with fail
  go_loopw [13] (fun s13 wr => ∃ k : Nat, k ≤ m ∧ s13 = .int .i64 (k : Int) ∧ Hid (Below W0.heap.size W0 wr)) (fun s13 wr => m - (intOf s13).toNat)
  case atStart => exact ⟨0, by omega, rfl, Lib.hid (Below.refl _ _)⟩
  case round =>
    obtain ⟨k, hk, rfl, HBL⟩ := hrel
    by_cases hlt : k < m
    · have hltI : (k : Int) < (m : Int) := by omega
      obtain ⟨b1, o1, x, rfl, hb1, hx, h32, hf, hat⟩ := ents_look (HA.out.below HBL.out) HN.out hlt
      obtain ⟨b2, o2, y, rfl, hb2, hy, _, _, hat2⟩ := ents_look (HB.out.below HBL.out) HN.out hlt
      obtain rfl : y = x := by rw [hx] at hy; exact (Option.some.inj hy).symm
      obtain ⟨s, e, i, f⟩ := y
      have h32 : i.length = 32 := h32
      have hne := fun w => neqId_of h32 h32 w
      simp only [beq_self_eq_true, Bool.not_true] at hne
      obtain ⟨KX, hKX⟩ : ∃ KX, KX = (bytesV i).toArray := ⟨_, rfl⟩
      have HI := Lib.hid (show (Try.prog.info? 27).map (·.size) = some KX.size by rw [hKX]; exact oid_size h32)
      rw [← hKX] at hne
      have idat : ∀ b o, At wr ⟨b, o, none⟩ (entK s e i f) → At wr ⟨b, o + 2, none⟩ KX := fun b o hat => by
        rw [hKX]
        intro j u hu
        have hu : (bytesV i)[j]? = some u := by simpa using hu
        have hj := (List.getElem?_eq_some_iff.1 hu).1
        have := hat (2 + j) u (by
          unfold entK
          rw [List.getElem?_toArray, show 2 + j = j + 1 + 1 by omega, List.getElem?_cons_succ, List.getElem?_cons_succ, List.getElem?_append_left hj]
          exact hu)
        rw [← Nat.add_assoc] at this; exact this
      have HAT := Lib.hid (idat _ _ hat)
      have HAT2 := Lib.hid (idat _ _ hat2)
      have hat : At wr ⟨b1, o1 + k * 35, none⟩ (entK s e i f) := hat
      have hat2 : At wr ⟨b2, o2 + k * 35, none⟩ (entK s e i f) := hat2
      have x0 : wr.cell? ⟨b1, o1 + k * 35, none⟩ = some (.string s) := by have := hat 0 _ (entK_get h32 _ _ _).1; simpa using this
      have x1 : wr.cell? ⟨b1, o1 + k * 35 + 1, none⟩ = some (.bool e) := hat 1 _ (entK_get h32 _ _ _).2.1
      have x3 : wr.cell? ⟨b1, o1 + k * 35 + 34, none⟩ = some (.float .f64 f) := hat 34 _ (entK_get h32 _ _ _).2.2
      have y0 : wr.cell? ⟨b2, o2 + k * 35, none⟩ = some (.string s) := by have := hat2 0 _ (entK_get h32 _ _ _).1; simpa using this
      have y1 : wr.cell? ⟨b2, o2 + k * 35 + 1, none⟩ = some (.bool e) := hat2 1 _ (entK_get h32 _ _ _).2.1
      have y3 : wr.cell? ⟨b2, o2 + k * 35 + 34, none⟩ = some (.float .f64 f) := hat2 34 _ (entK_get h32 _ _ _).2.2
      have hdr : Below wr.heap.size wr wr.drew := Same.below ⟨1, rfl⟩ _
      have HB2 := Lib.hid (HBL.out.trans (hdr.mono HBL.out.size))
      have HX := Lib.hid (And.intro x0 (And.intro x1 x3))
      have HY := Lib.hid (And.intro y0 (And.intro y1 y3))
      clear hx hy h32 hat hat2 hKX idat x0 x1 x3 y0 y1 y3 hf
      go_upto_region 6 with fail
      refine wp_region_held (S := fun w => Below wr.heap.size wr w) (by kernel_rfl) ?_
      change wpAnyH _ _ _ _ _ _ _ _ (World.drew _)
      refine held_take (i := 0) (v := ?_) (a' := ?_) rfl (by kernel_rfl) (by kernel_rfl) (by kernel_rfl) (fun _ _ _ h => h) (by rfl) hdr ?_ ?_ ?_
      rotate_left 2
      · (intro w hS; go_simp; try with_reducible rfl)
      · (go_simp; try with_reducible rfl)
      refine held_take (i := 1) (v := ?_) (a' := ?_) rfl (by kernel_rfl) (by kernel_rfl) (by kernel_rfl) (fun _ _ _ h => h) (by rfl) hdr ?_ ?_ ?_
      rotate_left 2
      · (intro w hS; go_simp; try with_reducible rfl)
      · (go_simp; try with_reducible rfl)
      refine held_take (i := 2) (v := ?_) (a' := ?_) rfl (by kernel_rfl) (by kernel_rfl) (by kernel_rfl) (fun _ _ _ h => h) (by rfl) hdr ?_ ?_ ?_
      rotate_left 2
      · (intro w hS; go_simp; try with_reducible rfl)
      · (go_simp; try with_reducible rfl)
      refine held_take (i := 3) (v := ?_) (a' := ?_) rfl (by kernel_rfl) (by kernel_rfl) (by kernel_rfl) (fun _ _ _ h => h) (by rfl) hdr ?_ ?_ ?_
      rotate_left 2
      · (intro w hS; go_simp; try with_reducible rfl)
      · (go_simp; try with_reducible rfl)
      refine held_take (i := 4) (v := ?_) (a' := ?_) rfl (by kernel_rfl) (by kernel_rfl) (by kernel_rfl) (fun _ _ _ h => h) (by rfl) hdr ?_ ?_ ?_
      rotate_left 2
      · (intro w hS; have t := (hS.cell (p := ⟨b1, o1 + k * 35, none⟩) hb1).trans HX.out.1; go_simp; try with_reducible rfl)
      · (go_simp; try with_reducible rfl)
      refine held_take (i := 5) (v := ?_) (a' := ?_) rfl (by kernel_rfl) (by kernel_rfl) (by kernel_rfl) (fun _ _ _ h => h) (by rfl) hdr ?_ ?_ ?_
      rotate_left 2
      · (intro w hS; go_simp; try with_reducible rfl)
      · (go_simp; try with_reducible rfl)
      refine held_take (i := 6) (v := ?_) (a' := ?_) rfl (by kernel_rfl) (by kernel_rfl) (by kernel_rfl) (fun _ _ _ h => h) (by rfl) hdr ?_ ?_ ?_
      rotate_left 2
      · (intro w hS; go_simp; try with_reducible rfl)
      · (go_simp; try with_reducible rfl)
      refine held_take (i := 7) (v := ?_) (a' := ?_) rfl (by kernel_rfl) (by kernel_rfl) (by kernel_rfl) (fun _ _ _ h => h) (by rfl) hdr ?_ ?_ ?_
      rotate_left 2
      · (intro w hS; go_simp; try with_reducible rfl)
      · (go_simp; try with_reducible rfl)
      refine held_take (i := 8) (v := ?_) (a' := ?_) rfl (by kernel_rfl) (by kernel_rfl) (by kernel_rfl) (fun _ _ _ h => h) (by rfl) hdr ?_ ?_ ?_
      rotate_left 2
      · (intro w hS; go_simp; try with_reducible rfl)
      · (go_simp; try with_reducible rfl)
      refine held_take (i := 9) (v := ?_) (a' := ?_) rfl (by kernel_rfl) (by kernel_rfl) (by kernel_rfl) (fun _ _ _ h => h) (by rfl) hdr ?_ ?_ ?_
      rotate_left 2
      · (intro w hS; have t := (hS.cell (p := ⟨b2, o2 + k * 35, none⟩) hb2).trans HY.out.1; go_simp; try with_reducible rfl)
      · (go_simp; try with_reducible rfl)
      refine held_take (i := 10) (v := ?_) (a' := ?_) rfl (by kernel_rfl) (by kernel_rfl) (by kernel_rfl) (fun _ _ _ h => h) (by rfl) hdr ?_ ?_ ?_
      rotate_left 2
      · (intro w hS; go_simp; try with_reducible rfl)
      · (go_simp; try with_reducible rfl)
      refine held_take (i := 11) (v := ?_) (a' := ?_) rfl (by kernel_rfl) (by kernel_rfl) (by kernel_rfl) (fun _ _ _ h => h) (by rfl) hdr ?_ ?_ ?_
      rotate_left 2
      · (intro w hS; go_simp; try with_reducible rfl)
      · (go_simp; try with_reducible rfl)
      refine held_take (i := 12) (v := ?_) (a' := ?_) rfl (by kernel_rfl) (by kernel_rfl) (by kernel_rfl) (fun _ _ _ h => h) (by rfl) hdr ?_ ?_ ?_
      rotate_left 2
      · (intro w hS; go_simp; try with_reducible rfl)
      · (go_simp; try with_reducible rfl)
      refine held_take (i := 13) (v := ?_) (a' := ?_) rfl (by kernel_rfl) (by kernel_rfl) (by kernel_rfl) (fun _ _ _ h => h) (by rfl) hdr ?_ ?_ ?_
      rotate_left 2
      · (intro w hS; go_simp; try with_reducible rfl)
      · (go_simp; try with_reducible rfl)
      refine held_take (i := 14) (v := ?_) (a' := ?_) rfl (by kernel_rfl) (by kernel_rfl) (by kernel_rfl) (fun _ _ _ h => h) (by rfl) hdr ?_ ?_ ?_
      rotate_left 2
      · (intro w hS; go_simp; try with_reducible rfl)
      · (go_simp; try with_reducible rfl)
      refine held_take (i := 15) (v := ?_) (a' := ?_) rfl (by kernel_rfl) (by kernel_rfl) (by kernel_rfl) (fun _ _ _ h => h) (by rfl) hdr ?_ ?_ ?_
      rotate_left 2
      · (intro w hS; go_simp; try with_reducible rfl)
      · (go_simp; try with_reducible rfl)
      refine held_take (i := 16) (v := ?_) (a' := ?_) rfl (by kernel_rfl) (by kernel_rfl) (by kernel_rfl) (fun _ _ _ h => h) (by rfl) hdr ?_ ?_ ?_
      rotate_left 2
      · (intro w hS; have t := (hS.cell (p := ⟨b1, o1 + k * 35 + 1, none⟩) hb1).trans HX.out.2.1; go_simp; try with_reducible rfl)
      · (go_simp; try with_reducible rfl)
      refine held_take (i := 17) (v := ?_) (a' := ?_) rfl (by kernel_rfl) (by kernel_rfl) (by kernel_rfl) (fun _ _ _ h => h) (by rfl) hdr ?_ ?_ ?_
      rotate_left 2
      · (intro w hS; go_simp; try with_reducible rfl)
      · (go_simp; try with_reducible rfl)
      refine held_take (i := 18) (v := ?_) (a' := ?_) rfl (by kernel_rfl) (by kernel_rfl) (by kernel_rfl) (fun _ _ _ h => h) (by rfl) hdr ?_ ?_ ?_
      rotate_left 2
      · (intro w hS; go_simp; try with_reducible rfl)
      · (go_simp; try with_reducible rfl)
      refine held_take (i := 19) (v := ?_) (a' := ?_) rfl (by kernel_rfl) (by kernel_rfl) (by kernel_rfl) (fun _ _ _ h => h) (by rfl) hdr ?_ ?_ ?_
      rotate_left 2
      · (intro w hS; go_simp; try with_reducible rfl)
      · (go_simp; try with_reducible rfl)
      refine held_take (i := 20) (v := ?_) (a' := ?_) rfl (by kernel_rfl) (by kernel_rfl) (by kernel_rfl) (fun _ _ _ h => h) (by rfl) hdr ?_ ?_ ?_
      rotate_left 2
      · (intro w hS; go_simp; try with_reducible rfl)
      · (go_simp; try with_reducible rfl)
      refine held_take (i := 21) (v := ?_) (a' := ?_) rfl (by kernel_rfl) (by kernel_rfl) (by kernel_rfl) (fun _ _ _ h => h) (by rfl) hdr ?_ ?_ ?_
      rotate_left 2
      · (intro w hS; have t := (hS.cell (p := ⟨b2, o2 + k * 35 + 1, none⟩) hb2).trans HY.out.2.1; go_simp; try with_reducible rfl)
      · (go_simp; try with_reducible rfl)
      refine held_take (i := 22) (v := ?_) (a' := ?_) rfl (by kernel_rfl) (by kernel_rfl) (by kernel_rfl) (fun _ _ _ h => h) (by rfl) hdr ?_ ?_ ?_
      rotate_left 2
      · (intro w hS; go_simp; try with_reducible rfl)
      · (go_simp; try with_reducible rfl)
      refine held_take (i := 23) (v := ?_) (a' := ?_) rfl (by kernel_rfl) (by kernel_rfl) (by kernel_rfl) (fun _ _ _ h => h) (by rfl) hdr ?_ ?_ ?_
      rotate_left 2
      · (intro w hS; go_simp; try with_reducible rfl)
      · (go_simp; try with_reducible rfl)
      refine held_take (i := 24) (v := ?_) (a' := ?_) rfl (by kernel_rfl) (by kernel_rfl) (by kernel_rfl) (fun _ _ _ h => h) (by rfl) hdr ?_ ?_ ?_
      rotate_left 2
      · (intro w hS; go_simp; try with_reducible rfl)
      · (go_simp; try with_reducible rfl)
      refine held_take (i := 25) (v := ?_) (a' := ?_) rfl (by kernel_rfl) (by kernel_rfl) (by kernel_rfl) (fun _ _ _ h => h) (by rfl) hdr ?_ ?_ ?_
      rotate_left 2
      · (intro w hS; go_simp; try with_reducible rfl)
      · (go_simp; try with_reducible rfl)
      refine held_take (i := 26) (v := ?_) (a' := ?_) rfl (by kernel_rfl) (by kernel_rfl) (by kernel_rfl) (fun _ _ _ h => h) (by rfl) hdr ?_ ?_ ?_
      rotate_left 2
      · (intro w hS; go_simp; try with_reducible rfl)
      · (go_simp; try with_reducible rfl)
      refine held_take (i := 27) (v := ?_) (a' := ?_) rfl (by kernel_rfl) (by kernel_rfl) (by kernel_rfl) (fun _ _ _ h => h) (by rfl) hdr ?_ ?_ ?_
      rotate_left 2
      · (intro w hS; go_simp; try with_reducible rfl)
      · (go_simp; try with_reducible rfl)
      refine held_take (i := 28) (v := ?_) (a' := ?_) rfl (by kernel_rfl) (by kernel_rfl) (by kernel_rfl) (fun _ _ _ h => h) (by rfl) hdr ?_ ?_ ?_
      rotate_left 2
      · (intro w hS; go_simp; try with_reducible rfl)
      · (go_simp; try with_reducible rfl)
      refine held_take (i := 29) (v := ?_) (a' := ?_) rfl (by kernel_rfl) (by kernel_rfl) (by kernel_rfl) (fun _ _ _ h => h) (by rfl) hdr ?_ ?_ ?_
      rotate_left 2
      · (intro w hS; refine exec_load_at 27 (.tmp 44) ?_ b1 (o1 + k * 35 + 2) ?_ KX _ (HAT.out.below hS hb1) Try.underlying27 rfl HI.out; exact rfl; exact rfl)
      · (go_simp; try with_reducible rfl)
      refine held_take (i := 30) (v := ?_) (a' := ?_) rfl (by kernel_rfl) (by kernel_rfl) (by kernel_rfl) (fun _ _ _ h => h) (by rfl) hdr ?_ ?_ ?_
      rotate_left 2
      · (intro w hS; go_simp; try with_reducible rfl)
      · (go_simp; try with_reducible rfl)
      refine held_take (i := 31) (v := ?_) (a' := ?_) rfl (by kernel_rfl) (by kernel_rfl) (by kernel_rfl) (fun _ _ _ h => h) (by rfl) hdr ?_ ?_ ?_
      rotate_left 2
      · (intro w hS; go_simp; try with_reducible rfl)
      · (go_simp; try with_reducible rfl)
      refine held_take (i := 32) (v := ?_) (a' := ?_) rfl (by kernel_rfl) (by kernel_rfl) (by kernel_rfl) (fun _ _ _ h => h) (by rfl) hdr ?_ ?_ ?_
      rotate_left 2
      · (intro w hS; go_simp; try with_reducible rfl)
      · (go_simp; try with_reducible rfl)
      refine held_take (i := 33) (v := ?_) (a' := ?_) rfl (by kernel_rfl) (by kernel_rfl) (by kernel_rfl) (fun _ _ _ h => h) (by rfl) hdr ?_ ?_ ?_
      rotate_left 2
      · (intro w hS; go_simp; try with_reducible rfl)
      · (go_simp; try with_reducible rfl)
      refine held_take (i := 34) (v := ?_) (a' := ?_) rfl (by kernel_rfl) (by kernel_rfl) (by kernel_rfl) (fun _ _ _ h => h) (by rfl) hdr ?_ ?_ ?_
      rotate_left 2
      · (intro w hS; refine exec_load_at 27 (.tmp 49) ?_ b2 (o2 + k * 35 + 2) ?_ KX _ (HAT2.out.below hS hb2) Try.underlying27 rfl HI.out; exact rfl; exact rfl)
      · (go_simp; try with_reducible rfl)
      refine held_take (i := 35) (v := ?_) (a' := ?_) rfl (by kernel_rfl) (by kernel_rfl) (by kernel_rfl) (fun _ _ _ h => h) (by rfl) hdr ?_ ?_ ?_
      rotate_left 2
      · (intro w hS; go_simp; try with_reducible rfl)
      · (go_simp; try with_reducible rfl)
      refine held_take (i := 36) (v := ?_) (a' := ?_) rfl (by kernel_rfl) (by kernel_rfl) (by kernel_rfl) (fun _ _ _ h => h) (by rfl) hdr ?_ ?_ ?_
      rotate_left 2
      · (intro w hS; go_simp; try with_reducible rfl)
      · (go_simp; try with_reducible rfl)
      refine held_take (i := 37) (v := ?_) (a' := ?_) rfl (by kernel_rfl) (by kernel_rfl) (by kernel_rfl) (fun _ _ _ h => h) (by rfl) hdr ?_ ?_ ?_
      rotate_left 2
      · (intro w hS; go_simp; try with_reducible rfl)
      · (go_simp; try with_reducible rfl)
      refine held_take (i := 38) (v := ?_) (a' := ?_) rfl (by kernel_rfl) (by kernel_rfl) (by kernel_rfl) (fun _ _ _ h => h) (by rfl) hdr ?_ ?_ ?_
      rotate_left 2
      · (intro w hS; go_simp; try with_reducible rfl)
      · (go_simp; try with_reducible rfl)
      refine held_take (i := 39) (v := ?_) (a' := ?_) rfl (by kernel_rfl) (by kernel_rfl) (by kernel_rfl) (fun _ _ _ h => h) (by rfl) hdr ?_ ?_ ?_
      rotate_left 2
      · (intro w hS; go_simp; try with_reducible rfl)
      · (go_simp; try with_reducible rfl)
      refine held_take (i := 40) (v := ?_) (a' := ?_) rfl (by kernel_rfl) (by kernel_rfl) (by kernel_rfl) (fun _ _ _ h => h) (by rfl) hdr ?_ ?_ ?_
      rotate_left 2
      · (intro w hS; go_simp; try with_reducible rfl)
      · (go_simp; try with_reducible rfl)
      refine held_take (i := 41) (v := ?_) (a' := ?_) rfl (by kernel_rfl) (by kernel_rfl) (by kernel_rfl) (fun _ _ _ h => h) (by rfl) hdr ?_ ?_ ?_
      rotate_left 2
      · (intro w hS; go_simp; try with_reducible rfl)
      · (go_simp; try with_reducible rfl)
      refine held_take (i := 42) (v := ?_) (a' := ?_) rfl (by kernel_rfl) (by kernel_rfl) (by kernel_rfl) (fun _ _ _ h => h) (by rfl) hdr ?_ ?_ ?_
      rotate_left 2
      · (intro w hS; have t := (hS.cell (p := ⟨b1, o1 + k * 35 + 34, none⟩) hb1).trans HX.out.2.2; go_simp; try with_reducible rfl)
      · (go_simp; try with_reducible rfl)
      refine held_take (i := 43) (v := ?_) (a' := ?_) rfl (by kernel_rfl) (by kernel_rfl) (by kernel_rfl) (fun _ _ _ h => h) (by rfl) hdr ?_ ?_ ?_
      rotate_left 2
      · (intro w hS; go_simp; try with_reducible rfl)
      · (go_simp; try with_reducible rfl)
      refine held_take (i := 44) (v := ?_) (a' := ?_) rfl (by kernel_rfl) (by kernel_rfl) (by kernel_rfl) (fun _ _ _ h => h) (by rfl) hdr ?_ ?_ ?_
      rotate_left 2
      · (intro w hS; go_simp; try with_reducible rfl)
      · (go_simp; try with_reducible rfl)
      refine held_take (i := 45) (v := ?_) (a' := ?_) rfl (by kernel_rfl) (by kernel_rfl) (by kernel_rfl) (fun _ _ _ h => h) (by rfl) hdr ?_ ?_ ?_
      rotate_left 2
      · (intro w hS; go_simp; try with_reducible rfl)
      · (go_simp; try with_reducible rfl)
      refine held_take (i := 46) (v := ?_) (a' := ?_) rfl (by kernel_rfl) (by kernel_rfl) (by kernel_rfl) (fun _ _ _ h => h) (by rfl) hdr ?_ ?_ ?_
      rotate_left 2
      · (intro w hS; go_simp; try with_reducible rfl)
      · (go_simp; try with_reducible rfl)
      refine held_take (i := 47) (v := ?_) (a' := ?_) rfl (by kernel_rfl) (by kernel_rfl) (by kernel_rfl) (fun _ _ _ h => h) (by rfl) hdr ?_ ?_ ?_
      rotate_left 2
      · (intro w hS; go_simp; try with_reducible rfl)
      · (go_simp; try with_reducible rfl)
      refine held_take (i := 48) (v := ?_) (a' := ?_) rfl (by kernel_rfl) (by kernel_rfl) (by kernel_rfl) (fun _ _ _ h => h) (by rfl) hdr ?_ ?_ ?_
      rotate_left 2
      · (intro w hS; have t := (hS.cell (p := ⟨b2, o2 + k * 35 + 34, none⟩) hb2).trans HY.out.2.2; go_simp; try with_reducible rfl)
      · (go_simp; try with_reducible rfl)
      refine held_take (i := 49) (v := ?_) (a' := ?_) rfl (by kernel_rfl) (by kernel_rfl) (by kernel_rfl) (fun _ _ _ h => h) (by rfl) hdr ?_ ?_ ?_
      rotate_left 2
      · (intro w hS; go_simp; try with_reducible rfl)
      · (go_simp; try with_reducible rfl)
      refine held_take (i := 50) (v := ?_) (a' := ?_) rfl (by kernel_rfl) (by kernel_rfl) (by kernel_rfl) (fun _ _ _ h => h) (by rfl) hdr ?_ ?_ ?_
      rotate_left 2
      · (intro w hS; go_simp; try with_reducible rfl)
      · (go_simp; try with_reducible rfl)
      refine held_take (i := 51) (v := ?_) (a' := ?_) rfl (by kernel_rfl) (by kernel_rfl) (by kernel_rfl) (fun _ _ _ h => h) (by rfl) hdr ?_ ?_ ?_
      rotate_left 2
      · (intro w hS; go_simp; try with_reducible rfl)
      · (go_simp; try with_reducible rfl)
      refine wpAnyH_done (by kernel_rfl) ?_ _
      clear hne
      go_wp2_with fail
      go_roundw
      case rel => exact ⟨k + 1, by omega, by go_num, HB2⟩
      case measure => simp [intOf]; omega
    · have hltI : ¬ (k : Int) < (m : Int) := by omega
      go_wp2_with fail
      go_ret
      exact ⟨rfl, HBL.out⟩

set_option maxRecDepth 100000 in
set_option maxHeartbeats 8000000 in
theorem coms_same (tr : List UInt8) (A B : Option Addr) (m c d f : Nat) (ps : List (List UInt8)) (au nt : ByteArray) (w : World) (h32 : tr.length = 32) (ha : SlOf oidR w no A ps) (hb : SlOf oidR w no B ps) (hm : m = ps.length) (hl : m ≤ 1000000000) :
    Calls Try.prog 32 #[.agg (comK tr A m c f au nt), .agg (comK tr B m d f au nt)] w fun e w' => e = .returned (.bool true) ∧ Below w.heap.size w w' := by
  obtain ⟨K, hK⟩ : ∃ K, K = comK tr A m c f au nt := ⟨_, rfl⟩
  obtain ⟨K', hK'⟩ : ∃ K, K = comK tr B m d f au nt := ⟨_, rfl⟩
  obtain ⟨w1, hw1⟩ : ∃ w1, w1 = (w.alloc (.cells K 46)).alloc (.cells K' 46) := ⟨_, rfl⟩
  have hb1 : Below w.heap.size w w1 := by rw [hw1]; exact ((Below.refl _ _).alloc (Nat.le_refl _) _).alloc (by simp) _
  have HB := Lib.hid hb1
  have hx : Blk w1 w.heap.size 46 K := by rw [hw1]; exact (Blk.new w _ _).alloc _
  have hy : Blk w1 (w.heap.size + 1) 46 K' := by
    have := Blk.new (w.alloc (.cells K 46)) 46 K'
    rw [hw1]; simpa using this
  obtain ⟨KB, hKB⟩ : ∃ KB, KB = (bytesV tr).toArray := ⟨_, rfl⟩
  have HAI := Lib.hid (show At w1 ⟨w.heap.size, 0, none⟩ KB by rw [hKB]; exact com_id_at (by rw [← hK]; exact hx))
  have HAJ := Lib.hid (show At w1 ⟨w.heap.size + 1, 0, none⟩ KB by rw [hKB]; exact com_id_at (by rw [← hK']; exact hy))
  have HIB := Lib.hid (show (Try.prog.info? 27).map (·.size) = some KB.size by rw [hKB]; exact oid_size h32)
  have heq := fun w => eqlId_of h32 h32 w
  simp only [beq_self_eq_true] at heq
  rw [← hKB] at heq
  have hxl := hx.lt
  have hyl := hy.lt
  have HX := Lib.hid (show w1.cell? ⟨w.heap.size, 32, none⟩ = some (.slice A m c) ∧ w1.cell? ⟨w.heap.size, 33, none⟩ = some (.float .f64 f) ∧ w1.cell? ⟨w.heap.size, 34, none⟩ = some (.string au) ∧ w1.cell? ⟨w.heap.size, 35, none⟩ = some (.string nt) by
    rw [hx.cell 32, hx.cell 33, hx.cell 34, hx.cell 35, hK]; exact comK_get h32 _ _ _ _ _ _)
  have HY := Lib.hid (show w1.cell? ⟨w.heap.size + 1, 32, none⟩ = some (.slice B m d) ∧ w1.cell? ⟨w.heap.size + 1, 33, none⟩ = some (.float .f64 f) ∧ w1.cell? ⟨w.heap.size + 1, 34, none⟩ = some (.string au) ∧ w1.cell? ⟨w.heap.size + 1, 35, none⟩ = some (.string nt) by
    rw [hy.cell 32, hy.cell 33, hy.cell 34, hy.cell 35, hK']; exact comK_get h32 _ _ _ _ _ _)
  have HSA := Lib.hid (ha.below hb1)
  have HSB := Lib.hid (hb.below hb1)
  have HM := Lib.hid hm
  rw [← hK, ← hK']
  have HW := Lib.hid hw1
  have hef := ext_bits
  clear hx hy hK hK' hKB hw1 hb1 ha hb hm
  go_enter Try.func32, Try.ntmps32
  go_upto_region 1 with fail
  rw [← HW.out]
  clear HW
  generalize hg : w.heap.size = g at *
  have HG := Lib.hid hg
  clear hg
  have hdr : Below w1.heap.size w1 w1.drew := Same.below ⟨1, rfl⟩ _
  refine wp_region_held (S := fun w => Below w1.heap.size w1 w) (by kernel_rfl) ?_
  change wpAnyH _ _ _ _ _ _ _ _ (World.drew _)
  refine held_take (i := 0) (v := ?_) (a' := ?_) rfl (by kernel_rfl) (by kernel_rfl) (by kernel_rfl) (fun _ _ _ h => h) (by rfl) hdr ?_ ?_ ?_
  rotate_left 2
  · (intro w hS; go_simp; try with_reducible rfl)
  · (go_simp; try with_reducible rfl)
  refine held_take (i := 1) (v := ?_) (a' := ?_) rfl (by kernel_rfl) (by kernel_rfl) (by kernel_rfl) (fun _ _ _ h => h) (by rfl) hdr ?_ ?_ ?_
  rotate_left 2
  · (intro w hS; refine exec_load_at 27 (.tmp 5) ?_ g 0 ?_ KB _ (HAI.out.below hS hxl) Try.underlying27 rfl HIB.out; exact rfl; exact rfl)
  · (go_simp; try with_reducible rfl)
  refine held_take (i := 2) (v := ?_) (a' := ?_) rfl (by kernel_rfl) (by kernel_rfl) (by kernel_rfl) (fun _ _ _ h => h) (by rfl) hdr ?_ ?_ ?_
  rotate_left 2
  · (intro w hS; go_simp; try with_reducible rfl)
  · (go_simp; try with_reducible rfl)
  refine held_take (i := 3) (v := ?_) (a' := ?_) rfl (by kernel_rfl) (by kernel_rfl) (by kernel_rfl) (fun _ _ _ h => h) (by rfl) hdr ?_ ?_ ?_
  rotate_left 2
  · (intro w hS; refine exec_load_at 27 (.tmp 7) ?_ (g + 1) 0 ?_ KB _ (HAJ.out.below hS hyl) Try.underlying27 rfl HIB.out; exact rfl; exact rfl)
  · (go_simp; try with_reducible rfl)
  refine held_take (i := 4) (v := ?_) (a' := ?_) rfl (by kernel_rfl) (by kernel_rfl) (by kernel_rfl) (fun _ _ _ h => h) (by rfl) hdr ?_ ?_ ?_
  rotate_left 2
  · (intro w hS; go_simp; try with_reducible rfl)
  · (go_simp; try with_reducible rfl)
  refine held_take (i := 5) (v := ?_) (a' := ?_) rfl (by kernel_rfl) (by kernel_rfl) (by kernel_rfl) (fun _ _ _ h => h) (by rfl) hdr ?_ ?_ ?_
  rotate_left 2
  · (intro w hS; go_simp; try with_reducible rfl)
  · (go_simp; try with_reducible rfl)
  refine held_take (i := 6) (v := ?_) (a' := ?_) rfl (by kernel_rfl) (by kernel_rfl) (by kernel_rfl) (fun _ _ _ h => h) (by rfl) hdr ?_ ?_ ?_
  rotate_left 2
  · (intro w hS; go_simp; try with_reducible rfl)
  · (go_simp; try with_reducible rfl)
  refine held_take (i := 7) (v := ?_) (a' := ?_) rfl (by kernel_rfl) (by kernel_rfl) (by kernel_rfl) (fun _ _ _ h => h) (by rfl) hdr ?_ ?_ ?_
  rotate_left 2
  · (intro w hS; have t := (hS.cell (p := ⟨g, 32, none⟩) hxl).trans HX.out.1; go_simp; try with_reducible rfl)
  · (go_simp; try with_reducible rfl)
  refine held_take (i := 8) (v := ?_) (a' := ?_) rfl (by kernel_rfl) (by kernel_rfl) (by kernel_rfl) (fun _ _ _ h => h) (by rfl) hdr ?_ ?_ ?_
  rotate_left 2
  · (intro w hS; go_simp; try with_reducible rfl)
  · (go_simp; try with_reducible rfl)
  refine held_take (i := 9) (v := ?_) (a' := ?_) rfl (by kernel_rfl) (by kernel_rfl) (by kernel_rfl) (fun _ _ _ h => h) (by rfl) hdr ?_ ?_ ?_
  rotate_left 2
  · (intro w hS; have t := (hS.cell (p := ⟨g + 1, 32, none⟩) hyl).trans HY.out.1; go_simp; try with_reducible rfl)
  · (go_simp; try with_reducible rfl)
  refine held_ready (rs := [10]) (by kernel_rfl) (by simp) ?_
  refine AllHeld.cons rfl (fun KR hKR => ?_) ?_
  · go_simp
    refine (ids_same A B m c m d ps _ (HSA.out.below hdr) (HSB.out.below hdr) HM.out HM.out hl).mono ?_
    rintro e w3 ⟨rfl, hb3⟩
    have hb2 := hdr.trans (hb3.mono hdr.size)
    refine hKR _ _ hb2 ?_
    clear hKR KR
    refine held_take (i := 11) (v := ?_) (a' := ?_) rfl (by kernel_rfl) (by kernel_rfl) (by kernel_rfl) (fun _ _ _ h => h) (by rfl) hb2 ?_ ?_ ?_
    rotate_left 2
    · (intro w hS; go_simp; try with_reducible rfl)
    · (go_simp; try with_reducible rfl)
    refine held_take (i := 12) (v := ?_) (a' := ?_) rfl (by kernel_rfl) (by kernel_rfl) (by kernel_rfl) (fun _ _ _ h => h) (by rfl) hb2 ?_ ?_ ?_
    rotate_left 2
    · (intro w hS; go_simp; try with_reducible rfl)
    · (go_simp; try with_reducible rfl)
    refine held_take (i := 13) (v := ?_) (a' := ?_) rfl (by kernel_rfl) (by kernel_rfl) (by kernel_rfl) (fun _ _ _ h => h) (by rfl) hb2 ?_ ?_ ?_
    rotate_left 2
    · (intro w hS; go_simp; try with_reducible rfl)
    · (go_simp; try with_reducible rfl)
    refine held_take (i := 14) (v := ?_) (a' := ?_) rfl (by kernel_rfl) (by kernel_rfl) (by kernel_rfl) (fun _ _ _ h => h) (by rfl) hb2 ?_ ?_ ?_
    rotate_left 2
    · (intro w hS; have t := (hS.cell (p := ⟨g, 33, none⟩) hxl).trans HX.out.2.1; go_simp; try with_reducible rfl)
    · (go_simp; try with_reducible rfl)
    refine held_take (i := 15) (v := ?_) (a' := ?_) rfl (by kernel_rfl) (by kernel_rfl) (by kernel_rfl) (fun _ _ _ h => h) (by rfl) hb2 ?_ ?_ ?_
    rotate_left 2
    · (intro w hS; go_simp; try with_reducible rfl)
    · (go_simp; try with_reducible rfl)
    refine held_take (i := 16) (v := ?_) (a' := ?_) rfl (by kernel_rfl) (by kernel_rfl) (by kernel_rfl) (fun _ _ _ h => h) (by rfl) hb2 ?_ ?_ ?_
    rotate_left 2
    · (intro w hS; go_simp; try with_reducible rfl)
    · (go_simp; try with_reducible rfl)
    refine held_take (i := 17) (v := ?_) (a' := ?_) rfl (by kernel_rfl) (by kernel_rfl) (by kernel_rfl) (fun _ _ _ h => h) (by rfl) hb2 ?_ ?_ ?_
    rotate_left 2
    · (intro w hS; have t := (hS.cell (p := ⟨g + 1, 33, none⟩) hyl).trans HY.out.2.1; go_simp; try with_reducible rfl)
    · (go_simp; try with_reducible rfl)
    refine held_take (i := 18) (v := ?_) (a' := ?_) rfl (by kernel_rfl) (by kernel_rfl) (by kernel_rfl) (fun _ _ _ h => h) (by rfl) hb2 ?_ ?_ ?_
    rotate_left 2
    · (intro w hS; go_simp; try with_reducible rfl)
    · (go_simp; try with_reducible rfl)
    refine held_take (i := 19) (v := ?_) (a' := ?_) rfl (by kernel_rfl) (by kernel_rfl) (by kernel_rfl) (fun _ _ _ h => h) (by rfl) hb2 ?_ ?_ ?_
    rotate_left 2
    · (intro w hS; go_simp; try with_reducible rfl)
    · (go_simp; try with_reducible rfl)
    refine held_take (i := 20) (v := ?_) (a' := ?_) rfl (by kernel_rfl) (by kernel_rfl) (by kernel_rfl) (fun _ _ _ h => h) (by rfl) hb2 ?_ ?_ ?_
    rotate_left 2
    · (intro w hS; go_simp; try with_reducible rfl)
    · (go_simp; try with_reducible rfl)
    refine held_take (i := 21) (v := ?_) (a' := ?_) rfl (by kernel_rfl) (by kernel_rfl) (by kernel_rfl) (fun _ _ _ h => h) (by rfl) hb2 ?_ ?_ ?_
    rotate_left 2
    · (intro w hS; go_simp; try with_reducible rfl)
    · (go_simp; try with_reducible rfl)
    refine held_take (i := 22) (v := ?_) (a' := ?_) rfl (by kernel_rfl) (by kernel_rfl) (by kernel_rfl) (fun _ _ _ h => h) (by rfl) hb2 ?_ ?_ ?_
    rotate_left 2
    · (intro w hS; go_simp; try with_reducible rfl)
    · (go_simp; try with_reducible rfl)
    refine held_take (i := 23) (v := ?_) (a' := ?_) rfl (by kernel_rfl) (by kernel_rfl) (by kernel_rfl) (fun _ _ _ h => h) (by rfl) hb2 ?_ ?_ ?_
    rotate_left 2
    · (intro w hS; have t := (hS.cell (p := ⟨g, 34, none⟩) hxl).trans HX.out.2.2.1; go_simp; try with_reducible rfl)
    · (go_simp; try with_reducible rfl)
    refine held_take (i := 24) (v := ?_) (a' := ?_) rfl (by kernel_rfl) (by kernel_rfl) (by kernel_rfl) (fun _ _ _ h => h) (by rfl) hb2 ?_ ?_ ?_
    rotate_left 2
    · (intro w hS; go_simp; try with_reducible rfl)
    · (go_simp; try with_reducible rfl)
    refine held_take (i := 25) (v := ?_) (a' := ?_) rfl (by kernel_rfl) (by kernel_rfl) (by kernel_rfl) (fun _ _ _ h => h) (by rfl) hb2 ?_ ?_ ?_
    rotate_left 2
    · (intro w hS; have t := (hS.cell (p := ⟨g + 1, 34, none⟩) hyl).trans HY.out.2.2.1; go_simp; try with_reducible rfl)
    · (go_simp; try with_reducible rfl)
    refine held_take (i := 26) (v := ?_) (a' := ?_) rfl (by kernel_rfl) (by kernel_rfl) (by kernel_rfl) (fun _ _ _ h => h) (by rfl) hb2 ?_ ?_ ?_
    rotate_left 2
    · (intro w hS; go_simp; try with_reducible rfl)
    · (go_simp; try with_reducible rfl)
    refine held_take (i := 27) (v := ?_) (a' := ?_) rfl (by kernel_rfl) (by kernel_rfl) (by kernel_rfl) (fun _ _ _ h => h) (by rfl) hb2 ?_ ?_ ?_
    rotate_left 2
    · (intro w hS; go_simp; try with_reducible rfl)
    · (go_simp; try with_reducible rfl)
    refine held_take (i := 28) (v := ?_) (a' := ?_) rfl (by kernel_rfl) (by kernel_rfl) (by kernel_rfl) (fun _ _ _ h => h) (by rfl) hb2 ?_ ?_ ?_
    rotate_left 2
    · (intro w hS; go_simp; try with_reducible rfl)
    · (go_simp; try with_reducible rfl)
    refine held_take (i := 29) (v := ?_) (a' := ?_) rfl (by kernel_rfl) (by kernel_rfl) (by kernel_rfl) (fun _ _ _ h => h) (by rfl) hb2 ?_ ?_ ?_
    rotate_left 2
    · (intro w hS; go_simp; try with_reducible rfl)
    · (go_simp; try with_reducible rfl)
    refine held_take (i := 30) (v := ?_) (a' := ?_) rfl (by kernel_rfl) (by kernel_rfl) (by kernel_rfl) (fun _ _ _ h => h) (by rfl) hb2 ?_ ?_ ?_
    rotate_left 2
    · (intro w hS; have t := (hS.cell (p := ⟨g, 35, none⟩) hxl).trans HX.out.2.2.2; go_simp; try with_reducible rfl)
    · (go_simp; try with_reducible rfl)
    refine held_take (i := 31) (v := ?_) (a' := ?_) rfl (by kernel_rfl) (by kernel_rfl) (by kernel_rfl) (fun _ _ _ h => h) (by rfl) hb2 ?_ ?_ ?_
    rotate_left 2
    · (intro w hS; go_simp; try with_reducible rfl)
    · (go_simp; try with_reducible rfl)
    refine held_take (i := 32) (v := ?_) (a' := ?_) rfl (by kernel_rfl) (by kernel_rfl) (by kernel_rfl) (fun _ _ _ h => h) (by rfl) hb2 ?_ ?_ ?_
    rotate_left 2
    · (intro w hS; have t := (hS.cell (p := ⟨g + 1, 35, none⟩) hyl).trans HY.out.2.2.2; go_simp; try with_reducible rfl)
    · (go_simp; try with_reducible rfl)
    refine held_take (i := 33) (v := ?_) (a' := ?_) rfl (by kernel_rfl) (by kernel_rfl) (by kernel_rfl) (fun _ _ _ h => h) (by rfl) hb2 ?_ ?_ ?_
    rotate_left 2
    · (intro w hS; go_simp; try with_reducible rfl)
    · (go_simp; try with_reducible rfl)
    refine held_take (i := 34) (v := ?_) (a' := ?_) rfl (by kernel_rfl) (by kernel_rfl) (by kernel_rfl) (fun _ _ _ h => h) (by rfl) hb2 ?_ ?_ ?_
    rotate_left 2
    · (intro w hS; go_simp; try with_reducible rfl)
    · (go_simp; try with_reducible rfl)
    refine held_take (i := 35) (v := ?_) (a' := ?_) rfl (by kernel_rfl) (by kernel_rfl) (by kernel_rfl) (fun _ _ _ h => h) (by rfl) hb2 ?_ ?_ ?_
    rotate_left 2
    · (intro w hS; go_simp; try with_reducible rfl)
    · (go_simp; try with_reducible rfl)
    refine wpAnyH_done (by kernel_rfl) ?_ _
    clear heq
    go_wp2_with fail
    go_ret
    rw [HG.out]
    have hg1 : g ≤ w1.heap.size := by omega
    exact ⟨rfl, HB.out.trans (hb2.mono hg1)⟩
  exact AllHeld.nil
end Go.Proofs.Ytpafhajpnepecaa

/- Words of 32 bits as the walk spells them; bits.RotateLeft32. -/
set_option linter.unusedVariables false
namespace Go.Proofs.Ytpafhajpnepecaa
open Go.RowKit

/-- a word as an integer -/
def uI (x : UInt32) : Int := (x.toNat : Int)
theorem uI_def (x : UInt32) : uI x = (x.toNat : Int) := rfl
theorem uI_nonneg (x : UInt32) : 0 ≤ uI x := by unfold uI; omega
theorem uI_lt (x : UInt32) : uI x ≤ 4294967295 := by unfold uI; have := x.toNat_lt; omega
theorem u_add (x y : UInt32) : (uI x + uI y) % 4294967296 = uI (x + y) := by
  unfold uI; rw [UInt32.toNat_add]; omega
theorem bits_of (op : BinOp) (k : IntKind) (a b r : Nat) (h : bits op k (a : Int) (b : Int) = (r : Int)) : bits op k (a : Int) (b : Int) = (r : Int) := h
theorem bv_of (x : UInt32) : BitVec.ofInt 32 (uI x) = x.toBitVec := by
  unfold uI
  apply BitVec.eq_of_toNat_eq
  rw [BitVec.toNat_ofInt]
  have := x.toNat_lt
  rw [UInt32.toNat_toBitVec]
  omega
theorem wrap_bv (r : BitVec 32) : IntKind.u32.wrap (r.toNat : Int) = (r.toNat : Int) := by
  have := r.isLt
  simp only [IntKind.wrap, IntKind.bits, IntKind.signed]
  simp
  omega
theorem u_xor (x y : UInt32) : bits .xor .u32 (uI x) (uI y) = uI (x ^^^ y) := by
  unfold bits
  show IntKind.u32.wrap ((BitVec.ofInt 32 (uI x) ^^^ BitVec.ofInt 32 (uI y)).toNat : Int) = _
  rw [bv_of, bv_of, wrap_bv]; rfl
theorem u_and (x y : UInt32) : bits .and .u32 (uI x) (uI y) = uI (x &&& y) := by
  unfold bits
  show IntKind.u32.wrap ((BitVec.ofInt 32 (uI x) &&& BitVec.ofInt 32 (uI y)).toNat : Int) = _
  rw [bv_of, bv_of, wrap_bv]; rfl
theorem u_or (x y : UInt32) : bits .or .u32 (uI x) (uI y) = uI (x ||| y) := by
  unfold bits
  show IntKind.u32.wrap ((BitVec.ofInt 32 (uI x) ||| BitVec.ofInt 32 (uI y)).toNat : Int) = _
  rw [bv_of, bv_of, wrap_bv]; rfl
theorem u_not (x : UInt32) : bits .xor .u32 (if IntKind.u32.signed = true then -1 else IntKind.u32.max) (uI x) = uI (~~~x) := by
  have h : (if IntKind.u32.signed = true then -1 else IntKind.u32.max) = uI 4294967295 := by decide
  rw [h, u_xor]
  congr 1
theorem u_shl (x : UInt32) (k : Nat) (hk : k < 32) (p : Int) (hp : p = 2 ^ k) : (uI x * p) % 4294967296 = uI (x <<< (UInt32.ofNat k)) := by
  subst hp
  unfold uI
  rw [UInt32.toNat_shiftLeft]
  have h1 : (UInt32.ofNat k).toNat = k := by rw [UInt32.toNat_ofNat']; omega
  rw [h1, Nat.mod_eq_of_lt hk, Nat.shiftLeft_eq, Int.natCast_emod, Int.natCast_mul, Int.natCast_pow]
  rfl
theorem u_shr (x : UInt32) (k : Nat) (hk : k < 32) (p : Int) (hp : p = 2 ^ k) : uI x / p = uI (x >>> (UInt32.ofNat k)) := by
  subst hp
  unfold uI
  rw [UInt32.toNat_shiftRight]
  have h1 : (UInt32.ofNat k).toNat = k := by rw [UInt32.toNat_ofNat']; omega
  rw [h1, Nat.mod_eq_of_lt hk, Nat.shiftRight_eq_div_pow, Int.natCast_ediv, Int.natCast_pow]
  rfl
theorem u_byte (b : UInt8) : (b.toNat : Int) = uI b.toUInt32 := by unfold uI; rw [UInt8.toNat_toUInt32]
def rotr (x : UInt32) (k : Nat) : UInt32 := (x <<< UInt32.ofNat (32 - k)) ||| (x >>> UInt32.ofNat k)

set_option maxRecDepth 100000 in
theorem rot_2 (x : UInt32) (w : World) : Calls Try.prog 97 #[.int .u32 (uI x), .int .i64 (-2)] w fun e w' => e = .returned (.int .u32 (uI (rotr x 2))) ∧ w = w' := by
  have hx := uI_lt x
  have hx0 := uI_nonneg x
  have hk : bits BinOp.and IntKind.u64 (IntKind.u64.wrap (-2)) 31 = 30 := by decide
  have h1 := u_shl x 30 (by omega) 1073741824 rfl
  have h2 := u_shr x 2 (by omega) 4 rfl
  have h3 := u_or (x <<< (UInt32.ofNat 30)) (x >>> (UInt32.ofNat 2))
  have H := Lib.hid (show bits .or .u32 (uI x * 1073741824 % 4294967296) (uI x / 4) = uI (rotr x 2) from by rw [h1, h2, h3]; rfl)
  clear h1 h2 h3
  go_enter Try.func97, Try.ntmps97
  go_wp2_with fail
  go_ret
  exact ⟨by rw [← H.out]; rfl, rfl⟩
set_option maxRecDepth 100000 in
theorem rot_6 (x : UInt32) (w : World) : Calls Try.prog 97 #[.int .u32 (uI x), .int .i64 (-6)] w fun e w' => e = .returned (.int .u32 (uI (rotr x 6))) ∧ w = w' := by
  have hx := uI_lt x
  have hx0 := uI_nonneg x
  have hk : bits BinOp.and IntKind.u64 (IntKind.u64.wrap (-6)) 31 = 26 := by decide
  have h1 := u_shl x 26 (by omega) 67108864 rfl
  have h2 := u_shr x 6 (by omega) 64 rfl
  have h3 := u_or (x <<< (UInt32.ofNat 26)) (x >>> (UInt32.ofNat 6))
  have H := Lib.hid (show bits .or .u32 (uI x * 67108864 % 4294967296) (uI x / 64) = uI (rotr x 6) from by rw [h1, h2, h3]; rfl)
  clear h1 h2 h3
  go_enter Try.func97, Try.ntmps97
  go_wp2_with fail
  go_ret
  exact ⟨by rw [← H.out]; rfl, rfl⟩
set_option maxRecDepth 100000 in
theorem rot_7 (x : UInt32) (w : World) : Calls Try.prog 97 #[.int .u32 (uI x), .int .i64 (-7)] w fun e w' => e = .returned (.int .u32 (uI (rotr x 7))) ∧ w = w' := by
  have hx := uI_lt x
  have hx0 := uI_nonneg x
  have hk : bits BinOp.and IntKind.u64 (IntKind.u64.wrap (-7)) 31 = 25 := by decide
  have h1 := u_shl x 25 (by omega) 33554432 rfl
  have h2 := u_shr x 7 (by omega) 128 rfl
  have h3 := u_or (x <<< (UInt32.ofNat 25)) (x >>> (UInt32.ofNat 7))
  have H := Lib.hid (show bits .or .u32 (uI x * 33554432 % 4294967296) (uI x / 128) = uI (rotr x 7) from by rw [h1, h2, h3]; rfl)
  clear h1 h2 h3
  go_enter Try.func97, Try.ntmps97
  go_wp2_with fail
  go_ret
  exact ⟨by rw [← H.out]; rfl, rfl⟩
set_option maxRecDepth 100000 in
theorem rot_11 (x : UInt32) (w : World) : Calls Try.prog 97 #[.int .u32 (uI x), .int .i64 (-11)] w fun e w' => e = .returned (.int .u32 (uI (rotr x 11))) ∧ w = w' := by
  have hx := uI_lt x
  have hx0 := uI_nonneg x
  have hk : bits BinOp.and IntKind.u64 (IntKind.u64.wrap (-11)) 31 = 21 := by decide
  have h1 := u_shl x 21 (by omega) 2097152 rfl
  have h2 := u_shr x 11 (by omega) 2048 rfl
  have h3 := u_or (x <<< (UInt32.ofNat 21)) (x >>> (UInt32.ofNat 11))
  have H := Lib.hid (show bits .or .u32 (uI x * 2097152 % 4294967296) (uI x / 2048) = uI (rotr x 11) from by rw [h1, h2, h3]; rfl)
  clear h1 h2 h3
  go_enter Try.func97, Try.ntmps97
  go_wp2_with fail
  go_ret
  exact ⟨by rw [← H.out]; rfl, rfl⟩
set_option maxRecDepth 100000 in
theorem rot_13 (x : UInt32) (w : World) : Calls Try.prog 97 #[.int .u32 (uI x), .int .i64 (-13)] w fun e w' => e = .returned (.int .u32 (uI (rotr x 13))) ∧ w = w' := by
  have hx := uI_lt x
  have hx0 := uI_nonneg x
  have hk : bits BinOp.and IntKind.u64 (IntKind.u64.wrap (-13)) 31 = 19 := by decide
  have h1 := u_shl x 19 (by omega) 524288 rfl
  have h2 := u_shr x 13 (by omega) 8192 rfl
  have h3 := u_or (x <<< (UInt32.ofNat 19)) (x >>> (UInt32.ofNat 13))
  have H := Lib.hid (show bits .or .u32 (uI x * 524288 % 4294967296) (uI x / 8192) = uI (rotr x 13) from by rw [h1, h2, h3]; rfl)
  clear h1 h2 h3
  go_enter Try.func97, Try.ntmps97
  go_wp2_with fail
  go_ret
  exact ⟨by rw [← H.out]; rfl, rfl⟩
set_option maxRecDepth 100000 in
theorem rot_17 (x : UInt32) (w : World) : Calls Try.prog 97 #[.int .u32 (uI x), .int .i64 (-17)] w fun e w' => e = .returned (.int .u32 (uI (rotr x 17))) ∧ w = w' := by
  have hx := uI_lt x
  have hx0 := uI_nonneg x
  have hk : bits BinOp.and IntKind.u64 (IntKind.u64.wrap (-17)) 31 = 15 := by decide
  have h1 := u_shl x 15 (by omega) 32768 rfl
  have h2 := u_shr x 17 (by omega) 131072 rfl
  have h3 := u_or (x <<< (UInt32.ofNat 15)) (x >>> (UInt32.ofNat 17))
  have H := Lib.hid (show bits .or .u32 (uI x * 32768 % 4294967296) (uI x / 131072) = uI (rotr x 17) from by rw [h1, h2, h3]; rfl)
  clear h1 h2 h3
  go_enter Try.func97, Try.ntmps97
  go_wp2_with fail
  go_ret
  exact ⟨by rw [← H.out]; rfl, rfl⟩
set_option maxRecDepth 100000 in
theorem rot_18 (x : UInt32) (w : World) : Calls Try.prog 97 #[.int .u32 (uI x), .int .i64 (-18)] w fun e w' => e = .returned (.int .u32 (uI (rotr x 18))) ∧ w = w' := by
  have hx := uI_lt x
  have hx0 := uI_nonneg x
  have hk : bits BinOp.and IntKind.u64 (IntKind.u64.wrap (-18)) 31 = 14 := by decide
  have h1 := u_shl x 14 (by omega) 16384 rfl
  have h2 := u_shr x 18 (by omega) 262144 rfl
  have h3 := u_or (x <<< (UInt32.ofNat 14)) (x >>> (UInt32.ofNat 18))
  have H := Lib.hid (show bits .or .u32 (uI x * 16384 % 4294967296) (uI x / 262144) = uI (rotr x 18) from by rw [h1, h2, h3]; rfl)
  clear h1 h2 h3
  go_enter Try.func97, Try.ntmps97
  go_wp2_with fail
  go_ret
  exact ⟨by rw [← H.out]; rfl, rfl⟩
set_option maxRecDepth 100000 in
theorem rot_19 (x : UInt32) (w : World) : Calls Try.prog 97 #[.int .u32 (uI x), .int .i64 (-19)] w fun e w' => e = .returned (.int .u32 (uI (rotr x 19))) ∧ w = w' := by
  have hx := uI_lt x
  have hx0 := uI_nonneg x
  have hk : bits BinOp.and IntKind.u64 (IntKind.u64.wrap (-19)) 31 = 13 := by decide
  have h1 := u_shl x 13 (by omega) 8192 rfl
  have h2 := u_shr x 19 (by omega) 524288 rfl
  have h3 := u_or (x <<< (UInt32.ofNat 13)) (x >>> (UInt32.ofNat 19))
  have H := Lib.hid (show bits .or .u32 (uI x * 8192 % 4294967296) (uI x / 524288) = uI (rotr x 19) from by rw [h1, h2, h3]; rfl)
  clear h1 h2 h3
  go_enter Try.func97, Try.ntmps97
  go_wp2_with fail
  go_ret
  exact ⟨by rw [← H.out]; rfl, rfl⟩
set_option maxRecDepth 100000 in
theorem rot_22 (x : UInt32) (w : World) : Calls Try.prog 97 #[.int .u32 (uI x), .int .i64 (-22)] w fun e w' => e = .returned (.int .u32 (uI (rotr x 22))) ∧ w = w' := by
  have hx := uI_lt x
  have hx0 := uI_nonneg x
  have hk : bits BinOp.and IntKind.u64 (IntKind.u64.wrap (-22)) 31 = 10 := by decide
  have h1 := u_shl x 10 (by omega) 1024 rfl
  have h2 := u_shr x 22 (by omega) 4194304 rfl
  have h3 := u_or (x <<< (UInt32.ofNat 10)) (x >>> (UInt32.ofNat 22))
  have H := Lib.hid (show bits .or .u32 (uI x * 1024 % 4294967296) (uI x / 4194304) = uI (rotr x 22) from by rw [h1, h2, h3]; rfl)
  clear h1 h2 h3
  go_enter Try.func97, Try.ntmps97
  go_wp2_with fail
  go_ret
  exact ⟨by rw [← H.out]; rfl, rfl⟩
set_option maxRecDepth 100000 in
theorem rot_25 (x : UInt32) (w : World) : Calls Try.prog 97 #[.int .u32 (uI x), .int .i64 (-25)] w fun e w' => e = .returned (.int .u32 (uI (rotr x 25))) ∧ w = w' := by
  have hx := uI_lt x
  have hx0 := uI_nonneg x
  have hk : bits BinOp.and IntKind.u64 (IntKind.u64.wrap (-25)) 31 = 7 := by decide
  have h1 := u_shl x 7 (by omega) 128 rfl
  have h2 := u_shr x 25 (by omega) 33554432 rfl
  have h3 := u_or (x <<< (UInt32.ofNat 7)) (x >>> (UInt32.ofNat 25))
  have H := Lib.hid (show bits .or .u32 (uI x * 128 % 4294967296) (uI x / 33554432) = uI (rotr x 25) from by rw [h1, h2, h3]; rfl)
  clear h1 h2 h3
  go_enter Try.func97, Try.ntmps97
  go_wp2_with fail
  go_ret
  exact ⟨by rw [← H.out]; rfl, rfl⟩
/-- all turns that are made -/
theorem rot_all (x : UInt32) (k : Int) (hk : k ∈ ([-2, -6, -7, -11, -13, -17, -18, -19, -22, -25] : List Int)) (w : World) : Calls Try.prog 97 #[.int .u32 (uI x), .int .i64 k] w fun e w' => e = .returned (.int .u32 (uI (rotr x k.natAbs))) ∧ w = w' := by
  simp only [List.mem_cons, List.not_mem_nil, or_false] at hk
  rcases hk with rfl | rfl | rfl | rfl | rfl | rfl | rfl | rfl | rfl | rfl
  · exact rot_2 x w
  · exact rot_6 x w
  · exact rot_7 x w
  · exact rot_11 x w
  · exact rot_13 x w
  · exact rot_17 x w
  · exact rot_18 x w
  · exact rot_19 x w
  · exact rot_22 x w
  · exact rot_25 x w
end Go.Proofs.Ytpafhajpnepecaa

/- SHA-256 in plain Lean: words, blocks, sums. No program in sight but the words. -/
set_option linter.unusedVariables false
namespace Go.Proofs.Ytpafhajpnepecaa
open Go.RowKit

def shaK : List UInt32 := [
  1116352408, 1899447441, 3049323471, 3921009573, 961987163, 1508970993, 2453635748, 2870763221,
  3624381080, 310598401, 607225278, 1426881987, 1925078388, 2162078206, 2614888103, 3248222580,
  3835390401, 4022224774, 264347078, 604807628, 770255983, 1249150122, 1555081692, 1996064986,
  2554220882, 2821834349, 2952996808, 3210313671, 3336571891, 3584528711, 113926993, 338241895,
  666307205, 773529912, 1294757372, 1396182291, 1695183700, 1986661051, 2177026350, 2456956037,
  2730485921, 2820302411, 3259730800, 3345764771, 3516065817, 3600352804, 4094571909, 275423344,
  430227734, 506948616, 659060556, 883997877, 958139571, 1322822218, 1537002063, 1747873779,
  1955562222, 2024104815, 2227730452, 2361852424, 2428436474, 2756734187, 3204031479, 3329325298]
def shaH : List UInt32 := [1779033703, 3144134277, 1013904242, 2773480762, 1359893119, 2600822924, 528734635, 1541459225]
def sg0 (x : UInt32) : UInt32 := rotr x 7 ^^^ rotr x 18 ^^^ (x >>> UInt32.ofNat 3)
def sg1 (x : UInt32) : UInt32 := rotr x 17 ^^^ rotr x 19 ^^^ (x >>> UInt32.ofNat 10)
def bg0 (a : UInt32) : UInt32 := rotr a 2 ^^^ rotr a 13 ^^^ rotr a 22
def bg1 (e : UInt32) : UInt32 := rotr e 6 ^^^ rotr e 11 ^^^ rotr e 25
def chU (e f g : UInt32) : UInt32 := (e &&& f) ^^^ (~~~e &&& g)
def majU (a b c : UInt32) : UInt32 := (a &&& b) ^^^ (a &&& c) ^^^ (b &&& c)
def mixB (x : UInt32) (b : UInt8) : UInt32 := (x <<< UInt32.ofNat 8) ||| b.toUInt32
/-- word i of some bytes -/
def wordB (b : List UInt8) (i : Nat) : UInt32 := ((b.drop (4 * i)).take 4).foldl mixB 0
def firstW (b : List UInt8) : List UInt32 := (List.range 16).map (wordB b)
def nextW (l : List UInt32) : UInt32 := l.getD (l.length - 16) 0 + l.getD (l.length - 7) 0 + sg0 (l.getD (l.length - 15) 0) + sg1 (l.getD (l.length - 2) 0)
def schedW (b : List UInt8) : Nat → List UInt32
  | 0 => firstW b
  | n + 1 => schedW b n ++ [nextW (schedW b n)]
theorem schedW_length (b : List UInt8) : ∀ n, (schedW b n).length = 16 + n
  | 0 => by simp [schedW, firstW]
  | n + 1 => by rw [schedW, List.length_append, schedW_length b n]; rfl
def rndT (k w : UInt32) (l : List UInt32) : UInt32 := l.getD 7 0 + bg1 (l.getD 4 0) + chU (l.getD 4 0) (l.getD 5 0) (l.getD 6 0) + k + w
def rndU (l : List UInt32) : UInt32 := bg0 (l.getD 0 0) + majU (l.getD 0 0) (l.getD 1 0) (l.getD 2 0)
def rnd (k w : UInt32) (l : List UInt32) : List UInt32 := [rndT k w l + rndU l, l.getD 0 0, l.getD 1 0, l.getD 2 0, l.getD 3 0 + rndT k w l, l.getD 4 0, l.getD 5 0, l.getD 6 0]
/-- n rounds -/
def rndsW (W : List UInt32) (v : List UInt32) : Nat → List UInt32
  | 0 => v
  | n + 1 => rnd (shaK.getD n 0) (W.getD n 0) (rndsW W v n)
def addL (a b : List UInt32) : List UInt32 := List.zipWith (· + ·) a b
/-- a block taken in -/
def blockS (s : List UInt32) (b : List UInt8) : List UInt32 := addL s (rndsW (schedW b 48) s 64)
theorem rnd_length (k w : UInt32) (l : List UInt32) : (rnd k w l).length = 8 := rfl
theorem rndsW_length (W v : List UInt32) (h : v.length = 8) : ∀ n, (rndsW W v n).length = 8
  | 0 => h
  | n + 1 => rnd_length _ _ _
theorem blockS_length {s : List UInt32} (h : s.length = 8) (b : List UInt8) : (blockS s b).length = 8 := by
  unfold blockS addL
  rw [List.length_zipWith, h, rndsW_length _ _ h]; rfl
/-- all whole blocks of some bytes -/
def blocksS (s : List UInt32) (b : List UInt8) : List UInt32 :=
  if h : 64 ≤ b.length then blocksS (blockS s (b.take 64)) (b.drop 64) else s
termination_by b.length
decreasing_by rw [List.length_drop]; omega
/-- the bytes behind a text: 128, noughts, its length in bits -/
def spadZ (n : Nat) : Nat := (119 - n % 64) % 64
def lenB (n : Nat) : List UInt8 := [56, 48, 40, 32, 24, 16, 8, 0].map fun i => UInt8.ofNat (8 * n / 2 ^ i)
def padded (l : List UInt8) : List UInt8 := l ++ 128 :: (List.replicate (spadZ l.length) 0 ++ lenB l.length)
def bytesU (s : List UInt32) : List UInt8 := s.flatMap fun x => [24, 16, 8, 0].map fun i => UInt8.ofNat (x.toNat / 2 ^ i)
def shaG (l : List UInt8) : List UInt8 := bytesU (blocksS shaH (padded l))

/-! ### cells -/
def wV (l : List UInt32) : List Value := l.map fun x => .int .u32 (uI x)
theorem wV_length (l : List UInt32) : (wV l).length = l.length := by simp [wV]
theorem wV_get {l : List UInt32} {i : Nat} {x : UInt32} (h : l[i]? = some x) : (wV l)[i]? = some (.int .u32 (uI x)) := by simp [wV, h]
theorem wV_set (l : List UInt32) (i : Nat) (x : UInt32) : (wV l).toArray.setIfInBounds i (.int .u32 (uI x)) = (wV (l.set i x)).toArray := by
  simp [wV, List.map_set]
theorem wV_arr {l : List UInt32} {i : Nat} {x : UInt32} (h : l[i]? = some x) : (wV l).toArray[i]? = some (.int .u32 (uI x)) := by
  rw [List.getElem?_toArray]; exact wV_get h
theorem getD_get {l : List UInt32} {i : Nat} (h : i < l.length) : l[i]? = some (l.getD i 0) := by
  rw [List.getD_eq_getElem?_getD, List.getElem?_eq_getElem h]; rfl
end Go.Proofs.Ytpafhajpnepecaa
