/- awake: the bench of layer 2's statements. -/
import Derived.Test.YthpcanibahcghaaGrainDecode
import Derived.Test.YthpcanibahcghaaGrainText
set_option linter.unusedVariables false
namespace Go.Proofs.Ythpcanibahcghaa
open Go.RowKit
attribute [local go_sem ↓] cvt_eq

/-- a list of a number, a text and a number with a point -/
def row3 (n : Nat) (s : List UInt8) (f : Nat) : Val := .mk 3 0 [] 0 [.mk 0 n [] 0 [], .mk 1 0 s 0 [], .mk 2 0 [] f []]
def oA : List UInt8 := [15, 160, 1, 5, 97, 2, 63, 224, 0, 0, 0, 0, 0, 0]
theorem canonA : canonB 4602678819172646912 = 4602678819172646912 := by decide +kernel
theorem enc_awake : enc (row3 40 [97] 4602678819172646912) = .ok oA := by
  unfold enc row3
  simp only [wrV, wrL, Val.kind, Val.num, Val.bytes, Val.flt, Val.list, canonA]
  have h1 : headL 3 3 = [15] := by unfold headL; rw [tailL_zero]; rfl
  have h2 : headL 0 40 = [160, 1] := by unfold headL; rw [tailL_pos _ (by decide), tailL_zero]; rfl
  have h3 : headL 1 1 = [5] := by unfold headL; rw [tailL_zero]; rfl
  have h4 : headL 2 0 = [2] := by unfold headL; rw [tailL_zero]; rfl
  have h5 : be64 4602678819172646912 = [63, 224, 0, 0, 0, 0, 0, 0] := by decide
  simp [h1, h2, h3, h4, h5, fin, oA]
theorem norm_row3 (n : Nat) (s : List UInt8) (f : Nat) : norm 16 (row3 n s f) = row3 n s (canonB f) := by
  simp [norm, row3, Val.kind, Val.num, Val.bytes, Val.flt, Val.list]
theorem fits_row3 {n : Nat} {s : List UInt8} {f : Nat} (hn : n < 2 ^ 64) (hs : s.length < 2 ^ 64) (hf : f < 2 ^ 64) : Fits 16 (row3 n s f) := by
  simp [Fits, row3, Val.num, Val.bytes, Val.flt, Val.list]
  omega
theorem dec_awake : dec oA = .ok (row3 40 [97] 4602678819172646912) := by
  rw [dec_enc (fits_row3 (by decide) (by decide) (by decide)) enc_awake, norm_row3, canonA]

/-- the cells of the three -/
abbrev rowV (n : Nat) (A : Option Addr) (m c : Nat) (L : Option Addr) (d : Nat) (f : Nat) : Array Value := #[.int .i64 0, .int .u64 (n : Int), .slice none 0 0, .float .f64 0, .slice none 0 0, .int .i64 1, .int .u64 0, .slice A m c, .float .f64 0, .slice L 0 d, .int .i64 2, .int .u64 0, .slice none 0 0, .float .f64 f, .slice none 0 0]
theorem row3_sl {w : World} {av : Av} {n : Nat} {s : List UInt8} {f : Nat} {A L : Option Addr} {m c d : Nat} (hn : n < 2 ^ 64) (hf : f < 2 ^ 64) (hm : m = s.length)
    (h : valR.R w av [.int .i64 1, .int .u64 ((0 : Nat) : Int), .slice A s.length c, .float .f64 0, .slice L ([] : List Val).length d] (.mk 1 0 s 0 [])) :
    SlOf valR (w.alloc (.cells (rowV n A m c L d f) 27)) no (some ⟨w.heap.size, 0, none⟩) [.mk 0 n [] 0 [], .mk 1 0 s 0 [], .mk 2 0 [] f []] := by
  subst hm
  have hb : Below w.heap.size w (w.alloc (.cells (rowV n A s.length c L d f) 27)) := (Below.refl _ _).alloc (Nat.le_refl _) _
  have h' : valR.R (w.alloc (.cells (rowV n A s.length c L d f) 27)) no [.int .i64 1, .int .u64 ((0 : Nat) : Int), .slice A s.length c, .float .f64 0, .slice L ([] : List Val).length d] (.mk 1 0 s 0 []) := valR.stable h ((Moves.forget _ _).trans (Moves.of_below hb))
  refine ⟨(rowV n A s.length c L d f).toList, Sl.fresh w _ _ (0, 0) 3 5 rfl, ?_, fun _ _ _ _ h => h⟩
  have e1 := valR_flat (w.alloc (.cells (rowV n A s.length c L d f) 27)) no (k := 0) n 0 (by decide) hn (by decide)
  have e3 := valR_flat (w.alloc (.cells (rowV n A s.length c L d f) 27)) no (k := 2) 0 f (by decide) (by decide) hf
  exact Each.cons e1 (Each.cons h' (Each.one e3))

set_option maxHeartbeats 4000000 in
theorem awake_any (w : World) : Calls Try.prog 9 #[] w fun e w' => e = .returned (.bool true) ∧ Below w.heap.size w w' := by
  go_enter Try.func9, Try.ntmps9
  go_wp2_with fail
  refine (num_any 40 _).mono ?_
  rintro e w1 ⟨rfl, hb1⟩
  unfold cellsV
  go_wp2_with fail
  refine (text_any ⟨#[97]⟩ w1 (by decide)).mono ?_
  rintro e w2 ⟨⟨cs, rfl, hr⟩, hb2⟩
  obtain ⟨A, c, L, d, rfl, _, _, _, ⟨hs1, hs2, hs3⟩, hl1, hl2, hl3⟩ := valR_iff.1 hr
  go_wp2_with fail
  refine (real_any _ _).mono ?_
  rw [canonA]
  rintro e w3 ⟨rfl, hb3⟩
  unfold cellsV
  go_wp2_with fail
  have hb23 : Below w.heap.size w w3 := by
    have hb13 := hb2.trans (hb3.mono hb2.size)
    exact hb1.trans (hb13.mono hb1.size)
  have hsl := row3_sl (w := w3) (n := 40) (f := 4602678819172646912) (by decide) (by decide) rfl (valR.stable hr (Moves.of_below hb3))
  clear hr hs1 hs2 hs3 hl1 hl2 hl3 hb2 hb3 hb1
  refine (row_any _ 3 3 _ _ hsl rfl (by decide)).mono ?_
  rintro e w4 ⟨⟨cs4, rfl, hr4⟩, hb4⟩
  have hb04 : Below w.heap.size w w4 := by
    have := ((Below.refl w3.heap.size w3).alloc (Nat.le_refl _) (.cells (rowV 40 A 1 c L d 4602678819172646912) 27)).trans (hb4.mono (by simp))
    exact hb23.trans (this.mono hb23.size)
  clear hb23 hb4 hsl
  go_wp2_with fail
  refine (encode_any _ w4 hr4 (by decide)).mono ?_
  rw [show (Val.mk 3 0 [] 0 [.mk 0 40 [] 0 [], .mk 1 0 [97] 0 [], .mk 2 0 [] 4602678819172646912 []]) = row3 40 [97] 4602678819172646912 from rfl, enc_awake]
  rintro e w5 ⟨hb5, Ao, mo, co, rfl, hmo, hown⟩
  have hb05 := hb04.trans (hb5.mono hb04.size)
  have hse := Sl.ofOwn hown
  obtain ⟨hcap1, hcap2⟩ := own_cap hown
  obtain rfl : mo = 14 := hmo
  obtain ⟨ga, hga, _, hgl⟩ := own_at hown (by decide)
  subst hga
  clear hr4 hb04 hb5 hown
  go_wp2_with fail
  refine (decode_any _ 14 co oA w5 hse hcap1 hcap2).mono ?_
  rw [dec_awake]
  rintro e w6 ⟨hb6, cs6, rfl, hr6⟩
  have hb06 := hb05.trans (hb6.mono hb05.size)
  have hse6 := hse.below hb6
  have hk5 : cs6.length = 5 := valR.len hr6
  have HO := Lib.hid (show cs6.toArray.all (·.oneCell') = true by simpa using valR.one hr6)
  have HI := Lib.hid (show (Try.prog.info? 27).map (·.size) = some cs6.toArray.size by rw [show cs6.toArray.size = 5 from by simpa using hk5]; exact val_info)
  obtain ⟨A6, c6, L6, d6, hcs6, _, _, _, _, _, _, hl6⟩ := valR_iff.1 hr6
  obtain ⟨b6, o6, cs7, x7, rfl, hb6l, hx7, hr7, hat7, _⟩ := hl6.look rfl (i := 0) (by decide)
  obtain rfl := Option.some.inj hx7
  obtain ⟨A7, c7, L7, d7, rfl, _⟩ := valR_iff.1 hr7
  have hcell : w6.cell? ⟨b6, o6 + 1, none⟩ = some (.int .u64 40) := hat7 1 _ rfl
  have HBL := Lib.hid (Blk.new w6 27 #[.int .i64 0, .int .u64 0, .slice none 0 0, .float .f64 0, .slice none 0 0])
  obtain ⟨KV, hKV⟩ : ∃ KV, KV = cs6.toArray := ⟨_, rfl⟩
  obtain ⟨w7, hw7⟩ : ∃ w7, w7 = (w6.alloc (.cells #[.int .i64 0, .int .u64 0, .slice none 0 0, .float .f64 0, .slice none 0 0] 27)).setRow w6.heap.size KV := ⟨_, rfl⟩
  rw [← hKV] at HO HI ⊢
  have HKV := Lib.hid hKV
  have hk : KV.size = 5 := by rw [hKV]; simpa using hk5
  have hb67 : Below w6.heap.size w6 w7 := by
    rw [hw7]; exact below_row w6 _ #[.int .i64 0, .int .u64 0, .slice none 0 0, .float .f64 0, .slice none 0 0] KV 27 (Below.refl _ _)
  have hse7 := hse6.below hb67
  have hcv := cvt_of hse7 co
  have hcell7 : w7.cell? ⟨b6, o6 + 1, none⟩ = some (.int .u64 40) := (hb67.cell hb6l).trans hcell
  have hrow : ∀ j u, cs6[j]? = some u → w7.cell? ⟨w6.heap.size, j, none⟩ = some u := by
    intro j u hj
    rw [hw7]
    have h1 := cell_of_row _ w6.heap.size j KV 27 _ (setRow_heap _ w6.heap.size _ KV _ _ HBL.out)
    rw [h1, hKV]; simpa using hj
  have c0 : w7.cell? ⟨w6.heap.size, 0, none⟩ = some (.int .i64 3) := hrow 0 _ (by rw [hcs6]; rfl)
  have c4 : w7.cell? ⟨w6.heap.size, 4, none⟩ = some (.slice (some ⟨b6, o6, none⟩) 3 d6) := hrow 4 _ (by rw [hcs6]; rfl)
  have HB := Lib.hid (hb06.trans (hb67.mono hb06.size))
  have HW := Lib.hid hw7
  clear hr6 hl6 hx7 hr7 hat7 hb05 hse hb6 hrow hb67 hse6 hcell hse7 hcs6 hKV hw7 hk5 hb06
  go_wp2_with (first | (refine wpList_store_row rfl _ _ _ rfl w6.heap.size KV rfl (by rfl) 27 _ HBL.out HI.out hk.symm HO.out ?_; rw [← HW.out]) | fail)
  go_ret
  exact ⟨rfl, HB.out⟩
end Go.Proofs.Ythpcanibahcghaa
