/- grain.Text, grain.Row. -/
import Derived.Test.YthpcanibahcghaaGrainValue
set_option linter.unusedVariables false
namespace Go.Proofs.Ythpcanibahcghaa
open Go.RowKit

set_option maxHeartbeats 1000000 in
theorem text_any (s : ByteArray) (w : World) (hs : s.size ≤ maxLen) : Calls Try.prog 17 #[.string s] w fun e w' => (∃ cs : List Value, e = .returned (.agg cs.toArray) ∧ valR.R w' (fun b => b < w.heap.size) cs (.mk 1 0 s.data.toList 0 [])) ∧ Below w.heap.size w w' := by
  obtain ⟨A, c, w2, hrun, hsl, hc, hm, hb, b, rfl, hbw⟩ := toBytes (w.alloc (.cells #[.int .i64 0, .int .u64 0, .slice none 0 0, .float .f64 0, .slice none 0 0] 27)) s hs
  have HRUN := Lib.hid hrun
  have HSL := Lib.hid hsl
  have HB := Lib.hid hb
  have hbb : w.heap.size + 1 ≤ b := by simpa using hbw
  have HBL := Lib.hid ((Blk.new w 27 #[.int .i64 0, .int .u64 0, .slice none 0 0, .float .f64 0, .slice none 0 0]).below hb (by simp))
  obtain ⟨KV, hKV⟩ : ∃ KV, KV = cellsV 1 0 (some ⟨b, 0, none⟩) s.size c 0 none 0 0 := ⟨_, rfl⟩
  have HI := Lib.hid (show (Try.prog.info? 27).map (·.size) = some KV.size by rw [hKV]; exact cellsV_info _ _ _ _ _ _ _ _ _)
  have HO := Lib.hid (show KV.all (·.oneCell') = true by rw [hKV]; exact cellsV_one _ _ _ _ _ _ _ _ _)
  have HKV := Lib.hid hKV
  have HC := Lib.hid (And.intro hc hm)
  clear hKV hsl hb hc hm hbw
  go_enter Try.func17, Try.ntmps17
  go_wp2_with (first | (refine wpList_store_row rfl _ _ _ rfl w.heap.size KV rfl (by rw [HKV.out]; rfl) 27 _ HBL.out HI.out (by rw [HKV.out]; rfl) HO.out ?_) | fail)
  refine bodyPost_ret (results_cell_row rfl _ _ w.heap.size 27 KV (0, 0) _ rfl (setRow_heap _ w.heap.size _ _ _ _ HBL.out) Try.underlying27 rfl HI.out) rfl ?_
  have hlen : s.data.toList.length = s.size := Array.length_toList
  have hsl' : Sl (w2.setRow w.heap.size KV) 1 (some ⟨b, 0, none⟩) s.size (bytesV s.data.toList) := by
    refine ⟨HSL.out.1, fun hn => ?_⟩
    obtain ⟨b', off, he, hb', hc'⟩ := HSL.out.2 hn
    have e := Option.some.inj he
    injection e with e1 e2
    subst e1 e2
    refine ⟨b, 0, rfl, by simpa using hb', fun j u hu => ?_⟩
    rw [cell_setRow_other w2 w.heap.size KV ⟨b, 0 + j, none⟩ (by show b ≠ w.heap.size; omega)]
    exact hc' j u hu
  refine ⟨⟨KV.toList, by simp, ?_⟩, below_row w _ _ KV _ (HB.out.mono (by simp))⟩
  rw [HKV.out]
  rw [HKV.out] at hsl'
  refine valR_iff.2 ⟨some ⟨b, 0, none⟩, c, none, 0, by rw [hlen]; rfl, by decide, by omega, by omega, ⟨by rw [hlen]; exact HC.out.1, HC.out.2, bytesV s.data.toList, by rw [hlen]; exact hsl', each_byte_mk _, fun _ b' off e => ?_⟩, Nat.le_refl _, Nat.zero_le _, SlOf.nil⟩
  have e := Option.some.inj e
  injection e with e1 e2
  omega

set_option maxHeartbeats 1000000 in
theorem row_any (L : Option Addr) (m c : Nat) (vs : List Val) (w : World) (hs : SlOf valR w no L vs) (hm : m = vs.length) (hml : m ≤ 1048576) : Calls Try.prog 15 #[.slice L m c] w fun e w' => (∃ cs : List Value, e = .returned (.agg cs.toArray) ∧ valR.R w' no cs (.mk 3 0 [] 0 vs)) ∧ Below w.heap.size w w' := by
  subst hm
  obtain ⟨xs, hsl, hes, _⟩ := hs
  have hb2 : Below w.heap.size w ((w.alloc (.cells #[.int .i64 0, .int .u64 0, .slice none 0 0, .float .f64 0, .slice none 0 0] 27)).alloc (.cells #[] 27)) := ((Below.refl _ _).alloc (Nat.le_refl _) _).alloc (by simp) _
  have hown := own_made (base := w.heap.size + 1) (w.alloc (.cells #[.int .i64 0, .int .u64 0, .slice none 0 0, .float .f64 0, .slice none 0 0] 27)) 27 5 (by simp)
  obtain ⟨A7, c7, w7, run7, ap7, hc7, hm7⟩ := append_sl elemVal hown (hsl.below hb2) (hes.all (p := fun u => u.oneCell' = true) (fun _ _ h => valR.one h)) (by omega) (by simp only [maxLen]; omega) (by simp) 25 c
  simp only [Nat.zero_add, List.nil_append] at run7 ap7 hc7
  have hb7 : Below w.heap.size w w7 := hb2.trans (ap7.below.mono (Nat.le_succ _))
  have HR7 := Lib.hid ap7.own
  have HES := Lib.hid (hes.mono fun _ _ h => valR.stable h ((show Moves w w no (fun b => w.heap.size ≤ b) from ⟨Nat.le_refl _, fun _ _ _ => rfl, fun b h _ h' => by omega⟩).trans (Moves.of_below hb7)))
  have HB7 := Lib.hid hb7
  have HBL := Lib.hid (((Blk.new w 27 #[.int .i64 0, .int .u64 0, .slice none 0 0, .float .f64 0, .slice none 0 0]).alloc (.cells #[] 27)).below ap7.below (Nat.lt_succ_self _))
  obtain ⟨KV, hKV⟩ : ∃ KV, KV = cellsV 3 0 none 0 0 0 A7 vs.length c7 := ⟨_, rfl⟩
  have HI := Lib.hid (show (Try.prog.info? 27).map (·.size) = some KV.size by rw [hKV]; exact cellsV_info _ _ _ _ _ _ _ _ _)
  have HO := Lib.hid (show KV.all (·.oneCell') = true by rw [hKV]; exact cellsV_one _ _ _ _ _ _ _ _ _)
  have HKV := Lib.hid hKV
  have HC := Lib.hid (And.intro hc7 hm7)
  clear hKV hsl hes hb2 hown hb7 ap7 hc7 hm7
  have hsz : (w.alloc (.cells #[.int .i64 0, .int .u64 0, .slice none 0 0, .float .f64 0, .slice none 0 0] 27)).heap.size = w.heap.size + 1 := by simp
  rw [hsz] at run7
  go_enter Try.func15, Try.ntmps15
  go_wp2_with (first | (at_builtin; refine wpList_run_append run7 ?_ ?_ ?_; exact rfl; exact rfl) | (refine wpList_store_row rfl _ _ _ rfl w.heap.size KV rfl (by rw [HKV.out]; rfl) 27 _ HBL.out HI.out (by rw [HKV.out]; rfl) HO.out ?_) | fail)
  refine bodyPost_ret (results_cell_row rfl _ _ w.heap.size 27 KV (0, 0) _ rfl (setRow_heap _ w.heap.size _ _ _ _ HBL.out) Try.underlying27 rfl HI.out) rfl ?_
  refine ⟨⟨KV.toList, by simp, ?_⟩, below_setRow HB7.out (Nat.le_refl _) KV⟩
  have hrow := own_row HR7.out (g := w.heap.size) (cs := KV) (Nat.lt_succ_self _)
  have hmv : Moves w7 (w7.setRow w.heap.size KV) (fun b => w.heap.size ≤ b) no := (Moves.grown (grown_row w7 w.heap.size KV) (Nat.le_refl _)).trans (Moves.forget _ _)
  rw [show KV.toList = (cellsV 3 0 none 0 0 0 A7 vs.length c7).toList from by rw [HKV.out]]
  exact valR_iff.2 ⟨none, 0, A7, c7, rfl, by decide, by omega, by omega, ⟨Nat.le_refl _, Nat.zero_le _, SlOf.nil⟩, HC.out.1, HC.out.2, xs, Sl.ofOwn hrow, HES.out.mono fun _ _ k => valR.stable k hmv, fun _ _ _ _ h => h⟩
end Go.Proofs.Ythpcanibahcghaa
