/- The walk of the law GrainWrites: values are written, or refused, as the document says. -/
import Derived.Test.YthpcanibahcghaaGrainAwake
import Derived.Test.YthpcanibahcghaaGrainRefEncode
set_option linter.unusedVariables false
namespace Go.Proofs.Ythpcanibahcghaa
open Go.RowKit
attribute [local go_sem ↓] cvt_eq

set_option maxRecDepth 100000 in
set_option maxHeartbeats 2000000 in
theorem grainWrites_any (cs : List Value) (v : Val) (W0 : World) (hv : valR.R W0 no cs v) (hbk : bulkV v ≤ 1048576) :
    Calls Try.prog 3 #[.agg cs.toArray] W0 fun e w' => e = .returned (.bool true) ∧ Below W0.heap.size W0 w' := by
  have hk5 : cs.length = 5 := valR.len hv
  have HKI := Lib.hid (show (Try.prog.info? 27).map (·.size) = some cs.toArray.size by rw [show cs.toArray.size = 5 from by simpa using hk5]; exact val_info)
  have HENC := Lib.hid (fun w (h : Below W0.heap.size W0 w) => encode_any v w (valR.stable hv (Moves.of_below h)) hbk)
  have HREF := Lib.hid (fun w (h : Below W0.heap.size W0 w) => refEncode_any v w (valR.stable hv (Moves.of_below h)) hbk)
  obtain ⟨KV, hKV⟩ : ∃ KV : Array Value, KV = cs.toArray := ⟨_, rfl⟩
  rw [← hKV] at HKI HENC HREF ⊢
  have HBOX := Lib.hid (Blk.new W0 27 KV)
  have HB0 := Lib.hid ((Below.refl W0.heap.size W0).alloc (Nat.le_refl _) (.cells KV 27))
  clear hKV hk5 hv hbk
  go_enter Try.func3, Try.ntmps3
  go_wp2_with fail
  refine (awake_any _).mono ?_
  rintro e w1 ⟨rfl, hb1⟩
  have HBOX1 := Lib.hid (HBOX.out.below hb1 HBOX.out.lt)
  have HB1 := Lib.hid (HB0.out.trans (hb1.mono HB0.out.size))
  clear hb1 HBOX HB0
  go_wp2_with (first | (refine wpList_load_row rfl 27 (.tmp 1) rfl W0.heap.size rfl 27 KV (0, 0) _ HBOX1.out Try.underlying27 rfl HKI.out ?_) | fail)
  refine (HENC.out _ HB1.out).mono ?_
  rintro e w2 ⟨hb2, hp⟩
  have HBOX2 := Lib.hid (HBOX1.out.below hb2 HBOX1.out.lt)
  have HB2 := Lib.hid (HB1.out.trans (hb2.mono HB1.out.size))
  have HR := HREF.out w2 HB2.out
  cases hr : enc v with
  | ok o =>
    rw [hr] at hp
    obtain ⟨A, m, c, rfl, hm, hown⟩ := hp
    have HSL := Lib.hid (Sl.ofOwn hown)
    have HRR := Lib.hid hr
    clear hm hown hr hb2 HENC HBOX1 HB1
    go_wp2_with (first | (refine wpList_load_row rfl 27 (.tmp 1) rfl W0.heap.size rfl 27 KV (0, 0) _ HBOX2.out Try.underlying27 rfl HKI.out ?_) | fail)
    refine HR.mono ?_
    rw [HRR.out]
    rintro e w3 ⟨hb3, rfl⟩
    have hcv : cvt w3 A m c = .ok (.string (strL o)) w3 := cvt_of (HSL.out.below hb3) c
    have HB3 := Lib.hid (HB2.out.trans (hb3.mono HB2.out.size))
    clear hb3
    go_wp2_with fail
    go_ret
    exact ⟨rfl, HB3.out⟩
  | error z =>
    rw [hr] at hp
    obtain rfl : e = _ := hp
    have HRR := Lib.hid hr
    clear hr hb2 HENC HBOX1 HB1
    go_wp2_with (first | (refine wpList_load_row rfl 27 (.tmp 1) rfl W0.heap.size rfl 27 KV (0, 0) _ HBOX2.out Try.underlying27 rfl HKI.out ?_) | fail)
    refine HR.mono ?_
    rw [HRR.out]
    rintro e w3 ⟨hb3, rfl⟩
    have hcv := cvt_nil w3
    have HB3 := Lib.hid (HB2.out.trans (hb3.mono HB2.out.size))
    clear hb3
    go_wp2_with fail
    go_ret
    exact ⟨rfl, HB3.out⟩
end Go.Proofs.Ythpcanibahcghaa
