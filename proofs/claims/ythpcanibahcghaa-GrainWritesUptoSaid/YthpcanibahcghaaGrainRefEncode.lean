/- towlineref02.Encode. -/
import Derived.Test.YthpcanibahcghaaGrainRefWrite
set_option linter.unusedVariables false
namespace Go.Proofs.Ythpcanibahcghaa
open Go.RowKit
attribute [local go_sem ↓] cvt_eq

theorem Moves.fresh (w : World) : Moves w w no (fun b => w.heap.size ≤ b) := ⟨Nat.le_refl _, fun _ _ _ => rfl, fun b h _ h' => by omega⟩
def RefEnc (w : World) (r : Res (List UInt8)) (e : Ending) (w' : World) : Prop :=
  Below w.heap.size w w' ∧ match r with
    | .ok o => e = .returned (.tuple #[.string (strL o), .int .i64 0])
    | .error z => e = .returned (.tuple #[.string (strL []), .int .i64 z])

theorem cvt_nil (w : World) : cvt w none 0 0 = .ok (.string (strL [])) w := cvt_of (l := []) Sl.nil 0

set_option maxHeartbeats 1000000 in
theorem refEncode_any {cs : List Value} (v : Val) (w : World) (hv : valR.R w no cs v) (hbk : bulkV v ≤ 1048576) :
    Calls Try.prog 11 #[.agg cs.toArray] w (RefEnc w (enc v)) := by
  have hk5 : cs.length = 5 := valR.len hv
  have HKI := Lib.hid (show (Try.prog.info? 27).map (·.size) = some cs.toArray.size by rw [show cs.toArray.size = 5 from by simpa using hk5]; kernel_rfl)
  obtain ⟨w3, hw3⟩ : ∃ w3, w3 = (w.alloc (.cells cs.toArray 27)).alloc (.cells #[] 5) := ⟨_, rfl⟩
  have hb3 : Below w.heap.size w w3 := by rw [hw3]; exact ((Below.refl _ _).alloc (Nat.le_refl _) _).alloc (by simp) _
  have hbox : w3.heap[w.heap.size]? = some (.cells cs.toArray 27 (0, 0)) := by rw [hw3, Below.heap_alloc _ _ _ (by simp)]; exact heap_alloc_new w _
  have hnew : w3.ownsRow (w.heap.size + 1) 5 1 (.slice (some ⟨w.heap.size + 1, 0, none⟩) 0 0) 0 (bytesV []) := by
    rw [hw3]; exact own_made' (by simp) (Nat.le_refl _)
  have hv3 : valR.R w3 (own (.slice (some ⟨w.heap.size + 1, 0, none⟩) 0 0)) cs v := valR.stable ((valR.stable hv (Moves.fresh w))) ((Moves.less w (av' := own (.slice (some ⟨w.heap.size + 1, 0, none⟩) 0 0)) (fun b hb h => by simp [own, Value.ownBlock] at h; omega)).trans (Moves.of_below hb3))
  have HW := Lib.hid (refWrite_any (base := w.heap.size + 1) 16 v w3 (Nat.le_refl _) hv3 hbk (by omega) hnew (by rw [hw3]; simp))
  have HB3 := Lib.hid hb3
  have HBOX := Lib.hid hbox
  obtain ⟨KV, hKV⟩ : ∃ KV : Array Value, KV = cs.toArray := ⟨_, rfl⟩
  rw [← hKV] at HKI HW hw3 HBOX ⊢
  have HW3 := Lib.hid hw3
  have henc : wrV 16 [] v = enc v := rfl
  rw [henc] at HW
  clear hKV hv hv3 hk5 hbk hb3 hbox hnew henc hw3
  go_enter Try.func11, Try.ntmps11
  go_upto_region 1 with fail
  generalize hg : w.heap.size = g at *
  have HG := Lib.hid hg
  clear hg
  have hsz : (w.alloc (.cells KV 27)).heap.size = g + 1 := by have := HG.out; simp; omega
  have hw3 := HW3.out.symm
  go_wp2_with (first | (refine wpList_load_row rfl 27 (.tmp 1) rfl g rfl 27 KV (0, 0) _ HBOX.out Try.underlying27 rfl HKI.out ?_) | fail)
  refine HW.out.mono ?_
  intro e w4 hp
  obtain ⟨hb4, hp⟩ := hp
  have HB4 := Lib.hid (HB3.out.trans (hb4.mono (Nat.le_succ _)))
  clear hw3 hsz hb4 HW HBOX HB3 HW3
  cases hr : enc v with
  | ok o =>
    rw [hr] at hp
    obtain ⟨A, m, c, rfl, hm, hown, _⟩ := hp
    have hcv : cvt w4 A m c = .ok (.string (strL o)) w4 := cvt_of (Sl.ofOwn hown) c
    have HRR := Lib.hid hr
    clear hm hown hr
    go_wp2_with fail
    go_ret2
    unfold RefEnc
    rw [HG.out, HRR.out]
    exact ⟨HB4.out, rfl⟩
  | error z =>
    rw [hr] at hp
    obtain rfl : e = _ := hp
    have hcv := cvt_nil w4
    have HRR := Lib.hid hr
    clear hr
    go_wp2_with fail
    go_ret2
    unfold RefEnc
    rw [HG.out, HRR.out]
    exact ⟨HB4.out, rfl⟩
end Go.Proofs.Ythpcanibahcghaa
