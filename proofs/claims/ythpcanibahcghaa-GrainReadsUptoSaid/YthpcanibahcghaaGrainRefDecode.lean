/- towlineref02.Decode. -/
import Derived.Test.YthpcanibahcghaaGrainRefList
set_option linter.unusedVariables false
namespace Go.Proofs.Ythpcanibahcghaa
open Go.RowKit

/-- how decoding ends -/
def endD : Res (Val × List UInt8) → Res Val
  | .error e => .error e
  | .ok (v, []) => .ok v
  | .ok (_, _ :: _) => .error 23
theorem dec_endD {l : List UInt8} (h : l.length ≤ 1048576) : dec l = endD (rd 16 l) := by
  unfold dec
  rw [if_neg (by omega)]
  rcases rd 16 l with e | ⟨v, _ | ⟨x, q⟩⟩ <;> rfl

set_option maxRecDepth 100000 in
set_option maxHeartbeats 2000000 in
theorem refDecode_any (s : ByteArray) (w : World) : Calls Try.prog 13 #[.string s] w (RefDec w (dec s.data.toList)) := by
  obtain ⟨KZ, hKZ⟩ : ∃ KV, KV = zV := ⟨_, rfl⟩
  have HIZ := Lib.hid (show (Try.prog.info? 27).map (·.size) = some KZ.size by rw [hKZ]; exact cellsV_info 0 0 none 0 0 0 none 0 0)
  have HOZ := Lib.hid (show KZ.all (·.oneCell') = true by rw [hKZ]; exact cellsV_one 0 0 none 0 0 0 none 0 0)
  have HKZ := Lib.hid hKZ
  have HV : Hid (VRef w (w.alloc (.cells #[.int .i64 0, .int .u64 0, .slice none 0 0, .float .f64 0, .slice none 0 0] 27))) := Lib.hid (VRef.start w)
  by_cases hlong : 1048576 < s.size
  · have hI : (1048576 : Int) < (s.size : Int) := by omega
    have HD := Lib.hid (show dec s.data.toList = .error 2 by unfold dec; rw [if_pos (by simpa using hlong)])
    clear hKZ
    go_enter Try.func13, Try.ntmps13
    go_upto_region 1 with fail
    generalize w.alloc (.cells #[.int .i64 0, .int .u64 0, .slice none 0 0, .float .f64 0, .slice none 0 0] 27) = w1 at *
    go_wp2_with (first | (refine wpList_store_row rfl _ _ _ rfl w.heap.size KZ rfl (by rw [HKZ.out]; rfl) 27 _ HV.out.blk HIZ.out (by rw [HKZ.out]) HOZ.out ?_) | fail)
    refine bodyPost_ret (results_row_tmpV rfl _ _ w.heap.size 27 KZ (.int .i64 2) rfl rfl (setRow_heap _ w.heap.size _ _ _ _ HV.out.blk) HIZ.out) rfl ?_
    rw [HD.out]
    exact ⟨HV.out.set KZ, by rw [HKZ.out]⟩
  · have hs : s.size ≤ 1048576 := by omega
    have hI : ¬ (1048576 : Int) < (s.size : Int) := by omega
    obtain ⟨R, hR⟩ : ∃ R, R = rd 16 s.data.toList := ⟨_, rfl⟩
    have HR := Lib.hid hR
    have HC : Hid (∀ w, Calls Try.prog 26 #[.string s, .int .i64 0, .int .i64 1] w (ValAt w s R)) := Lib.hid (fun w => by
      have := refVal_any s hs 16 w 0 (by omega) (by omega)
      rw [List.drop_zero, ← hR] at this
      exact this)
    obtain ⟨RD, hRD⟩ : ∃ RD, RD = dec s.data.toList := ⟨_, rfl⟩
    have HRD := Lib.hid (show RD = endD R by rw [hRD, hR]; exact dec_endD (by simpa using hs))
    rw [← hRD]
    clear hRD hKZ
    have hle : ∀ v q, R = .ok (v, q) → q.length ≤ s.size := by
      intro v q h
      rw [hR] at h
      obtain ⟨e, he, _⟩ := rd_back 16 _ _ _ h
      have := congrArg List.length he
      simp at this
      omega
    clear hR
    go_enter Try.func13, Try.ntmps13
    go_upto_region 3 with fail
    generalize w.alloc (.cells #[.int .i64 0, .int .u64 0, .slice none 0 0, .float .f64 0, .slice none 0 0] 27) = w1 at *
    go_wp2_with fail
    refine (HC.out w1).mono ?_
    rintro e w2 ⟨hb2, hp⟩
    have HV2 := Lib.hid (HV.out.go hb2)
    have HN2 := Lib.hid (heap_alloc_new w2 (.cells #[.int .i64 0, .int .u64 0, .slice none 0 0, .float .f64 0, .slice none 0 0] 27))
    have HW1 := Lib.hid HV.out.blk.lt
    clear hb2 HV HC
    cases hr : R with
    | error z =>
      rw [hr] at hp HRD HR
      obtain ⟨jj, rfl⟩ := hp
      have hz := rd_err_ne 16 _ _ HR.out.symm
      have hz1 : (z == 0) = false := by simp [hz]
      have hz2 : (z != 0) = true := by simp [hz]
      have HE := Lib.hid (show RD = .error z from HRD.out)
      rw [← HKZ.out]
      have HV3 := Lib.hid (HV2.out.go ((Below.refl w2.heap.size w2).alloc (Nat.le_refl _) (.cells KZ 27)))
      clear hz HRD hle hr HR
      go_upto_region 4 with (first | (refine wpList_store_row rfl _ _ _ rfl w2.heap.size KZ rfl rfl 27 _ HN2.out HIZ.out (by rw [HKZ.out]; rfl) HOZ.out ?_) | fail)
      rw [World.setRow_alloc_new]
      generalize w2.alloc (.cells KZ 27) = w3 at *
      go_wp2_with (first | (refine wpList_store_row rfl _ _ _ rfl w.heap.size KZ rfl (by rw [HKZ.out]; rfl) 27 _ HV3.out.blk HIZ.out (by rw [HKZ.out]) HOZ.out ?_) | fail)
      refine bodyPost_ret (results_row_tmpV rfl _ _ w.heap.size 27 KZ (.int .i64 z) rfl rfl (setRow_heap _ w.heap.size _ _ _ _ HV3.out.blk) HIZ.out) rfl ?_
      rw [HE.out]
      exact ⟨HV3.out.set KZ, by rw [HKZ.out]⟩
    | ok p =>
      obtain ⟨v, q⟩ := p
      rw [hr] at hp HRD
      have hq := hle v q hr
      obtain ⟨cs, rfl, hv⟩ := hp
      have hk5 : cs.length = 5 := valR.len hv
      have HO := Lib.hid (show cs.toArray.all (·.oneCell') = true by simpa using valR.one hv)
      have HI := Lib.hid (show (Try.prog.info? 27).map (·.size) = some cs.toArray.size by rw [show cs.toArray.size = 5 from by simpa using hk5]; exact val_info)
      have HS5 := Lib.hid (show 5 = cs.toArray.size by simpa using hk5.symm)
      obtain ⟨KV, hKV⟩ : ∃ KV, KV = cs.toArray := ⟨_, rfl⟩
      rw [← hKV] at HO HI HS5 ⊢
      have HKV := Lib.hid hKV
      have HV3 := Lib.hid (HV2.out.go ((Below.refl w2.heap.size w2).alloc (Nat.le_refl _) (.cells KV 27)))
      have HX3 := Lib.hid (Blk.new w2 27 KV)
      have hm3 : Below w2.heap.size w2 (w2.alloc (.cells KV 27)) := (Below.refl _ _).alloc (Nat.le_refl _) _
      have HRV := Lib.hid (valR.stable hv (Moves.of_below hm3))
      obtain ⟨j, hj⟩ : ∃ j, j = s.size - q.length := ⟨_, rfl⟩
      rw [← hj]
      clear hle hr HR hKV hv hk5 hm3
      go_upto_region 4 with (first | (refine wpList_store_row rfl _ _ _ rfl w2.heap.size KV rfl rfl 27 _ HN2.out HI.out HS5.out HO.out ?_) | fail)
      rw [World.setRow_alloc_new]
      generalize w2.alloc (.cells KV 27) = w3 at *
      generalize w2.heap.size = gx at *
      cases q with
      | nil =>
        have hjI : ¬ (j : Int) < (s.size : Int) := by simp at hj; omega
        have HE := Lib.hid (show RD = .ok v from HRD.out)
        clear HRD hj hq
        go_wp2_with (first
          | (refine wpList_load_row rfl 27 (.tmp 4) rfl gx rfl 27 KV (0, 0) _ HX3.out Try.underlying27 rfl HI.out ?_)
          | (refine wpList_store_row rfl _ _ _ rfl w.heap.size KV rfl rfl 27 _ HV3.out.blk HI.out HS5.out HO.out ?_) | fail)
        refine bodyPost_ret (results_row_tmpV rfl _ _ w.heap.size 27 KV (.int .i64 0) rfl rfl (setRow_heap _ w.heap.size _ _ _ _ HV3.out.blk) HI.out) rfl ?_
        rw [HE.out]
        refine ⟨HV3.out.set KV, cs, by rw [HKV.out], ?_⟩
        refine valR.stable HRV.out ((Moves.less w3 (av' := fun b => b = w.heap.size ∨ b < w.heap.size) (fun b _ e => ?_)).trans ((Moves.grown (grown_row w3 w.heap.size KV) (.inl rfl)).trans (Moves.less _ fun b _ e => .inr e)))
        have := HW1.out
        show b < w1.heap.size
        rcases e with e | e <;> omega
      | cons y q =>
        have hjI : (j : Int) < (s.size : Int) := by simp at hj hq; omega
        have HE := Lib.hid (show RD = .error 23 from HRD.out)
        clear HRD hj hq
        go_wp2_with (first
          | (refine wpList_store_row rfl _ _ _ rfl w.heap.size KZ rfl (by rw [HKZ.out]; rfl) 27 _ HV3.out.blk HIZ.out (by rw [HKZ.out]) HOZ.out ?_) | fail)
        refine bodyPost_ret (results_row_tmpV rfl _ _ w.heap.size 27 KZ (.int .i64 23) rfl rfl (setRow_heap _ w.heap.size _ _ _ _ HV3.out.blk) HIZ.out) rfl ?_
        rw [HE.out]
        exact ⟨HV3.out.set KZ, by rw [HKZ.out]⟩
end Go.Proofs.Ythpcanibahcghaa
