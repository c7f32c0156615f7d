/- The walk of the law ShaSums: the sum of some parts is the document's of all of them together, however they are cut. -/
import Derived.Test.YtknbbekinpamjaaShaRefSum
import Derived.Test.YtknbbekinpamjaaAgg
set_option linter.unusedVariables false
namespace Go.Proofs.Ytknbbekinpamjaa
open Go.RowKit
attribute [local go_sem ↓] eqlId_eq cvt_eq cutA_eq

theorem AllB.three {w : World} {u v x : Value} {k l m : List UInt8} (hu : SlB w u k) (hv : SlB w v l) (hx : SlB w x m) : AllB w [u, v, x] [k, l, m] := ((AllB.nil w |>.snoc hu).snoc hv).snoc hx

set_option maxRecDepth 100000 in
set_option maxHeartbeats 4000000 in
theorem shaSums_any (A : Option Addr) (n c : Nat) (l : List UInt8) (z : Int) (W0 : World) (hs : Sl W0 1 A n (bytesV l)) (hnc : n ≤ c) (hcm : c ≤ maxLen) (hn : n ≤ 1048576) (wf0 : (Lit.int .i64 z).wf = true) :
    Calls Try.prog 3 #[.slice A n c, .int .i64 z] W0 fun e w' => e = .returned (.bool true) ∧ Below W0.heap.size W0 w' := by
  have HC0 := Lib.hid hcm
  have HS0 := Lib.hid hs
  unfold maxLen at hcm
  clear hs
  go_enter Try.func3, Try.ntmps3
  go_wp2_with fail
  refine (awake_sha _).mono ?_
  rintro e w1 ⟨rfl, hb1⟩
  have HS1 := Lib.hid (HS0.out.below hb1)
  have HB1 := Lib.hid hb1
  clear hb1
  go_upto_if 10 with fail
  go_cut [0] (fun s0 wx => ∃ N, N ≤ n ∧ N ≤ 2000 ∧ s0 = .slice A N c ∧ w1 = wx)
  case first =>
    by_cases h2 : 2000 < n
    · have h2' : (2000 : Int) < (n : Int) := by omega
      have h3' : (2000 : Int) ≤ (c : Int) := by omega
      go_wp2_with fail
      go_meet
      case rel => exact ⟨2000, by omega, by omega, rfl, rfl⟩
    · have h2' : ¬ (2000 : Int) < (n : Int) := by omega
      go_wp2_with fail
      go_meet
      case rel => exact ⟨n, by omega, by omega, rfl, rfl⟩
  case rest =>
    obtain ⟨N, hNn, hN2, rfl, rfl⟩ := hcut
    obtain ⟨L, hL⟩ : ∃ L, L = l.take N := ⟨_, rfl⟩
    have HS2 := Lib.hid (show Sl w1 1 A N (bytesV L) by rw [hL, ← bytesV_take]; simpa using HS1.out.upto hNn)
    have HLN := Lib.hid (show L.length = N by have := HS2.out.1; simpa [bytesV] using this)
    clear hL
    go_upto_region 5 with fail
    go_cut [20] (fun s20 wx => s20 = .bool (decide (z < 0) || decide ((N : Int) < z)) ∧ w1 = wx)
    case first =>
      by_cases h0 : z < 0
      · have h0' : decide (z < 0) = true := by simpa using h0
        go_wp2_with fail
        go_meet
        case rel => exact ⟨by simp [h0], rfl⟩
      · have h0' : decide (z < 0) = false := by simpa using h0
        have h1 := Lib.hid (show (decide (z < 0) || decide ((N : Int) < z)) = decide ((N : Int) < z) by rw [h0']; rfl)
        go_wp2_with fail
        go_meet
        case rel => exact ⟨by rw [h1.out], rfl⟩
    case rest =>
    obtain ⟨rfl, rfl⟩ := hcut
    go_upto_if 20 with fail
    go_cut [1] (fun s1 wx => ∃ k : Nat, k ≤ N ∧ s1 = .int .i64 (k : Int) ∧ w1 = wx)
    case first =>
      by_cases h0 : z < 0 ∨ (N : Int) < z
      · have hd : (decide (z < 0) || decide ((N : Int) < z)) = true := by simpa using h0
        rw [hd]
        go_wp2_with fail
        go_meet
        case rel => exact ⟨0, by omega, rfl, rfl⟩
      · have hd : (decide (z < 0) || decide ((N : Int) < z)) = false := by simp; omega
        rw [hd]
        obtain ⟨k, rfl⟩ : ∃ k : Nat, z = (k : Int) := ⟨z.toNat, by omega⟩
        go_wp2_with fail
        go_meet
        case rel => exact ⟨k, by omega, rfl, rfl⟩
    case rest =>
      obtain ⟨k, hk, rfl, rfl⟩ := hcut
      have hcv := cvt_of HS2.out c
      have hcv2 := hcv
      go_wp2_with fail
      clear hcv hcv2
      refine (refSum_any L (by rw [HLN.out]; omega) w1).mono ?_
      rintro e w2 ⟨rfl, hb2⟩
      have HS3 := Lib.hid (HS2.out.below hb2)
      have HB3 := Lib.hid (HB1.out.trans (hb2.mono HB1.out.size))
      clear hb2
      have HF1 := Lib.hid (show shaG [L].flatten = shaG L by simp)
      have HF3 := Lib.hid (show shaG [L.take k, [], L.drop k].flatten = shaG L by simp)
      have hid32 := shaG_length L
      obtain ⟨SL, hSL⟩ : ∃ SL, SL = shaG L := ⟨_, rfl⟩
      rw [← hSL] at hid32 HF1 HF3 ⊢
      clear hSL
      obtain ⟨KV, hKV⟩ : ∃ KV, KV = (bytesV SL).toArray := ⟨_, rfl⟩
      rw [← hKV]
      have HKV := Lib.hid hKV
      have HKI := Lib.hid (show (Try.prog.info? 25).map (·.size) = some KV.size by rw [hKV]; exact id_size hid32)
      have HKO := Lib.hid (show KV.all (·.oneCell') = true by rw [hKV]; exact id_one _)
      have HKS := Lib.hid (show KV.size = 32 by rw [hKV]; simp [bytesV, hid32])
      have heq : ∀ w : World, eqlId w KV KV = .ok (.bool true) w := fun w => by
        have h := eqlId_of (x := SL) (y := SL) hid32 hid32 w
        rw [beq_self_eq_true] at h
        rw [hKV]; exact h
      clear hKV hid32
      go_upto_region 8 with (refine wpList_store_row rfl _ _ _ rfl w2.heap.size KV rfl rfl 25 _ (heap_alloc_new w2 _) HKI.out (by rw [HKS.out]; rfl) HKO.out ?_)
      rw [World.setRow_alloc_new]
      have HK5 := Lib.hid (Blk.new w2 25 KV)
      have HB5 := Lib.hid (HB3.out.alloc HB3.out.size (.cells KV 25))
      have HS5 := Lib.hid (HS3.out.alloc (.cells KV 25))
      change Code.wp _ _ _ _ (w2.alloc (.cells KV 25))
      generalize w2.alloc (.cells KV 25) = w5 at *
      generalize w2.heap.size = G at *
      have hsu1 : ∀ gg, w5.heap.size = gg → Calls Try.prog 11 #[.slice (some ⟨gg, 0, none⟩) 1 1] (w5.drew.alloc (.cells #[.slice A N c] 22)) fun e w' => e = .returned (.agg KV) ∧ Below w5.heap.size w5 w' := by
        rintro gg rfl
        have z : Below w5.heap.size w5 (w5.drew.alloc (.cells #[.slice A N c] 22)) := (Below.refl _ w5).drew.alloc (by simp) _
        have ht : Sl (w5.drew.alloc (.cells #[.slice A N c] 22)) 1 (some ⟨w5.heap.size, 0, none⟩) 1 [.slice A N c] := Sl.fresh w5.drew #[.slice A N c] 22 (0, 0) 1 1 rfl
        refine (sum_any _ 1 1 _ [L] _ ht ((AllB.nil _).snoc (SlB.of (HS5.out.below z) (by omega) HC0.out)) (by omega) (by have := HLN.out; simp; omega)).mono ?_
        rintro e w' ⟨rfl, hb⟩
        rw [HF1.out, ← HKV.out]
        exact ⟨rfl, z.trans (hb.mono z.size)⟩
      have hsu3 : ∀ (W : World) (gg : Nat), Below w5.heap.size w5 W → W.heap.size = gg → Calls Try.prog 11 #[.slice (some ⟨gg, 0, none⟩) 3 3] (W.alloc (.cells #[.slice A k c, .slice none 0 0, .slice (cutA A c k) (N - k) (c - k)] 22)) fun e w' => e = .returned (.agg KV) ∧ Below w5.heap.size w5 w' := by
        rintro W gg hW rfl
        have z : Below w5.heap.size w5 (W.alloc (.cells #[.slice A k c, .slice none 0 0, .slice (cutA A c k) (N - k) (c - k)] 22)) := hW.alloc hW.size _
        have ht : Sl (W.alloc (.cells #[.slice A k c, .slice none 0 0, .slice (cutA A c k) (N - k) (c - k)] 22)) 1 (some ⟨W.heap.size, 0, none⟩) 3 [.slice A k c, .slice none 0 0, .slice (cutA A c k) (N - k) (c - k)] := Sl.fresh W #[.slice A k c, .slice none 0 0, .slice (cutA A c k) (N - k) (c - k)] 22 (0, 0) 3 1 rfl
        have hcm2 := HC0.out
        have s1 : SlB (W.alloc (.cells #[.slice A k c, .slice none 0 0, .slice (cutA A c k) (N - k) (c - k)] 22)) (.slice A k c) (L.take k) := SlB.of (by have := (HS5.out.below z).upto hk; rw [Nat.mul_one, bytesV_take] at this; exact this) (by omega) hcm2
        have s2 : SlB (W.alloc (.cells #[.slice A k c, .slice none 0 0, .slice (cutA A c k) (N - k) (c - k)] 22)) (.slice none 0 0) [] := SlB.of Sl.nil (Nat.le_refl _) (by simp [maxLen])
        have s3 : SlB (W.alloc (.cells #[.slice A k c, .slice none 0 0, .slice (cutA A c k) (N - k) (c - k)] 22)) (.slice (cutA A c k) (N - k) (c - k)) (L.drop k) := SlB.of (by have := (HS5.out.below z).cut hk (by omega : N ≤ c); rw [bytesV_drop] at this; exact this) (by omega) (by omega)
        refine (sum_any _ 3 3 _ [L.take k, [], L.drop k] _ ht (AllB.three s1 s2 s3) (by omega) (by have := HLN.out; simp; omega)).mono ?_
        rintro e w' ⟨rfl, hb⟩
        rw [HF3.out, ← HKV.out]
        exact ⟨rfl, z.trans (hb.mono z.size)⟩
      have HSU1 := Lib.hid hsu1
      have HSU3 := Lib.hid hsu3
      have hkN : (k : Int) ≤ (N : Int) := by omega
      have hkc : (k : Int) ≤ (c : Int) := by omega
      have h0k : (0 : Int) ≤ (k : Int) := by omega
      clear hsu1 hsu3
      refine wp_region_held (S := fun w => Below w5.heap.size w5 w) (by kernel_rfl) ?_
      change wpAnyH _ _ _ _ _ _ _ _ (World.drew _)
      refine held_take (i := 0) (v := ?_) (a' := ?_) rfl (by kernel_rfl) (by kernel_rfl) (by kernel_rfl) (fun _ _ _ h => h) (by rfl) (Same.below ⟨1, rfl⟩ _) ?_ ?_ ?_
      rotate_left 2
      · (intro w hS; go_simp; try with_reducible rfl)
      · (go_simp; try with_reducible rfl)
      refine held_take (i := 3) (v := ?_) (a' := ?_) rfl (by kernel_rfl) (by kernel_rfl) (by kernel_rfl) (fun _ _ _ h => h) (by rfl) (Same.below ⟨1, rfl⟩ _) ?_ ?_ ?_
      rotate_left 2
      · (intro w hS; refine exec_load_at 25 (.tmp 5) ?_ G 0 ?_ KV _ ((At.of_row HK5.out).below hS HK5.out.lt) Try.underlying25 rfl HKI.out; exact rfl; exact rfl)
      · (go_simp; try with_reducible rfl)
      refine held_ready (rs := [1]) (by kernel_rfl) (by simp) ?_
      refine AllHeld.cons rfl (fun KR hKR => ?_) ?_
      · go_simp
        skip
        refine hKR _ _ ((Below.refl _ w5).drew.alloc (by simp) _) ?_
        clear hKR KR
        refine held_ready (rs := [2]) (by kernel_rfl) (by simp) ?_
        refine AllHeld.cons rfl (fun KR hKR => ?_) ?_
        · go_simp
          refine (HSU1.out _ rfl).mono ?_
          rintro e wa ⟨rfl, HBa⟩
          refine hKR _ _ HBa ?_
          clear hKR KR
          refine held_take (i := 4) (v := ?_) (a' := ?_) rfl (by kernel_rfl) (by kernel_rfl) (by kernel_rfl) (fun _ _ _ h => h) (by rfl) HBa ?_ ?_ ?_
          rotate_left 2
          · (intro w hS; go_simp; try with_reducible rfl)
          · (go_simp; try with_reducible rfl)
          refine held_take (i := 5) (v := ?_) (a' := ?_) rfl (by kernel_rfl) (by kernel_rfl) (by kernel_rfl) (fun _ _ _ h => h) (by rfl) HBa ?_ ?_ ?_
          rotate_left 2
          · (intro w hS; go_simp; try with_reducible rfl)
          · (go_simp; try with_reducible rfl)
          refine held_take (i := 6) (v := ?_) (a' := ?_) rfl (by kernel_rfl) (by kernel_rfl) (by kernel_rfl) (fun _ _ _ h => h) (by rfl) HBa ?_ ?_ ?_
          rotate_left 2
          · (intro w hS; go_simp; try with_reducible rfl)
          · (go_simp; try with_reducible rfl)
          refine held_take (i := 7) (v := ?_) (a' := ?_) rfl (by kernel_rfl) (by kernel_rfl) (by kernel_rfl) (fun _ _ _ h => h) (by rfl) HBa ?_ ?_ ?_
          rotate_left 2
          · (intro w hS; go_simp; try with_reducible rfl)
          · (go_simp; try with_reducible rfl)
          refine held_take (i := 8) (v := ?_) (a' := ?_) rfl (by kernel_rfl) (by kernel_rfl) (by kernel_rfl) (fun _ _ _ h => h) (by rfl) HBa ?_ ?_ ?_
          rotate_left 2
          · (intro w hS; go_simp; try with_reducible rfl)
          · (go_simp; try with_reducible rfl)
          refine held_take (i := 9) (v := ?_) (a' := ?_) rfl (by kernel_rfl) (by kernel_rfl) (by kernel_rfl) (fun _ _ _ h => h) (by rfl) HBa ?_ ?_ ?_
          rotate_left 2
          · (intro w hS; go_simp; try with_reducible rfl)
          · (go_simp; try with_reducible rfl)
          refine held_take (i := 10) (v := ?_) (a' := ?_) rfl (by kernel_rfl) (by kernel_rfl) (by kernel_rfl) (fun _ _ _ h => h) (by rfl) HBa ?_ ?_ ?_
          rotate_left 2
          · (intro w hS; go_simp; try with_reducible rfl)
          · (go_simp; try with_reducible rfl)
          refine held_take (i := 11) (v := ?_) (a' := ?_) rfl (by kernel_rfl) (by kernel_rfl) (by kernel_rfl) (fun _ _ _ h => h) (by rfl) HBa ?_ ?_ ?_
          rotate_left 2
          · (intro w hS; go_simp; try with_reducible rfl)
          · (go_simp; try with_reducible rfl)
          refine held_take (i := 14) (v := ?_) (a' := ?_) rfl (by kernel_rfl) (by kernel_rfl) (by kernel_rfl) (fun _ _ _ h => h) (by rfl) HBa ?_ ?_ ?_
          rotate_left 2
          · (intro w hS; refine exec_load_at 25 (.tmp 5) ?_ G 0 ?_ KV _ ((At.of_row HK5.out).below hS HK5.out.lt) Try.underlying25 rfl HKI.out; exact rfl; exact rfl)
          · (go_simp; try with_reducible rfl)
          refine held_ready (rs := [12]) (by kernel_rfl) (by simp) ?_
          refine AllHeld.cons rfl (fun KR hKR => ?_) ?_
          · go_simp
            skip
            refine hKR _ _ (HBa.alloc HBa.size _) ?_
            clear hKR KR
            refine held_ready (rs := [13]) (by kernel_rfl) (by simp) ?_
            refine AllHeld.cons rfl (fun KR hKR => ?_) ?_
            · go_simp
              refine (HSU3.out wa _ HBa rfl).mono ?_
              rintro e wb ⟨rfl, HBb⟩
              refine hKR _ _ HBb ?_
              clear hKR KR
              refine held_take (i := 15) (v := ?_) (a' := ?_) rfl (by kernel_rfl) (by kernel_rfl) (by kernel_rfl) (fun _ _ _ h => h) (by rfl) HBb ?_ ?_ ?_
              rotate_left 2
              · (intro w hS; go_simp; try with_reducible rfl)
              · (go_simp; try with_reducible rfl)
              refine held_take (i := 16) (v := ?_) (a' := ?_) rfl (by kernel_rfl) (by kernel_rfl) (by kernel_rfl) (fun _ _ _ h => h) (by rfl) HBb ?_ ?_ ?_
              rotate_left 2
              · (intro w hS; go_simp; try with_reducible rfl)
              · (go_simp; try with_reducible rfl)
              refine held_take (i := 17) (v := ?_) (a' := ?_) rfl (by kernel_rfl) (by kernel_rfl) (by kernel_rfl) (fun _ _ _ h => h) (by rfl) HBb ?_ ?_ ?_
              rotate_left 2
              · (intro w hS; go_simp; try with_reducible rfl)
              · (go_simp; try with_reducible rfl)
              refine wpAnyH_done (by kernel_rfl) ?_ _
              go_wp2_with fail
              go_ret
              exact ⟨rfl, HB5.out.trans (HBb.mono HB5.out.size)⟩
            exact AllHeld.nil
          exact AllHeld.nil
        exact AllHeld.nil
      exact AllHeld.nil
end Go.Proofs.Ytknbbekinpamjaa
