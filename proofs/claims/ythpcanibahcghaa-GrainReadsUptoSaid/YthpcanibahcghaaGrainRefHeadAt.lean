/- towlineref02.head: a head read at a place of a string. -/
import Derived.Test.YthpcanibahcghaaGrainRefHead
import Derived.Test.YthpcanibahcghaaGrainLaws
set_option linter.unusedVariables false
namespace Go.Proofs.Ythpcanibahcghaa
open Go.RowKit

theorem list_at (s : ByteArray) (k : Nat) (hk : k < s.size) : s.data.toList.drop k = (s[k]'hk) :: s.data.toList.drop (k + 1) :=
  List.drop_eq_getElem_cons (by simpa using hk)

def HeadAt (w : World) (s : ByteArray) (i : Nat) (r : Res (Nat × Nat × List UInt8)) (e : Ending) (w' : World) : Prop :=
  Below w.heap.size w w' ∧ match r with
    | .ok (k, n, q) => e = .returned (.tuple #[.int .i64 (k : Int), .int .u64 (n : Int), .int .i64 ((s.size - q.length : Nat) : Int), .int .i64 0])
    | .error z => e = .returned (.tuple #[.int .i64 0, .int .u64 0, .int .i64 (i : Int), .int .i64 z])

theorem results_tmp4 {fn : Func} {t u v x : Tmp} (h : fn.results = #[.tmp t, .tmp u, .tmp v, .tmp x]) (tmps : Array Value) (P : Program) (w : World) :
    (results fn tmps).run P w = .ok (.tuple #[tmps.getD t undef, tmps.getD u undef, tmps.getD v undef, tmps.getD x undef]) w := by
  simp [results, h]
theorem headAt_ok {w w' : World} {s : ByteArray} {i j k n : Nat} {q : List UInt8} {r : Res (Nat × Nat × List UInt8)} (h : Below w.heap.size w w') (hr : r = .ok (k, n, q)) (hj : s.size - q.length = j) :
    HeadAt w s i r (.returned (.tuple #[.int .i64 (k : Int), .int .u64 (n : Int), .int .i64 (j : Int), .int .i64 0])) w' := by
  subst hr hj
  exact ⟨h, rfl⟩
theorem headAt_err {w w' : World} {s : ByteArray} {i : Nat} {z : Int} {r : Res (Nat × Nat × List UInt8)} (h : Below w.heap.size w w') (hr : r = .error z) :
    HeadAt w s i r (.returned (.tuple #[.int .i64 0, .int .u64 0, .int .i64 (i : Int), .int .i64 z])) w' := by
  subst hr
  exact ⟨h, rfl⟩

set_option maxRecDepth 100000 in
set_option maxHeartbeats 2000000 in
theorem refHeadAt_any (q0 : ByteArray) (i : Nat) (w : World) (hi : i ≤ q0.size) (hs : q0.size ≤ 1048576) :
    Calls Try.prog 34 #[.string q0, .int .i64 (i : Int)] w (HeadAt w q0 i (rdH (q0.data.toList.drop i))) := by
  by_cases hlt : i < q0.size
  · have hI : ¬ (q0.size : Int) ≤ (i : Int) := by omega
    have hd := list_at q0 i hlt
    obtain ⟨x, hx⟩ : ∃ x, x = q0[i]'hlt := ⟨_, rfl⟩
    have hx' := hx.symm
    rw [← hx] at hd
    obtain ⟨r, hr⟩ : ∃ r, r = q0.data.toList.drop (i + 1) := ⟨_, rfl⟩
    rw [← hr] at hd
    have hRR : rdH (x :: r) = match rdT 5 (x.toNat / 4 % 32) x r with | .ok (n, q) => .ok (x.toNat % 4, n, q) | .error e => .error e := rfl
    obtain ⟨RR, hRR2⟩ : ∃ RR, RR = rdT 5 (x.toNat / 4 % 32) x r := ⟨_, rfl⟩
    rw [← hRR2] at hRR
    rw [hd]
    obtain ⟨kk, hkk⟩ : ∃ kk, kk = x.toNat % 4 := ⟨_, rfl⟩
    obtain ⟨nn, hnn⟩ : ∃ nn, nn = x.toNat / 4 % 32 := ⟨_, rfl⟩
    rw [← hkk] at hRR
    rw [← hnn] at hRR2
    have hnn32 : nn < 2 ^ 5 := by omega
    have hkk4 : kk < 4 := by omega
    have HRR := Lib.hid hRR
    have HR2 := Lib.hid hRR2.symm
    have HD0 := Lib.hid hd
    have HR := Lib.hid hr
    have e1 : (x.toNat : Int) % 4 = (kk : Int) := by omega
    have e2 : (x.toNat : Int) / 4 % 32 = (nn : Int) := by omega
    have hx256 := u8_lt x
    clear hRR hRR2 hkk hnn hd hr hx
    go_enter Try.func34, Try.ntmps34
    go_wp2_with fail
    clear e1 e2
    go_loopw [8, 10, 11, 12] (fun s8 s10 s11 s12 wr => ∃ (y : UInt8) (q k pl s : Nat), s8 = .int .i64 (y.toNat : Int) ∧ s10 = .int .u64 (q : Int) ∧ s11 = .int .u64 (pl : Int) ∧ s12 = .int .i64 (k : Int) ∧ Hid (s + 2 = 7 * k) ∧ 1 ≤ k ∧ k ≤ 10 ∧ i + k ≤ q0.size ∧ Hid (rdT s q y (q0.data.toList.drop (i + k)) = RR) ∧ Hid (pl = 2 ^ s % 2 ^ 64) ∧ (k ≤ 9 ∨ y.toNat < 128) ∧ Hid (k ≤ 9 → q < 2 ^ s) ∧ q < 2 ^ 64 ∧ pl < 2 ^ 64 ∧ Below w.heap.size w wr)
      (fun s8 s10 s11 s12 wr => 100 - (intOf s12).toNat)
    case atStart => exact ⟨x, nn, 1, 32, 5, rfl, rfl, rfl, rfl, Lib.hid rfl, by omega, by omega, by omega, by rw [← HR.out]; exact HR2, Lib.hid (by decide), .inl (by omega), Lib.hid (fun _ => hnn32), by omega, by omega, Below.refl _ _⟩
    case round =>
      obtain ⟨y, q, k, pl, s, rfl, rfl, rfl, rfl, HSK, hk1, hk10, hik, HD, HP, hk9, HQ, hq64, hpl64, hbl⟩ := hrel
      have hy256 := u8_lt y
      by_cases hy : y.toNat < 128
      · have hyI : ¬ (128 : Int) ≤ (y.toNat : Int) := by omega
        have hrt := HD.out
        rw [rdT_end hy] at hrt
        have HRT := Lib.hid hrt
        have hb : rdH (x :: r) = .ok (kk, q, q0.data.toList.drop (i + k)) := by rw [HRR.out, ← hrt]
        obtain ⟨hb1, hb2, hb3⟩ := rdH_back hb
        rw [← HD0.out] at hb1
        have hln : (headL kk q).length = k := by
          have := congrArg List.length hb1
          simp at this
          omega
        obtain ⟨j, hj⟩ : ∃ j, j = i + k := ⟨_, rfl⟩
        have HPOST := Lib.hid (fun w' (h : Below w.heap.size w w') => headAt_ok (s := q0) (i := i) h hb (show q0.size - (q0.data.toList.drop (i + k)).length = j by simp; omega))
        have HC := Lib.hid (fun w => refHead_any kk q w hkk4 hb3)
        obtain ⟨S, hS⟩ : ∃ S, S = strL (headL kk q) := ⟨_, rfl⟩
        have hSz : S.size = k := by rw [hS, strL_size, hln]
        rw [← hS] at HC
        clear hrt HD hb hb1 hb2 hln hS HRR HRT
        have hsum : (i : Int) + (k : Int) = (j : Int) := by omega
        have hsum2 : j ≤ 1048576 := by omega
        clear hj
        go_wp2_with fail
        refine (HC.out _).mono ?_
        rintro e w2 ⟨rfl, hb2⟩
        have hbb := hbl.trans (hb2.mono hbl.size)
        go_wp2_with fail
        (try simp only [Exit.inBlock, Exit.then])
        refine bodyPost_ret (results_tmp4 rfl _ _ _) rfl ?_
        exact HPOST.out _ hbb
      · have hyI : (128 : Int) ≤ (y.toNat : Int) := by omega
        have hk : k ≤ 9 := by omega
        by_cases hend : i + k < q0.size
        · have hcmp : ¬ (q0.size : Int) ≤ (i : Int) + (k : Int) := by omega
          have hix0 : (0 : Int) ≤ (i : Int) + (k : Int) := by omega
          have hix1 : (i : Int) + (k : Int) < (q0.size : Int) := by omega
          have hixn : ((i : Int) + (k : Int)).toNat = i + k := by omega
          have hat := list_at q0 (i + k) hend
          obtain ⟨y2, hy2⟩ : ∃ y2, y2 = q0[i + k]'hend := ⟨_, rfl⟩
          rw [← hy2] at hat
          have hy2' := hy2.symm
          have hrt := HD.out
          rw [hat, rdT_more hy] at hrt
          have HRT := Lib.hid hrt
          have hy2256 := u8_lt y2
          clear hrt HD hat hy2
          by_cases hbad : y2.toNat = 0 ∨ (s = 61 ∧ 7 < y2.toNat)
          · have hrt := HRT.out
            rw [if_pos hbad] at hrt
            have HPOST := Lib.hid (fun w' (h : Below w.heap.size w w') => headAt_err (s := q0) (i := i) h (show rdH (x :: r) = .error 21 by rw [HRR.out, ← hrt]))
            clear hrt HRT HRR
            by_cases h0 : y2.toNat = 0
            · have e0 : ((y2.toNat : Int) == 0) = true := by simp [h0]
              have e1 : (y2.toNat : Int) = 0 := by omega
              clear hbad
              go_wp2_with fail
              (try simp only [Exit.inBlock, Exit.then])
              refine bodyPost_ret (results_tmp4 rfl _ _ _) rfl ?_
              exact HPOST.out _ hbl
            · have e0 : ((y2.toNat : Int) == 0) = false := by simp [h0]
              have h9 := Lib.hid (show k = 9 by have := HSK.out; omega)
              have e61 : ((k : Int) == 9) = true := by have := h9.out; simp; omega
              have h7 : (7 : Int) < (y2.toNat : Int) := by omega
              clear hbad h0
              go_wp2_with fail
              (try simp only [Exit.inBlock, Exit.then])
              refine bodyPost_ret (results_tmp4 rfl _ _ _) rfl ?_
              exact HPOST.out _ hbl
          · have hrt := HRT.out
            rw [if_neg hbad] at hrt
            have hsk := HSK.out
            have hp := HP.out
            have hqs := HQ.out hk
            have hsle : s ≤ 61 := by omega
            have hpow : (2 : Nat) ^ s ≤ 2 ^ 61 := Nat.pow_le_pow_right (by omega) hsle
            have hple : pl = 2 ^ s := by rw [hp]; omega
            obtain ⟨z2, hz2⟩ : ∃ z2, z2 = y2.toNat % 128 := ⟨_, rfl⟩
            rw [← hz2] at hrt
            have hzl : z2 < 128 := by omega
            have hV64 : q + z2 * 2 ^ s < 2 ^ 64 := by
              by_cases h61 : s = 61
              · subst h61
                have : z2 ≤ 7 := by omega
                have := Nat.mul_le_mul_right (2 ^ 61) this
                omega
              · have h54 : s ≤ 54 := by omega
                have h1 : (2 : Nat) ^ s ≤ 2 ^ 54 := Nat.pow_le_pow_right (by omega) h54
                have h2 := Nat.mul_le_mul (show z2 ≤ 127 by omega) h1
                omega
            have hV7 : q + z2 * 2 ^ s < 2 ^ (s + 7) := by
              have h1 : z2 * 2 ^ s ≤ 127 * 2 ^ s := Nat.mul_le_mul_right _ (by omega)
              rw [Nat.pow_add]; omega
            have hpl2 : pl * 128 % 2 ^ 64 = 2 ^ (s + 7) % 2 ^ 64 := by rw [hple, Nat.pow_add]
            rw [← hple] at hrt hV64 hV7
            obtain ⟨T, hT⟩ : ∃ T, T = z2 * pl := ⟨_, rfl⟩
            have hTI : (z2 : Int) * (pl : Int) = (T : Int) := by rw [hT]; simp
            rw [← hT] at hrt hV64 hV7
            obtain ⟨V, hV⟩ : ∃ V, V = q + T := ⟨_, rfl⟩
            have hVI : (q : Int) + (T : Int) = (V : Int) := by omega
            rw [← hV] at hV64 hV7 hrt
            obtain ⟨pl2, hpl2e⟩ : ∃ pl2, pl2 = pl * 128 % 2 ^ 64 := ⟨_, rfl⟩
            have HP2 := Lib.hid (hpl2e.trans hpl2)
            have hpl264 : pl2 < 2 ^ 64 := by omega
            have hplI : IntKind.u64.wrap ((pl : Int) * 128) = (pl2 : Int) := by rw [wrap_u64]; omega
            have HRN := Lib.hid (show rdT (s + 7) V y2 (q0.data.toList.drop (i + (k + 1))) = RR from hrt)
            have HQ2 : Hid (k + 1 ≤ 9 → V < 2 ^ (s + 7)) := Lib.hid (fun _ => hV7)
            have HSK2 : Hid (s + 7 + 2 = 7 * (k + 1)) := Lib.hid (by omega)
            have hk92 : k + 1 ≤ 9 ∨ y2.toNat < 128 := by
              by_cases h61 : k = 9
              · right; omega
              · left; omega
            have e0 : ((y2.toNat : Int) == 0) = false := by simp; omega
            have em : (y2.toNat : Int) % 128 = (z2 : Int) := by omega
            have hT64 : T < 2 ^ 64 := by omega
            have hk9b : k ≠ 9 ∨ ¬ 7 < y2.toNat := by omega
            clear hrt HRT hT hV hz2 hp hqs HQ hV7 hsk hpow hple hpl2 hpl2e hbad HRR
            by_cases h61 : k = 9
            · have e61 : ((k : Int) == 9) = true := by simp [h61]
              have h7 : ¬ (7 : Int) < (y2.toNat : Int) := by omega
              have HS := Lib.hid h61
              clear h61 hk9b
              go_wp2_with fail
              go_roundw
              case rel => exact ⟨y2, V, k + 1, pl2, s + 7, rfl, rfl, rfl, by go_num, HSK2, by omega, by omega, by omega, HRN, HP2, hk92, HQ2, hV64, hpl264, hbl⟩
              case measure => simp [intOf]; omega
            · have e61 : ((k : Int) == 9) = false := by simp; omega
              clear hk9b
              go_wp2_with fail
              go_roundw
              case rel => exact ⟨y2, V, k + 1, pl2, s + 7, rfl, rfl, rfl, by go_num, HSK2, by omega, by omega, by omega, HRN, HP2, hk92, HQ2, hV64, hpl264, hbl⟩
              case measure => simp [intOf]; omega
        · have hcmp : (q0.size : Int) ≤ (i : Int) + (k : Int) := by omega
          have hz : q0.data.toList.drop (i + k) = [] := List.drop_of_length_le (by simp; omega)
          have hrt := HD.out
          rw [hz, rdT_short hy] at hrt
          have HPOST := Lib.hid (fun w' (h : Below w.heap.size w w') => headAt_err (s := q0) (i := i) h (show rdH (x :: r) = .error 20 by rw [HRR.out, ← hrt]))
          clear hrt HD HRR hz
          go_wp2_with fail
          (try simp only [Exit.inBlock, Exit.then])
          refine bodyPost_ret (results_tmp4 rfl _ _ _) rfl ?_
          exact HPOST.out _ hbl
  · have hI : (q0.size : Int) ≤ (i : Int) := by omega
    have hz : q0.data.toList.drop i = [] := List.drop_of_length_le (by simp; omega)
    rw [hz]
    clear hz
    go_enter Try.func34, Try.ntmps34
    go_wp2_with fail
    (try simp only [Exit.inBlock, Exit.then])
    refine bodyPost_ret (results_tmp4 rfl _ _ _) rfl ?_
    exact headAt_err (Below.refl _ _) rfl
end Go.Proofs.Ythpcanibahcghaa
