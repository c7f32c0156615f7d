/- grain's cursor: bytes that are read. -/
import Derived.Test.YthpcanibahcghaaGrainWrite
import Derived.Test.YthpcanibahcghaaBlk
set_option linter.unusedVariables false
namespace Go.Proofs.Ythpcanibahcghaa
open Go.RowKit
attribute [local go_sem ↓] cutA_eq

/-- the cursor in block gc is at the bytes l -/
structure Cur (w : World) (gc : Nat) (A : Option Addr) (n c : Nat) (l : List UInt8) : Prop where
  blk : Blk w gc 57 #[.slice A n c]
  sl : Sl w 1 A n (bytesV l)
  le : n ≤ c
  max : c ≤ maxLen
  src : 0 < n → ∀ b off sp, A = some ⟨b, off, sp⟩ → b < gc

theorem Cur.len {w : World} {gc : Nat} {A : Option Addr} {n c : Nat} {l : List UInt8} (h : Cur w gc A n c l) : l.length = n := by
  have := h.sl.1; simpa [bytesV_length] using this

/-- a slice of memory that lies ahead of gc is kept where gc alone turns -/
theorem sl_grown {w w' : World} {gc : Nat} {A : Option Addr} {n : Nat} {xs : List Value} (hs : Sl w 1 A n xs) (hsrc : 0 < n → ∀ b off sp, A = some ⟨b, off, sp⟩ → b < gc) (hg : w.grownBy w' (some gc)) : Sl w' 1 A n xs := by
  refine ⟨hs.1, fun hn => ?_⟩
  obtain ⟨b, off, he, hb, hc⟩ := hs.2 hn
  refine ⟨b, off, he, Nat.lt_of_lt_of_le hb hg.size, fun j u hu => ?_⟩
  have := hsrc hn b off none he
  rw [World.cell?_of_block (hg.block b hb (fun e => by have := Option.some.inj e; omega))]
  exact hc j u hu
theorem grown_refl (w : World) (r : Option Nat) : w.grownBy w r := World.grownBy.refl w r
theorem cutA_src {A : Option Addr} {c n gc : Nat} (h : ∀ b off sp, A = some ⟨b, off, sp⟩ → b < gc) : ∀ b off sp, cutA A c n = some ⟨b, off, sp⟩ → b < gc := by
  intro b off sp e
  unfold cutA at e
  split at e
  · exact h b off sp e
  · cases A with
    | none => simp at e
    | some a =>
      have e := congrArg (Option.map Addr.block) e
      simp only [Option.map_some, Option.some.injEq] at e
      have hb : (a.add n).block = a.block := by unfold Addr.add; split <;> rfl
      rw [hb] at e
      have := h a.block a.off a.spot (by cases a; rfl)
      omega

/-- take: the next n bytes -/
theorem take_short {w : World} {gc : Nat} {A : Option Addr} {n c : Nat} {l : List UInt8} (m : Nat) (h : Cur w gc A n c l) (hm : n < m) :
    Calls Try.prog 32 #[.pointer (some ⟨gc, 0, none⟩), .int .u64 (m : Int)] w fun e w' => e = .panicked (stopE 20) ∧ w' = w := by
  have c0 : w.cell? ⟨gc, 0, none⟩ = some (.slice A n c) := h.blk.cell 0
  have hn : n ≤ 9223372036854775807 := by have := h.le; have := h.max; unfold maxLen at *; omega
  have hw : IntKind.u64.wrap (n : Int) = (n : Int) := by rw [wrap_u64]; omega
  have hmI : (n : Int) < (m : Int) := by omega
  go_enter Try.func32, Try.ntmps32
  go_wp2_with fail
  exact ⟨rfl, rfl, rfl⟩
theorem take_any {w : World} {gc : Nat} {A : Option Addr} {n c : Nat} {l : List UInt8} (m : Nat) (h : Cur w gc A n c l) (hm : m ≤ n) :
    Calls Try.prog 32 #[.pointer (some ⟨gc, 0, none⟩), .int .u64 (m : Int)] w fun e w' => e = .returned (.slice A m c) ∧ Sl w' 1 A m (bytesV (l.take m)) ∧ Cur w' gc (cutA A c m) (n - m) (c - m) (l.drop m) ∧ w.grownBy w' (some gc) ∧ w'.heap.size = w.heap.size := by
  have c0 : w.cell? ⟨gc, 0, none⟩ = some (.slice A n c) := h.blk.cell 0
  have f0 := h.blk.frozen 0
  have hn : n ≤ 9223372036854775807 := by have := h.le; have := h.max; unfold maxLen at *; omega
  have hw : IntKind.u64.wrap (n : Int) = (n : Int) := by rw [wrap_u64]; omega
  have hmI : ¬ (n : Int) < (m : Int) := by omega
  have hmI2 : (m : Int) ≤ (n : Int) := by omega
  have hmc : (m : Int) ≤ (c : Int) := by have := h.le; omega
  have hnc : (n : Int) ≤ (c : Int) := by have := h.le; omega
  go_enter Try.func32, Try.ntmps32
  go_wp2_with fail
  go_ret
  have hg := grown_set w gc 0 (.slice (cutA A c m) (n - m) (c - m))
  have h1 := h.sl.upto hm
  rw [Nat.mul_one, bytesV_take] at h1
  have h2 := h.sl.cut hm h.le
  rw [bytesV_drop] at h2
  exact ⟨rfl, sl_grown h1 (fun h0 => h.src (by omega)) hg, ⟨h.blk.set_ 0 _, sl_grown h2 (fun h0 => cutA_src (h.src (by omega))) hg, by have := h.le; omega, by have := h.max; omega, fun h0 => cutA_src (h.src (by omega))⟩, hg, by simp⟩

/-! ### a head -/
theorem u8_and3 (x : UInt8) : bits .and .u8 (x.toNat : Int) 3 = ((x.toNat % 4 : Nat) : Int) := by
  have h := u8_and_nat x.toNat 3 (u8_lt x) (by omega)
  rw [nat_mask2] at h; exact h
theorem u8_and31 (x : UInt8) : bits .and .u8 ((x.toNat : Int) / 4) 31 = ((x.toNat / 4 % 32 : Nat) : Int) := by
  have h := u8_and_nat (x.toNat / 4) 31 (by have := u8_lt x; omega) (by omega)
  rw [nat_mask5] at h
  simpa using h
theorem u8_and127 (x : UInt8) : bits .and .u8 (x.toNat : Int) 127 = ((x.toNat % 128 : Nat) : Int) := by
  have h := u8_and_nat x.toNat 127 (u8_lt x) (by omega)
  rw [nat_mask7] at h; exact h
theorem u64_join {n y s : Nat} (hn : n < 2 ^ s) (h64 : n + y * 2 ^ s < 2 ^ 64) : bits .or .u64 (n : Int) ((y * 2 ^ s : Nat) : Int) = ((n + y * 2 ^ s : Nat) : Int) := by
  have h := u64_or_nat n (y * 2 ^ s) (by omega) (by omega)
  rw [Nat.or_comm, nat_join s (y * 2 ^ s) n (by simp) hn, Nat.add_comm] at h
  exact h

def HeadPost (w : World) (gc : Nat) (r : Res (Nat × Nat × List UInt8)) (e : Ending) (w' : World) : Prop :=
  w.grownBy w' (some gc) ∧ w'.heap.size = w.heap.size ∧ match r with
    | .ok (k, n, l) => e = .returned (.tuple #[.int .i64 (k : Int), .int .u64 (n : Int)]) ∧ ∃ A m c, Cur w' gc A m c l
    | .error z => e = .panicked (stopE z)

theorem grown_trans {w w' w'' : World} {r : Option Nat} (h : w.grownBy w' r) (k : w'.grownBy w'' r) : w.grownBy w'' r := World.grownBy.trans h k

set_option maxRecDepth 100000 in
set_option maxHeartbeats 1000000 in
theorem curHead_any {w : World} {gc : Nat} {A : Option Addr} {n c : Nat} {l : List UInt8} (h : Cur w gc A n c l) :
    Calls Try.prog 31 #[.pointer (some ⟨gc, 0, none⟩)] w (HeadPost w gc (rdH l)) := by
  cases l with
  | nil =>
    have hn : n = 0 := by have := h.len; simpa using this.symm
    go_enter Try.func31, Try.ntmps31
    go_wp2_with fail
    refine (take_short 1 h (by omega)).mono ?_
    rintro e w' ⟨rfl, rfl⟩
    exact ⟨rfl, grown_refl _ _, rfl, rfl⟩
  | cons x r =>
    have hn : 1 ≤ n := by have := h.len; simp at this; omega
    go_enter Try.func31, Try.ntmps31
    go_wp2_with fail
    refine (take_any 1 h hn).mono ?_
    rintro e w1 ⟨rfl, hs1, hc1, hg1, hz1⟩
    obtain ⟨b, off, hA, hb, hcell⟩ := hs1.2 (by omega)
    have c0 := hcell 0 (.int .u8 (x.toNat : Int)) rfl
    subst hA
    rw [Nat.add_zero] at c0
    have a3 := u8_and3 x
    have a31 := u8_and31 x
    have hk4 : x.toNat % 4 < 4 := by omega
    have hRR : rdH (x :: r) = match rdT 5 (x.toNat / 4 % 32) x r with | .ok (n, q) => .ok (x.toNat % 4, n, q) | .error e => .error e := rfl
    obtain ⟨RR, hRR2⟩ : ∃ RR, RR = rdT 5 (x.toNat / 4 % 32) x r := ⟨_, rfl⟩
    rw [← hRR2] at hRR
    have HRR := Lib.hid hRR
    have HR2 := Lib.hid hRR2.symm
    obtain ⟨kk, hkk⟩ : ∃ kk, kk = x.toNat % 4 := ⟨_, rfl⟩
    obtain ⟨nn, hnn⟩ : ∃ nn, nn = x.toNat / 4 % 32 := ⟨_, rfl⟩
    rw [← hkk] at a3 HRR
    rw [← hnn] at a31 HR2
    have hnn32 : nn < 2 ^ 5 := by omega
    have hkk4 : kk < 4 := by omega
    have hc1' : Cur w1 gc (cutA (some ⟨b, off, none⟩) c 1) (n - 1) (c - 1) r := hc1
    have HC1 := Lib.hid hc1'
    clear hRR hRR2 hkk hnn hk4 hcell h hs1 hc1 hc1'
    go_wp2_with fail
    clear a3 a31 c0
    go_loopw [4, 6, 7] (fun s4 s6 s7 wr => ∃ (y : UInt8) (q s : Nat) (A' : Option Addr) (m' c' : Nat) (l' : List UInt8), s4 = .int .u8 (y.toNat : Int) ∧ s6 = .int .u64 (q : Int) ∧ s7 = .int .i64 (s : Int) ∧ Hid (rdT s q y l' = RR) ∧ s % 7 = 5 ∧ s ≤ 68 ∧ (s ≤ 61 ∨ y.toNat < 128) ∧ Hid (s ≤ 61 → q < 2 ^ s) ∧ q < 2 ^ 64 ∧ Hid (Cur wr gc A' m' c' l') ∧ w.grownBy wr (some gc) ∧ wr.heap.size = w.heap.size)
      (fun s4 s6 s7 wr => 100 - (intOf s7).toNat)
    case atStart => exact ⟨x, nn, 5, _, _, _, r, rfl, rfl, rfl, HR2, by omega, by omega, .inl (by omega), Lib.hid (fun _ => hnn32), by omega, HC1, hg1, hz1⟩
    case round =>
      obtain ⟨y, q, s, A', m', c', l', rfl, rfl, rfl, HD, hs5, hs68, hs61, HQ, hq64, HC, hg, hz⟩ := hrel
      have HZ := Lib.hid hz
      clear hz
      by_cases hy : y.toNat < 128
      · have hyI : (y.toNat : Int) < 128 := by omega
        have hrt := HD.out
        rw [rdT_end hy] at hrt
        have HRT := Lib.hid hrt
        clear hrt HD
        go_wp2_with fail
        go_ret2
        refine ⟨hg, HZ.out, ?_⟩
        rw [HRR.out, ← HRT.out]
        exact ⟨rfl, _, _, _, HC.out⟩
      · have hyI : ¬ (y.toNat : Int) < 128 := by omega
        have hyI2 : (128 : Int) ≤ (y.toNat : Int) := by omega
        have hs : s ≤ 61 := by omega
        cases l' with
        | nil =>
          have hrt := HD.out
          rw [rdT_short hy] at hrt
          have HRT := Lib.hid hrt
          have hm0 : m' = 0 := by have := HC.out.len; simpa using this.symm
          clear hrt HD
          go_wp2_with fail
          refine (take_short 1 HC.out (by omega)).mono ?_
          rintro e w' ⟨rfl, rfl⟩
          refine ⟨rfl, hg, HZ.out, ?_⟩
          rw [HRR.out, ← HRT.out]
        | cons y2 l2 =>
          have hrt := HD.out
          rw [rdT_more hy] at hrt
          have HRT := Lib.hid hrt
          have hm1 : 1 ≤ m' := by have := HC.out.len; simp at this; omega
          clear hrt HD
          go_wp2_with fail
          refine (take_any 1 HC.out hm1).mono ?_
          rintro e w2 ⟨rfl, hs2, hc2, hg2, hz2⟩
          obtain ⟨b2, off2, hA2, hb2, hcell2⟩ := hs2.2 (by omega)
          have d0 := hcell2 0 (.int .u8 (y2.toNat : Int)) rfl
          subst hA2
          rw [Nat.add_zero] at d0
          have HC2 : Hid (Cur w2 gc (cutA (some ⟨b2, off2, none⟩) c' 1) (m' - 1) (c' - 1) l2) := Lib.hid hc2
          have hgg := World.grownBy.trans hg hg2
          have HZ2 := Lib.hid (show w2.heap.size = w.heap.size by rw [hz2]; exact HZ.out)
          clear hcell2 hs2 hc2 HC hg hg2 hz2 HZ
          by_cases hbad : y2.toNat = 0 ∨ (s = 61 ∧ 7 < y2.toNat)
          · have hrt := HRT.out
            rw [if_pos hbad] at hrt
            have HRE := Lib.hid hrt
            clear hrt HRT
            have hend : HeadPost w gc (rdH (x :: r)) (.panicked (stopE 21)) w2 := by
              refine ⟨hgg, HZ2.out, ?_⟩
              rw [HRR.out, ← HRE.out]
            have HEND := Lib.hid hend
            clear hend HRE HRR
            by_cases h0 : y2.toNat = 0
            · have e0 : ((y2.toNat : Int) == 0) = true := by simp [h0]
              have e1 : (y2.toNat : Int) = 0 := by omega
              clear hbad
              go_wp2_with fail
              exact ⟨rfl, HEND.out⟩
            · have e0 : ((y2.toNat : Int) == 0) = false := by simp [h0]
              have e61 : ((s : Int) == 61) = true := by simp; omega
              have h7 : (7 : Int) < (y2.toNat : Int) := by omega
              clear hbad h0
              go_wp2_with fail
              exact ⟨rfl, HEND.out⟩
          · have hrt := HRT.out
            rw [if_neg hbad] at hrt
            obtain ⟨z2, hz2⟩ : ∃ z2, z2 = y2.toNat % 128 := ⟨_, rfl⟩
            have a127 := u8_and127 y2
            rw [← hz2] at a127 hrt
            have hp : (2 : Nat) ^ s ≤ 2 ^ 61 := Nat.pow_le_pow_right (by omega) hs
            have hzl : z2 < 128 := by omega
            have hqs := HQ.out hs
            have hV64 : q + z2 * 2 ^ s < 2 ^ 64 := by
              by_cases h61 : s = 61
              · subst h61
                have : z2 ≤ 7 := by omega
                have := Nat.mul_le_mul_right (2 ^ 61) this
                omega
              · have h54 : s ≤ 54 := by omega
                have h1 : (2 : Nat) ^ s ≤ 2 ^ 54 := Nat.pow_le_pow_right (by omega) h54
                have h2 := Nat.mul_le_mul (show z2 ≤ 127 by omega) h1
                omega
            have hV7 : q + z2 * 2 ^ s < 2 ^ (s + 7) := by
              have h1 : z2 * 2 ^ s ≤ 127 * 2 ^ s := Nat.mul_le_mul_right _ (by omega)
              rw [Nat.pow_add]; omega
            have hor := u64_join hqs hV64
            have hsh : IntKind.u64.wrap ((z2 : Int) * 2 ^ s) = ((z2 * 2 ^ s : Nat) : Int) := by
              rw [wrap_u64]
              have : ((z2 : Int) * 2 ^ s) = ((z2 * 2 ^ s : Nat) : Int) := by simp
              rw [this]
              omega
            obtain ⟨T, hT⟩ : ∃ T, T = z2 * 2 ^ s := ⟨_, rfl⟩
            rw [← hT] at hor hsh hV64 hV7 hrt
            obtain ⟨V, hV⟩ : ∃ V, V = q + T := ⟨_, rfl⟩
            rw [← hV] at hor hV64 hV7 hrt
            have HRN := Lib.hid hrt
            have HQ2 : Hid (s + 7 ≤ 61 → V < 2 ^ (s + 7)) := Lib.hid (fun _ => hV7)
            have hs612 : s + 7 ≤ 61 ∨ y2.toNat < 128 := by
              by_cases h61 : s = 61
              · right; omega
              · left; omega
            have e0 : ((y2.toNat : Int) == 0) = false := by simp; omega
            clear hrt HRT hT hV hz2 hp hqs HQ hV7
            by_cases h61 : s = 61
            · have e61 : ((s : Int) == 61) = true := by simp [h61]
              have h7 : ¬ (7 : Int) < (y2.toNat : Int) := by omega
              have HS := Lib.hid h61
              clear hbad h61
              go_wp2_with fail
              go_roundw
              case rel => exact ⟨y2, V, s + 7, _, _, _, l2, rfl, rfl, by go_num, HRN, by omega, by omega, hs612, HQ2, hV64, HC2, hgg, HZ2.out⟩
              case measure => simp [intOf]; omega
            · have e61 : ((s : Int) == 61) = false := by simp; omega
              clear hbad
              go_wp2_with fail
              go_roundw
              case rel => exact ⟨y2, V, s + 7, _, _, _, l2, rfl, rfl, by go_num, HRN, by omega, by omega, hs612, HQ2, hV64, HC2, hgg, HZ2.out⟩
              case measure => simp [intOf]; omega
end Go.Proofs.Ythpcanibahcghaa
