/- towlineref01.digits. -/
import Derived.Test.YtehminpiejophaaDoorStampRefDec
import Derived.OwnWalk
set_option linter.unusedVariables false
set_option linter.unusedSimpArgs false
namespace Go.Proofs.YtehminpiejophaaDoor
open Go.RowKit

theorem strL_at {l : List UInt8} {i : Nat} {x : UInt8} (h : l[i]? = some x) {q : ByteArray} (hq : q = strL l) (hi : i < q.size) : q[i] = x := by
  subst hq
  have h2 : l[i]? = some ((strL l)[i]) := by
    obtain ⟨h3, _⟩ := List.getElem?_eq_some_iff.1 h
    rw [List.getElem?_eq_getElem h3]; rfl
  rw [h] at h2; exact (Option.some.inj h2).symm
theorem u8_ne {x y : UInt8} (h : x ≠ y) : ((x.toNat : Int) == (y.toNat : Int)) = false := by
  simp
  intro e
  exact h (UInt8.toNat_inj.1 (by omega))
def digC (c : UInt8) : Bool := decide (48 ≤ c.toNat) && decide (c.toNat ≤ 57)
def digP (l : List UInt8) (most : Nat) : Option Nat := if l = [] ∨ most < l.length ∨ (1 < l.length ∧ l.head? = some 48) then none else if l.all digC then some (valD 0 l) else none
theorem all_digs {l : List UInt8} (h : l.all digC = true) : Digs l := fun c hc => by
  have := List.all_eq_true.1 h c hc
  simp [digC] at this
  exact this
theorem digs_all {l : List UInt8} (h : Digs l) : l.all digC = true := List.all_eq_true.2 fun c hc => by
  have := h c hc
  simp [digC]
  exact this
theorem valD_lt {l : List UInt8} (h : Digs l) : ∀ {k : Nat}, l.length ≤ k → valD 0 l < 10 ^ k := by
  suffices hh : ∀ (l : List UInt8) (acc k : Nat), Digs l → acc < 10 ^ k → valD acc l < 10 ^ (k + l.length) from fun {k} hk => by
    have := hh l 0 0 h (by decide)
    rw [Nat.zero_add] at this
    exact Nat.lt_of_lt_of_le this (Nat.pow_le_pow_right (by decide) hk)
  intro l
  induction l with
  | nil => intro acc k _ ha; exact ha
  | cons c r ih =>
    intro acc k hd ha
    have hc := hd c (List.mem_cons_self ..)
    have := ih (acc * 10 + (c.toNat - 48)) (k + 1) (fun x hx => hd x (List.mem_cons_of_mem _ hx)) (by rw [Nat.pow_succ]; omega)
    rw [List.length_cons, show k + (r.length + 1) = k + 1 + r.length by omega]
    exact this
theorem valD_take {l : List UInt8} {k : Nat} {x : UInt8} (h : l[k]? = some x) : valD 0 (l.take (k + 1)) = valD 0 (l.take k) * 10 + (x.toNat - 48) := by
  rw [List.take_add_one, h]
  exact valD_snoc _ _ _
theorem all_take {l : List UInt8} {k : Nat} {x : UInt8} (h : l[k]? = some x) : (l.take (k + 1)).all digC = ((l.take k).all digC && digC x) := by
  rw [List.take_add_one, h, List.all_append]
  simp
theorem all_not {l : List UInt8} {k : Nat} {x : UInt8} (h : l[k]? = some x) (hx : digC x = false) : l.all digC = false := by
  cases e : l.all digC with
  | false => rfl
  | true =>
    have := List.all_eq_true.1 e x (List.mem_of_getElem? h)
    rw [hx] at this; cases this

set_option maxRecDepth 100000 in
set_option maxHeartbeats 4000000 in
theorem refDigits_any (l : List UInt8) (most : Nat) (w : World) (hl : l.length ≤ 4294967280) (hm : most ≤ 16) :
    Calls Tryd.prog 28 #[.string (strL l), .int .i64 (most : Int)] w fun e w' => e = .returned (.tuple #[.int .u64 (((digP l most).getD 0 : Nat) : Int), .bool (digP l most).isSome]) ∧ w' = w := by
  obtain ⟨q, hq⟩ : ∃ q, q = strL l := ⟨_, rfl⟩
  obtain ⟨n, hn⟩ : ∃ n, n = l.length := ⟨_, rfl⟩
  have hqn : q.size = n := by rw [hq, strL_size, hn]
  have hn2 : (n : Int) ≤ 4294967280 := by omega
  obtain ⟨R, hR⟩ : ∃ R, R = digP l most := ⟨_, rfl⟩
  rw [← hR, ← hq]
  by_cases h0 : n = 0
  · have hl0 : l = [] := List.eq_nil_of_length_eq_zero (by omega)
    have hR0 : R = none := by rw [hR]; unfold digP; rw [if_pos (.inl hl0)]
    have hq0 : q.toList.isEmpty = true := by rw [hq, toList_strL, hl0]; rfl
    subst hR0
    clear hR hq hn hl0
    go_enter Tryd.func28, Tryd.ntmps28
    go_wp2_with fail
    go_ret2
    exact ⟨rfl, by first | trivial | rfl⟩
  · have hq0 : q.toList.isEmpty = false := by rw [hq, toList_strL]; cases l with
      | nil => simp at hn; omega
      | cons c r => rfl
    have hlne : l ≠ [] := fun h => h0 (by rw [hn, h]; rfl)
    by_cases h1 : most < n
    · have hR0 : R = none := by rw [hR]; unfold digP; rw [if_pos (.inr (.inl (by omega)))]
      have h1I : (most : Int) < (n : Int) := by omega
      subst hR0
      clear hR hq hn hlne
      go_enter Tryd.func28, Tryd.ntmps28
      go_wp2_with fail
      go_ret2
      exact ⟨rfl, by first | trivial | rfl⟩
    · have h1I : ¬ (most : Int) < (n : Int) := by omega
      obtain ⟨x, hx⟩ : ∃ x, l[0]? = some x := ⟨_, List.getElem?_eq_getElem (by omega)⟩
      have hiq : 0 < q.size := by omega
      have hqx : q[0] = x := strL_at hx hq hiq
      have hhd : l.head? = some x := by rw [List.head?_eq_getElem?]; exact hx
      by_cases h2 : 1 < n ∧ x = 48
      · have hR0 : R = none := by rw [hR]; unfold digP; rw [if_pos (.inr (.inr ⟨by omega, by rw [hhd, h2.2]⟩))]
        have hx48 : ((x.toNat : Int) == 48) = true := by rw [h2.2]; rfl
        have h2I : (1 : Int) < (n : Int) := by omega
        subst hR0
        clear hR hq hn hlne hx hhd h2
        go_enter Tryd.func28, Tryd.ntmps28
        go_wp2_with fail
        go_ret2
        exact ⟨rfl, by first | trivial | rfl⟩
      · have hR0 : R = if l.all digC then some (valD 0 l) else none := by
          rw [hR]; unfold digP
          rw [if_neg]
          rintro (h | h | ⟨h, h'⟩)
          · exact hlne h
          · omega
          · rw [hhd] at h'; exact h2 ⟨by omega, Option.some.inj h'⟩
        have HR := Lib.hid hR0
        have hcase : (¬ (1 : Int) < (n : Int)) ∨ ((1 : Int) < (n : Int) ∧ ((x.toNat : Int) == 48) = false) := by
          by_cases h : 1 < n
          · exact .inr ⟨by omega, u8_ne (y := 48) fun e => h2 ⟨h, e⟩⟩
          · exact .inl (by omega)
        have HQ := Lib.hid hq
        have HN := Lib.hid hn
        clear hR hR0 hlne hhd h2 hq hn hx
        rcases hcase with hc | ⟨hc, hc2⟩
        all_goals
          go_enter Tryd.func28, Tryd.ntmps28
          go_wp2_with fail
          clear hc hqx
          go_loopw [6, 7] (fun s6 s7 wr => ∃ k v : Nat, k ≤ n ∧ s7 = .int .i64 (k : Int) ∧ s6 = .int .u64 (v : Int) ∧ v < 10000000000000000 ∧ Hid (v = valD 0 (l.take k) ∧ (l.take k).all digC = true) ∧ wr = w) (fun s6 s7 wr => n - (intOf s7).toNat)
          case atStart => exact ⟨0, 0, by omega, rfl, rfl, by decide, Lib.hid ⟨rfl, rfl⟩, rfl⟩
          case round =>
            obtain ⟨k, v, hk, rfl, rfl, hv, HV, rfl⟩ := hrel
            by_cases hlt : k < n
            · have hkI : (k : Int) < (n : Int) := by omega
              obtain ⟨y, hy⟩ : ∃ y, l[k]? = some y := ⟨_, List.getElem?_eq_getElem (by have := HN.out; omega)⟩
              have hkq : k < q.size := by omega
              have hqy : q[k] = y := strL_at hy HQ.out hkq
              by_cases hd : digC y = true
              · have hd2 : 48 ≤ y.toNat ∧ y.toNat ≤ 57 := by simpa [digC] using hd
                obtain ⟨d, hdd⟩ : ∃ d, d = y.toNat - 48 := ⟨_, rfl⟩
                have y1 : ¬ (y.toNat : Int) < 48 := by omega
                have y2 : ¬ (57 : Int) < (y.toNat : Int) := by omega
                have y3 : (y.toNat : Int) - 48 = (d : Int) := by omega
                have hd9 : d ≤ 9 := by omega
                have HV2 := Lib.hid (show v * 10 + d = valD 0 (l.take (k + 1)) ∧ (l.take (k + 1)).all digC = true by
                  rw [valD_take hy, all_take hy, ← HV.out.1, HV.out.2, hd, hdd]; exact ⟨rfl, rfl⟩)
                have hv2 : v * 10 + d < 10000000000000000 := by
                  rw [HV2.out.1]
                  exact valD_lt (all_digs HV2.out.2) (k := 16) (by rw [List.length_take]; have := HN.out; omega)
                obtain ⟨v2, hv22⟩ : ∃ v2, v2 = v * 10 + d := ⟨_, rfl⟩
                rw [← hv22] at HV2 hv2
                have hvI : (v : Int) * 10 + (d : Int) = (v2 : Int) := by omega
                clear hy hd hd2 hdd HV hv22
                go_wp2_with fail
                go_roundw
                case rel => exact ⟨k + 1, v2, by omega, by go_num, by first | rfl | go_num | rw [hvI], hv2, HV2, by first | trivial | rfl⟩
                case measure => simp [intOf]; omega
              · have hd' : digC y = false := by simpa using hd
                have hR0 : R = none := by rw [HR.out, if_neg (by rw [all_not hy hd']; decide)]
                have hcase2 : ((y.toNat : Int) < 48) ∨ (¬ (y.toNat : Int) < 48 ∧ (57 : Int) < (y.toNat : Int)) := by
                  simp [digC] at hd'
                  omega
                clear HR
                subst hR0
                clear hy hd hd' HV
                rcases hcase2 with y1 | ⟨y1, y2⟩
                all_goals
                  go_wp2_with fail
                  go_ret2
                  exact ⟨rfl, by first | trivial | rfl⟩
            · have hkn : k = n := by omega
              have hT : l.take k = l := List.take_of_length_le (by have := HN.out; omega)
              have hR0 : R = some v := by rw [HR.out]; have := HV.out; rw [hT] at this; rw [if_pos this.2, this.1]
              clear HR
              subst hR0
              clear hT HV hkn
              have hkI : ¬ (k : Int) < (n : Int) := by omega
              go_wp2_with fail
              go_ret2
              exact ⟨rfl, by first | trivial | rfl⟩
end Go.Proofs.YtehminpiejophaaDoor
