/- towlineref05.Join. -/
import Derived.Test.YtlddnghfjdjglaaDoorGlobRefRules
set_option linter.unusedVariables false
set_option linter.unusedSimpArgs false
namespace Go.Proofs.YtlddnghfjdjglaaDoor
open Go.RowKit

theorem join_snoc : ∀ {l : List (List UInt8)} (p : List UInt8), l ≠ [] → joinG (l ++ [p]) = joinG l ++ 47 :: p
  | [], p, h => absurd rfl h
  | [a], p, _ => rfl
  | a :: b :: r, p, _ => by
    have h := join_snoc (l := b :: r) p (by simp)
    show a ++ 47 :: joinG ((b :: r) ++ [p]) = (a ++ 47 :: joinG (b :: r)) ++ 47 :: p
    rw [h]; simp
theorem strL_append (a b : List UInt8) : strL a ++ strL b = strL (a ++ b) := by
  apply ByteArray.ext
  simp [strL]
/-- what is joined, and a / where more comes -/
def joinS (names : List (List UInt8)) (i : Nat) : List UInt8 := if i = 0 then [] else joinG (names.take i) ++ [47]
theorem join_step {names : List (List UInt8)} {i : Nat} {p : List UInt8} (h : names[i]? = some p) : joinS names i ++ p = joinG (names.take (i + 1)) := by
  unfold joinS
  rw [List.take_add_one, h]
  show _ = joinG (names.take i ++ [p])
  cases i with
  | zero => simp [joinG]
  | succ i =>
    rw [if_neg (by omega), join_snoc]
    · simp
    · intro e
      have := List.take_eq_nil_iff.1 e
      rcases this with h1 | h1
      · omega
      · subst h1; cases h
theorem joinG_take_len : ∀ {names : List (List UInt8)} {i : Nat}, (joinG (names.take i)).length ≤ (joinG names).length
  | [], i => by simp
  | [a], 0 => by simp [joinG]
  | [a], i + 1 => by simp
  | a :: b :: r, 0 => by simp [joinG]
  | a :: b :: r, 1 => by simp [joinG]
  | a :: b :: r, i + 2 => by
    have := joinG_take_len (names := b :: r) (i := i + 1)
    show (a ++ 47 :: joinG ((b :: r).take (i + 1))).length ≤ (a ++ 47 :: joinG (b :: r)).length
    simp only [List.length_append, List.length_cons]; omega

set_option maxRecDepth 100000 in
set_option maxHeartbeats 4000000 in
theorem refJoin_any (A : Option Addr) (N c : Nat) (names : List (List UInt8)) (w : World) (h : SlOf strR w no A (names.map strL)) (hN : N = names.length) (hN6 : N ≤ 1000001) (hl : (joinG names).length ≤ 1000000) :
    Calls Tryd.prog 34 #[.slice A N c] w fun e w' => e = .returned (.string (strL (joinG names))) ∧ Below w.heap.size w w' := by
  have HS := Lib.hid h
  have HN := Lib.hid hN
  have HL := Lib.hid hl
  clear h hN hl
  have h0 : (ByteArray.mk #[]) = strL (joinG (names.take 0)) := rfl
  have H0 := Lib.hid h0
  clear h0
  go_enter Tryd.func34, Tryd.ntmps34
  go_wp2_with fail
  go_loopw [3, 4] (fun s3 s4 wr => ∃ (i : Nat) (q : ByteArray), i ≤ N ∧ s3 = .string q ∧ s4 = .int .i64 (i : Int) ∧ Hid (q = strL (joinG (names.take i))) ∧ Hid (Below w.heap.size w wr)) (fun s3 s4 wr => N - (intOf s4).toNat)
  case atStart => exact ⟨0, _, Nat.zero_le _, rfl, rfl, H0, Lib.hid (Below.refl _ _)⟩
  case round =>
    obtain ⟨i, q, hi, rfl, rfl, HQ, HB⟩ := hrel
    by_cases hlt : i < N
    · have hltI : (i : Int) < (N : Int) := by omega
      obtain ⟨b, off, p, hA, hb, hp, x0⟩ := str_look (HS.out.below HB.out) HN.out.symm hlt
      subst hA
      have HJ := Lib.hid (join_step hp)
      have hlen := joinG_take_len (names := names) (i := i + 1)
      rw [← HJ.out, List.length_append] at hlen
      have hsz : (joinS names i).length + p.length ≤ 1000000 := by have := HL.out; omega
      obtain ⟨pq, hpq⟩ : ∃ pq, pq = strL p := ⟨_, rfl⟩
      rw [← hpq] at x0
      have HP := Lib.hid hpq
      have hps : pq.size ≤ 1000000 := by rw [hpq, strL_size]; omega
      have hqs : q.size + 1 ≤ 1000001 := by
        rw [HQ.out, strL_size]
        have := joinG_take_len (names := names) (i := i)
        have := HL.out; omega
      by_cases hi0 : i = 0
      · have hiI : ¬ (0 : Int) < (i : Int) := by omega
        have HQ2 := Lib.hid (show q ++ pq = strL (joinG (names.take (i + 1))) by
          rw [HQ.out, hpq, strL_append, ← HJ.out, hi0]; rfl)
        clear hp hpq hlen hsz hi0
        go_wp2_with fail
        go_roundw
        case rel => exact ⟨i + 1, q ++ pq, by omega, rfl, by go_num, HQ2, HB⟩
        case measure => simp [intOf]; omega
      · have hiI : (0 : Int) < (i : Int) := by omega
        have hiN : 0 < i := by omega
        have HQ2 := Lib.hid (show q ++ ⟨#[47]⟩ ++ pq = strL (joinG (names.take (i + 1))) by
          rw [HQ.out, hpq, show (ByteArray.mk #[47]) = strL [47] from rfl, strL_append, strL_append, ← HJ.out]
          unfold joinS; rw [if_neg hi0])
        clear hp hpq hlen hsz hi0
        go_wp2_with fail
        go_roundw
        case rel => exact ⟨i + 1, q ++ ⟨#[47]⟩ ++ pq, by omega, rfl, by go_num, HQ2, HB⟩
        case measure => simp [intOf]; omega
    · have hltI : ¬ (i : Int) < (N : Int) := by omega
      have HE := Lib.hid (show q = strL (joinG names) by rw [HQ.out, List.take_of_length_le (by rw [← HN.out]; omega)])
      go_wp2_with fail
      go_ret
      exact ⟨by rw [HE.out]; rfl, HB.out⟩

set_option maxRecDepth 100000 in
set_option maxHeartbeats 4000000 in
theorem refSkipped_any (A : Option Addr) (N c : Nat) (lines : List (List UInt8)) (qs : List Rul) (p : List UInt8) (w : World) (h : SlOf strR w no A (lines.map strL)) (hN : N = lines.length) (hN6 : N ≤ 1000000) (hq : rulesG 0 lines = .ok qs) (hp : p.length ≤ 1000000) :
    Calls Tryd.prog 33 #[.slice A N c, .string (strL p)] w fun e w' => e = .returned (.bool (lastG qs p)) ∧ Below w.heap.size w w' := by
  obtain ⟨R, hR⟩ : ∃ R, R = lastG qs p := ⟨_, rfl⟩
  rw [← hR]
  obtain ⟨hqs, hall⟩ := rules_ok hq
  have HS := Lib.hid h
  have HN := Lib.hid hN
  have HR := Lib.hid (show R = lastG ((lines.take N).filterMap ruleOpt) p by rw [hR, hqs, hN, List.take_length])
  have HALL := Lib.hid hall
  have HP := Lib.hid hp
  obtain ⟨pq, hpq⟩ : ∃ pq, pq = strL p := ⟨_, rfl⟩
  rw [← hpq]
  have HPQ := Lib.hid hpq
  clear h hN hR hq hqs hall hp hpq
  go_enter Tryd.func33, Tryd.ntmps33
  go_wp2_with fail
  go_loopw [5, 6] (fun s5 s6 wr => ∃ (k : Nat) (o : Bool), k ≤ N ∧ s5 = .bool o ∧ s6 = .int .i64 (k : Int) ∧ Hid (o = lastG ((lines.take k).filterMap ruleOpt) p) ∧ Hid (Below w.heap.size w wr)) (fun s5 s6 wr => N - (intOf s6).toNat)
  case atStart => exact ⟨0, false, Nat.zero_le _, rfl, rfl, Lib.hid rfl, Lib.hid (Below.refl _ _)⟩
  case round =>
    obtain ⟨k, o, hk, rfl, rfl, HO, HB⟩ := hrel
    by_cases hlt : k < N
    · have hltI : (k : Int) < (N : Int) := by omega
      obtain ⟨b, off, l, hA, hb, hlk, x0⟩ := str_look (HS.out.below HB.out) HN.out.symm hlt
      subst hA
      have HTR := Lib.hid (take_rule hlk)
      have HLO := Lib.hid (HALL.out l (List.mem_of_getElem? hlk))
      clear hlk
      cases l with
      | nil =>
        have HO2 := Lib.hid (show o = lastG ((lines.take (k + 1)).filterMap ruleOpt) p by rw [HTR.out, HO.out, ruleOpt_nil]; simp)
        obtain ⟨q, hqs⟩ : ∃ q, q = strL [] := ⟨_, rfl⟩
        have hq : q.toList.isEmpty = true := by rw [hqs, ByteArray.toList_eq]; rfl
        rw [← hqs] at x0
        clear hqs
        go_wp2_with fail
        go_roundw
        case rel => exact ⟨k + 1, o, by omega, rfl, by go_num, HO2, HB⟩
        case measure => simp [intOf]; omega
      | cons x r =>
        have hq : (strL (x :: r)).toList.isEmpty = false := by rw [ByteArray.toList_eq]; rfl
        obtain ⟨q, hqs⟩ : ∃ q, q = strL (x :: r) := ⟨_, rfl⟩
        have hq0 : 0 < q.size := by rw [hqs]; simp [strL, ByteArray.size]
        have hq1 : 1 ≤ q.size := hq0
        have hqx : q[0] = x := by subst hqs; rfl
        have HQT := Lib.hid (strL_tail x r hqs)
        have HQQ := Lib.hid hqs
        rw [← hqs] at hq x0
        clear hqs
        by_cases h35 : x = 35
        · have HO2 := Lib.hid (show o = lastG ((lines.take (k + 1)).filterMap ruleOpt) p by rw [HTR.out, HO.out, h35, ruleOpt_hash]; simp)
          have hx35 : ((x.toNat : Int) == 35) = true := by rw [h35]; rfl
          clear h35
          go_wp2_with fail
          go_roundw
          case rel => exact ⟨k + 1, o, by omega, rfl, by go_num, HO2, HB⟩
          case measure => simp [intOf]; omega
        · have hx35 : ((x.toNat : Int) == 35) = false := u8_ne (y := 35) h35
          obtain ⟨oo, hoo⟩ := HLO.out
          obtain ⟨ps, hps, hro⟩ := ruleOpt_rule h35 hoo
          have HSN := Lib.hid (show lastG ((lines.take (k + 1)).filterMap ruleOpt) p = if matchM ps p then !(x == 33) else o by
            rw [HTR.out, hro]
            show lastG (_ ++ [_]) p = _
            rw [lastG_snoc, ← HO.out])
          have HMT := Lib.hid (fun w => refMatch_any (cutG (x :: r)) p ps w hps HP.out)
          rw [← HPQ.out] at HMT
          obtain ⟨mt, hmt⟩ : ∃ mt, mt = matchM ps p := ⟨_, rfl⟩
          rw [← hmt] at HMT HSN
          obtain ⟨kp, hkp⟩ : ∃ kp, kp = (x == 33) := ⟨_, rfl⟩
          rw [← hkp] at HSN
          have HKP := Lib.hid hkp
          clear h35 hoo hps hro hmt hkp
          go_upto_region 7 with fail
          go_cut [8] (fun v wx => v = .bool kp ∧ wx = wr)
          case first =>
            by_cases h33 : x = 33
            · have hx33 : ((x.toNat : Int) == 33) = true := by rw [h33]; rfl
              have HV := Lib.hid (show kp = true by rw [HKP.out, h33]; rfl)
              clear h33
              go_wp2_with fail
              go_meet
              case rel => exact ⟨by rw [HV.out], rfl⟩
            · have hx33 : ((x.toNat : Int) == 33) = false := u8_ne (y := 33) h33
              have HV := Lib.hid (show kp = false by rw [HKP.out]; simpa using h33)
              clear h33
              go_wp2_with fail
              go_meet
              case rel => exact ⟨by rw [HV.out], rfl⟩
          case rest =>
            obtain ⟨rfl, hwr⟩ := hcut
            obtain rfl : wr = _ := hwr.symm
            go_upto_if 29 with fail
            go_cut [7] (fun v wx => v = .string (strL (cutG (x :: r))) ∧ wx = wr)
            case first =>
              cases kp with
              | true =>
                have HCG := Lib.hid (show cutG (x :: r) = r by rw [show x = 33 by simpa using HKP.out]; exact cutG_mark r)
                go_wp2_with fail
                go_meet
                case rel => exact ⟨by rw [HCG.out, ← HQT.out], rfl⟩
              | false =>
                have HCG := Lib.hid (cutG_plain (r := r) (x := x) (by simpa using HKP.out))
                go_wp2_with fail
                go_meet
                case rel => exact ⟨by rw [HCG.out, ← HQQ.out], rfl⟩
            case rest =>
              obtain ⟨rfl, hwr⟩ := hcut
              obtain rfl : wr = _ := hwr.symm
              go_wp2_with fail
              refine (HMT.out wr).mono ?_
              rintro e w2 ⟨rfl, hb2⟩
              have HB2 := Lib.hid (HB.out.trans (hb2.mono HB.out.size))
              clear hb2
              cases mt with
              | true =>
                have HO2 := Lib.hid (show (!kp) = lastG ((lines.take (k + 1)).filterMap ruleOpt) p by rw [HSN.out]; rfl)
                go_wp2_with fail
                go_roundw
                case rel => exact ⟨k + 1, !kp, by omega, rfl, by go_num, HO2, HB2⟩
                case measure => simp [intOf]; omega
              | false =>
                have HO2 := Lib.hid (show o = lastG ((lines.take (k + 1)).filterMap ruleOpt) p by rw [HSN.out]; rfl)
                go_wp2_with fail
                go_roundw
                case rel => exact ⟨k + 1, o, by omega, rfl, by go_num, HO2, HB2⟩
                case measure => simp [intOf]; omega
    · have hltI : ¬ (k : Int) < (N : Int) := by omega
      obtain rfl : k = N := by omega
      have HE := Lib.hid (show o = R by rw [HR.out]; exact HO.out)
      go_wp2_with fail
      go_ret
      exact ⟨by rw [HE.out]; rfl, HB.out⟩
end Go.Proofs.YtlddnghfjdjglaaDoor
