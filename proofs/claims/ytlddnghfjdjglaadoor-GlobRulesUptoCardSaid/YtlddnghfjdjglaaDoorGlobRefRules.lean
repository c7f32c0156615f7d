/- towlineref06.Rules, skipped, Skips; towlineref05.Join. -/
import Derived.Test.YtlddnghfjdjglaaDoorGlobRefMatch
import Derived.Test.YtlddnghfjdjglaaDoorGlobRulesLaw
import Derived.OwnWalk
set_option linter.unusedVariables false
set_option linter.unusedSimpArgs false
namespace Go.Proofs.YtlddnghfjdjglaaDoor
open Go.RowKit

def rulesZ (ls : List (List UInt8)) : Int × Nat := match rulesG 0 ls with | .ok _ => (0, 0) | .error z => z
theorem line_code {l : List UInt8} : (∃ o, lineG l = .ok o ∧ (l = [] ∨ l.head? = some 35 ∨ codeG (cutG l) = 0)) ∨ ∃ z, lineG l = .error z ∧ l ≠ [] ∧ l.head? ≠ some 35 ∧ codeG (cutG l) = z ∧ z ≠ 0 := by
  cases l with
  | nil => exact .inl ⟨none, rfl, .inl rfl⟩
  | cons x r =>
    by_cases h35 : x = 35
    · subst h35; exact .inl ⟨none, rfl, .inr (.inl rfl)⟩
    · have hl := lineG_rule (r := r) h35
      unfold ruleOf at hl
      cases hp : parseG (cutG (x :: r)) with
      | ok ps => rw [hp] at hl; exact .inl ⟨_, hl, .inr (.inr (by rw [codeG, hp]))⟩
      | error z => rw [hp] at hl; exact .inr ⟨z, hl, by simp, by simpa using h35, by rw [codeG, hp], by rcases parse_err hp with rfl | rfl <;> decide⟩
/-- the rules from line k on -/
def restZ (ls : List (List UInt8)) (k : Nat) : Int × Nat := match rulesG k (ls.drop k) with | .ok _ => (0, 0) | .error z => z
theorem restZ_end {ls : List (List UInt8)} {k : Nat} (h : ls.length ≤ k) : restZ ls k = (0, 0) := by
  unfold restZ; rw [List.drop_eq_nil_of_le h, rulesG]
theorem restZ_pass {ls : List (List UInt8)} {k : Nat} {l : List UInt8} (h : ls[k]? = some l) {o : Option Rul} (ho : lineG l = .ok o) : restZ ls k = restZ ls (k + 1) := by
  unfold restZ
  rw [drop_cons h, rulesG, ho]
  cases o with
  | none => rfl
  | some q => simp only []; cases rulesG (k + 1) (ls.drop (k + 1)) <;> rfl
theorem restZ_bad {ls : List (List UInt8)} {k : Nat} {l : List UInt8} (h : ls[k]? = some l) {z : Int} (ho : lineG l = .error z) : restZ ls k = (z, k) := by
  unfold restZ
  rw [drop_cons h, rulesG, ho]
theorem strL_tail (x : UInt8) (r : List UInt8) {q : ByteArray} (h : q = strL (x :: r)) : q.extract 1 q.size = strL r := by rw [h]; exact strL_cons x r

set_option maxRecDepth 100000 in
set_option maxHeartbeats 4000000 in
theorem refRules_any (A : Option Addr) (N c : Nat) (lines : List (List UInt8)) (w : World) (h : SlOf strR w no A (lines.map strL)) (hN : N = lines.length) (hN6 : N ≤ 1000000) (hl : ∀ l ∈ lines, l.length ≤ 4294967280) :
    Calls Tryd.prog 15 #[.slice A N c] w fun e w' => e = .returned (.tuple #[.int .i64 (rulesZ lines).1, .int .i64 ((rulesZ lines).2 : Int)]) ∧ Below w.heap.size w w' := by
  obtain ⟨R, hR⟩ : ∃ R, R = restZ lines 0 := ⟨_, rfl⟩
  rw [show rulesZ lines = R from by rw [hR]; rfl]
  have HR := Lib.hid hR
  have HS := Lib.hid h
  have HN := Lib.hid hN
  have HL := Lib.hid hl
  clear h hR hN hl
  go_enter Tryd.func15, Tryd.ntmps15
  go_wp2_with fail
  go_loopw [4] (fun s4 wr => ∃ k : Nat, k ≤ N ∧ s4 = .int .i64 (k : Int) ∧ Hid (R = restZ lines k) ∧ Hid (Below w.heap.size w wr)) (fun s4 wr => N - (intOf s4).toNat)
  case atStart => exact ⟨0, Nat.zero_le _, rfl, HR, Lib.hid (Below.refl _ _)⟩
  case round =>
    obtain ⟨k, hk, rfl, HC, HB⟩ := hrel
    by_cases hlt : k < N
    · have hltI : (k : Int) < (N : Int) := by omega
      obtain ⟨b, off, l, hA, hb, hlk, x0⟩ := str_look (HS.out.below HB.out) HN.out.symm hlt
      subst hA
      have HLK := Lib.hid hlk
      have HLL := Lib.hid (HL.out l (List.mem_of_getElem? hlk))
      clear hlk
      cases l with
      | nil =>
        have HC2 := Lib.hid (HC.out.trans (restZ_pass HLK.out lineG_nil))
        obtain ⟨q, hqs⟩ : ∃ q, q = strL [] := ⟨_, rfl⟩
        have hq : q.toList.isEmpty = true := by rw [hqs, ByteArray.toList_eq]; rfl
        rw [← hqs] at x0
        clear hqs
        go_wp2_with fail
        go_roundw
        case rel => exact ⟨k + 1, by omega, by go_num, HC2, HB⟩
        case measure => simp [intOf]; omega
      | cons x r =>
        have hq : (strL (x :: r)).toList.isEmpty = false := by rw [ByteArray.toList_eq]; rfl
        obtain ⟨q, hqs⟩ : ∃ q, q = strL (x :: r) := ⟨_, rfl⟩
        have hq0 : 0 < q.size := by rw [hqs]; simp [strL, ByteArray.size]
        have hq1 : 1 ≤ q.size := hq0
        have hqx : q[0] = x := by subst hqs; rfl
        have HQT := Lib.hid (strL_tail x r hqs)
        have HQQ := Lib.hid hqs
        rw [← hqs] at hq x0
        clear hqs
        by_cases h35 : x = 35
        · have HC2 := Lib.hid (HC.out.trans (restZ_pass HLK.out (by rw [h35]; exact lineG_hash r)))
          have hx35 : ((x.toNat : Int) == 35) = true := by rw [h35]; rfl
          clear h35
          go_wp2_with fail
          go_roundw
          case rel => exact ⟨k + 1, by omega, by go_num, HC2, HB⟩
          case measure => simp [intOf]; omega
        · have hx35 : ((x.toNat : Int) == 35) = false := u8_ne (y := 35) h35
          have HLC := Lib.hid (line_code (l := x :: r))
          have hne : (x :: r).head? ≠ some 35 := by simpa using h35
          have HNE := Lib.hid hne
          have HCK := Lib.hid (fun w => refCheck_any (cutG (x :: r)) w (by
            have := HLL.out
            unfold cutG; split
            · rw [List.length_drop]; omega
            · exact this))
          clear h35 hne
          go_upto_if 26 with fail
          go_cut [5] (fun v wx => v = .string (strL (cutG (x :: r))) ∧ wx = wr)
          case first =>
            by_cases h33 : x = 33
            · have hx33 : ((x.toNat : Int) == 33) = true := by rw [h33]; rfl
              have HCG := Lib.hid (show cutG (x :: r) = r by rw [h33]; exact cutG_mark r)
              clear h33
              go_wp2_with fail
              go_meet
              case rel => exact ⟨by rw [HCG.out, ← HQT.out], rfl⟩
            · have hx33 : ((x.toNat : Int) == 33) = false := u8_ne (y := 33) h33
              have HCG := Lib.hid (cutG_plain (r := r) h33)
              clear h33
              go_wp2_with fail
              go_meet
              case rel => exact ⟨by rw [HCG.out, ← HQQ.out], rfl⟩
          case rest =>
            obtain ⟨rfl, hwr⟩ := hcut
            obtain rfl : wr = _ := hwr.symm
            obtain ⟨cg, hcg⟩ : ∃ cg, cg = codeG (cutG (x :: r)) := ⟨_, rfl⟩
            rw [← hcg] at HCK HLC
            clear hcg
            go_wp2_with fail
            refine (HCK.out wr).mono ?_
            rintro e w2 ⟨rfl, hb2⟩
            have HB2 := Lib.hid (HB.out.trans (hb2.mono HB.out.size))
            clear hb2
            rcases HLC.out with ⟨o, ho, h3⟩ | ⟨z, hz, _, _, hcz, hz0⟩
            · have h0 : cg = 0 := by
                rcases h3 with h3 | h3 | h3
                · cases h3
                · exact absurd h3 HNE.out
                · exact h3
              subst h0
              have HC2 := Lib.hid (HC.out.trans (restZ_pass HLK.out ho))
              clear h3 ho
              go_wp2_with fail
              go_roundw
              case rel => exact ⟨k + 1, by omega, by go_num, HC2, HB2⟩
              case measure => simp [intOf]; omega
            · subst hcz
              have hzI : (cg != 0) = true := by simpa using hz0
              have HRR := Lib.hid (HC.out.trans (restZ_bad HLK.out hz))
              clear hz hz0
              go_wp2_with fail
              go_ret2
              rw [HRR.out]
              exact ⟨rfl, HB2.out⟩
    · have hltI : ¬ (k : Int) < (N : Int) := by omega
      have HRR := Lib.hid (HC.out.trans (restZ_end (by rw [← HN.out]; omega)))
      go_wp2_with fail
      go_ret2
      rw [HRR.out]
      exact ⟨rfl, HB.out⟩
end Go.Proofs.YtlddnghfjdjglaaDoor
