/- towlineref06.Check. -/
import Derived.Test.YtlddnghfjdjglaaDoorGlobRefSplit
import Derived.Test.YtlddnghfjdjglaaDoorGlobRefAtoms
import Derived.Test.YtlddnghfjdjglaaDoorGlobSkips
set_option linter.unusedVariables false
set_option linter.unusedSimpArgs false
namespace Go.Proofs.YtlddnghfjdjglaaDoor
open Go.RowKit

def codeG (l : List UInt8) : Int := match parseG l with | .ok _ => 0 | .error z => z
def okPc (l : List UInt8) : Bool := (pieceG l).isSome
theorem pieces_all : ∀ (ls : List (List UInt8)), (piecesG ls).isSome = ls.all okPc
  | [] => rfl
  | l :: r => by
    rw [pieces_step, List.all_cons, ← pieces_all r]
    unfold okPc
    cases pieceG l with
    | none => rfl
    | some p => cases piecesG r <;> rfl
theorem code_long {l : List UInt8} (h : 255 < l.length) : codeG l = 2 := by unfold codeG parseG; rw [if_pos h]
theorem code_bad {l : List UInt8} (h : ¬ 255 < l.length) (hb : (splitG l).all okPc = false) : codeG l = 60 := by
  unfold codeG parseG; rw [if_neg h]
  rw [← pieces_all] at hb
  cases hp : piecesG (splitG l) with
  | none => rfl
  | some p => rw [hp] at hb; cases hb
theorem code_good {l : List UInt8} (h : ¬ 255 < l.length) (hb : (splitG l).all okPc = true) : codeG l = 0 := by
  unfold codeG parseG; rw [if_neg h]
  rw [← pieces_all] at hb
  cases hp : piecesG (splitG l) with
  | none => rw [hp] at hb; cases hb
  | some p => rfl
theorem okPc_none {l : List UInt8} (h : atomsL [] l = none) : okPc l = false := by
  unfold okPc pieceG
  by_cases h1 : l = [42, 42]
  · subst h1
    rw [atomsL_step (a := starA) (r := [42]) (by decide) rfl, atomsL_step (a := starA) (r := []) (by decide) rfl, atomsL_nil] at h
    cases h
  · rw [if_neg h1]
    split
    · rfl
    · rw [h]; rfl
theorem okPc_some {l : List UInt8} {az : List Atm} (h : atomsL [] l = some az) : okPc l = !l.isEmpty := by
  unfold okPc pieceG
  by_cases h1 : l = [42, 42]
  · rw [if_pos h1, h1]; rfl
  · rw [if_neg h1]
    by_cases h2 : l = []
    · rw [if_pos h2, h2]; rfl
    · rw [if_neg h2, h]
      cases l with
      | nil => exact absurd rfl h2
      | cons a b => rfl
theorem all_drop {α : Type} {p : α → Bool} {ls : List α} {i : Nat} {x : α} (h : ls[i]? = some x) : (ls.drop i).all p = (p x && (ls.drop (i + 1)).all p) := by
  rw [drop_cons h, List.all_cons]

set_option maxRecDepth 100000 in
set_option maxHeartbeats 4000000 in
theorem refCheck_any (l : List UInt8) (w : World) (hl : l.length ≤ 4294967280) : Calls Tryd.prog 11 #[.string (strL l)] w fun e w' => e = .returned (.int .i64 (codeG l)) ∧ Below w.heap.size w w' := by
  obtain ⟨R, hR⟩ : ∃ R, R = codeG l := ⟨_, rfl⟩
  have HR := Lib.hid hR
  rw [← hR]
  clear hR
  obtain ⟨q, hqe⟩ : ∃ q, q = strL l := ⟨_, rfl⟩
  obtain ⟨L, hL⟩ : ∃ L, L = l.length := ⟨_, rfl⟩
  have hqL : q.size = L := by rw [hqe, strL_size, hL]
  have HSP := Lib.hid (refSplit_any l w hl)
  rw [← hqe] at HSP ⊢
  have HL := Lib.hid hL
  clear hqe hl hL
  by_cases h255 : 255 < L
  · have h255I : (255 : Int) < (L : Int) := by omega
    have HRR := Lib.hid (show R = 2 by rw [HR.out, code_long (by rw [← HL.out]; exact h255)])
    go_enter Tryd.func11, Tryd.ntmps11
    go_wp2_with fail
    go_ret
    rw [HRR.out]
    exact ⟨rfl, Below.refl _ _⟩
  · have h255I : ¬ (255 : Int) < (L : Int) := by omega
    have HLL := Lib.hid (show ¬ 255 < l.length by rw [← HL.out]; exact h255)
    obtain ⟨ns, hns⟩ : ∃ ns, ns = namesG l := ⟨_, rfl⟩
    have HNS := Lib.hid hns
    rw [← hns] at HSP
    have HMEM := Lib.hid (show ∀ s ∈ ns, s.length ≤ 1000000 by
      intro s hs2
      rw [hns] at hs2
      unfold namesG at hs2
      split at hs2
      · cases hs2
      · have := mem_split hs2; have := HLL.out; omega)
    have HRC := Lib.hid (show (ns.length = 0 → R = 60) ∧ (ns.all okPc = false → R = 60) ∧ (ns.length ≠ 0 → ns.all okPc = true → R = 0) by
      rw [hns, HR.out]
      unfold namesG
      by_cases h0 : l = []
      · rw [if_pos h0]
        refine ⟨fun _ => ?_, fun h => Bool.noConfusion h, fun h => absurd rfl h⟩
        subst h0; rfl
      · rw [if_neg h0]
        refine ⟨fun h => absurd (List.eq_nil_of_length_eq_zero h) (splitG_ne l), fun h => code_bad HLL.out h, fun _ h => code_good HLL.out h⟩)
    have HML := Lib.hid (show ns.length ≤ 256 by
      rw [hns]; unfold namesG; split
      · simp
      · rw [splitG_len]
        have := List.count_le_length (a := (47 : UInt8)) (l := l); have := HLL.out; omega)
    clear hns
    go_enter Tryd.func11, Tryd.ntmps11
    go_wp2_with fail
    refine HSP.out.mono ?_
    rintro e w1 ⟨⟨A, N, c, rfl, hN, hsl, hNc, hcm⟩, hb1⟩
    have HN := Lib.hid hN
    have HS := Lib.hid hsl
    have HB1 := Lib.hid hb1
    have hN256 : N ≤ 256 := by have := HML.out; omega
    clear HSP hsl hb1 hN hNc hcm
    go_wp2_with fail
    go_loopw [4] (fun s4 wr => ∃ i : Nat, i ≤ N ∧ s4 = .int .i64 (i : Int) ∧ Hid ((ns.drop i).all okPc = ns.all okPc) ∧ Hid (Below w1.heap.size w1 wr)) (fun s4 wr => N - (intOf s4).toNat)
    case atStart => exact ⟨0, Nat.zero_le _, rfl, Lib.hid rfl, Lib.hid (Below.refl _ _)⟩
    case round =>
      obtain ⟨i, hi, rfl, HA, HB⟩ := hrel
      by_cases hlt : i < N
      · have hltI : (i : Int) < (N : Int) := by omega
        obtain ⟨b, off, s, hA, hb, hs, c0⟩ := str_look (HS.out.below HB.out) HN.out.symm hlt
        subst hA
        have HAT := Lib.hid (refAtoms_any s wr (HMEM.out s (List.mem_of_getElem? hs)))
        have HAD := Lib.hid (all_drop (p := okPc) hs)
        obtain ⟨sq, hsq⟩ : ∃ sq, sq = strL s := ⟨_, rfl⟩
        rw [← hsq] at c0 HAT
        clear hs hsq
        go_wp2_with fail
        refine HAT.out.mono ?_
        rintro e w5 ⟨hb5, hp⟩
        have HB5 := Lib.hid (HB.out.trans (hb5.mono HB.out.size))
        clear HAT hb5 HB
        cases hat : atomsL [] s with
        | none =>
          rw [hat] at hp
          obtain rfl : e = _ := hp
          have HRR := Lib.hid (show R = 60 by
            refine HRC.out.2.1 ?_
            rw [← HA.out, HAD.out, okPc_none hat]; rfl)
          clear hat
          go_wp2_with fail
          go_ret
          rw [HRR.out]
          exact ⟨rfl, HB1.out.trans (HB5.out.mono HB1.out.size)⟩
        | some az =>
          rw [hat] at hp
          obtain ⟨A5, n5, c5, rfl, -, -, -, -⟩ := hp
          obtain ⟨em, hem⟩ : ∃ em, em = s.isEmpty := ⟨_, rfl⟩
          have HOK := Lib.hid (show okPc s = !em by rw [hem]; exact okPc_some hat)
          rw [← hem]
          clear hat hem
          cases em with
          | true =>
            have HRR := Lib.hid (show R = 60 by
              refine HRC.out.2.1 ?_
              rw [← HA.out, HAD.out, HOK.out]; rfl)
            go_wp2_with fail
            go_ret
            rw [HRR.out]
            exact ⟨rfl, HB1.out.trans (HB5.out.mono HB1.out.size)⟩
          | false =>
            have HA2 := Lib.hid (show (ns.drop (i + 1)).all okPc = ns.all okPc by rw [← HA.out, HAD.out, HOK.out]; rfl)
            go_wp2_with fail
            go_roundw
            case rel => exact ⟨i + 1, by omega, by go_num, HA2, HB5⟩
            case measure => simp [intOf]; omega
      · have hltI : ¬ (i : Int) < (N : Int) := by omega
        obtain rfl : i = N := by omega
        have HAL := Lib.hid (show ns.all okPc = true by rw [← HA.out, List.drop_eq_nil_of_le (by rw [HN.out]; exact Nat.le_refl _)]; rfl)
        by_cases h0 : i = 0
        · have HRR := Lib.hid (show R = 60 from HRC.out.1 (by rw [← HN.out]; exact h0))
          have h0I : ((i : Int) == 0) = true := by simp; omega
          clear h0
          go_wp2_with fail
          go_ret
          rw [HRR.out]
          exact ⟨rfl, HB1.out.trans (HB.out.mono HB1.out.size)⟩
        · have HRR := Lib.hid (show R = 0 from HRC.out.2.2 (by rw [← HN.out]; exact h0) HAL.out)
          have h0I : ((i : Int) == 0) = false := by simp; omega
          clear h0
          go_wp2_with fail
          go_ret
          rw [HRR.out]
          exact ⟨rfl, HB1.out.trans (HB.out.mono HB1.out.size)⟩
end Go.Proofs.YtlddnghfjdjglaaDoor
