/- towlineref06.Skips. -/
import Derived.Test.YtlddnghfjdjglaaDoorGlobRefJoin
set_option linter.unusedVariables false
set_option linter.unusedSimpArgs false
namespace Go.Proofs.YtlddnghfjdjglaaDoor
open Go.RowKit

theorem join_names_len (p : List UInt8) (i : Nat) : (joinG ((namesG p).take i)).length ≤ p.length := by
  have key : ∀ (p : List UInt8), joinG (splitG p) = p := by
    intro p
    induction p with
    | nil => rfl
    | cons x r ih =>
      obtain ⟨a, b, hab⟩ := splitG_cut r
      by_cases hx : x = 47
      · subst hx
        have hs : splitG (47 :: r) = [] :: splitG r := by show (if (47 : UInt8) = 47 then _ else _) = _; rw [if_pos rfl]
        rw [hs]
        rw [hab] at ih ⊢
        show 47 :: joinG (a :: b) = _
        rw [ih]
      · have hs : splitG (x :: r) = (x :: a) :: b := by show (if x = 47 then _ else match splitG r with | [] => [[x]] | p :: q => (x :: p) :: q) = _; rw [if_neg hx, hab]
        rw [hs]
        rw [hab] at ih
        rw [← ih]
        cases b <;> rfl
  have h := joinG_take_len (names := namesG p) (i := i)
  have h2 : (joinG (namesG p)).length ≤ p.length := by
    unfold namesG
    split
    · simp [joinG]
    · rw [key]; exact Nat.le_refl _
  omega

set_option maxRecDepth 100000 in
set_option maxHeartbeats 4000000 in
theorem refSkips_any (A : Option Addr) (N c : Nat) (lines : List (List UInt8)) (qs : List Rul) (p : List UInt8) (w : World) (h : SlOf strR w no A (lines.map strL)) (hN : N = lines.length) (hN6 : N ≤ 1000000) (hq : rulesG 0 lines = .ok qs) (hp : p.length ≤ 1000000) :
    Calls Tryd.prog 17 #[.slice A N c, .string (strL p)] w fun e w' => e = .returned (.bool (skipsG qs p)) ∧ Below w.heap.size w w' := by
  obtain ⟨R, hR⟩ : ∃ R, R = skipN qs p 0 := ⟨_, rfl⟩
  rw [← skipN_eq, ← hR]
  have HR := Lib.hid hR
  have HS := Lib.hid h
  have HN := Lib.hid hN
  have HQR := Lib.hid hq
  have HP := Lib.hid hp
  have HSP := Lib.hid (refSplit_any p w (by omega))
  obtain ⟨pq, hpq⟩ : ∃ pq, pq = strL p := ⟨_, rfl⟩
  rw [← hpq] at HSP ⊢
  have HPQ := Lib.hid hpq
  obtain ⟨em, hem⟩ : ∃ em, em = p.isEmpty := ⟨_, rfl⟩
  have hpe : pq.toList.isEmpty = em := by
    rw [hpq, hem, ByteArray.toList_eq]
    cases p <;> rfl
  have HEM := Lib.hid hem
  clear h hN hR hq hp hpq hem
  go_enter Tryd.func17, Tryd.ntmps17
  go_wp2_with fail
  refine HSP.out.mono ?_
  rintro e w1 ⟨⟨A2, M, c2, rfl, hM, hsl, hMc, hcm⟩, hb1⟩
  have HM := Lib.hid hM
  have HNS := Lib.hid hsl
  have HB1 := Lib.hid hb1
  have hM6 : M ≤ 1000001 := by rw [hM]; have := names_len p; have := HP.out; omega
  have HS1 := Lib.hid (HS.out.below hb1)
  clear HSP hM hsl hb1 HS
  go_wp2_with fail
  go_loopw [6] (fun s6 wr => ∃ i : Nat, i ≤ M + 1 ∧ s6 = .int .i64 (i : Int) ∧ Hid (skipN qs p i = R) ∧ Hid (Below w1.heap.size w1 wr)) (fun s6 wr => M + 1 - (intOf s6).toNat)
  case atStart => exact ⟨0, Nat.zero_le _, rfl, Lib.hid HR.out.symm, Lib.hid (Below.refl _ _)⟩
  case round =>
    obtain ⟨i, hi, rfl, HK, HB⟩ := hrel
    by_cases hlt : i ≤ M
    · have hltI : (i : Int) ≤ (M : Int) := by omega
      have hic : i ≤ c2 := by omega
      have hicI : (i : Int) ≤ (c2 : Int) := by omega
      have HST := Lib.hid (skipN_step qs p (i := i) (by rw [← HM.out]; exact hlt))
      have HSU := Lib.hid (show SlOf strR wr no A2 (((namesG p).take i).map strL) by
        have h1 := (HNS.out.below HB.out).upto (n := M) (k := i) (by rw [List.length_map, ← HM.out]) hlt
        rw [List.map_take]; exact h1)
      have HJ := Lib.hid (fun c => refJoin_any A2 i c ((namesG p).take i) wr HSU.out (by rw [List.length_take, ← HM.out]; omega) (by omega) (by have := join_names_len p i; have := HP.out; omega))
      obtain ⟨jp, hjp⟩ : ∃ jp, jp = joinG ((namesG p).take i) := ⟨_, rfl⟩
      rw [← hjp] at HJ HST
      have HSK := Lib.hid (fun w' (hb : Below wr.heap.size wr w') => refSkipped_any A N c lines qs jp w' (HS1.out.below (HB.out.trans (hb.mono HB.out.size))) HN.out hN6 HQR.out (by rw [hjp]; have := join_names_len p i; have := HP.out; omega))
      obtain ⟨sk, hsk⟩ : ∃ sk, sk = lastG qs jp := ⟨_, rfl⟩
      rw [← hsk] at HSK HST
      clear hjp hsk
      go_wp2_with fail
      refine (HJ.out _).mono ?_
      rintro e w2 ⟨rfl, hb2⟩
      have HB2 := Lib.hid hb2
      go_wp2_with fail
      refine (HSK.out w2 HB2.out).mono ?_
      rintro e w3 ⟨rfl, hb3⟩
      have HB3 := Lib.hid (HB.out.trans ((HB2.out.trans (hb3.mono HB2.out.size)).mono HB.out.size))
      clear hb2 hb3
      cases sk with
      | false =>
        have HK2 := Lib.hid (show skipN qs p (i + 1) = R by rw [← HK.out, HST.out]; rfl)
        go_wp2_with fail
        go_roundw
        case rel => exact ⟨i + 1, by omega, by go_num, HK2, HB3⟩
        case measure => simp [intOf]; omega
      | true =>
        by_cases hi0 : 0 < i
        · have hi0I : (0 : Int) < (i : Int) := by omega
          have HRR := Lib.hid (show R = true by rw [← HK.out, HST.out]; simp [hi0])
          go_wp2_with fail
          go_ret
          rw [HRR.out]
          exact ⟨rfl, HB1.out.trans (HB3.out.mono HB1.out.size)⟩
        · have hi0I : ¬ (0 : Int) < (i : Int) := by omega
          cases em with
          | true =>
            have HRR := Lib.hid (show R = true by rw [← HK.out, HST.out, ← HEM.out]; simp)
            go_wp2_with fail
            go_ret
            rw [HRR.out]
            exact ⟨rfl, HB1.out.trans (HB3.out.mono HB1.out.size)⟩
          | false =>
            obtain ⟨x, r, hxr⟩ : ∃ x r, p = x :: r := by
              have := HEM.out
              cases p with
              | nil => cases this
              | cons x r => exact ⟨x, r, rfl⟩
            have hq0 : 0 < pq.size := by rw [HPQ.out, hxr]; simp [strL, ByteArray.size]
            have hqx : pq[0] = x := strL_at (l := p) (by rw [hxr]; rfl) HPQ.out hq0
            have HHD := Lib.hid (show (p.head? == some 47) = (x == 47) by rw [hxr]; rfl)
            clear hxr
            by_cases h47 : x = 47
            · have hx47 : ((x.toNat : Int) == 47) = true := by rw [h47]; rfl
              have HRR := Lib.hid (show R = true by rw [← HK.out, HST.out, HHD.out, h47]; simp)
              clear h47
              go_wp2_with fail
              go_ret
              rw [HRR.out]
              exact ⟨rfl, HB1.out.trans (HB3.out.mono HB1.out.size)⟩
            · have hx47 : ((x.toNat : Int) == 47) = false := u8_ne (y := 47) h47
              have HK2 := Lib.hid (show skipN qs p (i + 1) = R by
                have : (x == 47) = false := by simpa using h47
                rw [← HK.out, HST.out, HHD.out, ← HEM.out, this]; simp [hi0])
              clear h47
              go_wp2_with fail
              go_roundw
              case rel => exact ⟨i + 1, by omega, by go_num, HK2, HB3⟩
              case measure => simp [intOf]; omega
    · have hltI : ¬ (i : Int) ≤ (M : Int) := by omega
      obtain rfl : i = M + 1 := by omega
      have HRR := Lib.hid (show R = false by rw [← HK.out, HM.out, skipN_end])
      go_wp2_with fail
      go_ret
      rw [HRR.out]
      exact ⟨rfl, HB1.out.trans (HB.out.mono HB1.out.size)⟩
end Go.Proofs.YtlddnghfjdjglaaDoor
