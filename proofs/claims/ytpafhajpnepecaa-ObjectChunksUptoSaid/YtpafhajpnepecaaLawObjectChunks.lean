/- The walk of the law ObjectChunks: bytes are written as a chunk's record, or refused, and read again; the record's id is its sum. -/
import Derived.Test.YtpafhajpnepecaaJn32
import Derived.Test.YtpafhajpnepecaaJn34
import Derived.Test.YtpafhajpnepecaaLawObjectReads
set_option linter.unusedVariables false
set_option linter.unusedSimpArgs false
namespace Go.Proofs.Ytpafhajpnepecaa
open Go.RowKit
attribute [local go_sem ↓] cvt_eq eqlId_eq neqId_eq

theorem tailL_len (n : Nat) : ∀ x, (tailL x n).length ≤ n + 1 := by
  induction n using Nat.strongRecOn with
  | _ n ih =>
    intro x
    rw [tailL]
    split
    · simp
    · rename_i h
      have := ih (n / 128) (by omega) (n % 128)
      rw [List.length_cons]
      omega
theorem headL_len (k n : Nat) : (headL k n).length ≤ n / 32 + 1 := tailL_len _ _
theorem fin_le {o : List UInt8} (h : o.length ≤ 1048576) : fin o = .ok o := by unfold fin; rw [if_neg (by omega)]
theorem chunk_seals {l : List UInt8} (h : l.length ≤ 262144) : ∃ o, putChunk l = .ok o := by
  have h3 := headL_len 3 2
  have h0 := headL_len 0 1
  have h1 := headL_len 1 l.length
  refine ⟨headL 3 2 ++ headL 0 1 ++ headL 1 l.length ++ l, ?_⟩
  unfold putChunk
  rw [if_neg (by omega)]
  show wrV (15 + 1) [] (lstV [numV 1, txtV l]) = _
  rw [wrV_lst]
  have e1 : wrV 15 ([] ++ headL 3 2) (numV 1) = .ok (headL 3 2 ++ headL 0 1) := by
    show wrV (14 + 1) _ _ = _
    unfold wrV
    rw [if_pos (show (numV 1).kind = 0 from rfl), List.nil_append]
    exact fin_le (show (headL 3 2 ++ headL 0 1).length ≤ 1048576 by rw [List.length_append]; omega)
  have e2 : wrV 15 (headL 3 2 ++ headL 0 1) (txtV l) = .ok (headL 3 2 ++ headL 0 1 ++ headL 1 l.length ++ l) := by
    show wrV (14 + 1) _ _ = _
    unfold wrV
    rw [if_neg (show ¬ (txtV l).kind = 0 from (show ¬ (1 : Int) = 0 by decide)), if_pos (show (txtV l).kind = 1 from rfl)]
    exact fin_le (by simp only [List.length_append, txtV, Val.bytes]; omega)
  have e3 : wrL (wrV 15) ([] ++ headL 3 2) [numV 1, txtV l] = .ok (headL 3 2 ++ headL 0 1 ++ headL 1 l.length ++ l) := by
    unfold wrL
    rw [e1]
    show wrL (wrV 15) (headL 3 2 ++ headL 0 1) [txtV l] = _
    unfold wrL
    rw [e2]
    rfl
  show (match wrL (wrV 15) ([] ++ headL 3 2) [numV 1, txtV l] with | .ok o => fin o | .error e => .error e) = _
  rw [e3]
  exact fin_le (by simp only [List.length_append]; omega)

set_option maxRecDepth 100000 in
set_option maxHeartbeats 8000000 in
theorem objectChunks_any (A : Option Addr) (n c : Nat) (l : List UInt8) (W0 : World) (hs : Sl W0 1 A n (bytesV l)) (hnc : n ≤ c) (hcm : c ≤ maxLen) (_ : n ≤ 1048576) :
    Calls Try.prog 7 #[.slice A n c] W0 fun e w' => e = .returned (.bool true) ∧ Below W0.heap.size W0 w' := by
  have hl : l.length = n := by have := hs.1; rw [bytesV_length] at this; omega
  have P1 := Lib.hid (fun w (h : Below W0.heap.size W0 w) => putChunk_any A n c l w (hs.below h) hnc hcm)
  have R1 := Lib.hid (fun w => refPutChunk_any ⟨l.toArray⟩ w (by simp only [ByteArray.size, List.size_toArray, maxLen]; simp only [maxLen] at hcm; omega))
  rw [sB_mk] at R1
  have HCV := Lib.hid (fun (w : World) (h : Below W0.heap.size W0 w) => cvt_of (hs.below h) c)
  obtain ⟨D, hD⟩ : ∃ D, D = putChunk l := ⟨_, rfl⟩
  have HD := Lib.hid hD
  rw [← hD] at P1 R1
  have HL := Lib.hid hl
  have hn47 : n ≤ 140737488355328 := by simp only [maxLen] at hcm; omega
  clear hs hnc hcm hD hl
  go_enter Try.func7, Try.ntmps7
  go_wp2_with fail
  refine (awake_obj _).mono ?_
  rintro e w1 ⟨rfl, hb⟩
  have HB1 := Lib.hid hb
  clear hb
  go_wp2_with fail
  refine (P1.out _ HB1.out).mono ?_
  intro e w2 hp
  have hc0 := HCV.out w2 (HB1.out.trans (hp.1.mono HB1.out.size))
  have HB2 := Lib.hid (HB1.out.trans (hp.1.mono HB1.out.size))
  cases D with
  | error z =>
    obtain ⟨_, hp2⟩ := hp
    obtain rfl : e = _ := hp2
    have hz : z ≠ 0 := by
      intro h0
      subst h0
      have h := HD.out.symm
      unfold putChunk at h
      split at h
      · injection h with h; omega
      · exact wrV_err 16 [] (lstV [numV 1, txtV l]) 0 h rfl
    have e1 : (z != 0) = true := by simp [hz]
    have hbig : 262144 < n := by
      apply Classical.byContradiction
      intro h
      obtain ⟨o, ho⟩ := chunk_seals (l := l) (by rw [HL.out]; omega)
      rw [← HD.out] at ho
      cases ho
    have hbI : (262144 : Int) < (n : Int) := by omega
    clear hz HB1 P1
    go_wp2_with fail
    refine (R1.out _).mono ?_
    rintro e w3 ⟨hb, rfl⟩
    have HB3 := Lib.hid (HB2.out.trans (hb.mono HB2.out.size))
    have hc1 := cvt_nil w3
    have hq : strL [] = (⟨#[]⟩ : ByteArray) := rfl
    clear hb hc0 HB2 R1
    generalize strL [] = q at *
    go_wp2_with fail
    go_ret
    exact ⟨rfl, HB3.out⟩
  | ok o =>
    obtain ⟨_, A2, m, c2, rfl, hm, hown⟩ := hp
    obtain ⟨hcap, hcm⟩ := own_cap hown
    have HS2 := Lib.hid (by have := Sl.ofOwn hown; exact this : Sl w2 1 A2 m (bytesV o))
    have HM := Lib.hid hm
    have HC := Lib.hid (And.intro hcap hcm)
    obtain ⟨hg1, hg2, _⟩ := chunk_back HD.out.symm
    have hg3 := links_chunk hg1
    have HG := Lib.hid (And.intro hg1 hg3)
    clear hown hcap hcm hm hg1 hg2 hg3 HB1 P1
    go_wp2_with fail
    refine (R1.out _).mono ?_
    rintro e w3 ⟨hb, rfl⟩
    have HB3 := Lib.hid (HB2.out.trans (hb.mono HB2.out.size))
    have HS3 := Lib.hid (HS2.out.below hb)
    have hc1 : cvt w3 A2 m c2 = .ok (.string (strL o)) w3 := by rw [HM.out]; exact cvt_of (by have := HS3.out; rwa [HM.out] at this) c2
    have HGC := Lib.hid (fun w (h : Below w3.heap.size w3 w) => getChunk_any A2 m c2 o w (HS3.out.below h) HC.out.1 HC.out.2)
    have HLK := Lib.hid (fun w (h : Below w3.heap.size w3 w) => links_any A2 m c2 o w (HS3.out.below h) HC.out.1 HC.out.2)
    rw [HG.out.1] at HGC
    rw [HG.out.2] at HLK
    have HQ := Lib.hid (show strL o = (⟨o.toArray⟩ : ByteArray) from rfl)
    clear hb hc0 HB2 HS2 R1
    generalize strL o = q at *
    go_wp2_with fail
    refine (HGC.out w3 (Below.refl _ _)).mono ?_
    rintro e w4 ⟨hb, A4, c4, rfl, hs4, hc4, hcm4⟩
    have HB34 := Lib.hid hb
    have HS4 := Lib.hid hs4
    clear hb hs4 hc4 hcm4 HGC hc1
    go_wp2_with fail
    refine (HLK.out w4 HB34.out).mono ?_
    rintro e w5 ⟨hb, A5, c5, rfl, _⟩
    have HB35 := Lib.hid (HB34.out.trans (hb.mono HB34.out.size))
    have HS5 := Lib.hid (HS4.out.below hb)
    have HX5 := Lib.hid (HS3.out.below HB35.out)
    have HB5 := Lib.hid (HB3.out.trans (HB35.out.mono HB3.out.size))
    have hll : l.length = n := HL.out
    rw [hll] at HS5 ⊢
    have hn0 : ([] : List (List UInt8)).length = 0 := rfl
    rw [hn0]
    have H1 := Lib.hid (fun (w : World) (h : Below w5.heap.size w5 w) => show cvt w A4 n c4 = .ok (.string ⟨l.toArray⟩) w from by
      have := cvt_of (l := l) (show Sl w 1 A4 l.length (bytesV l) by rw [hll]; exact HS5.out.below h) c4
      rwa [hll] at this)
    have H2 := Lib.hid (fun (w : World) (h : Below w5.heap.size w5 w) => show cvt w A n c = .ok (.string ⟨l.toArray⟩) w from HCV.out w (HB5.out.trans (h.mono HB5.out.size)))
    have H3 := Lib.hid (fun (w : World) (h : Below w5.heap.size w5 w) => show cvt w A2 m c2 = .ok (.string ⟨o.toArray⟩) w from by rw [HM.out]; exact cvt_of (by have := HX5.out.below h; rwa [HM.out] at this) c2)
    clear hb hll hn0 HLK HS4 HS3 HB34 HB3 HCV
    go_upto_region 11 with fail
    have hcls : Below w5.heap.size w5 w5.drew := Same.below ⟨1, rfl⟩ _
    by_cases hm2 : 2000 < m
    · have hI : (2000 : Int) < (m : Int) := by omega
      refine wp_region_held (S := fun w => Below w5.heap.size w5 w) (by kernel_rfl) ?_
      change wpAnyH _ _ _ _ _ _ _ _ (World.drew _)
      refine held_take (i := 0) (v := ?_) (a' := ?_) rfl (by kernel_rfl) (by kernel_rfl) (by kernel_rfl) (fun _ _ _ h => h) (by rfl) hcls ?_ ?_ ?_
      rotate_left 2
      · (intro w hS; go_simp; try with_reducible rfl)
      · (go_simp; try with_reducible rfl)
      refine held_take (i := 1) (v := ?_) (a' := ?_) rfl (by kernel_rfl) (by kernel_rfl) (by kernel_rfl) (fun _ _ _ h => h) (by rfl) hcls ?_ ?_ ?_
      rotate_left 2
      · (intro w hS; go_simp; try with_reducible rfl)
      · (go_simp; try with_reducible rfl)
      refine held_take (i := 2) (v := ?_) (a' := ?_) rfl (by kernel_rfl) (by kernel_rfl) (by kernel_rfl) (fun _ _ _ h => h) (by rfl) hcls ?_ ?_ ?_
      rotate_left 2
      · (intro w hS; go_simp; try with_reducible rfl)
      · (go_simp; try with_reducible rfl)
      refine held_take (i := 3) (v := ?_) (a' := ?_) rfl (by kernel_rfl) (by kernel_rfl) (by kernel_rfl) (fun _ _ _ h => h) (by rfl) hcls ?_ ?_ ?_
      rotate_left 2
      · (intro w hS; go_simp; try with_reducible rfl)
      · (go_simp; try with_reducible rfl)
      refine held_take (i := 4) (v := ?_) (a' := ?_) rfl (by kernel_rfl) (by kernel_rfl) (by kernel_rfl) (fun _ _ _ h => h) (by rfl) hcls ?_ ?_ ?_
      rotate_left 2
      · (intro w hS; go_simp; try with_reducible rfl)
      · (go_simp; try with_reducible rfl)
      refine held_take (i := 5) (v := ?_) (a' := ?_) rfl (by kernel_rfl) (by kernel_rfl) (by kernel_rfl) (fun _ _ _ h => h) (by rfl) hcls ?_ ?_ ?_
      rotate_left 2
      · (intro w hS; go_simp; try with_reducible rfl)
      · (go_simp; try with_reducible rfl)
      refine held_take (i := 6) (v := ?_) (a' := ?_) rfl (by kernel_rfl) (by kernel_rfl) (by kernel_rfl) (fun _ _ _ h => h) (by rfl) hcls ?_ ?_ ?_
      rotate_left 2
      · (intro w hS; go_simp; try with_reducible rfl)
      · (go_simp; try with_reducible rfl)
      refine held_take (i := 7) (v := ?_) (a' := ?_) rfl (by kernel_rfl) (by kernel_rfl) (by kernel_rfl) (fun _ _ _ h => h) (by rfl) hcls ?_ ?_ ?_
      rotate_left 2
      · (intro w hS; go_simp; try with_reducible rfl)
      · (go_simp; try with_reducible rfl)
      refine held_take (i := 8) (v := ?_) (a' := ?_) rfl (by kernel_rfl) (by kernel_rfl) (by kernel_rfl) (fun _ _ _ h => h) (by rfl) hcls ?_ ?_ ?_
      rotate_left 2
      · (intro w hS; go_simp; try with_reducible rfl)
      · (go_simp; try with_reducible rfl)
      refine held_take (i := 9) (v := ?_) (a' := ?_) rfl (by kernel_rfl) (by kernel_rfl) (by kernel_rfl) (fun _ _ _ h => h) (by rfl) hcls ?_ ?_ ?_
      rotate_left 2
      · (intro w hS; go_simp; try with_reducible rfl)
      · (go_simp; try with_reducible rfl)
      refine held_take (i := 10) (v := ?_) (a' := ?_) rfl (by kernel_rfl) (by kernel_rfl) (by kernel_rfl) (fun _ _ _ h => h) (by rfl) hcls ?_ ?_ ?_
      rotate_left 2
      · (intro w hS; go_simp; try with_reducible rfl)
      · (go_simp; try with_reducible rfl)
      refine held_take (i := 11) (v := ?_) (a' := ?_) rfl (by kernel_rfl) (by kernel_rfl) (by kernel_rfl) (fun _ _ _ h => h) (by rfl) hcls ?_ ?_ ?_
      rotate_left 2
      · (intro w hS; go_simp; try with_reducible rfl)
      · (go_simp; try with_reducible rfl)
      refine held_take (i := 12) (v := ?_) (a' := ?_) rfl (by kernel_rfl) (by kernel_rfl) (by kernel_rfl) (fun _ _ _ h => h) (by rfl) hcls ?_ ?_ ?_
      rotate_left 2
      · (intro w hS; go_simp; try with_reducible rfl)
      · (go_simp; try with_reducible rfl)
      refine held_take (i := 13) (v := ?_) (a' := ?_) rfl (by kernel_rfl) (by kernel_rfl) (by kernel_rfl) (fun _ _ _ h => h) (by rfl) hcls ?_ ?_ ?_
      rotate_left 2
      · (intro w hS; have t := H1.out w hS; go_simp; try with_reducible rfl)
      · (go_simp; try with_reducible rfl)
      refine held_take (i := 14) (v := ?_) (a' := ?_) rfl (by kernel_rfl) (by kernel_rfl) (by kernel_rfl) (fun _ _ _ h => h) (by rfl) hcls ?_ ?_ ?_
      rotate_left 2
      · (intro w hS; go_simp; try with_reducible rfl)
      · (go_simp; try with_reducible rfl)
      refine held_take (i := 15) (v := ?_) (a' := ?_) rfl (by kernel_rfl) (by kernel_rfl) (by kernel_rfl) (fun _ _ _ h => h) (by rfl) hcls ?_ ?_ ?_
      rotate_left 2
      · (intro w hS; have t := H2.out w hS; go_simp; try with_reducible rfl)
      · (go_simp; try with_reducible rfl)
      refine held_take (i := 16) (v := ?_) (a' := ?_) rfl (by kernel_rfl) (by kernel_rfl) (by kernel_rfl) (fun _ _ _ h => h) (by rfl) hcls ?_ ?_ ?_
      rotate_left 2
      · (intro w hS; go_simp; try with_reducible rfl)
      · (go_simp; try with_reducible rfl)
      refine held_take (i := 17) (v := ?_) (a' := ?_) rfl (by kernel_rfl) (by kernel_rfl) (by kernel_rfl) (fun _ _ _ h => h) (by rfl) hcls ?_ ?_ ?_
      rotate_left 2
      · (intro w hS; go_simp; try with_reducible rfl)
      · (go_simp; try with_reducible rfl)
      refine held_take (i := 18) (v := ?_) (a' := ?_) rfl (by kernel_rfl) (by kernel_rfl) (by kernel_rfl) (fun _ _ _ h => h) (by rfl) hcls ?_ ?_ ?_
      rotate_left 2
      · (intro w hS; go_simp; try with_reducible rfl)
      · (go_simp; try with_reducible rfl)
      refine held_take (i := 19) (v := ?_) (a' := ?_) rfl (by kernel_rfl) (by kernel_rfl) (by kernel_rfl) (fun _ _ _ h => h) (by rfl) hcls ?_ ?_ ?_
      rotate_left 2
      · (intro w hS; go_simp; try with_reducible rfl)
      · (go_simp; try with_reducible rfl)
      refine held_take (i := 20) (v := ?_) (a' := ?_) rfl (by kernel_rfl) (by kernel_rfl) (by kernel_rfl) (fun _ _ _ h => h) (by rfl) hcls ?_ ?_ ?_
      rotate_left 2
      · (intro w hS; go_simp; try with_reducible rfl)
      · (go_simp; try with_reducible rfl)
      refine held_take (i := 21) (v := ?_) (a' := ?_) rfl (by kernel_rfl) (by kernel_rfl) (by kernel_rfl) (fun _ _ _ h => h) (by rfl) hcls ?_ ?_ ?_
      rotate_left 2
      · (intro w hS; go_simp; try with_reducible rfl)
      · (go_simp; try with_reducible rfl)
      refine held_take (i := 22) (v := ?_) (a' := ?_) rfl (by kernel_rfl) (by kernel_rfl) (by kernel_rfl) (fun _ _ _ h => h) (by rfl) hcls ?_ ?_ ?_
      rotate_left 2
      · (intro w hS; go_simp; try with_reducible rfl)
      · (go_simp; try with_reducible rfl)
      refine held_no (i := 23) (a' := ?_) rfl (by kernel_rfl) (by kernel_rfl) (by kernel_rfl) (fun _ _ _ h => h) (by rfl) hcls ?_ ?_
      rotate_left 1
      · (go_simp; try with_reducible rfl)
      refine held_no (i := 24) (a' := ?_) rfl (by kernel_rfl) (by kernel_rfl) (by kernel_rfl) (fun _ _ _ h => h) (by rfl) hcls ?_ ?_
      rotate_left 1
      · (go_simp; try with_reducible rfl)
      refine held_no (i := 25) (a' := ?_) rfl (by kernel_rfl) (by kernel_rfl) (by kernel_rfl) (fun _ _ _ h => h) (by rfl) hcls ?_ ?_
      rotate_left 1
      · (go_simp; try with_reducible rfl)
      refine held_no (i := 26) (a' := ?_) rfl (by kernel_rfl) (by kernel_rfl) (by kernel_rfl) (fun _ _ _ h => h) (by rfl) hcls ?_ ?_
      rotate_left 1
      · (go_simp; try with_reducible rfl)
      refine held_no (i := 27) (a' := ?_) rfl (by kernel_rfl) (by kernel_rfl) (by kernel_rfl) (fun _ _ _ h => h) (by rfl) hcls ?_ ?_
      rotate_left 1
      · (go_simp; try with_reducible rfl)
      refine held_no (i := 28) (a' := ?_) rfl (by kernel_rfl) (by kernel_rfl) (by kernel_rfl) (fun _ _ _ h => h) (by rfl) hcls ?_ ?_
      rotate_left 1
      · (go_simp; try with_reducible rfl)
      refine held_take (i := 29) (v := ?_) (a' := ?_) rfl (by kernel_rfl) (by kernel_rfl) (by kernel_rfl) (fun _ _ _ h => h) (by rfl) hcls ?_ ?_ ?_
      rotate_left 2
      · (intro w hS; go_simp; try with_reducible rfl)
      · (go_simp; try with_reducible rfl)
      refine held_take (i := 30) (v := ?_) (a' := ?_) rfl (by kernel_rfl) (by kernel_rfl) (by kernel_rfl) (fun _ _ _ h => h) (by rfl) hcls ?_ ?_ ?_
      rotate_left 2
      · (intro w hS; go_simp; try with_reducible rfl)
      · (go_simp; try with_reducible rfl)
      refine held_take (i := 31) (v := ?_) (a' := ?_) rfl (by kernel_rfl) (by kernel_rfl) (by kernel_rfl) (fun _ _ _ h => h) (by rfl) hcls ?_ ?_ ?_
      rotate_left 2
      · (intro w hS; go_simp; try with_reducible rfl)
      · (go_simp; try with_reducible rfl)
      refine wpAnyH_done (by kernel_rfl) ?_ _
      go_wp2_with fail
      go_ret
      exact ⟨rfl, HB5.out.trans (hcls.mono HB5.out.size)⟩
    · have hI : ¬ (2000 : Int) < (m : Int) := by omega
      have HS := Lib.hid (fun (w : World) (h : Below w5.heap.size w5 w) => recName_any A2 m c2 o w (HX5.out.below h) HC.out.1 HC.out.2 (by omega))
      have HT := Lib.hid (fun (w : World) => refSum_any o (by have := HM.out; omega) w)
      have heq := fun w => eqlId_of (shaG_len32 o) (shaG_len32 o) w
      simp only [beq_self_eq_true] at heq
      obtain ⟨KS, hKS⟩ : ∃ KS, KS = (bytesV (shaG o)).toArray := ⟨_, rfl⟩
      rw [← hKS] at HS HT heq
      clear hKS
      refine wp_region_held (S := fun w => Below w5.heap.size w5 w) (by kernel_rfl) ?_
      change wpAnyH _ _ _ _ _ _ _ _ (World.drew _)
      refine held_take (i := 0) (v := ?_) (a' := ?_) rfl (by kernel_rfl) (by kernel_rfl) (by kernel_rfl) (fun _ _ _ h => h) (by rfl) hcls ?_ ?_ ?_
      rotate_left 2
      · (intro w hS; go_simp; try with_reducible rfl)
      · (go_simp; try with_reducible rfl)
      refine held_take (i := 1) (v := ?_) (a' := ?_) rfl (by kernel_rfl) (by kernel_rfl) (by kernel_rfl) (fun _ _ _ h => h) (by rfl) hcls ?_ ?_ ?_
      rotate_left 2
      · (intro w hS; go_simp; try with_reducible rfl)
      · (go_simp; try with_reducible rfl)
      refine held_take (i := 2) (v := ?_) (a' := ?_) rfl (by kernel_rfl) (by kernel_rfl) (by kernel_rfl) (fun _ _ _ h => h) (by rfl) hcls ?_ ?_ ?_
      rotate_left 2
      · (intro w hS; go_simp; try with_reducible rfl)
      · (go_simp; try with_reducible rfl)
      refine held_take (i := 3) (v := ?_) (a' := ?_) rfl (by kernel_rfl) (by kernel_rfl) (by kernel_rfl) (fun _ _ _ h => h) (by rfl) hcls ?_ ?_ ?_
      rotate_left 2
      · (intro w hS; go_simp; try with_reducible rfl)
      · (go_simp; try with_reducible rfl)
      refine held_take (i := 4) (v := ?_) (a' := ?_) rfl (by kernel_rfl) (by kernel_rfl) (by kernel_rfl) (fun _ _ _ h => h) (by rfl) hcls ?_ ?_ ?_
      rotate_left 2
      · (intro w hS; go_simp; try with_reducible rfl)
      · (go_simp; try with_reducible rfl)
      refine held_take (i := 5) (v := ?_) (a' := ?_) rfl (by kernel_rfl) (by kernel_rfl) (by kernel_rfl) (fun _ _ _ h => h) (by rfl) hcls ?_ ?_ ?_
      rotate_left 2
      · (intro w hS; go_simp; try with_reducible rfl)
      · (go_simp; try with_reducible rfl)
      refine held_take (i := 6) (v := ?_) (a' := ?_) rfl (by kernel_rfl) (by kernel_rfl) (by kernel_rfl) (fun _ _ _ h => h) (by rfl) hcls ?_ ?_ ?_
      rotate_left 2
      · (intro w hS; go_simp; try with_reducible rfl)
      · (go_simp; try with_reducible rfl)
      refine held_take (i := 7) (v := ?_) (a' := ?_) rfl (by kernel_rfl) (by kernel_rfl) (by kernel_rfl) (fun _ _ _ h => h) (by rfl) hcls ?_ ?_ ?_
      rotate_left 2
      · (intro w hS; go_simp; try with_reducible rfl)
      · (go_simp; try with_reducible rfl)
      refine held_take (i := 8) (v := ?_) (a' := ?_) rfl (by kernel_rfl) (by kernel_rfl) (by kernel_rfl) (fun _ _ _ h => h) (by rfl) hcls ?_ ?_ ?_
      rotate_left 2
      · (intro w hS; go_simp; try with_reducible rfl)
      · (go_simp; try with_reducible rfl)
      refine held_take (i := 9) (v := ?_) (a' := ?_) rfl (by kernel_rfl) (by kernel_rfl) (by kernel_rfl) (fun _ _ _ h => h) (by rfl) hcls ?_ ?_ ?_
      rotate_left 2
      · (intro w hS; go_simp; try with_reducible rfl)
      · (go_simp; try with_reducible rfl)
      refine held_take (i := 10) (v := ?_) (a' := ?_) rfl (by kernel_rfl) (by kernel_rfl) (by kernel_rfl) (fun _ _ _ h => h) (by rfl) hcls ?_ ?_ ?_
      rotate_left 2
      · (intro w hS; go_simp; try with_reducible rfl)
      · (go_simp; try with_reducible rfl)
      refine held_take (i := 11) (v := ?_) (a' := ?_) rfl (by kernel_rfl) (by kernel_rfl) (by kernel_rfl) (fun _ _ _ h => h) (by rfl) hcls ?_ ?_ ?_
      rotate_left 2
      · (intro w hS; go_simp; try with_reducible rfl)
      · (go_simp; try with_reducible rfl)
      refine held_take (i := 12) (v := ?_) (a' := ?_) rfl (by kernel_rfl) (by kernel_rfl) (by kernel_rfl) (fun _ _ _ h => h) (by rfl) hcls ?_ ?_ ?_
      rotate_left 2
      · (intro w hS; go_simp; try with_reducible rfl)
      · (go_simp; try with_reducible rfl)
      refine held_take (i := 13) (v := ?_) (a' := ?_) rfl (by kernel_rfl) (by kernel_rfl) (by kernel_rfl) (fun _ _ _ h => h) (by rfl) hcls ?_ ?_ ?_
      rotate_left 2
      · (intro w hS; have t := H1.out w hS; go_simp; try with_reducible rfl)
      · (go_simp; try with_reducible rfl)
      refine held_take (i := 14) (v := ?_) (a' := ?_) rfl (by kernel_rfl) (by kernel_rfl) (by kernel_rfl) (fun _ _ _ h => h) (by rfl) hcls ?_ ?_ ?_
      rotate_left 2
      · (intro w hS; go_simp; try with_reducible rfl)
      · (go_simp; try with_reducible rfl)
      refine held_take (i := 15) (v := ?_) (a' := ?_) rfl (by kernel_rfl) (by kernel_rfl) (by kernel_rfl) (fun _ _ _ h => h) (by rfl) hcls ?_ ?_ ?_
      rotate_left 2
      · (intro w hS; have t := H2.out w hS; go_simp; try with_reducible rfl)
      · (go_simp; try with_reducible rfl)
      refine held_take (i := 16) (v := ?_) (a' := ?_) rfl (by kernel_rfl) (by kernel_rfl) (by kernel_rfl) (fun _ _ _ h => h) (by rfl) hcls ?_ ?_ ?_
      rotate_left 2
      · (intro w hS; go_simp; try with_reducible rfl)
      · (go_simp; try with_reducible rfl)
      refine held_take (i := 17) (v := ?_) (a' := ?_) rfl (by kernel_rfl) (by kernel_rfl) (by kernel_rfl) (fun _ _ _ h => h) (by rfl) hcls ?_ ?_ ?_
      rotate_left 2
      · (intro w hS; go_simp; try with_reducible rfl)
      · (go_simp; try with_reducible rfl)
      refine held_take (i := 18) (v := ?_) (a' := ?_) rfl (by kernel_rfl) (by kernel_rfl) (by kernel_rfl) (fun _ _ _ h => h) (by rfl) hcls ?_ ?_ ?_
      rotate_left 2
      · (intro w hS; go_simp; try with_reducible rfl)
      · (go_simp; try with_reducible rfl)
      refine held_take (i := 19) (v := ?_) (a' := ?_) rfl (by kernel_rfl) (by kernel_rfl) (by kernel_rfl) (fun _ _ _ h => h) (by rfl) hcls ?_ ?_ ?_
      rotate_left 2
      · (intro w hS; go_simp; try with_reducible rfl)
      · (go_simp; try with_reducible rfl)
      refine held_take (i := 20) (v := ?_) (a' := ?_) rfl (by kernel_rfl) (by kernel_rfl) (by kernel_rfl) (fun _ _ _ h => h) (by rfl) hcls ?_ ?_ ?_
      rotate_left 2
      · (intro w hS; go_simp; try with_reducible rfl)
      · (go_simp; try with_reducible rfl)
      refine held_take (i := 21) (v := ?_) (a' := ?_) rfl (by kernel_rfl) (by kernel_rfl) (by kernel_rfl) (fun _ _ _ h => h) (by rfl) hcls ?_ ?_ ?_
      rotate_left 2
      · (intro w hS; go_simp; try with_reducible rfl)
      · (go_simp; try with_reducible rfl)
      refine held_take (i := 22) (v := ?_) (a' := ?_) rfl (by kernel_rfl) (by kernel_rfl) (by kernel_rfl) (fun _ _ _ h => h) (by rfl) hcls ?_ ?_ ?_
      rotate_left 2
      · (intro w hS; go_simp; try with_reducible rfl)
      · (go_simp; try with_reducible rfl)
      refine held_take (i := 23) (v := ?_) (a' := ?_) rfl (by kernel_rfl) (by kernel_rfl) (by kernel_rfl) (fun _ _ _ h => h) (by rfl) hcls ?_ ?_ ?_
      rotate_left 2
      · (intro w hS; go_simp; try with_reducible rfl)
      · (go_simp; try with_reducible rfl)
      refine held_take (i := 25) (v := ?_) (a' := ?_) rfl (by kernel_rfl) (by kernel_rfl) (by kernel_rfl) (fun _ _ _ h => h) (by rfl) hcls ?_ ?_ ?_
      rotate_left 2
      · (intro w hS; go_simp; try with_reducible rfl)
      · (go_simp; try with_reducible rfl)
      refine held_take (i := 26) (v := ?_) (a' := ?_) rfl (by kernel_rfl) (by kernel_rfl) (by kernel_rfl) (fun _ _ _ h => h) (by rfl) hcls ?_ ?_ ?_
      rotate_left 2
      · (intro w hS; have t := H3.out w hS; go_simp; try with_reducible rfl)
      · (go_simp; try with_reducible rfl)
      refine held_ready (rs := [24]) (by kernel_rfl) (by simp) ?_
      refine AllHeld.cons rfl (fun KR hKR => ?_) ?_
      · go_simp
        refine (HS.out _ hcls).mono ?_
        rintro e w6 ⟨rfl, hb⟩
        have hc6 := hcls.trans (hb.mono hcls.size)
        refine hKR _ _ hc6 ?_
        clear hKR KR
        refine held_ready (rs := [27]) (by kernel_rfl) (by simp) ?_
        refine AllHeld.cons rfl (fun KR hKR => ?_) ?_
        · go_simp
          refine (HT.out _).mono ?_
          rintro e w7 ⟨rfl, hb⟩
          have hc7 := hc6.trans (hb.mono hc6.size)
          refine hKR _ _ hc7 ?_
          clear hKR KR
          refine held_take (i := 28) (v := ?_) (a' := ?_) rfl (by kernel_rfl) (by kernel_rfl) (by kernel_rfl) (fun _ _ _ h => h) (by rfl) hc7 ?_ ?_ ?_
          rotate_left 2
          · (intro w hS; go_simp; try with_reducible rfl)
          · (go_simp; try with_reducible rfl)
          refine held_take (i := 29) (v := ?_) (a' := ?_) rfl (by kernel_rfl) (by kernel_rfl) (by kernel_rfl) (fun _ _ _ h => h) (by rfl) hc7 ?_ ?_ ?_
          rotate_left 2
          · (intro w hS; go_simp; try with_reducible rfl)
          · (go_simp; try with_reducible rfl)
          refine held_take (i := 30) (v := ?_) (a' := ?_) rfl (by kernel_rfl) (by kernel_rfl) (by kernel_rfl) (fun _ _ _ h => h) (by rfl) hc7 ?_ ?_ ?_
          rotate_left 2
          · (intro w hS; go_simp; try with_reducible rfl)
          · (go_simp; try with_reducible rfl)
          refine held_take (i := 31) (v := ?_) (a' := ?_) rfl (by kernel_rfl) (by kernel_rfl) (by kernel_rfl) (fun _ _ _ h => h) (by rfl) hc7 ?_ ?_ ?_
          rotate_left 2
          · (intro w hS; go_simp; try with_reducible rfl)
          · (go_simp; try with_reducible rfl)
          refine wpAnyH_done (by kernel_rfl) ?_ _
          clear heq
          go_wp2_with fail
          go_ret
          exact ⟨rfl, HB5.out.trans (hc7.mono HB5.out.size)⟩
        exact AllHeld.nil
      exact AllHeld.nil
end Go.Proofs.Ytpafhajpnepecaa
