/- Contracts and laws for what the statement reaches, joined: TalkBulk, TalkTwins, TalkCome, TalkRow. -/
import Derived.Test.YtgmbkcjihgphmaaJn20
import Derived.Test.YtgmbkcjihgphmaaJn27
import Derived.Test.YtgmbkcjihgphmaaJn4
import Derived.Test.YtgmbkcjihgphmaaJn6
/- how large the makes and the raw bytes are. -/
set_option linter.unusedVariables false
set_option linter.unusedSimpArgs false
namespace Go.Proofs.Ytgmbkcjihgphmaa
open Go.RowKit

def bulkM (x : MkT) : Nat := (1 + ((bulkL (fun _ => 1) x.2.1 + 1) + ((bulkL (fun _ => 1) x.2.2.1 + 1) + 1))) + 1
theorem bulk_ones {α : Type} : ∀ l : List α, bulkL (fun _ => 1) l = l.length
  | [] => rfl
  | x :: r => by simp [bulkL, bulk_ones r]; omega
theorem bulkL_mem {α : Type} {b : α → Nat} : ∀ {l : List α} {x : α}, x ∈ l → b x ≤ bulkL b l
  | y :: r, x, h => by
    rcases List.mem_cons.1 h with rfl | h
    · simp [bulkL]
    · have := bulkL_mem (b := b) h
      simp [bulkL]; omega
theorem makes_small {l : List MkT} (h : bulkL bulkM l + 1 ≤ 1048576) : ∀ x ∈ l, x.2.1.length ≤ 1048576 ∧ x.2.2.1.length ≤ 1048576 := fun x hx => by
  have h1 : (1 + ((bulkL (fun _ => 1) x.2.1 + 1) + ((bulkL (fun _ => 1) x.2.2.1 + 1) + 1))) + 1 ≤ bulkL bulkM l := bulkL_mem (b := bulkM) hx
  rw [bulk_ones, bulk_ones] at h1
  omega
theorem raws_small {l : List (List UInt8)} (h : bulkL (fun l : List UInt8 => bulkL (fun _ => 1) l + 1) l + 1 ≤ 1048576) : ∀ x ∈ l, x.length ≤ 1048576 := fun x hx => by
  have h1 : bulkL (fun _ => 1) x + 1 ≤ _ := bulkL_mem (b := fun l : List UInt8 => bulkL (fun _ => 1) l + 1) hx
  rw [bulk_ones] at h1
  omega
end Go.Proofs.Ytgmbkcjihgphmaa

/- towlinelaw21.twins. -/
set_option linter.unusedVariables false
set_option linter.unusedSimpArgs false
namespace Go.Proofs.Ytgmbkcjihgphmaa
open Go.RowKit
attribute [local go_sem ↓] eqlId_eq

/-- of the first i records no two with one id are unlike -/
def LoneTo (rs : List RecT) (i : Nat) : Prop := ∀ a b ra rb, b < a → a < i → rs[a]? = some ra → rs[b]? = some rb → ra.1 = rb.1 → ra.2 = rb.2
def LoneAt (rs : List RecT) (i k : Nat) : Prop := ∀ b ra rb, b < k → rs[i]? = some ra → rs[b]? = some rb → ra.1 = rb.1 → ra.2 = rb.2
def Lone (rs : List RecT) : Prop := ∀ r ∈ rs, ∀ s ∈ rs, r.1 = s.1 → r.2 = s.2
theorem LoneTo.all {rs : List RecT} (h : LoneTo rs rs.length) : Lone rs := fun r hr s hs e => by
  obtain ⟨a, ha⟩ := List.getElem?_of_mem hr
  obtain ⟨b, hb⟩ := List.getElem?_of_mem hs
  have h1 := (List.getElem?_eq_some_iff.1 ha).1
  have h2 := (List.getElem?_eq_some_iff.1 hb).1
  rcases Nat.lt_trichotomy a b with h3 | h3 | h3
  · exact (h b a s r h3 h2 hb ha e.symm).symm
  · subst h3
    rw [ha] at hb
    cases hb; rfl
  · exact h a b r s h3 h1 ha hb e
theorem LoneTo.step {rs : List RecT} {i : Nat} (h : LoneTo rs i) (h' : LoneAt rs i i) : LoneTo rs (i + 1) := fun a b ra rb h1 h2 h3 h4 e => by
  rcases Nat.lt_or_ge a i with h5 | h5
  · exact h a b ra rb h1 h5 h3 h4 e
  · have : a = i := by omega
    subst this
    exact h' b ra rb h1 h3 h4 e
theorem LoneAt.step {rs : List RecT} {i k : Nat} {r s : RecT} (h : LoneAt rs i k) (hi : rs[i]? = some r) (hk : rs[k]? = some s) (he : r.1 = s.1 → r.2 = s.2) : LoneAt rs i (k + 1) := fun b ra rb h1 h3 h4 e => by
  rcases Nat.lt_or_ge b k with h5 | h5
  · exact h b ra rb h5 h3 h4 e
  · have : b = k := by omega
    subst this
    rw [hi] at h3
    rw [hk] at h4
    cases h3; cases h4
    exact he e

def TwinsPost (W0 : World) (rs : List RecT) (e : Ending) (w' : World) : Prop := ∃ b, e = .returned (.bool b) ∧ Below W0.heap.size W0 w' ∧ (b = false → Lone rs)
set_option maxRecDepth 100000 in
set_option maxHeartbeats 4000000 in
theorem twins_any (A : Option Addr) (n c : Nat) (rs : List RecT) (W0 : World) (hs : SlOf recR W0 no A rs) (hn : n = rs.length) (hl : n ≤ 1000000) (hnc : n ≤ c) :
    Calls Try.prog 13 #[.slice A n c] W0 (TwinsPost W0 rs) := by
  have HS := Lib.hid hs
  have HN := Lib.hid hn.symm
  clear hs hn
  go_enter Try.func13, Try.ntmps13
  go_wp2_with fail
  go_loopw [7] (fun s7 wr => ∃ i : Nat, i ≤ n ∧ s7 = .int .i64 (i : Int) ∧ Hid (LoneTo rs i) ∧ Hid (Below W0.heap.size W0 wr)) (fun s7 wr => n - (intOf s7).toNat)
  case atStart => exact ⟨0, by omega, rfl, Lib.hid (fun a b _ _ _ h => absurd h (Nat.not_lt_zero _)), Lib.hid (Below.refl _ _)⟩
  case round =>
    obtain ⟨i, hi, rfl, HLT, HBL⟩ := hrel
    by_cases hlt : i < n
    · have hltI : (i : Int) < (n : Int) := by omega
      have hi0 : (0 : Int) ≤ (i : Int) := by omega
      have hic : (i : Int) ≤ (c : Int) := by omega
      obtain ⟨b1, o1, r, rfl, hb1, hr, hr32, hatr, hstr⟩ := recs_look (HS.out.below HBL.out) HN.out hlt
      obtain ⟨KX, hKX⟩ : ∃ KX, KX = (bytesV r.1).toArray := ⟨_, rfl⟩
      have HIX := Lib.hid (show (Try.prog.info? 33).map (·.size) = some KX.size by rw [hKX]; exact oid_size hr32)
      rw [← hKX] at hatr
      have HATX := Lib.hid hatr
      have HKX := Lib.hid hKX
      have HR := Lib.hid hr
      have HR32 := Lib.hid hr32
      obtain ⟨sr, hsr⟩ : ∃ sr, sr = r.2 := ⟨_, rfl⟩
      rw [← hsr] at hstr
      have HSR := Lib.hid hsr
      clear hr hr32 hatr hKX hsr
      obtain ⟨wL, rfl⟩ : ∃ wo : World, wo = wr := ⟨_, rfl⟩
      go_wp2_with fail
      go_loopw [14] (fun s14 wr => ∃ k : Nat, k ≤ i ∧ s14 = .int .i64 (k : Int) ∧ Hid (LoneAt rs i k) ∧ Hid (Same wL wr)) (fun s14 wr => i - (intOf s14).toNat)
      case atStart => exact ⟨0, by omega, rfl, Lib.hid (fun b _ _ h => absurd h (Nat.not_lt_zero _)), Lib.hid (Same.refl _)⟩
      case round =>
        obtain ⟨k, hk, rfl, HLA, HSM⟩ := hrel
        by_cases hlk : k < i
        · have hlkI : (k : Int) < (i : Int) := by omega
          have hkn : k < n := by omega
          have hknI : (k : Int) < (n : Int) := by omega
          obtain ⟨b2, o2, s, e2, hb2, hs, hs32, hats, hsts⟩ := recs_look (HS.out.below HBL.out) HN.out hkn
          injection e2 with e2
          injection e2 with e2 e3
          subst e2 e3
          obtain ⟨KY, hKY⟩ : ∃ KY, KY = (bytesV s.1).toArray := ⟨_, rfl⟩
          have HIY := Lib.hid (show (Try.prog.info? 33).map (·.size) = some KY.size by rw [hKY]; exact oid_size hs32)
          rw [← hKY] at hats
          have HATY := Lib.hid hats
          have he := fun w => eqlId_of HR32.out hs32 w
          rw [← hKY, ← HKX.out] at he
          obtain ⟨wd, hwd⟩ : ∃ wd, wd = wr.drew := ⟨_, rfl⟩
          have HSD := Lib.hid (show Same wL wd by rw [hwd]; exact HSM.out.drew)
          have HWD := Lib.hid hwd
          have HCR := Lib.hid ((HSD.out.cell ⟨b1, o1 + i * 33 + 32, none⟩).trans hstr)
          have HCS := Lib.hid ((HSD.out.cell ⟨b1, o1 + k * 33 + 32, none⟩).trans hsts)
          have HAX := Lib.hid (show At wd ⟨b1, o1 + i * 33, none⟩ KX from fun j u hu => (HSD.out.cell _).trans (HATX.out j u hu))
          have HAY := Lib.hid (show At wd ⟨b1, o1 + k * 33, none⟩ KY from fun j u hu => (HSD.out.cell _).trans (HATY.out j u hu))
          have HSE := Lib.hid hs
          clear hats hwd hs32 hKY HATY hsts hs
          by_cases hid : r.1 = s.1
          · rw [hid, beq_self_eq_true] at he
            by_cases hst : r.2 = s.2
            · have HLN := Lib.hid (HLA.out.step HR.out HSE.out (fun _ => hst))
              have hcs := HCS.out
              rw [← hst, ← HSR.out] at hcs
              have HCS2 := Lib.hid hcs
              clear hcs HCS hst
              go_upto_region 7 with fail
              refine wp_region_held (S := fun w => w = wd) (by kernel_rfl) ?_
              change wpAnyH _ _ _ _ _ _ _ _ (World.drew _)
              rw [← HWD.out]
              refine held_take (i := 0) (v := ?_) (a' := ?_) rfl (by kernel_rfl) (by kernel_rfl) (by kernel_rfl) (fun _ _ _ h => h) (by rfl) rfl ?_ ?_ ?_
              rotate_left 2
              · (intro w hS; go_simp; try with_reducible rfl)
              · (go_simp; try with_reducible rfl)
              refine held_take (i := 1) (v := ?_) (a' := ?_) rfl (by kernel_rfl) (by kernel_rfl) (by kernel_rfl) (fun _ _ _ h => h) (by rfl) rfl ?_ ?_ ?_
              rotate_left 2
              · (intro w hS; go_simp; try with_reducible rfl)
              · (go_simp; try with_reducible rfl)
              refine held_take (i := 2) (v := ?_) (a' := ?_) rfl (by kernel_rfl) (by kernel_rfl) (by kernel_rfl) (fun _ _ _ h => h) (by rfl) rfl ?_ ?_ ?_
              rotate_left 2
              · (intro w hS; go_simp; try with_reducible rfl)
              · (go_simp; try with_reducible rfl)
              refine held_take (i := 3) (v := ?_) (a' := ?_) rfl (by kernel_rfl) (by kernel_rfl) (by kernel_rfl) (fun _ _ _ h => h) (by rfl) rfl ?_ ?_ ?_
              rotate_left 2
              · (intro w hS; go_simp; try with_reducible rfl)
              · (go_simp; try with_reducible rfl)
              refine held_take (i := 4) (v := ?_) (a' := ?_) rfl (by kernel_rfl) (by kernel_rfl) (by kernel_rfl) (fun _ _ _ h => h) (by rfl) rfl ?_ ?_ ?_
              rotate_left 2
              · (intro w hS; subst hS; refine exec_load_at 33 (.tmp 20) ?_ b1 (o1 + i * 33) ?_ KX _ HAX.out Try.underlying33 rfl HIX.out; exact rfl; exact rfl)
              · (go_simp; try with_reducible rfl)
              refine held_take (i := 5) (v := ?_) (a' := ?_) rfl (by kernel_rfl) (by kernel_rfl) (by kernel_rfl) (fun _ _ _ h => h) (by rfl) rfl ?_ ?_ ?_
              rotate_left 2
              · (intro w hS; go_simp; try with_reducible rfl)
              · (go_simp; try with_reducible rfl)
              refine held_take (i := 6) (v := ?_) (a' := ?_) rfl (by kernel_rfl) (by kernel_rfl) (by kernel_rfl) (fun _ _ _ h => h) (by rfl) rfl ?_ ?_ ?_
              rotate_left 2
              · (intro w hS; go_simp; try with_reducible rfl)
              · (go_simp; try with_reducible rfl)
              refine held_take (i := 7) (v := ?_) (a' := ?_) rfl (by kernel_rfl) (by kernel_rfl) (by kernel_rfl) (fun _ _ _ h => h) (by rfl) rfl ?_ ?_ ?_
              rotate_left 2
              · (intro w hS; go_simp; try with_reducible rfl)
              · (go_simp; try with_reducible rfl)
              refine held_take (i := 8) (v := ?_) (a' := ?_) rfl (by kernel_rfl) (by kernel_rfl) (by kernel_rfl) (fun _ _ _ h => h) (by rfl) rfl ?_ ?_ ?_
              rotate_left 2
              · (intro w hS; go_simp; try with_reducible rfl)
              · (go_simp; try with_reducible rfl)
              refine held_take (i := 9) (v := ?_) (a' := ?_) rfl (by kernel_rfl) (by kernel_rfl) (by kernel_rfl) (fun _ _ _ h => h) (by rfl) rfl ?_ ?_ ?_
              rotate_left 2
              · (intro w hS; subst hS; refine exec_load_at 33 (.tmp 25) ?_ b1 (o1 + k * 33) ?_ KY _ HAY.out Try.underlying33 rfl HIY.out; exact rfl; exact rfl)
              · (go_simp; try with_reducible rfl)
              refine held_take (i := 10) (v := ?_) (a' := ?_) rfl (by kernel_rfl) (by kernel_rfl) (by kernel_rfl) (fun _ _ _ h => h) (by rfl) rfl ?_ ?_ ?_
              rotate_left 2
              · (intro w hS; go_simp; try with_reducible rfl)
              · (go_simp; try with_reducible rfl)
              refine held_take (i := 11) (v := ?_) (a' := ?_) rfl (by kernel_rfl) (by kernel_rfl) (by kernel_rfl) (fun _ _ _ h => h) (by rfl) rfl ?_ ?_ ?_
              rotate_left 2
              · (intro w hS; go_simp; try with_reducible rfl)
              · (go_simp; try with_reducible rfl)
              refine held_take (i := 12) (v := ?_) (a' := ?_) rfl (by kernel_rfl) (by kernel_rfl) (by kernel_rfl) (fun _ _ _ h => h) (by rfl) rfl ?_ ?_ ?_
              rotate_left 2
              · (intro w hS; go_simp; try with_reducible rfl)
              · (go_simp; try with_reducible rfl)
              refine held_take (i := 13) (v := ?_) (a' := ?_) rfl (by kernel_rfl) (by kernel_rfl) (by kernel_rfl) (fun _ _ _ h => h) (by rfl) rfl ?_ ?_ ?_
              rotate_left 2
              · (intro w hS; go_simp; try with_reducible rfl)
              · (go_simp; try with_reducible rfl)
              refine held_take (i := 14) (v := ?_) (a' := ?_) rfl (by kernel_rfl) (by kernel_rfl) (by kernel_rfl) (fun _ _ _ h => h) (by rfl) rfl ?_ ?_ ?_
              rotate_left 2
              · (intro w hS; go_simp; try with_reducible rfl)
              · (go_simp; try with_reducible rfl)
              refine held_take (i := 15) (v := ?_) (a' := ?_) rfl (by kernel_rfl) (by kernel_rfl) (by kernel_rfl) (fun _ _ _ h => h) (by rfl) rfl ?_ ?_ ?_
              rotate_left 2
              · (intro w hS; go_simp; try with_reducible rfl)
              · (go_simp; try with_reducible rfl)
              refine held_take (i := 16) (v := ?_) (a' := ?_) rfl (by kernel_rfl) (by kernel_rfl) (by kernel_rfl) (fun _ _ _ h => h) (by rfl) rfl ?_ ?_ ?_
              rotate_left 2
              · (intro w hS; subst hS; have t := HCR.out; go_simp; try with_reducible rfl)
              · (go_simp; try with_reducible rfl)
              refine held_take (i := 17) (v := ?_) (a' := ?_) rfl (by kernel_rfl) (by kernel_rfl) (by kernel_rfl) (fun _ _ _ h => h) (by rfl) rfl ?_ ?_ ?_
              rotate_left 2
              · (intro w hS; go_simp; try with_reducible rfl)
              · (go_simp; try with_reducible rfl)
              refine held_take (i := 18) (v := ?_) (a' := ?_) rfl (by kernel_rfl) (by kernel_rfl) (by kernel_rfl) (fun _ _ _ h => h) (by rfl) rfl ?_ ?_ ?_
              rotate_left 2
              · (intro w hS; go_simp; try with_reducible rfl)
              · (go_simp; try with_reducible rfl)
              refine held_take (i := 19) (v := ?_) (a' := ?_) rfl (by kernel_rfl) (by kernel_rfl) (by kernel_rfl) (fun _ _ _ h => h) (by rfl) rfl ?_ ?_ ?_
              rotate_left 2
              · (intro w hS; go_simp; try with_reducible rfl)
              · (go_simp; try with_reducible rfl)
              refine held_take (i := 20) (v := ?_) (a' := ?_) rfl (by kernel_rfl) (by kernel_rfl) (by kernel_rfl) (fun _ _ _ h => h) (by rfl) rfl ?_ ?_ ?_
              rotate_left 2
              · (intro w hS; go_simp; try with_reducible rfl)
              · (go_simp; try with_reducible rfl)
              refine held_take (i := 21) (v := ?_) (a' := ?_) rfl (by kernel_rfl) (by kernel_rfl) (by kernel_rfl) (fun _ _ _ h => h) (by rfl) rfl ?_ ?_ ?_
              rotate_left 2
              · (intro w hS; subst hS; have t := HCS2.out; go_simp; try with_reducible rfl)
              · (go_simp; try with_reducible rfl)
              refine held_take (i := 22) (v := ?_) (a' := ?_) rfl (by kernel_rfl) (by kernel_rfl) (by kernel_rfl) (fun _ _ _ h => h) (by rfl) rfl ?_ ?_ ?_
              rotate_left 2
              · (intro w hS; go_simp; try with_reducible rfl)
              · (go_simp; try with_reducible rfl)
              refine held_take (i := 23) (v := ?_) (a' := ?_) rfl (by kernel_rfl) (by kernel_rfl) (by kernel_rfl) (fun _ _ _ h => h) (by rfl) rfl ?_ ?_ ?_
              rotate_left 2
              · (intro w hS; go_simp; try with_reducible rfl)
              · (go_simp; try with_reducible rfl)
              refine wpAnyH_done (by kernel_rfl) ?_ _
              go_wp2_with fail
              go_roundw
              case rel => exact ⟨k + 1, by omega, by go_num, HLN, HSD⟩
              case measure => simp [intOf]; omega
            · have HBD := Lib.hid (HBL.out.trans ((HSD.out.below _).mono HBL.out.size))
              obtain ⟨st, hst2⟩ : ∃ st, st = s.2 := ⟨_, rfl⟩
              have hcs := HCS.out
              rw [← hst2] at hcs
              have HCS2 := Lib.hid hcs
              have hx : sr.toList ≠ st.toList := by
                rw [HSR.out, hst2]
                intro e
                rw [ByteArray.toList_eq, ByteArray.toList_eq] at e
                exact hst (by
                  cases h1 : r.2 with | mk a1 =>
                  cases h2 : s.2 with | mk a2 =>
                  rw [h1, h2] at e
                  simp at e
                  rw [e])
              have hx1 : (sr.toList == st.toList) = false := by simpa using hx
              have hx2 : (sr.toList != st.toList) = true := by simpa using hx
              clear hcs HCS hst hst2 hx
              go_upto_region 7 with fail
              refine wp_region_held (S := fun w => w = wd) (by kernel_rfl) ?_
              change wpAnyH _ _ _ _ _ _ _ _ (World.drew _)
              rw [← HWD.out]
              refine held_take (i := 0) (v := ?_) (a' := ?_) rfl (by kernel_rfl) (by kernel_rfl) (by kernel_rfl) (fun _ _ _ h => h) (by rfl) rfl ?_ ?_ ?_
              rotate_left 2
              · (intro w hS; go_simp; try with_reducible rfl)
              · (go_simp; try with_reducible rfl)
              refine held_take (i := 1) (v := ?_) (a' := ?_) rfl (by kernel_rfl) (by kernel_rfl) (by kernel_rfl) (fun _ _ _ h => h) (by rfl) rfl ?_ ?_ ?_
              rotate_left 2
              · (intro w hS; go_simp; try with_reducible rfl)
              · (go_simp; try with_reducible rfl)
              refine held_take (i := 2) (v := ?_) (a' := ?_) rfl (by kernel_rfl) (by kernel_rfl) (by kernel_rfl) (fun _ _ _ h => h) (by rfl) rfl ?_ ?_ ?_
              rotate_left 2
              · (intro w hS; go_simp; try with_reducible rfl)
              · (go_simp; try with_reducible rfl)
              refine held_take (i := 3) (v := ?_) (a' := ?_) rfl (by kernel_rfl) (by kernel_rfl) (by kernel_rfl) (fun _ _ _ h => h) (by rfl) rfl ?_ ?_ ?_
              rotate_left 2
              · (intro w hS; go_simp; try with_reducible rfl)
              · (go_simp; try with_reducible rfl)
              refine held_take (i := 4) (v := ?_) (a' := ?_) rfl (by kernel_rfl) (by kernel_rfl) (by kernel_rfl) (fun _ _ _ h => h) (by rfl) rfl ?_ ?_ ?_
              rotate_left 2
              · (intro w hS; subst hS; refine exec_load_at 33 (.tmp 20) ?_ b1 (o1 + i * 33) ?_ KX _ HAX.out Try.underlying33 rfl HIX.out; exact rfl; exact rfl)
              · (go_simp; try with_reducible rfl)
              refine held_take (i := 5) (v := ?_) (a' := ?_) rfl (by kernel_rfl) (by kernel_rfl) (by kernel_rfl) (fun _ _ _ h => h) (by rfl) rfl ?_ ?_ ?_
              rotate_left 2
              · (intro w hS; go_simp; try with_reducible rfl)
              · (go_simp; try with_reducible rfl)
              refine held_take (i := 6) (v := ?_) (a' := ?_) rfl (by kernel_rfl) (by kernel_rfl) (by kernel_rfl) (fun _ _ _ h => h) (by rfl) rfl ?_ ?_ ?_
              rotate_left 2
              · (intro w hS; go_simp; try with_reducible rfl)
              · (go_simp; try with_reducible rfl)
              refine held_take (i := 7) (v := ?_) (a' := ?_) rfl (by kernel_rfl) (by kernel_rfl) (by kernel_rfl) (fun _ _ _ h => h) (by rfl) rfl ?_ ?_ ?_
              rotate_left 2
              · (intro w hS; go_simp; try with_reducible rfl)
              · (go_simp; try with_reducible rfl)
              refine held_take (i := 8) (v := ?_) (a' := ?_) rfl (by kernel_rfl) (by kernel_rfl) (by kernel_rfl) (fun _ _ _ h => h) (by rfl) rfl ?_ ?_ ?_
              rotate_left 2
              · (intro w hS; go_simp; try with_reducible rfl)
              · (go_simp; try with_reducible rfl)
              refine held_take (i := 9) (v := ?_) (a' := ?_) rfl (by kernel_rfl) (by kernel_rfl) (by kernel_rfl) (fun _ _ _ h => h) (by rfl) rfl ?_ ?_ ?_
              rotate_left 2
              · (intro w hS; subst hS; refine exec_load_at 33 (.tmp 25) ?_ b1 (o1 + k * 33) ?_ KY _ HAY.out Try.underlying33 rfl HIY.out; exact rfl; exact rfl)
              · (go_simp; try with_reducible rfl)
              refine held_take (i := 10) (v := ?_) (a' := ?_) rfl (by kernel_rfl) (by kernel_rfl) (by kernel_rfl) (fun _ _ _ h => h) (by rfl) rfl ?_ ?_ ?_
              rotate_left 2
              · (intro w hS; go_simp; try with_reducible rfl)
              · (go_simp; try with_reducible rfl)
              refine held_take (i := 11) (v := ?_) (a' := ?_) rfl (by kernel_rfl) (by kernel_rfl) (by kernel_rfl) (fun _ _ _ h => h) (by rfl) rfl ?_ ?_ ?_
              rotate_left 2
              · (intro w hS; go_simp; try with_reducible rfl)
              · (go_simp; try with_reducible rfl)
              refine held_take (i := 12) (v := ?_) (a' := ?_) rfl (by kernel_rfl) (by kernel_rfl) (by kernel_rfl) (fun _ _ _ h => h) (by rfl) rfl ?_ ?_ ?_
              rotate_left 2
              · (intro w hS; go_simp; try with_reducible rfl)
              · (go_simp; try with_reducible rfl)
              refine held_take (i := 13) (v := ?_) (a' := ?_) rfl (by kernel_rfl) (by kernel_rfl) (by kernel_rfl) (fun _ _ _ h => h) (by rfl) rfl ?_ ?_ ?_
              rotate_left 2
              · (intro w hS; go_simp; try with_reducible rfl)
              · (go_simp; try with_reducible rfl)
              refine held_take (i := 14) (v := ?_) (a' := ?_) rfl (by kernel_rfl) (by kernel_rfl) (by kernel_rfl) (fun _ _ _ h => h) (by rfl) rfl ?_ ?_ ?_
              rotate_left 2
              · (intro w hS; go_simp; try with_reducible rfl)
              · (go_simp; try with_reducible rfl)
              refine held_take (i := 15) (v := ?_) (a' := ?_) rfl (by kernel_rfl) (by kernel_rfl) (by kernel_rfl) (fun _ _ _ h => h) (by rfl) rfl ?_ ?_ ?_
              rotate_left 2
              · (intro w hS; go_simp; try with_reducible rfl)
              · (go_simp; try with_reducible rfl)
              refine held_take (i := 16) (v := ?_) (a' := ?_) rfl (by kernel_rfl) (by kernel_rfl) (by kernel_rfl) (fun _ _ _ h => h) (by rfl) rfl ?_ ?_ ?_
              rotate_left 2
              · (intro w hS; subst hS; have t := HCR.out; go_simp; try with_reducible rfl)
              · (go_simp; try with_reducible rfl)
              refine held_take (i := 17) (v := ?_) (a' := ?_) rfl (by kernel_rfl) (by kernel_rfl) (by kernel_rfl) (fun _ _ _ h => h) (by rfl) rfl ?_ ?_ ?_
              rotate_left 2
              · (intro w hS; go_simp; try with_reducible rfl)
              · (go_simp; try with_reducible rfl)
              refine held_take (i := 18) (v := ?_) (a' := ?_) rfl (by kernel_rfl) (by kernel_rfl) (by kernel_rfl) (fun _ _ _ h => h) (by rfl) rfl ?_ ?_ ?_
              rotate_left 2
              · (intro w hS; go_simp; try with_reducible rfl)
              · (go_simp; try with_reducible rfl)
              refine held_take (i := 19) (v := ?_) (a' := ?_) rfl (by kernel_rfl) (by kernel_rfl) (by kernel_rfl) (fun _ _ _ h => h) (by rfl) rfl ?_ ?_ ?_
              rotate_left 2
              · (intro w hS; go_simp; try with_reducible rfl)
              · (go_simp; try with_reducible rfl)
              refine held_take (i := 20) (v := ?_) (a' := ?_) rfl (by kernel_rfl) (by kernel_rfl) (by kernel_rfl) (fun _ _ _ h => h) (by rfl) rfl ?_ ?_ ?_
              rotate_left 2
              · (intro w hS; go_simp; try with_reducible rfl)
              · (go_simp; try with_reducible rfl)
              refine held_take (i := 21) (v := ?_) (a' := ?_) rfl (by kernel_rfl) (by kernel_rfl) (by kernel_rfl) (fun _ _ _ h => h) (by rfl) rfl ?_ ?_ ?_
              rotate_left 2
              · (intro w hS; subst hS; have t := HCS2.out; go_simp; try with_reducible rfl)
              · (go_simp; try with_reducible rfl)
              refine held_take (i := 22) (v := ?_) (a' := ?_) rfl (by kernel_rfl) (by kernel_rfl) (by kernel_rfl) (fun _ _ _ h => h) (by rfl) rfl ?_ ?_ ?_
              rotate_left 2
              · (intro w hS; go_simp; try with_reducible rfl)
              · (go_simp; try with_reducible rfl)
              refine held_take (i := 23) (v := ?_) (a' := ?_) rfl (by kernel_rfl) (by kernel_rfl) (by kernel_rfl) (fun _ _ _ h => h) (by rfl) rfl ?_ ?_ ?_
              rotate_left 2
              · (intro w hS; go_simp; try with_reducible rfl)
              · (go_simp; try with_reducible rfl)
              refine wpAnyH_done (by kernel_rfl) ?_ _
              go_wp2_with fail
              go_ret
              exact ⟨true, rfl, HBD.out, fun h => by cases h⟩
          · have hidb : (r.1 == s.1) = false := by simpa using hid
            rw [hidb] at he
            have HLN := Lib.hid (HLA.out.step HR.out HSE.out (fun e => absurd e hid))
            clear hid hidb HCS HCR
            go_upto_region 7 with fail
            refine wp_region_held (S := fun w => w = wd) (by kernel_rfl) ?_
            change wpAnyH _ _ _ _ _ _ _ _ (World.drew _)
            rw [← HWD.out]
            refine held_take (i := 0) (v := ?_) (a' := ?_) rfl (by kernel_rfl) (by kernel_rfl) (by kernel_rfl) (fun _ _ _ h => h) (by rfl) rfl ?_ ?_ ?_
            rotate_left 2
            · (intro w hS; go_simp; try with_reducible rfl)
            · (go_simp; try with_reducible rfl)
            refine held_take (i := 1) (v := ?_) (a' := ?_) rfl (by kernel_rfl) (by kernel_rfl) (by kernel_rfl) (fun _ _ _ h => h) (by rfl) rfl ?_ ?_ ?_
            rotate_left 2
            · (intro w hS; go_simp; try with_reducible rfl)
            · (go_simp; try with_reducible rfl)
            refine held_take (i := 2) (v := ?_) (a' := ?_) rfl (by kernel_rfl) (by kernel_rfl) (by kernel_rfl) (fun _ _ _ h => h) (by rfl) rfl ?_ ?_ ?_
            rotate_left 2
            · (intro w hS; go_simp; try with_reducible rfl)
            · (go_simp; try with_reducible rfl)
            refine held_take (i := 3) (v := ?_) (a' := ?_) rfl (by kernel_rfl) (by kernel_rfl) (by kernel_rfl) (fun _ _ _ h => h) (by rfl) rfl ?_ ?_ ?_
            rotate_left 2
            · (intro w hS; go_simp; try with_reducible rfl)
            · (go_simp; try with_reducible rfl)
            refine held_take (i := 4) (v := ?_) (a' := ?_) rfl (by kernel_rfl) (by kernel_rfl) (by kernel_rfl) (fun _ _ _ h => h) (by rfl) rfl ?_ ?_ ?_
            rotate_left 2
            · (intro w hS; subst hS; refine exec_load_at 33 (.tmp 20) ?_ b1 (o1 + i * 33) ?_ KX _ HAX.out Try.underlying33 rfl HIX.out; exact rfl; exact rfl)
            · (go_simp; try with_reducible rfl)
            refine held_take (i := 5) (v := ?_) (a' := ?_) rfl (by kernel_rfl) (by kernel_rfl) (by kernel_rfl) (fun _ _ _ h => h) (by rfl) rfl ?_ ?_ ?_
            rotate_left 2
            · (intro w hS; go_simp; try with_reducible rfl)
            · (go_simp; try with_reducible rfl)
            refine held_take (i := 6) (v := ?_) (a' := ?_) rfl (by kernel_rfl) (by kernel_rfl) (by kernel_rfl) (fun _ _ _ h => h) (by rfl) rfl ?_ ?_ ?_
            rotate_left 2
            · (intro w hS; go_simp; try with_reducible rfl)
            · (go_simp; try with_reducible rfl)
            refine held_take (i := 7) (v := ?_) (a' := ?_) rfl (by kernel_rfl) (by kernel_rfl) (by kernel_rfl) (fun _ _ _ h => h) (by rfl) rfl ?_ ?_ ?_
            rotate_left 2
            · (intro w hS; go_simp; try with_reducible rfl)
            · (go_simp; try with_reducible rfl)
            refine held_take (i := 8) (v := ?_) (a' := ?_) rfl (by kernel_rfl) (by kernel_rfl) (by kernel_rfl) (fun _ _ _ h => h) (by rfl) rfl ?_ ?_ ?_
            rotate_left 2
            · (intro w hS; go_simp; try with_reducible rfl)
            · (go_simp; try with_reducible rfl)
            refine held_take (i := 9) (v := ?_) (a' := ?_) rfl (by kernel_rfl) (by kernel_rfl) (by kernel_rfl) (fun _ _ _ h => h) (by rfl) rfl ?_ ?_ ?_
            rotate_left 2
            · (intro w hS; subst hS; refine exec_load_at 33 (.tmp 25) ?_ b1 (o1 + k * 33) ?_ KY _ HAY.out Try.underlying33 rfl HIY.out; exact rfl; exact rfl)
            · (go_simp; try with_reducible rfl)
            refine held_take (i := 10) (v := ?_) (a' := ?_) rfl (by kernel_rfl) (by kernel_rfl) (by kernel_rfl) (fun _ _ _ h => h) (by rfl) rfl ?_ ?_ ?_
            rotate_left 2
            · (intro w hS; go_simp; try with_reducible rfl)
            · (go_simp; try with_reducible rfl)
            refine held_take (i := 11) (v := ?_) (a' := ?_) rfl (by kernel_rfl) (by kernel_rfl) (by kernel_rfl) (fun _ _ _ h => h) (by rfl) rfl ?_ ?_ ?_
            rotate_left 2
            · (intro w hS; go_simp; try with_reducible rfl)
            · (go_simp; try with_reducible rfl)
            refine held_no (i := 12) (a' := ?_) rfl (by kernel_rfl) (by kernel_rfl) (by kernel_rfl) (fun _ _ _ h => h) (by rfl) rfl ?_ ?_
            rotate_left 1
            · (go_simp; try with_reducible rfl)
            refine held_no (i := 13) (a' := ?_) rfl (by kernel_rfl) (by kernel_rfl) (by kernel_rfl) (fun _ _ _ h => h) (by rfl) rfl ?_ ?_
            rotate_left 1
            · (go_simp; try with_reducible rfl)
            refine held_no (i := 14) (a' := ?_) rfl (by kernel_rfl) (by kernel_rfl) (by kernel_rfl) (fun _ _ _ h => h) (by rfl) rfl ?_ ?_
            rotate_left 1
            · (go_simp; try with_reducible rfl)
            refine held_no (i := 15) (a' := ?_) rfl (by kernel_rfl) (by kernel_rfl) (by kernel_rfl) (fun _ _ _ h => h) (by rfl) rfl ?_ ?_
            rotate_left 1
            · (go_simp; try with_reducible rfl)
            refine held_no (i := 16) (a' := ?_) rfl (by kernel_rfl) (by kernel_rfl) (by kernel_rfl) (fun _ _ _ h => h) (by rfl) rfl ?_ ?_
            rotate_left 1
            · (go_simp; try with_reducible rfl)
            refine held_no (i := 17) (a' := ?_) rfl (by kernel_rfl) (by kernel_rfl) (by kernel_rfl) (fun _ _ _ h => h) (by rfl) rfl ?_ ?_
            rotate_left 1
            · (go_simp; try with_reducible rfl)
            refine held_no (i := 18) (a' := ?_) rfl (by kernel_rfl) (by kernel_rfl) (by kernel_rfl) (fun _ _ _ h => h) (by rfl) rfl ?_ ?_
            rotate_left 1
            · (go_simp; try with_reducible rfl)
            refine held_no (i := 19) (a' := ?_) rfl (by kernel_rfl) (by kernel_rfl) (by kernel_rfl) (fun _ _ _ h => h) (by rfl) rfl ?_ ?_
            rotate_left 1
            · (go_simp; try with_reducible rfl)
            refine held_no (i := 20) (a' := ?_) rfl (by kernel_rfl) (by kernel_rfl) (by kernel_rfl) (fun _ _ _ h => h) (by rfl) rfl ?_ ?_
            rotate_left 1
            · (go_simp; try with_reducible rfl)
            refine held_no (i := 21) (a' := ?_) rfl (by kernel_rfl) (by kernel_rfl) (by kernel_rfl) (fun _ _ _ h => h) (by rfl) rfl ?_ ?_
            rotate_left 1
            · (go_simp; try with_reducible rfl)
            refine held_no (i := 22) (a' := ?_) rfl (by kernel_rfl) (by kernel_rfl) (by kernel_rfl) (fun _ _ _ h => h) (by rfl) rfl ?_ ?_
            rotate_left 1
            · (go_simp; try with_reducible rfl)
            refine held_take (i := 23) (v := ?_) (a' := ?_) rfl (by kernel_rfl) (by kernel_rfl) (by kernel_rfl) (fun _ _ _ h => h) (by rfl) rfl ?_ ?_ ?_
            rotate_left 2
            · (intro w hS; go_simp; try with_reducible rfl)
            · (go_simp; try with_reducible rfl)
            refine wpAnyH_done (by kernel_rfl) ?_ _
            go_wp2_with fail
            go_roundw
            case rel => exact ⟨k + 1, by omega, by go_num, HLN, HSD⟩
            case measure => simp [intOf]; omega
        · have hlkI : ¬ (k : Int) < (i : Int) := by omega
          have HLN := Lib.hid (HLT.out.step (by
            have := HLA.out
            rw [show k = i by omega] at this
            exact this))
          have HBD := Lib.hid (HBL.out.trans ((HSM.out.below _).mono HBL.out.size))
          go_wp2_with fail
          go_roundw
          case rel => exact ⟨i + 1, by omega, by go_num, HLN, HBD⟩
          case measure => simp [intOf]; omega
    · have hltI : ¬ (i : Int) < (n : Int) := by omega
      have HLN := Lib.hid (show Lone rs from LoneTo.all (by
        have := HLT.out
        rw [HN.out, show n = i by omega]
        exact this))
      go_wp2_with fail
      go_ret
      exact ⟨false, rfl, HBL.out, fun _ => HLN.out⟩
end Go.Proofs.Ytgmbkcjihgphmaa

/- what comes into a fetch, plain: it fits the other one's records; what is lacking can be reached there. -/
set_option linter.unusedVariables false
set_option linter.unusedSimpArgs false
namespace Go.Proofs.Ytgmbkcjihgphmaa
open Go.RowKit

section
variable {rs bs : List RecT} {ad : AsT} {x b root : List UInt8}
theorem getB_mem (h : getB rs x = some b) : ∃ r ∈ rs, r.1 = x ∧ dB r.2 = b := by
  unfold getB getS at h
  cases hf : rs.find? (fun r => r.1 == x) with
  | none => rw [hf] at h; cases h
  | some r =>
    rw [hf] at h
    have h1 := List.find?_some hf
    have h1 : r.1 = x := by simpa using h1
    exact ⟨r, List.mem_of_find?_eq_some hf, h1, Option.some.inj h⟩
theorem getB_of (hl : Lone rs) {r : RecT} (hr : r ∈ rs) : getB rs r.1 = some (dB r.2) := by
  unfold getB getS
  cases hf : rs.find? (fun s => s.1 == r.1) with
  | none =>
    have := List.find?_eq_none.1 hf r hr
    simp at this
  | some s =>
    have h1 := List.find?_some hf
    have h1 : s.1 = r.1 := by simpa using h1
    have h2 := hl s (List.mem_of_find?_eq_some hf) r hr h1
    simp [h2]
theorem getB_sub (hl : Lone rs) (hs : ∀ r ∈ bs, r ∈ rs) (h : getB bs x = some b) : getB rs x = some b := by
  obtain ⟨r, hr, rfl, rfl⟩ := getB_mem h
  exact getB_of hl (hs r hr)
/-- what was put aside are the other one's records -/
def FitsR (rs : List RecT) (ad : AsT) : Prop := ∀ x b, getA ad x = some b → getB rs x = some b
theorem FitsR.src (hf : FitsR rs ad) (hl : Lone rs) (hs : ∀ r ∈ bs, r ∈ rs) (h : srcF (getB bs) ad x = some b) : getB rs x = some b := by
  unfold srcF at h
  cases hg : getA ad x with
  | none => rw [hg] at h; exact getB_sub hl hs h
  | some b' => rw [hg] at h; cases h; exact hf x b hg
theorem FitsR.re (hf : FitsR rs ad) (hl : Lone rs) (hs : ∀ r ∈ bs, r ∈ rs) (h : Re (srcF (getB bs) ad) root x) : Re (getB rs) root x := by
  induction h with
  | root => exact .root
  | step _ h2 h3 ih => exact .step ih (hf.src hl hs h2) h3
def take1 (L : AsT → List (List UInt8)) (ad : AsT) (b : List UInt8) : AsT × Nat := if (lkB (linksG b) && (L ad).contains (shaG b)) = true then ((shaG b, b) :: ad, 1) else (ad, 0)
theorem takeF_one (L : AsT → List (List UInt8)) (ad : AsT) (b : List UInt8) : takeF L [b] ad 0 = take1 L ad b := by
  unfold takeF take1
  split <;> rfl
theorem take1_len (L : AsT → List (List UInt8)) (ad : AsT) (b : List UInt8) : (take1 L ad b).1.length ≤ ad.length + 1 := by
  unfold take1
  split <;> simp
theorem take1_out {L : AsT → List (List UInt8)} (h : shaG b ∉ L ad) : take1 L ad b = (ad, 0) := by
  unfold take1
  rw [if_neg]
  intro e
  have := (Bool.and_eq_true_iff.1 e).2
  exact h (by simpa using this)
theorem FitsR.take (hf : FitsR rs ad) (hl : Lone rs) {r : RecT} (hr : r ∈ rs) (hg : r.1 = shaG (dB r.2)) (L : AsT → List (List UInt8)) : FitsR rs (take1 L ad (dB r.2)).1 := by
  unfold take1
  split
  · intro x b h
    rw [getA_cons] at h
    split at h
    · rename_i he
      have he : shaG (dB r.2) = x := by simpa using he
      cases h
      rw [← he, ← hg]
      exact getB_of hl hr
    · exact hf x b h
  · exact hf
theorem FitsR.nil : FitsR rs [] := fun x b h => by simp [getA] at h
theorem lack_reach {R : Ids} {nv : Nat} (hm : markL (getB rs) root = .ok R) (hfin : FinS (srcF (getB bs) ad) nv) (hf : FitsR rs ad) (hl : Lone rs) (hs : ∀ r ∈ bs, r ∈ rs) (h : x ∈ lackL (srcF (getB bs) ad) root) : x ∈ R := by
  have h1 := (getB_fin rs).markL root
  rw [hm] at h1
  exact markP_re h1 (hf.re hl hs (hfin.re h).1)
theorem take1_far {R : Ids} (hm : markL (getB rs) root = .ok R) (hf : FitsR rs ad) (hl : Lone rs) (hs : ∀ r ∈ bs, r ∈ rs) (hb : R.contains (shaG b) = false) : take1 (fun ad => lackL (srcF (getB bs) ad) root) ad b = (ad, 0) :=
  take1_out fun h => by
    have h1 := lack_reach hm (srcF_fin (getB_fin bs) ad) hf hl hs h
    simp at hb
    exact hb h1
theorem recs_none {S : SrcT} {nv : Nat} (hfin : FinS (srcF S ad) nv) (h : lackL (srcF S ad) root ≠ []) : recsF S ad root = [] := by
  unfold recsF
  cases hm : markL (srcF S ad) root with
  | error z => rfl
  | ok R => exact absurd (mark_lack hfin hm) h
end

/-- one record comes in -/
theorem take_one {T : TypeId} {V : Value} {g mb J : Nat} {root : List UInt8} {m : IM} {ad : AsT} {L : AsT → List (List UInt8)} (W0 w : World) (hL : LackLaw W0 g T V root mb L J) (hB : Below W0.heap.size W0 w) (h : FT w W0.heap.size g T V root mb m ad)
    (A : Option Addr) (n c : Nat) (b : List UInt8) (hs : Sl w 1 A n (bytesV b)) (hn : n = b.length) (hc : n ≤ c) (hcm : c ≤ maxLen) (hl : n ≤ 1000000000) (hJ : ad.length + 1 ≤ J) :
    Calls Try.prog 16 #[.pointer (some ⟨g, 0, none⟩), .slice (some ⟨w.heap.size, 0, none⟩) 1 1] (w.alloc (.cells #[.slice A n c] 28))
      fun e w' => ∃ m', e = .returned (.int .i64 ((take1 L ad b).2 : Int)) ∧ FT w' W0.heap.size g T V root mb m' (take1 L ad b).1 ∧ Below W0.heap.size W0 w' ∧ w.grownBy w' (some mb) := by
  subst hn
  have hb1 : Below w.heap.size w (w.alloc (.cells #[.slice A b.length c] 28)) := (Below.refl _ _).alloc (Nat.le_refl _) _
  have hf := Sl.one w (.slice A b.length c) 28
  have hmb := h.map.lt
  generalize w.alloc (.cells #[.slice A b.length c] 28) = w1 at *
  have hft := h.go hb1
  have hsb : SlOf byteR w1 (fun b => b = mb) A b := apart_map ⟨_, hs.below hb1, bytes_each _ _ _, fun _ _ _ _ q => q⟩ hft.map
  have hsl : SlOf byR w1 (fun b => b = mb) (some ⟨w.heap.size, 0, none⟩) [b] :=
    ⟨_, hf, .cons (cs := [.slice A b.length c]) ⟨_, c, rfl, hc, hcm, hsb⟩ .nil, fun _ k off e => by
      have e := Option.some.inj e
      injection e with e
      omega⟩
  have hbw := hB.trans (hb1.mono hB.size)
  refine (takes_any W0 w1 hL hbw hft _ 1 1 [b] hsl rfl (by omega) (fun y hy => by have : y = b := (by simpa using hy); subst this; exact hl) hJ).mono ?_
  rw [takeF_one]
  rintro e w' ⟨m', he, h1, h2⟩
  exact ⟨m', he, h1, hbw.grown h2 hbw.size (fun k e => by have := Option.some.inj e; have := h.basem; omega), grown_trans (grown_below hb1 _) h2⟩
end Go.Proofs.Ytgmbkcjihgphmaa

/- a record out of a row, and in a block of its own. -/
set_option linter.unusedVariables false
set_option linter.unusedSimpArgs false
namespace Go.Proofs.Ytgmbkcjihgphmaa
open Go.RowKit

theorem recs_row {w : World} {av : Av} {A : Option Addr} {rs : List RecT} {n i : Nat} (h : SlOf recR w av A rs) (hl : rs.length = n) (hi : i < n) :
    ∃ b off r, A = some ⟨b, off, none⟩ ∧ b < w.heap.size ∧ rs[i]? = some r ∧ r.1.length = 32 ∧ At w ⟨b, off + i * 33, none⟩ (recK r.1 r.2) := by
  obtain ⟨b, off, cs, r, e, hb, hx, hr, hc⟩ := h.at hl hi
  obtain ⟨rfl, h32⟩ := rec_cells hr
  exact ⟨b, off, r, e, hb, hx, h32, hc⟩
theorem rec_id_at {w : World} {g : Nat} {t : TypeId} {i : List UInt8} {s : ByteArray} (h : Blk w g t (recK i s)) : At w ⟨g, 0, none⟩ (bytesV i).toArray := fun j u hu => by
  show w.cell? ⟨g, 0 + j, none⟩ = some u
  rw [h.cell, Nat.zero_add]
  have hu : (bytesV i)[j]? = some u := by simpa using hu
  unfold recK
  rw [List.getElem?_toArray, List.getElem?_append_left (List.getElem?_eq_some_iff.1 hu).1, hu]
theorem rec_str {w : World} {g : Nat} {t : TypeId} {i : List UInt8} {s : ByteArray} (hi : i.length = 32) (h : Blk w g t (recK i s)) : w.cell? ⟨g, 32, none⟩ = some (.string s) := by
  rw [h.cell]
  unfold recK
  rw [List.getElem?_toArray, List.getElem?_append_right (by rw [bytesV_length, hi]; exact Nat.le_refl _), bytesV_length, hi]; rfl
theorem take_contains {ids : List (List UInt8)} {k : Nat} {x y : List UInt8} (h : ids[k]? = some y) : (ids.take (k + 1)).contains x = ((ids.take k).contains x || (y == x)) := by
  rw [List.take_add_one, h]
  rw [Bool.eq_iff_iff, Bool.or_eq_true, List.contains_iff_mem, List.contains_iff_mem, List.mem_append, beq_iff_eq]
  refine or_congr Iff.rfl ⟨fun h => ?_, fun h => by simp [h]⟩
  have h : x = y := by simpa using h
  exact h.symm
end Go.Proofs.Ytgmbkcjihgphmaa
