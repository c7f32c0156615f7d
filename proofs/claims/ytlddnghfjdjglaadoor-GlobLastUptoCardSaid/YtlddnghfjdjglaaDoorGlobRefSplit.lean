/- towlineref05.Split. -/
import Derived.Test.YtlddnghfjdjglaaDoorGlobRefLetter
import Derived.Test.YtlddnghfjdjglaaDoorGlobSplit
import Derived.Test.YtlddnghfjdjglaaDoorRowR
set_option linter.unusedVariables false
set_option linter.unusedSimpArgs false
namespace Go.Proofs.YtlddnghfjdjglaaDoor
open Go.RowKit

theorem splitG_one : ∀ {p : List UInt8}, (∀ x ∈ p, x ≠ 47) → splitG p = [p]
  | [], _ => rfl
  | x :: r, h => by
    have h1 := splitG_one (p := r) (fun y hy => h y (by simp [hy]))
    show (if x = 47 then _ else match splitG r with | [] => [[x]] | p :: q => (x :: p) :: q) = _
    rw [if_neg (h x (by simp)), h1]
theorem splitG_at : ∀ {p : List UInt8} (r : List UInt8), (∀ x ∈ p, x ≠ 47) → splitG (p ++ 47 :: r) = p :: splitG r
  | [], r, _ => rfl
  | x :: q, r, h => by
    have h1 := splitG_at (p := q) r (fun y hy => h y (by simp [hy]))
    show (if x = 47 then _ else match splitG (q ++ 47 :: r) with | [] => [[x]] | p :: q => (x :: p) :: q) = _
    rw [if_neg (h x (by simp)), h1]
theorem strL_cut (l : List UInt8) (f i : Nat) : (strL l).extract f i = strL ((l.drop f).take (i - f)) := by
  apply ByteArray.ext
  simp [strL, ByteArray.extract, ByteArray.copySlice, List.drop_take]
theorem free_take {l : List UInt8} {f i : Nat} (h : ∀ k, f ≤ k → k < i → l[k]? ≠ some 47) : ∀ x ∈ (l.drop f).take (i - f), x ≠ 47 := by
  intro x hx e
  obtain ⟨k, hk⟩ := List.getElem?_of_mem hx
  rw [List.getElem?_take] at hk
  split at hk
  · rename_i hk2
    rw [List.getElem?_drop] at hk
    exact h (f + k) (by omega) (by omega) (by rw [hk, e])
  · cases hk
theorem split_last {l : List UInt8} {f : Nat} (h : ∀ k, f ≤ k → k < l.length → l[k]? ≠ some 47) : splitG (l.drop f) = [(l.drop f).take (l.length - f)] := by
  have h1 := free_take h
  rw [List.take_of_length_le (by rw [List.length_drop]; omega)] at h1 ⊢
  exact splitG_one h1
theorem split_next {l : List UInt8} {f i : Nat} (hf : f ≤ i) (h : ∀ k, f ≤ k → k < i → l[k]? ≠ some 47) (hi : l[i]? = some 47) : splitG (l.drop f) = (l.drop f).take (i - f) :: splitG (l.drop (i + 1)) := by
  have h1 := free_take h
  have h2 : l.drop f = (l.drop f).take (i - f) ++ 47 :: l.drop (i + 1) := by
    have := List.take_append_drop (i - f) (l.drop f)
    rw [List.drop_drop, show f + (i - f) = i by omega, drop_cons hi] at this
    exact this.symm
  rw [h2, splitG_at _ h1]
  congr 1
  rw [← h2]
theorem elemStr : ElemOf Tryd.prog 30 9 (.string .empty) 1 16 := ⟨Tryd.underlying30, by kernel_rfl, rfl, by decide⟩

set_option maxRecDepth 100000 in
set_option maxHeartbeats 4000000 in
theorem refSplit_any (l : List UInt8) (w : World) (hl : l.length ≤ 4294967280) : Calls Tryd.prog 27 #[.string (strL l)] w fun e w' =>
    (∃ A n c, e = .returned (.slice A n c) ∧ n = (namesG l).length ∧ SlOf strR w' no A ((namesG l).map strL) ∧ n ≤ c ∧ c ≤ maxLen) ∧ Below w.heap.size w w' := by
  by_cases h0 : l = []
  · have hq : (strL l).toList.isEmpty = true := by rw [h0, ByteArray.toList_eq]; rfl
    have HN := Lib.hid (show namesG l = [] by unfold namesG; rw [if_pos h0])
    clear h0
    go_enter Tryd.func27, Tryd.ntmps27
    go_wp2_with fail
    go_ret
    rw [HN.out]
    exact ⟨⟨none, 0, 0, rfl, rfl, SlOf.nil, Nat.le_refl _, Nat.zero_le _⟩, Below.refl _ _⟩
  · have hq : (strL l).toList.isEmpty = false := by
      rw [ByteArray.toList_eq]
      cases l with
      | nil => exact absurd rfl h0
      | cons a b => rfl
    have HN := Lib.hid (show namesG l = splitG l by unfold namesG; rw [if_neg h0])
    clear h0
    obtain ⟨M, hM⟩ : ∃ M, M = l.length := ⟨_, rfl⟩
    have HM := Lib.hid hM
    rw [← hM] at hl
    obtain ⟨q, hqe⟩ : ∃ q, q = strL l := ⟨_, rfl⟩
    rw [← hqe] at hq ⊢
    have hqM : q.size = M := by rw [hqe, strL_size, hM]
    have HQ := Lib.hid hqe
    clear hM hqe
    have HB1 := Lib.hid (show Below w.heap.size w (w.alloc (.cells #[] 9)) from (Below.refl _ _).alloc (Nat.le_refl _) _)
    have HR1 := Lib.hid (show RowR strR 9 (w.alloc (.cells #[] 9)) w.heap.size (some ⟨w.heap.size, 0, none⟩) 0 0 [] from ⟨⟨[], own_made w 9 1 (Nat.le_refl _), .nil⟩, rfl⟩)
    obtain ⟨B, hB⟩ : ∃ B, B = w.heap.size := ⟨_, rfl⟩
    have HB := Lib.hid hB
    rw [← hB] at HB1 HR1
    go_enter Tryd.func27, Tryd.ntmps27
    go_upto_region 4 with fail
    rw [← HB.out]
    clear hB
    generalize w.alloc (.cells #[] 9) = w1 at *
    go_wp2_with fail
    go_loopw [3, 4, 5] (fun s3 s4 s5 wr => ∃ (F I n : Nat) (A : Option Addr) (c : Nat) (d : List (List UInt8)), s3 = .slice A n c ∧ s4 = .int .i64 (F : Int) ∧ s5 = .int .i64 (I : Int) ∧ F ≤ I ∧ I ≤ M + 1 ∧ n ≤ I ∧ Hid (RowR strR 9 wr B A n c (d.map strL)) ∧ Hid (Below B w wr) ∧ Hid (∀ k, F ≤ k → k < I → l[k]? ≠ some 47) ∧ Hid (if I ≤ M then d ++ splitG (l.drop F) = splitG l else d = splitG l)) (fun s3 s4 s5 wr => M + 1 - (intOf s5).toNat)
    case atStart => exact ⟨0, 0, 0, _, 0, [], rfl, rfl, rfl, Nat.le_refl _, Nat.zero_le _, Nat.le_refl _, HR1, HB1, Lib.hid (fun k _ h => absurd h (by omega)), Lib.hid (by rw [if_pos (Nat.zero_le _)]; rfl)⟩
    case round =>
      obtain ⟨F, I, n, A, c, d, rfl, rfl, rfl, hFI, hI, hn, HR, HBR, HF, HS⟩ := hrel
      clear HR1 HB1
      by_cases hlt : I ≤ M
      · have hltI : (I : Int) ≤ (M : Int) := by omega
        have hFI2 : (F : Int) ≤ (I : Int) := by omega
        have hFI3 : F ≤ I := by omega
        obtain ⟨A', c', w4, run4, hrow4, hb4, _, _, hc4, hcm4⟩ := HR.out.push elemStr (by have := HBR.out.size; have := HB.out; omega) (av := fun _ => True) (cs := [.string (q.extract F I)]) (x := q.extract F I) rfl (fun _ _ _ => trivial) (by omega) (by simp only [maxLen]; omega) 30 1
        have hrow5 : RowR strR 9 w4 B A' (n + 1) c' ((d ++ [(l.drop F).take (I - F)]).map strL) := by
          rw [List.map_append, List.map_singleton, ← strL_cut, ← HQ.out]; exact hrow4
        have HR5 := Lib.hid hrow5
        have HB5 := Lib.hid (HBR.out.trans hb4)
        have HRUN := Lib.hid run4
        have HS1 := Lib.hid (show d ++ splitG (l.drop F) = splitG l by have := HS.out; rwa [if_pos hlt] at this)
        clear run4 hrow4 hrow5 hb4 HS
        by_cases hIM : I = M
        · have hIMI : ((I : Int) == (M : Int)) = true := by simp; omega
          have HS2 := Lib.hid (show d ++ [(l.drop F).take (I - F)] = splitG l by
            rw [← HS1.out, split_last (by rw [← HM.out, ← hIM]; exact HF.out), hIM, HM.out])
          have HIM := Lib.hid hIM
          clear hIM
          go_wp2_with (at_builtin; refine wpList_run_append HRUN.out ?_ ?_ ?_; exact rfl; exact rfl)
          go_roundw
          case rel => exact ⟨I + 1, I + 1, n + 1, A', c', d ++ [(l.drop F).take (I - F)], rfl, by go_num, by go_num, Nat.le_refl _, by omega, by omega, HR5, HB5, Lib.hid (fun k h1 h2 => absurd h1 (by omega)), Lib.hid (by rw [if_neg (by have := HIM.out; omega)]; exact HS2.out)⟩
          case measure => simp [intOf]; omega
        · have hIMI : ((I : Int) == (M : Int)) = false := by simp; omega
          obtain ⟨x, hx⟩ : ∃ x, l[I]? = some x := ⟨_, List.getElem?_eq_getElem (by have := HM.out; omega)⟩
          have hIq : I < q.size := by omega
          have hqx : q[I] = x := strL_at hx HQ.out hIq
          by_cases h47 : x = 47
          · have hx47 : ((x.toNat : Int) == 47) = true := by rw [h47]; rfl
            have HS2 := Lib.hid (show (d ++ [(l.drop F).take (I - F)]) ++ splitG (l.drop (I + 1)) = splitG l by
              rw [← HS1.out, split_next hFI HF.out (by rw [hx, h47]), List.append_assoc]; rfl)
            clear hx h47
            go_wp2_with (at_builtin; refine wpList_run_append HRUN.out ?_ ?_ ?_; exact rfl; exact rfl)
            go_roundw
            case rel => exact ⟨I + 1, I + 1, n + 1, A', c', d ++ [(l.drop F).take (I - F)], rfl, by go_num, by go_num, Nat.le_refl _, by omega, by omega, HR5, HB5, Lib.hid (fun k h1 h2 => absurd h1 (by omega)), Lib.hid (by rw [if_pos (by omega)]; exact HS2.out)⟩
            case measure => simp [intOf]; omega
          · have hx47 : ((x.toNat : Int) == 47) = false := u8_ne (y := 47) h47
            have HF2 := Lib.hid (show ∀ k, F ≤ k → k < I + 1 → l[k]? ≠ some 47 from fun k h1 h2 => by
              rcases Nat.lt_or_ge k I with h | h
              · exact HF.out k h1 h
              · obtain rfl : k = I := by omega
                rw [hx]; intro e; exact h47 (Option.some.inj e))
            clear hx h47
            go_wp2_with fail
            go_roundw
            case rel => exact ⟨F, I + 1, n, A, c, d, rfl, rfl, by go_num, by omega, by omega, by omega, HR, HBR, HF2, Lib.hid (by rw [if_pos (by omega)]; exact HS1.out)⟩
            case measure => simp [intOf]; omega
      · have hltI : ¬ (I : Int) ≤ (M : Int) := by omega
        have HS1 := Lib.hid (show d = splitG l by have := HS.out; rwa [if_neg hlt] at this)
        go_wp2_with fail
        go_ret
        rw [HN.out, ← HS1.out, ← HB.out]
        exact ⟨⟨A, n, c, rfl, by have := HR.out.len; rwa [List.length_map] at this, HR.out.sl, HR.out.cap.1, HR.out.cap.2⟩, HBR.out⟩
end Go.Proofs.YtlddnghfjdjglaaDoor
