/- The document's Split and IsText. -/
import Derived.Test.YtoeajlkmcokiiaaLinesSplit
import Derived.Lib.IndexBytes
set_option linter.unusedVariables false
namespace Go.Proofs.Ytoeajlkmcokiiaa
open Go.RowKit

theorem indexByte_at {l : List UInt8} {c : UInt8} : ∀ {j : Nat}, l[j]? = some c → (∀ k, k < j → l[k]? ≠ some c) → Lib.indexByte l c = (j : Int) := by
  induction l with
  | nil => intro j h; simp at h
  | cons x r ih =>
    intro j h hk
    cases j with
    | zero => simp at h; subst h; simp [Lib.indexByte]
    | succ j =>
      have hx : ¬ x = c := fun e => hk 0 (by omega) (by simp [e])
      have h1 := ih (j := j) (by simpa using h) (fun k hkj => by have := hk (k + 1) (by omega); simpa using this)
      have hx' : (x == c) = false := by simpa using hx
      simp only [Lib.indexByte, hx', h1]
      have : ¬ ((j : Int) == -1) = true := by simp
      simp only [Bool.false_eq_true, if_false, if_neg this]
      omega
theorem indexByte_no {l : List UInt8} {c : UInt8} (h : ∀ k : Nat, l[k]? ≠ some c) : Lib.indexByte l c = -1 := by
  induction l with
  | nil => rfl
  | cons x r ih =>
    have hx : (x == c) = false := by
      have := h 0
      simp at this
      simpa using this
    have h1 := ih (fun k => by have := h (k + 1); simpa using this)
    simp [Lib.indexByte, hx, h1]
theorem lineLen_at {l : List UInt8} {j : Nat} (h : l[j]? = some 10) (hk : ∀ k, k < j → l[k]? ≠ some 10) : lineLen l = j + 1 := by
  unfold lineLen
  rw [indexByte_at h hk, if_neg (by omega)]
  omega
theorem lineLen_last {l : List UInt8} {j : Nat} (hj : j + 1 = l.length) (hk : ∀ k, k < j → l[k]? ≠ some 10) : lineLen l = j + 1 := by
  by_cases h : l[j]? = some 10
  · exact lineLen_at h hk
  · unfold lineLen
    rw [indexByte_no (fun k => by
      rcases Nat.lt_or_ge k j with h1 | h1
      · exact hk k h1
      · rcases Nat.eq_or_lt_of_le h1 with h2 | h2
        · subst h2; exact h
        · rw [List.getElem?_eq_none (by omega)]; simp), if_pos rfl]
    exact hj.symm

theorem extract_mk (s : ByteArray) (f t : Nat) : s.extract f t = ⟨((s.data.toList.drop f).take (t - f)).toArray⟩ := by
  obtain ⟨⟨l⟩⟩ := s
  apply ByteArray.ext
  simp [ByteArray.extract, ByteArray.copySlice]

set_option maxHeartbeats 1000000 in
theorem refSplit_any (s : ByteArray) (w : World) (hs : s.size ≤ 1048576) : Calls Try.prog 21 #[.string s] w (StrsPost w (splitG s.data.toList)) := by
  have hlen : s.data.toList.length = s.size := Array.length_toList
  have HLEN := Lib.hid hlen
  clear hlen
  go_enter Try.func21, Try.ntmps21
  go_wp2_with fail
  go_loopw [3, 4, 5] (fun o f i wr => ∃ (F I : Nat) (d : List ByteArray) (Ao : Option Addr) (co : Nat), o = .slice Ao d.length co ∧ f = .int .i64 F ∧ i = .int .i64 I ∧ F ≤ I ∧ I ≤ s.size ∧ d.length ≤ F ∧ (I = s.size → F = s.size) ∧
      wr.ownsRow w.heap.size 9 1 (.slice Ao d.length co) d.length (strV d) ∧ Below w.heap.size w wr ∧ Hid (splitG s.data.toList = d ++ splitG (s.data.toList.drop F)) ∧ Hid (∀ k, k < I - F → (s.data.toList.drop F)[k]? ≠ some 10)) (fun _ _ i _ => s.size - (intOf i).toNat)
  case atStart => exact ⟨0, 0, [], none, 0, rfl, rfl, rfl, by omega, by omega, by simp, fun h => h, World.ownsRow_nil _ _ _ _, Below.refl _ _, Lib.hid rfl, Lib.hid (fun k hk => by omega)⟩
  case round =>
    obtain ⟨F, I, d, Ao, co, rfl, rfl, rfl, hFI, hI, hd, hFs, hown, hbr, H, HN⟩ := hrel
    by_cases hlt : I < s.size
    · have hx : s.data.toList[I]? = some s[I] := by
        rw [Array.getElem?_toList]
        exact Array.getElem?_eq_getElem hlt
      have hx' : (s.data.toList.drop F)[I - F]? = some s[I] := by rw [List.getElem?_drop, show F + (I - F) = I from by omega]; exact hx
      have hne : s.data.toList.drop F ≠ [] := by
        intro e
        have := congrArg List.length e
        rw [List.length_drop, HLEN.out] at this
        simp at this
        omega
      have HC := Lib.hid (splitG_cons hne)
      have hpush : ∀ wq : World, wq.ownsRow w.heap.size 9 1 (.slice Ao d.length co) d.length (strV d) → Below w.heap.size w wq → ∀ x : ByteArray,
          ∃ A' c' w3, (Builtin.append_ #[22, 22] 22 #[.slice Ao d.length co, .slice (some ⟨wq.heap.size, 0, none⟩) 1 1]).run Try.prog (wq.alloc (.cells #[.string x] 9)) = .ok (.slice A' (d.length + 1) c') w3 ∧
            w3.ownsRow w.heap.size 9 1 (.slice A' (d.length + 1) c') (d.length + 1) (strV d ++ [.string x]) ∧ Below w.heap.size w w3 := fun wq ho hb x => by
        obtain ⟨A', c', w3, hrun, hap, hc1, hc2⟩ := append_sl (P := Try.prog) elemStr (ho.alloc (.cells #[.string x] 9)) (Sl.one wq (.string x) 9) (by simp; rfl) (by omega) (by simp only [maxLen]; omega) (by have := hb.size; simp; omega) 22 1
        exact ⟨A', c', w3, hrun, hap.own, (hb.alloc hb.size _).trans hap.below⟩
      have HPU := Lib.hid hpush
      have HO := Lib.hid hown
      have HB := Lib.hid hbr
      have HX := Lib.hid hx'
      clear hpush hown hbr hx hne hx'
      by_cases hcut : s[I] = 10 ∨ I + 1 = s.size
      · have HLL : Hid (lineLen (s.data.toList.drop F) = I + 1 - F) := by
          refine Lib.hid ?_
          rcases hcut with h | h
          · rw [show I + 1 - F = (I - F) + 1 from by omega]; exact lineLen_at (by rw [HX.out, h]) HN.out
          · rw [show I + 1 - F = (I - F) + 1 from by omega]; exact lineLen_last (by rw [List.length_drop, HLEN.out]; omega) HN.out
        obtain ⟨A', c', w3, hrun, ho3, hb3⟩ := HPU.out wr HO.out HB.out (s.extract F (I + 1))
        have HO3 := Lib.hid ho3
        have HB3 := Lib.hid hb3
        have key : (((s[I]).toNat : Int) == 10) = true ∨ ((((s[I]).toNat : Int) == 10) = false ∧ ((I : Int) == (s.size : Int) - 1) = true) := by
          by_cases h : s[I] = 10
          · left; rw [h]; rfl
          · right
            refine ⟨?_, ?_⟩
            · rw [beq_eq_false_iff_ne]
              intro e
              apply h
              apply UInt8.toNat_inj.1
              have : ((10 : UInt8).toNat) = 10 := rfl
              omega
            · rw [beq_iff_eq]; rcases hcut with h1 | h1
              · exact absurd h1 h
              · omega
        have hFi : (F : Int) ≤ (I : Int) + 1 := by omega
        have hIs : (I : Int) + 1 ≤ (s.size : Int) := by omega
        have hIn : ((I : Int) + 1).toNat = I + 1 := by omega
        clear ho3 hb3 hcut HPU
        rcases key with k1 | ⟨k1, k2⟩
        all_goals
          go_wp2_with (at_builtin; refine wpList_run_append hrun ?_ ?_ ?_; exact rfl; exact rfl)
          go_roundw
          case rel =>
            refine ⟨I + 1, I + 1, d ++ [s.extract F (I + 1)], A', c', by rw [List.length_append]; rfl, by go_num, by go_num, by omega, by omega, by simp; omega, fun h => h, ?_, HB3.out, ?_, Lib.hid (fun k hk => by omega)⟩
            · rw [List.length_append]; simpa [strV] using HO3.out
            · refine Lib.hid ?_
              rw [H.out, HC.out, HLL.out, List.drop_drop, show F + (I + 1 - F) = I + 1 from by omega, extract_mk]
              simp
          case measure => simp [intOf]; omega
      · have k1 : (((s[I]).toNat : Int) == 10) = false := by
          rw [beq_eq_false_iff_ne]
          intro e
          apply hcut
          left
          apply UInt8.toNat_inj.1
          have : ((10 : UInt8).toNat) = 10 := rfl
          omega
        have k2 : ((I : Int) == (s.size : Int) - 1) = false := by
          rw [beq_eq_false_iff_ne]; intro e; apply hcut; right; omega
        have k3 : ¬ s[I] = 10 := fun e => hcut (.inl e)
        have k4 : ¬ I + 1 = s.size := fun e => hcut (.inr e)
        have K3 := Lib.hid k3
        have K4 := Lib.hid k4
        clear hcut k3 k4 HPU
        go_wp2_with fail
        go_roundw
        case rel =>
          refine ⟨F, I + 1, d, Ao, co, rfl, rfl, by go_num, by omega, by omega, by omega, fun h => absurd h K4.out, HO.out, HB.out, H, ?_⟩
          refine Lib.hid (fun k hk => ?_)
          by_cases e : k = I - F
          · subst e
            rw [HX.out]
            intro h
            injection h with h
            exact K3.out h
          · exact HN.out k (by omega)
        case measure => simp [intOf]; omega
    · obtain rfl : I = s.size := by omega
      have hF := hFs rfl
      have HE : Hid (splitG (s.data.toList.drop F) = []) := Lib.hid (by rw [List.drop_eq_nil_of_le (by rw [HLEN.out]; omega), splitG_nil])
      have HC := Lib.hid (own_cap hown)
      go_wp2_with fail
      go_ret
      have h1 := H.out
      rw [HE.out, List.append_nil] at h1
      rw [h1]
      exact ⟨Ao, co, rfl, hown, HC.out.1, HC.out.2, hbr⟩

set_option maxHeartbeats 1000000 in
theorem refIsText_any (s : ByteArray) (w : World) (hs : s.size ≤ 1048576) : Calls Try.prog 24 #[.string s] w fun e w' => e = .returned (.bool (decide (Lib.indexByte s.data.toList 0 < 0))) ∧ w = w' := by
  go_enter Try.func24, Try.ntmps24
  go_wp2_with fail
  go_loop [3] (fun i => ∃ I : Nat, i = .int .i64 I ∧ I ≤ s.size ∧ Hid (∀ k, k < I → s.data.toList[k]? ≠ some 0)) (fun i => s.size - (intOf i).toNat)
  case atStart => exact ⟨0, rfl, by omega, Lib.hid (fun k hk => by omega)⟩
  case round =>
    obtain ⟨I, rfl, hI, HN⟩ := hrel
    by_cases hlt : I < s.size
    · have hx : s.data.toList[I]? = some s[I] := by
        rw [Array.getElem?_toList]
        exact Array.getElem?_eq_getElem hlt
      by_cases h0 : s[I] = 0
      · have HR : Hid (decide (Lib.indexByte s.data.toList 0 < 0) = false) := Lib.hid (by
          rw [indexByte_at (by rw [hx, h0]) HN.out]; simp)
        have k1 : (((s[I]).toNat : Int) == 0) = true := by rw [h0]; rfl
        clear hx h0
        go_wp2_with fail
        go_ret
        exact ⟨by rw [HR.out]; rfl, rfl⟩
      · have k1 : (((s[I]).toNat : Int) == 0) = false := by
          rw [beq_eq_false_iff_ne]
          intro e
          apply h0
          apply UInt8.toNat_inj.1
          have : ((0 : UInt8).toNat) = 0 := rfl
          omega
        have k2 : ¬ ((s[I]).toNat : Int) = 0 := by simpa using k1
        have HX := Lib.hid hx
        have H0 := Lib.hid h0
        clear hx h0
        go_wp2_with fail
        go_round
        case rel =>
          refine ⟨I + 1, by go_num, by omega, Lib.hid (fun k hk => ?_)⟩
          by_cases e : k = I
          · subst e
            rw [HX.out]
            intro h
            injection h with h
            exact H0.out h
          · exact HN.out k (by omega)
        case measure => simp [intOf]; omega
    · obtain rfl : I = s.size := by omega
      have HR : Hid (decide (Lib.indexByte s.data.toList 0 < 0) = true) := Lib.hid (by
        rw [indexByte_no (fun k => by
          rcases Nat.lt_or_ge k s.size with h | h
          · exact HN.out k h
          · have hl : s.data.toList.length = s.size := Array.length_toList
            rw [List.getElem?_eq_none (by omega)]; simp)]
        simp)
      go_wp2_with fail
      go_ret
      exact ⟨by rw [HR.out]; rfl, rfl⟩
end Go.Proofs.Ytoeajlkmcokiiaa
