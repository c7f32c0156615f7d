/- path.Name: is it a name? (strings.IndexFunc with the program's own test) -/
import Derived.Test.YtlddnghfjdjglaaDoorNamePlain
import Derived.Test.YtlddnghfjdjglaaDoorBytesList
import Derived.Laws.RangeAny
set_option linter.unusedVariables false
set_option linter.unusedSimpArgs false
namespace Go.Proofs.YtlddnghfjdjglaaDoor
open Go.RowKit

/-- the bytes that one rune takes up are all high, where the first is -/
theorem decode_highs (s : ByteArray) (pos : Nat) (h : pos < s.size) (ha : 128 ≤ (s[pos]'h).toNat) : pos + (Utf8.decode s pos).2 ≤ s.size ∧ ∀ k, k < (Utf8.decode s pos).2 → 128 ≤ (s.get! (pos + k)).toNat := by
  have hn : ¬ (s[pos]'h).toNat < 128 := by omega
  have h0 : 128 ≤ (s.get! (pos + 0)).toNat := by rw [get_at s pos h]; exact ha
  have key : ∀ w : Nat, (∀ k, 0 < k → k < w → pos + k < s.size ∧ (s.get! (pos + k)).toNat / 64 = 2) → pos + w ≤ s.size ∧ ∀ k, k < w → 128 ≤ (s.get! (pos + k)).toNat := by
    intro w hw
    refine ⟨?_, fun k hk => ?_⟩
    · rcases Nat.lt_or_ge 1 w with h1 | h1
      · have := (hw (w - 1) (by omega) (by omega)).1; omega
      · omega
    · rcases Nat.eq_zero_or_pos k with rfl | hp
      · exact h0
      · have := (hw k hp hk).2; omega
  simp only [Utf8.decode, get_at s pos h, hn, if_false]
  split
  · rename_i hc
    simp at hc
    split
    · refine key 2 fun k h1 h2 => ?_
      obtain rfl : k = 1 := by omega
      exact ⟨by omega, by omega⟩
    · exact key 1 fun k h1 h2 => by omega
  split
  · rename_i hc
    simp at hc
    split
    · refine key 3 fun k h1 h2 => ?_
      rcases (by omega : k = 1 ∨ k = 2) with rfl | rfl <;> exact ⟨by omega, by omega⟩
    · exact key 1 fun k h1 h2 => by omega
  split
  · rename_i hc
    simp at hc
    split
    · refine key 4 fun k h1 h2 => ?_
      rcases (by omega : k = 1 ∨ k = 2 ∨ k = 3) with rfl | rfl | rfl <;> exact ⟨by omega, by omega⟩
    · exact key 1 fun k h1 h2 => by omega
  · exact key 1 fun k h1 h2 => by omega

theorem get_list (s : ByteArray) (k : Nat) (hk : k < s.size) : (sB s)[k]? = some (s.get! k) := by
  have h1 : s.get! k = s[k]'hk := get_at s k hk
  rw [h1]
  unfold sB
  rw [Array.getElem?_toList, Array.getElem?_eq_getElem (by simpa using hk)]
  rfl

/-- path.bad -/
theorem bad_any (r : Nat) (w : World) (hr : r ≤ 2147483647) : Calls Tryd.prog 36 #[.int .i32 (r : Int)] w fun e w' => e = .returned (.bool (decide (r < 32 ∨ r = 127 ∨ r = 47))) ∧ w' = w := by
  by_cases h1 : r < 32
  · have a1 : decide ((r : Int) < 32) = true := by simp; omega
    have hd := Lib.hid (show decide (r < 32 ∨ r = 127 ∨ r = 47) = true by simp [h1])
    clear h1
    go_enter Tryd.func36, Tryd.ntmps36
    go_wp2_with fail
    go_ret
    exact ⟨by rw [hd.out]; rfl, rfl⟩
  · have a1 : decide ((r : Int) < 32) = false := by simp; omega
    by_cases h2 : r = 127
    · have a2 : ((r : Int) == 127) = true := by simp; omega
      have hd := Lib.hid (show decide (r < 32 ∨ r = 127 ∨ r = 47) = true by simp [h2])
      clear h1 h2
      go_enter Tryd.func36, Tryd.ntmps36
      go_wp2_with fail
      go_ret
      exact ⟨by rw [hd.out]; rfl, rfl⟩
    · have a2 : ((r : Int) == 127) = false := by simp; omega
      by_cases h3 : r = 47
      · have a3 : ((r : Int) == 47) = true := by simp; omega
        have hd := Lib.hid (show decide (r < 32 ∨ r = 127 ∨ r = 47) = true by simp [h3])
        clear h1 h2 h3
        go_enter Tryd.func36, Tryd.ntmps36
        go_wp2_with fail
        go_ret
        exact ⟨by rw [hd.out]; rfl, rfl⟩
      · have a3 : ((r : Int) == 47) = false := by simp; omega
        have hd := Lib.hid (show decide (r < 32 ∨ r = 127 ∨ r = 47) = false by simp [h1, h2, h3])
        clear h1 h2 h3
        go_enter Tryd.func36, Tryd.ntmps36
        go_wp2_with fail
        go_ret
        exact ⟨by rw [hd.out]; rfl, rfl⟩

theorem badB_high {x : UInt8} (h : 128 ≤ x.toNat) : badB x = false := by
  have h1 : ¬ x < 32 := by intro h2; have := UInt8.lt_iff_toNat_lt.1 h2; simp at this; omega
  have h2 : ¬ x = 127 := by rintro rfl; simp at h
  have h3 : ¬ x = 47 := by rintro rfl; simp at h
  simp [badB, h1, h2, h3]
/-- what one rune says of the bytes that it takes up -/
theorem rune_bad (s : ByteArray) (p : Nat) (h : p < s.size) : ∃ c d, Utf8.decode s p = (c, d) ∧ c ≤ 2147483647 ∧ 1 ≤ d ∧ p + d ≤ s.size ∧ decide (c < 32 ∨ c = 127 ∨ c = 47) = badB (s.get! p) ∧ (badB (s.get! p) = false → ∀ k, p ≤ k → k < p + d → badB (s.get! k) = false) := by
  have hg : s.get! p = s[p]'h := get_at s p h
  have hle := decode_le s p
  by_cases ha : (s[p]'h).toNat < 128
  · refine ⟨(s[p]'h).toNat, 1, decode_ascii s p h ha, by omega, Nat.le_refl _, by omega, ?_, fun hb k h1 h2 => ?_⟩
    · rw [hg]
      obtain ⟨x, hx⟩ : ∃ x, x = s[p]'h := ⟨_, rfl⟩
      rw [← hx]
      have e1 : (x < 32) = (x.toNat < 32) := by rw [UInt8.lt_iff_toNat_lt]; rfl
      have e2 : (x = 127) = (x.toNat = 127) := by rw [← UInt8.toNat_inj]; rfl
      have e3 : (x = 47) = (x.toNat = 47) := by rw [← UInt8.toNat_inj]; rfl
      rw [Bool.eq_iff_iff]
      simp [badB, e1, e2, e3, or_assoc]
    · obtain rfl : k = p := by omega
      exact hb
  · obtain ⟨h1, h2⟩ := decode_high s p h (by omega)
    obtain ⟨h3, h4⟩ := decode_highs s p h (by omega)
    have hb : badB (s.get! p) = false := badB_high (by rw [hg]; omega)
    rcases hq : Utf8.decode s p with ⟨c, d⟩
    rw [hq] at h1 h2 h3 h4 hle
    refine ⟨c, d, rfl, hle, h2, h3, ?_, fun _ k k1 k2 => ?_⟩
    · rw [hb]; simp only [] at h1; simp; omega
    · have := h4 (k - p) (by simp only []; omega)
      rw [show p + (k - p) = k from by omega] at this
      exact badB_high this
theorem all_get (s : ByteArray) : ((sB s).all (fun x => !badB x) = true) ↔ ∀ k, k < s.size → badB (s.get! k) = false := by
  rw [List.all_eq_true]
  constructor
  · intro h k hk
    have := h _ (List.mem_of_getElem? (get_list s k hk))
    simpa using this
  · intro h x hx
    obtain ⟨k, hk⟩ := List.mem_iff_getElem?.1 hx
    have hl := (List.getElem?_eq_some_iff.1 hk).1
    have hk2 : k < s.size := by simpa [sB] using hl
    rw [get_list s k hk2] at hk
    injection hk with hk
    rw [← hk, h k hk2]; rfl

theorem iter_below (w : World) (s : ByteArray) (p : Nat) : Below w.heap.size w (w.iter s p) := (Below.refl _ _).alloc (Nat.le_refl _) _

set_option maxRecDepth 100000 in
set_option maxHeartbeats 1000000 in
theorem indexFunc0_any (s : ByteArray) (w : World) (hs : s.size ≤ 1000000000) : Calls Tryd.prog 48 #[.string s, .func (.func 36) #[] #[], .bool true] w fun e w' =>
    ∃ k : Int, e = .returned (.int .i64 k) ∧ decide (k < 0) = (sB s).all (fun x => !badB x) ∧ Below w.heap.size w w' := by
  go_enter Tryd.func48, Tryd.ntmps48
  go_wp2_with fail
  go_loopw [7] (fun s7 wr => ∃ p, p ≤ s.size ∧ wr = w.iter s p ∧ Hid (∀ k, k < p → badB (s.get! k) = false)) (fun _ wr => s.size - wr.iterPos w.heap.size)
  case atStart => exact ⟨0, by omega, rfl, Lib.hid (fun k h => by omega)⟩
  case round =>
    obtain ⟨p, hp, rfl, HP⟩ := hrel
    by_cases hlt : p < s.size
    · obtain ⟨c, d, hcd, hc, hd, hpd, hbad, hnext⟩ := rune_bad s p hlt
      have hnx : ∀ ty, (Instr.next (.pointer (some ⟨w.heap.size, 0, none⟩)) true ty).run Tryd.prog (w.iter s p) = .ok (.tuple #[.bool true, .int .i64 p, .int .i32 c]) (w.iter s (p + d)) := fun ty => by
        have := run_next_any (P := Tryd.prog) w s p ty hlt
        rwa [hcd] at this
      have HNX := Lib.hid hnext
      have HBA := Lib.hid hbad
      clear hcd hnext hbad
      go_wp2_with fail
      refine (bad_any c _ hc).mono ?_
      rintro e w2 ⟨rfl, rfl⟩
      rw [HBA.out]
      by_cases hb : badB (s.get! p) = true
      · rw [hb]
        have hall : (sB s).all (fun x => !badB x) = false := by
          rw [← Bool.not_eq_true, all_get]
          intro h
          have := h p hlt
          rw [hb] at this
          cases this
        have HA := Lib.hid hall
        clear hnx hall hb
        go_wp2_with fail
        go_ret
        exact ⟨(p : Int), rfl, by rw [HA.out]; simp, iter_below _ _ _⟩
      · have hb' : badB (s.get! p) = false := by simpa using hb
        rw [hb']
        have HN2 := Lib.hid (HNX.out hb')
        clear hnx hb hb'
        go_wp2_with fail
        go_roundw
        case rel =>
          refine ⟨p + d, hpd, rfl, Lib.hid fun k hk => ?_⟩
          rcases Nat.lt_or_ge k p with h1 | h1
          · exact HP.out k h1
          · exact HN2.out k h1 hk
        case measure => simp; omega
    · have hnx : ∀ ty, (Instr.next (.pointer (some ⟨w.heap.size, 0, none⟩)) true ty).run Tryd.prog (w.iter s p) = .ok (.tuple #[.bool false]) (w.iter s p) := fun ty => run_next_end (P := Tryd.prog) w s p ty hlt
      have HA := Lib.hid ((all_get s).2 (fun k hk => HP.out k (by omega)))
      go_wp2_with fail
      go_ret
      exact ⟨-1, rfl, by rw [HA.out]; rfl, iter_below _ _ _⟩

theorem indexFunc_any (s : ByteArray) (w : World) (hs : s.size ≤ 1000000000) : Calls Tryd.prog 35 #[.string s, .func (.func 36) #[] #[]] w fun e w' =>
    ∃ k : Int, e = .returned (.int .i64 k) ∧ decide (k < 0) = (sB s).all (fun x => !badB x) ∧ Below w.heap.size w w' := by
  go_enter Tryd.func35, Tryd.ntmps35
  go_wp2_with fail
  refine (indexFunc0_any s w hs).mono ?_
  rintro e w2 ⟨k, rfl, hk, hb⟩
  have HK := Lib.hid hk
  clear hk
  go_wp2_with fail
  go_ret
  exact ⟨k, rfl, HK.out, hb⟩

/-- the tests on a name's text, as the walk has them -/
theorem name_tests (s : ByteArray) : s.toList.isEmpty = (sB s == []) ∧ (s.toList == [46]) = (sB s == [46]) ∧ (s.toList == [46, 46]) = (sB s == [46, 46]) ∧ (sB s).length = s.size := by
  unfold sB
  rw [ByteArray.toList_eq]
  refine ⟨?_, rfl, rfl, by simp⟩
  cases s.data.toList <;> rfl

set_option maxRecDepth 100000 in
set_option maxHeartbeats 2000000 in
theorem name_any (s : ByteArray) (w : World) (hs : s.size ≤ 1000000000) : Calls Tryd.prog 18 #[.string s] w fun e w' => e = .returned (.bool (nameG (sB s))) ∧ Below w.heap.size w w' := by
  obtain ⟨t0, t1, t2, t3⟩ := name_tests s
  have k1 : ({ data := #[46] } : ByteArray).toList = [46] := ByteArray.toList_mk [46]
  have k2 : ({ data := #[46, 46] } : ByteArray).toList = [46, 46] := ByteArray.toList_mk [46, 46]
  have HIF := Lib.hid (fun w => indexFunc_any s w hs)
  obtain ⟨G, hG⟩ : ∃ G, G = nameG (sB s) := ⟨_, rfl⟩
  have HG := Lib.hid hG
  rw [← hG]
  by_cases h0 : (sB s == []) = true
  · have hg := Lib.hid (show G = false by rw [hG]; simp [nameG] at h0 ⊢; simp [h0])
    rw [h0] at t0
    clear hG h0 t1 t2 t3
    go_enter Tryd.func18, Tryd.ntmps18
    go_wp2_with fail
    go_ret
    exact ⟨by rw [hg.out]; rfl, Below.refl _ _⟩
  have h0' : (sB s == []) = false := by simpa using h0
  rw [h0'] at t0
  by_cases h1 : (sB s == [46]) = true
  · have hg := Lib.hid (show G = false by rw [hG]; simp at h1; simp [nameG, h1])
    rw [h1] at t1
    clear hG h0 h1 t2 t3
    go_enter Tryd.func18, Tryd.ntmps18
    go_wp2_with fail
    go_ret
    exact ⟨by rw [hg.out]; rfl, Below.refl _ _⟩
  have h1' : (sB s == [46]) = false := by simpa using h1
  rw [h1'] at t1
  by_cases h2 : (sB s == [46, 46]) = true
  · have hg := Lib.hid (show G = false by rw [hG]; simp at h2; simp [nameG, h2])
    rw [h2] at t2
    clear hG h0 h1 h2 t3
    go_enter Tryd.func18, Tryd.ntmps18
    go_wp2_with fail
    go_ret
    exact ⟨by rw [hg.out]; rfl, Below.refl _ _⟩
  have h2' : (sB s == [46, 46]) = false := by simpa using h2
  rw [h2'] at t2
  by_cases h3 : s.size ≤ 64
  · have h3I : (s.size : Int) ≤ 64 := by omega
    have hg := Lib.hid (show G = (sB s).all (fun x => !badB x) by
      rw [hG]; unfold nameG
      rw [show (sB s != []) = true by simp [bne, h0'], show (sB s != [46]) = true by simp [bne, h1'], show (sB s != [46, 46]) = true by simp [bne, h2'], t3]
      simp [h3])
    clear hG h0 h1 h2 h0' h1' h2' t3
    go_enter Tryd.func18, Tryd.ntmps18
    go_wp2_with fail
    refine (HIF.out w).mono ?_
    rintro e w2 ⟨k, rfl, hk, hb⟩
    rw [← hg.out] at hk
    have HK := Lib.hid hk
    obtain ⟨D, hD⟩ : ∃ D, D = decide (k < 0) := ⟨_, rfl⟩
    have HD := Lib.hid hD
    have hD' := hD.symm
    clear hk hD
    go_wp2_with fail
    go_ret
    exact ⟨by rw [← HK.out, ← HD.out]; rfl, hb⟩
  · have h3I : ¬ (s.size : Int) ≤ 64 := by omega
    have hg := Lib.hid (show G = false by rw [hG]; unfold nameG; rw [t3]; simp [h3])
    clear hG h0 h1 h2 h0' h1' h2' t3
    go_enter Tryd.func18, Tryd.ntmps18
    go_wp2_with fail
    go_ret
    exact ⟨by rw [hg.out]; rfl, Below.refl _ _⟩

end Go.Proofs.YtlddnghfjdjglaaDoor
