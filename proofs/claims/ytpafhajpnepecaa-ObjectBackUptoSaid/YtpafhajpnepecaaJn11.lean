/- Contracts and laws for what the statement reaches, joined: ObjName, ObjName2, ObjEnt. -/
import Derived.Test.YtpafhajpnepecaaJn10
import Derived.Test.YtpafhajpnepecaaJn2
import Derived.Laws.RangeAny
/- path.Name: is it a name? (strings.IndexFunc with the program's own test) -/
set_option linter.unusedVariables false
set_option linter.unusedSimpArgs false
namespace Go.Proofs.Ytpafhajpnepecaa
open Go.RowKit

/-- the bytes that one rune takes up are all high, where the first is -/
theorem decode_highs (s : ByteArray) (pos : Nat) (h : pos < s.size) (ha : 128 ≤ (s[pos]'h).toNat) : pos + (Utf8.decode s pos).2 ≤ s.size ∧ ∀ k, k < (Utf8.decode s pos).2 → 128 ≤ (s.get! (pos + k)).toNat := by
  have hn : ¬ (s[pos]'h).toNat < 128 := by omega
  have h0 : 128 ≤ (s.get! (pos + 0)).toNat := by rw [get_at s pos h]; exact ha
  have key : ∀ w : Nat, (∀ k, 0 < k → k < w → pos + k < s.size ∧ (s.get! (pos + k)).toNat / 64 = 2) → pos + w ≤ s.size ∧ ∀ k, k < w → 128 ≤ (s.get! (pos + k)).toNat := by
    intro w hw
    refine ⟨?_, fun k hk => ?_⟩
    · rcases Nat.lt_or_ge 1 w with h1 | h1
      · have := (hw (w - 1) (by omega) (by omega)).1; omega
      · omega
    · rcases Nat.eq_zero_or_pos k with rfl | hp
      · exact h0
      · have := (hw k hp hk).2; omega
  simp only [Utf8.decode, get_at s pos h, hn, if_false]
  split
  · rename_i hc
    simp at hc
    split
    · refine key 2 fun k h1 h2 => ?_
      obtain rfl : k = 1 := by omega
      exact ⟨by omega, by omega⟩
    · exact key 1 fun k h1 h2 => by omega
  split
  · rename_i hc
    simp at hc
    split
    · refine key 3 fun k h1 h2 => ?_
      rcases (by omega : k = 1 ∨ k = 2) with rfl | rfl <;> exact ⟨by omega, by omega⟩
    · exact key 1 fun k h1 h2 => by omega
  split
  · rename_i hc
    simp at hc
    split
    · refine key 4 fun k h1 h2 => ?_
      rcases (by omega : k = 1 ∨ k = 2 ∨ k = 3) with rfl | rfl | rfl <;> exact ⟨by omega, by omega⟩
    · exact key 1 fun k h1 h2 => by omega
  · exact key 1 fun k h1 h2 => by omega

theorem get_list (s : ByteArray) (k : Nat) (hk : k < s.size) : (sB s)[k]? = some (s.get! k) := by
  have h1 : s.get! k = s[k]'hk := get_at s k hk
  rw [h1]
  unfold sB
  rw [Array.getElem?_toList, Array.getElem?_eq_getElem (by simpa using hk)]
  rfl

/-- path.bad -/
theorem bad_any (r : Nat) (w : World) (hr : r ≤ 2147483647) : Calls Try.prog 91 #[.int .i32 (r : Int)] w fun e w' => e = .returned (.bool (decide (r < 32 ∨ r = 127 ∨ r = 47))) ∧ w' = w := by
  by_cases h1 : r < 32
  · have a1 : decide ((r : Int) < 32) = true := by simp; omega
    have hd := Lib.hid (show decide (r < 32 ∨ r = 127 ∨ r = 47) = true by simp [h1])
    clear h1
    go_enter Try.func91, Try.ntmps91
    go_wp2_with fail
    go_ret
    exact ⟨by rw [hd.out]; rfl, rfl⟩
  · have a1 : decide ((r : Int) < 32) = false := by simp; omega
    by_cases h2 : r = 127
    · have a2 : ((r : Int) == 127) = true := by simp; omega
      have hd := Lib.hid (show decide (r < 32 ∨ r = 127 ∨ r = 47) = true by simp [h2])
      clear h1 h2
      go_enter Try.func91, Try.ntmps91
      go_wp2_with fail
      go_ret
      exact ⟨by rw [hd.out]; rfl, rfl⟩
    · have a2 : ((r : Int) == 127) = false := by simp; omega
      by_cases h3 : r = 47
      · have a3 : ((r : Int) == 47) = true := by simp; omega
        have hd := Lib.hid (show decide (r < 32 ∨ r = 127 ∨ r = 47) = true by simp [h3])
        clear h1 h2 h3
        go_enter Try.func91, Try.ntmps91
        go_wp2_with fail
        go_ret
        exact ⟨by rw [hd.out]; rfl, rfl⟩
      · have a3 : ((r : Int) == 47) = false := by simp; omega
        have hd := Lib.hid (show decide (r < 32 ∨ r = 127 ∨ r = 47) = false by simp [h1, h2, h3])
        clear h1 h2 h3
        go_enter Try.func91, Try.ntmps91
        go_wp2_with fail
        go_ret
        exact ⟨by rw [hd.out]; rfl, rfl⟩

theorem badB_high {x : UInt8} (h : 128 ≤ x.toNat) : badB x = false := by
  have h1 : ¬ x < 32 := by intro h2; have := UInt8.lt_iff_toNat_lt.1 h2; simp at this; omega
  have h2 : ¬ x = 127 := by rintro rfl; simp at h
  have h3 : ¬ x = 47 := by rintro rfl; simp at h
  simp [badB, h1, h2, h3]
/-- what one rune says of the bytes that it takes up -/
theorem rune_bad (s : ByteArray) (p : Nat) (h : p < s.size) : ∃ c d, Utf8.decode s p = (c, d) ∧ c ≤ 2147483647 ∧ 1 ≤ d ∧ p + d ≤ s.size ∧ decide (c < 32 ∨ c = 127 ∨ c = 47) = badB (s.get! p) ∧ (badB (s.get! p) = false → ∀ k, p ≤ k → k < p + d → badB (s.get! k) = false) := by
  have hg : s.get! p = s[p]'h := get_at s p h
  have hle := decode_le s p
  by_cases ha : (s[p]'h).toNat < 128
  · refine ⟨(s[p]'h).toNat, 1, decode_ascii s p h ha, by omega, Nat.le_refl _, by omega, ?_, fun hb k h1 h2 => ?_⟩
    · rw [hg]
      obtain ⟨x, hx⟩ : ∃ x, x = s[p]'h := ⟨_, rfl⟩
      rw [← hx]
      have e1 : (x < 32) = (x.toNat < 32) := by rw [UInt8.lt_iff_toNat_lt]; rfl
      have e2 : (x = 127) = (x.toNat = 127) := by rw [← UInt8.toNat_inj]; rfl
      have e3 : (x = 47) = (x.toNat = 47) := by rw [← UInt8.toNat_inj]; rfl
      rw [Bool.eq_iff_iff]
      simp [badB, e1, e2, e3, or_assoc]
    · obtain rfl : k = p := by omega
      exact hb
  · obtain ⟨h1, h2⟩ := decode_high s p h (by omega)
    obtain ⟨h3, h4⟩ := decode_highs s p h (by omega)
    have hb : badB (s.get! p) = false := badB_high (by rw [hg]; omega)
    rcases hq : Utf8.decode s p with ⟨c, d⟩
    rw [hq] at h1 h2 h3 h4 hle
    refine ⟨c, d, rfl, hle, h2, h3, ?_, fun _ k k1 k2 => ?_⟩
    · rw [hb]; simp only [] at h1; simp; omega
    · have := h4 (k - p) (by simp only []; omega)
      rw [show p + (k - p) = k from by omega] at this
      exact badB_high this
theorem all_get (s : ByteArray) : ((sB s).all (fun x => !badB x) = true) ↔ ∀ k, k < s.size → badB (s.get! k) = false := by
  rw [List.all_eq_true]
  constructor
  · intro h k hk
    have := h _ (List.mem_of_getElem? (get_list s k hk))
    simpa using this
  · intro h x hx
    obtain ⟨k, hk⟩ := List.mem_iff_getElem?.1 hx
    have hl := (List.getElem?_eq_some_iff.1 hk).1
    have hk2 : k < s.size := by simpa [sB] using hl
    rw [get_list s k hk2] at hk
    injection hk with hk
    rw [← hk, h k hk2]; rfl

theorem iter_below (w : World) (s : ByteArray) (p : Nat) : Below w.heap.size w (w.iter s p) := (Below.refl _ _).alloc (Nat.le_refl _) _

set_option maxRecDepth 100000 in
set_option maxHeartbeats 1000000 in
theorem indexFunc0_any (s : ByteArray) (w : World) (hs : s.size ≤ 1000000000) : Calls Try.prog 101 #[.string s, .func (.func 91) #[] #[], .bool true] w fun e w' =>
    ∃ k : Int, e = .returned (.int .i64 k) ∧ decide (k < 0) = (sB s).all (fun x => !badB x) ∧ Below w.heap.size w w' := by
  go_enter Try.func101, Try.ntmps101
  go_wp2_with fail
  go_loopw [7] (fun s7 wr => ∃ p, p ≤ s.size ∧ wr = w.iter s p ∧ Hid (∀ k, k < p → badB (s.get! k) = false)) (fun _ wr => s.size - wr.iterPos w.heap.size)
  case atStart => exact ⟨0, by omega, rfl, Lib.hid (fun k h => by omega)⟩
  case round =>
    obtain ⟨p, hp, rfl, HP⟩ := hrel
    by_cases hlt : p < s.size
    · obtain ⟨c, d, hcd, hc, hd, hpd, hbad, hnext⟩ := rune_bad s p hlt
      have hnx : ∀ ty, (Instr.next (.pointer (some ⟨w.heap.size, 0, none⟩)) true ty).run Try.prog (w.iter s p) = .ok (.tuple #[.bool true, .int .i64 p, .int .i32 c]) (w.iter s (p + d)) := fun ty => by
        have := run_next_any (P := Try.prog) w s p ty hlt
        rwa [hcd] at this
      have HNX := Lib.hid hnext
      have HBA := Lib.hid hbad
      clear hcd hnext hbad
      go_wp2_with fail
      refine (bad_any c _ hc).mono ?_
      rintro e w2 ⟨rfl, rfl⟩
      rw [HBA.out]
      by_cases hb : badB (s.get! p) = true
      · rw [hb]
        have hall : (sB s).all (fun x => !badB x) = false := by
          rw [← Bool.not_eq_true, all_get]
          intro h
          have := h p hlt
          rw [hb] at this
          cases this
        have HA := Lib.hid hall
        clear hnx hall hb
        go_wp2_with fail
        go_ret
        exact ⟨(p : Int), rfl, by rw [HA.out]; simp, iter_below _ _ _⟩
      · have hb' : badB (s.get! p) = false := by simpa using hb
        rw [hb']
        have HN2 := Lib.hid (HNX.out hb')
        clear hnx hb hb'
        go_wp2_with fail
        go_roundw
        case rel =>
          refine ⟨p + d, hpd, rfl, Lib.hid fun k hk => ?_⟩
          rcases Nat.lt_or_ge k p with h1 | h1
          · exact HP.out k h1
          · exact HN2.out k h1 hk
        case measure => simp; omega
    · have hnx : ∀ ty, (Instr.next (.pointer (some ⟨w.heap.size, 0, none⟩)) true ty).run Try.prog (w.iter s p) = .ok (.tuple #[.bool false]) (w.iter s p) := fun ty => run_next_end (P := Try.prog) w s p ty hlt
      have HA := Lib.hid ((all_get s).2 (fun k hk => HP.out k (by omega)))
      go_wp2_with fail
      go_ret
      exact ⟨-1, rfl, by rw [HA.out]; rfl, iter_below _ _ _⟩

theorem indexFunc_any (s : ByteArray) (w : World) (hs : s.size ≤ 1000000000) : Calls Try.prog 90 #[.string s, .func (.func 91) #[] #[]] w fun e w' =>
    ∃ k : Int, e = .returned (.int .i64 k) ∧ decide (k < 0) = (sB s).all (fun x => !badB x) ∧ Below w.heap.size w w' := by
  go_enter Try.func90, Try.ntmps90
  go_wp2_with fail
  refine (indexFunc0_any s w hs).mono ?_
  rintro e w2 ⟨k, rfl, hk, hb⟩
  have HK := Lib.hid hk
  clear hk
  go_wp2_with fail
  go_ret
  exact ⟨k, rfl, HK.out, hb⟩
end Go.Proofs.Ytpafhajpnepecaa

/- path.Name and the document's Name. -/
set_option linter.unusedVariables false
set_option linter.unusedSimpArgs false
namespace Go.Proofs.Ytpafhajpnepecaa
open Go.RowKit

/-- the tests on a name's text, as the walk has them -/
theorem name_tests (s : ByteArray) : s.toList.isEmpty = (sB s == []) ∧ (s.toList == [46]) = (sB s == [46]) ∧ (s.toList == [46, 46]) = (sB s == [46, 46]) ∧ (sB s).length = s.size := by
  unfold sB
  rw [ByteArray.toList_eq]
  refine ⟨?_, rfl, rfl, by simp⟩
  cases s.data.toList <;> rfl

set_option maxRecDepth 100000 in
set_option maxHeartbeats 2000000 in
theorem name_any (s : ByteArray) (w : World) (hs : s.size ≤ 1000000000) : Calls Try.prog 78 #[.string s] w fun e w' => e = .returned (.bool (nameG (sB s))) ∧ Below w.heap.size w w' := by
  obtain ⟨t0, t1, t2, t3⟩ := name_tests s
  have k1 : ({ data := #[46] } : ByteArray).toList = [46] := ByteArray.toList_mk [46]
  have k2 : ({ data := #[46, 46] } : ByteArray).toList = [46, 46] := ByteArray.toList_mk [46, 46]
  have HIF := Lib.hid (fun w => indexFunc_any s w hs)
  obtain ⟨G, hG⟩ : ∃ G, G = nameG (sB s) := ⟨_, rfl⟩
  have HG := Lib.hid hG
  rw [← hG]
  by_cases h0 : (sB s == []) = true
  · have hg := Lib.hid (show G = false by rw [hG]; simp [nameG] at h0 ⊢; simp [h0])
    rw [h0] at t0
    clear hG h0 t1 t2 t3
    go_enter Try.func78, Try.ntmps78
    go_wp2_with fail
    go_ret
    exact ⟨by rw [hg.out]; rfl, Below.refl _ _⟩
  have h0' : (sB s == []) = false := by simpa using h0
  rw [h0'] at t0
  by_cases h1 : (sB s == [46]) = true
  · have hg := Lib.hid (show G = false by rw [hG]; simp at h1; simp [nameG, h1])
    rw [h1] at t1
    clear hG h0 h1 t2 t3
    go_enter Try.func78, Try.ntmps78
    go_wp2_with fail
    go_ret
    exact ⟨by rw [hg.out]; rfl, Below.refl _ _⟩
  have h1' : (sB s == [46]) = false := by simpa using h1
  rw [h1'] at t1
  by_cases h2 : (sB s == [46, 46]) = true
  · have hg := Lib.hid (show G = false by rw [hG]; simp at h2; simp [nameG, h2])
    rw [h2] at t2
    clear hG h0 h1 h2 t3
    go_enter Try.func78, Try.ntmps78
    go_wp2_with fail
    go_ret
    exact ⟨by rw [hg.out]; rfl, Below.refl _ _⟩
  have h2' : (sB s == [46, 46]) = false := by simpa using h2
  rw [h2'] at t2
  by_cases h3 : s.size ≤ 64
  · have h3I : (s.size : Int) ≤ 64 := by omega
    have hg := Lib.hid (show G = (sB s).all (fun x => !badB x) by
      rw [hG]; unfold nameG
      rw [show (sB s != []) = true by simp [bne, h0'], show (sB s != [46]) = true by simp [bne, h1'], show (sB s != [46, 46]) = true by simp [bne, h2'], t3]
      simp [h3])
    clear hG h0 h1 h2 h0' h1' h2' t3
    go_enter Try.func78, Try.ntmps78
    go_wp2_with fail
    refine (HIF.out w).mono ?_
    rintro e w2 ⟨k, rfl, hk, hb⟩
    rw [← hg.out] at hk
    have HK := Lib.hid hk
    obtain ⟨D, hD⟩ : ∃ D, D = decide (k < 0) := ⟨_, rfl⟩
    have HD := Lib.hid hD
    have hD' := hD.symm
    clear hk hD
    go_wp2_with fail
    go_ret
    exact ⟨by rw [← HK.out, ← HD.out]; rfl, hb⟩
  · have h3I : ¬ (s.size : Int) ≤ 64 := by omega
    have hg := Lib.hid (show G = false by rw [hG]; unfold nameG; rw [t3]; simp [h3])
    clear hG h0 h1 h2 h0' h1' h2' t3
    go_enter Try.func78, Try.ntmps78
    go_wp2_with fail
    go_ret
    exact ⟨by rw [hg.out]; rfl, Below.refl _ _⟩

set_option maxRecDepth 100000 in
set_option maxHeartbeats 2000000 in
theorem refName_any (s : ByteArray) (w : World) (hs : s.size ≤ 1000000000) : Calls Try.prog 79 #[.string s] w fun e w' => e = .returned (.bool (nameG (sB s))) ∧ w' = w := by
  obtain ⟨t0, t1, t2, t3⟩ := name_tests s
  have k1 : ({ data := #[46] } : ByteArray).toList = [46] := ByteArray.toList_mk [46]
  have k2 : ({ data := #[46, 46] } : ByteArray).toList = [46, 46] := ByteArray.toList_mk [46, 46]
  obtain ⟨G, hG⟩ : ∃ G, G = nameG (sB s) := ⟨_, rfl⟩
  have HG := Lib.hid hG
  rw [← hG]
  by_cases h0 : (sB s == []) = true
  · have hg := Lib.hid (show G = false by rw [hG]; simp [nameG] at h0 ⊢; simp [h0])
    rw [h0] at t0
    clear hG h0 t1 t2 t3
    go_enter Try.func79, Try.ntmps79
    go_wp2_with fail
    go_ret
    exact ⟨by rw [hg.out]; rfl, rfl⟩
  have h0' : (sB s == []) = false := by simpa using h0
  rw [h0'] at t0
  by_cases h1 : (sB s == [46]) = true
  · have hg := Lib.hid (show G = false by rw [hG]; simp at h1; simp [nameG, h1])
    rw [h1] at t1
    clear hG h0 h1 t2 t3
    go_enter Try.func79, Try.ntmps79
    go_wp2_with fail
    go_ret
    exact ⟨by rw [hg.out]; rfl, rfl⟩
  have h1' : (sB s == [46]) = false := by simpa using h1
  rw [h1'] at t1
  by_cases h2 : (sB s == [46, 46]) = true
  · have hg := Lib.hid (show G = false by rw [hG]; simp at h2; simp [nameG, h2])
    rw [h2] at t2
    clear hG h0 h1 h2 t3
    go_enter Try.func79, Try.ntmps79
    go_wp2_with fail
    go_ret
    exact ⟨by rw [hg.out]; rfl, rfl⟩
  have h2' : (sB s == [46, 46]) = false := by simpa using h2
  rw [h2'] at t2
  by_cases h3 : s.size ≤ 64
  · have h3I : ¬ (64 : Int) < (s.size : Int) := by omega
    have hg := Lib.hid (show G = (sB s).all (fun x => !badB x) by
      rw [hG]; unfold nameG
      rw [show (sB s != []) = true by simp [bne, h0'], show (sB s != [46]) = true by simp [bne, h1'], show (sB s != [46, 46]) = true by simp [bne, h2'], t3]
      simp [h3])
    clear hG h0 h1 h2 h0' h1' h2' t3
    go_enter Try.func79, Try.ntmps79
    go_wp2_with fail
    go_loopw [3] (fun s3 wr => ∃ p : Nat, p ≤ s.size ∧ s3 = .int .i64 (p : Int) ∧ wr = w ∧ Hid (∀ k, k < p → badB (s.get! k) = false)) (fun s3 wr => s.size - (intOf s3).toNat)
    case atStart => exact ⟨0, by omega, rfl, rfl, Lib.hid (fun k h => by omega)⟩
    case round =>
      obtain ⟨p, hp, rfl, rfl, HP⟩ := hrel
      by_cases hlt : p < s.size
      · have hI : (p : Int) < (s.size : Int) := by omega
        have hgx : s.get! p = s[p]'hlt := get_at s p hlt
        obtain ⟨x, hx⟩ : ∃ x, x = s[p]'hlt := ⟨_, rfl⟩
        have hx' := hx.symm
        rw [← hx] at hgx
        have hx256 := u8_lt x
        by_cases hb : badB x = true
        · have hgf := Lib.hid (show G = false by
            rw [hg.out, ← Bool.not_eq_true, all_get]
            intro h
            have := h p hlt
            rw [hgx, hb] at this
            cases this)
          have e1 : (x < 32) = (x.toNat < 32) := by rw [UInt8.lt_iff_toNat_lt]; rfl
          have e2 : (x = 127) = (x.toNat = 127) := by rw [← UInt8.toNat_inj]; rfl
          have e3 : (x = 47) = (x.toNat = 47) := by rw [← UInt8.toNat_inj]; rfl
          simp [badB, e1, e2, e3] at hb
          have HB := Lib.hid hb
          clear hb e1 e2 e3 hx hgx
          by_cases b1 : x.toNat < 32
          · have a1 : decide ((x.toNat : Int) < 32) = true := by simp; omega
            clear b1
            go_wp2_with fail
            go_ret
            exact ⟨by rw [hgf.out]; rfl, rfl⟩
          · have a1 : decide ((x.toNat : Int) < 32) = false := by simp; omega
            by_cases b2 : x.toNat = 127
            · have a2 : ((x.toNat : Int) == 127) = true := by simp; omega
              clear b1 b2
              go_wp2_with fail
              go_ret
              exact ⟨by rw [hgf.out]; rfl, rfl⟩
            · have a2 : ((x.toNat : Int) == 127) = false := by simp; omega
              have a3 : ((x.toNat : Int) == 47) = true := by have := HB.out; simp; omega
              clear b1 b2
              go_wp2_with fail
              go_ret
              exact ⟨by rw [hgf.out]; rfl, rfl⟩
        · have hb' : badB x = false := by simpa using hb
          have HN : Hid (∀ k, k < p + 1 → badB (s.get! k) = false) := Lib.hid (fun k hk => by
            rcases Nat.lt_or_ge k p with h1 | h1
            · exact HP.out k h1
            · obtain rfl : k = p := by omega
              rw [hgx]; exact hb')
          have e1 : (x < 32) = (x.toNat < 32) := by rw [UInt8.lt_iff_toNat_lt]; rfl
          have e2 : (x = 127) = (x.toNat = 127) := by rw [← UInt8.toNat_inj]; rfl
          have e3 : (x = 47) = (x.toNat = 47) := by rw [← UInt8.toNat_inj]; rfl
          simp [badB, e1, e2, e3] at hb
          have a1 : decide ((x.toNat : Int) < 32) = false := by simp; omega
          have a2 : ((x.toNat : Int) == 127) = false := by simp; omega
          have a3 : ((x.toNat : Int) == 47) = false := by simp; omega
          clear hb hb' e1 e2 e3 hx hgx
          go_wp2_with fail
          go_roundw
          case rel => exact ⟨p + 1, by omega, by go_num, by first | trivial | rfl, HN⟩
          case measure => simp [intOf]; omega
      · have hI : ¬ (p : Int) < (s.size : Int) := by omega
        have hgt := Lib.hid (show G = true by rw [hg.out, all_get]; exact fun k hk => HP.out k (by omega))
        go_wp2_with fail
        go_ret
        exact ⟨by rw [hgt.out]; rfl, rfl⟩
  · have h3I : (64 : Int) < (s.size : Int) := by omega
    have hg := Lib.hid (show G = false by rw [hG]; unfold nameG; rw [t3]; simp [h3])
    clear hG h0 h1 h2 h0' h1' h2' t3
    go_enter Try.func79, Try.ntmps79
    go_wp2_with fail
    go_ret
    exact ⟨by rw [hg.out]; rfl, rfl⟩
end Go.Proofs.Ytpafhajpnepecaa

/- A tree's entries in memory. -/
set_option linter.unusedVariables false
set_option linter.unusedSimpArgs false
namespace Go.Proofs.Ytpafhajpnepecaa
open Go.RowKit

abbrev entR : Rd EntT := prodR strR (prodR boolR (prodR oidR fltR))
/-- an entry's cells -/
def entK (s : ByteArray) (d : Bool) (i : List UInt8) (f : Nat) : Array Value := (Value.string s :: Value.bool d :: (bytesV i ++ [Value.float .f64 f])).toArray
abbrev zEnt : Array Value := entK ⟨#[]⟩ false zId 0
theorem ent_cells {w : World} {av : Av} {cs : List Value} {x : EntT} (h : entR.R w av cs x) : cs = (entK x.1 x.2.1 x.2.2.1 x.2.2.2).toList ∧ x.2.2.1.length = 32 ∧ x.2.2.2 < 2 ^ 64 := by
  obtain ⟨c1, c2, rfl, h1, d1, d2, rfl, h2, e1, e2, rfl, h3, h4, h5⟩ := h
  obtain ⟨h6, h7⟩ := oid_cells h3
  have h1 : c1 = _ := h1
  have h2 : d1 = _ := h2
  subst h1 h2 h4 h6
  exact ⟨rfl, h7, h5⟩
theorem ent_of (w : World) (av : Av) {x : EntT} (h : x.2.2.1.length = 32) (hf : x.2.2.2 < 2 ^ 64) : entR.R w av (entK x.1 x.2.1 x.2.2.1 x.2.2.2).toList x :=
  ⟨[_], _, rfl, rfl, [_], _, rfl, rfl, bytesV x.2.2.1, [_], rfl, oid_of w av h, rfl, hf⟩
theorem entK_size {i : List UInt8} (h : i.length = 32) (s : ByteArray) (d : Bool) (f : Nat) : (entK s d i f).size = 35 := by simp [entK, bytesV, h]
theorem entK_one (s : ByteArray) (d : Bool) (i : List UInt8) (f : Nat) : (entK s d i f).all (·.oneCell') = true := by
  rw [Array.all_eq_true_iff_forall_mem]
  intro v hv
  simp [entK] at hv
  rcases hv with rfl | rfl | hv | rfl
  · rfl
  · rfl
  · exact bytesV_one i v hv
  · rfl
theorem ent_info : (Try.prog.info? 76).map (·.size) = some 35 := by kernel_rfl
theorem entK_info {i : List UInt8} (h : i.length = 32) (s : ByteArray) (d : Bool) (f : Nat) : (Try.prog.info? 76).map (·.size) = some (entK s d i f).size := by rw [entK_size h]; exact ent_info
theorem entK_get {i : List UInt8} (h : i.length = 32) (s : ByteArray) (d : Bool) (f : Nat) : (entK s d i f)[0]? = some (.string s) ∧ (entK s d i f)[1]? = some (.bool d) ∧ (entK s d i f)[34]? = some (.float .f64 f) := by
  have h1 : (bytesV i).length = 32 := by rw [bytesV_length, h]
  refine ⟨rfl, rfl, ?_⟩
  unfold entK
  rw [List.getElem?_toArray, List.getElem?_cons_succ, List.getElem?_cons_succ, List.getElem?_append_right (by omega), h1]; rfl
theorem entK_set {i : List UInt8} (h : i.length = 32) (s : ByteArray) (d : Bool) (f f' : Nat) : (entK s d i f).setIfInBounds 34 (.float .f64 f') = entK s d i f' := by
  have h1 : (bytesV i).length = 32 := by rw [bytesV_length, h]
  unfold entK
  rw [List.setIfInBounds_toArray, List.set_cons_succ, List.set_cons_succ, List.set_append_right _ _ (by omega), h1]; rfl
theorem elemEnt : ElemOf Try.prog 25 76 (.agg zEnt) 35 64 := ⟨Try.underlying25, by kernel_rfl, rfl, by decide⟩
theorem ents_look {w : World} {av : Av} {A : Option Addr} {os : List EntT} {n i : Nat} (h : SlOf entR w av A os) (hl : os.length = n) (hi : i < n) :
    ∃ b off o, A = some ⟨b, off, none⟩ ∧ b < w.heap.size ∧ os[i]? = some o ∧ o.2.2.1.length = 32 ∧ o.2.2.2 < 2 ^ 64 ∧ At w ⟨b, off + i * 35, none⟩ (entK o.1 o.2.1 o.2.2.1 o.2.2.2) := by
  obtain ⟨b, off, cs, o, e, hb, hx, hr, hc⟩ := h.at hl hi
  obtain ⟨rfl, h32, hf⟩ := ent_cells hr
  exact ⟨b, off, o, e, hb, hx, h32, hf, hc⟩

/-! ### ordered -/
def OrdPost (w : World) (z : Int) (e : Ending) (w' : World) : Prop := Below w.heap.size w w' ∧ e = if z = 0 then .returned (.tuple #[]) else .panicked (flawE z)
def notUp : Option (List UInt8) → List UInt8 → Bool
  | none, _ => false
  | some q, s => !(Op.bytesLess q s)
theorem ord_step {l : List EntT} {i : Nat} {x : EntT} {p : Option (List UInt8)} (hx : l[i]? = some x) : ordG p (l.drop i) = if nameG (sB x.1) = false then 50 else if notUp p (sB x.1) = true then 92 else ordG (some (sB x.1)) (l.drop (i + 1)) := by
  obtain ⟨hl, he⟩ := List.getElem?_eq_some_iff.1 hx
  rw [List.drop_eq_getElem_cons hl, he]
  cases p <;> (rw [ordG.eq_def]; rfl)

set_option maxRecDepth 100000 in
set_option maxHeartbeats 4000000 in
theorem ordered_any (A : Option Addr) (n c : Nat) (l : List EntT) (W0 : World) (hs : SlOf entR W0 no A l) (hn : n = l.length) (hnl : n ≤ 1000000000) (hsz : ∀ x ∈ l, x.1.size ≤ 1000000000) :
    Calls Try.prog 45 #[.slice A n c] W0 (OrdPost W0 (orderedG l)) := by
  obtain ⟨G, hG⟩ : ∃ G, G = orderedG l := ⟨_, rfl⟩
  rw [← hG]
  have HS := Lib.hid hs
  have HM := Lib.hid hn
  have HZ := Lib.hid hsz
  by_cases h1 : n ≤ 1024
  · have hI : (n : Int) ≤ 1024 := by omega
    have HG0 := Lib.hid (show G = ordG none (l.drop 0) by rw [hG]; unfold orderedG; rw [if_neg (by omega), List.drop_zero])
    clear hG hs hn hsz
    go_enter Try.func45, Try.ntmps45
    go_wp2_with fail
    refine (need_yes 2 _).mono ?_
    rintro e w' ⟨rfl, rfl⟩
    go_wp2_with fail
    go_loopw [10] (fun s10 wr => ∃ (i : Nat) (p : Option (List UInt8)), i ≤ n ∧ s10 = .int .i64 (i : Int) ∧ Below w'.heap.size w' wr ∧ Hid ((i = 0 → p = none) ∧ ∀ j x, i = j + 1 → l[j]? = some x → p = some (sB x.1)) ∧ Hid (G = ordG p (l.drop i))) (fun s10 wr => n - (intOf s10).toNat)
    case atStart => exact ⟨0, none, by omega, rfl, Below.refl _ _, Lib.hid ⟨fun _ => rfl, fun j x h => by omega⟩, HG0⟩
    case round =>
      obtain ⟨i, p, hin, rfl, hbl, HP, HR⟩ := hrel
      by_cases hi : i < n
      · have hiI : (i : Int) < (n : Int) := by omega
        obtain ⟨b1, o1, x, hA, hb1, hx, h32, hf, hat⟩ := ents_look (HS.out.below hbl) HM.out.symm hi
        have hr := HR.out
        rw [ord_step hx] at hr
        have HRR := Lib.hid hr
        have HX := Lib.hid hx
        have HN := Lib.hid (fun w => name_any x.1 w (HZ.out x (List.mem_of_getElem? hx)))
        obtain ⟨KX, hKX⟩ : ∃ KX, KX = entK x.1 x.2.1 x.2.2.1 x.2.2.2 := ⟨_, rfl⟩
        have hK0 : KX[0]? = some (.string x.1) := by rw [hKX]; rfl
        have HI := Lib.hid (show (Try.prog.info? 76).map (·.size) = some KX.size by rw [hKX]; exact entK_info h32 _ _ _)
        have HO := Lib.hid (show KX.all (·.oneCell') = true by rw [hKX]; exact entK_one _ _ _ _)
        have HZS := Lib.hid (show zEnt.size = KX.size by rw [hKX, entK_size (by simp), entK_size h32])
        rw [← hKX] at hat
        have HAT := Lib.hid hat
        have HBN := Lib.hid (Blk.new wr 76 zEnt)
        have HK := Lib.hid (Blk.new wr 76 KX)
        have HB2 := Lib.hid (show Below wr.heap.size wr (wr.alloc (.cells KX 76)) from (Below.refl _ _).alloc (Nat.le_refl _) _)
        subst hA
        clear hr hx hat HR hKX h32 hf
        go_upto_region 4 with (first
          | (refine wpList_load_at rfl _ _ rfl b1 (o1 + i * 35) rfl KX _ HAT.out Try.underlying76 rfl HI.out ?_)
          | (refine wpList_store_row rfl _ _ _ rfl wr.heap.size KX rfl rfl 76 _ HBN.out HI.out HZS.out HO.out ?_) | fail)
        rw [World.setRow_alloc_new]
        have HAT2 := Lib.hid (HAT.out.below HB2.out hb1)
        have hb2 : b1 < (wr.alloc (.cells KX 76)).heap.size := Nat.lt_of_lt_of_le hb1 HB2.out.size
        clear HBN HI HO HZS HAT
        have hbl2 := hbl.trans (HB2.out.mono hbl.size)
        clear HB2
        generalize wr.alloc (.cells KX 76) = w2 at *
        generalize wr.heap.size = gx at *
        have hcx : w2.cell? ⟨gx, 0, none⟩ = some (.string x.1) := (HK.out.cell 0).trans hK0
        go_wp2_with fail
        refine (HN.out _).mono ?_
        rintro e w3 ⟨rfl, hb3⟩
        have hbl3 := hbl2.trans (hb3.mono hbl2.size)
        cases hnm : nameG (sB x.1) with
        | false =>
          have HG2 := Lib.hid (show G = 50 by rw [HRR.out, if_pos hnm])
          clear hnm
          go_wp2_with fail
          refine (need_no 50 _).mono ?_
          rintro e w' ⟨rfl, rfl⟩
          exact ⟨rfl, hbl3, by rw [HG2.out]; rfl⟩
        | true =>
          have HG2 := Lib.hid (show G = if notUp p (sB x.1) = true then 92 else ordG (some (sB x.1)) (l.drop (i + 1)) by rw [HRR.out, if_neg (by simp [hnm])])
          clear hnm HRR
          go_wp2_with fail
          refine (need_yes 50 _).mono ?_
          rintro e w4 ⟨rfl, rfl⟩
          have hgx2 : gx < w2.heap.size := HK.out.lt
          have hgx3 : gx < w4.heap.size := Nat.lt_of_lt_of_le hgx2 hb3.size
          have hcx3 : w4.cell? ⟨gx, 0, none⟩ = some (.string x.1) := (hb3.cell (p := ⟨gx, 0, none⟩) hgx2).trans hcx
          have hdr : Below w4.heap.size w4 w4.drew := Same.below ⟨1, rfl⟩ _
          have hbl5 := hbl3.trans (hdr.mono hbl3.size)
          by_cases hi0 : i = 0
          · subst hi0
            obtain rfl := HP.out.1 rfl
            have HG3 := Lib.hid (show G = ordG (some (sB x.1)) (l.drop (0 + 1)) by rw [HG2.out]; rfl)
            have HP2 := Lib.hid (show (0 + 1 = 0 → some (sB x.1) = none) ∧ ∀ (j : Nat) (y : EntT), 0 + 1 = j + 1 → l[j]? = some y → some (sB x.1) = some (sB y.1) from ⟨fun h => by omega, fun j y h1 h2 => by
              obtain rfl : j = 0 := by omega
              rw [HX.out] at h2; injection h2 with h2; rw [h2]⟩)
            clear HG2 HP HAT2 hb2 hcx hb3 hbl2 hbl HN HK
            go_upto_region 5 with fail
            refine wp_region_held (S := fun w => Below w4.heap.size w4 w) (by kernel_rfl) ?_
            change wpAnyH _ _ _ _ _ _ _ _ (World.drew _)
            refine held_take (i := 0) (v := ?_) (a' := ?_) rfl (by kernel_rfl) (by kernel_rfl) (by kernel_rfl) (fun _ _ _ h => h) (by rfl) hdr ?_ ?_ ?_
            rotate_left 2
            · (intro w hS; go_simp; try with_reducible rfl)
            · (go_simp; try with_reducible rfl)
            refine held_take (i := 1) (v := ?_) (a' := ?_) rfl (by kernel_rfl) (by kernel_rfl) (by kernel_rfl) (fun _ _ _ h => h) (by rfl) hdr ?_ ?_ ?_
            rotate_left 2
            · (intro w hS; go_simp; try with_reducible rfl)
            · (go_simp; try with_reducible rfl)
            refine held_take (i := 2) (v := ?_) (a' := ?_) rfl (by kernel_rfl) (by kernel_rfl) (by kernel_rfl) (fun _ _ _ h => h) (by rfl) hdr ?_ ?_ ?_
            rotate_left 2
            · (intro w hS; go_simp; try with_reducible rfl)
            · (go_simp; try with_reducible rfl)
            refine held_no (i := 3) (a' := ?_) rfl (by kernel_rfl) (by kernel_rfl) (by kernel_rfl) (fun _ _ _ h => h) (by rfl) hdr ?_ ?_
            rotate_left 1
            · (go_simp; try with_reducible rfl)
            refine held_no (i := 4) (a' := ?_) rfl (by kernel_rfl) (by kernel_rfl) (by kernel_rfl) (fun _ _ _ h => h) (by rfl) hdr ?_ ?_
            rotate_left 1
            · (go_simp; try with_reducible rfl)
            refine held_no (i := 5) (a' := ?_) rfl (by kernel_rfl) (by kernel_rfl) (by kernel_rfl) (fun _ _ _ h => h) (by rfl) hdr ?_ ?_
            rotate_left 1
            · (go_simp; try with_reducible rfl)
            refine held_no (i := 6) (a' := ?_) rfl (by kernel_rfl) (by kernel_rfl) (by kernel_rfl) (fun _ _ _ h => h) (by rfl) hdr ?_ ?_
            rotate_left 1
            · (go_simp; try with_reducible rfl)
            refine held_no (i := 7) (a' := ?_) rfl (by kernel_rfl) (by kernel_rfl) (by kernel_rfl) (fun _ _ _ h => h) (by rfl) hdr ?_ ?_
            rotate_left 1
            · (go_simp; try with_reducible rfl)
            refine held_no (i := 8) (a' := ?_) rfl (by kernel_rfl) (by kernel_rfl) (by kernel_rfl) (fun _ _ _ h => h) (by rfl) hdr ?_ ?_
            rotate_left 1
            · (go_simp; try with_reducible rfl)
            refine held_no (i := 9) (a' := ?_) rfl (by kernel_rfl) (by kernel_rfl) (by kernel_rfl) (fun _ _ _ h => h) (by rfl) hdr ?_ ?_
            rotate_left 1
            · (go_simp; try with_reducible rfl)
            refine held_no (i := 10) (a' := ?_) rfl (by kernel_rfl) (by kernel_rfl) (by kernel_rfl) (fun _ _ _ h => h) (by rfl) hdr ?_ ?_
            rotate_left 1
            · (go_simp; try with_reducible rfl)
            refine held_no (i := 11) (a' := ?_) rfl (by kernel_rfl) (by kernel_rfl) (by kernel_rfl) (fun _ _ _ h => h) (by rfl) hdr ?_ ?_
            rotate_left 1
            · (go_simp; try with_reducible rfl)
            refine held_take (i := 12) (v := ?_) (a' := ?_) rfl (by kernel_rfl) (by kernel_rfl) (by kernel_rfl) (fun _ _ _ h => h) (by rfl) hdr ?_ ?_ ?_
            rotate_left 2
            · (intro w hS; go_simp; try with_reducible rfl)
            · (go_simp; try with_reducible rfl)
            refine held_ready (rs := [13]) (by kernel_rfl) (by simp) ?_
            refine AllHeld.cons rfl (fun KR hKR => ?_) ?_
            · go_simp
              refine (need_yes 92 _).mono ?_
              rintro e w6 ⟨rfl, rfl⟩
              refine hKR _ _ hdr ?_
              clear hKR KR
              refine wpAnyH_done (by kernel_rfl) ?_ _
              go_wp2_with fail
              go_roundw
              case rel => exact ⟨0 + 1, some (sB x.1), by omega, by go_num, hbl5, HP2, HG3⟩
              case measure => simp [intOf]; omega
            exact AllHeld.nil
          · obtain ⟨b9, o9, y, hA9, hb9, hy, hy32, hyf, haty⟩ := ents_look (HS.out.below hbl3) HM.out.symm (i := i - 1) (by omega)
            have hA9 := Option.some.inj hA9
            injection hA9 with e1 e2
            subst e1 e2
            have hp := HP.out.2 (i - 1) y (by omega) hy
            have i1 : (i : Int) - 1 = ((i - 1 : Nat) : Int) := by omega
            obtain ⟨i', hi'⟩ : ∃ i', i' = i - 1 := ⟨_, rfl⟩
            rw [← hi'] at i1 haty
            have iw : IntKind.i64.wrap ((i : Int) - 1) = (i' : Int) := by rw [i1]; exact IntWalk.i64_in _ (by omega)
            have i2 : (0 : Int) ≤ (i' : Int) := by omega
            have i3 : (i' : Int) < (n : Int) := by omega
            have e0 : ((i : Int) == 0) = false := by simp; omega
            have hcy : w4.cell? ⟨b1, o1 + i' * 35, none⟩ = some (.string y.1) := by have := haty 0 _ (entK_get hy32 _ _ _).1; simpa using this
            have HG3 := Lib.hid (show G = if (!(Op.bytesLess (sB y.1) (sB x.1))) = true then 92 else ordG (some (sB x.1)) (l.drop (i + 1)) by rw [HG2.out, hp]; rfl)
            have HP2 := Lib.hid (show (i + 1 = 0 → some (sB x.1) = none) ∧ ∀ (j : Nat) (y : EntT), i + 1 = j + 1 → l[j]? = some y → some (sB x.1) = some (sB y.1) from ⟨fun h => by omega, fun j y h1 h2 => by
              obtain rfl : j = i := by omega
              rw [HX.out] at h2; injection h2 with h2; rw [h2]⟩)
            have hlb : b1 < w4.heap.size := hb9
            clear HG2 HP HAT2 hb2 hcx hb3 hbl2 hbl HN HK i1 hi' haty hy hyf hy32 hp hb9 hi0
            go_upto_region 5 with fail
            cases hls : Op.bytesLess (sB y.1) (sB x.1) with
            | true =>
              have e3 : Op.bytesLess y.1.toList x.1.toList = true := by rw [Lib.toList_data, Lib.toList_data]; exact hls
              have HG4 := Lib.hid (show G = ordG (some (sB x.1)) (l.drop (i + 1)) by rw [HG3.out, hls]; rfl)
              clear hls HG3
              refine wp_region_held (S := fun w => Below w4.heap.size w4 w) (by kernel_rfl) ?_
              change wpAnyH _ _ _ _ _ _ _ _ (World.drew _)
              refine held_take (i := 0) (v := ?_) (a' := ?_) rfl (by kernel_rfl) (by kernel_rfl) (by kernel_rfl) (fun _ _ _ h => h) (by rfl) hdr ?_ ?_ ?_
              rotate_left 2
              · (intro w hS; go_simp; try with_reducible rfl)
              · (go_simp; try with_reducible rfl)
              refine held_take (i := 1) (v := ?_) (a' := ?_) rfl (by kernel_rfl) (by kernel_rfl) (by kernel_rfl) (fun _ _ _ h => h) (by rfl) hdr ?_ ?_ ?_
              rotate_left 2
              · (intro w hS; go_simp; try with_reducible rfl)
              · (go_simp; try with_reducible rfl)
              refine held_take (i := 2) (v := ?_) (a' := ?_) rfl (by kernel_rfl) (by kernel_rfl) (by kernel_rfl) (fun _ _ _ h => h) (by rfl) hdr ?_ ?_ ?_
              rotate_left 2
              · (intro w hS; go_simp; try with_reducible rfl)
              · (go_simp; try with_reducible rfl)
              refine held_take (i := 3) (v := ?_) (a' := ?_) rfl (by kernel_rfl) (by kernel_rfl) (by kernel_rfl) (fun _ _ _ h => h) (by rfl) hdr ?_ ?_ ?_
              rotate_left 2
              · (intro w hS; go_simp; try with_reducible rfl)
              · (go_simp; try with_reducible rfl)
              refine held_take (i := 4) (v := ?_) (a' := ?_) rfl (by kernel_rfl) (by kernel_rfl) (by kernel_rfl) (fun _ _ _ h => h) (by rfl) hdr ?_ ?_ ?_
              rotate_left 2
              · (intro w hS; go_simp; try with_reducible rfl)
              · (go_simp; try with_reducible rfl)
              refine held_take (i := 5) (v := ?_) (a' := ?_) rfl (by kernel_rfl) (by kernel_rfl) (by kernel_rfl) (fun _ _ _ h => h) (by rfl) hdr ?_ ?_ ?_
              rotate_left 2
              · (intro w hS; go_simp; try with_reducible rfl)
              · (go_simp; try with_reducible rfl)
              refine held_take (i := 6) (v := ?_) (a' := ?_) rfl (by kernel_rfl) (by kernel_rfl) (by kernel_rfl) (fun _ _ _ h => h) (by rfl) hdr ?_ ?_ ?_
              rotate_left 2
              · (intro w hS; go_simp; try with_reducible rfl)
              · (go_simp; try with_reducible rfl)
              refine held_take (i := 7) (v := ?_) (a' := ?_) rfl (by kernel_rfl) (by kernel_rfl) (by kernel_rfl) (fun _ _ _ h => h) (by rfl) hdr ?_ ?_ ?_
              rotate_left 2
              · (intro w hS; go_simp; try with_reducible rfl)
              · (go_simp; try with_reducible rfl)
              refine held_take (i := 8) (v := ?_) (a' := ?_) rfl (by kernel_rfl) (by kernel_rfl) (by kernel_rfl) (fun _ _ _ h => h) (by rfl) hdr ?_ ?_ ?_
              rotate_left 2
              · (intro w hS; have t := (hS.cell (p := ⟨b1, o1 + i' * 35, none⟩) hlb).trans hcy; go_simp; try with_reducible rfl)
              · (go_simp; try with_reducible rfl)
              refine held_take (i := 9) (v := ?_) (a' := ?_) rfl (by kernel_rfl) (by kernel_rfl) (by kernel_rfl) (fun _ _ _ h => h) (by rfl) hdr ?_ ?_ ?_
              rotate_left 2
              · (intro w hS; go_simp; try with_reducible rfl)
              · (go_simp; try with_reducible rfl)
              refine held_take (i := 10) (v := ?_) (a' := ?_) rfl (by kernel_rfl) (by kernel_rfl) (by kernel_rfl) (fun _ _ _ h => h) (by rfl) hdr ?_ ?_ ?_
              rotate_left 2
              · (intro w hS; have t := (hS.cell (p := ⟨gx, 0, none⟩) hgx3).trans hcx3; go_simp; try with_reducible rfl)
              · (go_simp; try with_reducible rfl)
              refine held_take (i := 11) (v := ?_) (a' := ?_) rfl (by kernel_rfl) (by kernel_rfl) (by kernel_rfl) (fun _ _ _ h => h) (by rfl) hdr ?_ ?_ ?_
              rotate_left 2
              · (intro w hS; go_simp; try with_reducible rfl)
              · (go_simp; try with_reducible rfl)
              refine held_take (i := 12) (v := ?_) (a' := ?_) rfl (by kernel_rfl) (by kernel_rfl) (by kernel_rfl) (fun _ _ _ h => h) (by rfl) hdr ?_ ?_ ?_
              rotate_left 2
              · (intro w hS; go_simp; try with_reducible rfl)
              · (go_simp; try with_reducible rfl)
              refine held_ready (rs := [13]) (by kernel_rfl) (by simp) ?_
              refine AllHeld.cons rfl (fun KR hKR => ?_) ?_
              · go_simp
                refine (need_yes 92 _).mono ?_
                rintro e w6 ⟨rfl, rfl⟩
                refine hKR _ _ hdr ?_
                clear hKR KR
                refine wpAnyH_done (by kernel_rfl) ?_ _
                go_wp2_with fail
                go_roundw
                case rel => exact ⟨i + 1, some (sB x.1), by omega, by go_num, hbl5, HP2, HG4⟩
                case measure => simp [intOf]; omega
              exact AllHeld.nil
            | false =>
              have e3 : Op.bytesLess y.1.toList x.1.toList = false := by rw [Lib.toList_data, Lib.toList_data]; exact hls
              have HG4 := Lib.hid (show G = 92 by rw [HG3.out, hls]; rfl)
              clear hls HG3
              refine wp_region_held (S := fun w => Below w4.heap.size w4 w) (by kernel_rfl) ?_
              change wpAnyH _ _ _ _ _ _ _ _ (World.drew _)
              refine held_take (i := 0) (v := ?_) (a' := ?_) rfl (by kernel_rfl) (by kernel_rfl) (by kernel_rfl) (fun _ _ _ h => h) (by rfl) hdr ?_ ?_ ?_
              rotate_left 2
              · (intro w hS; go_simp; try with_reducible rfl)
              · (go_simp; try with_reducible rfl)
              refine held_take (i := 1) (v := ?_) (a' := ?_) rfl (by kernel_rfl) (by kernel_rfl) (by kernel_rfl) (fun _ _ _ h => h) (by rfl) hdr ?_ ?_ ?_
              rotate_left 2
              · (intro w hS; go_simp; try with_reducible rfl)
              · (go_simp; try with_reducible rfl)
              refine held_take (i := 2) (v := ?_) (a' := ?_) rfl (by kernel_rfl) (by kernel_rfl) (by kernel_rfl) (fun _ _ _ h => h) (by rfl) hdr ?_ ?_ ?_
              rotate_left 2
              · (intro w hS; go_simp; try with_reducible rfl)
              · (go_simp; try with_reducible rfl)
              refine held_take (i := 3) (v := ?_) (a' := ?_) rfl (by kernel_rfl) (by kernel_rfl) (by kernel_rfl) (fun _ _ _ h => h) (by rfl) hdr ?_ ?_ ?_
              rotate_left 2
              · (intro w hS; go_simp; try with_reducible rfl)
              · (go_simp; try with_reducible rfl)
              refine held_take (i := 4) (v := ?_) (a' := ?_) rfl (by kernel_rfl) (by kernel_rfl) (by kernel_rfl) (fun _ _ _ h => h) (by rfl) hdr ?_ ?_ ?_
              rotate_left 2
              · (intro w hS; go_simp; try with_reducible rfl)
              · (go_simp; try with_reducible rfl)
              refine held_take (i := 5) (v := ?_) (a' := ?_) rfl (by kernel_rfl) (by kernel_rfl) (by kernel_rfl) (fun _ _ _ h => h) (by rfl) hdr ?_ ?_ ?_
              rotate_left 2
              · (intro w hS; go_simp; try with_reducible rfl)
              · (go_simp; try with_reducible rfl)
              refine held_take (i := 6) (v := ?_) (a' := ?_) rfl (by kernel_rfl) (by kernel_rfl) (by kernel_rfl) (fun _ _ _ h => h) (by rfl) hdr ?_ ?_ ?_
              rotate_left 2
              · (intro w hS; go_simp; try with_reducible rfl)
              · (go_simp; try with_reducible rfl)
              refine held_take (i := 7) (v := ?_) (a' := ?_) rfl (by kernel_rfl) (by kernel_rfl) (by kernel_rfl) (fun _ _ _ h => h) (by rfl) hdr ?_ ?_ ?_
              rotate_left 2
              · (intro w hS; go_simp; try with_reducible rfl)
              · (go_simp; try with_reducible rfl)
              refine held_take (i := 8) (v := ?_) (a' := ?_) rfl (by kernel_rfl) (by kernel_rfl) (by kernel_rfl) (fun _ _ _ h => h) (by rfl) hdr ?_ ?_ ?_
              rotate_left 2
              · (intro w hS; have t := (hS.cell (p := ⟨b1, o1 + i' * 35, none⟩) hlb).trans hcy; go_simp; try with_reducible rfl)
              · (go_simp; try with_reducible rfl)
              refine held_take (i := 9) (v := ?_) (a' := ?_) rfl (by kernel_rfl) (by kernel_rfl) (by kernel_rfl) (fun _ _ _ h => h) (by rfl) hdr ?_ ?_ ?_
              rotate_left 2
              · (intro w hS; go_simp; try with_reducible rfl)
              · (go_simp; try with_reducible rfl)
              refine held_take (i := 10) (v := ?_) (a' := ?_) rfl (by kernel_rfl) (by kernel_rfl) (by kernel_rfl) (fun _ _ _ h => h) (by rfl) hdr ?_ ?_ ?_
              rotate_left 2
              · (intro w hS; have t := (hS.cell (p := ⟨gx, 0, none⟩) hgx3).trans hcx3; go_simp; try with_reducible rfl)
              · (go_simp; try with_reducible rfl)
              refine held_take (i := 11) (v := ?_) (a' := ?_) rfl (by kernel_rfl) (by kernel_rfl) (by kernel_rfl) (fun _ _ _ h => h) (by rfl) hdr ?_ ?_ ?_
              rotate_left 2
              · (intro w hS; go_simp; try with_reducible rfl)
              · (go_simp; try with_reducible rfl)
              refine held_take (i := 12) (v := ?_) (a' := ?_) rfl (by kernel_rfl) (by kernel_rfl) (by kernel_rfl) (fun _ _ _ h => h) (by rfl) hdr ?_ ?_ ?_
              rotate_left 2
              · (intro w hS; go_simp; try with_reducible rfl)
              · (go_simp; try with_reducible rfl)
              refine held_ready (rs := [13]) (by kernel_rfl) (by simp) ?_
              refine AllHeld.cons rfl (fun KR hKR => ?_) ?_
              · go_simp
                refine (need_no 92 _).mono ?_
                rintro e w6 ⟨rfl, rfl⟩
                exact ⟨rfl, hbl5, by rw [HG4.out]; rfl⟩
              exact AllHeld.nil
      · have hiI : ¬ (i : Int) < (n : Int) := by omega
        have hg := Lib.hid (show G = 0 by
          rw [HR.out, List.drop_of_length_le (by rw [← HM.out]; omega)]; rfl)
        go_wp2_with fail
        go_end0
        exact ⟨hbl, by rw [hg.out, if_pos rfl]⟩
  · have hI : ¬ (n : Int) ≤ 1024 := by omega
    have HG2 := Lib.hid (show G = 2 by rw [hG]; unfold orderedG; rw [if_pos (by omega)])
    clear hG hs hn
    go_enter Try.func45, Try.ntmps45
    go_wp2_with fail
    refine (need_no 2 _).mono ?_
    rintro e w' ⟨rfl, rfl⟩
    exact ⟨rfl, Below.refl _ _, by rw [HG2.out]; rfl⟩
end Go.Proofs.Ytpafhajpnepecaa
