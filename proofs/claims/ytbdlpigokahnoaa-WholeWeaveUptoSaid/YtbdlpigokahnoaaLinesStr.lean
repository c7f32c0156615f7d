/- Lists of strings: alike or not, and copies. -/
import Derived.Test.YtbdlpigokahnoaaLinesPlain
import Derived.Test.YtbdlpigokahnoaaRegion
import Derived.Deep.QuietTactic
import Derived.BigQuiet
import Derived.IntWalk
set_option linter.unusedVariables false
namespace Go.Proofs.Ytbdlpigokahnoaa
open Go.RowKit

def sameS (a b : List ByteArray) : Bool := decide (a = b)
theorem sameS_self (a : List ByteArray) : sameS a a = true := by simp [sameS]
theorem sameS_iff {a b : List ByteArray} : sameS a b = true ↔ a = b := by simp [sameS]
theorem sameS_ne {a b : List ByteArray} {k : Nat} {x y : ByteArray} (ha : a[k]? = some x) (hb : b[k]? = some y) (hne : ¬ x = y) : sameS a b = false := by
  simp only [sameS, decide_eq_false_iff_not]
  rintro rfl
  rw [ha] at hb
  injection hb with hb
  exact hne hb
theorem takeS_snoc {a b : List ByteArray} {k : Nat} {x : ByteArray} (h : a.take k = b.take k) (ha : a[k]? = some x) (hb : b[k]? = some x) : a.take (k + 1) = b.take (k + 1) := by
  rw [List.take_add_one, List.take_add_one, h, ha, hb]

theorem elemStr : ElemOf Try.prog 23 9 (.string .empty) 1 16 := ⟨Try.underlying23, by kernel_rfl, rfl, by decide⟩

theorem refSame_any (A B : Option Addr) (n c m d : Nat) (a b : List ByteArray) (w : World) (ha : Sl w 1 A n (strV a)) (hb : Sl w 1 B m (strV b)) (hn : n ≤ 1000000000) (hm : m ≤ 1000000000) :
    Calls Try.prog 25 #[.slice A n c, .slice B m d] w fun e w' => e = .returned (.bool (sameS a b)) ∧ Same w w' := by
  have hla := ha.strLen
  have hlb := hb.strLen
  by_cases hnm : n = m
  · subst hnm
    have HA := Lib.hid hla
    have HB := Lib.hid hlb
    clear hla hlb
    go_enter Try.func25, Try.ntmps25
    go_wp2_with fail
    go_loopw [5] (fun i wr => ∃ k : Nat, k ≤ n ∧ i = .int .i64 k ∧ Same w wr ∧ Hid (a.take k = b.take k)) (fun i _ => n - (intOf i).toNat)
    case atStart => exact ⟨0, by omega, rfl, Same.refl _, Lib.hid rfl⟩
    case round =>
      obtain ⟨k, hk, rfl, hs, H⟩ := hrel
      by_cases hlt : k < n
      · obtain ⟨b1, o1, x, rfl, _, c1, hx⟩ := strV_look (hs.sl ha) hlt
        obtain ⟨b2, o2, y, rfl, _, c2, hy⟩ := strV_look (hs.sl hb) hlt
        have HX := Lib.hid hx
        have HY := Lib.hid hy
        clear hx hy ha hb
        have hlt' : (k : Int) < (n : Int) := by omega
        by_cases hxy : x = y
        · subst hxy
          go_wp2_with fail
          go_quiet (fail)
          go_wp2_with fail
          go_roundw
          case rel => exact ⟨k + 1, by omega, by go_num, hs.drewN _, Lib.hid (takeS_snoc H.out HX.out HY.out)⟩
          case measure => simp [intOf]; omega
        · have hne := str_ne hxy
          have HN := Lib.hid hxy
          clear hxy
          go_wp2_with fail
          go_quiet (fail)
          go_wp2_with fail
          go_ret
          exact ⟨by rw [sameS_ne HX.out HY.out HN.out]; rfl, hs.drewN _⟩
      · have h1 := H.out
        have h2 := HA.out
        have h3 := HB.out
        rw [List.take_of_length_le (by omega), List.take_of_length_le (by omega)] at h1
        subst h1
        have HT := Lib.hid (sameS_self a)
        clear h2 h3 ha hb
        go_wp2_with fail
        go_ret
        exact ⟨by rw [HT.out]; rfl, hs⟩
  · have hF : sameS a b = false := by
      simp only [sameS, decide_eq_false_iff_not]
      rintro rfl
      omega
    rw [hF]
    clear hla hlb hF
    go_enter Try.func25, Try.ntmps25
    go_wp2_with fail
    go_ret
    exact ⟨rfl, Same.refl _⟩

theorem equal_any (A B : Option Addr) (n c m d : Nat) (a b : List ByteArray) (w : World) (ha : Sl w 1 A n (strV a)) (hb : Sl w 1 B m (strV b)) (hn : n ≤ 1000000000) (hm : m ≤ 1000000000) :
    Calls Try.prog 34 #[.slice A n c, .slice B m d] w fun e w' => e = .returned (.bool (sameS a b)) ∧ Same w w' := by
  have hla := ha.strLen
  have hlb := hb.strLen
  by_cases hnm : n = m
  · subst hnm
    have HA := Lib.hid hla
    have HB := Lib.hid hlb
    clear hla hlb
    go_enter Try.func34, Try.ntmps34
    go_wp2_with fail
    go_loopw [13] (fun i wr => ∃ k : Nat, k ≤ n ∧ i = .int .i64 k ∧ Same w wr ∧ Hid (a.take k = b.take k)) (fun i _ => n - (intOf i).toNat)
    case atStart => exact ⟨0, by omega, rfl, Same.refl _, Lib.hid rfl⟩
    case round =>
      obtain ⟨k, hk, rfl, hs, H⟩ := hrel
      by_cases hlt : k < n
      · obtain ⟨b1, o1, x, rfl, _, c1, hx⟩ := strV_look (hs.sl ha) hlt
        obtain ⟨b2, o2, y, rfl, _, c2, hy⟩ := strV_look (hs.sl hb) hlt
        have HX := Lib.hid hx
        have HY := Lib.hid hy
        clear hx hy ha hb
        have hlt' : (k : Int) < (n : Int) := by omega
        by_cases hxy : x = y
        · subst hxy
          go_wp2_with fail
          go_quiet (fail)
          go_wp2_with fail
          go_roundw
          case rel => exact ⟨k + 1, by omega, by go_num, hs.drewN _, Lib.hid (takeS_snoc H.out HX.out HY.out)⟩
          case measure => simp [intOf]; omega
        · have hne := str_ne hxy
          have HN := Lib.hid hxy
          clear hxy
          go_wp2_with fail
          go_quiet (fail)
          go_wp2_with fail
          go_ret
          exact ⟨by rw [sameS_ne HX.out HY.out HN.out]; rfl, hs.drewN _⟩
      · have h1 := H.out
        have h2 := HA.out
        have h3 := HB.out
        rw [List.take_of_length_le (by omega), List.take_of_length_le (by omega)] at h1
        subst h1
        have HT := Lib.hid (sameS_self a)
        clear h2 h3 ha hb
        go_wp2_with fail
        go_ret
        exact ⟨by rw [HT.out]; rfl, hs⟩
  · have hF : sameS a b = false := by
      simp only [sameS, decide_eq_false_iff_not]
      rintro rfl
      omega
    rw [hF]
    clear hla hlb hF
    go_enter Try.func34, Try.ntmps34
    go_wp2_with fail
    go_ret
    exact ⟨rfl, Same.refl _⟩

/-- What a copy leaves: the same list in new memory (or nil). -/
def StrsPost (W : World) (l : List ByteArray) (e : Ending) (w' : World) : Prop :=
  ∃ A c, e = .returned (.slice A l.length c) ∧ w'.ownsRow W.heap.size 9 1 (.slice A l.length c) l.length (strV l) ∧ l.length ≤ c ∧ c ≤ maxLen ∧ Below W.heap.size W w'

theorem clone_any (A : Option Addr) (n c : Nat) (l : List ByteArray) (w : World) (hs : Sl w 1 A n (strV l)) (hn : n ≤ 1000000000) :
    Calls Try.prog 32 #[.slice A n c] w (StrsPost w l) := by
  have hl := hs.strLen
  subst hl
  rcases A with _ | ad
  · have hz : l.length = 0 := by
      rcases Nat.eq_zero_or_pos l.length with h | h
      · exact h
      · obtain ⟨_, _, e, _⟩ := hs.2 h; cases e
    have hl : l = [] := List.eq_nil_of_length_eq_zero hz
    subst hl
    clear hz hs
    have hcmp := fun (w : World) => Lib.run_eql_slice_nil (P := Try.prog) w 23 9 none 0 c 0 0 Try.underlying23
    go_enter Try.func32, Try.ntmps32
    go_wp2_with fail
    go_ret
    exact ⟨none, 0, rfl, World.ownsRow_nil _ _ _ _, Nat.le_refl _, Nat.zero_le _, Below.refl _ _⟩
  · have hw := own_made w 9 1 (Nat.le_refl w.heap.size)
    obtain ⟨A', c', w1, hrun, hap, h1, h2⟩ := append_sl (P := Try.prog) elemStr hw (hs.alloc _) (strV_one l) (by omega) (by simp only [maxLen]; omega) (by simp) 23 c
    rw [Nat.zero_add] at hrun hap h1
    have hb : Below w.heap.size w w1 := ((Below.refl _ _).alloc (Nat.le_refl _) _).trans hap.below
    have ho := hap.own
    rw [List.nil_append] at ho
    have HO := Lib.hid ho
    clear hap ho hw hs
    have hcmp := fun (w : World) => Lib.run_eql_slice_nil (P := Try.prog) w 23 9 (some ad) l.length c 0 0 Try.underlying23
    go_enter Try.func32, Try.ntmps32
    go_wp2_with (at_builtin; refine wpList_run_append hrun ?_ ?_ ?_; exact rfl; exact rfl)
    go_ret
    exact ⟨A', c', rfl, HO.out, h1, h2, hb⟩
end Go.Proofs.Ytbdlpigokahnoaa
