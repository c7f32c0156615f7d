/- same: two lists of numbers are alike. -/
import Derived.Test.YtdleobdbicdmoaaGearWalks
namespace Go.Proofs.Ytdleobdbicdmoaa
open Go.RowKit

def sameB (a b : List Nat) : Bool := a == b

theorem natsV_look {w : World} {A : Option Addr} {n k : Nat} {l : List Nat} (h : Sl w 1 A n (natsV l)) (hk : k < n) :
    ∃ (b off x : Nat), A = some ⟨b, off, none⟩ ∧ b < w.heap.size ∧ w.cell? ⟨b, off + k, none⟩ = some (.int .i64 (x : Int)) ∧ l[k]? = some x := by
  have hl : l.length = n := by have := h.1; simpa [natsV] using this
  have hkl : k < l.length := by omega
  obtain ⟨b, off, u, e, hb, hu, hc⟩ := h.look hk
  rw [natsV_get l k hkl] at hu
  injection hu with hu
  subst hu
  exact ⟨b, off, l[k], e, hb, hc, List.getElem?_eq_getElem hkl⟩

theorem take_snoc_eq {a b : List Nat} {k x : Nat} (h : a.take k = b.take k) (ha : a[k]? = some x) (hb : b[k]? = some x) : a.take (k + 1) = b.take (k + 1) := by
  rw [List.take_add_one, List.take_add_one, h, ha, hb]

theorem sameB_ne {a b : List Nat} {k x y : Nat} (ha : a[k]? = some x) (hb : b[k]? = some y) (hne : ¬ x = y) : sameB a b = false := by
  unfold sameB
  rw [beq_eq_false_iff_ne]
  rintro rfl
  rw [ha] at hb
  injection hb with hb
  exact hne hb

theorem same_any (A B : Option Addr) (n c m d : Nat) (a b : List Nat) (w : World) (ha : Sl w 1 A n (natsV a)) (hb : Sl w 1 B m (natsV b)) (hn : n ≤ 1000000000) (hm : m ≤ 1000000000) :
    Calls Try.prog 12 #[.slice A n c, .slice B m d] w fun e w' => e = .returned (.bool (sameB a b)) ∧ ∃ q, w.drewN q = w' := by
  have hla : a.length = n := by have := ha.1; simpa [natsV] using this
  have hlb : b.length = m := by have := hb.1; simpa [natsV] using this
  by_cases hnm : n = m
  · subst hnm
    have HA := Lib.hid hla
    have HB := Lib.hid hlb
    clear hla hlb
    go_enter Try.func12, Try.ntmps12
    go_wp2_with fail
    go_loopw [13] (fun i wr => ∃ k q : Nat, k ≤ n ∧ i = .int .i64 k ∧ wr = w.drewN q ∧ Hid (a.take k = b.take k)) (fun i _ => n - (intOf i).toNat)
    case atStart => exact ⟨0, 0, by omega, rfl, rfl, Lib.hid rfl⟩
    case round =>
      obtain ⟨k, q, hk, rfl, rfl, H⟩ := hrel
      by_cases hlt : k < n
      · obtain ⟨b1, o1, x, rfl, _, c1, hx⟩ := natsV_look ha hlt
        obtain ⟨b2, o2, y, rfl, _, c2, hy⟩ := natsV_look hb hlt
        have HX := Lib.hid hx
        have HY := Lib.hid hy
        clear hx hy ha hb
        have hlt' : (k : Int) < (n : Int) := by omega
        go_wp2_with fail
        go_quiet (fail)
        go_wp2_with fail
        · go_ret
          have h1 : ((x : Int) != (y : Int)) = true := by assumption
          have h : ¬ (x : Int) = (y : Int) := by simpa using h1
          exact ⟨by rw [sameB_ne HX.out HY.out (by omega)]; rfl, q + nq, (World.drewN_drewN _ _ _).symm⟩
        · go_roundw
          case rel =>
            have h1 : ((x : Int) != (y : Int)) = false := by assumption
            have h : x = y := by have h2 : (x : Int) = (y : Int) := by simpa using h1
                                 omega
            subst h
            exact ⟨k + 1, _, by omega, by go_num, rfl, Lib.hid (take_snoc_eq H.out HX.out HY.out)⟩
          case measure => simp [intOf]; omega
      · have h1 := H.out
        have h2 := HA.out
        have h3 := HB.out
        rw [List.take_of_length_le (by omega), List.take_of_length_le (by omega)] at h1
        subst h1
        have hT : sameB a a = true := by simp [sameB]
        have HT := Lib.hid hT
        clear h2 h3 hT
        go_wp2_with fail
        go_ret
        exact ⟨by rw [HT.out]; rfl, _, rfl⟩
  · have hF : sameB a b = false := by
      unfold sameB
      rw [beq_eq_false_iff_ne]
      rintro rfl
      omega
    rw [hF]
    clear hla hlb hF
    go_enter Try.func12, Try.ntmps12
    go_wp2_with fail
    go_ret
    exact ⟨rfl, 0, rfl⟩
end Go.Proofs.Ytdleobdbicdmoaa
