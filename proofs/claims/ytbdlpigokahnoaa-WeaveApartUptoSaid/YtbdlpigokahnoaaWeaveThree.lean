/- three: a line with lines ahead and behind. -/
import Derived.Test.YtbdlpigokahnoaaWeaveText
set_option linter.unusedVariables false
namespace Go.Proofs.Ytbdlpigokahnoaa
open Go.RowKit

set_option maxRecDepth 100000 in
set_option maxHeartbeats 1000000 in
theorem three_any (A B : Option Addr) (n ca m cb : Nat) (a b : List ByteArray) (s : ByteArray) (w : World) (ha : Sl w 1 A n (strV a)) (hb : Sl w 1 B m (strV b)) (hn : n ≤ 100000000) (hm : m ≤ 100000000) :
    Calls Try.prog 27 #[.slice A n ca, .string s, .slice B m cb] w (StrsPost w (a ++ s :: b)) := by
  have hla := ha.strLen
  have hlb := hb.strLen
  have hw := own_made w 9 1 (Nat.le_refl w.heap.size)
  obtain ⟨A1, c1, w1, hrun1, hap1, h1, h2⟩ := append_sl (P := Try.prog) elemStr hw (ha.alloc _) (strV_one a) (by omega) (by simp only [maxLen]; omega) (by simp) 23 ca
  rw [Nat.zero_add] at hrun1 hap1 h1
  have hb1 : Below w.heap.size w w1 := ((Below.refl _ _).alloc (Nat.le_refl _) _).trans hap1.below
  have ho1 := hap1.own
  rw [List.nil_append] at ho1
  have hx : Below w1.heap.size w1 (w1.alloc (.cells #[.string s] 9)) := (Below.refl _ _).alloc (Nat.le_refl _) _
  obtain ⟨A2, c2, w2, hrun2, hap2, h3, h4⟩ := append_sl (P := Try.prog) elemStr (own_below ho1 hx) (Sl.one w1 (.string s) 9) (strV_one [s]) (by omega) (by simp only [maxLen]; omega) (by simp; have := hb1.size; omega) 23 1
  have hb2 : Below w.heap.size w w2 := hb1.trans ((hx.mono hb1.size).trans hap2.below)
  obtain ⟨A3, c3, w3, hrun3, hap3, h5, h6⟩ := append_sl (P := Try.prog) elemStr hap2.own (hb.below hb2) (strV_one b) (by omega) (by simp only [maxLen]; omega) hb2.size 23 cb
  have HB3 := Lib.hid (hb2.trans hap3.below)
  have hr : (a ++ s :: b).length = n + 1 + m := by simp; omega
  have hv : strV a ++ [Value.string s] ++ strV b = strV (a ++ s :: b) := by simp [strV]
  have ho3 := hap3.own
  rw [hv] at ho3
  have HO := Lib.hid ho3
  have HR := Lib.hid hr
  clear hw ha hb hap1 hap2 hap3 ho1 hx hb1 hb2 ho3 hv hr hla hlb
  go_enter Try.func27, Try.ntmps27
  go_wp2_with (first | (at_builtin; refine wpList_run_append hrun1 ?_ ?_ ?_; exact rfl; exact rfl) | (at_builtin; refine wpList_run_append hrun2 ?_ ?_ ?_; exact rfl; exact rfl) | (at_builtin; refine wpList_run_append hrun3 ?_ ?_ ?_; exact rfl; exact rfl))
  go_ret
  exact ⟨A3, c3, by rw [HR.out]; rfl, by rw [HR.out]; exact HO.out, by rw [HR.out]; exact h5, h6, HB3.out⟩
end Go.Proofs.Ytbdlpigokahnoaa
