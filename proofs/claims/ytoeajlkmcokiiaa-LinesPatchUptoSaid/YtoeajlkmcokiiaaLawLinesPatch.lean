/- The walk of the law LinesPatch: what raw hunks make of a raw list is the document's answer. -/
import Derived.Test.YtoeajlkmcokiiaaLinesAwake
import Derived.Test.YtoeajlkmcokiiaaLinesRefPatch
import Derived.Test.YtoeajlkmcokiiaaLinesPlainFn
import Derived.Test.YtoeajlkmcokiiaaOpenRd
set_option linter.unusedVariables false
namespace Go.Proofs.Ytoeajlkmcokiiaa
open Go.RowKit

def strB (l : List ByteArray) : Nat := bulkL (fun s : ByteArray => s.size + 1) l + 1
theorem bulkL_length {α : Type} (b : α → Nat) (h : ∀ x, 1 ≤ b x) : ∀ l : List α, l.length ≤ bulkL b l
  | [] => Nat.zero_le _
  | x :: l => by have h1 := h x; have h2 := bulkL_length b h l; simp only [bulkL, List.length_cons]; omega
theorem strB_length (l : List ByteArray) : l.length ≤ strB l := by
  have := bulkL_length (fun s : ByteArray => s.size + 1) (fun s => by omega) l
  unfold strB; omega
def hkB (l : List Hk) : Nat := bulkL (fun x : Hk => 1 + (strB x.2.1 + strB x.2.2) + 1) l + 1
theorem hkB_length (l : List Hk) : l.length ≤ hkB l := by
  have := bulkL_length (fun x : Hk => 1 + (strB x.2.1 + strB x.2.2) + 1) (fun s => by omega) l
  unfold hkB; omega
theorem hkB_new (l : List Hk) : newSum l ≤ hkB l := by
  have : ∀ l : List Hk, newSum l ≤ bulkL (fun x : Hk => 1 + (strB x.2.1 + strB x.2.2) + 1) l := by
    intro l
    induction l with
    | nil => exact Nat.zero_le _
    | cons x l ih =>
      have := strB_length x.2.2
      simp only [newSum, List.map_cons, List.sum_cons, bulkL] at *
      omega
  have := this l
  unfold hkB; omega

set_option maxHeartbeats 1000000 in
theorem linesPatch_any (A : Option Addr) (ca : Nat) (a : List ByteArray) (B : Option Addr) (cb : Nat) (hs : List Hk) (w : World) (hca : a.length ≤ ca) (hcm : ca ≤ maxLen) (ha : SlOf strR w none A a) (ba : strB a ≤ 1048576)
    (hcb : hs.length ≤ cb) (hcbm : cb ≤ maxLen) (hb : SlOf hkR w none B hs) (bb : hkB hs ≤ 1048576) :
    Calls Try.prog 4 #[.slice A a.length ca, .slice B hs.length cb] w fun e w' => e = .returned (.bool true) ∧ Below w.heap.size w w' := by
  have hn : a.length ≤ 1048576 := Nat.le_trans (strB_length a) ba
  have hm : hs.length ≤ 1048576 := Nat.le_trans (hkB_length hs) bb
  have hsum : newSum hs ≤ 1048576 := Nat.le_trans (hkB_new hs) bb
  have ha := ha.str
  clear ba bb
  generalize hN : a.length = n at *
  generalize hM : hs.length = m at *
  have HM := Lib.hid hM
  clear hN hM
  go_enter Try.func4, Try.ntmps4
  go_wp2_with fail
  refine (awake_any _).mono ?_
  rintro e w1 ⟨rfl, hb1⟩
  have ha1 := ha.below hb1
  have hbb1 := hb.below hb1
  go_wp2_with fail
  refine (patch_any A B n ca m cb a hs _ ha1 hca hcm hbb1 HM.out hn hm hsum).mono ?_
  rintro e w2 hp
  have hb2 : Below w1.heap.size w1 w2 := by rcases hp with ⟨_, _, h⟩ | ⟨_, _, _, _, _, _, _, _, _, h⟩ <;> exact h
  have hb02 := hb1.trans (hb2.mono hb1.size)
  have ha2 := ha1.below hb2
  have hbb2 := hbb1.below hb2
  clear ha1 hbb1 hb1 hb2 ha hb
  rcases hp with ⟨hr, rfl, _⟩ | ⟨l, Al, cl, hr, rfl, hol, hcl, hclm, hll, _⟩
  · have HR := Lib.hid hr
    clear hr
    go_wp2_with fail
    refine (plain_any B m cb hs _ hbb2 HM.out (by omega)).mono ?_
    rintro e w3 ⟨Ap, cp, rfl, hcp, hcpm, hpl, hb3⟩
    have ha3 := ha2.below hb3
    have hb03 := hb02.trans (hb3.mono hb02.size)
    rw [HM.out]
    clear hb3 hb02
    go_wp2_with fail
    refine (refPatch_any A Ap n ca m cp a hs _ ha3 hca hcm hpl HM.out hn hm hsum).mono ?_
    rintro e w4 hq
    rcases hq with ⟨hr', rfl, hb4⟩ | ⟨l', _, _, hr', _⟩
    · have hb04 := Lib.hid (hb03.trans (hb4.mono hb03.size))
      clear hr' hb4 hb03
      go_wp2_with fail
      refine (refSame_any none none 0 0 0 0 [] [] _ Sl.nil Sl.nil (by omega) (by omega)).mono ?_
      rintro e w5 ⟨rfl, hs5⟩
      rw [sameS_self]
      have hb05 := Lib.hid (hb04.out.trans (hs5.below _))
      go_wp2_with fail
      go_ret
      exact ⟨rfl, hb05.out⟩
    · rw [HR.out] at hr'; cases hr'
  · have HR := Lib.hid hr
    have hl2 := Sl.ofOwn hol
    clear hr hol
    go_wp2_with fail
    refine (plain_any B m cb hs _ hbb2 HM.out (by omega)).mono ?_
    rintro e w3 ⟨Ap, cp, rfl, hcp, hcpm, hpl, hb3⟩
    have ha3 := ha2.below hb3
    have hl3 := hl2.below hb3
    have hb03 := hb02.trans (hb3.mono hb02.size)
    rw [HM.out]
    clear hb3 hb02 hl2
    go_wp2_with fail
    refine (refPatch_any A Ap n ca m cp a hs _ ha3 hca hcm hpl HM.out hn hm hsum).mono ?_
    rintro e w4 hq
    rcases hq with ⟨hr', _⟩ | ⟨l', Aq, cq, hr', rfl, hoq, hcq, hcqm, hllq, hb4⟩
    · rw [HR.out] at hr'; cases hr'
    · rw [HR.out] at hr'
      injection hr' with hr'
      subst hr'
      have hl4 := hl3.below hb4
      have hq4 := Sl.ofOwn hoq
      have hb04 := Lib.hid (hb03.trans (hb4.mono hb03.size))
      clear hb4 hb03 hoq hl3
      go_wp2_with fail
      refine (refSame_any Al Aq l.length cl l.length cq l l _ hl4 hq4 (by omega) (by omega)).mono ?_
      rintro e w5 ⟨rfl, hs5⟩
      rw [sameS_self]
      have hb05 := Lib.hid (hb04.out.trans (hs5.below _))
      go_wp2_with fail
      go_ret
      exact ⟨rfl, hb05.out⟩
end Go.Proofs.Ytoeajlkmcokiiaa
