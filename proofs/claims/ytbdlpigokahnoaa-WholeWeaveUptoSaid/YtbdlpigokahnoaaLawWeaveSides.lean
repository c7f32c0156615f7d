/- The walk of the law WeaveSides: where one side is the base the other one is the merge. -/
import Derived.Test.YtbdlpigokahnoaaWeaveUse
import Derived.Test.YtbdlpigokahnoaaWeaveFns
import Derived.Test.YtbdlpigokahnoaaLinesBulk
set_option linter.unusedVariables false
namespace Go.Proofs.Ytbdlpigokahnoaa
open Go.RowKit

theorem strB_short {l : List ByteArray} {k : Nat} (h : strB l ≤ k) (hk : k ≤ 100000000) : Short l := by
  have key : ∀ (l : List ByteArray), ∀ s ∈ l, s.size ≤ bulkL (fun s : ByteArray => s.size + 1) l := by
    intro l
    induction l with
    | nil => intro s hs; cases hs
    | cons x l ih =>
      intro s hs
      simp only [bulkL]
      rcases List.mem_cons.1 hs with rfl | hs
      · omega
      · have := ih s hs; omega
  intro s hs
  have := key l s hs
  unfold strB at h
  omega
theorem small_three {n m r : Nat} (h : n ≤ 200 ∧ m ≤ 200 ∧ r ≤ 200) : (decide (n ≤ 200) && decide (m ≤ 200) && decide (r ≤ 200)) = true := by simp [h]
theorem small_not {n m r : Nat} (h : ¬ (n ≤ 200 ∧ m ≤ 200 ∧ r ≤ 200)) : (decide (n ≤ 200) && decide (m ≤ 200) && decide (r ≤ 200)) = false := by
  rw [Bool.eq_false_iff]; intro e; simp at e; exact h ⟨e.1.1, e.1.2, e.2⟩

/-- a slice of lines as it came in -/
structure Came (w : World) (A : Option Addr) (n c : Nat) (l : List ByteArray) : Prop where
  sl : Sl w 1 A n (strV l)
  cap : n ≤ c
  max : c ≤ maxLen
  short : Short l
theorem Came.below {w w' : World} {A : Option Addr} {n c : Nat} {l : List ByteArray} (h : Came w A n c l) (hb : Below w.heap.size w w') : Came w' A n c l := ⟨h.sl.below hb, h.cap, h.max, h.short⟩
theorem mergeC_any {A B C : Option Addr} {n ca m cb r cc : Nat} {x y z : List ByteArray} {w : World} (hx : Came w A n ca x) (hy : Came w B m cb y) (hz : Came w C r cc z) (hn : n ≤ 1000) (hm : m ≤ 1000) (hr : r ≤ 1000) :
    Calls Try.prog 13 #[.slice A n ca, .slice B m cb, .slice C r cc] w (MergePost 38 w (mergeG x y z)) :=
  mergeW_any A B C n ca m cb r cc x y z w hx.sl hy.sl hz.sl hx.cap hy.cap hz.cap hx.max hy.max hz.max hn hm hr
theorem textC_any {A : Option Addr} {m cA base : Nat} {x y z : List ByteArray} {a b : ByteArray} {w w0 : World} {A1 A2 A3 : Option Addr} {n1 n2 n3 c1 c2 c3 : Nat} (hs : OwnPts w base 38 A m cA (mergeG x y z)) (hx : Came w0 A1 n1 c1 x) (hy : Came w0 A2 n2 c2 y) (hz : Came w0 A3 n3 c3 z) (h1 : n1 ≤ 1000) (h2 : n2 ≤ 1000) (h3 : n3 ≤ 1000) (ha : a.size ≤ 100000000) (hb : b.size ≤ 100000000) :
    Calls Try.prog 14 #[.slice A m cA, .string a, .string b] w (TextPost w (textG a b (mergeG x y z)) (cleanG (mergeG x y z))) :=
  textOf_any A m cA base x y z a b w hs (by rw [hx.sl.strLen]; exact h1) (by rw [hy.sl.strLen]; exact h2) (by rw [hz.sl.strLen]; exact h3) hx.short hy.short hz.short ha hb

set_option maxHeartbeats 2000000 in
theorem weaveSides_any (A : Option Addr) (ca : Nat) (a : List ByteArray) (B : Option Addr) (cb : Nat) (b : List ByteArray) (w : World) (hca : a.length ≤ ca) (hcm : ca ≤ maxLen) (ha : SlOf strR w no A a) (ba : strB a ≤ 1048576)
    (hcb : b.length ≤ cb) (hcbm : cb ≤ maxLen) (hb : SlOf strR w no B b) (bb : strB b ≤ 1048576) :
    Calls Try.prog 7 #[.slice A a.length ca, .slice B b.length cb] w fun e w' => e = .returned (.bool true) ∧ Below w.heap.size w w' := by
  have hn : a.length ≤ 1048576 := Nat.le_trans (strB_length a) ba
  have hm : b.length ≤ 1048576 := Nat.le_trans (strB_length b) bb
  have CA := Lib.hid (Came.mk ha.str hca hcm (strB_short ba (by omega)))
  have CB := Lib.hid (Came.mk hb.str hcb hcbm (strB_short bb (by omega)))
  clear ba bb ha hb hca hcb hcm hcbm
  generalize hN : a.length = n at *
  generalize hM : b.length = m at *
  clear hN hM
  go_enter Try.func7, Try.ntmps7
  go_wp2_with fail
  refine (awake8_any _).mono ?_
  rintro e w1 ⟨rfl, hb1⟩
  have HB1 := Lib.hid hb1
  clear hb1
  go_wp2_with fail
  refine (small_any A B none n m 0 ca cb 0 w1 (by omega) (by omega) (by omega)).mono ?_
  by_cases hs : n ≤ 200 ∧ m ≤ 200 ∧ 0 ≤ 200
  · rw [small_three hs]
    rintro e w' ⟨rfl, rfl⟩
    obtain ⟨hn2, hm2, -⟩ := hs
    have key : ∀ K, K < 3 → ∃ (A1 A2 A3 : Option Addr) (n1 n2 n3 c1 c2 c3 : Nat) (x y z : List ByteArray), #[Value.slice A n ca, .slice B m cb, .slice A n ca, .slice A n ca, .slice A n ca, .slice B m cb, .slice A n ca, .slice B m cb, .slice B m cb][K * 3]? = some (.slice A1 n1 c1) ∧
        #[Value.slice A n ca, .slice B m cb, .slice A n ca, .slice A n ca, .slice A n ca, .slice B m cb, .slice A n ca, .slice B m cb, .slice B m cb][K * 3 + 1]? = some (.slice A2 n2 c2) ∧ #[Value.slice A n ca, .slice B m cb, .slice A n ca, .slice A n ca, .slice A n ca, .slice B m cb, .slice A n ca, .slice B m cb, .slice B m cb][K * 3 + 2]? = some (.slice A3 n3 c3) ∧
        n1 ≤ 200 ∧ n2 ≤ 200 ∧ n3 ≤ 200 ∧ Came w A1 n1 c1 x ∧ Came w A2 n2 c2 y ∧ Came w A3 n3 c3 z ∧ textG kl kr (mergeG x y z) = b ∧ cleanG (mergeG x y z) = true := fun K hK => by
      have h3 : K = 0 ∨ K = 1 ∨ K = 2 := by omega
      rcases h3 with rfl | rfl | rfl
      · exact ⟨_, _, _, _, _, _, _, _, _, a, b, a, rfl, rfl, rfl, hn2, hm2, hn2, CA.out, CB.out, CA.out, merge_theirs_base a b kl kr⟩
      · exact ⟨_, _, _, _, _, _, _, _, _, a, a, b, rfl, rfl, rfl, hn2, hn2, hm2, CA.out, CA.out, CB.out, merge_ours_base a b kl kr⟩
      · exact ⟨_, _, _, _, _, _, _, _, _, a, b, b, rfl, rfl, rfl, hn2, hm2, hm2, CA.out, CB.out, CB.out, merge_alike a b kl kr⟩
    have KEY := Lib.hid key
    clear key
    go_wp2_with fail
    have HG := Lib.hid (show Blk (w1.alloc (.cells #[Value.slice A n ca, .slice B m cb, .slice A n ca, .slice A n ca, .slice A n ca, .slice B m cb, .slice A n ca, .slice B m cb, .slice B m cb] 54)) w1.heap.size 54 #[Value.slice A n ca, .slice B m cb, .slice A n ca, .slice A n ca, .slice A n ca, .slice B m cb, .slice A n ca, .slice B m cb, .slice B m cb] from Blk.new w1 _ _)
    have HG0 := Lib.hid (show w.heap.size ≤ w1.heap.size from HB1.out.size)
    go_loopw [31] (fun i wr => ∃ K : Nat, i = .int .i64 K ∧ K ≤ 3 ∧ Below w.heap.size w wr ∧ Hid (Blk wr w1.heap.size 54 #[Value.slice A n ca, .slice B m cb, .slice A n ca, .slice A n ca, .slice A n ca, .slice B m cb, .slice A n ca, .slice B m cb, .slice B m cb])) (fun i _ => 3 - (intOf i).toNat)
    case atStart => exact ⟨0, rfl, by omega, HB1.out.alloc HB1.out.size _, HG⟩
    case round =>
      obtain ⟨K, rfl, hK, hbr, HGr⟩ := hrel
      by_cases hlt : K < 3
      · obtain ⟨A1, A2, A3, n1, n2, n3, c1, c2, c3, x, y, z, k1, k2, k3, h1, h2, h3, C1, C2, C3, htx, hcl⟩ := KEY.out K hlt
        have q1 := (HGr.out.cell (K * 3)).trans k1
        have q2 := (HGr.out.cell (K * 3 + 1)).trans k2
        have q3 := (HGr.out.cell (K * 3 + 2)).trans k3
        have hlt' : (K : Int) < 3 := by omega
        have hbA := hbr.alloc hbr.size (.cells #[.slice A1 n1 c1, .slice A2 n2 c2, .slice A3 n3 c3] 54)
        have D1 := Lib.hid (C1.below hbA)
        have D2 := Lib.hid (C2.below hbA)
        have D3 := Lib.hid (C3.below hbA)
        have HBR := Lib.hid hbA
        have HTX := Lib.hid htx
        have HCL := Lib.hid hcl
        have HG2 := Lib.hid (HGr.out.alloc (.cells #[.slice A1 n1 c1, .slice A2 n2 c2, .slice A3 n3 c3] 54))
        clear k1 k2 k3 hbr htx hcl hbA HGr HG
        go_wp2_with fail
        refine (mergeC_any D1.out D2.out D3.out (by omega) (by omega) (by omega)).mono ?_
        rintro e w2 ⟨P, k, c, rfl, ho, hb2⟩
        have HO := Lib.hid ho
        have HB2 := Lib.hid (HBR.out.trans (hb2.mono HBR.out.size))
        have HG3 := Lib.hid (HG2.out.below hb2 HG2.out.lt)
        clear ho hb2
        go_wp2_with fail
        refine (textC_any (a := kl) (b := kr) HO.out D1.out D2.out D3.out (by omega) (by omega) (by omega) (by decide) (by decide)).mono ?_
        rw [HTX.out, HCL.out]
        rintro e w3 ⟨A4, c4, rfl, ho3, r1, r2, r3, hb3⟩
        have HB3 := Lib.hid (HB2.out.trans (hb3.mono HB2.out.size))
        have HG4 := Lib.hid (HG3.out.below hb3 HG3.out.lt)
        have HS := Lib.hid (Sl.ofOwn ho3)
        have hbl : b.length = m := CB.out.sl.strLen
        rw [hbl] at HS r1
        rw [hbl]
        clear ho3 hb3 hbl
        go_wp2_with fail
        refine (refSame_any A4 B m c4 m cb b b _ HS.out (CB.out.below HB3.out).sl (by omega) (by omega)).mono ?_
        rintro e w4 ⟨rfl, s4⟩
        rw [sameS_self]
        go_wp2_with fail
        go_roundw
        case rel => exact ⟨K + 1, by go_num, by omega, HB3.out.trans (s4.below _), Lib.hid (HG4.out.same s4)⟩
        case measure => simp [intOf]; omega
      · obtain rfl : K = 3 := by omega
        go_wp2_with fail
        go_ret
        exact ⟨rfl, hbr⟩
  · rw [small_not hs]
    rintro e w' ⟨rfl, rfl⟩
    clear hs
    go_wp2_with fail
    go_ret
    exact ⟨rfl, HB1.out⟩
end Go.Proofs.Ytbdlpigokahnoaa
