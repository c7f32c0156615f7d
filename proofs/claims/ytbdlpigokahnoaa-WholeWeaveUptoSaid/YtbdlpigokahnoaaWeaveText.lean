/- closed and Text of package weave and its document. -/
import Derived.Test.YtbdlpigokahnoaaWeavePlain
import Derived.Test.YtbdlpigokahnoaaLinesStr
import Derived.Lib.IndexBytes
import Derived.Laws.Concat
import Derived.BigQuiet
set_option linter.unusedVariables false
namespace Go.Proofs.Ytbdlpigokahnoaa
open Go.RowKit
attribute [local go_sem ↓] cutA_eq

theorem own_set {w : World} {base : Nat} {e : TypeId} {g n c k sz : Nat} {xs : List Value} (h : w.ownsRow base e sz (.slice (some ⟨g, 0, none⟩) n c) n xs) (hk : k < n * sz) (u : Value) :
    (w.setCell ⟨g, k, none⟩ u).ownsRow base e sz (.slice (some ⟨g, 0, none⟩) n c) n (xs.set k u) := by
  obtain ⟨hl, h2⟩ := h
  refine ⟨by simpa using hl, .inr ?_⟩
  rcases h2 with ⟨hv, _⟩ | ⟨g', cap, cur, hv, hb, hg, hnc, hm, hsz, ht⟩
  · cases hv
  · injection hv with h1 h2 h3
    injection h1 with h1
    injection h1 with h1
    subst h1 h3
    refine ⟨g, c, cur.setIfInBounds k u, rfl, hb, ?_, hnc, hm, by simpa using hsz, ?_⟩
    · simp [World.setCell, Array.getElem?_modify, hg]
    · rw [Array.toList_setIfInBounds, List.take_set, ht]

theorem endsNl_snoc (l : List UInt8) (x : UInt8) : endsNl ⟨(l ++ [x]).toArray⟩ = (x == 10) := by
  simp [endsNl]

theorem bytes_cases (s : ByteArray) : s.size = 0 ∨ ∃ (l : List UInt8) (x : UInt8), s = ⟨(l ++ [x]).toArray⟩ ∧ s.size = l.length + 1 := by
  obtain ⟨⟨l⟩⟩ := s
  rcases List.eq_nil_or_concat l with h | ⟨init, x, h⟩
  · left; subst h; rfl
  · right
    refine ⟨init, x, by rw [h, List.concat_eq_append], ?_⟩
    rw [h]
    simp [ByteArray.size]

theorem hasNl_any (s : ByteArray) (w : World) (hs : s.size ≤ 1000000000) : Calls Try.prog 43 #[.string s, .string ⟨#[10]⟩] w fun e w' => e = .returned (.bool (endsNl s)) ∧ w = w' := by
  have key : Calls Try.prog 48 #[.string s, .string ⟨#[10]⟩] w fun e w' => e = .returned (.bool (endsNl s)) ∧ w = w' := by
    rcases bytes_cases s with h0 | ⟨l, x, rfl, hsz⟩
    · have he : endsNl s = false := by
        obtain ⟨⟨l⟩⟩ := s
        have : l = [] := List.eq_nil_of_length_eq_zero h0
        subst this; rfl
      rw [he]
      have d1 : decide (1 ≤ s.size) = false := by rw [h0]; rfl
      have d2 : decide ((1 : Int) ≤ (s.size : Int)) = false := by rw [h0]; rfl
      clear h0 he
      go_enter Try.func48, Try.ntmps48
      go_wp2_with fail
      go_ret
      exact ⟨rfl, rfl⟩
    · have hx : ((⟨(l ++ [x]).toArray⟩ : ByteArray).extract l.length (l.length + 1)).toList = [x] := by
        rw [ByteArray.toList_eq]
        simp [ByteArray.extract, ByteArray.copySlice]
      rw [endsNl_snoc]
      generalize hq : (⟨(l ++ [x]).toArray⟩ : ByteArray) = q at *
      generalize l.length = k at *
      have d1 : decide (1 ≤ q.size) = true := by rw [hsz]; simp
      have d2 : decide ((1 : Int) ≤ (q.size : Int)) = true := by rw [hsz]; simp; omega
      have d3 : ((q.size : Int) - 1).toNat = k := by omega
      have d4 : (0 : Int) ≤ (q.size : Int) - 1 := by omega
      clear hq
      by_cases h10 : x = 10
      · subst h10
        go_enter Try.func48, Try.ntmps48
        go_wp2_with fail
        go_ret
        exact ⟨rfl, rfl⟩
      · have hf : (x == 10) = false := by simpa using h10
        rw [hf]
        go_enter Try.func48, Try.ntmps48
        go_wp2_with fail
        go_ret
        exact ⟨rfl, rfl⟩
  have K := Lib.hid key
  clear key
  go_enter Try.func43, Try.ntmps43
  go_wp2_with fail
  refine K.out.mono ?_
  rintro e w' ⟨rfl, rfl⟩
  go_wp2_with fail
  go_ret
  exact ⟨rfl, rfl⟩

theorem own_frozen {w : World} {base : Nat} {e : TypeId} {sz g n c : Nat} {xs : List Value} (h : w.ownsRow base e sz (.slice (some ⟨g, 0, none⟩) n c) n xs) (i : Nat) : w.frozen? ⟨g, i, none⟩ = false := by
  rcases h.2 with ⟨hv, _⟩ | ⟨g', cap, cur, hv, hb, hg, _⟩
  · cases hv
  · injection hv with h1
    injection h1 with h1
    injection h1 with h1
    subst h1
    simp [World.frozen?, hg]

theorem snocB_cases (l : List ByteArray) : l = [] ∨ ∃ init x, l = init ++ [x] := by
  rcases List.eq_nil_or_concat l with h | ⟨init, x, h⟩
  · exact .inl h
  · exact .inr ⟨init, x, by rw [h, List.concat_eq_append]⟩
theorem closedG_open {l : List ByteArray} {x : ByteArray} (h : endsNl x = false) : closedG (l ++ [x]) = l ++ [x ++ nl] := by
  unfold closedG; simp [h]
theorem closedG_done {l : List ByteArray} {x : ByteArray} (h : endsNl x = true) : closedG (l ++ [x]) = l ++ [x] := by
  unfold closedG; simp [h]
theorem strV_set (l : List ByteArray) (x y : ByteArray) : (strV (l ++ [x])).set l.length (.string y) = strV (l ++ [y]) := by
  simp [strV]

theorem closed_any (A : Option Addr) (n c : Nat) (l : List ByteArray) (w : World) (hs : Sl w 1 A n (strV l)) (hn : n ≤ 100000000) (hb : ∀ s ∈ l, s.size ≤ 100000000) :
    Calls Try.prog 31 #[.slice A n c] w (StrsPost w (closedG l)) := by
  have hc := clone_any A n c l w hs (by omega)
  have hl := hs.strLen
  have HC := Lib.hid hc
  clear hc hs
  rcases snocB_cases l with rfl | ⟨l, x, rfl⟩
  · subst hl
    go_enter Try.func31, Try.ntmps31
    go_wp2_with fail
    refine HC.out.mono ?_
    rintro e w1 ⟨A1, c1, rfl, ho, h1, h2, hb1⟩
    have HO := Lib.hid ho
    clear ho
    go_wp2_with fail
    go_ret
    exact ⟨A1, c1, rfl, HO.out, h1, h2, hb1⟩
  · have hx : x.size ≤ 100000000 := hb x (by simp)
    have hN := fun W => hasNl_any x W (by omega)
    have hcl : (l ++ [x]).length = l.length + 1 := by simp
    obtain ⟨r, hr⟩ : ∃ r, r = l ++ [x] := ⟨_, rfl⟩
    rw [← hr] at HC hcl hl
    rw [← hr]
    have hln : n = l.length + 1 := by omega
    subst hln
    generalize hk : l.length = k at *
    have HCL := Lib.hid hcl
    have HN := Lib.hid hN
    have HR := Lib.hid hr
    have HK := Lib.hid hk
    clear hN hb hr
    go_enter Try.func31, Try.ntmps31
    go_wp2_with fail
    refine HC.out.mono ?_
    rintro e w1 ⟨A1, c1, rfl, ho, h1, h2, hb1⟩
    rw [hcl] at *
    obtain ⟨g, rfl, hg1, hg2⟩ := own_at ho (by omega)
    have hcell : w1.cell? ⟨g, k, none⟩ = some (.string x) := by
      obtain ⟨b, off, e, _, hc⟩ := (Sl.ofOwn ho).2 (by omega)
      injection e with e
      injection e with e1 e2
      subst e1 e2
      have := hc k (.string x) (by rw [HR.out, ← HK.out]; simp [strV])
      rwa [Nat.zero_add] at this
    have hfr := own_frozen ho k
    have HO := Lib.hid ho
    have HB := Lib.hid hb1
    clear ho hb1 hcl
    have hk1 : IntKind.i64.wrap ((k : Int) + 1 - 1) = (k : Int) := by rw [IntWalk.i64_in _ (by omega)]; omega
    have d1 : decide ((0 : Int) < (k : Int) + 1) = true := by rw [decide_eq_true_iff]; omega
    have d1' : decide (0 < k + 1) = true := by rw [decide_eq_true_iff]; omega
    have hk2 : (k : Int) + 1 ≤ c1 := by omega
    cases he : endsNl x
    · have HE := Lib.hid he
      have hcl2 : Hid (closedG r = l ++ [x ++ nl]) := Lib.hid (by rw [HR.out]; exact closedG_open he)
      have hset : Hid ((strV r).set k (.string (x ++ nl)) = strV (l ++ [x ++ nl])) := Lib.hid (by rw [HR.out, ← HK.out]; exact strV_set _ _ _)
      clear he
      go_wp2_with fail
      refine (HN.out _).mono ?_
      rintro e w2 ⟨rfl, rfl⟩
      rw [HE.out]
      go_wp2_with fail
      go_ret
      have hlen : (l ++ [x ++ nl]).length = k + 1 := by rw [List.length_append, HK.out]; rfl
      refine ⟨some ⟨g, 0, none⟩, c1, ?_, ?_, ?_, h2, ?_⟩
      · rw [hcl2.out, hlen]; rfl
      · rw [hcl2.out, hlen]
        have := own_set HO.out (show k < (k + 1) * 1 by omega) (.string (x ++ nl))
        rw [hset.out] at this
        exact this
      · rw [hcl2.out, hlen]; exact h1
      · exact HB.out.setCell hg1 _
    · have HE := Lib.hid he
      have hcl2 : Hid (closedG r = l ++ [x]) := Lib.hid (by rw [HR.out]; exact closedG_done he)
      clear he
      go_wp2_with fail
      refine (HN.out _).mono ?_
      rintro e w2 ⟨rfl, rfl⟩
      rw [HE.out]
      go_wp2_with fail
      go_ret
      have hlen : (l ++ [x]).length = k + 1 := by rw [List.length_append, HK.out]; rfl
      refine ⟨some ⟨g, 0, none⟩, c1, ?_, ?_, ?_, h2, HB.out⟩
      · rw [hcl2.out, hlen]; rfl
      · rw [hcl2.out, hlen, ← HR.out]
        exact HO.out
      · rw [hcl2.out, hlen]; exact h1

set_option maxRecDepth 100000 in
theorem refClosed_any (A : Option Addr) (n c : Nat) (l : List ByteArray) (w : World) (hs : Sl w 1 A n (strV l)) (hn : n ≤ 100000000) (hb : ∀ s ∈ l, s.size ≤ 100000000) :
    Calls Try.prog 39 #[.slice A n c] w (StrsPost w (closedG l)) := by
  have hl := hs.strLen
  have hw := own_made w 9 1 (Nat.le_refl w.heap.size)
  obtain ⟨A1, c1, w1, hrun, hap, h1, h2⟩ := append_sl (P := Try.prog) elemStr hw (hs.alloc _) (strV_one l) (by omega) (by simp only [maxLen]; omega) (by simp) 23 c
  rw [Nat.zero_add] at hrun hap h1
  have hb1 : Below w.heap.size w w1 := ((Below.refl _ _).alloc (Nat.le_refl _) _).trans hap.below
  have ho := hap.own
  rw [List.nil_append] at ho
  clear hap hw hs
  rcases snocB_cases l with rfl | ⟨l, x, rfl⟩
  · subst hl
    have HO := Lib.hid ho
    have HB := Lib.hid hb1
    clear ho hb1
    have d1 : decide ((0 : Int) < ((List.length ([] : List ByteArray) : Nat) : Int)) = false := by simp
    go_enter Try.func39, Try.ntmps39
    go_wp2_with (at_builtin; refine wpList_run_append hrun ?_ ?_ ?_; exact rfl; exact rfl)
    go_quiet (fail)
    go_wp2_with fail
    go_ret
    exact ⟨A1, c1, rfl, HO.out, h1, h2, below_drewN HB.out _⟩
  · have hx : x.size ≤ 100000000 := hb x (by simp)
    have hcl : (l ++ [x]).length = l.length + 1 := by simp
    obtain ⟨r, hr⟩ : ∃ r, r = l ++ [x] := ⟨_, rfl⟩
    rw [← hr] at hcl hl ho
    rw [← hr]
    have hln : n = l.length + 1 := by omega
    subst hln
    generalize hk : l.length = k at *
    obtain ⟨g, rfl, hg1, hg2⟩ := own_at ho (by omega)
    have hcell : w1.cell? ⟨g, k, none⟩ = some (.string x) := by
      obtain ⟨b, off, e, _, hc⟩ := (Sl.ofOwn ho).2 (by omega)
      injection e with e
      injection e with e1 e2
      subst e1 e2
      have := hc k (.string x) (by rw [hr, ← hk]; simp [strV])
      rwa [Nat.zero_add] at this
    have hfr := own_frozen ho k
    have HR := Lib.hid hr
    have HK := Lib.hid hk
    have HO := Lib.hid ho
    have HB := Lib.hid hb1
    clear ho hb1 hcl hb hr hk hl
    have hk3 : IntKind.i64.wrap (k : Int) = (k : Int) := IntWalk.i64_in _ (by omega)
    have hk1 : IntKind.i64.wrap ((k : Int) + 1 - 1) = (k : Int) := by rw [IntWalk.i64_in _ (by omega)]; omega
    have d1 : decide ((0 : Int) < (k : Int) + 1) = true := by rw [decide_eq_true_iff]; omega
    have d1' : decide (0 < k + 1) = true := by rw [decide_eq_true_iff]; omega
    have hk2 : (k : Int) + 1 ≤ c1 := by omega
    rcases bytes_cases x with h0 | ⟨xs, y, rfl, hsz⟩
    · have hx0 : x = ⟨#[]⟩ := by
        obtain ⟨⟨xs⟩⟩ := x
        have : xs = [] := List.eq_nil_of_length_eq_zero h0
        subst this; rfl
      subst hx0
      have hcl2 : Hid (closedG r = l ++ [⟨#[]⟩ ++ nl]) := Lib.hid (by rw [HR.out]; exact closedG_open rfl)
      have hset : Hid ((strV r).set k (.string (⟨#[]⟩ ++ nl)) = strV (l ++ [⟨#[]⟩ ++ nl])) := Lib.hid (by rw [HR.out, ← HK.out]; exact strV_set _ _ _)
      go_enter Try.func39, Try.ntmps39
      go_wp2_with (at_builtin; refine wpList_run_append hrun ?_ ?_ ?_; exact rfl; exact rfl)
      go_quiet (fail)
      go_wp2_with fail
      go_ret
      have hlen : (l ++ [(⟨#[]⟩ : ByteArray) ++ nl]).length = k + 1 := by rw [List.length_append, HK.out]; rfl
      refine ⟨some ⟨g, 0, none⟩, c1, ?_, ?_, ?_, h2, ?_⟩
      · rw [hcl2.out, hlen]; rfl
      · rw [hcl2.out, hlen]
        have := own_set ((Same.refl w1).drewN nq |>.own HO.out) (show k < (k + 1) * 1 by omega) (.string ((⟨#[]⟩ : ByteArray) ++ nl))
        rw [hset.out] at this
        exact this
      · rw [hcl2.out, hlen]; exact h1
      · exact (below_drewN HB.out _).setCell hg1 _
    · have hgx : ∀ h : xs.length < (⟨(xs ++ [y]).toArray⟩ : ByteArray).size, (⟨(xs ++ [y]).toArray⟩ : ByteArray)[xs.length] = y := by
        intro h
        show (xs ++ [y]).toArray[xs.length]'_ = y
        simp
      have hE := endsNl_snoc xs y
      generalize hq : (⟨(xs ++ [y]).toArray⟩ : ByteArray) = q at *
      generalize xs.length = m at *
      have hs1 : IntKind.i64.wrap ((q.size : Int) - 1) = (m : Int) := by rw [IntWalk.i64_in _ (by omega)]; omega
      have hne : q ≠ ⟨#[]⟩ := by rintro rfl; rw [show (⟨#[]⟩ : ByteArray).size = 0 from rfl] at hsz; omega
      have hne' : q.toList.isEmpty = false := by
        rw [ByteArray.toList_eq]
        cases h : q.data.toList with
        | nil => have : q.size = 0 := by show q.data.size = 0; rw [← Array.length_toList, h]; rfl
                 omega
        | cons a l => rfl
      have hm : m < q.size := by omega
      have hgq := hgx hm
      have HE := Lib.hid hE
      clear hq hE hgx
      by_cases h10 : y = 10
      · subst h10
        have he : endsNl q = true := HE.out
        have hcl2 : Hid (closedG r = l ++ [q]) := Lib.hid (by rw [HR.out]; exact closedG_done he)
        clear he
        go_enter Try.func39, Try.ntmps39
        go_wp2_with (at_builtin; refine wpList_run_append hrun ?_ ?_ ?_; exact rfl; exact rfl)
        go_quiet (fail)
        go_wp2_with fail
        go_ret
        have hlen : (l ++ [q]).length = k + 1 := by rw [List.length_append, HK.out]; rfl
        refine ⟨some ⟨g, 0, none⟩, c1, ?_, ?_, ?_, h2, below_drewN HB.out _⟩
        · rw [hcl2.out, hlen]; rfl
        · rw [hcl2.out, hlen, ← HR.out]
          exact (Same.refl w1).drewN nq |>.own HO.out
        · rw [hcl2.out, hlen]; exact h1
      · have hf : (y == 10) = false := by simpa using h10
        have he : endsNl q = false := by rw [HE.out]; exact hf
        have hcl2 : Hid (closedG r = l ++ [q ++ nl]) := Lib.hid (by rw [HR.out]; exact closedG_open he)
        have hset : Hid ((strV r).set k (.string (q ++ nl)) = strV (l ++ [q ++ nl])) := Lib.hid (by rw [HR.out, ← HK.out]; exact strV_set _ _ _)
        have hy : ((y.toNat : Int) != 10) = true := by
          rw [bne_iff_ne]; intro e
          exact h10 (UInt8.toNat_inj.1 (by have : (10 : UInt8).toNat = 10 := rfl; omega))
        clear he
        go_enter Try.func39, Try.ntmps39
        go_wp2_with (at_builtin; refine wpList_run_append hrun ?_ ?_ ?_; exact rfl; exact rfl)
        go_quiet (fail)
        go_wp2_with fail
        go_ret
        have hlen : (l ++ [q ++ nl]).length = k + 1 := by rw [List.length_append, HK.out]; rfl
        refine ⟨some ⟨g, 0, none⟩, c1, ?_, ?_, ?_, h2, ?_⟩
        · rw [hcl2.out, hlen]; rfl
        · rw [hcl2.out, hlen]
          have := own_set ((Same.refl w1).drewN nq |>.own HO.out) (show k < (k + 1) * 1 by omega) (.string (q ++ nl))
          rw [hset.out] at this
          exact this
        · rw [hcl2.out, hlen]; exact h1
        · exact (below_drewN HB.out _).setCell hg1 _
end Go.Proofs.Ytbdlpigokahnoaa
