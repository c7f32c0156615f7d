/- gear.Split: the chunks of some bytes, each in new memory of its own. -/
import Derived.Test.YtknbbekinpamjaaBytesList
import Derived.Test.YtknbbekinpamjaaGearWalks
import Derived.Test.YtknbbekinpamjaaGearLaws
set_option linter.unusedVariables false
namespace Go.Proofs.Ytknbbekinpamjaa
open Go.RowKit

/-- bytes cut into pieces of these lengths -/
def chunksOf : List Nat → List UInt8 → List (List UInt8)
  | [], _ => []
  | n :: r, b => b.take n :: chunksOf r (b.drop n)

theorem chunksOf_length : ∀ (D : List Nat) (l : List UInt8), (chunksOf D l).length = D.length
  | [], _ => rfl
  | _ :: r, l => by simp [chunksOf, chunksOf_length r]

theorem chunksOf_flat : ∀ (D : List Nat) (l : List UInt8), D.sum = l.length → (chunksOf D l).flatten = l
  | [], l, h => by
    have : l = [] := List.eq_nil_of_length_eq_zero (by simpa using h.symm)
    subst this; rfl
  | n :: r, l, h => by
    simp only [List.sum_cons] at h
    simp only [chunksOf, List.flatten_cons]
    rw [chunksOf_flat r (l.drop n) (by rw [List.length_drop]; omega), List.take_append_drop]

/-- Values that own rows of bytes, one by one, each its own. -/
structure OwnEach (w : World) (base : Nat) (E : TypeId) (vs : List Value) (ls : List (List UInt8)) : Prop where
  len : vs.length = ls.length
  own : ∀ (i : Nat) (v : Value) (l : List UInt8), vs[i]? = some v → ls[i]? = some l → w.ownsRow base E 1 v l.length (bytesV l)
  apart : ∀ (i j : Nat) (v u : Value), i < j → vs[i]? = some v → vs[j]? = some u → v.ownBlock = none ∨ v.ownBlock ≠ u.ownBlock

theorem own_ne {w : World} {b1 b2 : Nat} {e1 e2 : TypeId} {s1 s2 n1 n2 : Nat} {v1 v2 : Value} {x1 x2 : List Value} (h1 : w.ownsRow b1 e1 s1 v1 n1 x1) (h2 : w.ownsRow b2 e2 s2 v2 n2 x2) (hne : e1 ≠ e2) : v1.ownBlock = none ∨ v1.ownBlock ≠ v2.ownBlock := by
  rcases h1.2 with ⟨rfl, _⟩ | ⟨g, _, _, rfl, _, hg, _⟩
  · exact .inl rfl
  · right
    rcases h2.2 with ⟨rfl, _⟩ | ⟨g', _, _, rfl, _, hg', _⟩
    · simp [Value.ownBlock]
    · simp only [Value.ownBlock]
      intro e
      injection e with e
      subst e
      rw [hg] at hg'
      injection hg' with hg'
      injection hg' with _ ht
      exact hne ht

namespace OwnEach
variable {w w' : World} {base : Nat} {E : TypeId} {vs : List Value} {ls : List (List UInt8)}

theorem nil (w : World) (base : Nat) (E : TypeId) : OwnEach w base E [] [] := ⟨rfl, fun i v l hv _ => by simp at hv, fun i j v u _ hv _ => by simp at hv⟩

theorem below (h : OwnEach w base E vs ls) (hb : Below w.heap.size w w') : OwnEach w' base E vs ls :=
  ⟨h.len, fun i v l hv hl => own_below (h.own i v l hv hl) hb, h.apart⟩

theorem kept {row : Option Nat} (h : OwnEach w base E vs ls) (hg : w.grownBy w' row) (hr : ∀ (i : Nat) (v : Value), vs[i]? = some v → v.ownBlock = none ∨ v.ownBlock ≠ row) : OwnEach w' base E vs ls :=
  ⟨h.len, fun i v l hv hl => (h.own i v l hv hl).kept hg (hr i v hv), h.apart⟩

theorem mono {b : Nat} (h : OwnEach w base E vs ls) (hb : b ≤ base) : OwnEach w b E vs ls := ⟨h.len, fun i v l hv hl => own_mono (h.own i v l hv hl) hb, h.apart⟩

theorem get (h : OwnEach w base E vs ls) {i : Nat} {v : Value} (hv : vs[i]? = some v) : ∃ l, ls[i]? = some l ∧ w.ownsRow base E 1 v l.length (bytesV l) := by
  have hi := (List.getElem?_eq_some_iff.1 hv).1
  have hi' : i < ls.length := by rw [← h.len]; exact hi
  exact ⟨ls[i], List.getElem?_eq_getElem hi', h.own i v _ hv (List.getElem?_eq_getElem hi')⟩

theorem snoc {v : Value} {l : List UInt8} {b : Nat} (h : OwnEach w base E vs ls) (hv : w.ownsRow b E 1 v l.length (bytesV l)) (hb : base ≤ b) (hold : ∀ (i : Nat) (u : Value) (k : Nat), vs[i]? = some u → u.ownBlock = some k → k < b) : OwnEach w base E (vs ++ [v]) (ls ++ [l]) := by
  have hlast : ∀ {i : Nat} {u : Value}, (vs ++ [v])[i]? = some u → (i < vs.length ∧ vs[i]? = some u) ∨ (i = vs.length ∧ u = v) := by
    intro i u hu
    rcases Nat.lt_or_ge i vs.length with hi | hi
    · rw [List.getElem?_append_left hi] at hu
      exact .inl ⟨hi, hu⟩
    · rw [List.getElem?_append_right hi] at hu
      rcases Nat.eq_zero_or_pos (i - vs.length) with h0 | h0
      · rw [h0] at hu
        simp at hu
        exact .inr ⟨by omega, hu.symm⟩
      · rw [List.getElem?_eq_none (by simp; omega)] at hu
        cases hu
  refine ⟨by simp [h.len], fun i u k hu hk => ?_, fun i j u x hij hu hx => ?_⟩
  · rcases hlast hu with ⟨hi, hu⟩ | ⟨rfl, rfl⟩
    · rw [List.getElem?_append_left (by rw [← h.len]; exact hi)] at hk
      exact h.own i u k hu hk
    · rw [h.len, List.getElem?_append_right (Nat.le_refl _)] at hk
      simp at hk
      subst hk
      exact own_mono hv hb
  · rcases hlast hx with ⟨hj, hx⟩ | ⟨rfl, rfl⟩
    · rcases hlast hu with ⟨hi, hu⟩ | ⟨rfl, rfl⟩
      · exact h.apart i j u x hij hu hx
      · omega
    · rcases hlast hu with ⟨hi, hu⟩ | ⟨rfl, rfl⟩
      · cases hub : u.ownBlock with
        | none => exact .inl rfl
        | some k =>
          right
          intro e
          have h1 := hold i u k hu hub
          have h2 := (hv.lt k e.symm).1
          omega
      · omega

theorem all (h : OwnEach w base E vs ls) : AllB w vs ls := by
  refine ⟨h.len, fun i v l hv hl => ?_⟩
  have ho := h.own i v l hv hl
  obtain ⟨A, c, rfl, h1, h2⟩ := own_form ho
  exact ⟨A, c, rfl, Sl.ofOwn ho, h1, h2⟩
end OwnEach

/-- What Split leaves where the measures are right. -/
def SplitPost (E E2 : TypeId) (W : World) (ls : List (List UInt8)) (e : Ending) (w' : World) : Prop :=
  ∃ A c vs, e = .returned (.tuple #[.slice A ls.length c, .int .i64 0]) ∧ w'.ownsRow W.heap.size E2 1 (.slice A ls.length c) ls.length vs ∧ OwnEach w' W.heap.size E vs ls ∧ Below W.heap.size W w'

theorem split_wrong (A : Option Addr) (n c : Nat) (mn mx b : Int) (w : World) (h : wrongB mn mx b = true) :
    Calls Try.prog 18 #[.slice A n c, .agg #[.int .i64 mn, .int .i64 mx, .int .i64 b]] w fun e w' => e = .returned (.tuple #[.slice none 0 0, .int .i64 1]) ∧ Below w.heap.size w w' := by
  have H := Lib.hid h
  clear h
  go_enter Try.func18, Try.ntmps18
  go_wp2_with fail
  refine (cut_wrong A n c mn mx b _ H.out).mono ?_
  rintro e w' ⟨rfl, hb⟩
  go_wp2_with fail
  go_loopw [8, 19] (fun o i wr => o = .slice none 0 0 ∧ i = .int .i64 0 ∧ wr = w') (fun _ _ _ => 0)
  case atStart => exact ⟨rfl, rfl, rfl⟩
  case round =>
    obtain ⟨rfl, rfl, rfl⟩ := hrel
    go_wp2_with fail
    go_ret2
    exact ⟨rfl, ((Below.refl _ _).alloc (Nat.le_refl _) _).trans (hb.mono (by simp))⟩

theorem elemBytes : ElemOf Try.prog 43 22 (.slice none 0 0) 1 24 := ⟨Try.underlying43, by kernel_rfl, rfl, by decide⟩

/-- one round's end, apart from the walk -/
theorem split_step {D : List Nat} {l r : List UInt8} {done : List (List UInt8)} {k n : Nat} (hk : D[k]? = some n) (h : done ++ chunksOf (D.drop k) r = chunksOf D l) :
    (done ++ [r.take n]) ++ chunksOf (D.drop (k + 1)) (r.drop n) = chunksOf D l := by
  have hlt := (List.getElem?_eq_some_iff.1 hk).1
  have hD : D.drop k = n :: D.drop (k + 1) := by
    rw [List.drop_eq_getElem_cons hlt]
    rw [List.getElem?_eq_getElem hlt] at hk
    injection hk with hk
    rw [hk]
  rw [hD] at h
  simpa [chunksOf] using h

theorem natsV_look' {w : World} {A : Option Addr} {n k : Nat} {l : List Nat} (h : Sl w 1 A n (natsV l)) (hk : k < n) :
    ∃ (b off x : Nat), A = some ⟨b, off, none⟩ ∧ b < w.heap.size ∧ w.cell? ⟨b, off + k, none⟩ = some (.int .i64 (x : Int)) ∧ l[k]? = some x := by
  have hl : l.length = n := by have := h.1; simpa [natsV] using this
  have hkl : k < l.length := by omega
  obtain ⟨b, off, u, e, hb, hu, hc⟩ := h.look hk
  rw [natsV_get l k hkl] at hu
  injection hu with hu
  subst hu
  exact ⟨b, off, l[k], e, hb, hc, List.getElem?_eq_getElem hkl⟩

set_option maxHeartbeats 1000000 in
theorem split_any (A : Option Addr) (n c : Nat) (l : List UInt8) (mn mx b : Int) (w : World) (hs : Sl w 1 A n (bytesV l)) (hc : n ≤ c) (hn : n ≤ 1000000000) (h : wrongB mn mx b = false) :
    Calls Try.prog 18 #[.slice A n c, .agg #[.int .i64 mn, .int .i64 mx, .int .i64 b]] w (SplitPost 5 22 w (chunksOf (cutL mn mx b l) l)) := by
  have hl : l.length = n := by have := hs.1; simpa [bytesV] using this
  have hm := cutL_length mn mx b l.length l (Nat.le_refl _)
  have hsum := cut_sum mn mx b l.length l (Nat.le_refl _)
  rw [hl] at hm hsum
  have HW := Lib.hid h
  have HL := Lib.hid hl
  clear hl h
  go_enter Try.func18, Try.ntmps18
  go_wp2_with fail
  refine (cut_any A n c l mn mx b _ (hs.alloc _) hc hn HW.out).mono ?_
  rintro e w1 ⟨AD, cD, rfl, hD, hDc, hDm, hb1⟩
  have hbw : Below w.heap.size w w1 := ((Below.refl _ _).alloc (Nat.le_refl _) _).trans (hb1.mono (by simp))
  have hsD := Sl.ofOwn hD
  clear hb1 hD hDm
  generalize cutL mn mx b l = D at *
  have HS := Lib.hid hsum
  clear hsum
  go_wp2_with fail
  go_loopw [0, 8, 19] (fun s o i wr => ∃ (k : Nat) (As : Option Addr) (ns cs : Nat) (r : List UInt8) (Ao : Option Addr) (co : Nat) (vs : List Value) (done : List (List UInt8)),
      k ≤ D.length ∧ i = .int .i64 k ∧ s = .slice As ns cs ∧ Sl w 1 As ns (bytesV r) ∧ ns ≤ cs ∧ ns ≤ n ∧ Hid ((D.drop k).sum = ns) ∧ o = .slice Ao k co ∧ Hid (done.length = k) ∧
      wr.ownsRow w1.heap.size 22 1 (.slice Ao k co) k vs ∧ OwnEach wr w1.heap.size 5 vs done ∧ Below w1.heap.size w1 wr ∧
      Hid (done ++ chunksOf (D.drop k) r = chunksOf D l)) (fun _ _ i _ => D.length - (intOf i).toNat)
  case atStart =>
    exact ⟨0, A, n, c, l, none, 0, [], [], by omega, rfl, rfl, hs, hc, Nat.le_refl _, Lib.hid HS.out, rfl, Lib.hid rfl, World.ownsRow_nil _ _ _ _, OwnEach.nil _ _ _, Below.refl _ _, Lib.hid rfl⟩
  case round =>
    obtain ⟨k, As, ns, cs, r, Ao, co, vs, done, hk, rfl, rfl, hsr, hcs, hnn, HSk, rfl, HDL, hown, heach, hbr, H⟩ := hrel
    have hw1 := hbw.size
    by_cases hlt : k < D.length
    · obtain ⟨b1, o1, x, rfl, hb1, c1, hx⟩ := natsV_look' hsD hlt
      have c1r := (hbr.cell (p := ⟨b1, o1 + k, none⟩) hb1).trans c1
      have hsk : (D.drop k).sum = x + (D.drop (k + 1)).sum := by
        rw [List.drop_eq_getElem_cons hlt, List.sum_cons]
        rw [List.getElem?_eq_getElem hlt] at hx
        injection hx with hx
        rw [hx]
      have hxn : x ≤ ns := by have := HSk.out; omega
      have HX := Lib.hid hx
      have HSK := Lib.hid hsk
      have m0 := own_made (base := wr.heap.size) wr 5 1 (Nat.le_refl _)
      have hsx := (((hsr.below hbw).below hbr).alloc (.cells #[] 5)).upto hxn
      rw [Nat.mul_one, bytesV_take] at hsx
      obtain ⟨A1, c1', w2, run1, ap1, hc1, hm1⟩ := append_sl elemByte m0 hsx (bytesV_one _) (by omega) (by simp only [maxLen]; omega) (by simp) 22 cs
      simp only [Nat.zero_add, List.nil_append] at run1 ap1 hc1
      have z1 : Below wr.heap.size wr w2 := ((Below.refl _ _).alloc (Nat.le_refl _) _).trans ap1.below
      have own1 := ap1.own
      have hrl : (r.take x).length = x := by
        have := hsr.1
        rw [bytesV_length] at this
        rw [List.length_take]; omega
      have own1' : (w2.alloc (.cells #[.slice A1 x c1'] 22)).ownsRow wr.heap.size 5 1 (.slice A1 x c1') (r.take x).length (bytesV (r.take x)) := by rw [hrl]; exact own1.alloc _
      have each1 := (heach.below z1).below ((Below.refl _ _).alloc (Nat.le_refl _) (.cells #[.slice A1 x c1'] 22))
      have each2 := each1.snoc own1' hbr.size (fun i u kk hu hkk => by
        obtain ⟨l', hl', ho⟩ := heach.get hu
        exact (ho.lt kk hkk).2)
      have hownA := (own_below hown z1).alloc (.cells #[.slice A1 x c1'] 22)
      have zz := hbr.size
      have zz1 := z1.size
      obtain ⟨A2, c2', w3, run2, ap2, hc2, hm2⟩ := append_sl elemBytes hownA (Sl.one w2 (.slice A1 x c1') 22) (by simp [Value.oneCell']) (by omega) (by simp only [maxLen]; omega) (by simp; omega) 43 1
      have own2 := ap2.own
      have each3 := each2.kept ap2.grown (fun i u hu => by
        obtain ⟨l', hl', ho⟩ := each2.get hu
        exact own_ne ho hownA (by decide))
      have hb3 : Below w1.heap.size w1 w3 := ((hbr.trans (z1.mono zz)).alloc (by omega) _).trans ap2.below
      have hsr' := hsr.from1 hxn hcs
      clear c1 hx hsk m0 hsx ap1 z1 own1 own1' each1 each2 hownA ap2 heach hown hrl hsD hs
      go_wp2_with (first | (at_builtin; refine wpList_run_append run1 ?_ ?_ ?_; exact rfl; exact rfl) | (at_builtin; refine wpList_run_append run2 ?_ ?_ ?_; exact rfl; exact rfl))
      go_roundw
      case rel =>
        refine ⟨k + 1, _, ns - x, cs - x, r.drop x, A2, c2', vs ++ [.slice A1 x c1'], done ++ [r.take x], by omega, by go_num, rfl, ?_, by omega, by omega, ?_, rfl, ?_, own2, each3, hb3, ?_⟩
        · rw [← bytesV_drop]; exact hsr'
        · exact Lib.hid (by have h1 := HSk.out; have h2 := HSK.out; omega)
        · exact Lib.hid (by rw [List.length_append, HDL.out]; rfl)
        · exact Lib.hid (split_step HX.out H.out)
      case measure => simp [intOf]; omega
    · have hkD : k = D.length := by omega
      have H' := H.out
      rw [List.drop_eq_nil_of_le (by omega)] at H'
      simp only [chunksOf, List.append_nil] at H'
      have HH := Lib.hid H'.symm
      have hdl := HDL.out
      have HD := Lib.hid hdl
      clear H' hdl hkD
      go_wp2_with fail
      go_ret2
      rw [HH.out]
      rw [← HD.out] at hown ⊢
      exact ⟨Ao, co, vs, rfl, own_mono hown hw1, heach.mono hw1, hbw.trans (hbr.mono hw1)⟩
end Go.Proofs.Ytknbbekinpamjaa
