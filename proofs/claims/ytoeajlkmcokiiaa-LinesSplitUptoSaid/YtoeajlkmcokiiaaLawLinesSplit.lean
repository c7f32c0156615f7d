/- The walk of the law LinesSplit: raw bytes are cut into lines as the document says, and put together again. -/
import Derived.Test.YtoeajlkmcokiiaaLinesAwake
import Derived.Test.YtoeajlkmcokiiaaLinesRefSplit
import Derived.Test.YtoeajlkmcokiiaaShelf
import Derived.Lib.Join
set_option linter.unusedVariables false
namespace Go.Proofs.Ytoeajlkmcokiiaa
open Go.RowKit
attribute [local go_sem ↓] cutA_eq cvt_eq cvs_eq

theorem join_nosep : ∀ xs : List (List UInt8), Lib.join xs [] = xs.flatten
  | [] => rfl
  | x :: r => by rw [Lib.join_cons, Lib.joinTail]; simp
theorem splitG_flat : ∀ (f : Nat) (l : List UInt8), l.length ≤ f → ((splitG l).map (·.data.toList)).flatten = l
  | 0, l, h => by
    have : l = [] := List.eq_nil_of_length_eq_zero (by omega)
    subst this; rw [splitG_nil]; rfl
  | f + 1, l, h => by
    by_cases hl : l = []
    · subst hl; rw [splitG_nil]; rfl
    · rw [splitG_cons hl, List.map_cons, List.flatten_cons]
      have h1 := lineLen_pos hl
      have h2 := List.length_pos_iff.2 hl
      rw [splitG_flat f (l.drop (lineLen l)) (by rw [List.length_drop]; omega)]
      simp
theorem splitG_length : ∀ (f : Nat) (l : List UInt8), l.length ≤ f → (splitG l).length ≤ l.length
  | 0, l, h => by
    have : l = [] := List.eq_nil_of_length_eq_zero (by omega)
    subst this; rw [splitG_nil]; simp
  | f + 1, l, h => by
    by_cases hl : l = []
    · subst hl; rw [splitG_nil]; simp
    · rw [splitG_cons hl, List.length_cons]
      have h1 := lineLen_pos hl
      have h2 := List.length_pos_iff.2 hl
      have h3 := splitG_length f (l.drop (lineLen l)) (by rw [List.length_drop]; omega)
      rw [List.length_drop] at h3
      omega

/-- bytes in new memory -/
theorem join_any (A : Option Addr) (n c : Nat) (xs : List ByteArray) (w : World) (hs : Sl w 1 A n (strV xs)) (hc : n ≤ c) (hn : n ≤ 1048576) (hlen : (xs.map (·.data.toList)).flatten.length ≤ 1048576) :
    Calls Try.prog 22 #[.slice A n c] w fun e w' => ∃ A' c', e = .returned (.slice A' (xs.map (·.data.toList)).flatten.length c') ∧ Sl w' 1 A' (xs.map (·.data.toList)).flatten.length (bytesV (xs.map (·.data.toList)).flatten) ∧ Below w.heap.size w w' := by
  have hl := hs.strLen
  subst hl
  have hj : Calls Try.prog 31 #[.slice A xs.length c, .string ⟨#[]⟩] w fun e w' => e = .returned (.string ⟨(xs.map (·.data.toList)).flatten.toArray⟩) ∧ Below w.heap.size w w' := by
    rcases Nat.eq_zero_or_pos xs.length with hz | hz
    · have : xs = [] := List.eq_nil_of_length_eq_zero hz
      subst this
      exact (Try.strings_Join_none A c ⟨#[]⟩ w).mono fun e w' ⟨h1, h2⟩ => ⟨h1, h2 ▸ Below.refl _ _⟩
    · obtain ⟨b, off, rfl, hb, hcl⟩ := hs.2 hz
      have h := Try.strings_Join b off c xs ⟨#[]⟩ w (fun j x hx => hcl j (.string x) (by simp [strV, hx])) hb (by omega) hc (by rw [join_nosep]; omega)
      rw [join_nosep] at h
      exact h
  have HJ := Lib.hid hj
  have HLN := Lib.hid hlen
  generalize (xs.map (·.data.toList)).flatten = l at *
  clear hj hlen
  go_enter Try.func22, Try.ntmps22
  go_wp2_with fail
  refine HJ.out.mono ?_
  rintro e w1 ⟨rfl, hb1⟩
  have hz : (⟨l.toArray⟩ : ByteArray).size = l.length := by simp [ByteArray.size]
  obtain ⟨A', c', w2, hrun, hsl, _, _, hb2, _⟩ := toBytes w1 ⟨l.toArray⟩ (by rw [hz, maxLen]; have := HLN.out; omega)
  rw [hz] at hrun hsl
  have hrun' : cvs w1 ⟨l.toArray⟩ = .ok (.slice A' l.length c') w2 := hrun
  have HB := Lib.hid (hb1.trans (hb2.mono hb1.size))
  have HS := Lib.hid hsl
  clear hb1 hb2 hsl hrun hs hz
  go_wp2_with fail
  go_ret
  exact ⟨A', c', rfl, HS.out, HB.out⟩

set_option maxHeartbeats 2000000 in
theorem linesSplit_any (A : Option Addr) (n c : Nat) (l : List UInt8) (w : World) (hs : Sl w 1 A n (bytesV l)) (hc : n ≤ c) (hm : c ≤ maxLen) (hn : n ≤ 1048576) :
    Calls Try.prog 8 #[.slice A n c] w fun e w' => e = .returned (.bool true) ∧ Below w.heap.size w w' := by
  have hll : l.length = n := by have := hs.1; simpa [bytesV] using this
  have hz : (⟨l.toArray⟩ : ByteArray).size = n := by simp [ByteArray.size]; exact hll
  have hfl := splitG_flat l.length l (Nat.le_refl _)
  have hsl := splitG_length l.length l (Nat.le_refl _)
  have HR := Lib.hid (fun (W : World) => refSplit_any ⟨l.toArray⟩ W (by rw [hz]; exact hn))
  have HT := Lib.hid (fun (W : World) => refIsText_any ⟨l.toArray⟩ W (by rw [hz]; exact hn))
  have hdt : (⟨l.toArray⟩ : ByteArray).data.toList = l := rfl
  rw [hdt] at HR HT
  have HFL := Lib.hid hfl
  have HLL := Lib.hid hll
  clear hdt hfl hll hz
  go_enter Try.func8, Try.ntmps8
  go_wp2_with fail
  refine (awake_any _).mono ?_
  rintro e w1 ⟨rfl, hb1⟩
  have hs1 := hs.below hb1
  go_wp2_with fail
  refine (split_any A n c l _ hs1 hc hm hn).mono ?_
  rintro e w2 ⟨A2, c2, rfl, hol, hc2, hm2, hb2⟩
  have hl2 := Sl.ofOwn hol
  have HJ := Lib.hid (fun (W : World) hh => join_any A2 (splitG l).length c2 (splitG l) W hh hc2 (by have := HLL.out; omega) (by rw [HFL.out, HLL.out]; exact hn))
  rw [HFL.out, HLL.out] at HJ
  generalize splitG l = L at *
  have hs2 := Lib.hid (hs1.below hb2)
  have hb02 := Lib.hid (hb1.trans (hb2.mono hb1.size))
  have HL2 := Lib.hid hl2
  have hLn : L.length ≤ 1048576 := by have := HLL.out; omega
  have B0 : Below w2.heap.size w2 w2.drew := (Below.refl _ _).drew
  have hss := sameS_self L
  have HSS := Lib.hid hss
  clear hs1 hb1 hb2 hol hl2 hsl hs hss HFL
  go_wp2_with fail
  refine wp_region_held (S := fun w' => Below w2.heap.size w2 w') (by kernel_rfl) ?_
  change wpAnyH _ _ _ _ _ _ _ _ (World.drew _)
  refine held_take (i := 0) (v := ?_) (a' := ?_) rfl (by kernel_rfl) (by kernel_rfl) (by kernel_rfl) (fun _ _ _ h => h) (by rfl) B0 ?_ ?_ ?_
  rotate_left 2
  · (intro w hS; go_simp; try with_reducible rfl)
  · (go_simp; try with_reducible rfl)
  refine held_take (i := 1) (v := ?_) (a' := ?_) rfl (by kernel_rfl) (by kernel_rfl) (by kernel_rfl) (fun _ _ _ h => h) (by rfl) B0 ?_ ?_ ?_
  rotate_left 2
  · (intro w hS; go_simp; try with_reducible rfl)
  · (go_simp; try with_reducible rfl)
  refine held_take (i := 2) (v := ?_) (a' := ?_) rfl (by kernel_rfl) (by kernel_rfl) (by kernel_rfl) (fun _ _ _ h => h) (by rfl) B0 ?_ ?_ ?_
  rotate_left 2
  · (intro w hS; have cvx := cvt_of (hs2.out.below hS) c; go_simp; try with_reducible rfl)
  · (go_simp; try with_reducible rfl)
  refine held_ready (rs := [3]) (by kernel_rfl) (by simp) ?_
  refine AllHeld.cons rfl (fun KR hKR => ?_) ?_
  · go_simp
    refine (HR.out _).mono ?_
    rintro e w3 ⟨A3, c3, rfl, ho3, hc3, hm3, hb3⟩
    have B3 := B0.trans hb3
    have hl3 := Sl.ofOwn ho3
    refine hKR _ _ B3 ?_
    clear hKR KR
    refine held_ready (rs := [4]) (by kernel_rfl) (by simp) ?_
    refine AllHeld.cons rfl (fun KR hKR => ?_) ?_
    · go_simp
      refine (refSame_any A2 A3 L.length c2 L.length c3 L L _ (HL2.out.below B3) hl3 (by omega) (by omega)).mono ?_
      rw [HSS.out]
      rintro e w4 ⟨rfl, s4⟩
      have B4 := B3.trans (s4.below _)
      refine hKR _ _ B4 ?_
      clear hKR KR
      refine held_take (i := 5) (v := ?_) (a' := ?_) rfl (by kernel_rfl) (by kernel_rfl) (by kernel_rfl) (fun _ _ _ h => h) (by rfl) B4 ?_ ?_ ?_
      rotate_left 2
      · (intro w hS; go_simp; try with_reducible rfl)
      · (go_simp; try with_reducible rfl)
      refine held_take (i := 6) (v := ?_) (a' := ?_) rfl (by kernel_rfl) (by kernel_rfl) (by kernel_rfl) (fun _ _ _ h => h) (by rfl) B4 ?_ ?_ ?_
      rotate_left 2
      · (intro w hS; go_simp; try with_reducible rfl)
      · (go_simp; try with_reducible rfl)
      refine held_take (i := 9) (v := ?_) (a' := ?_) rfl (by kernel_rfl) (by kernel_rfl) (by kernel_rfl) (fun _ _ _ h => h) (by rfl) B4 ?_ ?_ ?_
      rotate_left 2
      · (intro w hS; go_simp; try with_reducible rfl)
      · (go_simp; try with_reducible rfl)
      refine held_take (i := 10) (v := ?_) (a' := ?_) rfl (by kernel_rfl) (by kernel_rfl) (by kernel_rfl) (fun _ _ _ h => h) (by rfl) B4 ?_ ?_ ?_
      rotate_left 2
      · (intro w hS; have cvx := cvt_of (hs2.out.below hS) c; go_simp; try with_reducible rfl)
      · (go_simp; try with_reducible rfl)
      refine held_ready (rs := [7]) (by kernel_rfl) (by simp) ?_
      refine AllHeld.cons rfl (fun KR hKR => ?_) ?_
      · go_simp
        refine (HJ.out _ (HL2.out.below B4)).mono ?_
        rintro e w5 ⟨A5, c5, rfl, hl5, hb5⟩
        have B5 := B4.trans (hb5.mono B4.size)
        have cv5 := cvt_of hl5 c5
        refine hKR _ _ B5 ?_
        clear hKR KR
        refine held_ready (rs := [8]) (by kernel_rfl) (by simp) ?_
        refine AllHeld.cons rfl (fun KR hKR => ?_) ?_
        · go_simp
          have tok : True := trivial
          refine hKR _ _ B5 ?_
          clear hKR KR
          refine held_take (i := 11) (v := ?_) (a' := ?_) rfl (by kernel_rfl) (by kernel_rfl) (by kernel_rfl) (fun _ _ _ h => h) (by rfl) B5 ?_ ?_ ?_
          rotate_left 2
          · (intro w hS; go_simp; try with_reducible rfl)
          · (go_simp; try with_reducible rfl)
          refine held_take (i := 12) (v := ?_) (a' := ?_) rfl (by kernel_rfl) (by kernel_rfl) (by kernel_rfl) (fun _ _ _ h => h) (by rfl) B5 ?_ ?_ ?_
          rotate_left 2
          · (intro w hS; go_simp; try with_reducible rfl)
          · (go_simp; try with_reducible rfl)
          refine held_take (i := 13) (v := ?_) (a' := ?_) rfl (by kernel_rfl) (by kernel_rfl) (by kernel_rfl) (fun _ _ _ h => h) (by rfl) B5 ?_ ?_ ?_
          rotate_left 2
          · (intro w hS; go_simp; try with_reducible rfl)
          · (go_simp; try with_reducible rfl)
          refine held_take (i := 14) (v := ?_) (a' := ?_) rfl (by kernel_rfl) (by kernel_rfl) (by kernel_rfl) (fun _ _ _ h => h) (by rfl) B5 ?_ ?_ ?_
          rotate_left 2
          · (intro w hS; go_simp; try with_reducible rfl)
          · (go_simp; try with_reducible rfl)
          refine held_take (i := 16) (v := ?_) (a' := ?_) rfl (by kernel_rfl) (by kernel_rfl) (by kernel_rfl) (fun _ _ _ h => h) (by rfl) B5 ?_ ?_ ?_
          rotate_left 2
          · (intro w hS; go_simp; try with_reducible rfl)
          · (go_simp; try with_reducible rfl)
          refine held_take (i := 17) (v := ?_) (a' := ?_) rfl (by kernel_rfl) (by kernel_rfl) (by kernel_rfl) (fun _ _ _ h => h) (by rfl) B5 ?_ ?_ ?_
          rotate_left 2
          · (intro w hS; have cvx := cvt_of (hs2.out.below hS) c; go_simp; try with_reducible rfl)
          · (go_simp; try with_reducible rfl)
          refine held_ready (rs := [15]) (by kernel_rfl) (by simp) ?_
          refine AllHeld.cons rfl (fun KR hKR => ?_) ?_
          · go_simp
            refine (isText_any A n c l _ (hs2.out.below B5)).mono ?_
            rintro e w6 ⟨rfl, rfl⟩
            refine hKR _ _ B5 ?_
            clear hKR KR
            refine held_ready (rs := [18]) (by kernel_rfl) (by simp) ?_
            refine AllHeld.cons rfl (fun KR hKR => ?_) ?_
            · go_simp
              refine (HT.out _).mono ?_
              rintro e w7 ⟨rfl, rfl⟩
              refine hKR _ _ B5 ?_
              clear hKR KR
              refine held_take (i := 19) (v := ?_) (a' := ?_) rfl (by kernel_rfl) (by kernel_rfl) (by kernel_rfl) (fun _ _ _ h => h) (by rfl) B5 ?_ ?_ ?_
              rotate_left 2
              · (intro w hS; go_simp; try with_reducible rfl)
              · (go_simp; try with_reducible rfl)
              refine held_take (i := 20) (v := ?_) (a' := ?_) rfl (by kernel_rfl) (by kernel_rfl) (by kernel_rfl) (fun _ _ _ h => h) (by rfl) B5 ?_ ?_ ?_
              rotate_left 2
              · (intro w hS; go_simp; try with_reducible rfl)
              · (go_simp; try with_reducible rfl)
              refine held_take (i := 21) (v := ?_) (a' := ?_) rfl (by kernel_rfl) (by kernel_rfl) (by kernel_rfl) (fun _ _ _ h => h) (by rfl) B5 ?_ ?_ ?_
              rotate_left 2
              · (intro w hS; go_simp; try with_reducible rfl)
              · (go_simp; try with_reducible rfl)
              refine wpAnyH_done (by kernel_rfl) ?_ _
              go_wp2_with fail
              go_ret
              exact ⟨rfl, hb02.out.trans (B5.mono hb02.out.size)⟩
            exact AllHeld.nil
          exact AllHeld.nil
        exact AllHeld.nil
      exact AllHeld.nil
    exact AllHeld.nil
  exact AllHeld.nil
end Go.Proofs.Ytoeajlkmcokiiaa
