/- stamp.Latest, plain and walked. -/
import Derived.Test.YtehminpiejophaaDoorStampUse
set_option linter.unusedVariables false
set_option linter.unusedSimpArgs false
namespace Go.Proofs.YtehminpiejophaaDoor
open Go.RowKit

def infM : Nat := 18442240474082181120
def lat1 (o f : Nat) : Nat := if keyB o < keyB f then canonB f else o
def latB (l : List Nat) : Nat := l.foldl lat1 infM
theorem lat_snoc (l : List Nat) (f : Nat) : latB (l ++ [f]) = lat1 (latB l) f := by unfold latB; rw [List.foldl_append]; rfl
theorem infM_least {f : Nat} (h : f < 2 ^ 64) : keyB infM ≤ keyB f := by
  have h : f < 18446744073709551616 := h
  have hc : canonB infM = infM := by unfold canonB; rw [if_neg]; rw [nan_iff]; decide
  have hk : keyB infM = 4503599627370495 := by
    show (if 9223372036854775808 ≤ canonB infM then 18446744073709551615 - canonB infM else canonB infM + 9223372036854775808) = _
    rw [hc]; rfl
  rw [hk]
  show _ ≤ (if 9223372036854775808 ≤ canonB f then 18446744073709551615 - canonB f else canonB f + 9223372036854775808)
  have hl := canonB_lt (b := f) h
  split
  · rename_i h2
    unfold canonB at h2 ⊢
    split
    · rename_i h3; rw [if_pos h3] at h2; exact absurd h2 (by decide)
    · rename_i h3
      rw [if_neg h3] at h2
      have h4 : isNan f = false := by simpa using h3
      rw [nan_iff, decide_eq_false_iff_not] at h4
      unfold rungB infR at h4
      omega
  · omega
structure Last (l : List Nat) (o : Nat) : Prop where
  canon : canonB o = o
  lt : o < 2 ^ 64
  top : ∀ f ∈ l, keyB f ≤ keyB o
  low : keyB infM ≤ keyB o
  at_ : keyB o = keyB infM ∨ ∃ f ∈ l, keyB f = keyB o
theorem last_nil : Last [] infM := ⟨by unfold canonB; rw [if_neg]; rw [nan_iff]; decide, by decide, fun _ h => (nomatch h), Nat.le_refl _, .inl rfl⟩
theorem last_snoc {l : List Nat} {o f : Nat} (h : Last l o) (hf : f < 2 ^ 64) : Last (l ++ [f]) (lat1 o f) := by
  unfold lat1
  split
  · rename_i hk
    refine ⟨canonB_canonB f, canonB_lt hf, fun g hg => ?_, ?_, .inr ⟨f, by simp, (key_canon f).symm⟩⟩
    · rw [key_canon]
      rcases List.mem_append.1 hg with h1 | h1
      · have := h.top g h1; omega
      · rw [List.mem_singleton.1 h1]; exact Nat.le_refl _
    · rw [key_canon]; have := h.low; omega
  · rename_i hk
    refine ⟨h.canon, h.lt, fun g hg => ?_, h.low, ?_⟩
    · rcases List.mem_append.1 hg with h1 | h1
      · exact h.top g h1
      · rw [List.mem_singleton.1 h1]; omega
    · rcases h.at_ with h1 | ⟨g, h1, h2⟩
      · exact .inl h1
      · exact .inr ⟨g, by simp [h1], h2⟩
theorem last_fold (l : List Nat) : ∀ (pre : List Nat) (o : Nat), Last pre o → (∀ f ∈ l, f < 2 ^ 64) → Last (pre ++ l) (l.foldl lat1 o) := by
  induction l with
  | nil => intro pre o h _; rwa [List.append_nil]
  | cons f r ih =>
    intro pre o h hl
    have := ih (pre ++ [f]) (lat1 o f) (last_snoc h (hl f (by simp))) (fun g hg => hl g (by simp [hg]))
    rwa [List.append_assoc] at this
theorem last_any (l : List Nat) (h : ∀ f ∈ l, f < 2 ^ 64) : Last l (latB l) := last_fold l [] infM last_nil h
theorem Last.same {l l' : List Nat} {o o' : Nat} (h : Last l o) (h' : Last l' o') (hm : ∀ f, f ∈ l ↔ f ∈ l') : o = o' := by
  have hk : ∀ {l l' : List Nat} {o o' : Nat}, Last l o → Last l' o' → (∀ f, f ∈ l ↔ f ∈ l') → keyB o ≤ keyB o' := by
    intro l l' o o' h h' hm
    rcases h.at_ with h1 | ⟨f, h1, h2⟩
    · rw [h1]; exact h'.low
    · rw [← h2]; exact h'.top f ((hm f).1 h1)
  have e := key_inj h.lt h'.lt (Nat.le_antisymm (hk h h' hm) (hk h' h fun f => (hm f).symm))
  rw [h.canon, h'.canon] at e
  exact e
theorem Last.found {l : List Nat} {o : Nat} (h : Last l o) (hl : ∀ f ∈ l, f < 2 ^ 64) (hn : l ≠ []) : ∃ f ∈ l, keyB f = keyB o := by
  rcases h.at_ with h1 | h1
  · cases l with
    | nil => exact absurd rfl hn
    | cons f r =>
      refine ⟨f, by simp, ?_⟩
      have a := h.top f (by simp)
      have b := infM_least (hl f (by simp))
      omega
  · exact h1

abbrev fltV (l : List Nat) : List Value := l.map (Value.float .f64)
theorem look_flt {w : World} {A : Option Addr} {n k : Nat} {l : List Nat} (hs : Sl w 1 A n (fltV l)) (hk : k < n) : ∃ b off f, A = some ⟨b, off, none⟩ ∧ b < w.heap.size ∧ l[k]? = some f ∧ w.cell? ⟨b, off + k, none⟩ = some (.float .f64 f) := by
  obtain ⟨b, off, u, rfl, hb, hu, hc⟩ := hs.look hk
  rw [List.getElem?_map] at hu
  cases hl : l[k]? with
  | none => rw [hl] at hu; cases hu
  | some f => rw [hl] at hu; cases hu; exact ⟨b, off, f, rfl, hb, rfl, hc⟩

set_option maxRecDepth 100000 in
set_option maxHeartbeats 4000000 in
theorem latest_any (A : Option Addr) (n c : Nat) (l : List Nat) (w : World) (hs : Sl w 1 A n (fltV l)) (hn : n ≤ 100000000) (hl : ∀ f ∈ l, f < 2 ^ 64) : Calls Tryd.prog 24 #[.slice A n c] w fun e w' => e = .returned (.float .f64 (latB l)) ∧ Below w.heap.size w w' := by
  have hln : l.length = n := by have := hs.1; rw [List.length_map] at this; omega
  have HM := Lib.hid infM_any
  have HLN := Lib.hid hln
  have HL := Lib.hid hl
  have HS := Lib.hid hs
  clear hln hl hs
  go_enter Tryd.func24, Tryd.ntmps24
  go_wp2_with fail
  refine (HM.out _).mono ?_
  rintro e w1 ⟨rfl, rfl⟩
  rw [show infR + 9223372036854775808 = infM from rfl]
  go_wp2_with fail
  go_loopw [3, 9] (fun o i wr => ∃ (k : Nat) (v : Nat), k ≤ n ∧ i = .int .i64 k ∧ o = .float .f64 v ∧ Hid (v = latB (l.take k)) ∧ Below w1.heap.size w1 wr) (fun _ i _ => n - (intOf i).toNat)
  case atStart => exact ⟨0, infM, by omega, rfl, rfl, Lib.hid rfl, Below.refl _ _⟩
  case round =>
    obtain ⟨k, v, hk, rfl, rfl, HV, hbr⟩ := hrel
    have HBR := Lib.hid hbr
    clear hbr
    by_cases hlt : k < n
    · obtain ⟨b, off, f, rfl, hb, hlk, hc⟩ := look_flt HS.out hlt
      have hcr := (HBR.out.cell (p := ⟨b, off + k, none⟩) hb).trans hc
      have hmem : f ∈ l := List.mem_of_getElem? hlk
      have hv64 : v < 2 ^ 64 := by rw [HV.out]; exact (last_any _ fun g hg => HL.out g (List.mem_of_mem_take hg)).lt
      have HC := Lib.hid (fun w => compare_any f v w (HL.out f hmem) hv64)
      have HN := Lib.hid (fun w => canon_any f w)
      have HNX := Lib.hid (show lat1 v f = latB (l.take (k + 1)) by rw [List.take_add_one, hlk, HV.out]; exact (lat_snoc _ _).symm)
      by_cases hlt2 : keyB v < keyB f
      · have hz : cmpB f v = 1 := by unfold cmpB; rw [if_neg (by omega), if_pos hlt2]
        rw [hz] at HC
        have HNY := Lib.hid (show canonB f = latB (l.take (k + 1)) by rw [← HNX.out]; unfold lat1; rw [if_pos hlt2])
        generalize canonB f = cf at *
        clear hlk hc hmem hv64 hz hlt2 HNX HV
        go_wp2_with fail
        refine (HC.out _).mono ?_
        rintro e w2 ⟨rfl, h2⟩
        have HB2 := Lib.hid (HBR.out.trans (h2.mono HBR.out.size))
        clear h2
        go_wp2_with fail
        refine (HN.out _).mono ?_
        rintro e w3 ⟨rfl, h3⟩
        have HB3 := Lib.hid (HB2.out.trans (h3.mono HB2.out.size))
        clear h3
        go_wp2_with fail
        go_roundw
        case rel => exact ⟨k + 1, cf, by omega, by go_num, rfl, HNY, HB3.out⟩
        case measure => simp [intOf]; omega
      · have hz : cmpB f v = -1 ∨ cmpB f v = 0 := by unfold cmpB; rw [if_neg hlt2]; split; exact .inl rfl; exact .inr rfl
        have HNY := Lib.hid (show v = latB (l.take (k + 1)) by rw [← HNX.out]; unfold lat1; rw [if_neg hlt2])
        generalize cmpB f v = z at *
        clear hlk hc hmem hv64 hlt2 HNX HV
        rcases hz with rfl | rfl
        all_goals
          go_wp2_with fail
          refine (HC.out _).mono ?_
          rintro e w2 ⟨rfl, h2⟩
          have HB2 := Lib.hid (HBR.out.trans (h2.mono HBR.out.size))
          clear h2
          go_wp2_with fail
          go_roundw
          case rel => exact ⟨k + 1, v, by omega, by go_num, rfl, HNY, HB2.out⟩
          case measure => simp [intOf]; omega
    · have hkn : k = n := by omega
      have HT := Lib.hid (show v = latB l by rw [HV.out, List.take_of_length_le (by rw [HLN.out]; omega)])
      clear hkn HV
      go_wp2_with fail
      go_ret
      exact ⟨by rw [HT.out]; rfl, HBR.out⟩
end Go.Proofs.YtehminpiejophaaDoor
