/- glob.name: does a piece mean a name? The greedy way. -/
import Derived.Test.YtlddnghfjdjglaaDoorGlobTakes
import Derived.Test.YtlddnghfjdjglaaDoorAgg
import Derived.Deep.CutBlock
import Derived.Deep.DeepCutAuto
set_option linter.unusedVariables false
set_option linter.unusedSimpArgs false
namespace Go.Proofs.YtlddnghfjdjglaaDoor
open Go.RowKit

/-- how much the greedy way has before it -/
def greedM (N M i k m : Nat) : Nat := (M + 1 - m) * (N + M + 2) + (N - i) + (M - k)
theorem greed_star {N M i k m : Nat} (hi : i < N) (hm : m ≤ k) : greedM N M (i + 1) k k < greedM N M i k m := by
  unfold greedM
  have := Nat.mul_le_mul_right (N + M + 2) (show M + 1 - k ≤ M + 1 - m by omega)
  omega
theorem greed_take {N M i k m : Nat} (hi : i < N) (hk : k < M) : greedM N M (i + 1) (k + 1) m < greedM N M i k m := by
  unfold greedM; omega
theorem greed_back {N M i k j m : Nat} (hm : m < M) : greedM N M (j + 1) (m + 1) (m + 1) < greedM N M i k m := by
  unfold greedM
  have h1 : M + 1 - m = (M + 1 - (m + 1)) + 1 := by omega
  rw [h1, Nat.add_mul]
  omega
/-- the star's slots -/
def starS (o : Option (Nat × Nat)) (z : Int) (m : Nat) : Prop := (o = none ∧ z = -1 ∧ m = 0) ∨ ∃ j : Nat, o = some (j, m) ∧ z = (j : Int)
theorem Gr.mark {α β : Type} {star : α → Bool} {takes : α → β → Bool} {l : List α} {s : List β} {i k : Nat} {o : Option (Nat × Nat)} {z : Int} {m : Nat} (h : Gr star takes l s i k o) (hs : starS o z m) : m ≤ k := by
  rcases hs with ⟨_, _, rfl⟩ | ⟨j, rfl, _⟩
  · omega
  · obtain ⟨a, u, v, _, _, _, _, _, h5, _⟩ := h
    omega
/-- a sign of a row -/
theorem atm_look {w : World} {av : Av} {A : Option Addr} {l : List Atm} {n i : Nat} (h : SlOf atmR w av A l) (hl : l.length = n) (hi : i < n) :
    ∃ b off a cs, A = some ⟨b, off, none⟩ ∧ b < w.heap.size ∧ l[i]? = some a ∧ atmR.R w av cs a ∧ At w ⟨b, off + i * 5, none⟩ cs.toArray := by
  obtain ⟨b, off, cs, a, e, hb, hx, hr, hc⟩ := h.at hl hi
  exact ⟨b, off, a, cs, e, hb, hx, hr, hc⟩

set_option maxRecDepth 100000 in
set_option maxHeartbeats 4000000 in
theorem gname_big (A : Option Addr) (N c : Nat) (az : List Atm) (s : List UInt8) (w : World) (hs : SlOf atmR w no A az) (hn : N = az.length) (hnl : N ≤ 1000000) (hsl : s.length ≤ 2000000) :
    Calls Tryd.prog 30 #[.slice A N c, .string (strL s)] w fun e w' => e = .returned (.bool (nameM az s)) ∧ Below w.heap.size w w' := by
  obtain ⟨R, hR⟩ : ∃ R, R = mat Atm.star Atm.takes az s := ⟨_, rfl⟩
  have HR := Lib.hid hR
  rw [show nameM az s = R from hR.symm]
  obtain ⟨M, hM⟩ : ∃ M, M = s.length := ⟨_, rfl⟩
  have HM := Lib.hid hM
  have HS := Lib.hid hs
  have HN := Lib.hid hn
  have HSZ := Lib.hid (show (strL s).size = M by rw [hM]; simp [strL, ByteArray.size])
  rw [← hM] at hsl
  obtain ⟨q, hq⟩ : ∃ q, q = strL s := ⟨_, rfl⟩
  rw [← hq] at HSZ ⊢
  have HQ := Lib.hid hq
  clear hR hM hs hn hq
  go_enter Tryd.func30, Tryd.ntmps30
  go_wp2_with fail
  go_loopw [5, 6, 7, 8] (fun s5 s6 s7 s8 wr => ∃ (i k : Nat) (o : Option (Nat × Nat)) (z : Int) (m : Nat), i ≤ N ∧ k ≤ M ∧ s5 = .int .i64 (i : Int) ∧ s6 = .int .i64 z ∧ s7 = .int .i64 (m : Int) ∧ s8 = .int .i64 (k : Int) ∧ Hid (starS o z m) ∧ Hid (Gr Atm.star Atm.takes az s i k o) ∧ Hid (Below w.heap.size w wr)) (fun s5 s6 s7 s8 wr => greedM N M (intOf s5).toNat (intOf s8).toNat (intOf s7).toNat)
  case atStart => exact ⟨0, 0, none, -1, 0, Nat.zero_le _, Nat.zero_le _, rfl, rfl, rfl, rfl, Lib.hid (.inl ⟨rfl, rfl, rfl⟩), Lib.hid (Gr.start az s), Lib.hid (Below.refl _ _)⟩
  case round =>
    obtain ⟨i, k, o, z, m, hi, hk, rfl, rfl, rfl, rfl, HO, HG, HB⟩ := hrel
    by_cases hkm : k < M
    · have hkI : (k : Int) < (q.size : Int) := by have := HSZ.out; omega
      by_cases hin : i < N
      · have hiI : (i : Int) < (N : Int) := by omega
        obtain ⟨b, off, a, cs, rfl, hb, ha, hr, hat⟩ := atm_look (HS.out.below HB.out) HN.out.symm hin
        obtain ⟨F, n, cF, T, dT, rfl, hr2⟩ := hr
        have c0 : wr.cell? ⟨b, off + i * 5, none⟩ = some (.bool a.star) := by have := hat 0 _ rfl; simpa using this
        cases hst : a.star with
        | true =>
          rw [hst] at c0
          have HG2 := Lib.hid (HG.out.starred ha hst (by rw [← HM.out]; exact hk))
          have hmk := HG.out.mark HO.out
          have HMS := Lib.hid (greed_star (N := N) (M := M) hin hmk)
          clear hst ha hr2 hat hmk
          go_wp2_with fail
          go_roundw
          case rel => exact ⟨i + 1, k, some (i, k), i, k, by omega, hk, by go_num, rfl, rfl, rfl, Lib.hid (.inr ⟨i, rfl, rfl⟩), HG2, HB⟩
          case measure => simp only [intOf]; have := HMS.out; simpa using this
        | false =>
          rw [hst] at c0
          obtain ⟨y, hy⟩ : ∃ y, s[k]? = some y := ⟨_, List.getElem?_eq_getElem (by have := HM.out; omega)⟩
          obtain ⟨tk, htk⟩ : ∃ tk, tk = a.takes y := ⟨_, rfl⟩
          have hrd : atmR.R wr no _ a := ⟨F, n, cF, T, dT, rfl, hr2⟩
          obtain ⟨KX, hKX⟩ : ∃ KX : Array Value, KX = #[.bool a.star, .bool a.one, .bool a.no, .slice F n cF, .slice T n dT] := ⟨_, rfl⟩
          have HTK := Lib.hid (fun w' (h : Below wr.heap.size wr w') => takes_any _ a y w' (atmR.stable hrd (Moves.of_below h)))
          have HAT := Lib.hid (show At wr ⟨b, off + i * 5, none⟩ KX by rw [hKX]; exact hat)
          have HI := Lib.hid (show (Tryd.prog.info? 76).map (·.size) = some KX.size by rw [hKX]; kernel_rfl)
          rw [← htk] at HTK
          have HTK := Lib.hid (show ∀ w', Below wr.heap.size wr w' → Calls Tryd.prog 46 #[.agg KX, .int .u8 (y.toNat : Int)] w' fun e w'' => e = .returned (.bool tk) ∧ Below w'.heap.size w' w'' by rw [hKX]; exact HTK.out)
          have hk2 : k < q.size := by have := HSZ.out; omega
          have hqk : q[k] = y := by
            have h1 := HQ.out
            subst h1
            have h2 : s[k]? = some ((strL s)[k]) := by
              rw [List.getElem?_eq_getElem (show k < s.length by have := HM.out; omega)]; rfl
            rw [hy] at h2; exact (Option.some.inj h2).symm
          have HY := Lib.hid hy
          have HA := Lib.hid ha
          have HST := Lib.hid hst
          have HTE := Lib.hid htk
          clear hrd hr2 hat hKX hy ha hst htk
          go_upto_region 8 with fail
          go_cut [29] (fun v wx => v = .bool tk ∧ Hid (Below w.heap.size w wx))
          case first =>
            have hcls : Below wr.heap.size wr wr.drew := Same.below ⟨1, rfl⟩ _
            refine wp_region_held (S := fun w' => Below wr.heap.size wr w') (by kernel_rfl) ?_
            change wpAnyH _ _ _ _ _ _ _ _ (World.drew _)
            refine held_take (i := 0) (v := ?_) (a' := ?_) rfl (by kernel_rfl) (by kernel_rfl) (by kernel_rfl) (fun _ _ _ h => h) (by rfl) hcls ?_ ?_ ?_
            rotate_left 2
            · (intro w hS; go_simp; try with_reducible rfl)
            · (go_simp; try with_reducible rfl)
            refine held_take (i := 1) (v := ?_) (a' := ?_) rfl (by kernel_rfl) (by kernel_rfl) (by kernel_rfl) (fun _ _ _ h => h) (by rfl) hcls ?_ ?_ ?_
            rotate_left 2
            · (intro w hS; go_simp; try with_reducible rfl)
            · (go_simp; try with_reducible rfl)
            refine held_take (i := 2) (v := ?_) (a' := ?_) rfl (by kernel_rfl) (by kernel_rfl) (by kernel_rfl) (fun _ _ _ h => h) (by rfl) hcls ?_ ?_ ?_
            rotate_left 2
            · (intro w hS; go_simp; try with_reducible rfl)
            · (go_simp; try with_reducible rfl)
            refine held_take (i := 3) (v := ?_) (a' := ?_) rfl (by kernel_rfl) (by kernel_rfl) (by kernel_rfl) (fun _ _ _ h => h) (by rfl) hcls ?_ ?_ ?_
            rotate_left 2
            · (intro w hS; go_simp; try with_reducible rfl)
            · (go_simp; try with_reducible rfl)
            refine held_take (i := 4) (v := ?_) (a' := ?_) rfl (by kernel_rfl) (by kernel_rfl) (by kernel_rfl) (fun _ _ _ h => h) (by rfl) hcls ?_ ?_ ?_
            rotate_left 2
            · (intro w hS; go_simp; try with_reducible rfl)
            · (go_simp; try with_reducible rfl)
            refine held_take (i := 5) (v := ?_) (a' := ?_) rfl (by kernel_rfl) (by kernel_rfl) (by kernel_rfl) (fun _ _ _ h => h) (by rfl) hcls ?_ ?_ ?_
            rotate_left 2
            · (intro w hS; go_simp; try with_reducible rfl)
            · (go_simp; try with_reducible rfl)
            refine held_take (i := 6) (v := ?_) (a' := ?_) rfl (by kernel_rfl) (by kernel_rfl) (by kernel_rfl) (fun _ _ _ h => h) (by rfl) hcls ?_ ?_ ?_
            rotate_left 2
            · (intro w hS; go_simp; try with_reducible rfl)
            · (go_simp; try with_reducible rfl)
            refine held_take (i := 7) (v := ?_) (a' := ?_) rfl (by kernel_rfl) (by kernel_rfl) (by kernel_rfl) (fun _ _ _ h => h) (by rfl) hcls ?_ ?_ ?_
            rotate_left 2
            · (intro w hS; go_simp; try with_reducible rfl)
            · (go_simp; try with_reducible rfl)
            refine held_take (i := 8) (v := ?_) (a' := ?_) rfl (by kernel_rfl) (by kernel_rfl) (by kernel_rfl) (fun _ _ _ h => h) (by rfl) hcls ?_ ?_ ?_
            rotate_left 2
            · (intro w hS; refine exec_load_at 76 (.tmp 37) ?_ b (off + i * 5) ?_ KX _ (HAT.out.below hS hb) Tryd.underlying76 rfl HI.out; exact rfl; exact rfl)
            · (go_simp; try with_reducible rfl)
            refine held_take (i := 9) (v := ?_) (a' := ?_) rfl (by kernel_rfl) (by kernel_rfl) (by kernel_rfl) (fun _ _ _ h => h) (by rfl) hcls ?_ ?_ ?_
            rotate_left 2
            · (intro w hS; go_simp; try with_reducible rfl)
            · (go_simp; try with_reducible rfl)
            refine held_take (i := 10) (v := ?_) (a' := ?_) rfl (by kernel_rfl) (by kernel_rfl) (by kernel_rfl) (fun _ _ _ h => h) (by rfl) hcls ?_ ?_ ?_
            rotate_left 2
            · (intro w hS; go_simp; try with_reducible rfl)
            · (go_simp; try with_reducible rfl)
            refine held_take (i := 11) (v := ?_) (a' := ?_) rfl (by kernel_rfl) (by kernel_rfl) (by kernel_rfl) (fun _ _ _ h => h) (by rfl) hcls ?_ ?_ ?_
            rotate_left 2
            · (intro w hS; go_simp; try with_reducible rfl)
            · (go_simp; try with_reducible rfl)
            refine held_ready (rs := [12]) (by kernel_rfl) (by simp) ?_
            refine AllHeld.cons rfl (fun KR hKR => ?_) ?_
            · go_simp
              refine (HTK.out _ hcls).mono ?_
              rintro e w2 ⟨rfl, hb2⟩
              have hc2 := hcls.trans (hb2.mono hcls.size)
              refine hKR _ _ hc2 ?_
              clear hKR KR
              refine held_take (i := 13) (v := ?_) (a' := ?_) rfl (by kernel_rfl) (by kernel_rfl) (by kernel_rfl) (fun _ _ _ h => h) (by rfl) hc2 ?_ ?_ ?_
              rotate_left 2
              · (intro w hS; go_simp; try with_reducible rfl)
              · (go_simp; try with_reducible rfl)
              refine held_take (i := 14) (v := ?_) (a' := ?_) rfl (by kernel_rfl) (by kernel_rfl) (by kernel_rfl) (fun _ _ _ h => h) (by rfl) hc2 ?_ ?_ ?_
              rotate_left 2
              · (intro w hS; go_simp; try with_reducible rfl)
              · (go_simp; try with_reducible rfl)
              refine wpAnyH_done (by kernel_rfl) ?_ _
              go_wp2_with fail
              go_meet
              case rel => exact ⟨rfl, Lib.hid (HB.out.trans (hc2.mono HB.out.size))⟩
            exact AllHeld.nil
          case rest =>
            obtain ⟨rfl, HBX⟩ := hcut
            clear c0 hqk hk2
            cases tk with
            | true =>
              have HG2 := Lib.hid (HG.out.take HA.out HY.out HST.out HTE.out.symm)
              have HMS := Lib.hid (greed_take (N := N) (M := M) (m := m) hin hkm)
              go_wp2_with fail
              go_roundw
              case rel => exact ⟨i + 1, k + 1, o, z, m, by omega, by omega, by go_num, rfl, rfl, by go_num, HO, HG2, HBX⟩
              case measure => simp only [intOf]; have := HMS.out; simpa using this
            | false =>
              have HNO := Lib.hid (show ∀ a', az[i]? = some a' → a'.star = false ∧ ∀ y', s[k]? = some y' → a'.takes y' = false from fun a' h => by
                rw [HA.out] at h; injection h with h; subst h
                exact ⟨HST.out, fun y' h => by rw [HY.out] at h; injection h with h; subst h; exact HTE.out.symm⟩)
              rcases HO.out with ⟨ho, hz, hm⟩ | ⟨j, ho, hz⟩
              · subst ho hz hm
                have HRR := Lib.hid (show R = false by rw [HR.out]; exact HG.out.fail (by rw [← HM.out]; exact hkm) HNO.out)
                go_wp2_with fail
                go_ret
                rw [HRR.out]
                exact ⟨rfl, HBX.out⟩
              · subst ho hz
                obtain ⟨hg2, hm2⟩ := HG.out.back (by rw [← HM.out]; exact hkm) HNO.out
                rw [← HM.out] at hm2
                have HG2 := Lib.hid hg2
                have HMS := Lib.hid (greed_back (N := N) (M := M) (i := i) (k := k) (j := j) hm2)
                have hjN : j + 1 ≤ N := by
                  obtain ⟨a', u, v, _, h1, _⟩ := HG.out
                  have : j < az.length := by
                    apply Classical.byContradiction; intro h
                    rw [List.drop_eq_nil_of_le (by omega)] at h1; cases h1
                  have := HN.out; omega
                have hz0 : (0 : Int) ≤ (j : Int) := by omega
                clear hg2
                go_wp2_with fail
                go_roundw
                case rel => exact ⟨j + 1, m + 1, some (j, m + 1), j, m + 1, hjN, by omega, by go_num, rfl, by go_num, by go_num, Lib.hid (.inr ⟨j, rfl, rfl⟩), HG2, HBX⟩
                case measure => simp only [intOf]; have := HMS.out; simpa using this
      · have hiI : ¬ (i : Int) < (N : Int) := by omega
        have HNO := Lib.hid (show ∀ a', az[i]? = some a' → a'.star = false ∧ ∀ y', s[k]? = some y' → a'.takes y' = false from fun a' h => by
          rw [List.getElem?_eq_none (by have := HN.out; omega)] at h; cases h)
        go_upto_region 8 with fail
        go_cut [29] (fun v wx => v = .bool false ∧ Hid (Below w.heap.size w wx))
        case first =>
          have hcls : Below wr.heap.size wr wr.drew := Same.below ⟨1, rfl⟩ _
          refine wp_region_held (S := fun w' => Below wr.heap.size wr w') (by kernel_rfl) ?_
          change wpAnyH _ _ _ _ _ _ _ _ (World.drew _)
          refine held_take (i := 0) (v := ?_) (a' := ?_) rfl (by kernel_rfl) (by kernel_rfl) (by kernel_rfl) (fun _ _ _ h => h) (by rfl) hcls ?_ ?_ ?_
          rotate_left 2
          · (intro w hS; go_simp; try with_reducible rfl)
          · (go_simp; try with_reducible rfl)
          refine held_take (i := 1) (v := ?_) (a' := ?_) rfl (by kernel_rfl) (by kernel_rfl) (by kernel_rfl) (fun _ _ _ h => h) (by rfl) hcls ?_ ?_ ?_
          rotate_left 2
          · (intro w hS; go_simp; try with_reducible rfl)
          · (go_simp; try with_reducible rfl)
          refine held_take (i := 2) (v := ?_) (a' := ?_) rfl (by kernel_rfl) (by kernel_rfl) (by kernel_rfl) (fun _ _ _ h => h) (by rfl) hcls ?_ ?_ ?_
          rotate_left 2
          · (intro w hS; go_simp; try with_reducible rfl)
          · (go_simp; try with_reducible rfl)
          refine held_take (i := 3) (v := ?_) (a' := ?_) rfl (by kernel_rfl) (by kernel_rfl) (by kernel_rfl) (fun _ _ _ h => h) (by rfl) hcls ?_ ?_ ?_
          rotate_left 2
          · (intro w hS; go_simp; try with_reducible rfl)
          · (go_simp; try with_reducible rfl)
          refine held_take (i := 4) (v := ?_) (a' := ?_) rfl (by kernel_rfl) (by kernel_rfl) (by kernel_rfl) (fun _ _ _ h => h) (by rfl) hcls ?_ ?_ ?_
          rotate_left 2
          · (intro w hS; go_simp; try with_reducible rfl)
          · (go_simp; try with_reducible rfl)
          refine held_no (i := 5) (a' := ?_) rfl (by kernel_rfl) (by kernel_rfl) (by kernel_rfl) (fun _ _ _ h => h) (by rfl) hcls ?_ ?_
          rotate_left 1
          · (go_simp; try with_reducible rfl)
          refine held_no (i := 6) (a' := ?_) rfl (by kernel_rfl) (by kernel_rfl) (by kernel_rfl) (fun _ _ _ h => h) (by rfl) hcls ?_ ?_
          rotate_left 1
          · (go_simp; try with_reducible rfl)
          refine held_no (i := 7) (a' := ?_) rfl (by kernel_rfl) (by kernel_rfl) (by kernel_rfl) (fun _ _ _ h => h) (by rfl) hcls ?_ ?_
          rotate_left 1
          · (go_simp; try with_reducible rfl)
          refine held_no (i := 8) (a' := ?_) rfl (by kernel_rfl) (by kernel_rfl) (by kernel_rfl) (fun _ _ _ h => h) (by rfl) hcls ?_ ?_
          rotate_left 1
          · (go_simp; try with_reducible rfl)
          refine held_no (i := 9) (a' := ?_) rfl (by kernel_rfl) (by kernel_rfl) (by kernel_rfl) (fun _ _ _ h => h) (by rfl) hcls ?_ ?_
          rotate_left 1
          · (go_simp; try with_reducible rfl)
          refine held_no (i := 10) (a' := ?_) rfl (by kernel_rfl) (by kernel_rfl) (by kernel_rfl) (fun _ _ _ h => h) (by rfl) hcls ?_ ?_
          rotate_left 1
          · (go_simp; try with_reducible rfl)
          refine held_no (i := 11) (a' := ?_) rfl (by kernel_rfl) (by kernel_rfl) (by kernel_rfl) (fun _ _ _ h => h) (by rfl) hcls ?_ ?_
          rotate_left 1
          · (go_simp; try with_reducible rfl)
          refine held_no (i := 12) (a' := ?_) rfl (by kernel_rfl) (by kernel_rfl) (by kernel_rfl) (fun _ _ _ h => h) (by rfl) hcls ?_ ?_
          rotate_left 1
          · (go_simp; try with_reducible rfl)
          refine held_take (i := 13) (v := ?_) (a' := ?_) rfl (by kernel_rfl) (by kernel_rfl) (by kernel_rfl) (fun _ _ _ h => h) (by rfl) hcls ?_ ?_ ?_
          rotate_left 2
          · (intro w hS; go_simp; try with_reducible rfl)
          · (go_simp; try with_reducible rfl)
          refine held_take (i := 14) (v := ?_) (a' := ?_) rfl (by kernel_rfl) (by kernel_rfl) (by kernel_rfl) (fun _ _ _ h => h) (by rfl) hcls ?_ ?_ ?_
          rotate_left 2
          · (intro w hS; go_simp; try with_reducible rfl)
          · (go_simp; try with_reducible rfl)
          refine wpAnyH_done (by kernel_rfl) ?_ _
          go_wp2_with fail
          go_meet
          case rel => exact ⟨rfl, Lib.hid (HB.out.trans (hcls.mono HB.out.size))⟩
        case rest =>
          obtain ⟨rfl, HBX⟩ := hcut
          rcases HO.out with ⟨ho, hz, hm⟩ | ⟨j, ho, hz⟩
          · subst ho hz hm
            have HRR := Lib.hid (show R = false by rw [HR.out]; exact HG.out.fail (by rw [← HM.out]; exact hkm) HNO.out)
            go_wp2_with fail
            go_ret
            rw [HRR.out]
            exact ⟨rfl, HBX.out⟩
          · subst ho hz
            obtain ⟨hg2, hm2⟩ := HG.out.back (by rw [← HM.out]; exact hkm) HNO.out
            rw [← HM.out] at hm2
            have HG2 := Lib.hid hg2
            have HMS := Lib.hid (greed_back (N := N) (M := M) (i := i) (k := k) (j := j) hm2)
            have hjN : j + 1 ≤ N := by
              obtain ⟨a', u, v, _, h1, _⟩ := HG.out
              have : j < az.length := by
                apply Classical.byContradiction; intro h
                rw [List.drop_eq_nil_of_le (by omega)] at h1; cases h1
              have := HN.out; omega
            have hz0 : (0 : Int) ≤ (j : Int) := by omega
            clear hg2
            go_wp2_with fail
            go_roundw
            case rel => exact ⟨j + 1, m + 1, some (j, m + 1), j, m + 1, hjN, by omega, by go_num, rfl, by go_num, by go_num, Lib.hid (.inr ⟨j, rfl, rfl⟩), HG2, HBX⟩
            case measure => simp only [intOf]; have := HMS.out; simpa using this
    · have hkI : ¬ (k : Int) < (q.size : Int) := by have := HSZ.out; omega
      have HLA := Lib.hid (show R = mat Atm.star Atm.takes (az.drop i) [] by rw [HR.out]; exact HG.out.last (by have := HM.out; omega))
      clear HG HO
      go_wp2_with fail
      obtain ⟨wL, hwL⟩ : ∃ wo : World, wo = wr := ⟨_, rfl⟩
      subst hwL
      go_loopw [5] (fun s5 wr => ∃ i' : Nat, i' ≤ N ∧ s5 = .int .i64 (i' : Int) ∧ Hid (R = mat Atm.star Atm.takes (az.drop i') []) ∧ wL = wr) (fun s5 wr => N - (intOf s5).toNat)
      case atStart => exact ⟨i, hi, rfl, HLA, rfl⟩
      case round =>
        obtain ⟨i', hi', rfl, HLB, rfl⟩ := hrel
        by_cases hin : i' < N
        · have hiI : (i' : Int) < (N : Int) := by omega
          obtain ⟨b, off, a, cs, rfl, hb, ha, hr, hat⟩ := atm_look (HS.out.below HB.out) HN.out.symm hin
          obtain ⟨F, n, cF, T, dT, rfl, hr2⟩ := hr
          have hd := drop_cons ha
          cases hst : a.star with
          | true =>
            have c0 : wL.cell? ⟨b, off + i' * 5, none⟩ = some (.bool true) := by have := hat 0 _ rfl; rw [hst] at this; simpa using this
            have HLC := Lib.hid (show R = mat Atm.star Atm.takes (az.drop (i' + 1)) [] by rw [HLB.out, hd, mat_star_nil _ _ hst])
            clear hst ha hr2 hat hd
            go_wp2_with fail
            go_roundw
            case rel => exact ⟨i' + 1, by omega, by go_num, HLC, trivial⟩
            case measure => simp [intOf]; omega
          | false =>
            have c0 : wL.cell? ⟨b, off + i' * 5, none⟩ = some (.bool false) := by have := hat 0 _ rfl; rw [hst] at this; simpa using this
            have HRR := Lib.hid (show R = false by rw [HLB.out, hd, mat_sign_nil _ _ hst])
            have hne : ((i' : Int) == (N : Int)) = false := by simp; omega
            clear hst ha hr2 hat hd
            go_wp2_with fail
            go_ret
            rw [HRR.out]
            exact ⟨rfl, HB.out⟩
        · have hiI : ¬ (i' : Int) < (N : Int) := by omega
          have HRR := Lib.hid (show R = true by rw [HLB.out, List.drop_eq_nil_of_le (by have := HN.out; omega)]; simp [mat])
          have heq : ((i' : Int) == (N : Int)) = true := by simp; omega
          go_wp2_with fail
          go_ret
          rw [HRR.out]
          exact ⟨rfl, HB.out⟩
theorem gname_any (A : Option Addr) (N c : Nat) (az : List Atm) (s : List UInt8) (w : World) (hs : SlOf atmR w no A az) (hn : N = az.length) (hnl : N ≤ 1000000) (hsl : s.length ≤ 1000000) :
    Calls Tryd.prog 30 #[.slice A N c, .string (strL s)] w fun e w' => e = .returned (.bool (nameM az s)) ∧ Below w.heap.size w w' := gname_big A N c az s w hs hn hnl (by omega)
end Go.Proofs.YtlddnghfjdjglaaDoor
