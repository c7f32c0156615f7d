/- glob's signs: takes. -/
import Derived.Test.YtlddnghfjdjglaaDoorGlobPat
set_option linter.unusedVariables false
set_option linter.unusedSimpArgs false
namespace Go.Proofs.YtlddnghfjdjglaaDoor
open Go.RowKit

theorem byte_look {w : World} {av : Av} {A : Option Addr} {l : List UInt8} {n i : Nat} (h : SlOf byteR w av A l) (hl : l.length = n) (hi : i < n) :
    ∃ b off x, A = some ⟨b, off, none⟩ ∧ b < w.heap.size ∧ l[i]? = some x ∧ w.cell? ⟨b, off + i, none⟩ = some (.int .u8 (x.toNat : Int)) := by
  obtain ⟨b, off, cs, x, e, hb, hx, hr, hc, _⟩ := h.look hl hi
  have hr : cs = _ := hr
  subst hr
  have := hc 0 _ rfl
  exact ⟨b, off, x, e, hb, hx, by have h1 : i * byteR.k + 0 = i := by show i * 1 + 0 = i; omega
                                  rw [h1] at this; exact this⟩
theorem inRs_step {rs : List (UInt8 × UInt8)} {k : Nat} {p : UInt8 × UInt8} {x : UInt8} (h : rs[k]? = some p) : inRs (rs.drop k) x = (decide (p.1 ≤ x) && decide (x ≤ p.2) || inRs (rs.drop (k + 1)) x) := by
  rw [drop_cons h]; rfl

set_option maxRecDepth 100000 in
set_option maxHeartbeats 2000000 in
theorem takes_any (cs : List Value) (a : Atm) (x : UInt8) (w : World) (h : atmR.R w no cs a) :
    Calls Tryd.prog 46 #[.agg cs.toArray, .int .u8 (x.toNat : Int)] w fun e w' => e = .returned (.bool (a.takes x)) ∧ Below w.heap.size w w' := by
  obtain ⟨F, n, c, T, d, rfl, hn, h1, h2, h3, h4, h5, h6⟩ := h
  obtain ⟨st, on, nt, rs⟩ := a
  obtain ⟨w1, hw1⟩ : ∃ w1, w1 = w.alloc (.cells #[.bool st, .bool on, .bool nt, .slice F n c, .slice T n d] 76) := ⟨_, rfl⟩
  have hb : Below w.heap.size w w1 := by rw [hw1]; exact (Below.refl _ _).alloc (Nat.le_refl _) _
  have HX := Lib.hid (show Blk w1 w.heap.size 76 #[.bool st, .bool on, .bool nt, .slice F n c, .slice T n d] by rw [hw1]; exact Blk.new w _ _)
  have HF := Lib.hid (h5.below hb)
  have HT := Lib.hid (h6.below hb)
  have HN := Lib.hid hn
  have HL := Lib.hid (Nat.le_trans h1 h2)
  have HB := Lib.hid hb
  have HR := Lib.hid (show Atm.takes ⟨st, on, nt, rs⟩ x = if on then true else if inRs rs x then !nt else nt from rfl)
  obtain ⟨R, hR⟩ : ∃ R, R = Atm.takes ⟨st, on, nt, rs⟩ x := ⟨_, rfl⟩
  rw [← hR] at HR ⊢
  clear hn h1 h2 h3 h4 h5 h6 hb hR
  go_enter Tryd.func46, Tryd.ntmps46
  go_upto_region 1 with fail
  change Code.wp _ _ _ _ (w.alloc (.cells #[.bool st, .bool on, .bool nt, .slice F n c, .slice T n d] 76))
  rw [← hw1]
  clear hw1
  generalize hg : w.heap.size = g at *
  have HG := Lib.hid hg
  clear hg
  have c1 : w1.cell? ⟨g, 1, none⟩ = some (.bool on) := HX.out.cell 1
  have c2 : w1.cell? ⟨g, 2, none⟩ = some (.bool nt) := HX.out.cell 2
  have c3 : w1.cell? ⟨g, 3, none⟩ = some (.slice F n c) := HX.out.cell 3
  have c4 : w1.cell? ⟨g, 4, none⟩ = some (.slice T n d) := HX.out.cell 4
  cases on with
  | true =>
    have HRR := Lib.hid (show R = true by rw [HR.out, if_pos rfl])
    go_wp2_with fail
    go_ret
    rw [HRR.out]
    rw [HG.out]
    exact ⟨rfl, HB.out⟩
  | false =>
    have HRR := Lib.hid (show R = if inRs rs x then !nt else nt by rw [HR.out]; rfl)
    clear HR
    go_wp2_with fail
    go_loopw [11] (fun s11 wr => ∃ k : Nat, k ≤ n ∧ s11 = .int .i64 (k : Int) ∧ Hid (inRs (rs.drop k) x = inRs rs x) ∧ w1 = wr) (fun s11 wr => n - (intOf s11).toNat)
    case atStart => exact ⟨0, Nat.zero_le _, rfl, Lib.hid rfl, rfl⟩
    case round =>
      obtain ⟨k, hk, rfl, HI, rfl⟩ := hrel
      have hn1 : n ≤ 9223372036854775807 := by have h1 := HL.out; simp only [maxLen] at h1; omega
      by_cases hlt : k < n
      · have hltI : (k : Int) < (n : Int) := by omega
        obtain ⟨p, hp⟩ : ∃ p, rs[k]? = some p := ⟨_, List.getElem?_eq_getElem (by have h1 : n = rs.length := HN.out; omega)⟩
        obtain ⟨b1, o1, x1, rfl, hb1, hx1, hc1⟩ := byte_look HF.out (n := n) (by rw [List.length_map]; exact HN.out.symm) hlt
        obtain ⟨b2, o2, x2, rfl, hb2, hx2, hc2⟩ := byte_look HT.out (n := n) (by rw [List.length_map]; exact HN.out.symm) hlt
        have e1 : x1 = p.1 := by rw [List.getElem?_map, hp] at hx1; exact (Option.some.inj hx1).symm
        have e2 : x2 = p.2 := by rw [List.getElem?_map, hp] at hx2; exact (Option.some.inj hx2).symm
        have HS := Lib.hid (show inRs rs x = (decide (x1 ≤ x) && decide (x ≤ x2) || inRs (rs.drop (k + 1)) x) by rw [← HI.out, inRs_step hp, e1, e2])
        clear hx1 hx2 e1 e2 hp
        by_cases l1 : x1 ≤ x
        · have l1I : (x1.toNat : Int) ≤ (x.toNat : Int) := by have := UInt8.le_iff_toNat_le.1 l1; omega
          by_cases l2 : x ≤ x2
          · have l2I : (x.toNat : Int) ≤ (x2.toNat : Int) := by have := UInt8.le_iff_toNat_le.1 l2; omega
            have HV := Lib.hid (show R = !nt by rw [HRR.out, HS.out]; simp [l1, l2])
            clear l1 l2
            go_wp2_with fail
            go_ret
            rw [HV.out]
            rw [HG.out]
            exact ⟨rfl, HB.out⟩
          · have l2I : ¬ (x.toNat : Int) ≤ (x2.toNat : Int) := by have : ¬ x.toNat ≤ x2.toNat := fun h => l2 (UInt8.le_iff_toNat_le.2 h); omega
            have HV := Lib.hid (show inRs (rs.drop (k + 1)) x = inRs rs x by rw [HS.out]; simp [l2])
            clear l1 l2
            go_wp2_with fail
            go_roundw
            case rel => exact ⟨k + 1, by omega, by go_num, HV, trivial⟩
            case measure => simp [intOf]; omega
        · have l1I : ¬ (x1.toNat : Int) ≤ (x.toNat : Int) := by have : ¬ x1.toNat ≤ x.toNat := fun h => l1 (UInt8.le_iff_toNat_le.2 h); omega
          have HV := Lib.hid (show inRs (rs.drop (k + 1)) x = inRs rs x by rw [HS.out]; simp [l1])
          clear l1
          go_wp2_with fail
          go_roundw
          case rel => exact ⟨k + 1, by omega, by go_num, HV, trivial⟩
          case measure => simp [intOf]; omega
      · have hltI : ¬ (k : Int) < (n : Int) := by omega
        have HV := Lib.hid (show R = nt by
          have : inRs (rs.drop k) x = false := by rw [List.drop_eq_nil_of_le (by have h1 : n = rs.length := HN.out; omega)]; rfl
          rw [HRR.out, ← HI.out, this]; rfl)
        go_wp2_with fail
        go_ret
        rw [HV.out]
        rw [HG.out]
        exact ⟨rfl, HB.out⟩
end Go.Proofs.YtlddnghfjdjglaaDoor
