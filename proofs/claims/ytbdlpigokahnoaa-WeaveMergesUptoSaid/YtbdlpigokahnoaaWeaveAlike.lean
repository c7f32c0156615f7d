/- Alike of the document. -/
import Derived.Test.YtbdlpigokahnoaaWeaveParts
import Derived.Deep.RegionWith
set_option linter.unusedVariables false
namespace Go.Proofs.Ytbdlpigokahnoaa
open Go.RowKit

theorem pt_ne {ps qs : List Pt} {k : Nat} {x y : Pt} (ha : ps[k]? = some x) (hb : qs[k]? = some y) (hne : ¬ x = y) : decide (ps = qs) = false := by
  rw [decide_eq_false_iff_not]; rintro rfl
  rw [ha] at hb; injection hb with h; exact hne h
theorem pt_snoc {a b : List Pt} {k : Nat} {x : Pt} (h : a.take k = b.take k) (ha : a[k]? = some x) (hb : b[k]? = some x) : a.take (k + 1) = b.take (k + 1) := by
  rw [List.take_add_one, List.take_add_one, ha, hb, h]

set_option maxHeartbeats 40000000 in
set_option maxRecDepth 100000 in
theorem alike_any (A B : Option Addr) (m cA r cB : Nat) (ps qs : List Pt) (w : World) (hs : SlOf ptR w no A ps) (hl : ps.length = m) (ht : SlOf ptR w no B qs) (hr : qs.length = r) (hm : m ≤ 100000000) (hr' : r ≤ 100000000)
    (hps : ∀ p ∈ ps, p.2.1.length ≤ 100000000 ∧ p.2.2.1.length ≤ 100000000 ∧ p.2.2.2.length ≤ 100000000) (hqs : ∀ p ∈ qs, p.2.1.length ≤ 100000000 ∧ p.2.2.1.length ≤ 100000000 ∧ p.2.2.2.length ≤ 100000000) :
    Calls Try.prog 23 #[.slice A m cA, .slice B r cB] w fun e w' => e = .returned (.bool (decide (ps = qs))) ∧ Same w w' := by
  by_cases hmr : m = r
  · subst hmr
    have HP := Lib.hid hps
    have HQ := Lib.hid hqs
    have HL := Lib.hid hl
    have HR := Lib.hid hr
    have d0 : (!decide ((m : Int) = (m : Int))) = false := by simp
    clear hps hqs hl hr
    go_enter Try.func23, Try.ntmps23
    go_wp2_with fail
    go_loopw [5] (fun k wr => ∃ K : Nat, k = .int .i64 K ∧ K ≤ m ∧ Hid (ps.take K = qs.take K) ∧ Same w wr) (fun k _ => m - (intOf k).toNat)
    case atStart => exact ⟨0, rfl, by omega, Lib.hid (by simp), Same.refl _⟩
    case round =>
      obtain ⟨K, rfl, hK, HE, hsr⟩ := hrel
      by_cases hKm : K < m
      · obtain ⟨b1, o1, z1, x1, y1, t1, A1, A2, A3, n1, n2, n3, c1, c2, c3, rfl, hb1, hx1, hw1, k0, k1, k2, k3, s1, s2, s3, _⟩ := pt_look hs HL.out hKm
        obtain ⟨b2, o2, z2, x2, y2, t2, B1, B2, B3, m1, m2, m3, d1, d2, d3, rfl, hb2, hx2, hw2, j0, j1, j2, j3, r1, r2, r3, _⟩ := pt_look ht HR.out hKm
        have k0 := (hsr.cell _).trans k0
        have k1 := (hsr.cell _).trans k1
        have k2 := (hsr.cell _).trans k2
        have k3 := (hsr.cell _).trans k3
        have j0 := (hsr.cell _).trans j0
        have j1 := (hsr.cell _).trans j1
        have j2 := (hsr.cell _).trans j2
        have j3 := (hsr.cell _).trans j3
        have hp : x1.length ≤ 100000000 ∧ y1.length ≤ 100000000 ∧ t1.length ≤ 100000000 := HP.out _ (List.mem_of_getElem? hx1)
        have hq : x2.length ≤ 100000000 ∧ y2.length ≤ 100000000 ∧ t2.length ≤ 100000000 := HQ.out _ (List.mem_of_getElem? hx2)
        have Q1 := Lib.hid fun q => refSame_any A1 B1 n1 c1 m1 d1 x1 x2 (wr.drewN q) ((hsr.drewN q).sl s1.str) ((hsr.drewN q).sl r1.str) (by have := s1.len; omega) (by have := r1.len; omega)
        have Q2 := Lib.hid fun q => refSame_any A2 B2 n2 c2 m2 d2 y1 y2 (wr.drewN q) ((hsr.drewN q).sl s2.str) ((hsr.drewN q).sl r2.str) (by have := s2.len; omega) (by have := r2.len; omega)
        have Q3 := Lib.hid fun q => refSame_any A3 B3 n3 c3 m3 d3 t1 t2 (wr.drewN q) ((hsr.drewN q).sl s3.str) ((hsr.drewN q).sl r3.str) (by have := s3.len; omega) (by have := r3.len; omega)
        have HX1 := Lib.hid hx1
        have HX2 := Lib.hid hx2
        have HS := Lib.hid hsr
        have hlt' : (K : Int) < (m : Int) := by omega
        have hk1 : IntKind.i64.wrap ((K : Int) + 1) = ((K + 1 : Nat) : Int) := by rw [IntWalk.i64_in _ (by omega)]; rfl
        clear s1 s2 s3 r1 r2 r3 hx1 hx2 hp hq hsr hw1 hw2
        by_cases hz : z1 = z2
        · subst hz
          generalize e1 : sameS x1 x2 = v1 at *
          generalize e2 : sameS y1 y2 = v2 at *
          generalize e3 : sameS t1 t2 = v3 at *
          have E1 := Lib.hid e1
          have E2 := Lib.hid e2
          have E3 := Lib.hid e3
          clear e1 e2 e3
          have N1 : sameS x1 x2 = false → ¬ (z1, x1, y1, t1) = (z1, x2, y2, t2) := by
            intro h e; simp only [Prod.mk.injEq, true_and] at e; rw [e.1, sameS_self] at h; cases h
          have N2 : sameS y1 y2 = false → ¬ (z1, x1, y1, t1) = (z1, x2, y2, t2) := by
            intro h e; simp only [Prod.mk.injEq, true_and] at e; rw [e.2.1, sameS_self] at h; cases h
          have N3 : sameS t1 t2 = false → ¬ (z1, x1, y1, t1) = (z1, x2, y2, t2) := by
            intro h e; simp only [Prod.mk.injEq, true_and] at e; rw [e.2.2, sameS_self] at h; cases h
          have F : ¬ (z1, x1, y1, t1) = (z1, x2, y2, t2) → Hid (decide (ps = qs) = false) := fun h => Lib.hid (pt_ne HX1.out HX2.out h)
          have G : sameS x1 x2 = true → sameS y1 y2 = true → sameS t1 t2 = true → Hid (ps.take (K + 1) = qs.take (K + 1)) := fun h1 h2 h3 => Lib.hid (by
            have g1 := sameS_iff.1 h1
            have g2 := sameS_iff.1 h2
            have g3 := sameS_iff.1 h3
            subst g1 g2 g3
            exact pt_snoc HE.out HX1.out HX2.out)
          cases v1
          · have D := F (N1 E1.out)
            clear F G N1 N2 N3
            go_wp2_with fail
            go_quiet (first | (go_at_call_of 25 (Value.slice A1 n1 c1); exact quiet_s (Q1.out _)) | (go_at_call_of 25 (Value.slice A2 n2 c2); exact quiet_s (Q2.out _)) | (go_at_call_of 25 (Value.slice A3 n3 c3); exact quiet_s (Q3.out _)))
            go_wp2_with fail
            go_ret
            exact ⟨by rw [D.out]; rfl, HS.out.drewN _⟩
          · cases v2
            · have D := F (N2 E2.out)
              clear F G N1 N2 N3
              go_wp2_with fail
              go_quiet (first | (go_at_call_of 25 (Value.slice A1 n1 c1); exact quiet_s (Q1.out _)) | (go_at_call_of 25 (Value.slice A2 n2 c2); exact quiet_s (Q2.out _)) | (go_at_call_of 25 (Value.slice A3 n3 c3); exact quiet_s (Q3.out _)))
              go_wp2_with fail
              go_ret
              exact ⟨by rw [D.out]; rfl, HS.out.drewN _⟩
            · cases v3
              · have D := F (N3 E3.out)
                clear F G N1 N2 N3
                go_wp2_with fail
                go_quiet (first | (go_at_call_of 25 (Value.slice A1 n1 c1); exact quiet_s (Q1.out _)) | (go_at_call_of 25 (Value.slice A2 n2 c2); exact quiet_s (Q2.out _)) | (go_at_call_of 25 (Value.slice A3 n3 c3); exact quiet_s (Q3.out _)))
                go_wp2_with fail
                go_ret
                exact ⟨by rw [D.out]; rfl, HS.out.drewN _⟩
              · have D := G E1.out E2.out E3.out
                clear F G N1 N2 N3
                go_wp2_with fail
                go_quiet (first | (go_at_call_of 25 (Value.slice A1 n1 c1); exact quiet_s (Q1.out _)) | (go_at_call_of 25 (Value.slice A2 n2 c2); exact quiet_s (Q2.out _)) | (go_at_call_of 25 (Value.slice A3 n3 c3); exact quiet_s (Q3.out _)))
                go_wp2_with fail
                exact ⟨⟨K + 1, by simp, by omega, D, HS.out.drewN _⟩, by simp [intOf]; omega⟩
        · have D : Hid (decide (ps = qs) = false) := Lib.hid (pt_ne HX1.out HX2.out (fun e => hz (congrArg Prod.fst e)))
          have z3 : decide (z1 = z2) = false := by simpa using hz
          have z4 : (z1 != z2) = true := by simpa using hz
          clear hz
          go_wp2_with fail
          go_quiet (fail)
          go_wp2_with fail
          go_ret
          exact ⟨by rw [D.out]; rfl, HS.out.drewN _⟩
      · obtain rfl : K = m := by omega
        have hlt' : ¬ (K : Int) < (K : Int) := by omega
        have D : Hid (decide (ps = qs) = true) := Lib.hid (by
          rw [decide_eq_true_iff]
          have h := HE.out
          rwa [List.take_of_length_le (by rw [HL.out]; exact Nat.le_refl _), List.take_of_length_le (by rw [HR.out]; exact Nat.le_refl _)] at h)
        go_wp2_with fail
        go_ret
        exact ⟨by rw [D.out]; rfl, hsr⟩
  · have D : Hid (decide (ps = qs) = false) := Lib.hid (by
      rw [decide_eq_false_iff_not]; rintro rfl; omega)
    have d0 : decide ((m : Int) = (r : Int)) = false := by rw [decide_eq_false_iff_not]; omega
    have d1 : decide (m = r) = false := by simpa using hmr
    have d2 : ((m : Int) != (r : Int)) = true := by rw [bne_iff_ne]; omega
    clear hmr hps hqs hl hr hs ht
    go_enter Try.func23, Try.ntmps23
    go_wp2_with fail
    go_ret
    exact ⟨by rw [D.out]; rfl, Same.refl _⟩
end Go.Proofs.Ytbdlpigokahnoaa
