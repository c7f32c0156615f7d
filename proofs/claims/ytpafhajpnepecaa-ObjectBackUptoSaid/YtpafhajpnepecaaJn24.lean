/- Contracts and laws for what the statement reaches, joined: ObjRefGetBlob, ObjRefOrd, RowX. -/
import Derived.Test.YtpafhajpnepecaaJn16
import Derived.Test.YtpafhajpnepecaaJn23
import Derived.Test.YtpafhajpnepecaaJn4
/- towlineref09.GetBlob. -/
set_option linter.unusedVariables false
set_option linter.unusedSimpArgs false
namespace Go.Proofs.Ytpafhajpnepecaa
open Go.RowKit

theorem RIds.lower {w w2 w' : World} {r : Res (List (List UInt8))} {e : Ending} (h : RIds w2 r e w') (hb : Below w.heap.size w w2) : RIds w r e w' := by
  refine ⟨hb.trans (h.1.mono hb.size), ?_⟩
  cases r with
  | error z => exact h.2
  | ok l =>
    obtain ⟨L, c, e1, h1, h2, h3⟩ := h.2
    exact ⟨L, c, e1, h1, h2, h3.stable (Moves.less _ (fun b _ h => Nat.lt_of_lt_of_le h hb.size))⟩

set_option maxRecDepth 100000 in
set_option maxHeartbeats 4000000 in
theorem refGetBlob_any (s : ByteArray) (w : World) : Calls Try.prog 21 #[.string s] w (BlobPost w (getBlob (sB s))) := by
  have hb1 : Below w.heap.size w (w.alloc (.cells zBlob 38)) := (Below.refl _ _).alloc (Nat.le_refl _) _
  have HX1 := Lib.hid (Blk.new w 38 zBlob)
  have HB1 := Lib.hid hb1
  have HOP := Lib.hid (refOpen_any s 2 2 (w.alloc (.cells zBlob 38)) (by omega) (by omega) (by omega))
  obtain ⟨KZ, hKZ⟩ : ∃ KZ, KZ = zBlob := ⟨_, rfl⟩
  have hInfo : ∀ K : Array Value, K.size = 2 → (Try.prog.info? 38).map (·.size) = some K.size := fun K h => by rw [h]; kernel_rfl
  have HIZ := Lib.hid (hInfo KZ (by rw [hKZ]; rfl))
  have HOZ := Lib.hid (show KZ.all (·.oneCell') = true by rw [hKZ]; simp [Value.oneCell'])
  have HSZ := Lib.hid (show zBlob.size = KZ.size by rw [hKZ])
  have HKZ := Lib.hid hKZ
  have HINF := Lib.hid hInfo
  obtain ⟨R, hR⟩ : ∃ R, R = getBlob (sB s) := ⟨_, rfl⟩
  obtain ⟨D, hD⟩ : ∃ D, D = openG (sB s) 2 2 := ⟨_, rfl⟩
  have HR := Lib.hid (show R = bindR D fun vs => bindR (idsG (nthV vs 0) 4096) fun is => blobEnd is (nthV vs 1) by rw [hR, hD]; rfl)
  have HDL := Lib.hid hD
  rw [← hR]
  rw [← hD] at HOP
  clear hR hD hb1 hKZ hInfo
  go_enter Try.func21, Try.ntmps21
  go_upto_region 1 with fail
  change Code.wp _ _ _ _ (w.alloc (.cells zBlob 38))
  generalize w.alloc (.cells zBlob 38) = w1 at *
  generalize hg : w.heap.size = g at *
  have HG := Lib.hid hg
  clear hg
  go_wp2_with fail
  refine HOP.out.mono ?_
  rintro e w2 ⟨hb2, hp⟩
  have hgl := HX1.out.lt
  have HB2 := Lib.hid (HB1.out.trans (hb2.mono (Nat.le_of_lt hgl)))
  have HX2 := Lib.hid (HX1.out.below hb2 hgl)
  clear HX1 HB1 HOP hb2 hgl
  cases D with
  | error z =>
    obtain rfl : e = _ := hp
    have HRR := Lib.hid (show R = .error z from HR.out)
    have hz := openG_err HDL.out.symm
    have e2 : (z != 0) = true := by simp [hz]
    clear hz
    go_wp2_with (first | (refine wpList_store_row rfl _ _ _ rfl g KZ rfl (by rw [HKZ.out]; rfl) 38 _ HX2.out HIZ.out HSZ.out HOZ.out ?_) | fail)
    refine bodyPost_ret (results_row_tmp rfl _ _ g 38 KZ (0, 0) _ rfl (setRow_heap _ g _ _ _ _ HX2.out) Try.underlying38 rfl HIZ.out) rfl ?_
    unfold BlobPost
    rw [HG.out, HRR.out]
    exact ⟨below_setRow HB2.out (Nat.le_refl _) KZ, by rw [HKZ.out]; rfl⟩
  | ok vs =>
    obtain ⟨L, cL, rfl, hl1, hl2, hsl⟩ := hp
    have hlen := openG_len HDL.out.symm
    rw [hlen] at hl1 ⊢
    obtain ⟨bL, oL, cs, rfl, hbL, hv, hat⟩ := val_at hsl hlen (i := 0) (by omega)
    have hk5 : cs.length = 5 := valR.len hv
    obtain ⟨KV, hKV⟩ : ∃ KV, KV = cs.toArray := ⟨_, rfl⟩
    have HI := Lib.hid (show (Try.prog.info? 84).map (·.size) = some KV.size by rw [hKV, show cs.toArray.size = 5 from by simpa using hk5]; exact val_info)
    have HAT := Lib.hid (show At w2 ⟨bL, oL, none⟩ KV by rw [hKV]; simpa using hat)
    have HT := Lib.hid (refIds_any cs (nthV vs 0) 4096 w2 (valR.stable hv (Moves.forget w2 _)) (by omega))
    rw [← hKV] at HT
    have HSL := Lib.hid hsl
    have HLN := Lib.hid hlen
    obtain ⟨T, hT⟩ : ∃ T, T = idsG (nthV vs 0) 4096 := ⟨_, rfl⟩
    have HTT := Lib.hid hT
    have HRR := Lib.hid (show R = bindR T fun is => blobEnd is (nthV vs 1) by rw [HR.out, hT]; rfl)
    rw [← hT] at HT
    clear hlen hsl hv hat hk5 hKV HR HDL hT
    go_wp2_with (first | (refine wpList_load_at rfl _ _ rfl bL oL rfl KV _ HAT.out Try.underlying84 rfl HI.out ?_) | fail)
    refine HT.out.mono ?_
    intro e w3 hp
    have hb3 := hp.1
    have hp2 := hp.2
    have hgl := HX2.out.lt
    have HB3 := Lib.hid (HB2.out.trans (hb3.mono (Nat.le_of_lt hgl)))
    have HX3 := Lib.hid (HX2.out.below hb3 hgl)
    have HSL3 := Lib.hid (HSL.out.below hb3)
    have HG2 := Lib.hid hgl
    clear HB2 HX2 HSL HT hb3 hp HAT HI
    cases T with
    | error z =>
      obtain rfl : e = _ := hp2
      have HRE := Lib.hid (show R = .error z from HRR.out)
      have hz := idsG_err HTT.out.symm
      have e1 : (z == 0) = false := by simp [hz]
      have e2 : (z != 0) = true := by simp [hz]
      clear hz
      go_wp2_with (first | (refine wpList_store_row rfl _ _ _ rfl g KZ rfl (by rw [HKZ.out]; rfl) 38 _ HX3.out HIZ.out HSZ.out HOZ.out ?_) | fail)
      refine bodyPost_ret (results_row_tmp rfl _ _ g 38 KZ (0, 0) _ rfl (setRow_heap _ g _ _ _ _ HX3.out) Try.underlying38 rfl HIZ.out) rfl ?_
      unfold BlobPost
      rw [HG.out, HRE.out]
      exact ⟨below_setRow HB3.out (Nat.le_refl _) KZ, by rw [HKZ.out]; rfl⟩
    | ok is =>
      obtain ⟨M, cM, rfl, hm1, hm2, hms⟩ := hp2
      obtain ⟨bq, oq, cs, e0, hbq, hv, hat⟩ := val_at HSL3.out HLN.out (i := 1) (by omega)
      have e0 := Option.some.inj e0
      injection e0 with e1 e2
      subst e1 e2
      obtain ⟨p0, p1, p3⟩ := val_two hv hat
      obtain ⟨kq, hkq⟩ : ∃ kq, kq = (nthV vs 1).kind := ⟨_, rfl⟩
      obtain ⟨uq, huq⟩ : ∃ uq, uq = (nthV vs 1).num := ⟨_, rfl⟩
      have HR6 := Lib.hid (show R = if kq ≠ 0 then .error 91 else if 262144 < uq then .error 2 else .ok (is, (uq : Int)) by rw [HRR.out, hkq, huq]; rfl)
      have q0 : w3.cell? ⟨bL, oL + 5, none⟩ = some (.int .i64 kq) := by rw [hkq]; exact p0
      have q1 : w3.cell? ⟨bL, oL + 5 + 1, none⟩ = some (.int .u64 (uq : Int)) := by rw [huq]; simpa using p1
      have HMS := Lib.hid (show SlOf oidR w3 (fun b => b < g + 1) M is from hms.stable (Moves.less _ (fun b _ h => by have h : b < g + 1 := h; have := HG2.out; show b < w2.heap.size; omega)))
      have HMC := Lib.hid (And.intro hm1 hm2)
      clear hv hat p0 p1 p3 hkq huq e0 hms hm1 hm2 HRR HSL3
      by_cases hk0 : kq = 0
      · have e1 : (kq != 0) = false := by simp [hk0]
        by_cases hu : uq ≤ 262144
        · have huI : decide ((262144 : Int) < (uq : Int)) = false := by simp; omega
          have HRE := Lib.hid (show R = .ok (is, (uq : Int)) by rw [HR6.out, if_neg (by simp [hk0]), if_neg (by omega)])
          have hw : IntKind.i64.wrap (uq : Int) = (uq : Int) := IntWalk.i64_in _ (by omega)
          obtain ⟨KX, hKX⟩ : ∃ KX : Array Value, KX = #[.slice M is.length cM, .int .i64 (uq : Int)] := ⟨_, rfl⟩
          have HIX := Lib.hid (HINF.out KX (by rw [hKX]; rfl))
          have HOX := Lib.hid (show KX.all (·.oneCell') = true by rw [hKX]; simp [Value.oneCell'])
          have HSX := Lib.hid (show zBlob.size = KX.size by rw [hKX]; rfl)
          have HKX := Lib.hid hKX
          clear hk0 hu hKX HR6
          go_wp2_with (first | (refine wpList_store_row rfl _ _ _ rfl g KX rfl (by rw [HKX.out]; rfl) 38 _ HX3.out HIX.out HSX.out HOX.out ?_) | fail)
          refine bodyPost_ret (results_row_tmp rfl _ _ g 38 KX (0, 0) _ rfl (setRow_heap _ g _ _ _ _ HX3.out) Try.underlying38 rfl HIX.out) rfl ?_
          unfold BlobPost
          rw [HG.out, HRE.out]
          refine ⟨below_setRow HB3.out (Nat.le_refl _) KX, M, cM, by rw [HKX.out]; rfl, ?_, HMC.out.1, HMC.out.2⟩
          exact HMS.out.stable ((Moves.grown (grown_row w3 g KX) (Nat.lt_succ_self g)).trans (Moves.less _ (fun b _ h => by have h : b < g := h; show b < g + 1; omega)))
        · have huI : decide ((262144 : Int) < (uq : Int)) = true := by simp; omega
          have HRE := Lib.hid (show R = .error 2 by rw [HR6.out, if_neg (by simp [hk0]), if_pos (by omega)])
          clear hk0 hu HR6
          go_wp2_with (first | (refine wpList_store_row rfl _ _ _ rfl g KZ rfl (by rw [HKZ.out]; rfl) 38 _ HX3.out HIZ.out HSZ.out HOZ.out ?_) | fail)
          refine bodyPost_ret (results_row_tmp rfl _ _ g 38 KZ (0, 0) _ rfl (setRow_heap _ g _ _ _ _ HX3.out) Try.underlying38 rfl HIZ.out) rfl ?_
          unfold BlobPost
          rw [HG.out, HRE.out]
          exact ⟨below_setRow HB3.out (Nat.le_refl _) KZ, by rw [HKZ.out]; rfl⟩
      · have e1 : (kq != 0) = true := by simp [hk0]
        have HRE := Lib.hid (show R = .error 91 by rw [HR6.out, if_pos hk0])
        clear hk0 HR6
        go_wp2_with (first | (refine wpList_store_row rfl _ _ _ rfl g KZ rfl (by rw [HKZ.out]; rfl) 38 _ HX3.out HIZ.out HSZ.out HOZ.out ?_) | fail)
        refine bodyPost_ret (results_row_tmp rfl _ _ g 38 KZ (0, 0) _ rfl (setRow_heap _ g _ _ _ _ HX3.out) Try.underlying38 rfl HIZ.out) rfl ?_
        unfold BlobPost
        rw [HG.out, HRE.out]
        exact ⟨below_setRow HB3.out (Nat.le_refl _) KZ, by rw [HKZ.out]; rfl⟩
end Go.Proofs.Ytpafhajpnepecaa

/- towlineref09.ordered. -/
set_option linter.unusedVariables false
set_option linter.unusedSimpArgs false
namespace Go.Proofs.Ytpafhajpnepecaa
open Go.RowKit

set_option maxRecDepth 100000 in
set_option maxHeartbeats 4000000 in
theorem refOrdered_any (A : Option Addr) (n c : Nat) (l : List EntT) (W0 : World) (hs : SlOf entR W0 no A l) (hn : n = l.length) (hnl : n ≤ 1000000000) (hsz : ∀ x ∈ l, x.1.size ≤ 1000000000) :
    Calls Try.prog 49 #[.slice A n c] W0 fun e w' => e = .returned (.int .i64 (orderedG l)) ∧ Below W0.heap.size W0 w' := by
  obtain ⟨G, hG⟩ : ∃ G, G = orderedG l := ⟨_, rfl⟩
  rw [← hG]
  have HS := Lib.hid hs
  have HM := Lib.hid hn
  have HZ := Lib.hid hsz
  by_cases h1 : n ≤ 1024
  · have hI : ¬ (1024 : Int) < (n : Int) := by omega
    have HG0 := Lib.hid (show G = ordG none (l.drop 0) by rw [hG]; unfold orderedG; rw [if_neg (by omega), List.drop_zero])
    clear hG hs hn hsz
    go_enter Try.func49, Try.ntmps49
    go_wp2_with fail
    go_loopw [3] (fun s3 wr => ∃ (i : Nat) (p : Option (List UInt8)), i ≤ n ∧ s3 = .int .i64 (i : Int) ∧ Below W0.heap.size W0 wr ∧ Hid ((i = 0 → p = none) ∧ ∀ j x, i = j + 1 → l[j]? = some x → p = some (sB x.1)) ∧ Hid (G = ordG p (l.drop i))) (fun s3 wr => n - (intOf s3).toNat)
    case atStart => exact ⟨0, none, by omega, rfl, Below.refl _ _, Lib.hid ⟨fun _ => rfl, fun j x h => by omega⟩, HG0⟩
    case round =>
      obtain ⟨i, p, hin, rfl, hbl, HP, HR⟩ := hrel
      by_cases hi : i < n
      · have hiI : (i : Int) < (n : Int) := by omega
        obtain ⟨b1, o1, x, hA, hb1, hx, h32, hf, hat⟩ := ents_look (HS.out.below hbl) HM.out.symm hi
        have hr := HR.out
        rw [ord_step hx] at hr
        have HRR := Lib.hid hr
        have HX := Lib.hid hx
        have HN := Lib.hid (fun w => refName_any x.1 w (HZ.out x (List.mem_of_getElem? hx)))
        have hcx : wr.cell? ⟨b1, o1 + i * 35, none⟩ = some (.string x.1) := by have := hat 0 _ (entK_get h32 _ _ _).1; simpa using this
        subst hA
        clear hr hx hat HR h32 hf
        go_upto_region 7 with fail
        go_wp2_with fail
        refine (HN.out _).mono ?_
        rintro e w3 ⟨rfl, rfl⟩
        cases hnm : nameG (sB x.1) with
        | false =>
          have HG2 := Lib.hid (show G = 50 by rw [HRR.out, if_pos hnm])
          clear hnm
          go_wp2_with fail
          go_ret
          exact ⟨by rw [HG2.out]; rfl, hbl⟩
        | true =>
          have HG2 := Lib.hid (show G = if notUp p (sB x.1) = true then 92 else ordG (some (sB x.1)) (l.drop (i + 1)) by rw [HRR.out, if_neg (by simp [hnm])])
          clear hnm HRR
          have HP2 := Lib.hid (show (i + 1 = 0 → some (sB x.1) = none) ∧ ∀ (j : Nat) (y : EntT), i + 1 = j + 1 → l[j]? = some y → some (sB x.1) = some (sB y.1) from ⟨fun h => by omega, fun j y h1 h2 => by
            obtain rfl : j = i := by omega
            rw [HX.out] at h2; injection h2 with h2; rw [h2]⟩)
          by_cases hi0 : i = 0
          · subst hi0
            obtain rfl := HP.out.1 rfl
            have HG3 := Lib.hid (show G = ordG (some (sB x.1)) (l.drop (0 + 1)) by rw [HG2.out]; rfl)
            clear HG2 HP hb1 hcx HN
            have hdr : Below w3.heap.size w3 w3.drew := Same.below ⟨1, rfl⟩ _
            have hbl5 := hbl.trans (hdr.mono hbl.size)
            go_upto_region 8 with fail
            refine wp_region_held (S := fun w => Below w3.heap.size w3 w) (by kernel_rfl) ?_
            change wpAnyH _ _ _ _ _ _ _ _ (World.drew _)
            refine held_take (i := 0) (v := ?_) (a' := ?_) rfl (by kernel_rfl) (by kernel_rfl) (by kernel_rfl) (fun _ _ _ h => h) (by rfl) hdr ?_ ?_ ?_
            rotate_left 2
            · (intro w hS; go_simp; try with_reducible rfl)
            · (go_simp; try with_reducible rfl)
            refine held_take (i := 1) (v := ?_) (a' := ?_) rfl (by kernel_rfl) (by kernel_rfl) (by kernel_rfl) (fun _ _ _ h => h) (by rfl) hdr ?_ ?_ ?_
            rotate_left 2
            · (intro w hS; go_simp; try with_reducible rfl)
            · (go_simp; try with_reducible rfl)
            refine held_take (i := 2) (v := ?_) (a' := ?_) rfl (by kernel_rfl) (by kernel_rfl) (by kernel_rfl) (fun _ _ _ h => h) (by rfl) hdr ?_ ?_ ?_
            rotate_left 2
            · (intro w hS; go_simp; try with_reducible rfl)
            · (go_simp; try with_reducible rfl)
            refine held_no (i := 3) (a' := ?_) rfl (by kernel_rfl) (by kernel_rfl) (by kernel_rfl) (fun _ _ _ h => h) (by rfl) hdr ?_ ?_
            rotate_left 1
            · (go_simp; try with_reducible rfl)
            refine held_no (i := 4) (a' := ?_) rfl (by kernel_rfl) (by kernel_rfl) (by kernel_rfl) (fun _ _ _ h => h) (by rfl) hdr ?_ ?_
            rotate_left 1
            · (go_simp; try with_reducible rfl)
            refine held_no (i := 5) (a' := ?_) rfl (by kernel_rfl) (by kernel_rfl) (by kernel_rfl) (fun _ _ _ h => h) (by rfl) hdr ?_ ?_
            rotate_left 1
            · (go_simp; try with_reducible rfl)
            refine held_no (i := 6) (a' := ?_) rfl (by kernel_rfl) (by kernel_rfl) (by kernel_rfl) (fun _ _ _ h => h) (by rfl) hdr ?_ ?_
            rotate_left 1
            · (go_simp; try with_reducible rfl)
            refine held_no (i := 7) (a' := ?_) rfl (by kernel_rfl) (by kernel_rfl) (by kernel_rfl) (fun _ _ _ h => h) (by rfl) hdr ?_ ?_
            rotate_left 1
            · (go_simp; try with_reducible rfl)
            refine held_no (i := 8) (a' := ?_) rfl (by kernel_rfl) (by kernel_rfl) (by kernel_rfl) (fun _ _ _ h => h) (by rfl) hdr ?_ ?_
            rotate_left 1
            · (go_simp; try with_reducible rfl)
            refine held_no (i := 9) (a' := ?_) rfl (by kernel_rfl) (by kernel_rfl) (by kernel_rfl) (fun _ _ _ h => h) (by rfl) hdr ?_ ?_
            rotate_left 1
            · (go_simp; try with_reducible rfl)
            refine held_no (i := 10) (a' := ?_) rfl (by kernel_rfl) (by kernel_rfl) (by kernel_rfl) (fun _ _ _ h => h) (by rfl) hdr ?_ ?_
            rotate_left 1
            · (go_simp; try with_reducible rfl)
            refine held_no (i := 11) (a' := ?_) rfl (by kernel_rfl) (by kernel_rfl) (by kernel_rfl) (fun _ _ _ h => h) (by rfl) hdr ?_ ?_
            rotate_left 1
            · (go_simp; try with_reducible rfl)
            refine held_no (i := 12) (a' := ?_) rfl (by kernel_rfl) (by kernel_rfl) (by kernel_rfl) (fun _ _ _ h => h) (by rfl) hdr ?_ ?_
            rotate_left 1
            · (go_simp; try with_reducible rfl)
            refine held_no (i := 13) (a' := ?_) rfl (by kernel_rfl) (by kernel_rfl) (by kernel_rfl) (fun _ _ _ h => h) (by rfl) hdr ?_ ?_
            rotate_left 1
            · (go_simp; try with_reducible rfl)
            refine held_no (i := 14) (a' := ?_) rfl (by kernel_rfl) (by kernel_rfl) (by kernel_rfl) (fun _ _ _ h => h) (by rfl) hdr ?_ ?_
            rotate_left 1
            · (go_simp; try with_reducible rfl)
            refine held_take (i := 15) (v := ?_) (a' := ?_) rfl (by kernel_rfl) (by kernel_rfl) (by kernel_rfl) (fun _ _ _ h => h) (by rfl) hdr ?_ ?_ ?_
            rotate_left 2
            · (intro w hS; go_simp; try with_reducible rfl)
            · (go_simp; try with_reducible rfl)
            refine wpAnyH_done (by kernel_rfl) ?_ _
            go_wp2_with fail
            go_roundw
            case rel => exact ⟨0 + 1, some (sB x.1), by omega, by go_num, hbl5, HP2, HG3⟩
            case measure => simp [intOf]; omega
          · obtain ⟨b9, o9, y, hA9, hb9, hy, hy32, hyf, haty⟩ := ents_look (HS.out.below hbl) HM.out.symm (i := i - 1) (by omega)
            have hA9 := Option.some.inj hA9
            injection hA9 with e1 e2
            subst e1 e2
            have hp := HP.out.2 (i - 1) y (by omega) hy
            have i1 : (i : Int) - 1 = ((i - 1 : Nat) : Int) := by omega
            obtain ⟨i', hi'⟩ : ∃ i', i' = i - 1 := ⟨_, rfl⟩
            rw [← hi'] at i1 haty
            have iw : IntKind.i64.wrap ((i : Int) - 1) = (i' : Int) := by rw [i1]; exact IntWalk.i64_in _ (by omega)
            have i2 : (0 : Int) ≤ (i' : Int) := by omega
            have i3 : (i' : Int) < (n : Int) := by omega
            have e0 : decide ((0 : Int) < (i : Int)) = true := by simp; omega
            have e0' : (0 : Int) < (i : Int) := by omega
            have e0'' : 0 < i := by omega
            have hcy : w3.cell? ⟨b1, o1 + i' * 35, none⟩ = some (.string y.1) := by have := haty 0 _ (entK_get hy32 _ _ _).1; simpa using this
            have HG3 := Lib.hid (show G = if (!(Op.bytesLess (sB y.1) (sB x.1))) = true then 92 else ordG (some (sB x.1)) (l.drop (i + 1)) by rw [HG2.out, hp]; rfl)
            have hlb : b1 < w3.heap.size := hb9
            have hdr : Below w3.heap.size w3 w3.drew := Same.below ⟨1, rfl⟩ _
            have hbl5 := hbl.trans (hdr.mono hbl.size)
            clear HG2 HP hb1 HN i1 hi' haty hy hyf hy32 hp hb9 hi0
            go_upto_region 8 with fail
            cases hls : Op.bytesLess (sB y.1) (sB x.1) with
            | true =>
              have e3 : Op.bytesLess y.1.toList x.1.toList = true := by rw [Lib.toList_data, Lib.toList_data]; exact hls
              have HG4 := Lib.hid (show G = ordG (some (sB x.1)) (l.drop (i + 1)) by rw [HG3.out, hls]; rfl)
              clear hls HG3
              refine wp_region_held (S := fun w => Below w3.heap.size w3 w) (by kernel_rfl) ?_
              change wpAnyH _ _ _ _ _ _ _ _ (World.drew _)
              refine held_take (i := 0) (v := ?_) (a' := ?_) rfl (by kernel_rfl) (by kernel_rfl) (by kernel_rfl) (fun _ _ _ h => h) (by rfl) hdr ?_ ?_ ?_
              rotate_left 2
              · (intro w hS; go_simp; try with_reducible rfl)
              · (go_simp; try with_reducible rfl)
              refine held_take (i := 1) (v := ?_) (a' := ?_) rfl (by kernel_rfl) (by kernel_rfl) (by kernel_rfl) (fun _ _ _ h => h) (by rfl) hdr ?_ ?_ ?_
              rotate_left 2
              · (intro w hS; go_simp; try with_reducible rfl)
              · (go_simp; try with_reducible rfl)
              refine held_take (i := 2) (v := ?_) (a' := ?_) rfl (by kernel_rfl) (by kernel_rfl) (by kernel_rfl) (fun _ _ _ h => h) (by rfl) hdr ?_ ?_ ?_
              rotate_left 2
              · (intro w hS; go_simp; try with_reducible rfl)
              · (go_simp; try with_reducible rfl)
              refine held_take (i := 3) (v := ?_) (a' := ?_) rfl (by kernel_rfl) (by kernel_rfl) (by kernel_rfl) (fun _ _ _ h => h) (by rfl) hdr ?_ ?_ ?_
              rotate_left 2
              · (intro w hS; go_simp; try with_reducible rfl)
              · (go_simp; try with_reducible rfl)
              refine held_take (i := 4) (v := ?_) (a' := ?_) rfl (by kernel_rfl) (by kernel_rfl) (by kernel_rfl) (fun _ _ _ h => h) (by rfl) hdr ?_ ?_ ?_
              rotate_left 2
              · (intro w hS; go_simp; try with_reducible rfl)
              · (go_simp; try with_reducible rfl)
              refine held_take (i := 5) (v := ?_) (a' := ?_) rfl (by kernel_rfl) (by kernel_rfl) (by kernel_rfl) (fun _ _ _ h => h) (by rfl) hdr ?_ ?_ ?_
              rotate_left 2
              · (intro w hS; go_simp; try with_reducible rfl)
              · (go_simp; try with_reducible rfl)
              refine held_take (i := 6) (v := ?_) (a' := ?_) rfl (by kernel_rfl) (by kernel_rfl) (by kernel_rfl) (fun _ _ _ h => h) (by rfl) hdr ?_ ?_ ?_
              rotate_left 2
              · (intro w hS; go_simp; try with_reducible rfl)
              · (go_simp; try with_reducible rfl)
              refine held_take (i := 7) (v := ?_) (a' := ?_) rfl (by kernel_rfl) (by kernel_rfl) (by kernel_rfl) (fun _ _ _ h => h) (by rfl) hdr ?_ ?_ ?_
              rotate_left 2
              · (intro w hS; go_simp; try with_reducible rfl)
              · (go_simp; try with_reducible rfl)
              refine held_take (i := 8) (v := ?_) (a' := ?_) rfl (by kernel_rfl) (by kernel_rfl) (by kernel_rfl) (fun _ _ _ h => h) (by rfl) hdr ?_ ?_ ?_
              rotate_left 2
              · (intro w hS; have t := (hS.cell (p := ⟨b1, o1 + i' * 35, none⟩) hlb).trans hcy; go_simp; try with_reducible rfl)
              · (go_simp; try with_reducible rfl)
              refine held_take (i := 9) (v := ?_) (a' := ?_) rfl (by kernel_rfl) (by kernel_rfl) (by kernel_rfl) (fun _ _ _ h => h) (by rfl) hdr ?_ ?_ ?_
              rotate_left 2
              · (intro w hS; go_simp; try with_reducible rfl)
              · (go_simp; try with_reducible rfl)
              refine held_take (i := 10) (v := ?_) (a' := ?_) rfl (by kernel_rfl) (by kernel_rfl) (by kernel_rfl) (fun _ _ _ h => h) (by rfl) hdr ?_ ?_ ?_
              rotate_left 2
              · (intro w hS; go_simp; try with_reducible rfl)
              · (go_simp; try with_reducible rfl)
              refine held_take (i := 11) (v := ?_) (a' := ?_) rfl (by kernel_rfl) (by kernel_rfl) (by kernel_rfl) (fun _ _ _ h => h) (by rfl) hdr ?_ ?_ ?_
              rotate_left 2
              · (intro w hS; go_simp; try with_reducible rfl)
              · (go_simp; try with_reducible rfl)
              refine held_take (i := 12) (v := ?_) (a' := ?_) rfl (by kernel_rfl) (by kernel_rfl) (by kernel_rfl) (fun _ _ _ h => h) (by rfl) hdr ?_ ?_ ?_
              rotate_left 2
              · (intro w hS; go_simp; try with_reducible rfl)
              · (go_simp; try with_reducible rfl)
              refine held_take (i := 13) (v := ?_) (a' := ?_) rfl (by kernel_rfl) (by kernel_rfl) (by kernel_rfl) (fun _ _ _ h => h) (by rfl) hdr ?_ ?_ ?_
              rotate_left 2
              · (intro w hS; have t := (hS.cell (p := ⟨b1, o1 + i * 35, none⟩) hlb).trans hcx; go_simp; try with_reducible rfl)
              · (go_simp; try with_reducible rfl)
              refine held_take (i := 14) (v := ?_) (a' := ?_) rfl (by kernel_rfl) (by kernel_rfl) (by kernel_rfl) (fun _ _ _ h => h) (by rfl) hdr ?_ ?_ ?_
              rotate_left 2
              · (intro w hS; go_simp; try with_reducible rfl)
              · (go_simp; try with_reducible rfl)
              refine held_take (i := 15) (v := ?_) (a' := ?_) rfl (by kernel_rfl) (by kernel_rfl) (by kernel_rfl) (fun _ _ _ h => h) (by rfl) hdr ?_ ?_ ?_
              rotate_left 2
              · (intro w hS; go_simp; try with_reducible rfl)
              · (go_simp; try with_reducible rfl)
              refine wpAnyH_done (by kernel_rfl) ?_ _
              go_wp2_with fail
              go_roundw
              case rel => exact ⟨i + 1, some (sB x.1), by omega, by go_num, hbl5, HP2, HG4⟩
              case measure => simp [intOf]; omega
            | false =>
              have e3 : Op.bytesLess y.1.toList x.1.toList = false := by rw [Lib.toList_data, Lib.toList_data]; exact hls
              have HG4 := Lib.hid (show G = 92 by rw [HG3.out, hls]; rfl)
              clear hls HG3
              refine wp_region_held (S := fun w => Below w3.heap.size w3 w) (by kernel_rfl) ?_
              change wpAnyH _ _ _ _ _ _ _ _ (World.drew _)
              refine held_take (i := 0) (v := ?_) (a' := ?_) rfl (by kernel_rfl) (by kernel_rfl) (by kernel_rfl) (fun _ _ _ h => h) (by rfl) hdr ?_ ?_ ?_
              rotate_left 2
              · (intro w hS; go_simp; try with_reducible rfl)
              · (go_simp; try with_reducible rfl)
              refine held_take (i := 1) (v := ?_) (a' := ?_) rfl (by kernel_rfl) (by kernel_rfl) (by kernel_rfl) (fun _ _ _ h => h) (by rfl) hdr ?_ ?_ ?_
              rotate_left 2
              · (intro w hS; go_simp; try with_reducible rfl)
              · (go_simp; try with_reducible rfl)
              refine held_take (i := 2) (v := ?_) (a' := ?_) rfl (by kernel_rfl) (by kernel_rfl) (by kernel_rfl) (fun _ _ _ h => h) (by rfl) hdr ?_ ?_ ?_
              rotate_left 2
              · (intro w hS; go_simp; try with_reducible rfl)
              · (go_simp; try with_reducible rfl)
              refine held_take (i := 3) (v := ?_) (a' := ?_) rfl (by kernel_rfl) (by kernel_rfl) (by kernel_rfl) (fun _ _ _ h => h) (by rfl) hdr ?_ ?_ ?_
              rotate_left 2
              · (intro w hS; go_simp; try with_reducible rfl)
              · (go_simp; try with_reducible rfl)
              refine held_take (i := 4) (v := ?_) (a' := ?_) rfl (by kernel_rfl) (by kernel_rfl) (by kernel_rfl) (fun _ _ _ h => h) (by rfl) hdr ?_ ?_ ?_
              rotate_left 2
              · (intro w hS; go_simp; try with_reducible rfl)
              · (go_simp; try with_reducible rfl)
              refine held_take (i := 5) (v := ?_) (a' := ?_) rfl (by kernel_rfl) (by kernel_rfl) (by kernel_rfl) (fun _ _ _ h => h) (by rfl) hdr ?_ ?_ ?_
              rotate_left 2
              · (intro w hS; go_simp; try with_reducible rfl)
              · (go_simp; try with_reducible rfl)
              refine held_take (i := 6) (v := ?_) (a' := ?_) rfl (by kernel_rfl) (by kernel_rfl) (by kernel_rfl) (fun _ _ _ h => h) (by rfl) hdr ?_ ?_ ?_
              rotate_left 2
              · (intro w hS; go_simp; try with_reducible rfl)
              · (go_simp; try with_reducible rfl)
              refine held_take (i := 7) (v := ?_) (a' := ?_) rfl (by kernel_rfl) (by kernel_rfl) (by kernel_rfl) (fun _ _ _ h => h) (by rfl) hdr ?_ ?_ ?_
              rotate_left 2
              · (intro w hS; go_simp; try with_reducible rfl)
              · (go_simp; try with_reducible rfl)
              refine held_take (i := 8) (v := ?_) (a' := ?_) rfl (by kernel_rfl) (by kernel_rfl) (by kernel_rfl) (fun _ _ _ h => h) (by rfl) hdr ?_ ?_ ?_
              rotate_left 2
              · (intro w hS; have t := (hS.cell (p := ⟨b1, o1 + i' * 35, none⟩) hlb).trans hcy; go_simp; try with_reducible rfl)
              · (go_simp; try with_reducible rfl)
              refine held_take (i := 9) (v := ?_) (a' := ?_) rfl (by kernel_rfl) (by kernel_rfl) (by kernel_rfl) (fun _ _ _ h => h) (by rfl) hdr ?_ ?_ ?_
              rotate_left 2
              · (intro w hS; go_simp; try with_reducible rfl)
              · (go_simp; try with_reducible rfl)
              refine held_take (i := 10) (v := ?_) (a' := ?_) rfl (by kernel_rfl) (by kernel_rfl) (by kernel_rfl) (fun _ _ _ h => h) (by rfl) hdr ?_ ?_ ?_
              rotate_left 2
              · (intro w hS; go_simp; try with_reducible rfl)
              · (go_simp; try with_reducible rfl)
              refine held_take (i := 11) (v := ?_) (a' := ?_) rfl (by kernel_rfl) (by kernel_rfl) (by kernel_rfl) (fun _ _ _ h => h) (by rfl) hdr ?_ ?_ ?_
              rotate_left 2
              · (intro w hS; go_simp; try with_reducible rfl)
              · (go_simp; try with_reducible rfl)
              refine held_take (i := 12) (v := ?_) (a' := ?_) rfl (by kernel_rfl) (by kernel_rfl) (by kernel_rfl) (fun _ _ _ h => h) (by rfl) hdr ?_ ?_ ?_
              rotate_left 2
              · (intro w hS; go_simp; try with_reducible rfl)
              · (go_simp; try with_reducible rfl)
              refine held_take (i := 13) (v := ?_) (a' := ?_) rfl (by kernel_rfl) (by kernel_rfl) (by kernel_rfl) (fun _ _ _ h => h) (by rfl) hdr ?_ ?_ ?_
              rotate_left 2
              · (intro w hS; have t := (hS.cell (p := ⟨b1, o1 + i * 35, none⟩) hlb).trans hcx; go_simp; try with_reducible rfl)
              · (go_simp; try with_reducible rfl)
              refine held_take (i := 14) (v := ?_) (a' := ?_) rfl (by kernel_rfl) (by kernel_rfl) (by kernel_rfl) (fun _ _ _ h => h) (by rfl) hdr ?_ ?_ ?_
              rotate_left 2
              · (intro w hS; go_simp; try with_reducible rfl)
              · (go_simp; try with_reducible rfl)
              refine held_take (i := 15) (v := ?_) (a' := ?_) rfl (by kernel_rfl) (by kernel_rfl) (by kernel_rfl) (fun _ _ _ h => h) (by rfl) hdr ?_ ?_ ?_
              rotate_left 2
              · (intro w hS; go_simp; try with_reducible rfl)
              · (go_simp; try with_reducible rfl)
              refine wpAnyH_done (by kernel_rfl) ?_ _
              go_wp2_with fail
              go_ret
              exact ⟨by rw [HG4.out]; rfl, hbl5⟩
      · have hiI : ¬ (i : Int) < (n : Int) := by omega
        have hg := Lib.hid (show G = 0 by
          rw [HR.out, List.drop_of_length_le (by rw [← HM.out]; omega)]; rfl)
        go_wp2_with fail
        go_ret
        exact ⟨by rw [hg.out]; rfl, hbl⟩
  · have hI : (1024 : Int) < (n : Int) := by omega
    have HG2 := Lib.hid (show G = 2 by rw [hG]; unfold orderedG; rw [if_pos (by omega)])
    clear hG hs hn
    go_enter Try.func49, Try.ntmps49
    go_wp2_with fail
    go_ret
    exact ⟨by rw [HG2.out]; rfl, Below.refl _ _⟩
end Go.Proofs.Ytpafhajpnepecaa

/- Own rows whose elements stay away from some blocks x beside the row's own. -/
set_option linter.unusedVariables false
namespace Go.Proofs.Ytpafhajpnepecaa
open Go.RowKit

def avX (x : Av) (v : Value) : Av := fun b => x b ∨ own v b
structure RowX {α : Type} (r : Rd α) (e : TypeId) (w : World) (base : Nat) (x : Av) (A : Option Addr) (m c : Nat) (l : List α) : Prop where
  row : ∃ xs, w.ownsRow base e r.k (.slice A m c) m xs ∧ Each (r.R w (avX x (.slice A m c))) xs l
  len : m = l.length

/-- what was read ahead of a block's making stays away from it -/
theorem rd_new {α : Type} {r : Rd α} {w : World} {av : Av} {cs : List Value} {y : α} (h : r.R w av cs y) (o : Obj) : r.R (w.alloc o) (fun b => av b ∨ b = w.heap.size) cs y := by
  have hb : Below w.heap.size w (w.alloc o) := (Below.refl _ _).alloc (Nat.le_refl _) _
  refine r.stable h ⟨hb.size, fun b hb' _ => hb.block b hb', fun b hb' hn h' => ?_⟩
  rcases h' with h' | h'
  · exact hn h'
  · omega
section
variable {α : Type} {r : Rd α} {e : TypeId} {w w' : World} {base m c : Nat} {x : Av} {A : Option Addr} {l : List α}
theorem RowX.nil (r : Rd α) (e : TypeId) (w : World) (base : Nat) (x : Av) : RowX r e w base x none 0 0 [] := ⟨⟨[], World.ownsRow_nil _ _ _ _, .nil⟩, rfl⟩
theorem RowX.below (h : RowX r e w base x A m c l) (hb : Below w.heap.size w w') : RowX r e w' base x A m c l := by
  obtain ⟨xs, h1, h2⟩ := h.row
  exact ⟨⟨xs, own_below h1 hb, h2.mono fun _ _ k => r.stable k (Moves.of_below hb)⟩, h.len⟩
theorem RowX.lt (h : RowX r e w base x A m c l) {b : Nat} (hb : own (.slice A m c) b) : base ≤ b ∧ b < w.heap.size := by
  obtain ⟨xs, h1, h2⟩ := h.row
  exact h1.lt b hb
theorem RowX.cap (h : RowX r e w base x A m c l) : m ≤ c ∧ c ≤ maxLen := by
  obtain ⟨xs, h1, h2⟩ := h.row
  exact own_cap h1
theorem RowX.sl (h : RowX r e w base x A m c l) (hn : ∀ b, own (.slice A m c) b → ¬ x b) : SlOf r w x A l := by
  obtain ⟨xs, h1, h2⟩ := h.row
  refine ⟨xs, by rw [← h.len]; exact Sl.ofOwn h1, h2.mono fun _ _ k => r.stable k (Moves.less w (fun b _ h => .inl h)), fun h0 b off e => ?_⟩
  subst e
  obtain ⟨g, hg, _⟩ := own_at h1 (by rw [h.len]; exact h0)
  have hg := Option.some.inj hg
  injection hg with e1 e2
  subst e1 e2
  exact hn b rfl
theorem RowX.set (h : RowX r e w base x A m c l) {b0 : Nat} (hb : x b0) (hn : ¬ own (.slice A m c) b0) (i : Nat) (u : Value) : RowX r e (w.setCell ⟨b0, i, none⟩ u) base x A m c l := by
  obtain ⟨xs, h1, h2⟩ := h.row
  refine ⟨⟨xs, h1.kept (grown_set w b0 i u) ?_, h2.mono fun _ _ k => r.stable k ⟨(grown_set w b0 i u).size, fun b hb' hne => (grown_set w b0 i u).block b hb' (fun e => hne (.inl (by rw [Option.some.inj e]; exact hb))), fun _ _ h => h⟩⟩, h.len⟩
  cases hv : (Value.slice A m c).ownBlock with
  | none => exact .inl rfl
  | some k => right; intro e; exact hn (by have := Option.some.inj e; subst this; exact hv)
theorem RowX.push {P : Program} {t : TypeId} {z : Value} {byt : Nat} (E : ElemOf P t e z r.k byt) (h : RowX r e w base x A m c l) (hb : base ≤ w.heap.size) {av : Av} {cs : List Value} {y : α} (hx : r.R w av cs y)
    (hav : ∀ b, b < w.heap.size → avX x (.slice A m c) b → av b) (hbytes : (m + 1) * byt ≤ 140737488355328) (hm : m + 1 ≤ maxLen) (ty : TypeId) (c0 : Nat) :
    ∃ A' c' w', (Builtin.append_ #[t, t] ty #[.slice A m c, .slice (some ⟨w.heap.size, 0, none⟩) 1 c0]).run P (w.alloc (.cells cs.toArray e)) = .ok (.slice A' (m + 1) c') w' ∧ RowX r e w' base x A' (m + 1) c' (l ++ [y]) ∧
      Below base w w' ∧ w.grownBy w' (Value.slice A m c).ownBlock ∧ m + 1 ≤ c' ∧ c' ≤ maxLen ∧ (∀ b, b < w.heap.size → own (.slice A' (m + 1) c') b → own (.slice A m c) b) := by
  obtain ⟨xs, h1, h2⟩ := h.row
  have hba : Below w.heap.size w (w.alloc (.cells cs.toArray e)) := (Below.refl _ _).alloc (Nat.le_refl _) _
  obtain ⟨A', c', w', run, ap, hc, hcm⟩ := append_sl E (own_below h1 hba) (Sl.fresh w cs.toArray e (0, 0) 1 r.k (by simpa using r.len hx)) (fun u hu => r.one hx u (by simpa using hu)) hbytes hm (by simp; omega) ty c0
  have m1 : Moves w (w.alloc (.cells cs.toArray e)) (avX x (.slice A m c)) (avX x (.slice A m c)) := Moves.of_below hba
  have k2 : Moves (w.alloc (.cells cs.toArray e)) w' (own (.slice A m c)) (own (.slice A' (m + 1) c')) := Moves.of_app ap
  have m2 : Moves (w.alloc (.cells cs.toArray e)) w' (avX x (.slice A m c)) (avX x (.slice A' (m + 1) c')) :=
    ⟨k2.size, fun b hb hn => k2.block b hb (fun h => hn (.inr h)), fun b hb hn h' => h'.elim (fun h => hn (.inl h)) (fun h => k2.ne b hb (fun q => hn (.inr q)) h)⟩
  have hxx : r.R w' (avX x (.slice A' (m + 1) c')) cs y := r.stable hx (((Moves.less w (av' := avX x (.slice A m c)) hav).trans m1).trans m2)
  refine ⟨A', c', w', run, ⟨⟨xs ++ cs, ?_, (h2.mono fun _ _ k => r.stable k (m1.trans m2)).snoc hxx⟩, by simp [h.len]⟩, (hba.mono hb).trans (ap.below), ?_, hc, hcm, fun b hb ho => ?_⟩
  · have := ap.own
    simpa using this
  · have g1 : w.grownBy (w.alloc (.cells cs.toArray e)) (Value.slice A m c).ownBlock := ⟨hba.os, hba.tape, hba.output, hba.size, fun k hk _ => hba.block k hk⟩
    exact g1.trans ap.grown
  · rcases Classical.em (own (.slice A m c) b) with h | h
    · exact h
    · exact absurd ho (k2.ne b (Nat.lt_of_lt_of_le hb hba.size) h)
end
/-- a row out of a block -/
theorem RowX.of_blk {α : Type} {r : Rd α} {e : TypeId} {w : World} {base g n : Nat} {x : Av} {K : Array Value} {l : List α} (h : Blk w g e K) (hb : base ≤ g) (hn : l.length = n) (hm : n ≤ maxLen) (hk : 0 < n) (he : Each (r.R w (fun b => x b ∨ b = g)) K.toList l) : RowX r e w base x (some ⟨g, 0, none⟩) n n l := by
  have hl : K.toList.length = n * r.k := by rw [← hn]; exact he.length fun _ _ => r.len
  refine ⟨⟨K.toList, ⟨hl, .inr ⟨g, n, K, rfl, hb, h, Nat.le_refl _, hm, by simpa using hl, by rw [List.take_of_length_le (by omega)]⟩⟩, he.mono fun _ _ k => r.stable k (Moves.less w (fun b _ h => ?_))⟩, hn.symm⟩
  rcases h with h | h
  · exact .inl h
  · right
    have h : some g = some b := h
    exact (Option.some.inj h).symm
end Go.Proofs.Ytpafhajpnepecaa
