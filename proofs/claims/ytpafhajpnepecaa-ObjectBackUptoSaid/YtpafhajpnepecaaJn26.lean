/- Contracts and laws for what the statement reaches, joined: ObjRefRise, ObjRefPutCom. -/
import Derived.Test.YtpafhajpnepecaaJn19
import Derived.Test.YtpafhajpnepecaaJn25
import Derived.Test.YtpafhajpnepecaaJn5
/- towlineref09.rising. -/
set_option linter.unusedVariables false
namespace Go.Proofs.Ytpafhajpnepecaa
open Go.RowKit

set_option maxRecDepth 100000 in
set_option maxHeartbeats 4000000 in
theorem refRising_any (A : Option Addr) (m c : Nat) (ps : List (List UInt8)) (W0 : World) (hs : SlOf oidR W0 no A ps) (hm : m = ps.length) (hml : m ≤ 1000000000) :
    Calls Try.prog 53 #[.slice A m c] W0 fun e w' => e = .returned (.bool (risingG ps)) ∧ Below W0.heap.size W0 w' := by
  obtain ⟨G, hG⟩ : ∃ G, G = risingG ps := ⟨_, rfl⟩
  rw [← hG]
  have HS := Lib.hid hs
  have HM := Lib.hid hm
  by_cases h2 : m < 2
  · have hI : ¬ (1 : Int) < (m : Int) := by omega
    have hg := Lib.hid (show G = true by
      rw [hG]
      match ps, hm with
      | [], _ => rfl
      | [x], _ => rfl
      | x :: y :: r, hm => simp at hm; omega)
    have hN : ¬ 1 < m := by omega
    clear hG hs hm h2
    go_enter Try.func53, Try.ntmps53
    go_wp2_with fail
    go_loopw [3] (fun s3 wr => s3 = .int .i64 1 ∧ Below W0.heap.size W0 wr) (fun s3 wr => 0)
    case atStart => exact ⟨rfl, Below.refl _ _⟩
    case round =>
      obtain ⟨rfl, hbl⟩ := hrel
      go_wp2_with fail
      go_ret
      exact ⟨by rw [hg.out]; rfl, hbl⟩
  · obtain ⟨p0, hp0⟩ : ∃ p0, ps[0]? = some p0 := ⟨ps[0]'(by omega), List.getElem?_eq_getElem (by omega)⟩
    have hG0 : G = riseG (some p0) (ps.drop 1) := by
      rw [hG]
      cases ps with
      | nil => simp at hp0
      | cons x r => simp at hp0; subst hp0; rfl
    have HG0 := Lib.hid hG0
    have HP0 := Lib.hid hp0
    clear hG hs hm hG0 hp0
    go_enter Try.func53, Try.ntmps53
    go_wp2_with fail
    go_loopw [3] (fun s3 wr => ∃ (i : Nat) (p : List UInt8), 1 ≤ i ∧ i ≤ m ∧ s3 = .int .i64 (i : Int) ∧ Below W0.heap.size W0 wr ∧ Hid (ps[i - 1]? = some p) ∧ Hid (G = riseG (some p) (ps.drop i))) (fun s3 wr => m - (intOf s3).toNat)
    case atStart => exact ⟨1, p0, by omega, by omega, rfl, Below.refl _ _, HP0, HG0⟩
    case round =>
      obtain ⟨i, p, hi1, him, rfl, hbl, HP, HR⟩ := hrel
      by_cases hi : i < m
      · have hiI : (i : Int) < (m : Int) := by omega
        obtain ⟨b1, o1, x1, hA, hb1, hx1, h321, hat1⟩ := oids_look (HS.out.below hbl) HM.out.symm (i := i - 1) (by omega)
        obtain ⟨b2, o2, x2, hA2, hb2, hx2, h322, hat2⟩ := oids_look (HS.out.below hbl) HM.out.symm hi
        rw [hA] at hA2
        have e := Option.some.inj hA2
        injection e with e1 e2
        subst e1 e2 hA
        rw [HP.out] at hx1
        obtain rfl := Option.some.inj hx1
        have hr := HR.out
        rw [rise_step hx2] at hr
        have HRR := Lib.hid hr
        have HX2 := Lib.hid hx2
        have i1 : (i : Int) - 1 = ((i - 1 : Nat) : Int) := by omega
        obtain ⟨i', hi'⟩ : ∃ i', i' = i - 1 := ⟨_, rfl⟩
        rw [← hi'] at i1 hat1
        have iw : IntKind.i64.wrap ((i : Int) - 1) = (i' : Int) := by rw [i1]; exact IntWalk.i64_in _ (by omega)
        have i2 : (0 : Int) ≤ (i' : Int) := by omega
        have i3 : (i' : Int) < (m : Int) := by omega
        have hdr : Below wr.heap.size wr wr.drew := Same.below ⟨1, rfl⟩ _
        have HAT1 := Lib.hid hat1
        have HAT2 := Lib.hid hat2
        have HC := Lib.hid (before_any p x2 wr.drew h321 h322)
        obtain ⟨KP, hKP⟩ : ∃ KP, KP = (bytesV p).toArray := ⟨_, rfl⟩
        obtain ⟨KX, hKX⟩ : ∃ KX, KX = (bytesV x2).toArray := ⟨_, rfl⟩
        have HI1 := Lib.hid (show (Try.prog.info? 27).map (·.size) = some KP.size by rw [hKP]; exact oid_size h321)
        have HI2 := Lib.hid (show (Try.prog.info? 27).map (·.size) = some KX.size by rw [hKX]; exact oid_size h322)
        rw [← hKP] at HAT1 HC
        rw [← hKX] at HAT2 HC
        clear hr hx2 hat1 hat2 h321 h322 HP HR hA2 hb2 i1 hi' hKP hKX
        go_upto_region 4 with fail
        refine wp_region_held (S := fun w => Below wr.heap.size wr w) (by kernel_rfl) ?_
        change wpAnyH _ _ _ _ _ _ _ _ (World.drew _)
        refine held_take (i := 0) (v := ?_) (a' := ?_) rfl (by kernel_rfl) (by kernel_rfl) (by kernel_rfl) (fun _ _ _ h => h) (by rfl) (Same.below ⟨1, rfl⟩ _) ?_ ?_ ?_
        rotate_left 2
        · (intro w hS; go_simp; try with_reducible rfl)
        · (go_simp; try with_reducible rfl)
        refine held_take (i := 1) (v := ?_) (a' := ?_) rfl (by kernel_rfl) (by kernel_rfl) (by kernel_rfl) (fun _ _ _ h => h) (by rfl) (Same.below ⟨1, rfl⟩ _) ?_ ?_ ?_
        rotate_left 2
        · (intro w hS; go_simp; try with_reducible rfl)
        · (go_simp; try with_reducible rfl)
        refine held_take (i := 2) (v := ?_) (a' := ?_) rfl (by kernel_rfl) (by kernel_rfl) (by kernel_rfl) (fun _ _ _ h => h) (by rfl) (Same.below ⟨1, rfl⟩ _) ?_ ?_ ?_
        rotate_left 2
        · (intro w hS; go_simp; try with_reducible rfl)
        · (go_simp; try with_reducible rfl)
        refine held_take (i := 3) (v := ?_) (a' := ?_) rfl (by kernel_rfl) (by kernel_rfl) (by kernel_rfl) (fun _ _ _ h => h) (by rfl) (Same.below ⟨1, rfl⟩ _) ?_ ?_ ?_
        rotate_left 2
        · (intro w hS; go_simp; try with_reducible rfl)
        · (go_simp; try with_reducible rfl)
        refine held_take (i := 4) (v := ?_) (a' := ?_) rfl (by kernel_rfl) (by kernel_rfl) (by kernel_rfl) (fun _ _ _ h => h) (by rfl) (Same.below ⟨1, rfl⟩ _) ?_ ?_ ?_
        rotate_left 2
        · (intro w hS; refine exec_load_at 27 (.tmp 13) ?_ b1 (o1 + i' * 32) ?_ KP _ (HAT1.out.below hS hb1) Try.underlying27 rfl HI1.out; exact rfl; exact rfl)
        · (go_simp; try with_reducible rfl)
        refine held_take (i := 5) (v := ?_) (a' := ?_) rfl (by kernel_rfl) (by kernel_rfl) (by kernel_rfl) (fun _ _ _ h => h) (by rfl) (Same.below ⟨1, rfl⟩ _) ?_ ?_ ?_
        rotate_left 2
        · (intro w hS; go_simp; try with_reducible rfl)
        · (go_simp; try with_reducible rfl)
        refine held_take (i := 6) (v := ?_) (a' := ?_) rfl (by kernel_rfl) (by kernel_rfl) (by kernel_rfl) (fun _ _ _ h => h) (by rfl) (Same.below ⟨1, rfl⟩ _) ?_ ?_ ?_
        rotate_left 2
        · (intro w hS; go_simp; try with_reducible rfl)
        · (go_simp; try with_reducible rfl)
        refine held_take (i := 7) (v := ?_) (a' := ?_) rfl (by kernel_rfl) (by kernel_rfl) (by kernel_rfl) (fun _ _ _ h => h) (by rfl) (Same.below ⟨1, rfl⟩ _) ?_ ?_ ?_
        rotate_left 2
        · (intro w hS; go_simp; try with_reducible rfl)
        · (go_simp; try with_reducible rfl)
        refine held_take (i := 8) (v := ?_) (a' := ?_) rfl (by kernel_rfl) (by kernel_rfl) (by kernel_rfl) (fun _ _ _ h => h) (by rfl) (Same.below ⟨1, rfl⟩ _) ?_ ?_ ?_
        rotate_left 2
        · (intro w hS; refine exec_load_at 27 (.tmp 17) ?_ b1 (o1 + i * 32) ?_ KX _ (HAT2.out.below hS hb1) Try.underlying27 rfl HI2.out; exact rfl; exact rfl)
        · (go_simp; try with_reducible rfl)
        refine held_ready (rs := [9]) (by kernel_rfl) (by simp) ?_
        refine AllHeld.cons rfl (fun KR hKR => ?_) ?_
        · go_simp
          refine HC.out.mono ?_
          rintro e w5 ⟨rfl, hb5⟩
          obtain ⟨L, hL⟩ : ∃ L, L = Op.bytesLess p x2 := ⟨_, rfl⟩
          have HL := Lib.hid hL
          rw [← hL]
          clear hL
          refine hKR _ _ (hdr.trans (hb5.mono hdr.size)) ?_
          clear hKR KR
          refine held_take (i := 10) (v := ?_) (a' := ?_) rfl (by kernel_rfl) (by kernel_rfl) (by kernel_rfl) (fun _ _ _ h => h) (by rfl) (hdr.trans (hb5.mono hdr.size)) ?_ ?_ ?_
          rotate_left 2
          · (intro w hS; go_simp; try with_reducible rfl)
          · (go_simp; try with_reducible rfl)
          refine wpAnyH_done (by kernel_rfl) ?_ _
          have hfin := hbl.trans ((hdr.trans (hb5.mono hdr.size)).mono hbl.size)
          cases L with
          | true =>
            have HG2 := Lib.hid (show G = riseG (some x2) (ps.drop (i + 1)) by rw [HRR.out, ← HL.out]; simp)
            go_wp2_with fail
            go_roundw
            case rel => exact ⟨i + 1, x2, by omega, by omega, by go_num, hfin, by simpa using HX2, HG2⟩
            case measure => simp [intOf]; omega
          | false =>
            have HG2 := Lib.hid (show G = false by rw [HRR.out, ← HL.out]; simp)
            go_wp2_with fail
            go_ret
            exact ⟨by rw [HG2.out]; rfl, hfin⟩
        exact AllHeld.nil
      · have hiI : ¬ (i : Int) < (m : Int) := by omega
        have hg := Lib.hid (show G = true by
          rw [HR.out, List.drop_of_length_le (by rw [← HM.out]; omega)]; rfl)
        go_wp2_with fail
        go_ret
        exact ⟨by rw [hg.out]; rfl, hbl⟩
end Go.Proofs.Ytpafhajpnepecaa

/- towlineref09.PutCommit. -/
set_option linter.unusedVariables false
set_option linter.unusedSimpArgs false
namespace Go.Proofs.Ytpafhajpnepecaa
open Go.RowKit

theorem wrL_mid (d : Nat) (x y : Val) (h : ∀ out, wrV d out x = wrV d out y) (l2 : List Val) : ∀ (l1 : List Val) (out : List UInt8), wrL (wrV d) out (l1 ++ x :: l2) = wrL (wrV d) out (l1 ++ y :: l2)
  | [], out => by
    show wrL (wrV d) out (x :: l2) = wrL (wrV d) out (y :: l2)
    unfold wrL
    rw [h]
  | a :: r, out => by
    show wrL (wrV d) out (a :: (r ++ x :: l2)) = wrL (wrV d) out (a :: (r ++ y :: l2))
    unfold wrL
    cases wrV d out a with
    | error e => rfl
    | ok o => exact wrL_mid d x y h l2 r o
theorem sealG_flt (kind f : Nat) (a b c d : Val) : sealG kind [a, b, fltV f, c, d] = sealG kind [a, b, fltV (canonB f), c, d] := by
  have h : ∀ out, wrL (wrV 15) out [numV kind, a, b, fltV f, c, d] = wrL (wrV 15) out [numV kind, a, b, fltV (canonB f), c, d] := fun out => wrL_mid 15 _ _ (fun out => wrV_flt 15 out f) [c, d] [numV kind, a, b] out
  unfold sealG enc
  show wrV (15 + 1) [] (lstV [numV kind, a, b, fltV f, c, d]) = wrV (15 + 1) [] (lstV [numV kind, a, b, fltV (canonB f), c, d])
  rw [wrV_lst 15 [] [numV kind, a, b, fltV f, c, d], wrV_lst 15 [] [numV kind, a, b, fltV (canonB f), c, d], h]
  try rfl

set_option maxRecDepth 100000 in
set_option maxHeartbeats 8000000 in
theorem refPutCommit_any (A : Option Addr) (n c : Nat) (tr : List UInt8) (ps : List (List UInt8)) (f : Nat) (au nt : ByteArray) (w : World) (h32 : tr.length = 32) (hs : SlOf oidR w no A ps) (hn : n = ps.length) (hnc : n ≤ c) (hcm : c ≤ maxLen) (hf : f < 2 ^ 64)
    (hau : au.size ≤ maxLen) (hnt : nt.size ≤ maxLen) :
    Calls Try.prog 16 #[.agg (comK tr A n c f au nt)] w (RefEnc w (putCommit (tr, ps, f, au, nt))) := by
  obtain ⟨R, hR⟩ : ∃ R, R = putCommit (tr, ps, f, au, nt) := ⟨_, rfl⟩
  have HR := Lib.hid (show R = if 8 < n ∨ 64 < au.size ∨ 1024 < nt.size then .error 2 else if risingG ps = false then .error 92 else sealG 4 [txtV tr, lstV (ps.map txtV), fltV f, txtV (sB au), txtV (sB nt)] by
    rw [sealG_flt, hR, hn]; unfold putCommit; simp only [sB, Array.length_toList]; rfl)
  rw [← hR]
  obtain ⟨K, hK⟩ : ∃ K, K = comK tr A n c f au nt := ⟨_, rfl⟩
  have HK := Lib.hid (Blk.new w 46 K)
  have hba : Below w.heap.size w (w.alloc (.cells K 46)) := (Below.refl _ _).alloc (Nat.le_refl _) _
  have HS := Lib.hid (hs.below hba)
  have HN := Lib.hid hn
  have HBK := Lib.hid (bulk_ids ps (oids_32 hs))
  have HB1 := Lib.hid hba
  have H32 := Lib.hid h32
  have HF := Lib.hid hf
  have HAU := Lib.hid hau
  have HNT := Lib.hid hnt
  have HAT := Lib.hid (show At (w.alloc (.cells K 46)) ⟨w.heap.size, 0, none⟩ (bytesV tr).toArray from com_id_at (by rw [← hK]; exact HK.out))
  have hc32 : (w.alloc (.cells K 46)).cell? ⟨w.heap.size, 32, none⟩ = some (.slice A n c) := by rw [HK.out.cell 32, hK]; exact (comK_get h32 _ _ _ _ _ _).1
  have hc33 : (w.alloc (.cells K 46)).cell? ⟨w.heap.size, 33, none⟩ = some (.float .f64 f) := by rw [HK.out.cell 33, hK]; exact (comK_get h32 _ _ _ _ _ _).2.1
  have hc34 : (w.alloc (.cells K 46)).cell? ⟨w.heap.size, 34, none⟩ = some (.string au) := by rw [HK.out.cell 34, hK]; exact (comK_get h32 _ _ _ _ _ _).2.2.1
  have hc35 : (w.alloc (.cells K 46)).cell? ⟨w.heap.size, 35, none⟩ = some (.string nt) := by rw [HK.out.cell 35, hK]; exact (comK_get h32 _ _ _ _ _ _).2.2.2
  have hlt := HK.out.lt
  rw [← hK]
  clear hR hs hn hba hK h32 hf hau hnt HK
  go_enter Try.func16, Try.ntmps16
  go_upto_region 1 with fail
  generalize w.alloc (.cells K 46) = w1 at *
  generalize hg : w.heap.size = g at *
  have HG := Lib.hid hg
  clear hg
  by_cases h1 : 8 < n
  · have hI : (8 : Int) < (n : Int) := by omega
    have HRR := Lib.hid (show R = .error 2 by rw [HR.out, if_pos (.inl h1)])
    go_wp2_with fail
    go_ret2
    exact ⟨by rw [HG.out]; exact HB1.out, by rw [HRR.out]; rfl⟩
  · have hI : ¬ (8 : Int) < (n : Int) := by omega
    by_cases h2 : 64 < au.size
    · have hJ : (64 : Int) < (au.size : Int) := by omega
      have HRR := Lib.hid (show R = .error 2 by rw [HR.out, if_pos (.inr (.inl h2))])
      go_wp2_with fail
      go_ret2
      exact ⟨by rw [HG.out]; exact HB1.out, by rw [HRR.out]; rfl⟩
    · have hJ : ¬ (64 : Int) < (au.size : Int) := by omega
      by_cases h3 : 1024 < nt.size
      · have hL : (1024 : Int) < (nt.size : Int) := by omega
        have HRR := Lib.hid (show R = .error 2 by rw [HR.out, if_pos (.inr (.inr h3))])
        go_wp2_with fail
        go_ret2
        exact ⟨by rw [HG.out]; exact HB1.out, by rw [HRR.out]; rfl⟩
      · have hL : ¬ (1024 : Int) < (nt.size : Int) := by omega
        have HR2 := Lib.hid (show R = if risingG ps = false then .error 92 else sealG 4 [txtV tr, lstV (ps.map txtV), fltV f, txtV (sB au), txtV (sB nt)] by rw [HR.out, if_neg (by omega)])
        have HRI := Lib.hid (refRising_any A n c ps w1 HS.out HN.out (by omega))
        go_wp2_with fail
        refine HRI.out.mono ?_
        rintro e w2 ⟨rfl, hb2⟩
        have hlt2 : g < w2.heap.size := Nat.lt_of_lt_of_le hlt hb2.size
        have HB2 := Lib.hid (show Below w.heap.size w w2 by rw [HG.out]; exact HB1.out.trans (hb2.mono (Nat.le_of_lt hlt)))
        cases hri : risingG ps with
        | false =>
          have HRR := Lib.hid (show R = .error 92 by rw [HR2.out, if_pos hri])
          go_wp2_with fail
          go_ret2
          exact ⟨HB2.out, by rw [HRR.out]; rfl⟩
        | true =>
        have HRR := Lib.hid (show R = sealG 4 [txtV tr, lstV (ps.map txtV), fltV f, txtV (sB au), txtV (sB nt)] by rw [HR2.out, if_neg (by simp [hri])])
        obtain ⟨K2, hK2⟩ : ∃ K2, K2 = cellsV 2 0 none 0 0 f none 0 0 := ⟨_, rfl⟩
        have HK2E := Lib.hid hK2
        have HK2 := Lib.hid (show K2.size = 5 by rw [hK2]; rfl)
        have HVF := Lib.hid (fun wn => show valR.R wn no K2.toList (fltV f) by
          rw [hK2]
          exact valR_iff.2 ⟨none, 0, none, 0, rfl, by decide, by omega, HF.out, ⟨Nat.le_refl _, Nat.zero_le _, SlOf.nil⟩, Nat.le_refl _, Nat.zero_le _, SlOf.nil⟩)
        clear hK2
        obtain ⟨KT, hKT⟩ : ∃ KT, KT = (bytesV tr).toArray := ⟨_, rfl⟩
        have HIT := Lib.hid (show (Try.prog.info? 27).map (·.size) = some KT.size by rw [hKT]; exact oid_size H32.out)
        have HAT2 := Lib.hid (show At w2 ⟨g, 0, none⟩ KT by rw [hKT]; exact HAT.out.below hb2 hlt)
        have HNM := Lib.hid (fun w => refName_id tr w H32.out)
        rw [← hKT] at HNM
        clear hKT
        have HS2 := Lib.hid (HS.out.below hb2)
        have HCC := Lib.hid (show w2.cell? ⟨g, 32, none⟩ = some (.slice A n c) ∧ w2.cell? ⟨g, 33, none⟩ = some (.float .f64 f) ∧ w2.cell? ⟨g, 34, none⟩ = some (.string au) ∧ w2.cell? ⟨g, 35, none⟩ = some (.string nt) from ⟨(hb2.cell (p := ⟨g, 32, none⟩) hlt).trans hc32, (hb2.cell (p := ⟨g, 33, none⟩) hlt).trans hc33, (hb2.cell (p := ⟨g, 34, none⟩) hlt).trans hc34, (hb2.cell (p := ⟨g, 35, none⟩) hlt).trans hc35⟩)
        have HZ := Lib.hid (show n ≤ 8 ∧ au.size ≤ 64 ∧ nt.size ≤ 1024 by omega)
        have hn8 : n ≤ 1000000 := by omega
        clear hb2 hri HR2 HR hc32 hc33 hc34 hc35 HAT HS HB1 hlt HRI
        go_upto_region 5 with fail
        have hdr : Below w2.heap.size w2 w2.drew := Same.below ⟨1, rfl⟩ _
        refine wp_region_held (S := fun w => Below w2.heap.size w2 w) (by kernel_rfl) ?_
        change wpAnyH _ _ _ _ _ _ _ _ (World.drew _)
        refine held_take (i := 0) (v := ?_) (a' := ?_) rfl (by kernel_rfl) (by kernel_rfl) (by kernel_rfl) (fun _ _ _ h => h) (by rfl) hdr ?_ ?_ ?_
        rotate_left 2
        · (intro w hS; go_simp; try with_reducible rfl)
        · (go_simp; try with_reducible rfl)
        refine held_take (i := 1) (v := ?_) (a' := ?_) rfl (by kernel_rfl) (by kernel_rfl) (by kernel_rfl) (fun _ _ _ h => h) (by rfl) hdr ?_ ?_ ?_
        rotate_left 2
        · (intro w hS; refine exec_load_at 27 (.tmp 24) ?_ g 0 ?_ KT _ (HAT2.out.below hS hlt2) Try.underlying27 rfl HIT.out; exact rfl; exact rfl)
        · (go_simp; try with_reducible rfl)
        refine held_take (i := 3) (v := ?_) (a' := ?_) rfl (by kernel_rfl) (by kernel_rfl) (by kernel_rfl) (fun _ _ _ h => h) (by rfl) hdr ?_ ?_ ?_
        rotate_left 2
        · (intro w hS; go_simp; try with_reducible rfl)
        · (go_simp; try with_reducible rfl)
        refine held_take (i := 4) (v := ?_) (a' := ?_) rfl (by kernel_rfl) (by kernel_rfl) (by kernel_rfl) (fun _ _ _ h => h) (by rfl) hdr ?_ ?_ ?_
        rotate_left 2
        · (intro w hS; have t := (hS.cell (p := ⟨g, 32, none⟩) hlt2).trans HCC.out.1; go_simp; try with_reducible rfl)
        · (go_simp; try with_reducible rfl)
        refine held_take (i := 6) (v := ?_) (a' := ?_) rfl (by kernel_rfl) (by kernel_rfl) (by kernel_rfl) (fun _ _ _ h => h) (by rfl) hdr ?_ ?_ ?_
        rotate_left 2
        · (intro w hS; go_simp; try with_reducible rfl)
        · (go_simp; try with_reducible rfl)
        refine held_take (i := 7) (v := ?_) (a' := ?_) rfl (by kernel_rfl) (by kernel_rfl) (by kernel_rfl) (fun _ _ _ h => h) (by rfl) hdr ?_ ?_ ?_
        rotate_left 2
        · (intro w hS; have t := (hS.cell (p := ⟨g, 33, none⟩) hlt2).trans HCC.out.2.1; go_simp; try with_reducible rfl)
        · (go_simp; try with_reducible rfl)
        refine held_take (i := 8) (v := ?_) (a' := ?_) rfl (by kernel_rfl) (by kernel_rfl) (by kernel_rfl) (fun _ _ _ h => h) (by rfl) hdr ?_ ?_ ?_
        rotate_left 2
        · (intro w hS; go_simp; try with_reducible rfl)
        · (go_simp; try with_reducible rfl)
        refine held_take (i := 9) (v := ?_) (a' := ?_) rfl (by kernel_rfl) (by kernel_rfl) (by kernel_rfl) (fun _ _ _ h => h) (by rfl) hdr ?_ ?_ ?_
        rotate_left 2
        · (intro w hS; go_simp; try with_reducible rfl)
        · (go_simp; try with_reducible rfl)
        refine held_take (i := 10) (v := ?_) (a' := ?_) rfl (by kernel_rfl) (by kernel_rfl) (by kernel_rfl) (fun _ _ _ h => h) (by rfl) hdr ?_ ?_ ?_
        rotate_left 2
        · (intro w hS; have t := (hS.cell (p := ⟨g, 34, none⟩) hlt2).trans HCC.out.2.2.1; go_simp; try with_reducible rfl)
        · (go_simp; try with_reducible rfl)
        refine held_take (i := 12) (v := ?_) (a' := ?_) rfl (by kernel_rfl) (by kernel_rfl) (by kernel_rfl) (fun _ _ _ h => h) (by rfl) hdr ?_ ?_ ?_
        rotate_left 2
        · (intro w hS; go_simp; try with_reducible rfl)
        · (go_simp; try with_reducible rfl)
        refine held_take (i := 13) (v := ?_) (a' := ?_) rfl (by kernel_rfl) (by kernel_rfl) (by kernel_rfl) (fun _ _ _ h => h) (by rfl) hdr ?_ ?_ ?_
        rotate_left 2
        · (intro w hS; have t := (hS.cell (p := ⟨g, 35, none⟩) hlt2).trans HCC.out.2.2.2; go_simp; try with_reducible rfl)
        · (go_simp; try with_reducible rfl)
        refine held_ready (rs := [2]) (by kernel_rfl) (by simp) ?_
        refine AllHeld.cons rfl (fun KR hKR => ?_) ?_
        · go_simp
          refine (HNM.out _).mono ?_
          rintro e wn ⟨⟨cs, rfl, hv⟩, hbn⟩
          have hbA := hdr.trans (hbn.mono hdr.size)
          have hk5 : cs.length = 5 := valR.len hv
          obtain ⟨K0, hK⟩ : ∃ K, K = cs.toArray := ⟨_, rfl⟩
          have HV0 := Lib.hid (show valR.R wn no K0.toList (txtV tr) by rw [hK]; exact valR.stable (by simpa [txtV, sB] using hv) (Moves.forget _ _))
          have HK0 := Lib.hid (show K0.size = 5 by rw [hK]; simpa using hk5)
          rw [← hK]
          clear hv hk5 hK hbn
          refine hKR _ _ hbA ?_
          clear hKR KR
          refine held_ready (rs := [5]) (by kernel_rfl) (by simp) ?_
          refine AllHeld.cons rfl (fun KR hKR => ?_) ?_
          · go_simp
            refine (refNames_any A n c ps _ (HS2.out.below hbA) HN.out hn8).mono ?_
            rintro e wn ⟨⟨cs, rfl, hv⟩, hbn⟩
            have hbB := hbA.trans (hbn.mono hbA.size)
            have HV0 := Lib.hid (valR.stable HV0.out (Moves.of_below hbn))
            have hk5 : cs.length = 5 := valR.len hv
            obtain ⟨K1, hK⟩ : ∃ K, K = cs.toArray := ⟨_, rfl⟩
            have HV1 := Lib.hid (show valR.R wn no K1.toList (lstV (ps.map txtV)) by rw [hK]; exact valR.stable (by simpa using hv) (Moves.forget _ _))
            have HK1 := Lib.hid (show K1.size = 5 by rw [hK]; simpa using hk5)
            rw [← hK]
            clear hv hk5 hK hbn
            refine hKR _ _ hbB ?_
            clear hKR KR
            refine held_ready (rs := [11]) (by kernel_rfl) (by simp) ?_
            refine AllHeld.cons rfl (fun KR hKR => ?_) ?_
            · go_simp
              refine (refBytes_any au _ HAU.out).mono ?_
              rintro e wn ⟨⟨cs, rfl, hv⟩, hbn⟩
              have hbD := hbB.trans (hbn.mono hbB.size)
              have HV0 := Lib.hid (valR.stable HV0.out (Moves.of_below hbn))
              have HV1 := Lib.hid (valR.stable HV1.out (Moves.of_below hbn))
              have hk5 : cs.length = 5 := valR.len hv
              obtain ⟨K3, hK⟩ : ∃ K, K = cs.toArray := ⟨_, rfl⟩
              have HV3 := Lib.hid (show valR.R wn no K3.toList (txtV (sB au)) by rw [hK]; exact valR.stable (by simpa [txtV, sB] using hv) (Moves.forget _ _))
              have HK3 := Lib.hid (show K3.size = 5 by rw [hK]; simpa using hk5)
              rw [← hK]
              clear hv hk5 hK hbn
              refine hKR _ _ hbD ?_
              clear hKR KR
              refine held_ready (rs := [14]) (by kernel_rfl) (by simp) ?_
              refine AllHeld.cons rfl (fun KR hKR => ?_) ?_
              · go_simp
                refine (refBytes_any nt _ HNT.out).mono ?_
                rintro e wn ⟨⟨cs, rfl, hv⟩, hbn⟩
                have hbE := hbD.trans (hbn.mono hbD.size)
                have HV0 := Lib.hid (valR.stable HV0.out (Moves.of_below hbn))
                have HV1 := Lib.hid (valR.stable HV1.out (Moves.of_below hbn))
                have HV3 := Lib.hid (valR.stable HV3.out (Moves.of_below hbn))
                have hk5 : cs.length = 5 := valR.len hv
                obtain ⟨K4, hK⟩ : ∃ K, K = cs.toArray := ⟨_, rfl⟩
                have HV4 := Lib.hid (show valR.R wn no K4.toList (txtV (sB nt)) by rw [hK]; exact valR.stable (by simpa [txtV, sB] using hv) (Moves.forget _ _))
                have HK4 := Lib.hid (show K4.size = 5 by rw [hK]; simpa using hk5)
                rw [← hK]
                clear hv hk5 hK hbn
                have hrun : (Instr.buildSlice 82 5 #[(0, .agg K0), (1, .agg K1), (2, .agg K2), (3, .agg K3), (4, .agg K4)]).run Try.prog wn = .ok (.slice (some ⟨wn.heap.size, 0, none⟩) 5 5) (wn.alloc (.cells ([K0, K1, K2, K3, K4].flatMap (·.toList)).toArray 84)) := bsVals_of wn [K0, K1, K2, K3, K4] 5 rfl (by omega) (by omega) (fun K hK => by
                  simp only [List.mem_cons, List.not_mem_nil, or_false] at hK
                  rcases hK with rfl | rfl | rfl | rfl | rfl
                  · exact HK0.out
                  · exact HK1.out
                  · exact HK2.out
                  · exact HK3.out
                  · exact HK4.out)
                have hbF : Below w2.heap.size w2 (wn.alloc (.cells ([K0, K1, K2, K3, K4].flatMap (·.toList)).toArray 84)) := hbE.alloc hbE.size _
                have HSB := Lib.hid (show SlOf valR (wn.alloc (.cells ([K0, K1, K2, K3, K4].flatMap (·.toList)).toArray 84)) no (some ⟨wn.heap.size, 0, none⟩) [txtV tr, lstV (ps.map txtV), fltV f, txtV (sB au), txtV (sB nt)] from sl_built (.cons HV0.out (.cons HV1.out (.cons (HVF.out _) (.cons HV3.out (.cons HV4.out .nil))))))
                have HSEAL : Hid (Calls Try.prog 41 #[.int .i64 4, .slice (some ⟨wn.heap.size, 0, none⟩) 5 5] (wn.alloc (.cells ([K0, K1, K2, K3, K4].flatMap (·.toList)).toArray 84)) (RefEnc (wn.alloc (.cells ([K0, K1, K2, K3, K4].flatMap (·.toList)).toArray 84)) (sealG 4 [txtV tr, lstV (ps.map txtV), fltV f, txtV (sB au), txtV (sB nt)]))) := Lib.hid (refSeal_any 4 (some ⟨wn.heap.size, 0, none⟩) 5 5 _ _ (by omega) HSB.out rfl (by omega) (by
                  simp only [bulkVs, bulkV, lstV, txtV, fltV, List.length_nil]
                  have h1 := HBK.out
                  have h2 := HN.out; have h3 := HZ.out; have h4 := H32.out
                  have h5 : (sB au).length = au.size := Array.length_toList
                  have h6 : (sB nt).length = nt.size := Array.length_toList
                  omega))
                generalize ([K0, K1, K2, K3, K4].flatMap (·.toList)).toArray = KK at *
                clear HV0 HV1 HV3 HV4 HSB HK0 HK1 HK3 HK4
                refine hKR _ _ hbE ?_
                clear hKR KR
                refine held_ready (rs := [15]) (by kernel_rfl) (by simp) ?_
                refine AllHeld.cons rfl (fun KR hKR => ?_) ?_
                · refine step_build5 (by rfl) (.tmp 26) (.tmp 29) (.tmp 32) (.tmp 35) (.tmp 38) (by rfl) (by rfl) (by rfl) (by rw [HK2E.out]; rfl) (by rfl) (by rfl) hrun ?_
                  refine hKR _ _ hbF ?_
                  clear hKR KR
                  refine held_ready (rs := [16]) (by kernel_rfl) (by simp) ?_
                  refine AllHeld.cons rfl (fun KR hKR => ?_) ?_
                  · go_simp
                    refine HSEAL.out.mono ?_
                    intro e w5 hp
                    have hbG := hbF.trans (hp.1.mono hbF.size)
                    have hp2 := hp.lower (w := w) (HB2.out.trans (hbF.mono HB2.out.size))
                    rw [← HRR.out] at hp2
                    obtain ⟨rfl, hb9⟩ := hp2.use
                    have HP := Lib.hid hb9
                    clear hp hp2 hb9 HSEAL hrun
                    refine hKR _ _ hbG ?_
                    clear hKR KR
                    refine held_take (i := 17) (v := ?_) (a' := ?_) rfl (by kernel_rfl) (by kernel_rfl) (by kernel_rfl) (fun _ _ _ h => h) (by rfl) hbG ?_ ?_ ?_
                    rotate_left 2
                    · (intro w hS; go_simp; try with_reducible rfl)
                    · (go_simp; try with_reducible rfl)
                    refine held_take (i := 18) (v := ?_) (a' := ?_) rfl (by kernel_rfl) (by kernel_rfl) (by kernel_rfl) (fun _ _ _ h => h) (by rfl) hbG ?_ ?_ ?_
                    rotate_left 2
                    · (intro w hS; go_simp; try with_reducible rfl)
                    · (go_simp; try with_reducible rfl)
                    refine held_take (i := 19) (v := ?_) (a' := ?_) rfl (by kernel_rfl) (by kernel_rfl) (by kernel_rfl) (fun _ _ _ h => h) (by rfl) hbG ?_ ?_ ?_
                    rotate_left 2
                    · (intro w hS; go_simp; try with_reducible rfl)
                    · (go_simp; try with_reducible rfl)
                    refine held_take (i := 20) (v := ?_) (a' := ?_) rfl (by kernel_rfl) (by kernel_rfl) (by kernel_rfl) (fun _ _ _ h => h) (by rfl) hbG ?_ ?_ ?_
                    rotate_left 2
                    · (intro w hS; go_simp; try with_reducible rfl)
                    · (go_simp; try with_reducible rfl)
                    refine wpAnyH_done (by kernel_rfl) ?_ _
                    go_wp2_with fail
                    go_ret2
                    exact RefEnc.of rfl HP.out
                  exact AllHeld.nil
                exact AllHeld.nil
              exact AllHeld.nil
            exact AllHeld.nil
          exact AllHeld.nil
        exact AllHeld.nil
end Go.Proofs.Ytpafhajpnepecaa
