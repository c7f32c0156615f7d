/- Contracts and laws for what the statement reaches, joined: ObjFns2, ObjOpen, ObjCaught, ObjChunk, ObjBlob, ObjList, ObjBuild. -/
import Derived.Test.YtgmbkcjihgphmaaJn10
import Derived.Test.YtgmbkcjihgphmaaJn4
import Derived.Test.YtgmbkcjihgphmaaJn6
import Derived.Test.YtgmbkcjihgphmaaJn9
/- object's small readers: list, id. -/
set_option linter.unusedVariables false
namespace Go.Proofs.Ytgmbkcjihgphmaa
open Go.RowKit
attribute [local go_sem ↓] cvt_eq

set_option maxRecDepth 100000 in
set_option maxHeartbeats 1000000 in
theorem list_get (cs : List Value) (v : Val) (most : Nat) (w : World) (av : Av) (hv : valR.R w av cs v) (hm : most ≤ 1000000000) :
    Calls Try.prog 60 #[.agg cs.toArray, .int .i64 (most : Int)] w (LstPost w av (listG v most)) := by
  obtain ⟨KV, hKV, HK, HKV, -, -, -, -⟩ := keepNewA w hv
  rw [← hKV]
  clear hKV hv
  obtain ⟨k, u, b, f, l⟩ := v
  obtain ⟨A, cA, L, cL, c0, c1, c2, c3, c4, _, _, _, hs, hb1, hb2⟩ := blk_cells HK.out HKV.out
  have HB := Lib.hid ((Below.refl w.heap.size w).alloc (Nat.le_refl _) (.cells KV 72))
  have HS := Lib.hid hs
  have HC := Lib.hid (And.intro hb1 hb2)
  obtain ⟨n, hn⟩ : ∃ n, n = l.length := ⟨_, rfl⟩
  rw [← hn] at c4 hb1
  have HN := Lib.hid hn
  simp only [maxLen] at hb2
  obtain ⟨R, hR⟩ : ∃ R, R = listG (.mk k u b f l) most := ⟨_, rfl⟩
  have HR := Lib.hid (show R = if k ≠ 3 then .error 91 else if most < n then .error 2 else .ok l by rw [hR, hn]; rfl)
  rw [← hR]
  clear hs hn hR HK HKV
  go_enter Try.func60, Try.ntmps60
  go_upto_region 1 with fail
  generalize w.alloc (.cells KV 72) = w1 at *
  by_cases hk : k = 3
  · have e1 : (k == 3) = true := by simp [hk]
    by_cases hl : n ≤ most
    · have hI : (n : Int) ≤ (most : Int) := by omega
      have HRR := Lib.hid (show R = .ok l by rw [HR.out, if_neg (by simp [hk]), if_neg (by omega)])
      clear hk
      go_wp2_with fail
      refine (need_yes 91 _).mono ?_
      rintro e w' ⟨rfl, rfl⟩
      go_wp2_with fail
      refine (need_yes 2 _).mono ?_
      rintro e w' ⟨rfl, rfl⟩
      go_wp2_with fail
      go_ret
      refine ⟨HB.out, ?_⟩
      rw [HRR.out]
      exact ⟨L, cL, by rw [← HN.out]; rfl, HC.out.1, HC.out.2, HS.out⟩
    · have hI : ¬ (n : Int) ≤ (most : Int) := by omega
      have HRR := Lib.hid (show R = .error 2 by rw [HR.out, if_neg (by simp [hk]), if_pos (by omega)])
      clear hk
      go_wp2_with fail
      refine (need_yes 91 _).mono ?_
      rintro e w' ⟨rfl, rfl⟩
      go_wp2_with fail
      refine (need_no 2 _).mono ?_
      rintro e w' ⟨rfl, rfl⟩
      exact ⟨rfl, HB.out, by rw [HRR.out]⟩
  · have e1 : (k == 3) = false := by simp [hk]
    have HRR := Lib.hid (show R = .error 91 by rw [HR.out, if_pos (by simpa using hk)])
    clear hk
    go_wp2_with fail
    refine (need_no 91 _).mono ?_
    rintro e w' ⟨rfl, rfl⟩
    exact ⟨rfl, HB.out, by rw [HRR.out]⟩

theorem array_at (w : World) (b o c : Nat) : (Instr.arrayAt 33 (.slice (some ⟨b, o, none⟩) 32 c)).run Try.prog w = .ok (.pointer (some ⟨b, o, none⟩)) w := by
  simp [Instr.arrayAt, run_underlying Try.underlying33]

set_option maxRecDepth 100000 in
set_option maxHeartbeats 1000000 in
theorem id_get (cs : List Value) (v : Val) (w : World) (hv : valR.R w no cs v) :
    Calls Try.prog 61 #[.agg cs.toArray] w (IdPost w (idG v)) := by
  obtain ⟨KV, hKV, HK, -, -, -, -⟩ := keepNew w hv
  rw [← hKV]
  clear hKV hv
  obtain ⟨k, u, b, f, l⟩ := v
  have HK2 := Lib.hid (HK.out.below ((Below.refl _ _).alloc (Nat.le_refl _) (.cells (bytesV (List.replicate 32 0)).toArray 33)))
  obtain ⟨A, cA, L, cL, c0, c1, c2, c3, c4, hs, hb1, hb2, _⟩ := HK2.out.cells
  have HB := Lib.hid (((Below.refl w.heap.size w).alloc (Nat.le_refl _) (.cells KV 72)).alloc (by simp) (.cells (bytesV (List.replicate 32 0)).toArray 33))
  have HZ : Hid (Blk ((w.alloc (.cells KV 72)).alloc (.cells (bytesV (List.replicate 32 0)).toArray 33)) (w.heap.size + 1) 33 (bytesV (List.replicate 32 0)).toArray) := Lib.hid (by
    have := Blk.new (w.alloc (.cells KV 72)) 33 (bytesV (List.replicate 32 0)).toArray
    simpa using this)
  have HS := Lib.hid hs
  obtain ⟨n, hn⟩ : ∃ n, n = b.length := ⟨_, rfl⟩
  rw [← hn] at c2 hs hb1
  have HN := Lib.hid hn
  simp only [maxLen] at hb2
  obtain ⟨R, hR⟩ : ∃ R, R = idG (.mk k u b f l) := ⟨_, rfl⟩
  have HR := Lib.hid (show R = if k ≠ 1 ∨ n ≠ 32 then .error 91 else .ok b by rw [hR, hn]; rfl)
  rw [← hR]
  clear hs hn hR HK HK2
  go_enter Try.func61, Try.ntmps61
  go_upto_region 1 with fail
  change Code.wp _ _ _ _ ((w.alloc (.cells KV 72)).alloc (.cells (bytesV (List.replicate 32 0)).toArray 33))
  generalize (w.alloc (.cells KV 72)).alloc (.cells (bytesV (List.replicate 32 0)).toArray 33) = w1 at *
  by_cases hk : k = 1
  · have e1 : (k == 1) = true := by simp [hk]
    by_cases hl : n = 32
    · have HRR := Lib.hid (show R = .ok b by rw [HR.out, if_neg (by simp [hk, hl])])
      subst hl
      obtain ⟨bA, oA, rfl, hbA, hcA⟩ := HS.out.2 (by rw [← HN.out]; omega)
      obtain ⟨KB, hKB⟩ : ∃ KB, KB = (bytesV b).toArray := ⟨_, rfl⟩
      have HAT := Lib.hid (show At w1 ⟨bA, oA, none⟩ KB from fun j u hu => by
        have h1 := hcA j u (by rw [hKB] at hu; simpa using hu)
        exact h1)
      have HI := Lib.hid (show (Try.prog.info? 33).map (·.size) = some KB.size by rw [hKB]; exact oid_size HN.out.symm)
      have HO := Lib.hid (show KB.all (·.oneCell') = true by rw [hKB]; exact oid_one b)
      have HSZ := Lib.hid (show (bytesV (List.replicate 32 0)).toArray.size = KB.size by rw [hKB]; simp [bytesV, ← HN.out])
      have HKB := Lib.hid hKB
      have haa := fun w => array_at w bA oA cA
      clear hk hcA hKB
      go_wp2_with fail
      refine (need_yes 91 _).mono ?_
      rintro e w' ⟨rfl, rfl⟩
      go_wp2_with (first
        | (refine wpList_load_at rfl _ _ rfl bA oA rfl KB _ HAT.out Try.underlying33 rfl HI.out ?_)
        | (refine wpList_store_row rfl _ _ _ rfl (w.heap.size + 1) KB rfl rfl 33 _ HZ.out HI.out HSZ.out HO.out ?_) | fail)
      refine bodyPost_ret (results_cell_row rfl _ _ (w.heap.size + 1) 33 KB (0, 0) _ rfl (setRow_heap _ (w.heap.size + 1) _ _ _ _ HZ.out) Try.underlying33 rfl HI.out) rfl ?_
      refine ⟨below_setRow HB.out (Nat.le_succ _) KB, ?_⟩
      rw [HRR.out]
      exact ⟨by rw [HKB.out], HN.out.symm⟩
    · have e2 : ((n : Int) == 32) = false := by simp; omega
      have HRR := Lib.hid (show R = .error 91 by rw [HR.out, if_pos (.inr hl)])
      clear hk hl
      go_wp2_with fail
      refine (need_no 91 _).mono ?_
      rintro e w' ⟨rfl, rfl⟩
      exact ⟨rfl, HB.out, by rw [HRR.out]⟩
  · have e1 : (k == 1) = false := by simp [hk]
    have HRR := Lib.hid (show R = .error 91 by rw [HR.out, if_pos (.inl (by simpa using hk))])
    clear hk
    go_wp2_with fail
    refine (need_no 91 _).mono ?_
    rintro e w' ⟨rfl, rfl⟩
    exact ⟨rfl, HB.out, by rw [HRR.out]⟩
end Go.Proofs.Ytgmbkcjihgphmaa

/- object.open: the values of a record of a kind. -/
set_option linter.unusedVariables false
namespace Go.Proofs.Ytgmbkcjihgphmaa
open Go.RowKit

/-- a list's first value in memory -/
theorem head_cells {w : World} {L : Option Addr} {h : Val} {t : List Val} {av : Av} (hs : SlOf valR w av L (h :: t)) : ∃ b o, L = some ⟨b, o, none⟩ ∧ b < w.heap.size ∧ w.cell? ⟨b, o, none⟩ = some (.int .i64 h.kind) ∧ w.cell? ⟨b, o + 1, none⟩ = some (.int .u64 (h.num : Int)) := by
  obtain ⟨b, o, cs, x, e, hb, hx, hr, hc, _⟩ := hs.look (i := 0) rfl (by simp)
  obtain rfl := Option.some.inj hx
  obtain ⟨k, u, bs, f, l⟩ := h
  obtain ⟨A, cA, M, cM, rfl, _⟩ := valR_iff.1 hr
  exact ⟨b, o, e, hb, hc 0 _ rfl, hc 1 _ rfl⟩

set_option maxRecDepth 100000 in
set_option maxHeartbeats 4000000 in
theorem open_get (A : Option Addr) (n c : Nat) (l : List UInt8) (kind count : Nat) (w : World) (hs : Sl w 1 A n (bytesV l)) (hnc : n ≤ c) (hcm : c ≤ maxLen) (hk : kind ≤ 4) (hct : 1 ≤ count) (hct5 : count ≤ 5) :
    Calls Try.prog 59 #[.slice A n c, .int .i64 (kind : Int), .int .i64 (count : Int)] w (LstPost w (fun b => b < w.heap.size) (openG l kind count)) := by
  have HD := Lib.hid (decode_any A n c l w hs hnc hcm)
  obtain ⟨R, hR⟩ : ∃ R, R = openG l kind count := ⟨_, rfl⟩
  obtain ⟨D, hD⟩ : ∃ D, D = dec l := ⟨_, rfl⟩
  have HR := Lib.hid (show R = bindR D (fun v => openV v kind count) by rw [hR, hD]; rfl)
  have HDL := Lib.hid hD
  rw [← hD] at HD
  rw [← hR]
  have hkw : IntKind.u64.wrap (kind : Int) = (kind : Int) := by rw [wrap_u64]; omega
  clear hR hD hs hcm
  go_enter Try.func59, Try.ntmps59
  go_wp2_with fail
  refine HD.out.mono ?_
  intro e w2 hp
  obtain ⟨cs, rfl, hv, hb2⟩ := hp.use
  obtain ⟨KV, hKV, HK, HKV, HI, HO, HS5, HN⟩ := keepNewA w2 hv
  rw [← hKV]
  have HB := Lib.hid (hb2.trans (((Below.refl w2.heap.size w2).alloc (Nat.le_refl _) (.cells KV 72)).mono hb2.size))
  clear hKV hv hb2 hp HD
  go_upto_region 2 with (first | (refine wpList_store_row rfl _ _ _ rfl w2.heap.size KV rfl rfl 72 _ HN.out HI.out HS5.out HO.out ?_) | fail)
  rw [World.setRow_alloc_new]
  clear HN HS5 HO
  generalize w2.alloc (.cells KV 72) = w3 at *
  generalize w2.heap.size = gv at *
  cases D with
  | error z =>
    have hz := dec_err_ne HDL.out.symm
    have hzb : (z == 0) = false := by simp [hz]
    have HRR := Lib.hid (show R = .error z from HR.out)
    have hz2 : okZ (.error z : Res Val) = z := rfl
    rw [hz2]
    clear hz hz2 HDL HR
    go_wp2_with fail
    refine (need_no z _).mono ?_
    rintro e w' ⟨rfl, rfl⟩
    exact ⟨rfl, HB.out, by rw [HRR.out]⟩
  | ok v =>
    have hz2 : okZ (.ok v : Res Val) = 0 := rfl
    rw [hz2]
    have HKV2 : Hid (valR.R w3 (fun b => b < w.heap.size) KV.toList v) := HKV
    clear HKV
    have HRR := Lib.hid (show R = openV v kind count from HR.out)
    clear hz2 HR HDL
    obtain ⟨k, u, b, f, l'⟩ := v
    obtain ⟨A', cA, L, cL, c0, c1, c2, c3, c4, _, _, _, hsl, hl1, hl2⟩ := blk_cells HK.out HKV2.out
    have HR := HRR
    have HSL := Lib.hid hsl
    have HL2 := Lib.hid hl2
    simp only [maxLen] at hl2
    obtain ⟨m, hm⟩ : ∃ m, m = l'.length := ⟨_, rfl⟩
    have HM := Lib.hid hm
    rw [← hm] at c4 hl1
    clear HRR hsl hm
    go_wp2_with fail
    refine (need_yes 0 _).mono ?_
    rintro e w' ⟨rfl, rfl⟩
    by_cases hk3 : k = 3
    · have e1 : (k == 3) = true := by simp [hk3]
      by_cases hmc : m = count + 1
      · have e2 : ((m : Int) == (count : Int) + 1) = true := by simp; omega
        cases l' with
        | nil => exfalso; have := HM.out; simp at this; omega
        | cons h t =>
          obtain ⟨bL, oL, rfl, hbL, d0, d1⟩ := head_cells HSL.out
          have hlt := HM.out
          have HR2 := Lib.hid (show R = if h.kind ≠ 0 then .error 91 else if h.num ≠ kind then .error 90 else .ok t by rw [HR.out]; unfold openV; rw [if_neg (by simp [Val.kind, Val.list, hk3]; simp at hlt; omega)]; rfl)
          have HT := Lib.hid (show t.length = count by simp at hlt; omega)
          have hm0 : (0 : Int) < (m : Int) := by omega
          have hm1 : (1 : Int) ≤ (m : Int) := by omega
          have hcc : (m : Int) ≤ (cL : Int) := by omega
          have hc1 : ¬ cL = 1 := by omega
          have hm0' : 0 < m := by omega
          have HMC := Lib.hid hmc
          clear hk3 hmc hlt HR
          by_cases h0 : h.kind = 0
          · have e3 : (h.kind == 0) = true := by simp [h0]
            by_cases hn : h.num = kind
            · have e4 : ((h.num : Int) == (kind : Int)) = true := by simp [hn]
              have HRR := Lib.hid (show R = .ok t by rw [HR2.out, if_neg (by simp [h0]), if_neg (by simp [hn])])
              clear h0 hn HR2
              go_wp2_with fail
              refine (need_yes 91 _).mono ?_
              rintro e w' ⟨rfl, rfl⟩
              go_wp2_with fail
              refine (need_yes 90 _).mono ?_
              rintro e w' ⟨rfl, rfl⟩
              go_wp2_with fail
              go_ret
              refine ⟨HB.out, ?_⟩
              rw [HRR.out]
              have hfr := HSL.out.from (k := 1) (c := cL) HM.out.symm (by have := HMC.out; omega) (by omega)
              rw [if_neg hc1] at hfr
              refine ⟨some ⟨bL, oL + 5, none⟩, cL - 1, ?_, by rw [HT.out]; have := HMC.out; omega, by have := HL2.out; omega, hfr⟩
              have hmm : m - 1 = t.length := by rw [HT.out]; have := HMC.out; omega
              rw [← hmm]; rfl
            · have e4 : ((h.num : Int) == (kind : Int)) = false := by simp; omega
              have HRR := Lib.hid (show R = .error 90 by rw [HR2.out, if_neg (by simp [h0]), if_pos hn])
              clear h0 hn HR2
              go_wp2_with fail
              refine (need_yes 91 _).mono ?_
              rintro e w' ⟨rfl, rfl⟩
              go_wp2_with fail
              refine (need_no 90 _).mono ?_
              rintro e w' ⟨rfl, rfl⟩
              exact ⟨rfl, HB.out, by rw [HRR.out]⟩
          · have e3 : (h.kind == 0) = false := by simp [h0]
            have HRR := Lib.hid (show R = .error 91 by rw [HR2.out, if_pos h0])
            clear h0 HR2
            go_wp2_with fail
            refine (need_no 91 _).mono ?_
            rintro e w' ⟨rfl, rfl⟩
            exact ⟨rfl, HB.out, by rw [HRR.out]⟩
      · have e2 : ((m : Int) == (count : Int) + 1) = false := by simp; omega
        have HRR := Lib.hid (show R = .error 91 by rw [HR.out]; unfold openV; rw [if_pos (.inr (by show l'.length ≠ _; rw [← HM.out]; exact hmc))])
        clear hk3 hmc
        go_wp2_with fail
        refine (need_no 91 _).mono ?_
        rintro e w' ⟨rfl, rfl⟩
        exact ⟨rfl, HB.out, by rw [HRR.out]⟩
    · have e1 : (k == 3) = false := by simp [hk3]
      have HRR := Lib.hid (show R = .error 91 by rw [HR.out]; unfold openV; rw [if_pos (.inl hk3)])
      clear hk3
      go_wp2_with fail
      refine (need_no 91 _).mono ?_
      rintro e w' ⟨rfl, rfl⟩
      exact ⟨rfl, HB.out, by rw [HRR.out]⟩
theorem openG_len {l : List UInt8} {kind count : Nat} {vs : List Val} (h : openG l kind count = .ok vs) : vs.length = count := by
  unfold openG at h
  cases hd : dec l with
  | error z => rw [hd] at h; cases h
  | ok v =>
    rw [hd] at h
    obtain ⟨k, u, b, f, l'⟩ := v
    have h : openV (.mk k u b f l') kind count = .ok vs := h
    unfold openV at h
    split at h
    · cases h
    · rename_i hc
      have hlen : l'.length = count + 1 := by
        apply Classical.byContradiction
        intro h; exact hc (.inr h)
      cases l' with
      | nil => cases h
      | cons a t =>
        simp only [Val.list] at h
        split at h
        · cases h
        · split at h
          · cases h
          · injection h with h; subst h; simpa using hlen
end Go.Proofs.Ytgmbkcjihgphmaa

/- object.caught: the deferred function that recovers. -/
set_option linter.unusedVariables false
namespace Go.Proofs.Ytgmbkcjihgphmaa
open Go.RowKit

set_option maxRecDepth 100000 in
set_option maxHeartbeats 1000000 in
theorem ocaught_flaw (p : Addr) (x z : Int) (older : List PanicEntry) (w : World) (hp : p.block < w.heap.size) (hc : w.cell? p = some (.int .i64 x)) (hz : w.frozen? p = false) :
    CallsD Try.prog 36 #[.pointer (some p)] (.panicking ({ v := .iface 127 (.agg #[.int .i64 z]), recovered := false } :: older)) w fun e u' w' =>
      e = .returned (.tuple #[]) ∧ u' = .panicking ({ v := .iface 127 (.agg #[.int .i64 z]), recovered := true } :: older) ∧ w' = (w.alloc (.cells #[.int .i64 z] 127)).setCell p (.int .i64 z) := by
  have hsi : (Try.prog.info? 127).map (·.size) = some (#[Value.int .i64 z] : Array Value).size := by kernel_rfl
  refine callsD_of_wpS Try.func36 rfl fun c₀ cs hu => ?_
  change Code.wpS _ _ _ { tmps := #[.pointer (some p), undef, undef, undef, undef, undef, undef, undef, undef, undef, undef, undef, undef, undef], defers := [] } _ _
  have hta := run_assert_hit (P := Try.prog) (x := 20) Try.underlying127
  apply wpS_seq
  apply wpS_region
  refine WpR.out (l := [0, 1, 2, 3, 4, 5, 6, 7]) ?_
  refine WpR.recover (a' := ?_) (v := .iface 127 (.agg #[.int .i64 z])) (cs' := { c₀ with mode := .panicking ({ v := .iface 127 (.agg #[.int .i64 z]), recovered := true } :: older) } :: cs) rfl rfl ?_ ?_ ?_ ?_
  rotate_left 1
  · go_simp
  · simp [recoverD, hu]
  · (go_simp; try with_reducible rfl)
  refine WpR.val (v := ?_) (a' := ?_) (w' := w) rfl rfl ?_ ?_ ?_
  rotate_left 2
  · (go_simp; try with_reducible rfl)
  · (go_simp; try with_reducible rfl)
  refine WpR.val (v := ?_) (a' := ?_) (w' := w) rfl rfl ?_ ?_ ?_
  rotate_left 2
  · (go_simp; try with_reducible rfl)
  · (go_simp; try with_reducible rfl)
  refine WpR.val (v := ?_) (a' := ?_) (w' := w) rfl rfl ?_ ?_ ?_
  rotate_left 2
  · (go_simp; try with_reducible rfl)
  · (go_simp; try with_reducible rfl)
  refine WpR.val (v := ?_) (a' := ?_) (w' := w) rfl rfl ?_ ?_ ?_
  rotate_left 2
  · (go_simp; try with_reducible rfl)
  · (go_simp; try with_reducible rfl)
  refine WpR.val (v := ?_) (a' := ?_) (w' := w.alloc (.cells #[.int .i64 0] 127)) rfl rfl ?_ ?_ ?_
  rotate_left 2
  · (go_simp; try with_reducible rfl)
  · (go_simp; try with_reducible rfl)
  refine WpR.skip (a' := ?_) (w' := w.alloc (.cells #[.int .i64 z] 127)) rfl rfl ?_ ?_ ?_
  rotate_left 1
  · (go_simp; try with_reducible rfl)
  · (go_simp; try with_reducible rfl)
  refine WpR.val (v := ?_) (a' := ?_) (w' := w.alloc (.cells #[.int .i64 z] 127)) rfl rfl ?_ ?_ ?_
  rotate_left 2
  · (go_simp; try with_reducible rfl)
  · (go_simp; try with_reducible rfl)
  refine WpR.done ?_
  refine wpS_of_wp ?_
  have hc' : (w.alloc (.cells #[.int .i64 z] 127)).cell? p = some (.int .i64 x) := (World.cell?_alloc_lt _ _ _ hp).trans hc
  have hz' : (w.alloc (.cells #[.int .i64 z] 127)).frozen? p = false := (World.frozen?_alloc_old w _ p (by omega)).trans hz
  go_wp2_with fail
  simp [bodyPostS, results, Try.results36]

set_option maxRecDepth 100000 in
set_option maxHeartbeats 1000000 in
theorem ocaught_idle (p : Addr) (w : World) :
    CallsD Try.prog 36 #[.pointer (some p)] .returning w fun e u' w' =>
      e = .returned (.tuple #[]) ∧ u' = .returning ∧ w' = w.alloc (.cells #[.int .i64 0] 127) := by
  have hta := fun w : World => run_assert_nil (P := Try.prog) (x := 20) (z := .agg #[.int .i64 0]) Try.underlying127 w (by kernel_rfl)
  refine callsD_of_wpS Try.func36 rfl fun c₀ cs hu => ?_
  change Code.wpS _ _ _ { tmps := #[.pointer (some p), undef, undef, undef, undef, undef, undef, undef, undef, undef, undef, undef, undef, undef], defers := [] } _ _
  apply wpS_seq
  apply wpS_region
  refine WpR.out (l := [0, 1, 2, 3, 4, 5, 6, 7]) ?_
  refine WpR.idle (a' := ?_) rfl rfl ?_ ?_ ?_ ?_
  rotate_left 1
  · go_simp
  · simp [recoverD, hu]
  · (go_simp; try with_reducible rfl)
  refine WpR.val (v := ?_) (a' := ?_) (w' := w) rfl rfl ?_ ?_ ?_
  rotate_left 2
  · (go_simp; try with_reducible rfl)
  · (go_simp; try with_reducible rfl)
  refine WpR.val (v := ?_) (a' := ?_) (w' := w) rfl rfl ?_ ?_ ?_
  rotate_left 2
  · (go_simp; try with_reducible rfl)
  · (go_simp; try with_reducible rfl)
  refine WpR.val (v := ?_) (a' := ?_) (w' := w) rfl rfl ?_ ?_ ?_
  rotate_left 2
  · (go_simp; try with_reducible rfl)
  · (go_simp; try with_reducible rfl)
  refine WpR.val (v := ?_) (a' := ?_) (w' := w) rfl rfl ?_ ?_ ?_
  rotate_left 2
  · (go_simp; try with_reducible rfl)
  · (go_simp; try with_reducible rfl)
  refine WpR.val (v := ?_) (a' := ?_) (w' := w.alloc (.cells #[.int .i64 0] 127)) rfl rfl ?_ ?_ ?_
  rotate_left 2
  · (go_simp; try with_reducible rfl)
  · (go_simp; try with_reducible rfl)
  refine WpR.skip (a' := ?_) (w' := w.alloc (.cells #[.int .i64 0] 127)) rfl rfl ?_ ?_ ?_
  rotate_left 1
  · (go_simp; try with_reducible rfl)
  · (go_simp; try with_reducible rfl)
  refine WpR.val (v := ?_) (a' := ?_) (w' := w.alloc (.cells #[.int .i64 0] 127)) rfl rfl ?_ ?_ ?_
  rotate_left 2
  · (go_simp; try with_reducible rfl)
  · (go_simp; try with_reducible rfl)
  refine WpR.done ?_
  refine wpS_of_wp ?_
  go_wp2_with fail
  cases c₀
  simp_all [bodyPostS, results, Try.results36]

end Go.Proofs.Ytgmbkcjihgphmaa

/- object.GetChunk. -/
set_option linter.unusedVariables false
namespace Go.Proofs.Ytgmbkcjihgphmaa
open Go.RowKit
attribute [local go_sem ↓] cvt_eq

def ChunkPost (w : World) (r : Res (List UInt8)) (e : Ending) (w' : World) : Prop :=
  Below w.heap.size w w' ∧ match r with
    | .ok b => ∃ A c, e = .returned (.tuple #[.slice A b.length c, .int .i64 0]) ∧ Sl w' 1 A b.length (bytesV b) ∧ b.length ≤ c ∧ c ≤ maxLen
    | .error z => e = .returned (.tuple #[.slice none 0 0, .int .i64 z])

/-- a slice's i-th value -/
theorem val_at {w : World} {av : Av} {L : Option Addr} {vs : List Val} {n i : Nat} (h : SlOf valR w av L vs) (hl : vs.length = n) (hi : i < n) :
    ∃ b o cs, L = some ⟨b, o, none⟩ ∧ b < w.heap.size ∧ valR.R w av cs (nthV vs i) ∧ At w ⟨b, o + i * 5, none⟩ cs.toArray := by
  obtain ⟨b, o, cs, x, e, hb, hx, hr, hc⟩ := h.at hl hi
  refine ⟨b, o, cs, e, hb, ?_, hc⟩
  have : nthV vs i = x := by unfold nthV; rw [List.getD_eq_getElem?_getD, hx]; rfl
  rw [this]; exact hr

theorem textG_len {v : Val} {most : Nat} {b : List UInt8} (h : textG v most = .ok b) : b.length ≤ most := by
  unfold textG at h
  split at h
  · cases h
  · split at h
    · cases h
    · injection h with h; subst h; omega

/-- the door of GetChunk behind a panic that tells an error -/
theorem chunk_door {w w4 : World} {g : Nat} {tmps : Array Value} {z : Int} (HG : w.heap.size = g) (hB : Below g w w4) (he : Blk w4 g 29 #[.int .i64 0])
    (hp : tmps.getD 2 undef = .slice none 0 0) (hq : tmps.getD 3 undef = .pointer (some ⟨g, 0, none⟩)) :
    Leaves Try.prog Try.f48 tmps (ChunkPost w (.error z)) [{ target := .fn (.func 36) #[], args := #[.pointer (some ⟨g, 0, none⟩)] }] (.panicking (flawE z)) w4 := by
  have hlt : g < w4.heap.size := he.lt
  have E2 := (he.alloc (.cells #[.int .i64 z] 127)).set_ 0 (.int .i64 z)
  have HB5 := (hB.alloc (Nat.le_of_lt hlt) (.cells #[.int .i64 z] 127)).setCell (p := ⟨g, 0, none⟩) (Nat.le_refl g) (.int .i64 z)
  refine leaves_cons (f := 36) (args := #[.pointer (some ⟨g, 0, none⟩)]) (by simp) (by simp [go_sem]) ?_
  refine (ocaught_flaw ⟨g, 0, none⟩ 0 z [] w4 hlt (he.cell 0) (he.frozen 0)).mono ?_
  rintro e u' w7 ⟨rfl, rfl, rfl⟩
  have r2 := E2.cell 0
  have hp' : tmps[2]?.getD undef = .slice none 0 0 := by simpa using hp
  have hq' : tmps[3]?.getD undef = .pointer (some ⟨g, 0, none⟩) := by simpa using hq
  generalize (w4.alloc (.cells #[.int .i64 z] 127)).setCell ⟨g, 0, none⟩ (.int .i64 z) = w8 at *
  simp [settle, Leaves, results, Try.results48, go_sem, r2, hp', hq']
  unfold ChunkPost
  rw [HG]
  exact ⟨HB5, rfl⟩

set_option maxRecDepth 100000 in
set_option maxHeartbeats 2000000 in
theorem getChunk_any (A : Option Addr) (n c : Nat) (l : List UInt8) (w : World) (hs : Sl w 1 A n (bytesV l)) (hnc : n ≤ c) (hcm : c ≤ maxLen) :
    Calls Try.prog 48 #[.slice A n c] w (ChunkPost w (getChunk l)) := by
  obtain ⟨w1, hw1⟩ : ∃ w1, w1 = w.alloc (.cells #[.int .i64 0] 29) := ⟨_, rfl⟩
  have hb1 : Below w.heap.size w w1 := by rw [hw1]; exact (Below.refl _ _).alloc (Nat.le_refl _) _
  have HE1 := Lib.hid (show Blk w1 w.heap.size 29 #[.int .i64 0] by rw [hw1]; exact Blk.new w _ _)
  have HOP := Lib.hid (open_get A n c l 1 1 w1 (hs.below hb1) hnc hcm (by omega) (by omega) (by omega))
  have HB1 := Lib.hid hb1
  obtain ⟨R, hR⟩ : ∃ R, R = getChunk l := ⟨_, rfl⟩
  obtain ⟨D, hD⟩ : ∃ D, D = openG l 1 1 := ⟨_, rfl⟩
  have HR := Lib.hid (show R = bindR D fun vs => textG (nthV vs 0) 262144 by rw [hR, hD]; rfl)
  have HDL := Lib.hid hD
  rw [← hR]
  rw [← hD] at HOP
  clear hs hnc hcm hb1 hR hD
  go_enter_defers Try.func48, Try.ntmps48
  go_upto_region 2 with fail
  rw [← hw1]
  clear hw1
  generalize hg : w.heap.size = g at *
  have HG := Lib.hid hg
  clear hg
  go_wp2_with fail
  refine HOP.out.mono ?_
  intro e w2 hp
  obtain ⟨hb2, hp⟩ := hp
  have HE2 := Lib.hid (HE1.out.below hb2 HE1.out.lt)
  have HB2 := Lib.hid (HB1.out.trans (hb2.mono (Nat.le_of_lt HE1.out.lt)))
  cases D with
  | error z =>
    obtain rfl : e = _ := hp
    have hr := HR.out
    rw [hr]
    refine chunk_door HG.out HB2.out HE2.out ?_ ?_ <;> rfl
  | ok vs =>
    obtain ⟨L, cL, rfl, hl1, hl2, hsl⟩ := hp
    have hlen := openG_len HDL.out.symm
    rw [hlen] at hl1 ⊢
    obtain ⟨bL, oL, cs, rfl, hbL, hv, hat⟩ := val_at hsl hlen (i := 0) (by omega)
    have HRR := Lib.hid (show R = textG (nthV vs 0) 262144 from HR.out)
    have HHV := Lib.hid (valR.stable hv (Moves.forget w2 _))
    have hk5 : cs.length = 5 := valR.len hv
    obtain ⟨KV, hKV⟩ : ∃ KV, KV = cs.toArray := ⟨_, rfl⟩
    have HI := Lib.hid (show (Try.prog.info? 72).map (·.size) = some KV.size by rw [hKV, show cs.toArray.size = 5 from by simpa using hk5]; exact val_info)
    have HAT := Lib.hid (show At w2 ⟨bL, oL, none⟩ KV by rw [hKV]; simpa using hat)
    have HT := Lib.hid (text_get cs (nthV vs 0) 262144 w2 HHV.out (by omega))
    rw [← hKV] at HT
    obtain ⟨T, hT⟩ : ∃ T, T = textG (nthV vs 0) 262144 := ⟨_, rfl⟩
    have HTT := Lib.hid hT
    rw [← hT] at HT HRR
    clear hlen hsl hv hat hk5 hKV HR HDL HOP hT
    go_wp2_with (first | (refine wpList_load_at rfl _ _ rfl bL oL rfl KV _ HAT.out Try.underlying72 rfl HI.out ?_) | fail)
    refine HT.out.mono ?_
    intro e w3 hp
    obtain ⟨hb3, hp⟩ := hp
    have HE3 := Lib.hid (HE2.out.below hb3 HE2.out.lt)
    have HB3 := Lib.hid (HB2.out.trans (hb3.mono (Nat.le_of_lt HE2.out.lt)))
    cases T with
    | error z =>
      obtain rfl : e = _ := hp
      rw [HRR.out]
      refine chunk_door HG.out HB3.out HE3.out ?_ ?_ <;> rfl
    | ok b =>
      obtain rfl : e = _ := hp
      have hlen := textG_len HTT.out.symm
      have hbz : (⟨b.toArray⟩ : ByteArray).size = b.length := by simp [ByteArray.size]
      obtain ⟨Ab, cb, w4, hrun, hsl, hc, hcm, hb4, bb, rfl, hbw⟩ := toBytes w3 ⟨b.toArray⟩ (by rw [hbz]; simp only [maxLen]; omega)
      rw [hbz] at hrun hsl hc
      have HE4 := Lib.hid (HE3.out.below hb4 HE3.out.lt)
      have HB4 := Lib.hid (HB3.out.trans (hb4.mono (Nat.le_of_lt HE3.out.lt)))
      have HSL := Lib.hid (show Sl w4 1 (some ⟨bb, 0, none⟩) b.length (bytesV b) from hsl)
      have HC := Lib.hid (And.intro hc hcm)
      have hq := HE4.out.cell 0
      have hf := HE4.out.frozen 0
      have hg4 := HE4.out.lt
      have hge : g ≤ w3.heap.size := Nat.le_of_lt HE3.out.lt
      have hgne : bb ≠ g := by have := HE3.out.lt; omega
      clear hlen hsl hc hcm hb4 HTT HT HAT HHV HI hb2 hb3
      go_wp2_with fail
      refine leaves_cons (f := 36) (args := #[.pointer (some ⟨g, 0, none⟩)]) (by simp) (by simp [go_sem]) ?_
      refine (ocaught_idle _ _).mono ?_
      rintro e u' w7 ⟨rfl, rfl, rfl⟩
      have E2 := (HE4.out.set_ 0 (.int .i64 0)).alloc (.cells #[.int .i64 0] 127)
      have r2 := E2.cell 0
      have HB5 := (HB4.out.setCell (p := ⟨g, 0, none⟩) (Nat.le_refl g) (.int .i64 0)).alloc (by have := HE4.out.lt; simp; omega) (.cells #[.int .i64 0] 127)
      have hsl5 : Sl ((w4.setCell ⟨g, 0, none⟩ (.int .i64 0)).alloc (.cells #[.int .i64 0] 127)) 1 (some ⟨bb, 0, none⟩) b.length (bytesV b) := by
        refine ⟨HSL.out.1, fun h0 => ?_⟩
        obtain ⟨b', o', he, hb', hc'⟩ := HSL.out.2 h0
        have he := Option.some.inj he
        injection he with e1 e2
        subst e1 e2
        refine ⟨bb, 0, rfl, by simp; omega, fun j u hu => ?_⟩
        rw [World.cell?_alloc_lt _ _ _ (by simpa using hb'), World.cell?_setCell_other _ _ _ _ (by intro e; injection e with e; omega)]
        exact hc' j u hu
      generalize (w4.setCell ⟨g, 0, none⟩ (.int .i64 0)).alloc (.cells #[.int .i64 0] 127) = w8 at *
      simp [settle, Leaves, results, Try.results48, go_sem, r2]
      unfold ChunkPost
      rw [HG.out, HRR.out]
      exact ⟨HB5, _, _, rfl, hsl5, HC.out.1, HC.out.2⟩
end Go.Proofs.Ytgmbkcjihgphmaa

/- object.GetBlob. -/
set_option linter.unusedVariables false
namespace Go.Proofs.Ytgmbkcjihgphmaa
open Go.RowKit

/-- two results in cells: a row, and an error's number -/
theorem results_row_err {fn : Func} {p q : Tmp} {ty : TypeId} {d : TypeDesc} (h : fn.results = #[.cell p ty, .cell q 29]) (tmps : Array Value) (w : World) (g g' : Nat) (t : TypeId) (cs : Array Value) (z : Int)
    (hp : tmps.getD p undef = .pointer (some ⟨g, 0, none⟩)) (hq : tmps.getD q undef = .pointer (some ⟨g', 0, none⟩)) (hg : w.heap[g]? = some (.cells cs t (0, 0))) (hg' : w.cell? ⟨g', 0, none⟩ = some (.int .i64 z))
    (hu : Try.prog.underlying ty = some d) (hd : (match d with | .struct _ | .array _ _ => true | _ => false) = true) (hi : (Try.prog.info? ty).map (·.size) = some cs.size) :
    (results fn tmps).run Try.prog w = .ok (.tuple #[.agg cs, .int .i64 z]) w := by
  have hp' : tmps[p]?.getD undef = .pointer (some ⟨g, 0, none⟩) := by simpa using hp
  have hq' : tmps[q]?.getD undef = .pointer (some ⟨g', 0, none⟩) := by simpa using hq
  have hl := run_loadVar_row w g t ty cs (0, 0) d hg hu (by cases d <;> simp_all) hi
  have h2 : (loadVar 29 ⟨g', 0, none⟩).run Try.prog w = .ok (.int .i64 z) w := by simp [go_sem, hg']
  simp [results, h, hp', hq', asAddr, hl, h2]

abbrev zBlob : Array Value := #[.slice none 0 0, .int .i64 0]
theorem blob_info : (Try.prog.info? 116).map (·.size) = some 2 := by kernel_rfl

theorem blobD_ok (pe pv : Addr) (u : FrameMode) (w : World) (he : w.cell? pe = some (.int .i64 0)) :
    CallsD Try.prog 58 #[.pointer (some pe), .pointer (some pv)] u w fun e u' w' => u' = u ∧ e = .returned (.tuple #[]) ∧ w' = w := by
  go_enter_d Try.func58, Try.ntmps58
  go_wp2_with fail
  go_end0
  exact ⟨rfl, rfl⟩
theorem blobD_bad (pe : Addr) (gv : Nat) (z : Int) (K : Array Value) (u : FrameMode) (w : World) (hz : z ≠ 0) (he : w.cell? pe = some (.int .i64 z)) (hK : K.size = 2) (hb : Blk w gv 116 K) :
    CallsD Try.prog 58 #[.pointer (some pe), .pointer (some ⟨gv, 0, none⟩)] u w fun e u' w' => u' = u ∧ e = .returned (.tuple #[]) ∧ w' = w.setRow gv zBlob := by
  have hz' : (z != 0) = true := by simp [hz]
  obtain ⟨KV, hKV⟩ : ∃ KV, KV = zBlob := ⟨_, rfl⟩
  have HI := Lib.hid (show (Try.prog.info? 116).map (·.size) = some KV.size by rw [hKV]; exact blob_info)
  have HO := Lib.hid (show KV.all (·.oneCell') = true by rw [hKV]; simp [Value.oneCell'])
  have HS := Lib.hid (show K.size = KV.size by rw [hK, hKV]; rfl)
  have HB := Lib.hid hb
  have HKV := Lib.hid hKV
  rw [← hKV]
  clear hz hKV hb hK
  go_enter_d Try.func58, Try.ntmps58
  go_wp2_with (first | (refine wpList_store_row rfl _ _ _ rfl gv KV rfl (by rw [HKV.out]; try rfl) 116 _ HB.out HI.out HS.out HO.out ?_) | fail)
  go_end0
  exact ⟨rfl, rfl⟩

def BlobPost (w : World) (r : Res BlobT) (e : Ending) (w' : World) : Prop :=
  Below w.heap.size w w' ∧ match r with
    | .ok x => ∃ A c, e = .returned (.tuple #[.agg #[.slice A x.1.length c, .int .i64 x.2], .int .i64 0]) ∧ SlOf oidR w' (fun b => b < w.heap.size) A x.1 ∧ x.1.length ≤ c ∧ c ≤ maxLen
    | .error z => e = .returned (.tuple #[.agg zBlob, .int .i64 z])

/-- the door of GetBlob behind a panic that tells an error -/
theorem blob_door {w w4 : World} {g : Nat} {tmps K : Array Value} {z : Int} (hz : z ≠ 0) (HG : w.heap.size = g) (hB : Below g w w4) (hv : Blk w4 g 116 K) (hK : K.size = 2) (he : Blk w4 (g + 1) 29 #[.int .i64 0])
    (hp : tmps.getD 2 undef = .pointer (some ⟨g, 0, none⟩)) (hq : tmps.getD 3 undef = .pointer (some ⟨g + 1, 0, none⟩)) :
    Leaves Try.prog Try.f45 tmps (BlobPost w (.error z)) [{ target := .fn (.func 36) #[], args := #[.pointer (some ⟨g + 1, 0, none⟩)] }, { target := .fn (.func 58) #[.pointer (some ⟨g + 1, 0, none⟩), .pointer (some ⟨g, 0, none⟩)], args := #[] }] (.panicking (flawE z)) w4 := by
  have hlt : g + 1 < w4.heap.size := he.lt
  have E1 := (hv.alloc (.cells #[.int .i64 z] 127)).other (g' := g + 1) (by omega) 0 (.int .i64 z)
  have E2 := (he.alloc (.cells #[.int .i64 z] 127)).set_ 0 (.int .i64 z)
  have hgl : g ≤ w4.heap.size := by omega
  have HB5 := (hB.alloc hgl (.cells #[.int .i64 z] 127)).setCell (p := ⟨g + 1, 0, none⟩) (by show g ≤ g + 1; omega) (.int .i64 z)
  refine leaves_cons (f := 36) (args := #[.pointer (some ⟨g + 1, 0, none⟩)]) (by simp) (by simp [go_sem]) ?_
  refine (ocaught_flaw ⟨g + 1, 0, none⟩ 0 z [] w4 hlt (he.cell 0) (he.frozen 0)).mono ?_
  rintro e u' w7 ⟨rfl, rfl, rfl⟩
  refine leaves_cons (f := 58) (args := #[.pointer (some ⟨g + 1, 0, none⟩), .pointer (some ⟨g, 0, none⟩)]) (by simp [settle]) (by simp [go_sem]) ?_
  refine (blobD_bad _ g z K _ _ hz (E2.cell 0) hK E1).mono ?_
  rintro e u' w8 ⟨rfl, rfl, rfl⟩
  have r1 := setRow_heap _ g _ zBlob _ _ E1
  have r2 := (cell_setRow_other ((w4.alloc (.cells #[.int .i64 z] 127)).setCell ⟨g + 1, 0, none⟩ (.int .i64 z)) g zBlob ⟨g + 1, 0, none⟩ (by show g + 1 ≠ g; omega)).trans (E2.cell 0)
  have HB6 := below_setRow HB5 (Nat.le_refl g) zBlob
  refine ⟨_, results_row_err rfl tmps _ g (g + 1) _ zBlob z hp hq r1 r2 Try.underlying116 rfl blob_info, ?_⟩
  unfold BlobPost
  rw [HG]
  exact ⟨HB6, rfl⟩

theorem eachG_err {α : Type} {f : Val → Res α} (hf : ∀ v z, f v = .error z → z ≠ 0) : ∀ {l : List Val} {z : Int}, eachG f l = .error z → z ≠ 0
  | [], z, h => by cases h
  | v :: r, z, h => by
    unfold eachG at h
    cases hv : f v with
    | error y => rw [hv] at h; injection h with h; subst h; exact hf v y hv
    | ok x =>
      rw [hv] at h
      cases hr : eachG f r with
      | error y => rw [show bindR (.ok x : Res α) (fun x => bindR (eachG f r) fun xs => .ok (x :: xs)) = bindR (eachG f r) fun xs => .ok (x :: xs) from rfl, hr] at h; injection h with h; subst h; exact eachG_err hf hr
      | ok xs => rw [show bindR (.ok x : Res α) (fun x => bindR (eachG f r) fun xs => .ok (x :: xs)) = bindR (eachG f r) fun xs => .ok (x :: xs) from rfl, hr] at h; cases h
theorem idG_err {v : Val} {z : Int} (h : idG v = .error z) : z ≠ 0 := by
  unfold idG at h
  split at h
  · injection h with h; omega
  · cases h
theorem listG_err {v : Val} {m : Nat} {z : Int} (h : listG v m = .error z) : z ≠ 0 := by
  unfold listG at h
  split at h
  · injection h with h; omega
  · split at h
    · injection h with h; omega
    · cases h
theorem textG_err {v : Val} {m : Nat} {z : Int} (h : textG v m = .error z) : z ≠ 0 := by
  unfold textG at h
  split at h
  · injection h with h; omega
  · split at h
    · injection h with h; omega
    · cases h
theorem openG_err {l : List UInt8} {k n : Nat} {z : Int} (h : openG l k n = .error z) : z ≠ 0 := by
  unfold openG at h
  cases hd : dec l with
  | error y => rw [hd] at h; injection h with h; subst h; exact dec_err_ne hd
  | ok v =>
    rw [hd] at h
    have h : openV v k n = .error z := h
    unfold openV at h
    split at h
    · injection h with h; omega
    · split at h
      · injection h with h; omega
      · split at h
        · injection h with h; omega
        · split at h
          · injection h with h; omega
          · cases h
end Go.Proofs.Ytgmbkcjihgphmaa

/- object: a list of ids that is read, one behind the other. -/
set_option linter.unusedVariables false
namespace Go.Proofs.Ytgmbkcjihgphmaa
open Go.RowKit

def conE {α : Type} (pre : List α) (r : Res (List α)) : Res (List α) := bindR r fun xs => .ok (pre ++ xs)
theorem conE_nil {α : Type} (r : Res (List α)) : conE [] r = r := by cases r <;> simp [conE, bindR]
theorem each_drop {α : Type} {f : Val → Res α} {us : List Val} {k : Nat} {v : Val} (hv : us[k]? = some v) : eachG f (us.drop k) = bindR (f v) fun x => bindR (eachG f (us.drop (k + 1))) fun xs => .ok (x :: xs) := by
  obtain ⟨hl, he⟩ := List.getElem?_eq_some_iff.1 hv
  rw [List.drop_eq_getElem_cons hl, he]; rfl
theorem conE_step {α : Type} {f : Val → Res α} {us : List Val} {k : Nat} {v : Val} {x : α} (pre : List α) (hv : us[k]? = some v) (hf : f v = .ok x) : conE pre (eachG f (us.drop k)) = conE (pre ++ [x]) (eachG f (us.drop (k + 1))) := by
  rw [each_drop hv, hf]
  cases eachG f (us.drop (k + 1)) <;> simp [conE, bindR]
theorem conE_err {α : Type} {f : Val → Res α} {us : List Val} {k : Nat} {v : Val} {z : Int} (pre : List α) (hv : us[k]? = some v) (hf : f v = .error z) : conE pre (eachG f (us.drop k)) = .error z := by
  rw [each_drop hv, hf]; rfl
theorem conE_end {α : Type} {f : Val → Res α} {us : List Val} {k : Nat} (pre : List α) (hk : us.length ≤ k) : conE pre (eachG f (us.drop k)) = .ok pre := by
  rw [List.drop_of_length_le hk]; simp [conE, bindR, eachG]

/-- what a row's block may be -/
theorem grown_own {w2 wr w' : World} {g : Nat} {o : Option Nat} (h : w2.grownBy wr (some g)) (k : wr.grownBy w' o) (ho : ∀ b, o = some b → w2.heap.size ≤ b) : w2.grownBy w' (some g) := by
  cases o with
  | none => exact grown_trans h ⟨k.os, k.tape, k.output, k.size, fun b hb _ => k.block b hb (by simp)⟩
  | some b => exact grown_new h k (ho b rfl)

/-- the ids so far, in a row of the call's own, told of in block g -/
structure IL (w2 wr : World) (g : Nat) (A : Option Addr) (m c : Nat) (is : List (List UInt8)) : Prop where
  row : RowR oidR 33 wr w2.heap.size A m c is
  grown : w2.grownBy wr (some g)
  lt : g < w2.heap.size
theorem IL.start {w2 : World} {g : Nat} (h : g < w2.heap.size) : IL w2 w2 g none 0 0 [] := ⟨RowR.nil _ _ _ _, grown_refl _ _, h⟩
theorem IL.below {w2 wr w' : World} {g : Nat} {A : Option Addr} {m c : Nat} {is : List (List UInt8)} (h : IL w2 wr g A m c is) (hb : Below wr.heap.size wr w') : IL w2 w' g A m c is := ⟨h.row.below hb, grown_trans h.grown (grown_below hb _), h.lt⟩
theorem elemId : ElemOf Try.prog 37 33 (.agg (bytesV (List.replicate 32 0)).toArray) 32 32 := ⟨Try.underlying37, by kernel_rfl, rfl, by decide⟩
/-- one more id -/
theorem IL.push {w2 wr : World} {g : Nat} {A : Option Addr} {m c : Nat} {is : List (List UInt8)} {x : List UInt8} (h : IL w2 wr g A m c is) (hx : x.length = 32) (hm : m ≤ 1000000) (c0 : Nat) :
    ∃ A' c' w', (Builtin.append_ #[37, 37] 37 #[.slice A m c, .slice (some ⟨wr.heap.size, 0, none⟩) 1 c0]).run Try.prog (wr.alloc (.cells (bytesV x).toArray 33)) = .ok (.slice A' (m + 1) c') w' ∧ IL w2 w' g A' (m + 1) c' (is ++ [x]) ∧
      wr.grownBy w' (Value.slice A m c).ownBlock ∧ (∀ b, (Value.slice A m c).ownBlock = some b → w2.heap.size ≤ b) := by
  have hsz := h.grown.size
  obtain ⟨A', c', w', run, hrow, _, hg, _, _, _⟩ := h.row.push elemId hsz (av := fun _ => True) (oid_of wr _ hx) (fun _ _ _ => trivial) (by omega) (by simp only [maxLen]; omega) 37 c0
  have hob : ∀ b, (Value.slice A m c).ownBlock = some b → w2.heap.size ≤ b := fun b hb => (h.row.lt hb).1
  exact ⟨A', c', w', run, ⟨hrow, grown_own h.grown hg hob, h.lt⟩, hg, hob⟩
theorem IL.set {w2 wr : World} {g off : Nat} {A : Option Addr} {m c : Nat} {is : List (List UInt8)} (h : IL w2 wr g A m c is) (u : Value) : IL w2 (wr.setCell ⟨g, off, none⟩ u) g A m c is :=
  ⟨h.row.grown (grown_set wr g off u) (fun k e hk => by have e := Option.some.inj e; have := (h.row.lt hk).1; have := h.lt; omega) (fun _ _ _ k => k), grown_trans h.grown (grown_set wr g off u), h.lt⟩
theorem IL.set_row {w2 wr : World} {g : Nat} {A : Option Addr} {m c : Nat} {is : List (List UInt8)} (h : IL w2 wr g A m c is) (K : Array Value) : IL w2 (wr.setRow g K) g A m c is :=
  ⟨h.row.grown (grown_row wr g K) (fun k e hk => by have e := Option.some.inj e; have := (h.row.lt hk).1; have := h.lt; omega) (fun _ _ _ k => k), grown_trans h.grown (grown_row wr g K), h.lt⟩
/-- the ids as a slice in new memory -/
theorem IL.sl {w2 wr : World} {g : Nat} {A : Option Addr} {m c : Nat} {is : List (List UInt8)} (h : IL w2 wr g A m c is) {B : Nat} (hB : B ≤ w2.heap.size) : SlOf oidR wr (fun b => b < B) A is ∧ m = is.length ∧ m ≤ c ∧ c ≤ maxLen := by
  obtain ⟨h1, h2⟩ := h.row.cap
  refine ⟨?_, h.row.len, h1, h2⟩
  refine h.row.sl.away B (fun h0 b off e => ?_) (fun _ _ k => k)
  obtain ⟨g', hg, hb, _⟩ := h.row.at (by rw [h.row.len]; exact h0)
  rw [hg] at e
  have e := Option.some.inj e
  injection e with e
  omega
end Go.Proofs.Ytgmbkcjihgphmaa

/- object: one id as a slice of one; panics out of a region that draws its order, in a function that recovers. -/
set_option linter.unusedVariables false
set_option linter.unusedSimpArgs false
namespace Go.Proofs.Ytgmbkcjihgphmaa
open Go.RowKit

theorem fill_get : ∀ (K : List Value) (n off : Nat) (cells : Array Value) (i : Nat), off + n + K.length ≤ cells.size → ((K.zipIdx n).foldl (fun cs (p : Value × Nat) => cs.setIfInBounds (off + p.2) p.1) cells)[i]? = if off + n ≤ i ∧ i < off + n + K.length then K[i - (off + n)]? else cells[i]?
  | [], n, off, cells, i, h => by
    have : ¬ (off + n ≤ i ∧ i < off + n + ([] : List Value).length) := by simp only [List.length_nil]; omega
    rw [if_neg this]
    rfl
  | x :: K, n, off, cells, i, h => by
    rw [List.zipIdx_cons, List.foldl_cons, fill_get K (n + 1) off _ i (by simp at h ⊢; omega)]
    simp at h
    by_cases h1 : off + (n + 1) ≤ i ∧ i < off + (n + 1) + K.length
    · rw [if_pos h1, if_pos (by simp only [List.length_cons]; omega)]
      have : i - (off + n) = (i - (off + (n + 1))) + 1 := by omega
      rw [this, List.getElem?_cons_succ]
    · rw [if_neg h1]
      by_cases h2 : i = off + n
      · subst h2
        rw [if_pos (by simp only [List.length_cons]; omega), Array.getElem?_setIfInBounds_self_of_lt (by omega)]
        try simp
      · rw [if_neg (by simp only [List.length_cons]; omega), Array.getElem?_setIfInBounds_ne (by omega)]
theorem fill_all (K cells : Array Value) (h : K.size = cells.size) : (K.zipIdx.foldl (fun cs (p : Value × Nat) => cs.setIfInBounds (0 + p.2) p.1) cells) = K := by
  have h1 : K.zipIdx.foldl (fun cs (p : Value × Nat) => cs.setIfInBounds (0 + p.2) p.1) cells = (K.toList.zipIdx 0).foldl (fun cs (p : Value × Nat) => cs.setIfInBounds (0 + p.2) p.1) cells := by
    rw [← Array.foldl_toList, Array.toList_zipIdx]
  rw [h1]
  apply Array.ext_getElem?
  intro i
  rw [fill_get K.toList 0 0 cells i (by simp; omega)]
  by_cases hi : i < K.size
  · rw [if_pos (by simp only [Array.length_toList]; omega)]; simp
  · rw [if_neg (by simp only [Array.length_toList]; omega)]
    rw [Array.getElem?_eq_none (by omega), Array.getElem?_eq_none (by omega)]

/-- '[]ID{x}', as an append's last part makes it ('attribute [local go_sem ↓] bsId_eq') -/
noncomputable def bsId (w : World) (v : Value) : Result Value := (Instr.buildSlice 37 1 #[(0, v)]).run Try.prog w
theorem bsId_eq (w : World) (v : Value) : (Instr.buildSlice 37 1 #[(0, v)]).run Try.prog w = bsId w v := rfl
theorem id_sizeOf (w : World) : (sizeOf 33).run Try.prog w = .ok 32 w := by
  have h := oid_info
  cases hq : Try.prog.info? 33 with
  | none => rw [hq] at h; simp at h
  | some i =>
    rw [hq] at h
    have h1 : i.size = 32 := by simpa using h
    simp [sizeOf, typeInfo, hq, h1]
theorem id_zero (w : World) : (zeroValue 33).run Try.prog w = .ok (.agg (bytesV (List.replicate 32 0)).toArray) w := by kernel_rfl
theorem bsId_of (w : World) (K : Array Value) (hK : K.size = 32) : bsId w (.agg K) = .ok (.slice (some ⟨w.heap.size, 0, none⟩) 1 1) (w.alloc (.cells K 33)) := by
  unfold bsId Instr.buildSlice
  have hf : ∀ cells : Array Value, cells.size = 32 → Instr.fill (fun i => some (i * 32, 32)) cells [(0, .agg K)] = some K := by
    intro cells hc
    have hK2 : (Value.agg K).cells = K := rfl
    have h := fill_all K cells (by omega)
    unfold Instr.fill
    simp only [hK2]
    have hc1 : (decide (K.size ≠ 32) || decide (0 * 32 + K.size > cells.size)) = false := by simp [hK, hc]
    simp only [Nat.zero_mul] at hc1 ⊢
    rw [if_neg (by rw [hc1]; decide)]
    unfold Instr.fill
    rw [h]
  simp [run_underlying Try.underlying37, Sem.run_bind, id_sizeOf, id_zero, Value.cells]
  rw [hf _ (by simp)]
  simp [newRow, Sem.run_bind]

/-- the step of a slice of one, in a region that draws its order -/
theorem step_build {P : Program} {Q : Exit → Act → World → Prop} {o : Oper} {a : Act} {w w' : World} {K : Act → World → Prop} {E : Prop} (hgd : o.guard = none) (x : Operand) {t : TypeId}
    (ho : o.op = .buildSlice t 1 #[(0, x)]) {y v' : Value} (hx : a.eval x = y) (hrun : (Instr.buildSlice t 1 #[(0, y)]).run P w = .ok v' w') (h : K (a.put o.dst v') w') :
    ∀ {ops : Array Oper}, if Region.wanted o (yielded ops a.tmps) = true then Oper.wp P o a w K Q else E := by
  intro ops
  have hw : Region.wanted o (yielded ops a.tmps) = true := by simp [Region.wanted, hgd]
  rw [if_pos hw]
  unfold Oper.wp execOp
  simp only [ho, List.map_toArray, List.map_cons, List.map_nil, hx, Sem.run_bind, hrun, Result.andThen_ok, Sem.run_pure]
  exact h

/-! ### panics out of a region, in a function that recovers -/
/-- what a panic's way out must show: the results' slots, the deferred calls, and Pn -/
def Door (Pn : List PanicEntry → World → Prop) (p q : Tmp) (x y : Value) (ds : List Deferred) (Q : Exit → Act → World → Prop) : Exit → Act → World → Prop
  | .panic ch, a, w => a.tmps.getD p undef = x ∧ a.tmps.getD q undef = y ∧ a.defers = ds ∧ Pn ch w
  | e, a, w => Q e a w
theorem wp_door {P : Program} {c : Code} {Q : Exit → Act → World → Prop} {a : Act} {w : World} (Pn : List PanicEntry → World → Prop) (p q : Tmp) (x y : Value) (ds : List Deferred)
    (hq : ∀ ch a w, a.tmps.getD p undef = x → a.tmps.getD q undef = y → a.defers = ds → Pn ch w → Q (.panic ch) a w) (h : Code.wp P c (Door Pn p q x y ds Q) a w) : Code.wp P c Q a w := by
  refine Code.wp_mono (fun e a w he => ?_) h
  cases e with
  | panic ch => exact hq ch a w he.1 he.2.1 he.2.2.1 he.2.2.2
  | _ => exact he
theorem door_normal {Pn : List PanicEntry → World → Prop} {p q : Tmp} {x y : Value} {ds : List Deferred} {Q : Exit → Act → World → Prop} {a : Act} {w : World} (h : Q .normal a w) : Door Pn p q x y ds Q .normal a w := h
theorem door_put {Pn : List PanicEntry → World → Prop} {p q : Tmp} {x y : Value} {ds : List Deferred} {Q : Exit → Act → World → Prop} {dst : Option Tmp} {v : Value} {c : List PanicEntry} {a : Act} {w : World} (h1 : dst ≠ some p) (h2 : dst ≠ some q)
    (h : Door Pn p q x y ds Q (.panic c) (a.put dst v) w) : Door Pn p q x y ds Q (.panic c) a w := by
  cases dst with
  | none => exact h
  | some t =>
    obtain ⟨a1, a2, a3, a4⟩ := h
    have hne : ∀ r : Tmp, some t ≠ some r → (a.put (some t) v).tmps.getD r undef = a.tmps.getD r undef := fun r hr => by
      have hr : t ≠ r := fun e => hr (by rw [e])
      simp [Act.put, Array.getElem?_setIfInBounds_ne hr]
    exact ⟨(hne p h1).symm.trans a1, (hne q h2).symm.trans a2, a3, a4⟩
end Go.Proofs.Ytgmbkcjihgphmaa
