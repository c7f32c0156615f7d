/- Contracts and laws for what the statement reaches, joined: ObjRefKind, ObjRefId, ObjPutTree, ObjRefNames. -/
import Derived.Test.YtgmbkcjihgphmaaGreatJn10
import Derived.Test.YtgmbkcjihgphmaaGreatJn2
import Derived.Test.YtgmbkcjihgphmaaGreatJn22
import Derived.Test.YtgmbkcjihgphmaaGreatJn23
import Derived.Test.YtgmbkcjihgphmaaGreatJn4
/- towlineref09.Kind. -/
set_option linter.unusedVariables false
set_option linter.unusedSimpArgs false
namespace Go.Proofs.YtgmbkcjihgphmaaGreat
open Go.RowKit
set_option maxRecDepth 100000 in
set_option maxHeartbeats 4000000 in
theorem refKind_any (s : ByteArray) (w : World) :
  Calls Tryz.prog 48 #[.string s] w (KindPost w (kindG (sB s))) := by
 have HD := Lib.hid (refDecode_any s w)
 obtain ⟨R, hR⟩ : ∃ R, R = kindG (sB s) := ⟨_, rfl⟩
 obtain ⟨D, hD⟩ : ∃ D, D = dec s.data.toList := ⟨_, rfl⟩
 have HR := Lib.hid (show R = bindR D kindV by rw [hR, hD]; rfl)
 have HDL := Lib.hid hD
 rw [← hD] at HD
 rw [← hR]
 clear hR hD
 go_enter Tryz.func48, Tryz.ntmps48
 go_wp2_with fail
 refine HD.out.mono ?_
 rintro e w2 ⟨hb2, hp⟩
 obtain ⟨cs, rfl, hv⟩ : ∃ cs : List Value, e = .returned (.tuple #[.agg cs.toArray, .int .i64 (okZ D)]) ∧ valR.R w2 (fun b => b < w.heap.size) cs (okV D) := by
  cases D with
  | error z => exact ⟨zV.toList, hp, valR_flat w2 _ (k := 0) 0 0 (by decide) (by decide) (by decide)⟩
  | ok v => exact hp
 obtain ⟨KV, hKV, HK, HKV, HI, HO, HS5, HN⟩ := keepNewA w2 hv
 rw [← hKV]
 have HB := Lib.hid (hb2.trans (((Below.refl w2.heap.size w2).alloc (Nat.le_refl _) (.cells KV 94)).mono hb2.size))
 clear hKV hv hb2 hp HD
 go_upto_region 2 with (first | (refine wpList_store_row rfl _ _ _ rfl w2.heap.size KV rfl rfl 94 _ HN.out HI.out HS5.out HO.out ?_) | fail)
 rw [World.setRow_alloc_new]
 clear HN HS5 HO
 generalize w2.alloc (.cells KV 94) = w3 at *
 generalize w2.heap.size = gv at *
 cases D with
 | error z =>
  have hz := dec_err_ne HDL.out.symm
  have hzb : (z != 0) = true := by simp [hz]
  have HRR := Lib.hid (show R = .error z from HR.out)
  have HZ := Lib.hid hz
  have hz2 : okZ (.error z : Res Val) = z := rfl
  rw [hz2]
  clear hz hz2 HDL HR
  go_wp2_with fail
  go_ret2
  exact ⟨HB.out, by rw [HRR.out]; exact ⟨rfl, HZ.out⟩⟩
 | ok v =>
  have hz2 : okZ (.ok v : Res Val) = 0 := rfl
  rw [hz2]
  have HKV2 : Hid (valR.R w3 (fun b => b < w.heap.size) KV.toList v) := HKV
  clear HKV
  have HRR := Lib.hid (show R = kindV v from HR.out)
  clear hz2 HR HDL
  obtain ⟨k, u, b, f, l'⟩ := v
  obtain ⟨A', cA, L, cL, c0, c1, c2, c3, c4, _, _, _, hsl, hl1, hl2⟩ := blk_cells HK.out HKV2.out
  have HSL := Lib.hid hsl
  simp only [maxLen] at hl2
  obtain ⟨m, hm⟩ : ∃ m, m = l'.length := ⟨_, rfl⟩
  have HM := Lib.hid hm
  rw [← hm] at c4 hl1
  clear hsl hm
  by_cases hk3 : k = 3
  ·have e1 : (k != 3) = false := by simp [hk3]
   cases l' with
   | nil =>
    have hm0 : m = 0 := HM.out
    have e2 : ((m : Int) == 0) = true := by simp [hm0]
    have HR2 := Lib.hid (show R = .error 91 by rw [HRR.out]; unfold kindV; rw [if_neg (by simp [Val.kind, hk3])]; rfl)
    clear hk3 hm0
    go_wp2_with fail
    go_ret2
    exact ⟨HB.out, by rw [HR2.out]; exact ⟨rfl, by decide⟩⟩
   | cons h t =>
    obtain ⟨bL, oL, rfl, hbL, d0, d1⟩ := head_cells HSL.out
    have hmp : 0 < m := by have := HM.out; simp at this; omega
    have hmI : (0 : Int) < (m : Int) := by omega
    have e2 : ((m : Int) == 0) = false := by simp; omega
    have HR2 := Lib.hid (show R = if h.kind ≠ 0 then .error 91 else if 1 ≤ h.num ∧ h.num ≤ 4 then .ok h.num else .error 90 by rw [HRR.out]; unfold kindV; rw [if_neg (by simp [Val.kind, hk3])]; rfl)
    obtain ⟨kh, hkh⟩ : ∃ kh, kh = h.kind := ⟨_, rfl⟩
    obtain ⟨nh, hnh⟩ : ∃ nh, nh = h.num := ⟨_, rfl⟩
    rw [← hkh] at d0 HR2
    rw [← hnh] at d1 HR2
    clear hk3 hkh hnh HM HSL HRR
    by_cases h0 : kh = 0
    ·have e3 : (kh != 0) = false := by simp [h0]
     by_cases h1 : 1 ≤ nh
     ·have h1I : decide ((nh : Int) < 1) = false := by simp; omega
      by_cases h4 : nh ≤ 4
      ·have h4I : decide ((4 : Int) < (nh : Int)) = false := by simp; omega
       have hw : IntKind.i64.wrap (nh : Int) = (nh : Int) := IntWalk.i64_in _ (by omega)
       have HR3 := Lib.hid (show R = .ok nh by rw [HR2.out, if_neg (by simp [h0]), if_pos ⟨h1, h4⟩])
       have HC := Lib.hid (And.intro h1 h4)
       clear h0 h1 h4 HR2
       go_wp2_with fail
       go_ret2
       exact ⟨HB.out, by rw [HR3.out]; exact ⟨rfl, HC.out⟩⟩
      ·have h4I : decide ((4 : Int) < (nh : Int)) = true := by simp; omega
       have HR3 := Lib.hid (show R = .error 90 by rw [HR2.out, if_neg (by simp [h0]), if_neg (by omega)])
       clear h0 h1 h4 HR2
       go_wp2_with fail
       go_ret2
       exact ⟨HB.out, by rw [HR3.out]; exact ⟨rfl, by decide⟩⟩
     ·have h1I : decide ((nh : Int) < 1) = true := by simp; omega
      have HR3 := Lib.hid (show R = .error 90 by rw [HR2.out, if_neg (by simp [h0]), if_neg (by omega)])
      clear h0 h1 HR2
      go_wp2_with fail
      go_ret2
      exact ⟨HB.out, by rw [HR3.out]; exact ⟨rfl, by decide⟩⟩
    ·have e3 : (kh != 0) = true := by simp [h0]
     have HR3 := Lib.hid (show R = .error 91 by rw [HR2.out, if_pos h0])
     clear h0 HR2
     go_wp2_with fail
     go_ret2
     exact ⟨HB.out, by rw [HR3.out]; exact ⟨rfl, by decide⟩⟩
  ·have e1 : (k != 3) = true := by simp [hk3]
   have HR2 := Lib.hid (show R = .error 91 by rw [HRR.out]; unfold kindV; rw [if_pos (show (Val.mk k u b f l').kind ≠ 3 from hk3)])
   clear hk3 HRR
   go_wp2_with fail
   go_ret2
   exact ⟨HB.out, by rw [HR2.out]; exact ⟨rfl, by decide⟩⟩
end Go.Proofs.YtgmbkcjihgphmaaGreat
/- towlineref09.id. -/
namespace Go.Proofs.YtgmbkcjihgphmaaGreat
open Go.RowKit
def okI : Res (List UInt8) → List UInt8
 | .ok b => b
 | .error _ => List.replicate 32 0
theorem wpList_build0 {P : Program} {ops : Array Oper} {rest : List Oper} {o : Oper} {a : Act} {w : World} {Q : Exit → Act → World → Prop} (hg : o.guard = none) (t : TypeId) (ho : o.op = .build t #[]) (K : Array Value) (hb : P.built t [] = some K)
  (h : wpList P ops Q rest (a.put o.dst (.agg K)) w) : wpList P ops Q (o :: rest) a w :=
 wpList_build hg t #[] ho (by simp [hb]) (by simpa [hb] using h)
theorem id0_built : Tryz.prog.built 33 [] = some zID := by kernel_rfl
set_option maxRecDepth 100000 in
set_option maxHeartbeats 1000000 in
theorem refId_any (cs : List Value) (v : Val) (w : World) (hv : valR.R w no cs v) :
  Calls Tryz.prog 75 #[.agg cs.toArray] w fun e w' => e = .returned (.tuple #[.agg (bytesV (okI (idG v))).toArray, .int .i64 (okZ (idG v))]) ∧ Below w.heap.size w w' := by
 obtain ⟨KV, hKV, HK, -, -, -, -⟩ := keepNew w hv
 obtain ⟨k, u, b, f, l⟩ := v
 obtain ⟨A, cA, L, cL, hcs, _, _, _, ⟨hb1, hb2, hsl⟩, _⟩ := valR_iff.1 hv
 have HSW := Lib.hid hsl.bytes
 have HC0 := Lib.hid (show KV[0]? = some (.int .i64 k) by rw [hKV, hcs]; rfl)
 have HC2 := Lib.hid (show KV[2]? = some (.slice A b.length cA) by rw [hKV, hcs]; rfl)
 rw [← hKV]
 clear hKV hv hcs hsl
 obtain ⟨R, hR⟩ : ∃ R, R = idG (.mk k u b f l) := ⟨_, rfl⟩
 have HR0 := Lib.hid hR
 rw [← hR]
 clear hR
 have hba : Below w.heap.size w ((w.alloc (.cells KV 94)).alloc (.cells zID 33)) := ((Below.refl _ _).alloc (Nat.le_refl _) _).alloc (by simp) _
 have HK2 := Lib.hid (HK.out.below ((Below.refl _ _).alloc (Nat.le_refl _) (.cells zID 33)))
 have HR2 := Lib.hid (show Blk ((w.alloc (.cells KV 94)).alloc (.cells zID 33)) (w.heap.size + 1) 33 zID by
  have := Blk.new (w.alloc (.cells KV 94)) 33 zID; simpa using this)
 have HB2 := Lib.hid hba
 have HSZ := Lib.hid (show ((w.alloc (.cells KV 94)).alloc (.cells zID 33)).heap.size = w.heap.size + 2 by simp)
 clear hba HK
 obtain ⟨KZ, hKZ⟩ : ∃ KZ, KZ = zID := ⟨_, rfl⟩
 have HB0 := Lib.hid id0_built
 rw [← hKZ] at HB0
 have HI := Lib.hid (show (Tryz.prog.info? 33).map (·.size) = some KZ.size by rw [hKZ]; exact oid_size (by simp))
 have HO := Lib.hid (show KZ.all (·.oneCell') = true by rw [hKZ]; exact oid_one _)
 have HZS := Lib.hid (show zID.size = KZ.size by rw [hKZ])
 have HKZ := Lib.hid hKZ
 clear hKZ
 go_enter Tryz.func75, Tryz.ntmps75
 go_upto_region 1 with fail
 change Code.wp _ _ _ _ ((w.alloc (.cells KV 94)).alloc (.cells zID 33))
 generalize (w.alloc (.cells KV 94)).alloc (.cells zID 33) = w2 at *
 have HBN := Lib.hid (Blk.new w2 33 zID)
 go_upto_region 2 with (first | (refine wpList_build0 rfl 33 rfl KZ HB0.out ?_) | (refine wpList_store_row rfl _ _ _ rfl w2.heap.size KZ rfl rfl 33 _ HBN.out HI.out HZS.out HO.out ?_) | fail)
 rw [World.setRow_alloc_new]
 have hbz : Below w2.heap.size w2 (w2.alloc (.cells KZ 33)) := (Below.refl _ _).alloc (Nat.le_refl _) _
 have hg3 : w2.heap.size = w.heap.size + 2 := HSZ.out
 have HK3 := Lib.hid (HK2.out.below hbz)
 have HR3 := Lib.hid (HR2.out.alloc (.cells KZ 33))
 have HO3 := Lib.hid (show Blk (w2.alloc (.cells KZ 33)) (w.heap.size + 2) 33 (bytesV (padZ b 0)).toArray by
  have := Blk.new w2 33 KZ
  rw [hg3] at this; rw [padZ_zero]; rw [HKZ.out] at this ⊢; exact this)
 have HB3 := Lib.hid (HB2.out.trans (hbz.mono (by omega)))
 have HZE := Lib.hid (show ∀ w', Blk w' (w.heap.size + 2) 33 (bytesV (padZ b 0)).toArray → True from fun _ _ => trivial)
 rw [hg3]
 clear hbz hg3 HSZ HK2 HR2 HB2 HBN HB0 HZE
 generalize w2.alloc (.cells KZ 33) = w3 at *
 generalize hg : w.heap.size = g at *
 have HG := Lib.hid hg
 clear hg
 have c0 := (HK3.out.blk.cell 0).trans HC0.out
 have c2 := (HK3.out.blk.cell 2).trans HC2.out
 have hc2 := HC2.out
 have hsw := HSW.out
 obtain ⟨n, hn⟩ : ∃ n, n = b.length := ⟨_, rfl⟩
 rw [← hn] at c2 hb1 hc2 hsw
 have HS := Lib.hid hsw
 have HC := Lib.hid hc2
 clear HC0 HC2 HSW hc2 hsw
 have HN := Lib.hid hn
 simp only [maxLen] at hb2
 have HR := Lib.hid (show R = if k ≠ 1 ∨ n ≠ 32 then .error 91 else .ok b by rw [HR0.out, hn]; rfl)
 clear hn HR0
 have HZ0 := Lib.hid (show (bytesV (padZ b 0)).toArray = KZ by rw [padZ_zero, HKZ.out])
 have bad : R = .error 91 → ∀ K : Array Value, K = KZ → (Ending.returned (.tuple #[.agg K, .int .i64 91]) = .returned (.tuple #[.agg (bytesV (okI R)).toArray, .int .i64 (okZ R)])) := by
  rintro rfl K rfl
  rw [HKZ.out]; rfl
 have HBAD := Lib.hid bad
 clear bad
 by_cases hk : k = 1
 ·have e1 : (k != 1) = false := by simp [hk]
  by_cases hl : n = 32
  ·subst hl
   have e2 : ((32 : Int) != 32) = false := by decide
   have HRR := Lib.hid (show R = .ok b by rw [HR.out, if_neg (by simp [hk])])
   clear hk HBAD HZ0 HR
   have HKB := Lib.hid HK3.out.blk
   have HB32 := Lib.hid HN.out.symm
   clear HN HK3
   go_wp2_with fail
   go_loopw [5] (fun s5 wr => ∃ q : Nat, q ≤ 32 ∧ s5 = .int .i64 (q : Int) ∧ Hid (Below g w wr) ∧ Hid (Blk wr g 94 KV) ∧ Hid (Blk wr (g + 1) 33 zID) ∧ Hid (Blk wr (g + 2) 33 (bytesV (padZ b q)).toArray)) (fun s5 wr => 32 - (intOf s5).toNat)
   case atStart => exact ⟨0, by omega, rfl, HB3, HKB, HR3, HO3⟩
   case round =>
    obtain ⟨q, hq, rfl, HB4, HK4, HR4, HO4⟩ := hrel
    clear HB3 HKB HR3 HO3 c0 c2
    by_cases hlt : q < 32
    ·have hltI : (q : Int) < 32 := by omega
     obtain ⟨bb, oo, xv, hA, hbb, hx, hcx⟩ := Sl.look (HS.out.below (by rw [HG.out]; exact HB4.out)) hlt
     obtain ⟨x, hxx⟩ : ∃ x, b[q]? = some x := ⟨b[q]'(by rw [HB32.out]; exact hlt), List.getElem?_eq_getElem _⟩
     obtain rfl : xv = .int .u8 (x.toNat : Int) := by simp [bytesV, hxx] at hx; exact hx.symm
     have c2 := (HK4.out.cell 2).trans HC.out
     have hco : ∃ y : UInt8, wr.cell? ⟨g + 2, q, none⟩ = some (.int .u8 (y.toNat : Int)) := by
      have hl := padZ_length HB32.out hq
      exact ⟨(padZ b q)[q]'(by omega), by rw [HO4.out.cell q]; simp [bytesV, hl, hlt]⟩
     obtain ⟨y, hco⟩ := hco
     have hfz := HO4.out.frozen q
     have hle := HO4.out.lt
     have HB5 := Lib.hid (HB4.out.setCell (p := ⟨g + 2, q, none⟩) (by show g ≤ g + 2; omega) (.int .u8 (x.toNat : Int)))
     have HK5 := Lib.hid (HK4.out.other (g' := g + 2) (by omega) q (.int .u8 (x.toNat : Int)))
     have HR5 := Lib.hid (HR4.out.other (g' := g + 2) (by omega) q (.int .u8 (x.toNat : Int)))
     have HO5 := Lib.hid (by have := HO4.out.set_ q (.int .u8 (x.toNat : Int)); rwa [bytesV_set, padZ_succ HB32.out hlt hxx] at this : Blk (wr.setCell ⟨g + 2, q, none⟩ (.int .u8 (x.toNat : Int))) (g + 2) 33 (bytesV (padZ b (q + 1))).toArray)
     subst hA
     clear HB4 HK4 HR4 HO4 hx hxx
     go_wp2_with fail
     go_roundw
     case rel => exact ⟨q + 1, by omega, by go_num, HB5, HK5, HR5, HO5⟩
     case measure => simp [intOf]; omega
    ·have hltI : ¬ (q : Int) < 32 := by omega
     obtain rfl : q = 32 := by omega
     obtain ⟨KB, hKB⟩ : ∃ KB, KB = (bytesV b).toArray := ⟨_, rfl⟩
     have HO6 := Lib.hid (show Blk wr (g + 2) 33 KB by have := HO4.out; rwa [padZ_all HB32.out, ← hKB] at this)
     have HI6 := Lib.hid (show (Tryz.prog.info? 33).map (·.size) = some KB.size by rw [hKB]; exact oid_size HB32.out)
     have HO1 := Lib.hid (show KB.all (·.oneCell') = true by rw [hKB]; exact oid_one _)
     have HZS6 := Lib.hid (show zID.size = KB.size by rw [hKB]; simp [bytesV, HB32.out])
     have HKB := Lib.hid hKB
     clear hKB HO4
     go_wp2_with (first
      | (refine wpList_load_row rfl 33 (.tmp 4) rfl (g + 2) rfl 33 KB (0, 0) _ HO6.out Tryz.underlying33 rfl HI6.out ?_)
      | (refine wpList_store_row rfl _ _ _ rfl (g + 1) KB rfl rfl 33 _ HR4.out HI6.out HZS6.out HO1.out ?_) | fail)
     refine bodyPost_ret (results_row_tmp rfl _ _ (g + 1) 33 KB (0, 0) _ rfl (setRow_heap _ (g + 1) _ _ _ _ HR4.out) Tryz.underlying33 rfl HI6.out) rfl ?_
     rw [HG.out, HKB.out, HRR.out]
     exact ⟨rfl, below_setRow HB4.out (Nat.le_succ _) _⟩
  ·have e2 : ((n : Int) != 32) = true := by simp; omega
   have HRR := Lib.hid (show R = .error 91 by rw [HR.out, if_pos (.inr hl)])
   have HO3' := Lib.hid (show Blk w3 (g + 2) 33 KZ by rw [← HZ0.out]; exact HO3.out)
   clear hk
   go_wp2_with (first
    | (refine wpList_load_row rfl 33 (.tmp 4) rfl (g + 2) rfl 33 KZ (0, 0) _ HO3'.out Tryz.underlying33 rfl HI.out ?_)
    | (refine wpList_store_row rfl _ _ _ rfl (g + 1) KZ rfl rfl 33 _ HR3.out HI.out HZS.out HO.out ?_) | fail)
   refine bodyPost_ret (results_row_tmp rfl _ _ (g + 1) 33 KZ (0, 0) _ rfl (setRow_heap _ (g + 1) _ _ _ _ HR3.out) Tryz.underlying33 rfl HI.out) rfl ?_
   rw [HG.out]
   exact ⟨HBAD.out HRR.out _ rfl, below_setRow HB3.out (Nat.le_succ _) KZ⟩
 ·have e1 : (k != 1) = true := by simp [hk]
  have HRR := Lib.hid (show R = .error 91 by rw [HR.out, if_pos (.inl hk)])
  have HO3' := Lib.hid (show Blk w3 (g + 2) 33 KZ by rw [← HZ0.out]; exact HO3.out)
  clear hk
  go_wp2_with (first
   | (refine wpList_load_row rfl 33 (.tmp 4) rfl (g + 2) rfl 33 KZ (0, 0) _ HO3'.out Tryz.underlying33 rfl HI.out ?_)
   | (refine wpList_store_row rfl _ _ _ rfl (g + 1) KZ rfl rfl 33 _ HR3.out HI.out HZS.out HO.out ?_) | fail)
  refine bodyPost_ret (results_row_tmp rfl _ _ (g + 1) 33 KZ (0, 0) _ rfl (setRow_heap _ (g + 1) _ _ _ _ HR3.out) Tryz.underlying33 rfl HI.out) rfl ?_
  rw [HG.out]
  exact ⟨HBAD.out HRR.out _ rfl, below_setRow HB3.out (Nat.le_succ _) KZ⟩
end Go.Proofs.YtgmbkcjihgphmaaGreat
/- object.PutTree. -/
namespace Go.Proofs.YtgmbkcjihgphmaaGreat
open Go.RowKit
attribute [local go_sem ↓] cvt_eq
theorem sl_builtA {w : World} {B : Nat} {cells : List Value} {vs : List Val} (hB : B ≤ w.heap.size) (h : Each (valR.R w (fun b => b < B)) cells vs) : SlOf valR (w.alloc (.cells cells.toArray 94)) (fun b => b < B) (some ⟨w.heap.size, 0, none⟩) vs := by
 have hba : Below w.heap.size w (w.alloc (.cells cells.toArray 94)) := (Below.refl _ _).alloc (Nat.le_refl _) _
 have hl : cells.length = vs.length * 5 := h.length fun _ _ => valR.len
 refine ⟨cells, Sl.fresh w cells.toArray 94 (0, 0) vs.length 5 (by simpa using hl), h.mono fun _ _ k => valR.stable k (Moves.of_below hba), fun _ b off e => ?_⟩
 have e := Option.some.inj e
 injection e with e
 show ¬ b < B
 omega
theorem val_less {w : World} {B B' : Nat} {cs : List Value} {v : Val} (h : valR.R w (fun b => b < B') cs v) (hB : B ≤ B') : valR.R w (fun b => b < B) cs v :=
 valR.stable h (Moves.less w (fun b _ h => Nat.lt_of_lt_of_le h hB))
theorem step_build3 {P : Program} {Q : Exit → Act → World → Prop} {o : Oper} {a : Act} {w w' : World} {K : Act → World → Prop} {E : Prop} (hgd : o.guard = none) (x0 x1 x2 : Operand) {t : TypeId}
  (ho : o.op = .buildSlice t 3 #[(0, x0), (1, x1), (2, x2)]) {v0 v1 v2 v' : Value} (h0 : a.eval x0 = v0) (h1 : a.eval x1 = v1) (h2 : a.eval x2 = v2)
  (hrun : (Instr.buildSlice t 3 #[(0, v0), (1, v1), (2, v2)]).run P w = .ok v' w') (h : K (a.put o.dst v') w') :
  ∀ {ops : Array Oper}, if Region.wanted o (yielded ops a.tmps) = true then Oper.wp P o a w K Q else E := by
 intro ops
 have hw : Region.wanted o (yielded ops a.tmps) = true := by simp [Region.wanted, hgd]
 rw [if_pos hw]
 unfold Oper.wp execOp
 simp only [ho, List.map_toArray, List.map_cons, List.map_nil, h0, h1, h2, Sem.run_bind, hrun, Result.andThen_ok, Sem.run_pure]
 exact h
theorem ordG_names : ∀ {l : List EntT} {p : Option (List UInt8)}, ordG p l = 0 → ∀ x ∈ l, nameG (sB x.1) = true
 | [], _, _, x, hx => by cases hx
 | y :: r, p, h, x, hx => by
  have h0 : ordG p ((y :: r).drop 0) = 0 := h
  rw [ord_step (l := y :: r) (i := 0) (x := y) (p := p) rfl] at h0
  split at h0
  ·omega
  ·rename_i h1
   split at h0
   ·omega
   ·rcases List.mem_cons.1 hx with rfl | hx
    ·simpa using h1
    ·exact ordG_names (l := r) h0 x hx
theorem nameG_len {s : List UInt8} (h : nameG s = true) : s.length ≤ 64 := by
 unfold nameG at h
 simp only [Bool.and_eq_true, decide_eq_true_eq] at h
 exact h.1.2
theorem bulk_ents : ∀ (l : List EntT), (∀ x ∈ l, (sB x.1).length ≤ 64 ∧ x.2.2.1.length = 32) → bulkVs (l.map entV) ≤ l.length * 120
 | [], _ => by simp [bulkVs]
 | x :: r, h => by
  have h1 := bulk_ents r (fun y hy => h y (by simp [hy]))
  obtain ⟨h2, h3⟩ := h x (by simp)
  simp only [List.map_cons, bulkVs, List.length_cons]
  have : bulkV (entV x) ≤ 120 := by
   unfold entV
   split <;> simp only [lstV, txtV, fltV, bulkV, bulkVs, List.length_nil] <;> omega
  omega
theorem ents_32 {w : World} {av : Av} {A : Option Addr} {l : List EntT} (h : SlOf entR w av A l) : ∀ x ∈ l, x.2.2.1.length = 32 := by
 intro x hx
 obtain ⟨i, hi, rfl⟩ := List.mem_iff_getElem.1 hx
 obtain ⟨_, _, o, _, _, ho, h32, _⟩ := ents_look h rfl hi
 rw [List.getElem?_eq_getElem hi] at ho
 injection ho with ho
 rw [ho]; exact h32
theorem ent_sl {w : World} {g : Nat} {t : TypeId} {s : ByteArray} {d : Bool} {i : List UInt8} {f : Nat} (h : Blk w g t (entK s d i f)) (h32 : i.length = 32) : Sl w 1 (some ⟨g, 2, none⟩) 32 (bytesV i) := by
 have h1 : (bytesV i).length = 32 := by rw [bytesV_length, h32]
 refine ⟨by omega, fun _ => ⟨g, 2, rfl, h.lt, fun j u hu => ?_⟩⟩
 have hj : j < 32 := by have := (List.getElem?_eq_some_iff.1 hu).1; omega
 rw [h.cell (2 + j)]
 unfold entK
 rw [List.getElem?_toArray, show 2 + j = j + 1 + 1 by omega, List.getElem?_cons_succ, List.getElem?_cons_succ, List.getElem?_append_left (by omega)]
 exact hu
/-- the door of PutTree behind a panic that tells an error -/
theorem ptree_door {w w4 : World} {g : Nat} {tmps : Array Value} {z : Int} (HG : w.heap.size = g) (hB : Below g w w4) (he : Blk w4 g 55 #[.int .i64 0])
  (hp : tmps.getD 2 undef = .slice none 0 0) (hq : tmps.getD 3 undef = .pointer (some ⟨g, 0, none⟩)) :
  Leaves Tryz.prog Tryz.f23 tmps (EncPost w (.error z)) [{ target := .fn (.func 41) #[], args := #[.pointer (some ⟨g, 0, none⟩)] }] (.panicking (flawE z)) w4 := by
 have hlt : g < w4.heap.size := he.lt
 have E2 := (he.alloc (.cells #[.int .i64 z] 152)).set_ 0 (.int .i64 z)
 have HB5 := (hB.alloc (Nat.le_of_lt hlt) (.cells #[.int .i64 z] 152)).setCell (p := ⟨g, 0, none⟩) (Nat.le_refl g) (.int .i64 z)
 refine leaves_cons (f := 41) (args := #[.pointer (some ⟨g, 0, none⟩)]) (by simp) (by simp [go_sem]) ?_
 refine (ocaught_flaw ⟨g, 0, none⟩ 0 z [] w4 hlt (he.cell 0) (he.frozen 0)).mono ?_
 rintro e u' w7 ⟨rfl, rfl, rfl⟩
 have r2 := E2.cell 0
 have hp' : tmps[2]?.getD undef = .slice none 0 0 := by simpa using hp
 have hq' : tmps[3]?.getD undef = .pointer (some ⟨g, 0, none⟩) := by simpa using hq
 generalize (w4.alloc (.cells #[.int .i64 z] 152)).setCell ⟨g, 0, none⟩ (.int .i64 z) = w8 at *
 simp [settle, Leaves, results, Tryz.results23, go_sem, r2, hp', hq']
 unfold EncPost
 rw [HG]
 exact ⟨HB5, rfl⟩
/-- the same behind a return -/
theorem ptree_end {w w4 : World} {g : Nat} {tmps : Array Value} {R : Res (List UInt8)} {A : Option Addr} {n c : Nat} {z : Int} (HG : w.heap.size = g) (hB : Below g w w4) (he : Blk w4 g 55 #[.int .i64 z])
  (hp : tmps.getD 2 undef = .slice A n c) (hq : tmps.getD 3 undef = .pointer (some ⟨g, 0, none⟩))
  (hR : match R with
   | .ok o => z = 0 ∧ n = o.length ∧ w4.ownsRow g 5 1 (.slice A n c) n (bytesV o)
   | .error y => z = y ∧ Value.slice A n c = .slice none 0 0) :
  Leaves Tryz.prog Tryz.f23 tmps (EncPost w R) [{ target := .fn (.func 41) #[], args := #[.pointer (some ⟨g, 0, none⟩)] }] .returning w4 := by
 have hlt : g < w4.heap.size := he.lt
 refine leaves_cons (f := 41) (args := #[.pointer (some ⟨g, 0, none⟩)]) (by simp) (by simp [go_sem]) ?_
 refine (ocaught_idle _ _).mono ?_
 rintro e u' w7 ⟨rfl, rfl, rfl⟩
 have r2 := (he.alloc (.cells #[.int .i64 0] 152)).cell 0
 have HB5 := hB.alloc (Nat.le_of_lt hlt) (.cells #[.int .i64 0] 152)
 have hba : Below w4.heap.size w4 (w4.alloc (.cells #[.int .i64 0] 152)) := (Below.refl _ _).alloc (Nat.le_refl _) _
 have hp' : tmps[2]?.getD undef = .slice A n c := by simpa using hp
 have hq' : tmps[3]?.getD undef = .pointer (some ⟨g, 0, none⟩) := by simpa using hq
 generalize w4.alloc (.cells #[.int .i64 0] 152) = w8 at *
 simp [settle, Leaves, results, Tryz.results23, go_sem, r2, hp', hq']
 unfold EncPost
 rw [HG]
 refine ⟨HB5, ?_⟩
 cases R with
 | ok o => obtain ⟨rfl, h1, h2⟩ := hR; exact ⟨A, n, c, rfl, h1, own_below h2 hba⟩
 | error y => obtain ⟨rfl, h1⟩ := hR; injection h1 with h1 h2 h3; subst h1 h2 h3; rfl
set_option maxRecDepth 100000 in
set_option maxHeartbeats 8000000 in
theorem putTree_any (A : Option Addr) (n c : Nat) (l : List EntT) (w : World) (hs : SlOf entR w no A l) (hn : n = l.length) (hnl : n ≤ 1000000000) (hsz : ∀ x ∈ l, x.1.size ≤ 1000000000) :
  Calls Tryz.prog 23 #[.slice A n c] w (EncPost w (putTree l)) := by
 obtain ⟨w1, hw1⟩ : ∃ w1, w1 = w.alloc (.cells #[.int .i64 0] 55) := ⟨_, rfl⟩
 have hb1 : Below w.heap.size w w1 := by rw [hw1]; exact (Below.refl _ _).alloc (Nat.le_refl _) _
 have HE1 := Lib.hid (show Blk w1 w.heap.size 55 #[.int .i64 0] by rw [hw1]; exact Blk.new w _ _)
 have HS1 := Lib.hid (hs.below hb1)
 have HOR := Lib.hid (ordered_any A n c l w1 HS1.out hn hnl hsz)
 have HB1 := Lib.hid hb1
 obtain ⟨R, hR⟩ : ∃ R, R = putTree l := ⟨_, rfl⟩
 obtain ⟨D, hD⟩ : ∃ D, D = orderedG l := ⟨_, rfl⟩
 have HR := Lib.hid (show R = if D ≠ 0 then .error D else sealG 3 [lstV (l.map entV)] by rw [hR, hD]; rfl)
 have HDL := Lib.hid hD
 have HN := Lib.hid hn.symm
 have HSZ := Lib.hid hsz
 rw [← hR]
 rw [← hD] at HOR
 clear hs hb1 hR hD hn hsz hnl
 go_enter_defers Tryz.func23, Tryz.ntmps23
 go_upto_region 2 with fail
 rw [← hw1]
 clear hw1
 generalize hg : w.heap.size = g at *
 have HG := Lib.hid hg
 clear hg
 go_wp2_with fail
 refine HOR.out.mono ?_
 rintro e w2 ⟨hb2, he⟩
 have HE2 := Lib.hid (HE1.out.below hb2 HE1.out.lt)
 have HB2 := Lib.hid (HB1.out.trans (hb2.mono (Nat.le_of_lt HE1.out.lt)))
 have HS2 := Lib.hid (HS1.out.below hb2)
 clear HOR HE1 HB1 HS1 hb2
 by_cases hz : D = 0
 ·rw [if_pos hz] at he
  subst he
  have HRR := Lib.hid (show R = sealG 3 [lstV (l.map entV)] by rw [HR.out, if_neg (by simp [hz])])
  have hog : orderedG l = 0 := by rw [← HDL.out]; exact hz
  have hn1 : n ≤ 1024 := by
   unfold orderedG at hog
   split at hog
   ·omega
   ·have := HN.out; omega
  have hog2 : ordG none l = 0 := by
   unfold orderedG at hog
   split at hog
   ·omega
   ·exact hog
  have HNM := Lib.hid (fun x hx => nameG_len (ordG_names hog2 x hx))
  clear HR HDL hz hog hog2
  have HR0 := Lib.hid (show RowB valR 94 w2 w2.heap.size none 0 0 ((l.take 0).map entV) from RowB.nil _ _ _ _)
  go_wp2_with fail
  go_loopw [4, 11] (fun s4 s11 wr => ∃ (k : Nat) (A' : Option Addr) (c' : Nat), k ≤ n ∧ s4 = .slice A' k c' ∧ s11 = .int .i64 (k : Int) ∧ Hid (Below w2.heap.size w2 wr) ∧ Hid (RowB valR 94 wr w2.heap.size A' k c' ((l.take k).map entV))) (fun s4 s11 wr => n - (intOf s11).toNat)
  case atStart => exact ⟨0, none, 0, by omega, rfl, rfl, Lib.hid (Below.refl _ _), HR0⟩
  case round =>
   obtain ⟨k, A', c', hk, rfl, rfl, HBL, HRW⟩ := hrel
   by_cases hlt : k < n
   ·have hltI : (k : Int) < (n : Int) := by omega
    obtain ⟨b1, o1, x, hA, hb1, hx, h32, hf, hat⟩ := ents_look (HS2.out.below HBL.out) HN.out hlt
    obtain ⟨KX, hKX⟩ : ∃ KX, KX = entK x.1 x.2.1 x.2.2.1 x.2.2.2 := ⟨_, rfl⟩
    have HI := Lib.hid (show (Tryz.prog.info? 70).map (·.size) = some KX.size by rw [hKX]; exact entK_info h32 _ _ _)
    have HO := Lib.hid (show KX.all (·.oneCell') = true by rw [hKX]; exact entK_one _ _ _ _)
    have HZS := Lib.hid (show zEnt.size = KX.size by rw [hKX, entK_size (by simp), entK_size h32])
    rw [← hKX] at hat
    have HAT := Lib.hid hat
    have HBN := Lib.hid (Blk.new wr 70 zEnt)
    have HK := Lib.hid (Blk.new wr 70 KX)
    have HKX := Lib.hid hKX
    have hba : Below wr.heap.size wr (wr.alloc (.cells KX 70)) := (Below.refl _ _).alloc (Nat.le_refl _) _
    have HBL8 := Lib.hid (HBL.out.trans (hba.mono HBL.out.size))
    have HRW8 := Lib.hid (HRW.out.below hba)
    have HOW := Lib.hid (fun b (hb : (Value.slice A' k c').ownBlock = some b) => (HRW.out.lt hb).2)
    have HX32 := Lib.hid h32
    have HF64 := Lib.hid (canonB_lt hf)
    have HTK := Lib.hid (show (l.take (k + 1)).map entV = (l.take k).map entV ++ [entV x] by rw [List.take_add_one, hx]; simp)
    have HX64 := Lib.hid (HNM.out x (List.mem_of_getElem? hx))
    subst hA
    clear hx h32 hf hat hKX hba HRW HBL
    go_upto_region 7 with (first
     | (refine wpList_load_at rfl _ _ rfl b1 (o1 + k * 35) rfl KX _ HAT.out Tryz.underlying70 rfl HI.out ?_)
     | (refine wpList_store_row rfl _ _ _ rfl wr.heap.size KX rfl rfl 70 _ HBN.out HI.out HZS.out HO.out ?_) | fail)
    rw [World.setRow_alloc_new]
    clear HBN HI HO HZS HAT
    generalize wr.alloc (.cells KX 70) = w8 at *
    generalize wr.heap.size = gx at *
    obtain ⟨s, d, i, f⟩ := x
    have hgx : gx < w8.heap.size := HK.out.lt
    have hcd : w8.cell? ⟨gx, 1, none⟩ = some (.bool d) := by rw [HK.out.cell 1, HKX.out]; exact (entK_get HX32.out _ _ _).2.1
    have HCS := Lib.hid (fun (w : World) (h : Blk w gx 70 KX) => show w.cell? ⟨gx, 0, none⟩ = some (.string s) by rw [h.cell 0, HKX.out]; exact (entK_get HX32.out _ _ _).1)
    have HCF := Lib.hid (fun (w : World) (h : Blk w gx 70 KX) => show w.cell? ⟨gx, 34, none⟩ = some (.float .f64 f) by rw [h.cell 34, HKX.out]; exact (entK_get HX32.out _ _ _).2.2)
    have HSI := Lib.hid (fun (w : World) (h : Blk w gx 70 KX) => show cvt w (some ⟨gx, 2, none⟩) 32 32 = .ok (.string ⟨i.toArray⟩) w by
     have h2 := ent_sl (show Blk w gx 70 (entK s d i f) by rw [← HKX.out]; exact h) HX32.out
     have h3 := cvt_of (l := i) (show Sl w 1 (some ⟨gx, 2, none⟩) i.length (bytesV i) from by rw [show i.length = 32 from HX32.out]; exact h2) 32
     rw [show i.length = 32 from HX32.out] at h3; exact h3)
    have HTX := Lib.hid (fun w => text_any s w (by have := HX64.out; simp only [sB, Array.length_toList] at this; simp only [maxLen, ByteArray.size]; omega))
    have HTI := Lib.hid (fun w => text_any ⟨i.toArray⟩ w (by have h32 : i.length = 32 := HX32.out; simp only [ByteArray.size, maxLen, List.size_toArray]; omega))
    have HREAL := Lib.hid (fun w => real_any f w)
    have hlow : ∀ b, avB w2.heap.size (.slice A' k c') b → b < w8.heap.size := fun b ho => by
     rcases ho with ho | ho
     ·exact Nat.lt_of_lt_of_le ho HBL8.out.size
     ·exact (HRW8.out.lt ho).2
    have HLOW := Lib.hid hlow
    have hdr : Below w8.heap.size w8 w8.drew := Same.below ⟨1, rfl⟩ _
    clear hlow HKX HX64
    cases d with
    | true =>
     have HTK2 := Lib.hid (show (l.take (k + 1)).map entV = (l.take k).map entV ++ [lstV [txtV (sB s), txtV i]] from HTK.out)
     clear HTK HREAL HF64 HCF
     go_upto_region 8 with fail
     clear hcd
     refine wp_door (fun _ _ => False) 2 3 undef undef [] (fun _ _ _ _ _ _ hp => hp.elim) ?_
     refine wp_region_held (S := fun w => Blk w gx 70 KX) (by kernel_rfl) ?_
     change wpAnyH _ _ _ _ _ _ _ _ (World.drew _)
     refine held_take (i := 0) (v := ?_) (a' := ?_) rfl (by kernel_rfl) (by kernel_rfl) (by kernel_rfl) (fun _ _ _ h => (show False from h.2.2.2).elim) (by rfl) (HK.out.below hdr hgx) ?_ ?_ ?_
     rotate_left 2
     ·(intro w hS; go_simp; try with_reducible rfl)
     ·(go_simp; try with_reducible rfl)
     refine held_take (i := 1) (v := ?_) (a' := ?_) rfl (by kernel_rfl) (by kernel_rfl) (by kernel_rfl) (fun _ _ _ h => (show False from h.2.2.2).elim) (by rfl) (HK.out.below hdr hgx) ?_ ?_ ?_
     rotate_left 2
     ·(intro w hS; go_simp; try with_reducible rfl)
     ·(go_simp; try with_reducible rfl)
     refine held_take (i := 2) (v := ?_) (a' := ?_) rfl (by kernel_rfl) (by kernel_rfl) (by kernel_rfl) (fun _ _ _ h => (show False from h.2.2.2).elim) (by rfl) (HK.out.below hdr hgx) ?_ ?_ ?_
     rotate_left 2
     ·(intro w hS; have t := HCS.out w hS; go_simp; try with_reducible rfl)
     ·(go_simp; try with_reducible rfl)
     refine held_take (i := 4) (v := ?_) (a' := ?_) rfl (by kernel_rfl) (by kernel_rfl) (by kernel_rfl) (fun _ _ _ h => (show False from h.2.2.2).elim) (by rfl) (HK.out.below hdr hgx) ?_ ?_ ?_
     rotate_left 2
     ·(intro w hS; go_simp; try with_reducible rfl)
     ·(go_simp; try with_reducible rfl)
     refine held_take (i := 5) (v := ?_) (a' := ?_) rfl (by kernel_rfl) (by kernel_rfl) (by kernel_rfl) (fun _ _ _ h => (show False from h.2.2.2).elim) (by rfl) (HK.out.below hdr hgx) ?_ ?_ ?_
     rotate_left 2
     ·(intro w hS; go_simp; try with_reducible rfl)
     ·(go_simp; try with_reducible rfl)
     refine held_take (i := 6) (v := ?_) (a' := ?_) rfl (by kernel_rfl) (by kernel_rfl) (by kernel_rfl) (fun _ _ _ h => (show False from h.2.2.2).elim) (by rfl) (HK.out.below hdr hgx) ?_ ?_ ?_
     rotate_left 2
     ·(intro w hS; have t := HSI.out w hS; go_simp; try with_reducible rfl)
     ·(go_simp; try with_reducible rfl)
     refine held_ready (rs := [3]) (by kernel_rfl) (by simp) ?_
     refine AllHeld.cons rfl (fun KR hKR => ?_) ?_
     ·go_simp
      refine (HTX.out _).mono ?_
      rintro e wn ⟨⟨cs, rfl, hv⟩, hbn⟩
      have hbA := hdr.trans (hbn.mono hdr.size)
      have hk5 : cs.length = 5 := valR.len hv
      obtain ⟨K0, hK⟩ : ∃ K, K = cs.toArray := ⟨_, rfl⟩
      have HV0 := Lib.hid (show valR.R wn (fun b => b < w8.heap.size) K0.toList (txtV (sB s)) by rw [hK]; exact val_less (by simpa [txtV, sB] using hv) hdr.size)
      have HK0 := Lib.hid (show K0.size = 5 by rw [hK]; simpa using hk5)
      rw [← hK]
      clear hv hk5 hK hbn
      refine hKR _ _ (HK.out.below hbA hgx) ?_
      clear hKR KR
      refine held_ready (rs := [7]) (by kernel_rfl) (by simp) ?_
      refine AllHeld.cons rfl (fun KR hKR => ?_) ?_
      ·go_simp
       refine (HTI.out _).mono ?_
       rintro e wn ⟨⟨cs, rfl, hv⟩, hbn⟩
       have hbB := hbA.trans (hbn.mono hbA.size)
       have HV0 := Lib.hid (valR.stable HV0.out (Moves.of_below hbn))
       have hk5 : cs.length = 5 := valR.len hv
       obtain ⟨K1, hK⟩ : ∃ K, K = cs.toArray := ⟨_, rfl⟩
       have HV1 := Lib.hid (show valR.R wn (fun b => b < w8.heap.size) K1.toList (txtV i) by rw [hK]; exact val_less (by simpa [txtV, sB] using hv) hbA.size)
       have HK1 := Lib.hid (show K1.size = 5 by rw [hK]; simpa using hk5)
       rw [← hK]
       clear hv hk5 hK hbn
       have hrun : (Instr.buildSlice 92 2 #[(0, .agg K0), (1, .agg K1)]).run Tryz.prog wn = .ok (.slice (some ⟨wn.heap.size, 0, none⟩) 2 2) (wn.alloc (.cells ([K0, K1].flatMap (·.toList)).toArray 94)) := bsVals_of wn [K0, K1] 2 rfl (by omega) (by omega) (fun K hK => by
        simp only [List.mem_cons, List.not_mem_nil, or_false] at hK
        rcases hK with rfl | rfl
        ·exact HK0.out
        ·exact HK1.out)
       have hbC : Below w8.heap.size w8 (wn.alloc (.cells ([K0, K1].flatMap (·.toList)).toArray 94)) := hbB.alloc hbB.size _
       have HSB := Lib.hid (show SlOf valR (wn.alloc (.cells ([K0, K1].flatMap (·.toList)).toArray 94)) (fun b => b < w8.heap.size) (some ⟨wn.heap.size, 0, none⟩) [txtV (sB s), txtV i] from sl_builtA hbB.size (.cons HV0.out (.cons HV1.out .nil)))
       have HROW := Lib.hid (row_anyA w8.heap.size (some ⟨wn.heap.size, 0, none⟩) 2 2 [txtV (sB s), txtV i] _ hbC.size HSB.out rfl (by omega))
       generalize ([K0, K1].flatMap (·.toList)).toArray = KK at *
       clear HV0 HV1 HSB HK0 HK1
       refine hKR _ _ (HK.out.below hbB hgx) ?_
       clear hKR KR
       refine held_ready (rs := [8]) (by kernel_rfl) (by simp) ?_
       refine AllHeld.cons rfl (fun KR hKR => ?_) ?_
       ·refine step_build2 (by rfl) (.tmp 20) (.tmp 24) (by rfl) (by rfl) (by rfl) hrun ?_
        refine hKR _ _ (HK.out.below hbC hgx) ?_
        clear hKR KR
        refine held_ready (rs := [9]) (by kernel_rfl) (by simp) ?_
        refine AllHeld.cons rfl (fun KR hKR => ?_) ?_
        ·go_simp
         refine HROW.out.mono ?_
         rintro e wq ⟨⟨cs, rfl, hv⟩, hbn⟩
         have hbD := hbC.trans (hbn.mono hbC.size)
         have hk5 : cs.length = 5 := valR.len hv
         obtain ⟨K, hK⟩ : ∃ K, K = cs.toArray := ⟨_, rfl⟩
         have hKs : K.size = 5 := by rw [hK]; simpa using hk5
         have hbs := bsVal_of wq K hKs
         obtain ⟨A9, c9, w10, run9, hrow, hb10, hgr, _, _⟩ := (HRW8.out.below hbD).push elemVal (HBL8.out.trans (hbD.mono HBL8.out.size)).size hv (fun b _ ho => HLOW.out b ho) (by omega) (by simp only [maxLen]; omega) 92 1
         rw [show (l.take k).map entV ++ [Val.mk 3 0 [] 0 [txtV (sB s), txtV i]] = (l.take (k + 1)).map entV from HTK2.out.symm] at hrow
         rw [← hK] at run9 ⊢
         have HR9 := Lib.hid hrow
         have HB9 := Lib.hid (show Below w2.heap.size w2 w10 from (HBL8.out.trans (hbD.mono HBL8.out.size)).trans hb10)
         have hbE : Below w8.heap.size w8 (wq.alloc (.cells K 94)) := hbD.alloc hbD.size _
         have HK11 := Lib.hid ((HK.out.below hbD hgx).grown hgr (fun e => by have := HOW.out gx e.symm; omega))
         clear hv hk5 hK hKs hrow hb10 hbn HROW hrun hgr
         refine hKR _ _ (HK.out.below hbD hgx) ?_
         clear hKR KR
         refine held_ready (rs := [10]) (by kernel_rfl) (by simp) ?_
         refine AllHeld.cons rfl (fun KR hKR => ?_) ?_
         ·refine step_build (by rfl) (.tmp 26) (by rfl) (by rfl) hbs ?_
          refine hKR _ _ (HK.out.below hbE hgx) ?_
          clear hKR KR
          refine held_ready (rs := [11]) (by kernel_rfl) (by simp) ?_
          refine AllHeld.cons rfl (fun KR hKR => ?_) ?_
          ·refine step_run_append (by rfl) (.tmp 17) (.tmp 27) (by rfl) (by rfl) (by rfl) run9 ?_
           refine hKR _ _ HK11.out ?_
           clear hKR KR
           refine held_take (i := 12) (v := ?_) (a' := ?_) rfl (by kernel_rfl) (by kernel_rfl) (by kernel_rfl) (fun _ _ _ h => (show False from h.2.2.2).elim) (by rfl) HK11.out ?_ ?_ ?_
           rotate_left 2
           ·(intro w hS; go_simp; try with_reducible rfl)
           ·(go_simp; try with_reducible rfl)
           refine wpAnyH_done (by kernel_rfl) ?_ _
           clear run9 hbs HRW8 HBL8 HLOW
           refine door_normal ?_
           go_wp2_with fail
           go_roundw
           case rel => exact ⟨k + 1, A9, c9, by omega, rfl, by go_num, HB9, HR9⟩
           case measure => simp [intOf]; omega
          exact AllHeld.nil
         exact AllHeld.nil
        exact AllHeld.nil
       exact AllHeld.nil
      exact AllHeld.nil
     exact AllHeld.nil
    | false =>
     have HTK2 := Lib.hid (show (l.take (k + 1)).map entV = (l.take k).map entV ++ [lstV [txtV (sB s), txtV i, fltV (canonB f)]] from HTK.out)
     obtain ⟨cf, hcf⟩ : ∃ cf, cf = canonB f := ⟨_, rfl⟩
     have hf2 := HF64.out
     have hr2 := HREAL.out
     have ht2 := HTK2.out
     change canonB f < 2 ^ 64 at hf2
     rw [← hcf] at hf2 hr2 ht2
     have HF2 := Lib.hid hf2
     have HR2 := Lib.hid hr2
     have HT2 := Lib.hid ht2
     clear HTK HREAL HF64 HTK2 hf2 hr2 ht2 hcf
     go_upto_region 9 with fail
     clear hcd
     refine wp_door (fun _ _ => False) 2 3 undef undef [] (fun _ _ _ _ _ _ hp => hp.elim) ?_
     refine wp_region_held (S := fun w => Blk w gx 70 KX) (by kernel_rfl) ?_
     change wpAnyH _ _ _ _ _ _ _ _ (World.drew _)
     refine held_take (i := 0) (v := ?_) (a' := ?_) rfl (by kernel_rfl) (by kernel_rfl) (by kernel_rfl) (fun _ _ _ h => (show False from h.2.2.2).elim) (by rfl) (HK.out.below hdr hgx) ?_ ?_ ?_
     rotate_left 2
     ·(intro w hS; go_simp; try with_reducible rfl)
     ·(go_simp; try with_reducible rfl)
     refine held_take (i := 1) (v := ?_) (a' := ?_) rfl (by kernel_rfl) (by kernel_rfl) (by kernel_rfl) (fun _ _ _ h => (show False from h.2.2.2).elim) (by rfl) (HK.out.below hdr hgx) ?_ ?_ ?_
     rotate_left 2
     ·(intro w hS; go_simp; try with_reducible rfl)
     ·(go_simp; try with_reducible rfl)
     refine held_take (i := 2) (v := ?_) (a' := ?_) rfl (by kernel_rfl) (by kernel_rfl) (by kernel_rfl) (fun _ _ _ h => (show False from h.2.2.2).elim) (by rfl) (HK.out.below hdr hgx) ?_ ?_ ?_
     rotate_left 2
     ·(intro w hS; have t := HCS.out w hS; go_simp; try with_reducible rfl)
     ·(go_simp; try with_reducible rfl)
     refine held_take (i := 4) (v := ?_) (a' := ?_) rfl (by kernel_rfl) (by kernel_rfl) (by kernel_rfl) (fun _ _ _ h => (show False from h.2.2.2).elim) (by rfl) (HK.out.below hdr hgx) ?_ ?_ ?_
     rotate_left 2
     ·(intro w hS; go_simp; try with_reducible rfl)
     ·(go_simp; try with_reducible rfl)
     refine held_take (i := 5) (v := ?_) (a' := ?_) rfl (by kernel_rfl) (by kernel_rfl) (by kernel_rfl) (fun _ _ _ h => (show False from h.2.2.2).elim) (by rfl) (HK.out.below hdr hgx) ?_ ?_ ?_
     rotate_left 2
     ·(intro w hS; go_simp; try with_reducible rfl)
     ·(go_simp; try with_reducible rfl)
     refine held_take (i := 6) (v := ?_) (a' := ?_) rfl (by kernel_rfl) (by kernel_rfl) (by kernel_rfl) (fun _ _ _ h => (show False from h.2.2.2).elim) (by rfl) (HK.out.below hdr hgx) ?_ ?_ ?_
     rotate_left 2
     ·(intro w hS; have t := HSI.out w hS; go_simp; try with_reducible rfl)
     ·(go_simp; try with_reducible rfl)
     refine held_take (i := 8) (v := ?_) (a' := ?_) rfl (by kernel_rfl) (by kernel_rfl) (by kernel_rfl) (fun _ _ _ h => (show False from h.2.2.2).elim) (by rfl) (HK.out.below hdr hgx) ?_ ?_ ?_
     rotate_left 2
     ·(intro w hS; go_simp; try with_reducible rfl)
     ·(go_simp; try with_reducible rfl)
     refine held_take (i := 9) (v := ?_) (a' := ?_) rfl (by kernel_rfl) (by kernel_rfl) (by kernel_rfl) (fun _ _ _ h => (show False from h.2.2.2).elim) (by rfl) (HK.out.below hdr hgx) ?_ ?_ ?_
     rotate_left 2
     ·(intro w hS; have t := HCF.out w hS; go_simp; try with_reducible rfl)
     ·(go_simp; try with_reducible rfl)
     refine held_ready (rs := [3]) (by kernel_rfl) (by simp) ?_
     refine AllHeld.cons rfl (fun KR hKR => ?_) ?_
     ·go_simp
      refine (HTX.out _).mono ?_
      rintro e wn ⟨⟨cs, rfl, hv⟩, hbn⟩
      have hbA := hdr.trans (hbn.mono hdr.size)
      have hk5 : cs.length = 5 := valR.len hv
      obtain ⟨K0, hK⟩ : ∃ K, K = cs.toArray := ⟨_, rfl⟩
      have HV0 := Lib.hid (show valR.R wn (fun b => b < w8.heap.size) K0.toList (txtV (sB s)) by rw [hK]; exact val_less (by simpa [txtV, sB] using hv) hdr.size)
      have HK0 := Lib.hid (show K0.size = 5 by rw [hK]; simpa using hk5)
      rw [← hK]
      clear hv hk5 hK hbn
      refine hKR _ _ (HK.out.below hbA hgx) ?_
      clear hKR KR
      refine held_ready (rs := [7]) (by kernel_rfl) (by simp) ?_
      refine AllHeld.cons rfl (fun KR hKR => ?_) ?_
      ·go_simp
       refine (HTI.out _).mono ?_
       rintro e wn ⟨⟨cs, rfl, hv⟩, hbn⟩
       have hbB := hbA.trans (hbn.mono hbA.size)
       have HV0 := Lib.hid (valR.stable HV0.out (Moves.of_below hbn))
       have hk5 : cs.length = 5 := valR.len hv
       obtain ⟨K1, hK⟩ : ∃ K, K = cs.toArray := ⟨_, rfl⟩
       have HV1 := Lib.hid (show valR.R wn (fun b => b < w8.heap.size) K1.toList (txtV i) by rw [hK]; exact val_less (by simpa [txtV, sB] using hv) hbA.size)
       have HK1 := Lib.hid (show K1.size = 5 by rw [hK]; simpa using hk5)
       rw [← hK]
       clear hv hk5 hK hbn
       refine hKR _ _ (HK.out.below hbB hgx) ?_
       clear hKR KR
       refine held_ready (rs := [10]) (by kernel_rfl) (by simp) ?_
       refine AllHeld.cons rfl (fun KR hKR => ?_) ?_
       ·go_simp
        refine (HR2.out _).mono ?_
        rintro e wn ⟨rfl, hbn⟩
        have hbR := hbB.trans (hbn.mono hbB.size)
        have HV0 := Lib.hid (valR.stable HV0.out (Moves.of_below hbn))
        have HV1 := Lib.hid (valR.stable HV1.out (Moves.of_below hbn))
        obtain ⟨K2, hK⟩ : ∃ K, K = cellsV 2 0 none 0 0 cf none 0 0 := ⟨_, rfl⟩
        have HV2 := Lib.hid (show valR.R wn (fun b => b < w8.heap.size) K2.toList (fltV cf) by
         rw [hK]
         exact valR_iff.2 ⟨none, 0, none, 0, rfl, by decide, by omega, HF2.out, ⟨Nat.le_refl _, Nat.zero_le _, SlOf.nil⟩, Nat.le_refl _, Nat.zero_le _, SlOf.nil⟩)
        have HK2 := Lib.hid (show K2.size = 5 by rw [hK]; rfl)
        rw [← hK]
        clear hK hbn
        have hrun : (Instr.buildSlice 92 3 #[(0, .agg K0), (1, .agg K1), (2, .agg K2)]).run Tryz.prog wn = .ok (.slice (some ⟨wn.heap.size, 0, none⟩) 3 3) (wn.alloc (.cells ([K0, K1, K2].flatMap (·.toList)).toArray 94)) := bsVals_of wn [K0, K1, K2] 3 rfl (by omega) (by omega) (fun K hK => by
         simp only [List.mem_cons, List.not_mem_nil, or_false] at hK
         rcases hK with rfl | rfl | rfl
         ·exact HK0.out
         ·exact HK1.out
         ·exact HK2.out)
        have hbC : Below w8.heap.size w8 (wn.alloc (.cells ([K0, K1, K2].flatMap (·.toList)).toArray 94)) := hbR.alloc hbR.size _
        have HSB := Lib.hid (show SlOf valR (wn.alloc (.cells ([K0, K1, K2].flatMap (·.toList)).toArray 94)) (fun b => b < w8.heap.size) (some ⟨wn.heap.size, 0, none⟩) [txtV (sB s), txtV i, fltV cf] from sl_builtA hbR.size (.cons HV0.out (.cons HV1.out (.cons HV2.out .nil))))
        have HROW := Lib.hid (row_anyA w8.heap.size (some ⟨wn.heap.size, 0, none⟩) 3 3 [txtV (sB s), txtV i, fltV cf] _ hbC.size HSB.out rfl (by omega))
        generalize ([K0, K1, K2].flatMap (·.toList)).toArray = KK at *
        clear HV0 HV1 HV2 HSB HK0 HK1 HK2
        refine hKR _ _ (HK.out.below hbR hgx) ?_
        clear hKR KR
        refine held_ready (rs := [11]) (by kernel_rfl) (by simp) ?_
        refine AllHeld.cons rfl (fun KR hKR => ?_) ?_
        ·refine step_build3 (by rfl) (.tmp 32) (.tmp 36) (.tmp 39) (by rfl) (by rfl) (by rfl) (by rfl) hrun ?_
         refine hKR _ _ (HK.out.below hbC hgx) ?_
         clear hKR KR
         refine held_ready (rs := [12]) (by kernel_rfl) (by simp) ?_
         refine AllHeld.cons rfl (fun KR hKR => ?_) ?_
         ·go_simp
          refine HROW.out.mono ?_
          rintro e wq ⟨⟨cs, rfl, hv⟩, hbn⟩
          have hbD := hbC.trans (hbn.mono hbC.size)
          have hk5 : cs.length = 5 := valR.len hv
          obtain ⟨K, hK⟩ : ∃ K, K = cs.toArray := ⟨_, rfl⟩
          have hKs : K.size = 5 := by rw [hK]; simpa using hk5
          have hbs := bsVal_of wq K hKs
          obtain ⟨A9, c9, w10, run9, hrow, hb10, hgr, _, _⟩ := (HRW8.out.below hbD).push elemVal (HBL8.out.trans (hbD.mono HBL8.out.size)).size hv (fun b _ ho => HLOW.out b ho) (by omega) (by simp only [maxLen]; omega) 92 1
          rw [show (l.take k).map entV ++ [Val.mk 3 0 [] 0 [txtV (sB s), txtV i, fltV cf]] = (l.take (k + 1)).map entV from HT2.out.symm] at hrow
          rw [← hK] at run9 ⊢
          have HR9 := Lib.hid hrow
          have HB9 := Lib.hid (show Below w2.heap.size w2 w10 from (HBL8.out.trans (hbD.mono HBL8.out.size)).trans hb10)
          have hbE : Below w8.heap.size w8 (wq.alloc (.cells K 94)) := hbD.alloc hbD.size _
          have HK11 := Lib.hid ((HK.out.below hbD hgx).grown hgr (fun e => by have := HOW.out gx e.symm; omega))
          clear hv hk5 hK hKs hrow hb10 hbn HROW hrun hgr
          refine hKR _ _ (HK.out.below hbD hgx) ?_
          clear hKR KR
          refine held_ready (rs := [13]) (by kernel_rfl) (by simp) ?_
          refine AllHeld.cons rfl (fun KR hKR => ?_) ?_
          ·refine step_build (by rfl) (.tmp 41) (by rfl) (by rfl) hbs ?_
           refine hKR _ _ (HK.out.below hbE hgx) ?_
           clear hKR KR
           refine held_ready (rs := [14]) (by kernel_rfl) (by simp) ?_
           refine AllHeld.cons rfl (fun KR hKR => ?_) ?_
           ·refine step_run_append (by rfl) (.tmp 29) (.tmp 42) (by rfl) (by rfl) (by rfl) run9 ?_
            refine hKR _ _ HK11.out ?_
            clear hKR KR
            refine held_take (i := 15) (v := ?_) (a' := ?_) rfl (by kernel_rfl) (by kernel_rfl) (by kernel_rfl) (fun _ _ _ h => (show False from h.2.2.2).elim) (by rfl) HK11.out ?_ ?_ ?_
            rotate_left 2
            ·(intro w hS; go_simp; try with_reducible rfl)
            ·(go_simp; try with_reducible rfl)
            refine wpAnyH_done (by kernel_rfl) ?_ _
            clear run9 hbs HRW8 HBL8 HLOW
            refine door_normal ?_
            go_wp2_with fail
            go_roundw
            case rel => exact ⟨k + 1, A9, c9, by omega, rfl, by go_num, HB9, HR9⟩
            case measure => simp [intOf]; omega
           exact AllHeld.nil
          exact AllHeld.nil
         exact AllHeld.nil
        exact AllHeld.nil
       exact AllHeld.nil
      exact AllHeld.nil
     exact AllHeld.nil
   ·have hltI : ¬ (k : Int) < (n : Int) := by omega
    obtain rfl : k = n := by omega
    have htk : l.take k = l := List.take_of_length_le (by rw [HN.out]; exact Nat.le_refl _)
    have hrow := HRW.out
    rw [htk] at hrow
    have hslw : SlOf valR wr no A' (l.map entV) := hrow.sl.forget
    have HROW := Lib.hid (row_any A' k c' (l.map entV) wr hslw hrow.len (by omega))
    have HBK := Lib.hid (show bulkVs (l.map entV) ≤ 1024 * 120 from Nat.le_trans (bulk_ents l (fun x hx => ⟨HNM.out x hx, ents_32 HS2.out x hx⟩)) (Nat.mul_le_mul_right _ (by rw [HN.out]; omega)))
    clear hrow hslw htk HRW
    go_wp2_with fail
    refine HROW.out.mono ?_
    rintro e w5 ⟨⟨cs, rfl, hv⟩, hb5⟩
    have hk5 : cs.length = 5 := valR.len hv
    obtain ⟨K, hK⟩ : ∃ K, K = cs.toArray := ⟨_, rfl⟩
    have hKs : K.size = 5 := by rw [hK]; simpa using hk5
    have hbs := bsVal_of w5 K hKs
    have HBL5 := Lib.hid (HBL.out.trans (hb5.mono HBL.out.size))
    have hal : Below w5.heap.size w5 (w5.alloc (.cells K 94)) := (Below.refl _ _).alloc (Nat.le_refl _) _
    have HBL6 := Lib.hid (HBL5.out.trans (hal.mono HBL5.out.size))
    have HSB := Lib.hid (show SlOf valR (w5.alloc (.cells K 94)) no (some ⟨w5.heap.size, 0, none⟩) [lstV (l.map entV)] from by
     have := sl_built (w := w5) (cells := cs) (vs := [lstV (l.map entV)]) (Each.one hv)
     rw [hK]; exact this)
    have HSEAL := Lib.hid (seal_any 3 (some ⟨w5.heap.size, 0, none⟩) 1 1 [lstV (l.map entV)] _ (by omega) HSB.out rfl (by omega) (by
     simp only [bulkVs, bulkV, lstV, List.length_nil]
     have h1 := HBK.out
     omega))
    rw [← HRR.out] at HSEAL
    rw [← hK]
    clear hv hk5 hK hKs hb5 hal HBL HSB HROW HBK HBL5
    go_wp2_with (first
     | (refine wpList_build1 rfl (.tmp 46) rfl (.agg K) _ rfl hbs ?_)
     | fail)
    refine HSEAL.out.mono ?_
    generalize w5.alloc (.cells K 94) = w6 at *
    intro e w7 hp
    have HP := Lib.hid hp
    have hb7 := hp.1
    clear hbs HSEAL
    have HBL7 := Lib.hid (HBL6.out.trans (hb7.mono HBL6.out.size))
    have HE7 := Lib.hid (HE2.out.below HBL7.out HE2.out.lt)
    have HB7 := Lib.hid (HB2.out.trans (HBL7.out.mono (Nat.le_of_lt HE2.out.lt)))
    have hg6 : g < w6.heap.size := Nat.lt_of_lt_of_le HE2.out.lt HBL6.out.size
    have hlg := HE7.out.lt
    have hfg := HE7.out.frozen 0
    clear hp hb7 HBL6
    have hp := HP.out
    cases R with
    | error z =>
     obtain ⟨_, h2⟩ := hp
     have h2 : e = _ := h2
     subst h2
     have hcg := HE7.out.cell 0
     have HB8 := Lib.hid (HB7.out.setCell (p := ⟨g, 0, none⟩) (Nat.le_refl g) (.int .i64 z))
     have HE8 := Lib.hid (HE7.out.set_ 0 (.int .i64 z))
     clear HP
     go_wp2_with fail
     refine ptree_end HG.out HB8.out HE8.out ?_ ?_ (by exact ⟨rfl, rfl⟩) <;> rfl
    | ok o =>
     obtain ⟨_, A9, m9, c9, rfl, h3, h4⟩ := hp
     have hcg := HE7.out.cell 0
     have HB8 := Lib.hid (HB7.out.setCell (p := ⟨g, 0, none⟩) (Nat.le_refl g) (.int .i64 0))
     have HE8 := Lib.hid (HE7.out.set_ 0 (.int .i64 0))
     have HO := Lib.hid (show (w7.setCell ⟨g, 0, none⟩ (.int .i64 0)).ownsRow g 5 1 (.slice A9 m9 c9) m9 (bytesV o) from own_mono (own_setCell h4 _ hg6) (Nat.le_of_lt hg6))
     have HM := Lib.hid h3
     clear HP h3 h4
     go_wp2_with fail
     refine ptree_end HG.out HB8.out HE8.out ?_ ?_ (by exact ⟨rfl, HM.out, HO.out⟩) <;> rfl
 ·rw [if_neg hz] at he
  subst he
  rw [HR.out, if_pos hz]
  refine ptree_door HG.out HB2.out HE2.out ?_ ?_ <;> rfl
end Go.Proofs.YtgmbkcjihgphmaaGreat
/- towlineref09.names; a value's list that grows. -/
namespace Go.Proofs.YtgmbkcjihgphmaaGreat
open Go.RowKit
end Go.Proofs.YtgmbkcjihgphmaaGreat
