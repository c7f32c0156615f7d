/- Contracts and laws for what the statement reaches, joined: ObjRefIds, ObjRefBlob, ObjRefPutBlob, ObjRefGetBlob, ObjRefName5, ObjRefOrd, ObjRefPutTree. -/
import Derived.Test.YtgmbkcjihgphmaaGreatJn10
import Derived.Test.YtgmbkcjihgphmaaGreatJn24
import Derived.Test.YtgmbkcjihgphmaaGreatJn5
/- towlineref09.ids. -/
set_option linter.unusedVariables false
set_option linter.unusedSimpArgs false
namespace Go.Proofs.YtgmbkcjihgphmaaGreat
open Go.RowKit
theorem okI_len (v : Val) : (okI (idG v)).length = 32 := by
 unfold idG
 split
 ·simp [okI]
 ·rename_i h
  simp only [okI]
  apply Classical.byContradiction
  intro h2; exact h (.inr h2)
theorem idG_ok {v : Val} (h : okZ (idG v) = 0) : idG v = .ok (okI (idG v)) := by
 cases hd : idG v with
 | ok v => rfl
 | error z => rw [hd] at h; exact absurd h (idG_err hd)
theorem idG_bad {v : Val} (h : okZ (idG v) ≠ 0) : idG v = .error (okZ (idG v)) := by
 cases hd : idG v with
 | ok v => rw [hd] at h; exact absurd rfl h
 | error z => rfl
def RIds (w : World) (r : Res (List (List UInt8))) (e : Ending) (w' : World) : Prop :=
 Below w.heap.size w w' ∧ match r with
  | .ok l => ∃ L c, e = .returned (.tuple #[.slice L l.length c, .int .i64 0]) ∧ l.length ≤ c ∧ c ≤ maxLen ∧ SlOf oidR w' (fun b => b < w.heap.size) L l
  | .error z => e = .returned (.tuple #[.slice none 0 0, .int .i64 z])
set_option maxRecDepth 100000 in
set_option maxHeartbeats 4000000 in
theorem refIds_any (cs : List Value) (v : Val) (most : Nat) (w : World) (hv : valR.R w no cs v) (hm : most ≤ 1000000) :
  Calls Tryz.prog 72 #[.agg cs.toArray, .int .i64 (most : Int)] w (RIds w (idsG v most)) := by
 obtain ⟨KV, hKV, HK, -, -, -, -⟩ := keepNew w hv
 obtain ⟨k, u, b, f, l⟩ := v
 obtain ⟨A, cA, L, cL, hcs, _, _, _, _, hc1, hc2, hsl⟩ := valR_iff.1 hv
 obtain ⟨n, hn⟩ : ∃ n, n = l.length := ⟨_, rfl⟩
 have HSW := Lib.hid hsl
 have HN := Lib.hid hn.symm
 have HC0 := Lib.hid (show KV[0]? = some (.int .i64 k) by rw [hKV, hcs]; rfl)
 have HC4 := Lib.hid (show KV[4]? = some (.slice L n cL) by rw [hKV, hcs, hn]; rfl)
 have HBK := Lib.hid HK.out.blk
 have HB := Lib.hid ((Below.refl w.heap.size w).alloc (Nat.le_refl _) (.cells KV 94))
 obtain ⟨R, hR⟩ : ∃ R, R = idsG (.mk k u b f l) most := ⟨_, rfl⟩
 have HR := Lib.hid (show R = if k ≠ 3 then .error 91 else if most < n then .error 2 else eachG idG l by
  rw [hR, hn]; unfold idsG listG
  show bindR (if k ≠ 3 then Except.error 91 else if most < l.length then Except.error 2 else Except.ok l) (eachG idG) = _
  by_cases h1 : k ≠ 3
  ·rw [if_pos h1, if_pos h1]; rfl
  ·rw [if_neg h1, if_neg h1]
   by_cases h2 : most < l.length
   ·rw [if_pos h2, if_pos h2]; rfl
   ·rw [if_neg h2, if_neg h2]; rfl)
 rw [← hR]
 rw [← hKV]
 rw [← hn] at hc1
 simp only [maxLen] at hc2
 clear hKV hv hcs hsl HK hR hn
 have c0 := (HBK.out.cell 0).trans HC0.out
 have c4 := (HBK.out.cell 4).trans HC4.out
 go_enter Tryz.func72, Tryz.ntmps72
 go_upto_region 1 with fail
 generalize w.alloc (.cells KV 94) = w1 at *
 generalize hg : w.heap.size = g at *
 have HG := Lib.hid hg
 clear hg
 by_cases hk : k = 3
 ·have e1 : (k != 3) = false := by simp [hk]
  by_cases hl : n ≤ most
  ·have hI : ¬ (most : Int) < (n : Int) := by omega
   have HRR := Lib.hid (show R = eachG idG l by rw [HR.out, if_neg (by simp [hk]), if_neg (by omega)])
   clear hk HR
   obtain ⟨RR, hRR⟩ : ∃ RR, RR = R := ⟨_, rfl⟩
   have HC := Lib.hid (show conE [] (eachG idG (l.drop 0)) = R by rw [conE_nil, List.drop_zero, HRR.out])
   have HRW := Lib.hid (show RowB oidR 33 w1 (g + 1) none 0 0 [] from RowB.nil _ _ _ _)
   go_wp2_with fail
   go_loopw [6, 7] (fun s6 s7 wr => ∃ (q : Nat) (A' : Option Addr) (c' : Nat) (is : List (List UInt8)), q ≤ n ∧ s6 = .slice A' q c' ∧ s7 = .int .i64 (q : Int) ∧ Hid (Below g w wr) ∧ Hid (Blk wr g 94 KV) ∧ Hid (RowB oidR 33 wr (g + 1) A' q c' is) ∧ Hid (conE is (eachG idG (l.drop q)) = R)) (fun s6 s7 wr => n - (intOf s7).toNat)
   case atStart => exact ⟨0, none, 0, [], by omega, rfl, rfl, HB, HBK, HRW, HC⟩
   case round =>
    obtain ⟨q, A', c', is, hq, rfl, rfl, HB4, HK4, HR4, HC5⟩ := hrel
    clear HB HBK HRW HC c0 c4
    have c4 := (HK4.out.cell 4).trans HC4.out
    by_cases hlt : q < n
    ·have hltI : (q : Int) < (n : Int) := by omega
     obtain ⟨bL, oL, cx, rfl, hbL, hvx, hat⟩ := val_at (HSW.out.below (by rw [HG.out]; exact HB4.out)) HN.out hlt
     have hvk := nthV_at (us := l) (k := q) (by rw [HN.out]; exact hlt)
     have HVK := Lib.hid hvk
     have HID := Lib.hid (refId_any cx (nthV l q) wr hvx)
     have hx5 : cx.length = 5 := valR.len hvx
     obtain ⟨KX, hKX⟩ : ∃ KX, KX = cx.toArray := ⟨_, rfl⟩
     have HI := Lib.hid (show (Tryz.prog.info? 94).map (·.size) = some KX.size by rw [hKX, show cx.toArray.size = 5 from by simpa using hx5]; exact val_info)
     rw [← hKX] at HID hat
     have HAT := Lib.hid hat
     obtain ⟨xb, hxb⟩ : ∃ xb, xb = okI (idG (nthV l q)) := ⟨_, rfl⟩
     obtain ⟨xz, hxz⟩ : ∃ xz, xz = okZ (idG (nthV l q)) := ⟨_, rfl⟩
     have h32 : xb.length = 32 := by rw [hxb]; exact okI_len _
     rw [← hxb, ← hxz] at HID
     have HXB := Lib.hid hxb
     have HXZ := Lib.hid hxz
     have H32 := Lib.hid h32
     obtain ⟨KB, hKB⟩ : ∃ KB, KB = (bytesV xb).toArray := ⟨_, rfl⟩
     rw [← hKB] at HID
     have HIB := Lib.hid (show (Tryz.prog.info? 33).map (·.size) = some KB.size by rw [hKB]; exact oid_size h32)
     have HOB := Lib.hid (show KB.all (·.oneCell') = true by rw [hKB]; exact oid_one _)
     have HZS := Lib.hid (show zID.size = KB.size by rw [hKB]; simp [bytesV, h32])
     have hKBs : KB.size = 32 := by rw [hKB]; simp [bytesV, h32]
     have hbs := fun w => (show (Instr.buildSlice 46 1 #[(0, .agg KB)]).run Tryz.prog w = _ from bsId_of w KB hKBs)
     have HKB := Lib.hid hKB
     clear hvx hat hvk hx5 hKX hxb hxz h32 hKB hKBs
     go_upto_region 9 with fail
     go_wp2_with (first
      | (refine wpList_load_at rfl _ _ rfl bL (oL + q * 5) rfl KX _ HAT.out Tryz.underlying94 rfl HI.out ?_)
      | fail)
     refine HID.out.mono ?_
     rintro e w5 ⟨rfl, hb5⟩
     have HB5 := Lib.hid (HB4.out.trans (hb5.mono (Nat.le_of_lt HK4.out.lt)))
     have hgl := HK4.out.lt
     have hal : Below w5.heap.size w5 (w5.alloc (.cells KB 33)) := (Below.refl _ _).alloc (Nat.le_refl _) _
     have HB6 := Lib.hid (HB5.out.trans (hal.mono (Nat.le_trans (Nat.le_of_lt hgl) hb5.size)))
     have HK6 := Lib.hid ((HK4.out.below hb5 hgl).below hal (Nat.lt_of_lt_of_le hgl hb5.size))
     have HR6 := Lib.hid ((HR4.out.below hb5).below hal)
     have HBN := Lib.hid (Blk.new w5 33 zID)
     have HX6 := Lib.hid (Blk.new w5 33 KB)
     clear HB4 HK4 HR4 hb5 hal HB5 HID c4
     go_upto_region 10 with (first
      | (refine wpList_store_row rfl _ _ _ rfl w5.heap.size KB rfl rfl 33 _ HBN.out HIB.out HZS.out HOB.out ?_) | fail)
     rw [World.setRow_alloc_new]
     clear HBN HZS HOB HI
     generalize w5.alloc (.cells KB 33) = w6 at *
     generalize w5.heap.size = gx at *
     by_cases hz : xz = 0
     ·have e2 : (xz != 0) = false := by simp [hz]
      have hid : idG (nthV l q) = .ok xb := by rw [HXB.out]; exact idG_ok (by rw [← HXZ.out]; exact hz)
      have HC6 := Lib.hid (show conE (is ++ [xb]) (eachG idG (l.drop (q + 1))) = R by rw [← conE_step is HVK.out hid]; exact HC5.out)
      obtain ⟨A9, c9, w9, run9, hrow9, hb9, hgr9, _, _⟩ := HR6.out.push elemId (Nat.succ_le_of_lt HK6.out.lt) (av := fun _ => True) (oid_of w6 _ H32.out) (fun _ _ _ => trivial) (by omega) (by simp only [maxLen]; omega) 46 1
      rw [← HKB.out] at run9
      have HB9 := Lib.hid (show Below g w w9 from HB6.out.trans (hb9.mono (Nat.le_succ _)))
      have HK9 := Lib.hid (HK6.out.below hb9 (Nat.lt_succ_self g))
      have HR9 := Lib.hid hrow9
      clear hz hid HR6 hrow9 hb9 hgr9
      go_wp2_with (first
       | (refine wpList_load_row rfl 33 (.tmp 8) rfl gx rfl 33 KB (0, 0) _ HX6.out Tryz.underlying33 rfl HIB.out ?_)
       | (refine wpList_build1 rfl (.tmp 38) rfl (.agg KB) _ rfl (hbs _) ?_)
       | (at_builtin; refine wpList_run_append run9 ?_ ?_ ?_; exact rfl; exact rfl)
       | fail)
      go_roundw
      case rel => exact ⟨q + 1, A9, c9, is ++ [xb], by omega, rfl, by go_num, HB9, HK9, HR9, HC6⟩
      case measure => simp [intOf]; omega
     ·have e2 : (xz != 0) = true := by simp [hz]
      have hid : idG (nthV l q) = .error xz := by have := idG_bad (v := nthV l q) (by rw [← HXZ.out]; exact hz); rw [this, HXZ.out]
      have HRE := Lib.hid (show R = .error xz by rw [← HC5.out]; exact conE_err is HVK.out hid)
      clear hz hid
      go_wp2_with fail
      go_ret2
      unfold RIds
      rw [HG.out, HRE.out]
      exact ⟨HB6.out, rfl⟩
    ·have hltI : ¬ (q : Int) < (n : Int) := by omega
     obtain rfl : q = n := by omega
     have hrr : R = .ok is := by rw [← HC5.out]; exact conE_end is (by rw [HN.out]; exact Nat.le_refl _)
     have HRE := Lib.hid hrr
     clear hrr
     go_wp2_with fail
     go_ret2
     unfold RIds
     rw [HG.out, HRE.out]
     obtain ⟨h1, h2⟩ := HR4.out.cap
     have hl := HR4.out.len
     exact ⟨HB4.out, A', c', by rw [← hl]; rfl, by rw [← hl]; exact h1, h2, HR4.out.sl.stable (Moves.less _ (fun b _ h => by have h : b < g := h; show b < g + 1; omega))⟩
  ·have hI : (most : Int) < (n : Int) := by omega
   have HRR := Lib.hid (show R = .error 2 by rw [HR.out, if_neg (by simp [hk]), if_pos (by omega)])
   clear hk
   go_wp2_with fail
   go_ret2
   unfold RIds
   rw [HG.out, HRR.out]
   exact ⟨HB.out, rfl⟩
 ·have e1 : (k != 3) = true := by simp [hk]
  have HRR := Lib.hid (show R = .error 91 by rw [HR.out, if_pos hk])
  clear hk
  go_wp2_with fail
  go_ret2
  unfold RIds
  rw [HG.out, HRR.out]
  exact ⟨HB.out, rfl⟩
end Go.Proofs.YtgmbkcjihgphmaaGreat
/- towlineref09.PutChunk, .GetChunk, .PutBlob, .GetBlob. -/
namespace Go.Proofs.YtgmbkcjihgphmaaGreat
open Go.RowKit
attribute [local go_sem ↓] cvt_eq
theorem textG_ok {v : Val} {most : Nat} (h : okZ (textG v most) = 0) : textG v most = .ok v.bytes := by
 unfold textG at h ⊢
 by_cases h1 : v.kind ≠ 1
 ·rw [if_pos h1] at h; exact absurd h (by decide)
 ·rw [if_neg h1] at h ⊢
  by_cases h2 : most < v.bytes.length
  ·rw [if_pos h2] at h; exact absurd h (by decide)
  ·rw [if_neg h2]
theorem textG_bad {v : Val} {most : Nat} (h : okZ (textG v most) ≠ 0) : textG v most = .error (okZ (textG v most)) := by
 cases hd : textG v most with
 | ok v => rw [hd] at h; exact absurd rfl h
 | error z => rfl
/-- a value's bytes in memory -/
theorem val_bytes {w : World} {av : Av} {b o : Nat} {cs : List Value} {v : Val} (hv : valR.R w av cs v) (hat : At w ⟨b, o, none⟩ cs.toArray) : ∃ A c, w.cell? ⟨b, o + 2, none⟩ = some (.slice A v.bytes.length c) ∧ Sl w 1 A v.bytes.length (bytesV v.bytes) ∧ v.bytes.length ≤ c ∧ c ≤ maxLen := by
 obtain ⟨k, u, bs, f, l⟩ := v
 obtain ⟨A, cA, M, cM, rfl, _, _, _, ⟨h1, h2, h3⟩, _⟩ := valR_iff.1 hv
 exact ⟨A, cA, hat 2 _ rfl, h3.bytes, h1, h2⟩
set_option maxRecDepth 100000 in
set_option maxHeartbeats 2000000 in
theorem refGetChunk_any (s : ByteArray) (w : World) : Calls Tryz.prog 49 #[.string s] w (RefEnc w (getChunk (sB s))) := by
 have HOP := Lib.hid (refOpen_any s 1 1 w (by omega) (by omega) (by omega))
 obtain ⟨R, hR⟩ : ∃ R, R = getChunk (sB s) := ⟨_, rfl⟩
 obtain ⟨D, hD⟩ : ∃ D, D = openG (sB s) 1 1 := ⟨_, rfl⟩
 have HR := Lib.hid (show R = bindR D fun vs => textG (nthV vs 0) 262144 by rw [hR, hD]; rfl)
 have HDL := Lib.hid hD
 rw [← hR]
 rw [← hD] at HOP
 clear hR hD
 go_enter Tryz.func49, Tryz.ntmps49
 go_wp2_with fail
 refine HOP.out.mono ?_
 rintro e w2 ⟨hb2, hp⟩
 cases D with
 | error z =>
  obtain rfl : e = _ := hp
  have HRR := Lib.hid (show R = .error z from HR.out)
  have hz := openG_err HDL.out.symm
  have e1 : (z == 0) = false := by simp [hz]
  have e2 : (z != 0) = true := by simp [hz]
  clear hz
  go_wp2_with fail
  go_ret2
  exact ⟨hb2, by rw [HRR.out]; rfl⟩
 | ok vs =>
  obtain ⟨L, cL, rfl, hl1, hl2, hsl⟩ := hp
  have hlen := openG_len HDL.out.symm
  rw [hlen] at hl1 ⊢
  obtain ⟨bL, oL, cs, rfl, hbL, hv, hat⟩ := val_at hsl hlen (i := 0) (by omega)
  have hk5 : cs.length = 5 := valR.len hv
  obtain ⟨Ab, cb, hcb, hslb, hcb1, hcb2⟩ := val_bytes hv hat
  obtain ⟨KV, hKV⟩ : ∃ KV, KV = cs.toArray := ⟨_, rfl⟩
  have HI := Lib.hid (show (Tryz.prog.info? 94).map (·.size) = some KV.size by rw [hKV, show cs.toArray.size = 5 from by simpa using hk5]; exact val_info)
  have HAT := Lib.hid (show At w2 ⟨bL, oL, none⟩ KV by rw [hKV]; simpa using hat)
  have HT := Lib.hid (refText_any cs (nthV vs 0) 262144 w2 (valR.stable hv (Moves.forget w2 _)) (by omega))
  rw [← hKV] at HT
  obtain ⟨tz, htz⟩ : ∃ tz, tz = okZ (textG (nthV vs 0) 262144) := ⟨_, rfl⟩
  rw [← htz] at HT
  have HTZ := Lib.hid htz
  obtain ⟨vb, hvb⟩ : ∃ vb, vb = (nthV vs 0).bytes := ⟨_, rfl⟩
  rw [← hvb] at hcb hslb hcb1
  have hcb : w2.cell? ⟨bL, oL + 2, none⟩ = some (.slice Ab vb.length cb) := by simpa using hcb
  have HVB := Lib.hid hvb
  have HSB := Lib.hid hslb
  have HB2 := Lib.hid hb2
  have HRR := Lib.hid (show R = textG (nthV vs 0) 262144 from HR.out)
  obtain ⟨nb, hnb⟩ : ∃ nb, nb = vb.length := ⟨_, rfl⟩
  rw [← hnb] at hcb hcb1
  have HNB := Lib.hid hnb
  simp only [maxLen] at hcb2
  clear hlen hsl hv hat hk5 hKV HR HDL HOP hb2 htz hvb hslb hnb
  go_wp2_with (first | (refine wpList_load_at rfl _ _ rfl bL oL rfl KV _ HAT.out Tryz.underlying94 rfl HI.out ?_) | fail)
  refine HT.out.mono ?_
  rintro e w3 ⟨rfl, hb3⟩
  have HB3 := Lib.hid (HB2.out.trans (hb3.mono HB2.out.size))
  have hcb3 : w3.cell? ⟨bL, oL + 2, none⟩ = some (.slice Ab nb cb) := (hb3.cell (p := ⟨bL, oL + 2, none⟩) hbL).trans hcb
  have HSB3 := Lib.hid (HSB.out.below hb3)
  clear hcb hb3 HT HB2 HSB
  by_cases hz : tz = 0
  ·have e1 : (tz != 0) = false := by simp [hz]
   have HRE := Lib.hid (show R = .ok vb by rw [HRR.out, HVB.out]; exact textG_ok (by rw [← HTZ.out]; exact hz))
   have hcv : cvt w3 Ab nb cb = .ok (.string ⟨vb.toArray⟩) w3 := by rw [HNB.out]; exact cvt_of HSB3.out cb
   clear hz
   go_wp2_with fail
   go_ret2
   exact ⟨HB3.out, by rw [HRE.out]; rfl⟩
  ·have e1 : (tz != 0) = true := by simp [hz]
   have HRE := Lib.hid (show R = .error tz by rw [HRR.out, HTZ.out]; exact textG_bad (by rw [← HTZ.out]; exact hz))
   clear hz
   go_wp2_with fail
   go_ret2
   exact ⟨HB3.out, by rw [HRE.out]; rfl⟩
end Go.Proofs.YtgmbkcjihgphmaaGreat
/- towlineref09.PutBlob. -/
namespace Go.Proofs.YtgmbkcjihgphmaaGreat
open Go.RowKit
end Go.Proofs.YtgmbkcjihgphmaaGreat
/- towlineref09.GetBlob. -/
namespace Go.Proofs.YtgmbkcjihgphmaaGreat
open Go.RowKit
set_option maxRecDepth 100000 in
set_option maxHeartbeats 4000000 in
theorem refGetBlob_any (s : ByteArray) (w : World) : Calls Tryz.prog 50 #[.string s] w (BlobPost w (getBlob (sB s))) := by
 have hb1 : Below w.heap.size w (w.alloc (.cells zBlob 115)) := (Below.refl _ _).alloc (Nat.le_refl _) _
 have HX1 := Lib.hid (Blk.new w 115 zBlob)
 have HB1 := Lib.hid hb1
 have HOP := Lib.hid (refOpen_any s 2 2 (w.alloc (.cells zBlob 115)) (by omega) (by omega) (by omega))
 obtain ⟨KZ, hKZ⟩ : ∃ KZ, KZ = zBlob := ⟨_, rfl⟩
 have hInfo : ∀ K : Array Value, K.size = 2 → (Tryz.prog.info? 115).map (·.size) = some K.size := fun K h => by rw [h]; kernel_rfl
 have HIZ := Lib.hid (hInfo KZ (by rw [hKZ]; rfl))
 have HOZ := Lib.hid (show KZ.all (·.oneCell') = true by rw [hKZ]; simp [Value.oneCell'])
 have HSZ := Lib.hid (show zBlob.size = KZ.size by rw [hKZ])
 have HKZ := Lib.hid hKZ
 have HINF := Lib.hid hInfo
 obtain ⟨R, hR⟩ : ∃ R, R = getBlob (sB s) := ⟨_, rfl⟩
 obtain ⟨D, hD⟩ : ∃ D, D = openG (sB s) 2 2 := ⟨_, rfl⟩
 have HR := Lib.hid (show R = bindR D fun vs => bindR (idsG (nthV vs 0) 4096) fun is => blobEnd is (nthV vs 1) by rw [hR, hD]; rfl)
 have HDL := Lib.hid hD
 rw [← hR]
 rw [← hD] at HOP
 clear hR hD hb1 hKZ hInfo
 go_enter Tryz.func50, Tryz.ntmps50
 go_upto_region 1 with fail
 change Code.wp _ _ _ _ (w.alloc (.cells zBlob 115))
 generalize w.alloc (.cells zBlob 115) = w1 at *
 generalize hg : w.heap.size = g at *
 have HG := Lib.hid hg
 clear hg
 go_wp2_with fail
 refine HOP.out.mono ?_
 rintro e w2 ⟨hb2, hp⟩
 have hgl := HX1.out.lt
 have HB2 := Lib.hid (HB1.out.trans (hb2.mono (Nat.le_of_lt hgl)))
 have HX2 := Lib.hid (HX1.out.below hb2 hgl)
 clear HX1 HB1 HOP hb2 hgl
 cases D with
 | error z =>
  obtain rfl : e = _ := hp
  have HRR := Lib.hid (show R = .error z from HR.out)
  have hz := openG_err HDL.out.symm
  have e2 : (z != 0) = true := by simp [hz]
  clear hz
  go_wp2_with (first | (refine wpList_store_row rfl _ _ _ rfl g KZ rfl (by rw [HKZ.out]; rfl) 115 _ HX2.out HIZ.out HSZ.out HOZ.out ?_) | fail)
  refine bodyPost_ret (results_row_tmp rfl _ _ g 115 KZ (0, 0) _ rfl (setRow_heap _ g _ _ _ _ HX2.out) Tryz.underlying115 rfl HIZ.out) rfl ?_
  unfold BlobPost
  rw [HG.out, HRR.out]
  exact ⟨below_setRow HB2.out (Nat.le_refl _) KZ, by rw [HKZ.out]; rfl⟩
 | ok vs =>
  obtain ⟨L, cL, rfl, hl1, hl2, hsl⟩ := hp
  have hlen := openG_len HDL.out.symm
  rw [hlen] at hl1 ⊢
  obtain ⟨bL, oL, cs, rfl, hbL, hv, hat⟩ := val_at hsl hlen (i := 0) (by omega)
  have hk5 : cs.length = 5 := valR.len hv
  obtain ⟨KV, hKV⟩ : ∃ KV, KV = cs.toArray := ⟨_, rfl⟩
  have HI := Lib.hid (show (Tryz.prog.info? 94).map (·.size) = some KV.size by rw [hKV, show cs.toArray.size = 5 from by simpa using hk5]; exact val_info)
  have HAT := Lib.hid (show At w2 ⟨bL, oL, none⟩ KV by rw [hKV]; simpa using hat)
  have HT := Lib.hid (refIds_any cs (nthV vs 0) 4096 w2 (valR.stable hv (Moves.forget w2 _)) (by omega))
  rw [← hKV] at HT
  have HSL := Lib.hid hsl
  have HLN := Lib.hid hlen
  obtain ⟨T, hT⟩ : ∃ T, T = idsG (nthV vs 0) 4096 := ⟨_, rfl⟩
  have HTT := Lib.hid hT
  have HRR := Lib.hid (show R = bindR T fun is => blobEnd is (nthV vs 1) by rw [HR.out, hT]; rfl)
  rw [← hT] at HT
  clear hlen hsl hv hat hk5 hKV HR HDL hT
  go_wp2_with (first | (refine wpList_load_at rfl _ _ rfl bL oL rfl KV _ HAT.out Tryz.underlying94 rfl HI.out ?_) | fail)
  refine HT.out.mono ?_
  intro e w3 hp
  have hb3 := hp.1
  have hp2 := hp.2
  have hgl := HX2.out.lt
  have HB3 := Lib.hid (HB2.out.trans (hb3.mono (Nat.le_of_lt hgl)))
  have HX3 := Lib.hid (HX2.out.below hb3 hgl)
  have HSL3 := Lib.hid (HSL.out.below hb3)
  have HG2 := Lib.hid hgl
  clear HB2 HX2 HSL HT hb3 hp HAT HI
  cases T with
  | error z =>
   obtain rfl : e = _ := hp2
   have HRE := Lib.hid (show R = .error z from HRR.out)
   have hz := idsG_err HTT.out.symm
   have e1 : (z == 0) = false := by simp [hz]
   have e2 : (z != 0) = true := by simp [hz]
   clear hz
   go_wp2_with (first | (refine wpList_store_row rfl _ _ _ rfl g KZ rfl (by rw [HKZ.out]; rfl) 115 _ HX3.out HIZ.out HSZ.out HOZ.out ?_) | fail)
   refine bodyPost_ret (results_row_tmp rfl _ _ g 115 KZ (0, 0) _ rfl (setRow_heap _ g _ _ _ _ HX3.out) Tryz.underlying115 rfl HIZ.out) rfl ?_
   unfold BlobPost
   rw [HG.out, HRE.out]
   exact ⟨below_setRow HB3.out (Nat.le_refl _) KZ, by rw [HKZ.out]; rfl⟩
  | ok is =>
   obtain ⟨M, cM, rfl, hm1, hm2, hms⟩ := hp2
   obtain ⟨bq, oq, cs, e0, hbq, hv, hat⟩ := val_at HSL3.out HLN.out (i := 1) (by omega)
   have e0 := Option.some.inj e0
   injection e0 with e1 e2
   subst e1 e2
   obtain ⟨p0, p1, p3⟩ := val_two hv hat
   obtain ⟨kq, hkq⟩ : ∃ kq, kq = (nthV vs 1).kind := ⟨_, rfl⟩
   obtain ⟨uq, huq⟩ : ∃ uq, uq = (nthV vs 1).num := ⟨_, rfl⟩
   have HR6 := Lib.hid (show R = if kq ≠ 0 then .error 91 else if 262144 < uq then .error 2 else .ok (is, (uq : Int)) by rw [HRR.out, hkq, huq]; rfl)
   have q0 : w3.cell? ⟨bL, oL + 5, none⟩ = some (.int .i64 kq) := by rw [hkq]; exact p0
   have q1 : w3.cell? ⟨bL, oL + 5 + 1, none⟩ = some (.int .u64 (uq : Int)) := by rw [huq]; simpa using p1
   have HMS := Lib.hid (show SlOf oidR w3 (fun b => b < g + 1) M is from hms.stable (Moves.less _ (fun b _ h => by have h : b < g + 1 := h; have := HG2.out; show b < w2.heap.size; omega)))
   have HMC := Lib.hid (And.intro hm1 hm2)
   clear hv hat p0 p1 p3 hkq huq e0 hms hm1 hm2 HRR HSL3
   by_cases hk0 : kq = 0
   ·have e1 : (kq != 0) = false := by simp [hk0]
    by_cases hu : uq ≤ 262144
    ·have huI : decide ((262144 : Int) < (uq : Int)) = false := by simp; omega
     have HRE := Lib.hid (show R = .ok (is, (uq : Int)) by rw [HR6.out, if_neg (by simp [hk0]), if_neg (by omega)])
     have hw : IntKind.i64.wrap (uq : Int) = (uq : Int) := IntWalk.i64_in _ (by omega)
     obtain ⟨KX, hKX⟩ : ∃ KX : Array Value, KX = #[.slice M is.length cM, .int .i64 (uq : Int)] := ⟨_, rfl⟩
     have HIX := Lib.hid (HINF.out KX (by rw [hKX]; rfl))
     have HOX := Lib.hid (show KX.all (·.oneCell') = true by rw [hKX]; simp [Value.oneCell'])
     have HSX := Lib.hid (show zBlob.size = KX.size by rw [hKX]; rfl)
     have HKX := Lib.hid hKX
     clear hk0 hu hKX HR6
     go_wp2_with (first | (refine wpList_store_row rfl _ _ _ rfl g KX rfl (by rw [HKX.out]; rfl) 115 _ HX3.out HIX.out HSX.out HOX.out ?_) | fail)
     refine bodyPost_ret (results_row_tmp rfl _ _ g 115 KX (0, 0) _ rfl (setRow_heap _ g _ _ _ _ HX3.out) Tryz.underlying115 rfl HIX.out) rfl ?_
     unfold BlobPost
     rw [HG.out, HRE.out]
     refine ⟨below_setRow HB3.out (Nat.le_refl _) KX, M, cM, by rw [HKX.out]; rfl, ?_, HMC.out.1, HMC.out.2⟩
     exact HMS.out.stable ((Moves.grown (grown_row w3 g KX) (Nat.lt_succ_self g)).trans (Moves.less _ (fun b _ h => by have h : b < g := h; show b < g + 1; omega)))
    ·have huI : decide ((262144 : Int) < (uq : Int)) = true := by simp; omega
     have HRE := Lib.hid (show R = .error 2 by rw [HR6.out, if_neg (by simp [hk0]), if_pos (by omega)])
     clear hk0 hu HR6
     go_wp2_with (first | (refine wpList_store_row rfl _ _ _ rfl g KZ rfl (by rw [HKZ.out]; rfl) 115 _ HX3.out HIZ.out HSZ.out HOZ.out ?_) | fail)
     refine bodyPost_ret (results_row_tmp rfl _ _ g 115 KZ (0, 0) _ rfl (setRow_heap _ g _ _ _ _ HX3.out) Tryz.underlying115 rfl HIZ.out) rfl ?_
     unfold BlobPost
     rw [HG.out, HRE.out]
     exact ⟨below_setRow HB3.out (Nat.le_refl _) KZ, by rw [HKZ.out]; rfl⟩
   ·have e1 : (kq != 0) = true := by simp [hk0]
    have HRE := Lib.hid (show R = .error 91 by rw [HR6.out, if_pos hk0])
    clear hk0 HR6
    go_wp2_with (first | (refine wpList_store_row rfl _ _ _ rfl g KZ rfl (by rw [HKZ.out]; rfl) 115 _ HX3.out HIZ.out HSZ.out HOZ.out ?_) | fail)
    refine bodyPost_ret (results_row_tmp rfl _ _ g 115 KZ (0, 0) _ rfl (setRow_heap _ g _ _ _ _ HX3.out) Tryz.underlying115 rfl HIZ.out) rfl ?_
    unfold BlobPost
    rw [HG.out, HRE.out]
    exact ⟨below_setRow HB3.out (Nat.le_refl _) KZ, by rw [HKZ.out]; rfl⟩
end Go.Proofs.YtgmbkcjihgphmaaGreat
/- towlineref05.Name, as Object takes it. -/
namespace Go.Proofs.YtgmbkcjihgphmaaGreat
open Go.RowKit
set_option maxRecDepth 100000 in
set_option maxHeartbeats 2000000 in
theorem refName_any (s : ByteArray) (w : World) (hs : s.size ≤ 1000000000) : Calls Tryz.prog 95 #[.string s] w fun e w' => e = .returned (.bool (nameG (sB s))) ∧ w' = w := by
 obtain ⟨t0, t1, t2, t3⟩ := name_tests s
 have k1 : ({ data := #[46] } : ByteArray).toList = [46] := ByteArray.toList_mk [46]
 have k2 : ({ data := #[46, 46] } : ByteArray).toList = [46, 46] := ByteArray.toList_mk [46, 46]
 obtain ⟨G, hG⟩ : ∃ G, G = nameG (sB s) := ⟨_, rfl⟩
 have HG := Lib.hid hG
 rw [← hG]
 by_cases h0 : (sB s == []) = true
 ·have hg := Lib.hid (show G = false by rw [hG]; simp [nameG] at h0 ⊢; simp [h0])
  rw [h0] at t0
  clear hG h0 t1 t2 t3
  go_enter Tryz.func95, Tryz.ntmps95
  go_wp2_with fail
  go_ret
  exact ⟨by rw [hg.out]; rfl, rfl⟩
 have h0' : (sB s == []) = false := by simpa using h0
 rw [h0'] at t0
 by_cases h1 : (sB s == [46]) = true
 ·have hg := Lib.hid (show G = false by rw [hG]; simp at h1; simp [nameG, h1])
  rw [h1] at t1
  clear hG h0 h1 t2 t3
  go_enter Tryz.func95, Tryz.ntmps95
  go_wp2_with fail
  go_ret
  exact ⟨by rw [hg.out]; rfl, rfl⟩
 have h1' : (sB s == [46]) = false := by simpa using h1
 rw [h1'] at t1
 by_cases h2 : (sB s == [46, 46]) = true
 ·have hg := Lib.hid (show G = false by rw [hG]; simp at h2; simp [nameG, h2])
  rw [h2] at t2
  clear hG h0 h1 h2 t3
  go_enter Tryz.func95, Tryz.ntmps95
  go_wp2_with fail
  go_ret
  exact ⟨by rw [hg.out]; rfl, rfl⟩
 have h2' : (sB s == [46, 46]) = false := by simpa using h2
 rw [h2'] at t2
 by_cases h3 : s.size ≤ 64
 ·have h3I : ¬ (64 : Int) < (s.size : Int) := by omega
  have hg := Lib.hid (show G = (sB s).all (fun x => !badB x) by
   rw [hG]; unfold nameG
   rw [show (sB s != []) = true by simp [bne, h0'], show (sB s != [46]) = true by simp [bne, h1'], show (sB s != [46, 46]) = true by simp [bne, h2'], t3]
   simp [h3])
  clear hG h0 h1 h2 h0' h1' h2' t3
  go_enter Tryz.func95, Tryz.ntmps95
  go_wp2_with fail
  go_loopw [3] (fun s3 wr => ∃ p : Nat, p ≤ s.size ∧ s3 = .int .i64 (p : Int) ∧ wr = w ∧ Hid (∀ k, k < p → badB (s.get! k) = false)) (fun s3 wr => s.size - (intOf s3).toNat)
  case atStart => exact ⟨0, by omega, rfl, rfl, Lib.hid (fun k h => by omega)⟩
  case round =>
   obtain ⟨p, hp, rfl, rfl, HP⟩ := hrel
   by_cases hlt : p < s.size
   ·have hI : (p : Int) < (s.size : Int) := by omega
    have hgx : s.get! p = s[p]'hlt := get_at s p hlt
    obtain ⟨x, hx⟩ : ∃ x, x = s[p]'hlt := ⟨_, rfl⟩
    have hx' := hx.symm
    rw [← hx] at hgx
    have hx256 := u8_lt x
    by_cases hb : badB x = true
    ·have hgf := Lib.hid (show G = false by
      rw [hg.out, ← Bool.not_eq_true, all_get]
      intro h
      have := h p hlt
      rw [hgx, hb] at this
      cases this)
     have e1 : (x < 32) = (x.toNat < 32) := by rw [UInt8.lt_iff_toNat_lt]; rfl
     have e2 : (x = 127) = (x.toNat = 127) := by rw [← UInt8.toNat_inj]; rfl
     have e3 : (x = 47) = (x.toNat = 47) := by rw [← UInt8.toNat_inj]; rfl
     simp [badB, e1, e2, e3] at hb
     have HB := Lib.hid hb
     clear hb e1 e2 e3 hx hgx
     by_cases b1 : x.toNat < 32
     ·have a1 : decide ((x.toNat : Int) < 32) = true := by simp; omega
      clear b1
      go_wp2_with fail
      go_ret
      exact ⟨by rw [hgf.out]; rfl, rfl⟩
     ·have a1 : decide ((x.toNat : Int) < 32) = false := by simp; omega
      by_cases b2 : x.toNat = 127
      ·have a2 : ((x.toNat : Int) == 127) = true := by simp; omega
       clear b1 b2
       go_wp2_with fail
       go_ret
       exact ⟨by rw [hgf.out]; rfl, rfl⟩
      ·have a2 : ((x.toNat : Int) == 127) = false := by simp; omega
       have a3 : ((x.toNat : Int) == 47) = true := by have := HB.out; simp; omega
       clear b1 b2
       go_wp2_with fail
       go_ret
       exact ⟨by rw [hgf.out]; rfl, rfl⟩
    ·have hb' : badB x = false := by simpa using hb
     have HN : Hid (∀ k, k < p + 1 → badB (s.get! k) = false) := Lib.hid (fun k hk => by
      rcases Nat.lt_or_ge k p with h1 | h1
      ·exact HP.out k h1
      ·obtain rfl : k = p := by omega
       rw [hgx]; exact hb')
     have e1 : (x < 32) = (x.toNat < 32) := by rw [UInt8.lt_iff_toNat_lt]; rfl
     have e2 : (x = 127) = (x.toNat = 127) := by rw [← UInt8.toNat_inj]; rfl
     have e3 : (x = 47) = (x.toNat = 47) := by rw [← UInt8.toNat_inj]; rfl
     simp [badB, e1, e2, e3] at hb
     have a1 : decide ((x.toNat : Int) < 32) = false := by simp; omega
     have a2 : ((x.toNat : Int) == 127) = false := by simp; omega
     have a3 : ((x.toNat : Int) == 47) = false := by simp; omega
     clear hb hb' e1 e2 e3 hx hgx
     go_wp2_with fail
     go_roundw
     case rel => exact ⟨p + 1, by omega, by go_num, by first | trivial | rfl, HN⟩
     case measure => simp [intOf]; omega
   ·have hI : ¬ (p : Int) < (s.size : Int) := by omega
    have hgt := Lib.hid (show G = true by rw [hg.out, all_get]; exact fun k hk => HP.out k (by omega))
    go_wp2_with fail
    go_ret
    exact ⟨by rw [hgt.out]; rfl, rfl⟩
 ·have h3I : (64 : Int) < (s.size : Int) := by omega
  have hg := Lib.hid (show G = false by rw [hG]; unfold nameG; rw [t3]; simp [h3])
  clear hG h0 h1 h2 h0' h1' h2' t3
  go_enter Tryz.func95, Tryz.ntmps95
  go_wp2_with fail
  go_ret
  exact ⟨by rw [hg.out]; rfl, rfl⟩
end Go.Proofs.YtgmbkcjihgphmaaGreat
/- towlineref09.ordered. -/
namespace Go.Proofs.YtgmbkcjihgphmaaGreat
open Go.RowKit
set_option maxRecDepth 100000 in
set_option maxHeartbeats 4000000 in
theorem refOrdered_any (A : Option Addr) (n c : Nat) (l : List EntT) (W0 : World) (hs : SlOf entR W0 no A l) (hn : n = l.length) (hnl : n ≤ 1000000000) (hsz : ∀ x ∈ l, x.1.size ≤ 1000000000) :
  Calls Tryz.prog 74 #[.slice A n c] W0 fun e w' => e = .returned (.int .i64 (orderedG l)) ∧ Below W0.heap.size W0 w' := by
 obtain ⟨G, hG⟩ : ∃ G, G = orderedG l := ⟨_, rfl⟩
 rw [← hG]
 have HS := Lib.hid hs
 have HM := Lib.hid hn
 have HZ := Lib.hid hsz
 by_cases h1 : n ≤ 1024
 ·have hI : ¬ (1024 : Int) < (n : Int) := by omega
  have HG0 := Lib.hid (show G = ordG none (l.drop 0) by rw [hG]; unfold orderedG; rw [if_neg (by omega), List.drop_zero])
  clear hG hs hn hsz
  go_enter Tryz.func74, Tryz.ntmps74
  go_wp2_with fail
  go_loopw [3] (fun s3 wr => ∃ (i : Nat) (p : Option (List UInt8)), i ≤ n ∧ s3 = .int .i64 (i : Int) ∧ Below W0.heap.size W0 wr ∧ Hid ((i = 0 → p = none) ∧ ∀ j x, i = j + 1 → l[j]? = some x → p = some (sB x.1)) ∧ Hid (G = ordG p (l.drop i))) (fun s3 wr => n - (intOf s3).toNat)
  case atStart => exact ⟨0, none, by omega, rfl, Below.refl _ _, Lib.hid ⟨fun _ => rfl, fun j x h => by omega⟩, HG0⟩
  case round =>
   obtain ⟨i, p, hin, rfl, hbl, HP, HR⟩ := hrel
   by_cases hi : i < n
   ·have hiI : (i : Int) < (n : Int) := by omega
    obtain ⟨b1, o1, x, hA, hb1, hx, h32, hf, hat⟩ := ents_look (HS.out.below hbl) HM.out.symm hi
    have hr := HR.out
    rw [ord_step hx] at hr
    have HRR := Lib.hid hr
    have HX := Lib.hid hx
    have HN := Lib.hid (fun w => refName_any x.1 w (HZ.out x (List.mem_of_getElem? hx)))
    have hcx : wr.cell? ⟨b1, o1 + i * 35, none⟩ = some (.string x.1) := by have := hat 0 _ (entK_get h32 _ _ _).1; simpa using this
    subst hA
    clear hr hx hat HR h32 hf
    go_upto_region 7 with fail
    go_wp2_with fail
    refine (HN.out _).mono ?_
    rintro e w3 ⟨rfl, rfl⟩
    cases hnm : nameG (sB x.1) with
    | false =>
     have HG2 := Lib.hid (show G = 50 by rw [HRR.out, if_pos hnm])
     clear hnm
     go_wp2_with fail
     go_ret
     exact ⟨by rw [HG2.out]; rfl, hbl⟩
    | true =>
     have HG2 := Lib.hid (show G = if notUp p (sB x.1) = true then 92 else ordG (some (sB x.1)) (l.drop (i + 1)) by rw [HRR.out, if_neg (by simp [hnm])])
     clear hnm HRR
     have HP2 := Lib.hid (show (i + 1 = 0 → some (sB x.1) = none) ∧ ∀ (j : Nat) (y : EntT), i + 1 = j + 1 → l[j]? = some y → some (sB x.1) = some (sB y.1) from ⟨fun h => by omega, fun j y h1 h2 => by
      obtain rfl : j = i := by omega
      rw [HX.out] at h2; injection h2 with h2; rw [h2]⟩)
     by_cases hi0 : i = 0
     ·subst hi0
      obtain rfl := HP.out.1 rfl
      have HG3 := Lib.hid (show G = ordG (some (sB x.1)) (l.drop (0 + 1)) by rw [HG2.out]; rfl)
      clear HG2 HP hb1 hcx HN
      have hdr : Below w3.heap.size w3 w3.drew := Same.below ⟨1, rfl⟩ _
      have hbl5 := hbl.trans (hdr.mono hbl.size)
      go_upto_region 8 with fail
      refine wp_region_held (S := fun w => Below w3.heap.size w3 w) (by kernel_rfl) ?_
      change wpAnyH _ _ _ _ _ _ _ _ (World.drew _)
      refine rgT 0 hdr ?_
      refine rgT 1 hdr ?_
      refine rgT 2 hdr ?_
      refine held_no (i := 3) (a' := ?_) rfl (by kernel_rfl) (by kernel_rfl) (by kernel_rfl) (fun _ _ _ h => h) (by rfl) hdr ?_ ?_
      rotate_left 1
      ·(go_simp; try with_reducible rfl)
      refine held_no (i := 4) (a' := ?_) rfl (by kernel_rfl) (by kernel_rfl) (by kernel_rfl) (fun _ _ _ h => h) (by rfl) hdr ?_ ?_
      rotate_left 1
      ·(go_simp; try with_reducible rfl)
      refine held_no (i := 5) (a' := ?_) rfl (by kernel_rfl) (by kernel_rfl) (by kernel_rfl) (fun _ _ _ h => h) (by rfl) hdr ?_ ?_
      rotate_left 1
      ·(go_simp; try with_reducible rfl)
      refine held_no (i := 6) (a' := ?_) rfl (by kernel_rfl) (by kernel_rfl) (by kernel_rfl) (fun _ _ _ h => h) (by rfl) hdr ?_ ?_
      rotate_left 1
      ·(go_simp; try with_reducible rfl)
      refine held_no (i := 7) (a' := ?_) rfl (by kernel_rfl) (by kernel_rfl) (by kernel_rfl) (fun _ _ _ h => h) (by rfl) hdr ?_ ?_
      rotate_left 1
      ·(go_simp; try with_reducible rfl)
      refine held_no (i := 8) (a' := ?_) rfl (by kernel_rfl) (by kernel_rfl) (by kernel_rfl) (fun _ _ _ h => h) (by rfl) hdr ?_ ?_
      rotate_left 1
      ·(go_simp; try with_reducible rfl)
      refine held_no (i := 9) (a' := ?_) rfl (by kernel_rfl) (by kernel_rfl) (by kernel_rfl) (fun _ _ _ h => h) (by rfl) hdr ?_ ?_
      rotate_left 1
      ·(go_simp; try with_reducible rfl)
      refine held_no (i := 10) (a' := ?_) rfl (by kernel_rfl) (by kernel_rfl) (by kernel_rfl) (fun _ _ _ h => h) (by rfl) hdr ?_ ?_
      rotate_left 1
      ·(go_simp; try with_reducible rfl)
      refine held_no (i := 11) (a' := ?_) rfl (by kernel_rfl) (by kernel_rfl) (by kernel_rfl) (fun _ _ _ h => h) (by rfl) hdr ?_ ?_
      rotate_left 1
      ·(go_simp; try with_reducible rfl)
      refine held_no (i := 12) (a' := ?_) rfl (by kernel_rfl) (by kernel_rfl) (by kernel_rfl) (fun _ _ _ h => h) (by rfl) hdr ?_ ?_
      rotate_left 1
      ·(go_simp; try with_reducible rfl)
      refine held_no (i := 13) (a' := ?_) rfl (by kernel_rfl) (by kernel_rfl) (by kernel_rfl) (fun _ _ _ h => h) (by rfl) hdr ?_ ?_
      rotate_left 1
      ·(go_simp; try with_reducible rfl)
      refine held_no (i := 14) (a' := ?_) rfl (by kernel_rfl) (by kernel_rfl) (by kernel_rfl) (fun _ _ _ h => h) (by rfl) hdr ?_ ?_
      rotate_left 1
      ·(go_simp; try with_reducible rfl)
      refine rgT 15 hdr ?_
      refine wpAnyH_done (by kernel_rfl) ?_ _
      go_wp2_with fail
      go_roundw
      case rel => exact ⟨0 + 1, some (sB x.1), by omega, by go_num, hbl5, HP2, HG3⟩
      case measure => simp [intOf]; omega
     ·obtain ⟨b9, o9, y, hA9, hb9, hy, hy32, hyf, haty⟩ := ents_look (HS.out.below hbl) HM.out.symm (i := i - 1) (by omega)
      have hA9 := Option.some.inj hA9
      injection hA9 with e1 e2
      subst e1 e2
      have hp := HP.out.2 (i - 1) y (by omega) hy
      have i1 : (i : Int) - 1 = ((i - 1 : Nat) : Int) := by omega
      obtain ⟨i', hi'⟩ : ∃ i', i' = i - 1 := ⟨_, rfl⟩
      rw [← hi'] at i1 haty
      have iw : IntKind.i64.wrap ((i : Int) - 1) = (i' : Int) := by rw [i1]; exact IntWalk.i64_in _ (by omega)
      have i2 : (0 : Int) ≤ (i' : Int) := by omega
      have i3 : (i' : Int) < (n : Int) := by omega
      have e0 : decide ((0 : Int) < (i : Int)) = true := by simp; omega
      have e0' : (0 : Int) < (i : Int) := by omega
      have e0'' : 0 < i := by omega
      have hcy : w3.cell? ⟨b1, o1 + i' * 35, none⟩ = some (.string y.1) := by have := haty 0 _ (entK_get hy32 _ _ _).1; simpa using this
      have HG3 := Lib.hid (show G = if (!(Op.bytesLess (sB y.1) (sB x.1))) = true then 92 else ordG (some (sB x.1)) (l.drop (i + 1)) by rw [HG2.out, hp]; rfl)
      have hlb : b1 < w3.heap.size := hb9
      have hdr : Below w3.heap.size w3 w3.drew := Same.below ⟨1, rfl⟩ _
      have hbl5 := hbl.trans (hdr.mono hbl.size)
      clear HG2 HP hb1 HN i1 hi' haty hy hyf hy32 hp hb9 hi0
      go_upto_region 8 with fail
      cases hls : Op.bytesLess (sB y.1) (sB x.1) with
      | true =>
       have e3 : Op.bytesLess y.1.toList x.1.toList = true := by rw [Lib.toList_data, Lib.toList_data]; exact hls
       have HG4 := Lib.hid (show G = ordG (some (sB x.1)) (l.drop (i + 1)) by rw [HG3.out, hls]; rfl)
       clear hls HG3
       refine wp_region_held (S := fun w => Below w3.heap.size w3 w) (by kernel_rfl) ?_
       change wpAnyH _ _ _ _ _ _ _ _ (World.drew _)
       refine rgT 0 hdr ?_
       refine rgT 1 hdr ?_
       refine rgT 2 hdr ?_
       refine rgT 3 hdr ?_
       refine rgT 4 hdr ?_
       refine rgT 5 hdr ?_
       refine rgT 6 hdr ?_
       refine rgT 7 hdr ?_
       refine rgU 8 (v := ?_) (a' := ?_) hdr ?_ ?_ ?_
       rotate_left 2
       ·(intro w hS; have t := (hS.cell (p := ⟨b1, o1 + i' * 35, none⟩) hlb).trans hcy; go_simp; try with_reducible rfl)
       ·(go_simp; try with_reducible rfl)
       refine rgT 9 hdr ?_
       refine rgT 10 hdr ?_
       refine rgT 11 hdr ?_
       refine rgT 12 hdr ?_
       refine rgU 13 (v := ?_) (a' := ?_) hdr ?_ ?_ ?_
       rotate_left 2
       ·(intro w hS; have t := (hS.cell (p := ⟨b1, o1 + i * 35, none⟩) hlb).trans hcx; go_simp; try with_reducible rfl)
       ·(go_simp; try with_reducible rfl)
       refine rgT 14 hdr ?_
       refine rgT 15 hdr ?_
       refine wpAnyH_done (by kernel_rfl) ?_ _
       go_wp2_with fail
       go_roundw
       case rel => exact ⟨i + 1, some (sB x.1), by omega, by go_num, hbl5, HP2, HG4⟩
       case measure => simp [intOf]; omega
      | false =>
       have e3 : Op.bytesLess y.1.toList x.1.toList = false := by rw [Lib.toList_data, Lib.toList_data]; exact hls
       have HG4 := Lib.hid (show G = 92 by rw [HG3.out, hls]; rfl)
       clear hls HG3
       refine wp_region_held (S := fun w => Below w3.heap.size w3 w) (by kernel_rfl) ?_
       change wpAnyH _ _ _ _ _ _ _ _ (World.drew _)
       refine rgT 0 hdr ?_
       refine rgT 1 hdr ?_
       refine rgT 2 hdr ?_
       refine rgT 3 hdr ?_
       refine rgT 4 hdr ?_
       refine rgT 5 hdr ?_
       refine rgT 6 hdr ?_
       refine rgT 7 hdr ?_
       refine rgU 8 (v := ?_) (a' := ?_) hdr ?_ ?_ ?_
       rotate_left 2
       ·(intro w hS; have t := (hS.cell (p := ⟨b1, o1 + i' * 35, none⟩) hlb).trans hcy; go_simp; try with_reducible rfl)
       ·(go_simp; try with_reducible rfl)
       refine rgT 9 hdr ?_
       refine rgT 10 hdr ?_
       refine rgT 11 hdr ?_
       refine rgT 12 hdr ?_
       refine rgU 13 (v := ?_) (a' := ?_) hdr ?_ ?_ ?_
       rotate_left 2
       ·(intro w hS; have t := (hS.cell (p := ⟨b1, o1 + i * 35, none⟩) hlb).trans hcx; go_simp; try with_reducible rfl)
       ·(go_simp; try with_reducible rfl)
       refine rgT 14 hdr ?_
       refine rgT 15 hdr ?_
       refine wpAnyH_done (by kernel_rfl) ?_ _
       go_wp2_with fail
       go_ret
       exact ⟨by rw [HG4.out]; rfl, hbl5⟩
   ·have hiI : ¬ (i : Int) < (n : Int) := by omega
    have hg := Lib.hid (show G = 0 by
     rw [HR.out, List.drop_of_length_le (by rw [← HM.out]; omega)]; rfl)
    go_wp2_with fail
    go_ret
    exact ⟨by rw [hg.out]; rfl, hbl⟩
 ·have hI : (1024 : Int) < (n : Int) := by omega
  have HG2 := Lib.hid (show G = 2 by rw [hG]; unfold orderedG; rw [if_pos (by omega)])
  clear hG hs hn
  go_enter Tryz.func74, Tryz.ntmps74
  go_wp2_with fail
  go_ret
  exact ⟨by rw [HG2.out]; rfl, Below.refl _ _⟩
end Go.Proofs.YtgmbkcjihgphmaaGreat
/- towlineref09.PutTree. -/
namespace Go.Proofs.YtgmbkcjihgphmaaGreat
open Go.RowKit
end Go.Proofs.YtgmbkcjihgphmaaGreat
