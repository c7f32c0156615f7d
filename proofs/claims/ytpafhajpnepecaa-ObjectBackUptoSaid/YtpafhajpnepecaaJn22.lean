/- Contracts and laws for what the statement reaches, joined: ObjRefFns, ObjRefSeal, ObjRefKind, Stb, ObjRefId. -/
import Derived.Test.YtpafhajpnepecaaJn11
import Derived.Test.YtpafhajpnepecaaJn14
import Derived.Test.YtpafhajpnepecaaJn17
import Derived.Test.YtpafhajpnepecaaJn2
import Derived.Test.YtpafhajpnepecaaJn20
import Derived.Test.YtpafhajpnepecaaJn21
import Derived.Deep.OwnRows
import Derived.Laws.CopyRow
import Derived.Laws.ResultCell
/- towlineref09's small functions: bytes, number, name, text, id. -/
set_option linter.unusedVariables false
set_option linter.unusedSimpArgs false
namespace Go.Proofs.Ytpafhajpnepecaa
open Go.RowKit
attribute [local go_sem ↓] cvt_eq

set_option maxRecDepth 100000 in
set_option maxHeartbeats 1000000 in
theorem refBytes_any (s : ByteArray) (w : World) (hs : s.size ≤ maxLen) : Calls Try.prog 50 #[.string s] w fun e w' => (∃ cs : List Value, e = .returned (.agg cs.toArray) ∧ valR.R w' (fun b => b < w.heap.size) cs (txtV (sB s))) ∧ Below w.heap.size w w' := by
  obtain ⟨A, c, w2, hrun, hsl, hc, hm, hb, b, rfl, hbw⟩ := toBytes (w.alloc (.cells zVal 84)) s hs
  have HRUN := Lib.hid hrun
  have HSL := Lib.hid hsl
  have HB := Lib.hid hb
  have hbb : w.heap.size + 1 ≤ b := by simpa using hbw
  have HBL := Lib.hid ((Blk.new w 84 zVal).below hb (by simp))
  obtain ⟨KV, hKV⟩ : ∃ KV, KV = cellsV 1 0 (some ⟨b, 0, none⟩) s.size c 0 none 0 0 := ⟨_, rfl⟩
  have HI := Lib.hid (show (Try.prog.info? 84).map (·.size) = some KV.size by rw [hKV]; exact cellsV_info _ _ _ _ _ _ _ _ _)
  have HO := Lib.hid (show KV.all (·.oneCell') = true by rw [hKV]; exact cellsV_one _ _ _ _ _ _ _ _ _)
  have HKV := Lib.hid hKV
  have HC := Lib.hid (And.intro hc hm)
  clear hKV hsl hb hc hm hbw
  go_enter Try.func50, Try.ntmps50
  go_wp2_with (first | (refine wpList_store_row rfl _ _ _ rfl w.heap.size KV rfl (by rw [HKV.out]; rfl) 84 _ HBL.out HI.out (by rw [HKV.out]; rfl) HO.out ?_) | fail)
  refine bodyPost_ret (results_cell_row rfl _ _ w.heap.size 84 KV (0, 0) _ rfl (setRow_heap _ w.heap.size _ _ _ _ HBL.out) Try.underlying84 rfl HI.out) rfl ?_
  have hlen : s.data.toList.length = s.size := Array.length_toList
  have hsl' : Sl (w2.setRow w.heap.size KV) 1 (some ⟨b, 0, none⟩) s.size (bytesV s.data.toList) := by
    refine ⟨HSL.out.1, fun hn => ?_⟩
    obtain ⟨b', off, he, hb', hc'⟩ := HSL.out.2 hn
    have e := Option.some.inj he
    injection e with e1 e2
    subst e1 e2
    refine ⟨b, 0, rfl, by simpa using hb', fun j u hu => ?_⟩
    rw [cell_setRow_other w2 w.heap.size KV ⟨b, 0 + j, none⟩ (by show b ≠ w.heap.size; omega)]
    exact hc' j u hu
  refine ⟨⟨KV.toList, by simp, ?_⟩, below_row w _ _ KV _ (HB.out.mono (by simp))⟩
  rw [HKV.out]
  rw [HKV.out] at hsl'
  refine valR_iff.2 ⟨some ⟨b, 0, none⟩, c, none, 0, by unfold sB; rw [hlen]; rfl, by decide, by omega, by omega, ⟨by unfold sB; rw [hlen]; exact HC.out.1, HC.out.2, bytesV s.data.toList, by unfold sB; rw [hlen]; exact hsl', each_byte_mk _, fun _ b' off e => ?_⟩, Nat.le_refl _, Nat.zero_le _, SlOf.nil⟩
  have e := Option.some.inj e
  injection e with e1 e2
  omega

theorem refNum_any (n : Nat) (hn : n < 2 ^ 63) (w : World) : Calls Try.prog 43 #[.int .i64 (n : Int)] w fun e w' => (∃ cs : List Value, e = .returned (.agg cs.toArray) ∧ valR.R w' (fun b => b < w.heap.size) cs (numV n)) ∧ Below w.heap.size w w' := by
  obtain ⟨KV, hKV⟩ : ∃ KV, KV = cellsV 0 n none 0 0 0 none 0 0 := ⟨_, rfl⟩
  have HI := Lib.hid (hKV ▸ cellsV_info 0 n none 0 0 0 none 0 0)
  have HO := Lib.hid (hKV ▸ cellsV_one 0 n none 0 0 0 none 0 0)
  have hcw : IntKind.u64.wrap (n : Int) = (n : Int) := by rw [wrap_u64]; omega
  go_enter Try.func43, Try.ntmps43
  go_wp2_with (first | (refine wpList_store_row rfl _ _ _ rfl w.heap.size KV rfl (by rw [hKV]; rfl) 84 _ (heap_alloc_new w _) HI.out (by rw [hKV]; rfl) HO.out ?_) | fail)
  refine bodyPost_ret (results_cell_row rfl _ _ w.heap.size 84 KV (0, 0) _ rfl (setRow_heap _ w.heap.size _ _ _ _ (heap_alloc_new w _)) Try.underlying84 rfl HI.out) rfl ?_
  refine ⟨⟨KV.toList, by simp, ?_⟩, below_row w _ _ KV _ (Below.refl _ _)⟩
  rw [hKV]
  exact valR_iff.2 ⟨none, 0, none, 0, rfl, by decide, by omega, by omega, ⟨Nat.le_refl _, Nat.zero_le _, SlOf.nil⟩, Nat.le_refl _, Nat.zero_le _, SlOf.nil⟩

set_option maxRecDepth 100000 in
set_option maxHeartbeats 1000000 in
theorem refText_any (cs : List Value) (v : Val) (most : Nat) (w : World) (hv : valR.R w no cs v) (hm : most ≤ 1000000000) :
    Calls Try.prog 57 #[.agg cs.toArray, .int .i64 (most : Int)] w fun e w' => e = .returned (.int .i64 (okZ (textG v most))) ∧ Below w.heap.size w w' := by
  obtain ⟨KV, hKV, HK, -, -, -, -⟩ := keepNew w hv
  rw [← hKV]
  clear hKV hv
  obtain ⟨k, u, b, f, l⟩ := v
  obtain ⟨A, cA, L, cL, c0, c1, c2, c3, c4, hs, hb1, hb2, _⟩ := HK.out.cells
  have HB := Lib.hid ((Below.refl w.heap.size w).alloc (Nat.le_refl _) (.cells KV 84))
  obtain ⟨n, hn⟩ : ∃ n, n = b.length := ⟨_, rfl⟩
  rw [← hn] at c2 hs hb1
  simp only [maxLen] at hb2
  obtain ⟨R, hR⟩ : ∃ R, R = textG (.mk k u b f l) most := ⟨_, rfl⟩
  have HR := Lib.hid (show R = if k ≠ 1 then .error 91 else if most < n then .error 2 else .ok b by rw [hR, hn]; rfl)
  rw [← hR]
  clear hs hn hR HK
  go_enter Try.func57, Try.ntmps57
  go_upto_region 1 with fail
  generalize w.alloc (.cells KV 84) = w1 at *
  by_cases hk : k = 1
  · have e1 : (k != 1) = false := by simp [hk]
    by_cases hl : n ≤ most
    · have hI : ¬ (most : Int) < (n : Int) := by omega
      have HRR := Lib.hid (show okZ R = 0 by rw [HR.out, if_neg (by simp [hk]), if_neg (by omega)]; rfl)
      clear hk
      go_wp2_with fail
      go_ret
      exact ⟨by rw [HRR.out]; rfl, HB.out⟩
    · have hI : (most : Int) < (n : Int) := by omega
      have HRR := Lib.hid (show okZ R = 2 by rw [HR.out, if_neg (by simp [hk]), if_pos (by omega)]; rfl)
      clear hk
      go_wp2_with fail
      go_ret
      exact ⟨by rw [HRR.out]; rfl, HB.out⟩
  · have e1 : (k != 1) = true := by simp [hk]
    have HRR := Lib.hid (show okZ R = 91 by rw [HR.out, if_pos (by simpa using hk)]; rfl)
    clear hk
    go_wp2_with fail
    go_ret
    exact ⟨by rw [HRR.out]; rfl, HB.out⟩

theorem mk32 (w : World) : (Instr.makeSlice 32 (.int .i64 32) (.int .i64 32)).run Try.prog w = .ok (.slice (some ⟨w.heap.size, 0, none⟩) 32 32) (w.alloc (.cells (bytesV (List.replicate 32 0)).toArray 5)) := by
  have h := run_make_row' (P := Try.prog) 32 5 (.int .u8 0) 1 Try.underlying32 (by kernel_rfl) rfl .i64 .i64 32 (by omega) (by omega) w
  have e : madeCells #[.int .u8 0] 32 = (bytesV (List.replicate 32 0)).toArray := by kernel_rfl
  rw [e] at h
  exact h
/-- the first k of l, the rest noughts -/
def padZ (l : List UInt8) (k : Nat) : List UInt8 := l.take k ++ List.replicate (32 - k) 0
theorem padZ_length {l : List UInt8} (h : l.length = 32) {k : Nat} (hk : k ≤ 32) : (padZ l k).length = 32 := by simp [padZ, h]; omega
theorem padZ_zero (l : List UInt8) : padZ l 0 = List.replicate 32 0 := by simp [padZ]
theorem padZ_all {l : List UInt8} (h : l.length = 32) : padZ l 32 = l := by simp [padZ, List.take_of_length_le (Nat.le_of_eq h)]
theorem padZ_succ {l : List UInt8} (h : l.length = 32) {k : Nat} {x : UInt8} (hk : k < 32) (hx : l[k]? = some x) : (padZ l k).set k x = padZ l (k + 1) := by
  unfold padZ
  have hl : (l.take k).length = k := by simp; omega
  rw [List.take_add_one, hx, show 32 - k = (32 - (k + 1)) + 1 by omega, List.replicate_succ, List.set_append_right _ _ (by omega), hl]
  simp
theorem bytesV_set (l : List UInt8) (k : Nat) (x : UInt8) : (bytesV l).toArray.setIfInBounds k (.int .u8 (x.toNat : Int)) = (bytesV (l.set k x)).toArray := by
  simp [bytesV, List.map_set]

set_option maxRecDepth 100000 in
set_option maxHeartbeats 1000000 in
theorem refName_id (l : List UInt8) (w : World) (h32 : l.length = 32) : Calls Try.prog 51 #[.agg (bytesV l).toArray] w fun e w' => (∃ cs : List Value, e = .returned (.agg cs.toArray) ∧ valR.R w' (fun b => b < w.heap.size) cs (txtV l)) ∧ Below w.heap.size w w' := by
  obtain ⟨KX, hKX⟩ : ∃ KX, KX = (bytesV l).toArray := ⟨_, rfl⟩
  obtain ⟨KZ, hKZ⟩ : ∃ KZ, KZ = (bytesV (List.replicate 32 0)).toArray := ⟨_, rfl⟩
  obtain ⟨w3, hw3⟩ : ∃ w3, w3 = ((w.alloc (.cells KX 27)).alloc (.cells zVal 84)).alloc (.cells KZ 5) := ⟨_, rfl⟩
  have hmk := mk32
  have hs2 : ((w.alloc (.cells KX 27)).alloc (.cells zVal 84)).heap.size = w.heap.size + 2 := by simp
  have hB : Below w.heap.size w w3 := by rw [hw3]; exact (((Below.refl _ _).alloc (Nat.le_refl _) _).alloc (by simp) _).alloc (by simp; omega) _
  have HX := Lib.hid (show Blk w3 w.heap.size 27 (bytesV l).toArray by rw [hw3, hKX]; exact ((Blk.new w _ _).alloc _).alloc _)
  have HZ := Lib.hid (show Blk w3 (w.heap.size + 1) 84 zVal by
    have := (Blk.new (w.alloc (.cells KX 27)) 84 zVal).alloc (.cells KZ 5)
    rw [hw3]; simpa using this)
  have HO := Lib.hid (show Blk w3 (w.heap.size + 2) 5 (bytesV (padZ l 0)).toArray by
    have := Blk.new ((w.alloc (.cells KX 27)).alloc (.cells zVal 84)) 5 KZ
    rw [hw3, padZ_zero, ← hKZ]; simpa using this)
  have HB := Lib.hid hB
  have H32 := Lib.hid h32
  rw [← hKX]
  rw [← hKZ] at hmk
  clear hB h32 hs2 hKZ
  go_enter Try.func51, Try.ntmps51
  go_upto_region 2 with fail
  rw [← hKX]
  change Code.wp _ _ _ _ (((w.alloc (.cells KX 27)).alloc (.cells zVal 84)).alloc (.cells KZ 5))
  rw [← hw3]
  clear hw3 hmk hKX
  generalize hg : w.heap.size = g at *
  have HG := Lib.hid hg
  clear hg
  have hpos : ∀ k, k < 32 → (k : Int) < 32 := fun k hk => by omega
  go_wp2_with fail
  go_loopw [4] (fun s4 wr => ∃ k : Nat, k ≤ 32 ∧ s4 = .int .i64 (k : Int) ∧ Hid (Below g w wr) ∧ Hid (Blk wr g 27 (bytesV l).toArray) ∧ Hid (Blk wr (g + 1) 84 zVal) ∧ Hid (Blk wr (g + 2) 5 (bytesV (padZ l k)).toArray)) (fun s4 wr => 32 - (intOf s4).toNat)
  case atStart => exact ⟨0, by omega, rfl, HB, HX, HZ, HO⟩
  case round =>
    obtain ⟨k, hk, rfl, HB2, HX2, HZ2, HO2⟩ := hrel
    clear HB HX HZ HO hpos
    by_cases hlt : k < 32
    · have hltI : (k : Int) < 32 := by omega
      obtain ⟨x, hx⟩ : ∃ x, l[k]? = some x := ⟨l[k]'(by rw [H32.out]; exact hlt), List.getElem?_eq_getElem _⟩
      have hcx : wr.cell? ⟨g, k, none⟩ = some (.int .u8 (x.toNat : Int)) := by rw [HX2.out.cell k]; simp [bytesV, hx]
      have hco : ∃ y : UInt8, wr.cell? ⟨g + 2, k, none⟩ = some (.int .u8 (y.toNat : Int)) := by
        have hl := padZ_length H32.out hk
        exact ⟨(padZ l k)[k]'(by omega), by rw [HO2.out.cell k]; simp [bytesV, hl, hlt]⟩
      obtain ⟨y, hco⟩ := hco
      have hfz := HO2.out.frozen k
      have hle := HO2.out.lt
      have HB3 := Lib.hid (HB2.out.setCell (p := ⟨g + 2, k, none⟩) (by show g ≤ g + 2; omega) (.int .u8 (x.toNat : Int)))
      have HX3 := Lib.hid (HX2.out.other (g' := g + 2) (by omega) k (.int .u8 (x.toNat : Int)))
      have HZ3 := Lib.hid (HZ2.out.other (g' := g + 2) (by omega) k (.int .u8 (x.toNat : Int)))
      have HO3 := Lib.hid (by have := HO2.out.set_ k (.int .u8 (x.toNat : Int)); rwa [bytesV_set, padZ_succ H32.out hlt hx] at this : Blk (wr.setCell ⟨g + 2, k, none⟩ (.int .u8 (x.toNat : Int))) (g + 2) 5 (bytesV (padZ l (k + 1))).toArray)
      clear HB2 HX2 HZ2 HO2 hx
      go_wp2_with fail
      go_roundw
      case rel => exact ⟨k + 1, by omega, by go_num, HB3, HX3, HZ3, HO3⟩
      case measure => simp [intOf]; omega
    · have hltI : ¬ (k : Int) < 32 := by omega
      obtain rfl : k = 32 := by omega
      obtain ⟨KV, hKV⟩ : ∃ KV, KV = cellsV 1 0 (some ⟨g + 2, 0, none⟩) 32 32 0 none 0 0 := ⟨_, rfl⟩
      have HI := Lib.hid (show (Try.prog.info? 84).map (·.size) = some KV.size by rw [hKV]; exact cellsV_info _ _ _ _ _ _ _ _ _)
      have HON := Lib.hid (show KV.all (·.oneCell') = true by rw [hKV]; exact cellsV_one _ _ _ _ _ _ _ _ _)
      have HKV := Lib.hid hKV
      clear hKV
      go_wp2_with (first | (refine wpList_store_row rfl _ _ _ rfl (g + 1) KV rfl (by rw [HKV.out]; rfl) 84 _ HZ2.out HI.out (by rw [HKV.out]; rfl) HON.out ?_) | fail)
      refine bodyPost_ret (results_cell_row rfl _ _ (g + 1) 84 KV (0, 0) _ rfl (setRow_heap _ (g + 1) _ _ _ _ HZ2.out) Try.underlying84 rfl HI.out) rfl ?_
      rw [HG.out]
      refine ⟨⟨KV.toList, by simp, ?_⟩, below_setRow HB2.out (Nat.le_succ _) KV⟩
      have hgt := HO2.out.lt
      have hsl : Sl (wr.setRow (g + 1) KV) 1 (some ⟨g + 2, 0, none⟩) 32 (bytesV l) := by
        refine ⟨by rw [bytesV_length, H32.out], fun _ => ⟨g + 2, 0, rfl, by simpa using hgt, fun j u hu => ?_⟩⟩
        rw [cell_setRow_other wr (g + 1) KV ⟨g + 2, 0 + j, none⟩ (by show g + 2 ≠ g + 1; omega), Nat.zero_add, HO2.out.cell j, padZ_all H32.out]
        simpa using hu
      rw [HKV.out] at hsl ⊢
      refine valR_iff.2 ⟨some ⟨g + 2, 0, none⟩, 32, none, 0, by rw [H32.out]; rfl, by decide, by omega, by omega, ⟨by rw [H32.out]; exact Nat.le_refl _, by simp [maxLen], bytesV l, by rw [H32.out]; exact hsl, each_byte_mk _, fun _ b' off e => ?_⟩, Nat.le_refl _, Nat.zero_le _, SlOf.nil⟩
      have e := Option.some.inj e
      injection e with e1 e2
      show ¬ b' < g
      omega
end Go.Proofs.Ytpafhajpnepecaa

/- towlineref09.seal, .open, .Kind. -/
set_option linter.unusedVariables false
set_option linter.unusedSimpArgs false
namespace Go.Proofs.Ytpafhajpnepecaa
open Go.RowKit

theorem RefEnc.lower {w w2 w' : World} {r : Res (List UInt8)} {e : Ending} (h : RefEnc w2 r e w') (hb : Below w.heap.size w w2) : RefEnc w r e w' := ⟨hb.trans (h.1.mono hb.size), h.2⟩
theorem RefEnc.use {w w' : World} {E : Res (List UInt8)} {e : Ending} (h : RefEnc w E e w') : e = .returned (.tuple #[.string (strL (okB E)), .int .i64 (okZ E)]) ∧ Below w.heap.size w w' := by
  obtain ⟨hb, h⟩ := h
  cases E with
  | error z => exact ⟨h, hb⟩
  | ok o => exact ⟨h, hb⟩
theorem RefEnc.of {w w' : World} {E : Res (List UInt8)} {e : Ending} (h : e = .returned (.tuple #[.string (strL (okB E)), .int .i64 (okZ E)])) (hb : Below w.heap.size w w') : RefEnc w E e w' := by
  refine ⟨hb, ?_⟩
  cases E with
  | error z => exact h
  | ok o => exact h

set_option maxRecDepth 100000 in
set_option maxHeartbeats 2000000 in
theorem refSeal_any (kind : Nat) (L : Option Addr) (m c : Nat) (vs : List Val) (w : World) (hk : kind ≤ 4) (hs : SlOf valR w no L vs) (hm : m = vs.length) (hml : m ≤ 5) (hbk : bulkVs vs ≤ 1000000) :
    Calls Try.prog 41 #[.int .i64 (kind : Int), .slice L m c] w (RefEnc w (sealG kind vs)) := by
  obtain ⟨R, hR⟩ : ∃ R, R = sealG kind vs := ⟨_, rfl⟩
  have HR := Lib.hid (show R = enc (.mk 3 0 [] 0 (numV kind :: vs)) from hR)
  rw [← hR]
  have HNUM := Lib.hid (refNum_any kind (by omega) w)
  have HS := Lib.hid hs
  have HM := Lib.hid hm
  have HBK := Lib.hid hbk
  clear hR hs hm hbk hk
  go_enter Try.func41, Try.ntmps41
  go_wp2_with fail
  refine HNUM.out.mono ?_
  rintro e w2 ⟨⟨cs, rfl, hv⟩, hb2⟩
  have hk5 : cs.length = 5 := valR.len hv
  obtain ⟨K, hK⟩ : ∃ K, K = cs.toArray := ⟨_, rfl⟩
  have hKs : K.size = 5 := by rw [hK]; simpa using hk5
  have hbs := fun w => bsVal_of w K hKs
  have hv : valR.R w2 no K.toList (numV kind) := by rw [hK]; exact valR.stable hv (Moves.forget _ _)
  obtain ⟨A3, c3, w3, run3, hsl3, hb3, hc3, hcm3⟩ := seal_row hv (Nat.le_refl _) (HS.out.below hb2) HM.out (by omega) c
  have HB3 := Lib.hid (hb2.trans (hb3.mono hb2.size))
  have HENC := Lib.hid (refEncode_any (cs := (cellsV 3 0 none 0 0 0 A3 (1 + m) c3).toList) (.mk 3 0 [] 0 (numV kind :: vs)) w3 (valR_iff.2 ⟨none, 0, A3, c3, by rw [List.length_cons, ← HM.out, Nat.add_comm]; rfl, by decide, by omega, by omega, ⟨Nat.le_refl _, Nat.zero_le _, SlOf.nil⟩, by rw [List.length_cons, ← HM.out, Nat.add_comm]; exact hc3, hcm3, hsl3⟩) (by simp only [bulkV, bulkVs, numV, List.length_nil]; have := HBK.out; omega))
  rw [← hK]
  clear hK hk5 hv hsl3 hb3 hc3 hcm3 hb2 HNUM HS hKs
  go_wp2_with (first
    | (refine wpList_build1 rfl (.tmp 8) rfl (.agg K) _ rfl (hbs _) ?_)
    | (at_builtin; refine wpList_run_append run3 ?_ ?_ ?_; exact rfl; exact rfl)
    | fail)
  refine HENC.out.mono ?_
  intro e w5 hp
  have hp := hp.lower HB3.out
  rw [← HR.out] at hp
  obtain ⟨rfl, hb5⟩ := hp.use
  have HB5 := Lib.hid hb5
  clear hp hb5 HENC run3 hbs
  go_wp2_with fail
  go_ret2
  exact RefEnc.of rfl HB5.out

def RLst (w : World) (r : Res (List Val)) (e : Ending) (w' : World) : Prop :=
  Below w.heap.size w w' ∧ match r with
    | .ok l => ∃ L c, e = .returned (.tuple #[.slice L l.length c, .int .i64 0]) ∧ l.length ≤ c ∧ c ≤ maxLen ∧ SlOf valR w' (fun b => b < w.heap.size) L l
    | .error z => e = .returned (.tuple #[.slice none 0 0, .int .i64 z])

set_option maxRecDepth 100000 in
set_option maxHeartbeats 4000000 in
theorem refOpen_any (s : ByteArray) (kind count : Nat) (w : World) (hk : kind ≤ 4) (hct : 1 ≤ count) (hct5 : count ≤ 5) :
    Calls Try.prog 56 #[.string s, .int .i64 (kind : Int), .int .i64 (count : Int)] w (RLst w (openG (sB s) kind count)) := by
  have HD := Lib.hid (refDecode_any s w)
  obtain ⟨R, hR⟩ : ∃ R, R = openG (sB s) kind count := ⟨_, rfl⟩
  obtain ⟨D, hD⟩ : ∃ D, D = dec s.data.toList := ⟨_, rfl⟩
  have HR := Lib.hid (show R = bindR D (fun v => openV v kind count) by rw [hR, hD]; rfl)
  have HDL := Lib.hid hD
  rw [← hD] at HD
  rw [← hR]
  have hkw : IntKind.u64.wrap (kind : Int) = (kind : Int) := by rw [wrap_u64]; omega
  have hc1w : IntKind.i64.wrap ((count : Int) + 1) = (count : Int) + 1 := IntWalk.i64_in _ (by omega)
  clear hR hD
  go_enter Try.func56, Try.ntmps56
  go_wp2_with fail
  refine HD.out.mono ?_
  rintro e w2 ⟨hb2, hp⟩
  obtain ⟨cs, rfl, hv⟩ : ∃ cs : List Value, e = .returned (.tuple #[.agg cs.toArray, .int .i64 (okZ D)]) ∧ valR.R w2 (fun b => b < w.heap.size) cs (okV D) := by
    cases D with
    | error z => exact ⟨zV.toList, hp, valR_flat w2 _ (k := 0) 0 0 (by decide) (by decide) (by decide)⟩
    | ok v => exact hp
  obtain ⟨KV, hKV, HK, HKV, HI, HO, HS5, HN⟩ := keepNewA w2 hv
  rw [← hKV]
  have HB := Lib.hid (hb2.trans (((Below.refl w2.heap.size w2).alloc (Nat.le_refl _) (.cells KV 84)).mono hb2.size))
  clear hKV hv hb2 hp HD
  go_upto_region 2 with (first | (refine wpList_store_row rfl _ _ _ rfl w2.heap.size KV rfl rfl 84 _ HN.out HI.out HS5.out HO.out ?_) | fail)
  rw [World.setRow_alloc_new]
  clear HN HS5 HO
  generalize w2.alloc (.cells KV 84) = w3 at *
  generalize w2.heap.size = gv at *
  cases D with
  | error z =>
    have hz := dec_err_ne HDL.out.symm
    have hzb : (z != 0) = true := by simp [hz]
    have HRR := Lib.hid (show R = .error z from HR.out)
    have hz2 : okZ (.error z : Res Val) = z := rfl
    rw [hz2]
    clear hz hz2 HDL HR
    go_wp2_with fail
    go_ret2
    exact ⟨HB.out, by rw [HRR.out]; rfl⟩
  | ok v =>
    have hz2 : okZ (.ok v : Res Val) = 0 := rfl
    rw [hz2]
    have HKV2 : Hid (valR.R w3 (fun b => b < w.heap.size) KV.toList v) := HKV
    clear HKV
    have HRR := Lib.hid (show R = openV v kind count from HR.out)
    clear hz2 HR HDL
    obtain ⟨k, u, b, f, l'⟩ := v
    obtain ⟨A', cA, L, cL, c0, c1, c2, c3, c4, _, _, _, hsl, hl1, hl2⟩ := blk_cells HK.out HKV2.out
    have HR := HRR
    have HSL := Lib.hid hsl
    have HL2 := Lib.hid hl2
    simp only [maxLen] at hl2
    obtain ⟨m, hm⟩ : ∃ m, m = l'.length := ⟨_, rfl⟩
    have HM := Lib.hid hm
    rw [← hm] at c4 hl1
    clear HRR hsl hm
    by_cases hk3 : k = 3
    · have e1 : (k != 3) = false := by simp [hk3]
      by_cases hmc : m = count + 1
      · have e2 : ((m : Int) != (count : Int) + 1) = false := by simp; omega
        cases l' with
        | nil => exfalso; have := HM.out; simp at this; omega
        | cons h t =>
          obtain ⟨bL, oL, rfl, hbL, d0, d1⟩ := head_cells HSL.out
          have hlt := HM.out
          have HR2 := Lib.hid (show R = if h.kind ≠ 0 then .error 91 else if h.num ≠ kind then .error 90 else .ok t by rw [HR.out]; unfold openV; rw [if_neg (by simp [Val.kind, Val.list, hk3]; simp at hlt; omega)]; rfl)
          have HT := Lib.hid (show t.length = count by simp at hlt; omega)
          have hm0 : (0 : Int) < (m : Int) := by omega
          have hm1 : (1 : Int) ≤ (m : Int) := by omega
          have hcc : (m : Int) ≤ (cL : Int) := by omega
          have hc1 : ¬ cL = 1 := by omega
          have hm0' : 0 < m := by omega
          have HMC := Lib.hid hmc
          clear hk3 hmc hlt HR
          by_cases h0 : h.kind = 0
          · have e3 : (h.kind != 0) = false := by simp [h0]
            by_cases hn : h.num = kind
            · have e4 : ((h.num : Int) != (kind : Int)) = false := by simp [hn]
              have HRR := Lib.hid (show R = .ok t by rw [HR2.out, if_neg (by simp [h0]), if_neg (by simp [hn])])
              clear h0 hn HR2
              go_wp2_with fail
              go_ret2
              refine ⟨HB.out, ?_⟩
              rw [HRR.out]
              have hfr := HSL.out.from (k := 1) (c := cL) HM.out.symm (by have := HMC.out; omega) (by omega)
              rw [if_neg hc1] at hfr
              refine ⟨some ⟨bL, oL + 5, none⟩, cL - 1, ?_, by rw [HT.out]; have := HMC.out; omega, by have := HL2.out; omega, hfr⟩
              have hmm : m - 1 = t.length := by rw [HT.out]; have := HMC.out; omega
              rw [← hmm]; rfl
            · have e4 : ((h.num : Int) != (kind : Int)) = true := by simp; omega
              have HRR := Lib.hid (show R = .error 90 by rw [HR2.out, if_neg (by simp [h0]), if_pos hn])
              clear h0 hn HR2
              go_wp2_with fail
              go_ret2
              exact ⟨HB.out, by rw [HRR.out]; rfl⟩
          · have e3 : (h.kind != 0) = true := by simp [h0]
            have HRR := Lib.hid (show R = .error 91 by rw [HR2.out, if_pos h0])
            clear h0 HR2
            go_wp2_with fail
            go_ret2
            exact ⟨HB.out, by rw [HRR.out]; rfl⟩
      · have e2 : ((m : Int) != (count : Int) + 1) = true := by simp; omega
        have HRR := Lib.hid (show R = .error 91 by rw [HR.out]; unfold openV; rw [if_pos (.inr (by show l'.length ≠ _; rw [← HM.out]; exact hmc))])
        clear hk3 hmc
        go_wp2_with fail
        go_ret2
        exact ⟨HB.out, by rw [HRR.out]; rfl⟩
    · have e1 : (k != 3) = true := by simp [hk3]
      have HRR := Lib.hid (show R = .error 91 by rw [HR.out]; unfold openV; rw [if_pos (.inl hk3)])
      clear hk3
      go_wp2_with fail
      go_ret2
      exact ⟨HB.out, by rw [HRR.out]; rfl⟩
end Go.Proofs.Ytpafhajpnepecaa

/- towlineref09.Kind. -/
set_option linter.unusedVariables false
set_option linter.unusedSimpArgs false
namespace Go.Proofs.Ytpafhajpnepecaa
open Go.RowKit

set_option maxRecDepth 100000 in
set_option maxHeartbeats 4000000 in
theorem refKind_any (s : ByteArray) (w : World) :
    Calls Try.prog 27 #[.string s] w (KindPost w (kindG (sB s))) := by
  have HD := Lib.hid (refDecode_any s w)
  obtain ⟨R, hR⟩ : ∃ R, R = kindG (sB s) := ⟨_, rfl⟩
  obtain ⟨D, hD⟩ : ∃ D, D = dec s.data.toList := ⟨_, rfl⟩
  have HR := Lib.hid (show R = bindR D kindV by rw [hR, hD]; rfl)
  have HDL := Lib.hid hD
  rw [← hD] at HD
  rw [← hR]
  clear hR hD
  go_enter Try.func27, Try.ntmps27
  go_wp2_with fail
  refine HD.out.mono ?_
  rintro e w2 ⟨hb2, hp⟩
  obtain ⟨cs, rfl, hv⟩ : ∃ cs : List Value, e = .returned (.tuple #[.agg cs.toArray, .int .i64 (okZ D)]) ∧ valR.R w2 (fun b => b < w.heap.size) cs (okV D) := by
    cases D with
    | error z => exact ⟨zV.toList, hp, valR_flat w2 _ (k := 0) 0 0 (by decide) (by decide) (by decide)⟩
    | ok v => exact hp
  obtain ⟨KV, hKV, HK, HKV, HI, HO, HS5, HN⟩ := keepNewA w2 hv
  rw [← hKV]
  have HB := Lib.hid (hb2.trans (((Below.refl w2.heap.size w2).alloc (Nat.le_refl _) (.cells KV 84)).mono hb2.size))
  clear hKV hv hb2 hp HD
  go_upto_region 2 with (first | (refine wpList_store_row rfl _ _ _ rfl w2.heap.size KV rfl rfl 84 _ HN.out HI.out HS5.out HO.out ?_) | fail)
  rw [World.setRow_alloc_new]
  clear HN HS5 HO
  generalize w2.alloc (.cells KV 84) = w3 at *
  generalize w2.heap.size = gv at *
  cases D with
  | error z =>
    have hz := dec_err_ne HDL.out.symm
    have hzb : (z != 0) = true := by simp [hz]
    have HRR := Lib.hid (show R = .error z from HR.out)
    have HZ := Lib.hid hz
    have hz2 : okZ (.error z : Res Val) = z := rfl
    rw [hz2]
    clear hz hz2 HDL HR
    go_wp2_with fail
    go_ret2
    exact ⟨HB.out, by rw [HRR.out]; exact ⟨rfl, HZ.out⟩⟩
  | ok v =>
    have hz2 : okZ (.ok v : Res Val) = 0 := rfl
    rw [hz2]
    have HKV2 : Hid (valR.R w3 (fun b => b < w.heap.size) KV.toList v) := HKV
    clear HKV
    have HRR := Lib.hid (show R = kindV v from HR.out)
    clear hz2 HR HDL
    obtain ⟨k, u, b, f, l'⟩ := v
    obtain ⟨A', cA, L, cL, c0, c1, c2, c3, c4, _, _, _, hsl, hl1, hl2⟩ := blk_cells HK.out HKV2.out
    have HSL := Lib.hid hsl
    simp only [maxLen] at hl2
    obtain ⟨m, hm⟩ : ∃ m, m = l'.length := ⟨_, rfl⟩
    have HM := Lib.hid hm
    rw [← hm] at c4 hl1
    clear hsl hm
    by_cases hk3 : k = 3
    · have e1 : (k != 3) = false := by simp [hk3]
      cases l' with
      | nil =>
        have hm0 : m = 0 := HM.out
        have e2 : ((m : Int) == 0) = true := by simp [hm0]
        have HR2 := Lib.hid (show R = .error 91 by rw [HRR.out]; unfold kindV; rw [if_neg (by simp [Val.kind, hk3])]; rfl)
        clear hk3 hm0
        go_wp2_with fail
        go_ret2
        exact ⟨HB.out, by rw [HR2.out]; exact ⟨rfl, by decide⟩⟩
      | cons h t =>
        obtain ⟨bL, oL, rfl, hbL, d0, d1⟩ := head_cells HSL.out
        have hmp : 0 < m := by have := HM.out; simp at this; omega
        have hmI : (0 : Int) < (m : Int) := by omega
        have e2 : ((m : Int) == 0) = false := by simp; omega
        have HR2 := Lib.hid (show R = if h.kind ≠ 0 then .error 91 else if 1 ≤ h.num ∧ h.num ≤ 4 then .ok h.num else .error 90 by rw [HRR.out]; unfold kindV; rw [if_neg (by simp [Val.kind, hk3])]; rfl)
        obtain ⟨kh, hkh⟩ : ∃ kh, kh = h.kind := ⟨_, rfl⟩
        obtain ⟨nh, hnh⟩ : ∃ nh, nh = h.num := ⟨_, rfl⟩
        rw [← hkh] at d0 HR2
        rw [← hnh] at d1 HR2
        clear hk3 hkh hnh HM HSL HRR
        by_cases h0 : kh = 0
        · have e3 : (kh != 0) = false := by simp [h0]
          by_cases h1 : 1 ≤ nh
          · have h1I : decide ((nh : Int) < 1) = false := by simp; omega
            by_cases h4 : nh ≤ 4
            · have h4I : decide ((4 : Int) < (nh : Int)) = false := by simp; omega
              have hw : IntKind.i64.wrap (nh : Int) = (nh : Int) := IntWalk.i64_in _ (by omega)
              have HR3 := Lib.hid (show R = .ok nh by rw [HR2.out, if_neg (by simp [h0]), if_pos ⟨h1, h4⟩])
              have HC := Lib.hid (And.intro h1 h4)
              clear h0 h1 h4 HR2
              go_wp2_with fail
              go_ret2
              exact ⟨HB.out, by rw [HR3.out]; exact ⟨rfl, HC.out⟩⟩
            · have h4I : decide ((4 : Int) < (nh : Int)) = true := by simp; omega
              have HR3 := Lib.hid (show R = .error 90 by rw [HR2.out, if_neg (by simp [h0]), if_neg (by omega)])
              clear h0 h1 h4 HR2
              go_wp2_with fail
              go_ret2
              exact ⟨HB.out, by rw [HR3.out]; exact ⟨rfl, by decide⟩⟩
          · have h1I : decide ((nh : Int) < 1) = true := by simp; omega
            have HR3 := Lib.hid (show R = .error 90 by rw [HR2.out, if_neg (by simp [h0]), if_neg (by omega)])
            clear h0 h1 HR2
            go_wp2_with fail
            go_ret2
            exact ⟨HB.out, by rw [HR3.out]; exact ⟨rfl, by decide⟩⟩
        · have e3 : (kh != 0) = true := by simp [h0]
          have HR3 := Lib.hid (show R = .error 91 by rw [HR2.out, if_pos h0])
          clear h0 HR2
          go_wp2_with fail
          go_ret2
          exact ⟨HB.out, by rw [HR3.out]; exact ⟨rfl, by decide⟩⟩
    · have e1 : (k != 3) = true := by simp [hk3]
      have HR2 := Lib.hid (show R = .error 91 by rw [HRR.out]; unfold kindV; rw [if_pos (show (Val.mk k u b f l').kind ≠ 3 from hk3)])
      clear hk3 HRR
      go_wp2_with fail
      go_ret2
      exact ⟨HB.out, by rw [HR2.out]; exact ⟨rfl, by decide⟩⟩
end Go.Proofs.Ytpafhajpnepecaa

/- '[]byte(s)' behind a name; two results, the first out of a row. -/
set_option linter.unusedVariables false
namespace Go.Proofs.Ytpafhajpnepecaa
open Go.RowKit

abbrev zID : Array Value := (bytesV (List.replicate 32 0)).toArray
theorem zeros_built : Try.prog.built 27 [] = some (bytesV (List.replicate 32 0)).toArray := by kernel_rfl
theorem id_size {l : List UInt8} (h : l.length = 32) : (Try.prog.info? 27).map (·.size) = some (bytesV l).toArray.size := by
  have h2 : (Try.prog.info? 27).map (·.size) = some 32 := by kernel_rfl
  have h3 : (bytesV l).toArray.size = 32 := by simp [bytesV, h]
  rw [h3]; exact h2
theorem id_one (l : List UInt8) : (bytesV l).toArray.all (·.oneCell') = true := by
  rw [Array.all_eq_true']
  intro v hv
  exact bytesV_one l v (by simpa using hv)

/-- '[]byte(s)' behind a name -/
noncomputable def stb (w : World) (s : ByteArray) : Result Value := (convert 9 32 (.string s)).run Try.prog w
theorem stb_eq (w : World) (s : ByteArray) : (convert 9 32 (.string s)).run Try.prog w = stb w s := rfl
theorem stb_of (W : World) (b : List UInt8) : ∃ c w1, stb W ⟨b.toArray⟩ = .ok (.slice (some ⟨W.heap.size, 0, none⟩) b.length c) w1 ∧ Sl w1 1 (some ⟨W.heap.size, 0, none⟩) b.length (bytesV b) ∧ Below W.heap.size W w1 ∧ W.heap.size < w1.heap.size := by
  have hrun := run_bytes_of_string (P := Try.prog) W 9 32 5 ⟨b.toArray⟩ Try.underlying9 Try.underlying32 Try.underlying5
  refine ⟨_, _, hrun, ⟨by simp [bytesV], fun _ => ⟨W.heap.size, 0, rfl, by simp, fun j u hu => ?_⟩⟩, (Below.refl _ W).drew.alloc (Nat.le_refl _) _, by simp⟩
  rw [Nat.zero_add, cell_of_row _ W.heap.size j _ 5 _ (heap_alloc_new W.drew _)]
  have hj := (List.getElem?_eq_some_iff.1 hu).1
  unfold bytesRow
  rw [Array.getElem?_append_left (by simpa [bytesV] using hj), ← hu]
  simp [bytesV]
/-- the two results, the first out of a row -/
theorem results_row_tmp {P : Program} {fn : Func} {p u : Tmp} {ty : TypeId} (h : fn.results = #[.cell p ty, .tmp u]) (tmps : Array Value) (w : World) (g : Nat) (t : TypeId) (cs : Array Value) (fr : Nat × Nat) (d : TypeDesc)
    (hp : tmps.getD p undef = .pointer (some ⟨g, 0, none⟩)) (hg : w.heap[g]? = some (.cells cs t fr))
    (hu : P.underlying ty = some d) (hd : (match d with | .struct _ | .array _ _ => true | _ => false) = true) (hi : (P.info? ty).map (·.size) = some cs.size) :
    (results fn tmps).run P w = .ok (.tuple #[.agg cs, tmps.getD u undef]) w := by
  rw [results_cell_tmp h]
  have hp' : tmps[p]?.getD undef = .pointer (some ⟨g, 0, none⟩) := by simpa using hp
  simp [hp', asAddr, run_loadVar_row w g t ty cs fr d hg hu hd hi, Result.andThen]
end Go.Proofs.Ytpafhajpnepecaa

/- towlineref09.id. -/
set_option linter.unusedVariables false
set_option linter.unusedSimpArgs false
namespace Go.Proofs.Ytpafhajpnepecaa
open Go.RowKit

def okI : Res (List UInt8) → List UInt8
  | .ok b => b
  | .error _ => List.replicate 32 0
theorem wpList_build0 {P : Program} {ops : Array Oper} {rest : List Oper} {o : Oper} {a : Act} {w : World} {Q : Exit → Act → World → Prop} (hg : o.guard = none) (t : TypeId) (ho : o.op = .build t #[]) (K : Array Value) (hb : P.built t [] = some K)
    (h : wpList P ops Q rest (a.put o.dst (.agg K)) w) : wpList P ops Q (o :: rest) a w :=
  wpList_build hg t #[] ho (by simp [hb]) (by simpa [hb] using h)
theorem id0_built : Try.prog.built 27 [] = some zID := by kernel_rfl

set_option maxRecDepth 100000 in
set_option maxHeartbeats 1000000 in
theorem refId_any (cs : List Value) (v : Val) (w : World) (hv : valR.R w no cs v) :
    Calls Try.prog 67 #[.agg cs.toArray] w fun e w' => e = .returned (.tuple #[.agg (bytesV (okI (idG v))).toArray, .int .i64 (okZ (idG v))]) ∧ Below w.heap.size w w' := by
  obtain ⟨KV, hKV, HK, -, -, -, -⟩ := keepNew w hv
  obtain ⟨k, u, b, f, l⟩ := v
  obtain ⟨A, cA, L, cL, hcs, _, _, _, ⟨hb1, hb2, hsl⟩, _⟩ := valR_iff.1 hv
  have HSW := Lib.hid hsl.bytes
  have HC0 := Lib.hid (show KV[0]? = some (.int .i64 k) by rw [hKV, hcs]; rfl)
  have HC2 := Lib.hid (show KV[2]? = some (.slice A b.length cA) by rw [hKV, hcs]; rfl)
  rw [← hKV]
  clear hKV hv hcs hsl
  obtain ⟨R, hR⟩ : ∃ R, R = idG (.mk k u b f l) := ⟨_, rfl⟩
  have HR0 := Lib.hid hR
  rw [← hR]
  clear hR
  have hba : Below w.heap.size w ((w.alloc (.cells KV 84)).alloc (.cells zID 27)) := ((Below.refl _ _).alloc (Nat.le_refl _) _).alloc (by simp) _
  have HK2 := Lib.hid (HK.out.below ((Below.refl _ _).alloc (Nat.le_refl _) (.cells zID 27)))
  have HR2 := Lib.hid (show Blk ((w.alloc (.cells KV 84)).alloc (.cells zID 27)) (w.heap.size + 1) 27 zID by
    have := Blk.new (w.alloc (.cells KV 84)) 27 zID; simpa using this)
  have HB2 := Lib.hid hba
  have HSZ := Lib.hid (show ((w.alloc (.cells KV 84)).alloc (.cells zID 27)).heap.size = w.heap.size + 2 by simp)
  clear hba HK
  obtain ⟨KZ, hKZ⟩ : ∃ KZ, KZ = zID := ⟨_, rfl⟩
  have HB0 := Lib.hid id0_built
  rw [← hKZ] at HB0
  have HI := Lib.hid (show (Try.prog.info? 27).map (·.size) = some KZ.size by rw [hKZ]; exact oid_size (by simp))
  have HO := Lib.hid (show KZ.all (·.oneCell') = true by rw [hKZ]; exact oid_one _)
  have HZS := Lib.hid (show zID.size = KZ.size by rw [hKZ])
  have HKZ := Lib.hid hKZ
  clear hKZ
  go_enter Try.func67, Try.ntmps67
  go_upto_region 1 with fail
  change Code.wp _ _ _ _ ((w.alloc (.cells KV 84)).alloc (.cells zID 27))
  generalize (w.alloc (.cells KV 84)).alloc (.cells zID 27) = w2 at *
  have HBN := Lib.hid (Blk.new w2 27 zID)
  go_upto_region 2 with (first | (refine wpList_build0 rfl 27 rfl KZ HB0.out ?_) | (refine wpList_store_row rfl _ _ _ rfl w2.heap.size KZ rfl rfl 27 _ HBN.out HI.out HZS.out HO.out ?_) | fail)
  rw [World.setRow_alloc_new]
  have hbz : Below w2.heap.size w2 (w2.alloc (.cells KZ 27)) := (Below.refl _ _).alloc (Nat.le_refl _) _
  have hg3 : w2.heap.size = w.heap.size + 2 := HSZ.out
  have HK3 := Lib.hid (HK2.out.below hbz)
  have HR3 := Lib.hid (HR2.out.alloc (.cells KZ 27))
  have HO3 := Lib.hid (show Blk (w2.alloc (.cells KZ 27)) (w.heap.size + 2) 27 (bytesV (padZ b 0)).toArray by
    have := Blk.new w2 27 KZ
    rw [hg3] at this; rw [padZ_zero]; rw [HKZ.out] at this ⊢; exact this)
  have HB3 := Lib.hid (HB2.out.trans (hbz.mono (by omega)))
  have HZE := Lib.hid (show ∀ w', Blk w' (w.heap.size + 2) 27 (bytesV (padZ b 0)).toArray → True from fun _ _ => trivial)
  rw [hg3]
  clear hbz hg3 HSZ HK2 HR2 HB2 HBN HB0 HZE
  generalize w2.alloc (.cells KZ 27) = w3 at *
  generalize hg : w.heap.size = g at *
  have HG := Lib.hid hg
  clear hg
  have c0 := (HK3.out.blk.cell 0).trans HC0.out
  have c2 := (HK3.out.blk.cell 2).trans HC2.out
  have hc2 := HC2.out
  have hsw := HSW.out
  obtain ⟨n, hn⟩ : ∃ n, n = b.length := ⟨_, rfl⟩
  rw [← hn] at c2 hb1 hc2 hsw
  have HS := Lib.hid hsw
  have HC := Lib.hid hc2
  clear HC0 HC2 HSW hc2 hsw
  have HN := Lib.hid hn
  simp only [maxLen] at hb2
  have HR := Lib.hid (show R = if k ≠ 1 ∨ n ≠ 32 then .error 91 else .ok b by rw [HR0.out, hn]; rfl)
  clear hn HR0
  have HZ0 := Lib.hid (show (bytesV (padZ b 0)).toArray = KZ by rw [padZ_zero, HKZ.out])
  have bad : R = .error 91 → ∀ K : Array Value, K = KZ → (Ending.returned (.tuple #[.agg K, .int .i64 91]) = .returned (.tuple #[.agg (bytesV (okI R)).toArray, .int .i64 (okZ R)])) := by
    rintro rfl K rfl
    rw [HKZ.out]; rfl
  have HBAD := Lib.hid bad
  clear bad
  by_cases hk : k = 1
  · have e1 : (k != 1) = false := by simp [hk]
    by_cases hl : n = 32
    · subst hl
      have e2 : ((32 : Int) != 32) = false := by decide
      have HRR := Lib.hid (show R = .ok b by rw [HR.out, if_neg (by simp [hk])])
      clear hk HBAD HZ0 HR
      have HKB := Lib.hid HK3.out.blk
      have HB32 := Lib.hid HN.out.symm
      clear HN HK3
      go_wp2_with fail
      go_loopw [5] (fun s5 wr => ∃ q : Nat, q ≤ 32 ∧ s5 = .int .i64 (q : Int) ∧ Hid (Below g w wr) ∧ Hid (Blk wr g 84 KV) ∧ Hid (Blk wr (g + 1) 27 zID) ∧ Hid (Blk wr (g + 2) 27 (bytesV (padZ b q)).toArray)) (fun s5 wr => 32 - (intOf s5).toNat)
      case atStart => exact ⟨0, by omega, rfl, HB3, HKB, HR3, HO3⟩
      case round =>
        obtain ⟨q, hq, rfl, HB4, HK4, HR4, HO4⟩ := hrel
        clear HB3 HKB HR3 HO3 c0 c2
        by_cases hlt : q < 32
        · have hltI : (q : Int) < 32 := by omega
          obtain ⟨bb, oo, xv, hA, hbb, hx, hcx⟩ := Sl.look (HS.out.below (by rw [HG.out]; exact HB4.out)) hlt
          obtain ⟨x, hxx⟩ : ∃ x, b[q]? = some x := ⟨b[q]'(by rw [HB32.out]; exact hlt), List.getElem?_eq_getElem _⟩
          obtain rfl : xv = .int .u8 (x.toNat : Int) := by simp [bytesV, hxx] at hx; exact hx.symm
          have c2 := (HK4.out.cell 2).trans HC.out
          have hco : ∃ y : UInt8, wr.cell? ⟨g + 2, q, none⟩ = some (.int .u8 (y.toNat : Int)) := by
            have hl := padZ_length HB32.out hq
            exact ⟨(padZ b q)[q]'(by omega), by rw [HO4.out.cell q]; simp [bytesV, hl, hlt]⟩
          obtain ⟨y, hco⟩ := hco
          have hfz := HO4.out.frozen q
          have hle := HO4.out.lt
          have HB5 := Lib.hid (HB4.out.setCell (p := ⟨g + 2, q, none⟩) (by show g ≤ g + 2; omega) (.int .u8 (x.toNat : Int)))
          have HK5 := Lib.hid (HK4.out.other (g' := g + 2) (by omega) q (.int .u8 (x.toNat : Int)))
          have HR5 := Lib.hid (HR4.out.other (g' := g + 2) (by omega) q (.int .u8 (x.toNat : Int)))
          have HO5 := Lib.hid (by have := HO4.out.set_ q (.int .u8 (x.toNat : Int)); rwa [bytesV_set, padZ_succ HB32.out hlt hxx] at this : Blk (wr.setCell ⟨g + 2, q, none⟩ (.int .u8 (x.toNat : Int))) (g + 2) 27 (bytesV (padZ b (q + 1))).toArray)
          subst hA
          clear HB4 HK4 HR4 HO4 hx hxx
          go_wp2_with fail
          go_roundw
          case rel => exact ⟨q + 1, by omega, by go_num, HB5, HK5, HR5, HO5⟩
          case measure => simp [intOf]; omega
        · have hltI : ¬ (q : Int) < 32 := by omega
          obtain rfl : q = 32 := by omega
          obtain ⟨KB, hKB⟩ : ∃ KB, KB = (bytesV b).toArray := ⟨_, rfl⟩
          have HO6 := Lib.hid (show Blk wr (g + 2) 27 KB by have := HO4.out; rwa [padZ_all HB32.out, ← hKB] at this)
          have HI6 := Lib.hid (show (Try.prog.info? 27).map (·.size) = some KB.size by rw [hKB]; exact oid_size HB32.out)
          have HO1 := Lib.hid (show KB.all (·.oneCell') = true by rw [hKB]; exact oid_one _)
          have HZS6 := Lib.hid (show zID.size = KB.size by rw [hKB]; simp [bytesV, HB32.out])
          have HKB := Lib.hid hKB
          clear hKB HO4
          go_wp2_with (first
            | (refine wpList_load_row rfl 27 (.tmp 4) rfl (g + 2) rfl 27 KB (0, 0) _ HO6.out Try.underlying27 rfl HI6.out ?_)
            | (refine wpList_store_row rfl _ _ _ rfl (g + 1) KB rfl rfl 27 _ HR4.out HI6.out HZS6.out HO1.out ?_) | fail)
          refine bodyPost_ret (results_row_tmp rfl _ _ (g + 1) 27 KB (0, 0) _ rfl (setRow_heap _ (g + 1) _ _ _ _ HR4.out) Try.underlying27 rfl HI6.out) rfl ?_
          rw [HG.out, HKB.out, HRR.out]
          exact ⟨rfl, below_setRow HB4.out (Nat.le_succ _) _⟩
    · have e2 : ((n : Int) != 32) = true := by simp; omega
      have HRR := Lib.hid (show R = .error 91 by rw [HR.out, if_pos (.inr hl)])
      have HO3' := Lib.hid (show Blk w3 (g + 2) 27 KZ by rw [← HZ0.out]; exact HO3.out)
      clear hk
      go_wp2_with (first
        | (refine wpList_load_row rfl 27 (.tmp 4) rfl (g + 2) rfl 27 KZ (0, 0) _ HO3'.out Try.underlying27 rfl HI.out ?_)
        | (refine wpList_store_row rfl _ _ _ rfl (g + 1) KZ rfl rfl 27 _ HR3.out HI.out HZS.out HO.out ?_) | fail)
      refine bodyPost_ret (results_row_tmp rfl _ _ (g + 1) 27 KZ (0, 0) _ rfl (setRow_heap _ (g + 1) _ _ _ _ HR3.out) Try.underlying27 rfl HI.out) rfl ?_
      rw [HG.out]
      exact ⟨HBAD.out HRR.out _ rfl, below_setRow HB3.out (Nat.le_succ _) KZ⟩
  · have e1 : (k != 1) = true := by simp [hk]
    have HRR := Lib.hid (show R = .error 91 by rw [HR.out, if_pos (.inl hk)])
    have HO3' := Lib.hid (show Blk w3 (g + 2) 27 KZ by rw [← HZ0.out]; exact HO3.out)
    clear hk
    go_wp2_with (first
      | (refine wpList_load_row rfl 27 (.tmp 4) rfl (g + 2) rfl 27 KZ (0, 0) _ HO3'.out Try.underlying27 rfl HI.out ?_)
      | (refine wpList_store_row rfl _ _ _ rfl (g + 1) KZ rfl rfl 27 _ HR3.out HI.out HZS.out HO.out ?_) | fail)
    refine bodyPost_ret (results_row_tmp rfl _ _ (g + 1) 27 KZ (0, 0) _ rfl (setRow_heap _ (g + 1) _ _ _ _ HR3.out) Try.underlying27 rfl HI.out) rfl ?_
    rw [HG.out]
    exact ⟨HBAD.out HRR.out _ rfl, below_setRow HB3.out (Nat.le_succ _) KZ⟩
end Go.Proofs.Ytpafhajpnepecaa
