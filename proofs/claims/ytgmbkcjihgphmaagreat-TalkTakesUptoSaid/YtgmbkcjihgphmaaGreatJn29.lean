/- Contracts and laws for what the statement reaches, joined: TalkRefLack, ShaRefWords, ShaRefSumLaw. -/
import Derived.Test.YtgmbkcjihgphmaaGreatJn16
import Derived.Test.YtgmbkcjihgphmaaGreatJn2
import Derived.Test.YtgmbkcjihgphmaaGreatJn22
import Derived.Test.YtgmbkcjihgphmaaGreatJn28
import Derived.Test.YtgmbkcjihgphmaaGreatJn4
import Derived.Deep.OwnRows
/- the reference's Lacking. -/
set_option linter.unusedVariables false
set_option linter.unusedSimpArgs false
namespace Go.Proofs.YtgmbkcjihgphmaaGreat
open Go.RowKit
attribute [local go_sem ↓] bsId_eq
def LkPure (S : SrcT) (U R : Ids) (i : Nat) (l out : Ids) : Prop := l.Nodup ∧ (∀ x ∈ l, x ∈ U) ∧ i ≤ l.length ∧ out.length ≤ i ∧ ∃ k, lackP S k l i out = some R
def LkIn (S : SrcT) (U R : Ids) (i : Nat) (l out lnk : Ids) (j : Nat) : Prop := l.Nodup ∧ (∀ x ∈ l, x ∈ U) ∧ i + 1 ≤ l.length ∧ out.length ≤ i ∧ ∃ k, lackP S k (addIds l (lnk.drop j)) (i + 1) out = some R
/-- two rows of ids of one's own -/
structure L2 (w0 wr : World) (A : Option Addr) (n c : Nat) (l : Ids) (Ao : Option Addr) (mo co : Nat) (out : Ids) : Prop where
 r : RowR oidR 33 wr w0.heap.size A n c l
 o : RowR oidR 33 wr w0.heap.size Ao mo co out
 sep : ∀ b, own (.slice A n c) b → own (.slice Ao mo co) b → False
 below : Below w0.heap.size w0 wr
section
variable {w0 w w' : World} {A Ao : Option Addr} {n c mo co : Nat} {l out : Ids} {x : List UInt8}
theorem L2.go (h : L2 w0 w A n c l Ao mo co out) (hb : Below w.heap.size w w') : L2 w0 w' A n c l Ao mo co out := ⟨h.r.below hb, h.o.below hb, h.sep, h.below.trans (hb.mono h.below.size)⟩
theorem L2.swap (h : L2 w0 w A n c l Ao mo co out) : L2 w0 w Ao mo co out A n c l := ⟨h.o, h.r, fun b h1 h2 => h.sep b h2 h1, h.below⟩
theorem L2.push (h : L2 w0 w A n c l Ao mo co out) (hx : x.length = 32) (hn : n ≤ 1000000000) :
  ∃ A' c' w', (Builtin.append_ #[46, 46] 46 #[.slice A n c, .slice (some ⟨w.heap.size, 0, none⟩) 1 1]).run Tryz.prog (w.alloc (.cells (bytesV x).toArray 33)) = .ok (.slice A' (n + 1) c') w' ∧ L2 w0 w' A' (n + 1) c' (l ++ [x]) Ao mo co out ∧ Moves w w' (own (.slice A n c)) (own (.slice A' (n + 1) c')) := by
 obtain ⟨A', c', w', run, hr, hb, hg, hmv, _, _⟩ := h.r.push elemId h.below.size (av := fun _ => True) (oid_of w _ hx) (fun _ _ _ => trivial) (by omega) (by simp only [maxLen]; omega) 46 1
 refine ⟨A', c', w', run, ⟨hr, h.o.grown hg (fun b e ho => h.sep b e ho) (fun _ _ _ k => k), fun b h1 h2 => ?_, h.below.trans hb⟩, hmv⟩
 have hlt := (h.o.lt h2).2
 exact hmv.ne b hlt (fun ho => h.sep b ho h2) h1
end
theorem LkIn.step {S : SrcT} {U R : Ids} {i : Nat} {l out lnk : Ids} {j : Nat} {y : List UInt8} (h : LkIn S U R i l out lnk j) (hy : lnk[j]? = some y) (hU : y ∈ U) : LkIn S U R i (if l.contains y = true then l else l ++ [y]) out lnk (j + 1) := by
 obtain ⟨h2, h3, h4, h5, k, hk⟩ := h
 obtain ⟨h6, h7⟩ := List.getElem?_eq_some_iff.1 hy
 refine ⟨addIds_nodup [y] l h2, fun z hz => ?_, ?_, h5, k, ?_⟩
 ·rcases (addIds_mem [y] l z).1 hz with h8 | h8
  ·exact h3 z h8
  ·have h8 : z = y := by simpa using h8
   subst h8; exact hU
 ·split
  ·exact h4
  ·simp; omega
 ·rw [List.drop_eq_getElem_cons h6, h7] at hk
  exact hk
set_option maxRecDepth 100000 in
set_option maxHeartbeats 16000000 in
theorem refLack_any {K : Array Value} {bs ax : List RecT} {root : List UInt8} (W0 : World) (h : RF W0 K bs ax root) (hn : ax.length + bs.length ≤ 1000) :
  Calls Tryz.prog 13 #[.agg K] W0 (IdsPost W0 (lackL (getB (ax ++ bs)) root)) := by
 obtain ⟨S, hS⟩ : ∃ S, S = getB (ax ++ bs) := ⟨_, rfl⟩
 have hfin := getB_fin (ax ++ bs)
 rw [← hS] at hfin ⊢
 obtain ⟨U, hU1, hU2, hU3⟩ := hfin.all root
 have HU := Lib.hid (show U.length ≤ 900000000 by have hl : (ax ++ bs).length = ax.length + bs.length := List.length_append; omega)
 have HUC := Lib.hid hU3
 obtain ⟨R, hR⟩ : ∃ R, R = lackL S root := ⟨_, rfl⟩
 have hRU := hfin.lackL root
 rw [← hR] at hRU ⊢
 have HIF := Lib.hid h.size
 have HH := Lib.hid h
 have h32 := h.r32
 obtain ⟨KI, hKI⟩ : ∃ KI, KI = (bytesV root).toArray := ⟨_, rfl⟩
 have HII := Lib.hid (show (Tryz.prog.info? 33).map (·.size) = some KI.size by rw [hKI]; exact oid_size h32)
 have hks : KI.size = 32 := by rw [hKI]; simp [bytesV, h32]
 obtain ⟨w1, hw1⟩ : ∃ w1, w1 = W0.alloc (.cells K 37) := ⟨_, rfl⟩
 have hb1 : Below W0.heap.size W0 w1 := by rw [hw1]; exact (Below.refl _ _).alloc (Nat.le_refl _) _
 have HB1 := Lib.hid hb1
 have HK1 := Lib.hid (show Blk w1 W0.heap.size 37 K by rw [hw1]; exact Blk.new W0 _ _)
 have HAL := Lib.hid (all_any w1 (h.go hb1) (by omega))
 have HPU0 := Lib.hid (show LkPure S U R 0 [root] [] from ⟨by simp, fun x hx => by have hx : x = root := (by simpa using hx); subst hx; exact hU2, Nat.zero_le _, Nat.le_refl _, _, hRU⟩)
 have HSS := Lib.hid hS
 have HKI := Lib.hid hKI
 have HW1 := Lib.hid hw1
 have H32 := Lib.hid h32
 clear hfin hU1 hU2 hU3 hR hRU h hKI hw1 hb1 hS
 go_enter Tryz.func13, Tryz.ntmps13
 go_upto_region 1 with fail
 rw [← HW1.out]
 generalize hg0 : W0.heap.size = g0 at *
 have HG0 := Lib.hid hg0
 clear hg0 HW1
 go_wp2_with (first | (refine wpList_load_at rfl _ _ rfl g0 0 rfl K _ (At.of_row HK1.out) Tryz.underlying37 rfl HIF.out ?_) | fail)
 refine HAL.out.mono ?_
 rintro e w2 ⟨hb2, Ar, nr, cr, rfl, hr2⟩
 have HB2 := Lib.hid (show Below W0.heap.size W0 w2 by rw [HG0.out]; exact HB1.out.trans (hb2.mono (by have h1 := HB1.out.size; have h2 := HG0.out; omega)))
 have HRS := Lib.hid hr2.sl
 have HRN := Lib.hid hr2.len.symm
 have hnr : nr ≤ 1000 := by have := hr2.len; rw [List.length_append] at this; omega
 have hk2 := HK1.out.below hb2 HK1.out.lt
 have hat2 : At w2 ⟨g0, 2, none⟩ KI := by
  obtain ⟨Aw, nw, cw, Aa, na, ca, hK, _⟩ := HH.out.ex
  rw [hK] at hk2
  rw [HKI.out]
  exact fK_id_at hk2
 have HAT2 := Lib.hid hat2
 have hbs := bsId_of w2 KI hks
 have HL0 := Lib.hid (show L2 w2 (w2.alloc (.cells KI 33)) (some ⟨w2.heap.size, 0, none⟩) 1 1 [root] none 0 0 [] from
  ⟨by rw [HKI.out]; exact ⟨⟨_, row_one H32.out (Nat.le_refl _), by simpa using (Each.nil (R := oidR.R _ _)).snoc (oid_of _ _ H32.out)⟩, rfl⟩, RowR.nil _ _ _ _, fun b _ h2 => by simp [own, Value.ownBlock] at h2, (Below.refl _ _).alloc (Nat.le_refl _) _⟩)
 clear hb2 hr2 hk2 hat2 HAL hks
 go_wp2_with (first
  | (refine wpList_load_at rfl _ _ rfl g0 2 rfl KI _ HAT2.out Tryz.underlying33 rfl HII.out ?_)
  | (refine wpList_build1 rfl (.tmp 15) rfl (.agg KI) _ rfl hbs ?_) | fail)
 clear hbs HAT2
 generalize hgw : w2.alloc (.cells KI 33) = w3 at *
 clear hgw
 go_loopw [4, 5, 6] (fun s4 s5 s6 wr => ∃ (i n c mo co : Nat) (A Ao : Option Addr) (l out : Ids), s4 = .slice A n c ∧ s5 = .slice Ao mo co ∧ s6 = .int .i64 (i : Int) ∧ i ≤ 900000000 ∧ Hid (L2 w2 wr A n c l Ao mo co out) ∧ Hid (LkPure S U R i l out)) (fun s4 s5 s6 wr => 900000001 - (intOf s6).toNat)
 case atStart => exact ⟨0, 1, 1, 0, 0, _, none, [root], [], rfl, rfl, rfl, by omega, HL0, HPU0⟩
 case round =>
  obtain ⟨i, n, c, mo, co, A, Ao, l, out, rfl, rfl, rfl, hi9, HL, HP⟩ := hrel
  have hnl := HL.out.r.len
  have hll : l.length ≤ 900000000 := Nat.le_trans (List.Nodup.length_le_of_subset HP.out.1 (fun x hx => HP.out.2.1 x hx)) HU.out
  have hoN := HL.out.o.len
  have hoi := HP.out.2.2.2.1
  by_cases hlt : i < n
  ·have hltI : (i : Int) < (n : Int) := by omega
   obtain ⟨b1, o1, x, rfl, hb1, hx, hx32, hat⟩ := oids_look HL.out.r.sl hnl.symm hlt
   obtain ⟨KX, hKX⟩ : ∃ KX, KX = (bytesV x).toArray := ⟨_, rfl⟩
   have HI := Lib.hid (show (Tryz.prog.info? 33).map (·.size) = some KX.size by rw [hKX]; exact oid_size hx32)
   have hkx : KX.size = 32 := by rw [hKX]; simp [bytesV, hx32]
   rw [← hKX] at hat
   have HAT := Lib.hid hat
   have HG := Lib.hid (refGet_any Ar nr cr (ax ++ bs) x wr (HRS.out.below HL.out.below) HRN.out.symm (by omega) hx32)
   rw [show idV x = .agg KX by rw [hKX]] at HG
   have HKX := Lib.hid hKX
   have HX32 := Lib.hid hx32
   have HXI := Lib.hid hx
   have hbx := fun w => bsId_of w KX hkx
   have HN9 := Lib.hid (show n ≤ 900000000 ∧ mo ≤ 900000000 by omega)
   clear hat hKX hx32 hx hnl hll hoN hoi hkx
   go_wp2_with (first | (refine wpList_load_at rfl _ _ rfl b1 (o1 + i * 32) rfl KX _ HAT.out Tryz.underlying33 rfl HI.out ?_) | fail)
   refine HG.out.mono ?_
   rintro e w5 ⟨hb5, hm5⟩
   have HL5 := Lib.hid (HL.out.go hb5)
   have HAT5 := Lib.hid (HAT.out.below hb5 hb1)
   obtain ⟨sg, hsg⟩ : ∃ sg, sg = getS (ax ++ bs) x := ⟨_, rfl⟩
   rw [← hsg] at hm5
   have HSX := Lib.hid (show S x = sg.map (fun s => s.data.toList) by rw [HSS.out, hsg]; rfl)
   clear hb5 HG hsg
   cases sg with
   | none =>
    obtain rfl : e = _ := hm5
    obtain ⟨A7, c7, w7, hrun, hl7, _⟩ := HL5.out.swap.push HX32.out (by have := HN9.out; omega)
    rw [← HKX.out] at hrun
    have HL7 := Lib.hid hl7.swap
    have HP7 := Lib.hid (show LkPure S U R (i + 1) l (out ++ [x]) from by
     obtain ⟨p1, p2, p3, p4, k, hk⟩ := HP.out
     have h3 := (List.getElem?_eq_some_iff.1 HXI.out).1
     refine ⟨p1, p2, h3, by simp; omega, ?_⟩
     cases k with
     | zero => simp [lackP] at hk
     | succ k =>
      unfold lackP at hk
      rw [HXI.out] at hk
      simp only at hk
      rw [HSX.out] at hk
      exact ⟨k, hk⟩)
    have hi10 : i + 1 ≤ 900000000 := by have := HN9.out; omega
    clear hl7 HL5 HL HP HSX
    go_wp2_with (first
     | (refine wpList_load_at rfl _ _ rfl b1 (o1 + i * 32) rfl KX _ HAT5.out Tryz.underlying33 rfl HI.out ?_)
     | (refine wpList_build1 rfl (.tmp 38) rfl (.agg KX) _ rfl (hbx _) ?_)
     | (at_builtin; refine wpList_run_append hrun ?_ ?_ ?_; exact rfl; exact rfl) | fail)
    go_roundw
    case rel => exact ⟨i + 1, n, c, mo + 1, c7, _, A7, l, out ++ [x], rfl, rfl, by go_num, hi10, HL7, HP7⟩
    case measure => simp [intOf]; omega
   | some s =>
    obtain rfl : e = _ := hm5
    have HLN := Lib.hid (refLinks_any s w5)
    obtain ⟨lx, hlx⟩ : ∃ lx, lx = linksG (sB s) := ⟨_, rfl⟩
    rw [← hlx] at HLN
    have HP6 := Lib.hid (show LkIn S U R i l out (lkL lx) 0 from by
     obtain ⟨p1, p2, p3, p4, k, hk⟩ := HP.out
     have h3 := (List.getElem?_eq_some_iff.1 HXI.out).1
     refine ⟨p1, p2, h3, p4, ?_⟩
     cases k with
     | zero => simp [lackP] at hk
     | succ k =>
      unfold lackP at hk
      rw [HXI.out] at hk
      simp only at hk
      rw [HSX.out] at hk
      rw [hlx]
      exact ⟨k, hk⟩)
    have HUL := Lib.hid (show ∀ y ∈ lkL lx, y ∈ U by rw [hlx]; exact HUC.out x (sB s) HSX.out)
    have hfew : (lkL lx).length ≤ 4096 := by rw [hlx]; exact lkL_few _
    clear hlx HSX HP HL HXI
    go_wp2_with fail
    refine HLN.out.mono ?_
    intro e w6 hp
    obtain ⟨⟨A6, c6, rfl, hs6, hl6, hm6⟩, hb6⟩ := hp.lk
    have HL6 := Lib.hid (HL5.out.go hb6)
    have HS6 := Lib.hid (show SlOf oidR w6 (own (.slice (some ⟨b1, o1, none⟩) n c)) A6 (lkL lx) from hs6.stable (Moves.less w6 (fun y _ hy => (HL5.out.r.lt hy).2)))
    obtain ⟨nl, hnl⟩ : ∃ nl, nl = (lkL lx).length := ⟨_, rfl⟩
    rw [← hnl] at hfew ⊢
    have HNL := Lib.hid hnl.symm
    obtain ⟨lnk, hlnk⟩ : ∃ lnk, lnk = lkL lx := ⟨_, rfl⟩
    rw [← hlnk] at HS6 HNL HUL HP6
    clear hp hs6 hl6 hm6 hb6 HLN hnl hlnk HL5 hbx HAT HAT5
    go_wp2_with fail
    go_loopw [4, 11] (fun s4 s11 wr => ∃ (j n c : Nat) (A : Option Addr) (l : Ids), j ≤ nl ∧ s11 = .int .i64 (j : Int) ∧ s4 = .slice A n c ∧ Hid (L2 w2 wr A n c l Ao mo co out) ∧ Hid (LkIn S U R i l out lnk j) ∧ Hid (SlOf oidR wr (own (.slice A n c)) A6 lnk)) (fun s4 s11 wr => nl - (intOf s11).toNat)
    case atStart => exact ⟨0, n, c, _, l, Nat.zero_le _, rfl, rfl, HL6, HP6, HS6⟩
    case round =>
     obtain ⟨j, n, c, A, l, hj, rfl, rfl, HLR, HPR, HSR⟩ := hrel
     by_cases hlj : j < nl
     ·have hljI : (j : Int) < (nl : Int) := by omega
      obtain ⟨b2, o2, y, rfl, hb2, hy, hy32, haty⟩ := oids_look HSR.out HNL.out hlj
      obtain ⟨KY, hKY⟩ : ∃ KY, KY = (bytesV y).toArray := ⟨_, rfl⟩
      have HIY := Lib.hid (show (Tryz.prog.info? 33).map (·.size) = some KY.size by rw [hKY]; exact oid_size hy32)
      have hky : KY.size = 32 := by rw [hKY]; simp [bytesV, hy32]
      rw [← hKY] at haty
      have HATY := Lib.hid haty
      have hby := fun w => bsId_of w KY hky
      have hn9 : n ≤ 900000000 := by
       have h1 := HLR.out.r.len
       have h2 := List.Nodup.length_le_of_subset HPR.out.1 (fun x hx => HPR.out.2.1 x hx)
       have h3 := HU.out
       omega
      have HHA := Lib.hid (has21_any A n c l y wr HLR.out.r.sl HLR.out.r.len (by omega) hy32)
      rw [show idV y = .agg KY by rw [hKY]] at HHA
      have HPN := Lib.hid (HPR.out.step hy (HUL.out y (List.mem_of_getElem? hy)))
      have HKY := Lib.hid hKY
      have HY32 := Lib.hid hy32
      obtain ⟨B, hB⟩ : ∃ B, B = l.contains y := ⟨_, rfl⟩
      rw [← hB] at HHA HPN
      clear haty hKY hky hy32 hB hy HPR
      go_wp2_with (first | (refine wpList_load_at rfl _ _ rfl b2 (o2 + j * 32) rfl KY _ HATY.out Tryz.underlying33 rfl HIY.out ?_) | fail)
      refine HHA.out.mono ?_
      rintro e w7 ⟨rfl, hb7⟩
      have HL7 := Lib.hid (HLR.out.go hb7)
      have HS7 := Lib.hid (HSR.out.stable (Moves.of_below hb7))
      have HATY7 := Lib.hid (HATY.out.below hb7 hb2)
      clear hb7 HLR HSR HHA HATY
      cases B with
      | true =>
       have HPN2 := Lib.hid (show LkIn S U R i l out lnk (j + 1) by have := HPN.out; simpa using this)
       clear HPN
       go_wp2_with fail
       go_roundw
       case rel => exact ⟨j + 1, n, c, A, l, by omega, by go_num, rfl, HL7, HPN2, HS7⟩
       case measure => simp [intOf]; omega
      | false =>
       have HPN2 := Lib.hid (show LkIn S U R i (l ++ [y]) out lnk (j + 1) by have := HPN.out; simpa using this)
       obtain ⟨A8, c8, w8, hrun, hl8, hmv⟩ := HL7.out.push HY32.out (by omega)
       rw [← HKY.out] at hrun
       have HL8 := Lib.hid hl8
       have HS8 := Lib.hid (HS7.out.stable hmv)
       clear HPN hl8 hmv HL7 HS7
       go_wp2_with (first
        | (refine wpList_load_at rfl _ _ rfl b2 (o2 + j * 32) rfl KY _ HATY7.out Tryz.underlying33 rfl HIY.out ?_)
        | (refine wpList_build1 rfl (.tmp 63) rfl (.agg KY) _ rfl (hby _) ?_)
        | (at_builtin; refine wpList_run_append hrun ?_ ?_ ?_; exact rfl; exact rfl) | fail)
       go_roundw
       case rel => exact ⟨j + 1, n + 1, c8, A8, l ++ [y], by omega, by go_num, rfl, HL8, HPN2, HS8⟩
       case measure => simp [intOf]; omega
     ·have hljI : ¬ (j : Int) < (nl : Int) := by omega
      have HP9 := Lib.hid (show LkPure S U R (i + 1) l out from by
       obtain ⟨p1, p2, p3, p4, k, hk⟩ := HPR.out
       rw [List.drop_of_length_le (by rw [HNL.out]; omega)] at hk
       exact ⟨p1, p2, p3, by omega, k, hk⟩)
      have hi10 : i + 1 ≤ 900000000 := by have := HN9.out; omega
      clear HPR HSR
      go_wp2_with fail
      go_roundw
      case rel => exact ⟨i + 1, n, c, mo, co, A, Ao, l, out, rfl, rfl, by go_num, hi10, HLR, HP9⟩
      case measure => simp [intOf]; omega
  ·have hltI : ¬ (i : Int) < (n : Int) := by omega
   have HRO := Lib.hid (show R = out by
    obtain ⟨p1, p2, p3, p4, k, hk⟩ := HP.out
    cases k with
    | zero => simp [lackP] at hk
    | succ k =>
     unfold lackP at hk
     rw [List.getElem?_eq_none (by omega)] at hk
     exact (Option.some.inj hk).symm)
   have HBW := Lib.hid (HB2.out.trans (HL.out.below.mono HB2.out.size))
   clear hnl hll hoN hoi
   go_wp2_with fail
   go_ret
   rw [HRO.out]
   exact ⟨HBW.out, Ao, mo, co, rfl, HL.out.o.lower HB2.out.size⟩
end Go.Proofs.YtgmbkcjihgphmaaGreat
/- The document's words: words of 32 bits in numbers of 64; turn and drop. -/
namespace Go.Proofs.YtgmbkcjihgphmaaGreat
open Go.RowKit
/-- a number of 64 bits as an integer -/
def qI (x : UInt64) : Int := (x.toNat : Int)
/-- a word in a number -/
def up (x : UInt32) : UInt64 := x.toUInt64
theorem qI_nonneg (x : UInt64) : 0 ≤ qI x := by unfold qI; omega
theorem qI_lt (x : UInt64) : qI x ≤ 18446744073709551615 := by unfold qI; have := x.toNat_lt; omega
theorem qI_up (x : UInt32) : qI (up x) = (x.toNat : Int) := by unfold qI up; rw [UInt32.toNat_toUInt64]
theorem wrap_u64' (z : Int) : IntKind.u64.wrap z = z % 18446744073709551616 := by
 simp only [IntKind.wrap, IntKind.bits, IntKind.signed]
 simp
theorem q_add (x y : UInt64) : (qI x + qI y) % 18446744073709551616 = qI (x + y) := by unfold qI; rw [UInt64.toNat_add]; omega
theorem q_wadd (x y : UInt64) : IntKind.u64.wrap (qI x + qI y) = qI (x + y) := by rw [wrap_u64', q_add]
theorem q_sub (x : UInt64) : (4294967295 - qI x) % 18446744073709551616 = qI (4294967295 - x) := by
 unfold qI; rw [UInt64.toNat_sub]; have := x.toNat_lt; simp; omega
theorem q_wsub (x : UInt64) : IntKind.u64.wrap (4294967295 - qI x) = qI (4294967295 - x) := by rw [wrap_u64', q_sub]
theorem up_low (x : UInt64) : up x.toUInt32 = x % 4294967296 := by
 apply UInt64.toNat_inj.1
 rw [UInt64.toNat_mod]
 unfold up
 rw [UInt32.toNat_toUInt64, UInt64.toNat_toUInt32]
 rfl
theorem q_mod (x : UInt64) : qI x % 4294967296 = qI (up x.toUInt32) := by
 rw [up_low]; unfold qI; rw [UInt64.toNat_mod]; rfl
theorem q_tmod (x : UInt64) : (qI x).tmod 4294967296 = qI (up x.toUInt32) := by rw [Int.tmod_eq_emod_of_nonneg (qI_nonneg x), q_mod]
theorem q_wmod (x : UInt64) : IntKind.u64.wrap ((qI x).tmod 4294967296) = qI (up x.toUInt32) := by
 rw [q_tmod, IntWalk.u64_in _ ⟨qI_nonneg _, by have := qI_lt (up x.toUInt32); omega⟩]
theorem bq_of (x : UInt64) : BitVec.ofInt 64 (qI x) = x.toBitVec := by
 unfold qI
 apply BitVec.eq_of_toNat_eq
 rw [BitVec.toNat_ofInt]
 have := x.toNat_lt
 rw [UInt64.toNat_toBitVec]
 omega
theorem wrap_bq (r : BitVec 64) : IntKind.u64.wrap (r.toNat : Int) = (r.toNat : Int) := by
 have := r.isLt
 rw [wrap_u64']
 omega
theorem q_xor (x y : UInt64) : bits .xor .u64 (qI x) (qI y) = qI (x ^^^ y) := by
 unfold bits
 show IntKind.u64.wrap ((BitVec.ofInt 64 (qI x) ^^^ BitVec.ofInt 64 (qI y)).toNat : Int) = _
 rw [bq_of, bq_of, wrap_bq]; rfl
theorem q_and (x y : UInt64) : bits .and .u64 (qI x) (qI y) = qI (x &&& y) := by
 unfold bits
 show IntKind.u64.wrap ((BitVec.ofInt 64 (qI x) &&& BitVec.ofInt 64 (qI y)).toNat : Int) = _
 rw [bq_of, bq_of, wrap_bq]; rfl
/-! ### plain: what the numbers come to as words -/
theorem low_up (x : UInt32) : (up x).toUInt32 = x := by simp [up]
theorem low_not (x : UInt32) : (4294967295 - up x).toUInt32 = ~~~x := by
 apply UInt32.toNat_inj.1
 rw [UInt64.toNat_toUInt32, UInt64.toNat_sub]
 unfold up
 have := x.toNat_lt
 have h : (~~~x).toNat = 4294967295 - x.toNat := by
  rw [UInt32.toNat_not]
  rfl
 rw [h, UInt32.toNat_toUInt64]
 have e : (4294967295 : UInt64).toNat = 4294967295 := rfl
 rw [e]
 omega
theorem rotr_toNat (x : UInt32) {k : Nat} (h1 : 1 ≤ k) (h2 : k ≤ 31) : (rotr x k).toNat = x.toNat / 2 ^ k + x.toNat % 2 ^ k * 2 ^ (32 - k) := by
 have hx := x.toNat_lt
 unfold rotr
 rw [UInt32.toNat_or, UInt32.toNat_shiftLeft, UInt32.toNat_shiftRight]
 have e1 : (UInt32.ofNat (32 - k)).toNat = 32 - k := by rw [UInt32.toNat_ofNat']; omega
 have e2 : (UInt32.ofNat k).toNat = k := by rw [UInt32.toNat_ofNat']; omega
 rw [e1, e2, Nat.mod_eq_of_lt (by omega : 32 - k < 32), Nat.mod_eq_of_lt (by omega : k < 32), Nat.shiftLeft_eq, Nat.shiftRight_eq_div_pow]
 have e3 : x.toNat * 2 ^ (32 - k) % 2 ^ 32 = x.toNat % 2 ^ k * 2 ^ (32 - k) := by
  rw [show (2 : Nat) ^ 32 = 2 ^ k * 2 ^ (32 - k) by rw [← Nat.pow_add]; congr 1; omega, Nat.mul_mod_mul_right]
 rw [e3, ← Nat.shiftLeft_eq, ← Nat.shiftLeft_add_eq_or_of_lt, Nat.shiftLeft_eq, Nat.add_comm]
 rw [Nat.div_lt_iff_lt_mul (Nat.two_pow_pos k), ← Nat.pow_add, show 32 - k + k = 32 by omega]
 exact hx
theorem shr_toNat (x : UInt32) {k : Nat} (h : k < 32) : (x >>> UInt32.ofNat k).toNat = x.toNat / 2 ^ k := by
 rw [UInt32.toNat_shiftRight]
 have e2 : (UInt32.ofNat k).toNat = k := by rw [UInt32.toNat_ofNat']; omega
 rw [e2, Nat.mod_eq_of_lt h, Nat.shiftRight_eq_div_pow]
set_option maxRecDepth 100000 in
theorem turn_any (x : UInt32) (k : Nat) (h1 : 1 ≤ k) (h2 : k ≤ 31) (w : World) :
  Calls Tryz.prog 46 #[.int .u64 (qI (up x)), .int .i64 (k : Int)] w fun e w' => e = .returned (.int .u64 (qI (up (rotr x k)))) ∧ Same w w' := by
 rw [qI_up, qI_up]
 have HR := Lib.hid (rotr_toNat x h1 h2)
 have hx := x.toNat_lt
 generalize x.toNat = X at *
 go_enter Tryz.func46, Tryz.ntmps46
 go_wp2_with fail
 go_loopw [5, 6] (fun p i wr => ∃ (j P : Nat), j ≤ k ∧ i = .int .i64 (j : Int) ∧ p = .int .u64 (P : Int) ∧ Hid (P = 2 ^ j) ∧ wr = w) (fun _ i _ => k - (intOf i).toNat)
 case atStart => exact ⟨0, 1, by omega, rfl, rfl, Lib.hid rfl, rfl⟩
 case round =>
  obtain ⟨j, P, hj, rfl, rfl, HP, rfl⟩ := hrel
  have hPle : P ≤ 2147483648 := by rw [HP.out]; exact Nat.pow_le_pow_right (n := 2) (by omega) (show j ≤ 31 by omega)
  by_cases hlt : j < k
  ·have hlt' : (j : Int) < (k : Int) := by omega
   have hw : IntKind.u64.wrap ((P : Int) * 2) = ((P * 2 : Nat) : Int) := by rw [IntWalk.u64_in _ (by omega)]; omega
   have hw2 : ((P : Int) * 2) % 18446744073709551616 = ((P * 2 : Nat) : Int) := by omega
   go_wp2_with fail
   go_roundw
   case rel => exact ⟨j + 1, P * 2, by omega, by go_num, by first | rfl | (rw [hw]) | (rw [hw2]), Lib.hid (by rw [HP.out, Nat.pow_succ]), by first | rfl | trivial⟩
   case measure => simp [intOf]; omega
  ·have hlt' : ¬ (j : Int) < (k : Int) := by omega
   have hje : j = k := by omega
   have HPK := Lib.hid (show P = 2 ^ k by rw [HP.out, hje])
   have hP0 : 0 < P := by rw [HPK.out]; exact Nat.two_pow_pos k
   have hD : 4294967296 / P = 2 ^ (32 - k) := by
    rw [HPK.out, show (4294967296 : Nat) = 2 ^ 32 from rfl, Nat.pow_div (by omega) (by omega)]
   have hA : X / P < 4294967296 := Nat.lt_of_le_of_lt (Nat.div_le_self _ _) hx
   have hB : X % P < P := Nat.mod_lt _ hP0
   have hBD : X % P * (4294967296 / P) < 4294967296 := by
    have h3 : P * (4294967296 / P) ≤ 4294967296 := Nat.mul_div_le _ _
    have h4 : 0 < 4294967296 / P := Nat.div_pos (by omega) hP0
    exact Nat.lt_of_lt_of_le ((Nat.mul_lt_mul_right h4).2 hB) h3
   have HF := Lib.hid (show (rotr x k).toNat = X / P + X % P * (4294967296 / P) by rw [HR.out, hD, HPK.out])
   have n0 : ¬ (P : Int) = 0 := by omega
   have n1 : ((P : Int) == 0) = false := by simp; omega
   have t1 : (X : Int).tdiv (P : Int) = ((X / P : Nat) : Int) := by rw [Int.tdiv_eq_ediv_of_nonneg (by omega)]; exact (Int.natCast_ediv _ _).symm
   have t2 : (X : Int).tmod (P : Int) = ((X % P : Nat) : Int) := by rw [Int.tmod_eq_emod_of_nonneg (by omega)]; exact (Int.natCast_emod _ _).symm
   have t3 : (4294967296 : Int).tdiv (P : Int) = ((4294967296 / P : Nat) : Int) := by rw [Int.tdiv_eq_ediv_of_nonneg (by omega)]; exact (Int.natCast_ediv _ _).symm
   have s1 : (X : Int) / (P : Int) = ((X / P : Nat) : Int) := (Int.natCast_ediv _ _).symm
   have s2 : (X : Int) % (P : Int) = ((X % P : Nat) : Int) := (Int.natCast_emod _ _).symm
   have s3 : (4294967296 : Int) / (P : Int) = ((4294967296 / P : Nat) : Int) := (Int.natCast_ediv _ _).symm
   have hDl : 4294967296 / P ≤ 4294967296 := Nat.div_le_self _ _
   generalize X / P = a at *
   generalize X % P = b at *
   generalize 4294967296 / P = d at *
   have w1 : IntKind.u64.wrap (a : Int) = (a : Int) := IntWalk.u64_in _ (by omega)
   have w2 : IntKind.u64.wrap (b : Int) = (b : Int) := IntWalk.u64_in _ (by omega)
   have w3 : IntKind.u64.wrap (d : Int) = (d : Int) := IntWalk.u64_in _ (by omega)
   have v4 : (b : Int) * (d : Int) = ((b * d : Nat) : Int) := by push_cast; rfl
   generalize b * d = bd at *
   have w4 : IntKind.u64.wrap (bd : Int) = (bd : Int) := IntWalk.u64_in _ (by omega)
   have w4' : (bd : Int) % 18446744073709551616 = (bd : Int) := by omega
   have w5 : IntKind.u64.wrap ((a : Int) + (bd : Int)) = ((a + bd : Nat) : Int) := by rw [IntWalk.u64_in _ (by omega)]; push_cast; rfl
   have w5' : ((a : Int) + (bd : Int)) % 18446744073709551616 = ((a + bd : Nat) : Int) := by push_cast; omega
   clear HR hD hBD hje
   go_wp2_with fail
   go_quiet (fail)
   go_wp2_with fail
   go_ret
   refine ⟨?_, Same.drewN (Same.refl _) _⟩
   rw [HF.out]
   rfl
theorem drop_nat (X k : Nat) (hk : k ≤ 64) (hX : X < 18446744073709551616) (w : World) :
  Calls Tryz.prog 47 #[.int .u64 (X : Int), .int .i64 (k : Int)] w fun e w' => e = .returned (.int .u64 ((X / 2 ^ k : Nat) : Int)) ∧ w = w' := by
 have HX := Lib.hid hX
 clear hX
 go_enter Tryz.func47, Tryz.ntmps47
 go_wp2_with fail
 go_loopw [0, 5] (fun x i wr => ∃ (j Y : Nat), j ≤ k ∧ i = .int .i64 (j : Int) ∧ x = .int .u64 (Y : Int) ∧ Hid (Y = X / 2 ^ j) ∧ wr = w) (fun _ i _ => k - (intOf i).toNat)
 case atStart => exact ⟨0, X, by omega, rfl, rfl, Lib.hid (by simp), rfl⟩
 case round =>
  obtain ⟨j, Y, hj, rfl, rfl, HP, rfl⟩ := hrel
  have hYle : Y < 18446744073709551616 := by rw [HP.out]; exact Nat.lt_of_le_of_lt (Nat.div_le_self _ _) HX.out
  by_cases hlt : j < k
  ·have hlt' : (j : Int) < (k : Int) := by omega
   have t1 : (Y : Int).tdiv 2 = ((Y / 2 : Nat) : Int) := by rw [Int.tdiv_eq_ediv_of_nonneg (by omega)]; omega
   have t2 : (Y : Int) / 2 = ((Y / 2 : Nat) : Int) := by omega
   have hy2 : Y / 2 ≤ Y := Nat.div_le_self _ _
   have HN := Lib.hid (show Y / 2 = X / 2 ^ (j + 1) by rw [HP.out, Nat.div_div_eq_div_mul, Nat.pow_succ])
   generalize Y / 2 = Z at *
   have t3 : IntKind.u64.wrap (Z : Int) = (Z : Int) := IntWalk.u64_in _ (by omega)
   go_wp2_with fail
   go_roundw
   case rel => exact ⟨j + 1, Z, by omega, by go_num, by first | rfl | (rw [t1, t3]) | (rw [t2]), HN, by first | rfl | trivial⟩
   case measure => simp [intOf]; omega
  ·have hlt' : ¬ (j : Int) < (k : Int) := by omega
   have hje : j = k := by omega
   have HF := Lib.hid (show X / 2 ^ k = Y by rw [HP.out, hje])
   clear hje
   go_wp2_with fail
   go_ret
   refine ⟨?_, rfl⟩
   rw [show ((X : Int) / 2 ^ k) = (Y : Int) by rw [← HF.out]; push_cast; rfl]
   rfl
theorem drop_any (x : UInt32) (k : Nat) (hk : k < 32) (w : World) :
  Calls Tryz.prog 47 #[.int .u64 (qI (up x)), .int .i64 (k : Int)] w fun e w' => e = .returned (.int .u64 (qI (up (x >>> UInt32.ofNat k)))) ∧ w = w' := by
 rw [qI_up, qI_up, shr_toNat x hk]
 exact drop_nat x.toNat k (by omega) (by have := x.toNat_lt; omega) w
end Go.Proofs.YtgmbkcjihgphmaaGreat
/- Plain laws and cells for the document's Sum. -/
namespace Go.Proofs.YtgmbkcjihgphmaaGreat
open Go.RowKit
theorem low_not32 (x : UInt32) : 4294967295 - x = ~~~x := by
 rw [← low_not x, UInt64.toUInt32_sub, low_up]; rfl
/-! ### the schedule, whole -/
theorem sched_prefix (b : List UInt8) (n : Nat) : ∀ k i, i < 16 + n → (schedW b (n + k)).getD i 0 = (schedW b n).getD i 0
 | 0, i, _ => rfl
 | k + 1, i, h => by
  rw [← Nat.add_assoc, schedW, List.getD_eq_getElem?_getD, List.getElem?_append_left (by rw [schedW_length]; omega), ← List.getD_eq_getElem?_getD]
  exact sched_prefix b n k i h
theorem sched_first (b : List UInt8) {M : Nat} (h : M < 16) : (schedW b 48).getD M 0 = wordB b M := by
 rw [show (48 : Nat) = 0 + 48 from rfl, sched_prefix b 0 48 M (by omega)]
 simp [schedW, firstW, List.getD_eq_getElem?_getD, h]
theorem sched_rec (b : List UInt8) {M : Nat} (h1 : 16 ≤ M) (h2 : M < 64) : (schedW b 48).getD M 0 = (schedW b 48).getD (M - 16) 0 + (schedW b 48).getD (M - 7) 0 + sg0 ((schedW b 48).getD (M - 15) 0) + sg1 ((schedW b 48).getD (M - 2) 0) := by
 have e : (48 : Nat) = (M - 16 + 1) + (48 - (M - 16 + 1)) := by omega
 have p : ∀ i, i < M → (schedW b 48).getD i 0 = (schedW b (M - 16)).getD i 0 := fun i hi => by
  rw [show (48 : Nat) = (M - 16) + (48 - (M - 16)) by omega]
  exact sched_prefix b _ _ i (by omega)
 rw [p (M - 16) (by omega), p (M - 7) (by omega), p (M - 15) (by omega), p (M - 2) (by omega)]
 rw [e, sched_prefix b (M - 16 + 1) _ M (by omega), schedW, List.getD_eq_getElem?_getD, List.getElem?_append_right (by rw [schedW_length]; omega)]
 have hl : (schedW b (M - 16)).length = M := by rw [schedW_length]; omega
 rw [hl, Nat.sub_self]
 show nextW (schedW b (M - 16)) = _
 unfold nextW
 rw [hl]
/-- M words written -/
def rowW (S : List UInt32) (M : Nat) : List UInt32 := S.take M ++ List.replicate (64 - M) 0
/-- M words written and one under way -/
def rowX (S : List UInt32) (M : Nat) (x : UInt32) : List UInt32 := S.take M ++ x :: List.replicate (63 - M) 0
theorem rowW_X {S : List UInt32} {M : Nat} (h : M < 64) : rowW S M = rowX S M 0 := by
 unfold rowW rowX
 rw [show 64 - M = (63 - M) + 1 by omega, List.replicate_succ]
theorem rowX_get {S : List UInt32} {M : Nat} (hS : M ≤ S.length) (x : UInt32) : (rowX S M x)[M]? = some x := by
 unfold rowX
 rw [List.getElem?_append_right (by simp; omega)]
 simp [Nat.min_eq_left hS]
theorem rowX_set {S : List UInt32} {M : Nat} (hS : M ≤ S.length) (x y : UInt32) : (rowX S M x).set M y = rowX S M y := by
 unfold rowX
 rw [List.set_append, if_neg (by simp; omega)]
 simp [Nat.min_eq_left hS]
theorem rowX_next {S : List UInt32} {M : Nat} (hS : M < S.length) (h : M < 64) : rowX S M (S.getD M 0) = rowW S (M + 1) := by
 unfold rowX rowW
 rw [List.take_add_one, getD_get hS, List.append_assoc, show 63 - M = 64 - (M + 1) by omega]
 rfl
theorem rowW_get {S : List UInt32} {M i : Nat} (hS : M ≤ S.length) (hi : i < M) : (rowW S M)[i]? = some (S.getD i 0) := by
 unfold rowW
 rw [List.getElem?_append_left (by simp; omega), List.getElem?_take_of_lt hi]
 exact getD_get (by omega)
theorem rowW_all {S : List UInt32} (h : S.length = 64) : rowW S 64 = S := by
 unfold rowW
 rw [List.take_of_length_le (by omega)]; simp
/-! ### a word byte by byte -/
theorem partB_lt (b : List UInt8) (K : Nat) : ∀ j, j ≤ 4 → (partB b K j).toNat < 2 ^ (8 * j)
 | 0, _ => by simp [partB]
 | j + 1, h => by
  have ih := partB_lt b K j (by omega)
  cases hx : (b.drop (4 * K))[j]? with
  | none =>
   have : partB b K (j + 1) = partB b K j := by unfold partB; rw [List.take_add_one, hx]; simp
   rw [this]
   exact Nat.lt_of_lt_of_le ih (Nat.pow_le_pow_right (by omega) (by omega))
  | some y =>
   have e : partB b K (j + 1) = mixB (partB b K j) y := by unfold partB; rw [List.take_add_one, hx, List.foldl_append]; rfl
   rw [e]
   unfold mixB
   rw [UInt32.toNat_or, UInt32.toNat_shiftLeft, UInt8.toNat_toUInt32]
   have hy := y.toNat_lt
   have h8 : (UInt32.ofNat 8).toNat % 32 = 8 := rfl
   rw [h8, Nat.shiftLeft_eq]
   have p : (2 : Nat) ^ (8 * (j + 1)) = 2 ^ (8 * j) * 2 ^ 8 := by rw [← Nat.pow_add]; congr 1
   apply Nat.or_lt_two_pow
   ·rw [p]
    exact Nat.lt_of_le_of_lt (Nat.mod_le _ _) (Nat.mul_lt_mul_of_pos_right ih (by decide))
   ·have : (2 : Nat) ^ 8 ≤ 2 ^ (8 * (j + 1)) := Nat.pow_le_pow_right (by omega) (by omega)
    omega
theorem mixB_add {x : UInt32} {y : UInt8} (h : x.toNat < 16777216) : (mixB x y).toNat = x.toNat * 256 + y.toNat := by
 have hy := y.toNat_lt
 unfold mixB
 rw [UInt32.toNat_or, UInt32.toNat_shiftLeft, UInt8.toNat_toUInt32]
 have h8 : (UInt32.ofNat 8).toNat % 32 = 8 := rfl
 rw [h8, Nat.shiftLeft_eq, Nat.mod_eq_of_lt (by omega), ← Nat.shiftLeft_eq, ← Nat.shiftLeft_add_eq_or_of_lt (by omega), Nat.shiftLeft_eq]
theorem mix_q {x : UInt32} {y : UInt8} (h : x.toNat < 16777216) : qI (up x) * 256 + (y.toNat : Int) = qI (up (mixB x y)) ∧ qI (up (mixB x y)) < 4294967296 := by
 rw [qI_up, qI_up, mixB_add h]
 have hy := y.toNat_lt
 constructor <;> omega
/-! ### cells of 64 bits -/
def q64 (l : List UInt32) : List Value := l.map fun x => .int .u64 (qI (up x))
theorem q64_length (l : List UInt32) : (q64 l).length = l.length := by simp [q64]
theorem q64_get {l : List UInt32} {i : Nat} {x : UInt32} (h : l[i]? = some x) : (q64 l)[i]? = some (.int .u64 (qI (up x))) := by simp [q64, h]
theorem q64_set (l : List UInt32) (i : Nat) (x : UInt32) : (q64 l).toArray.setIfInBounds i (.int .u64 (qI (up x))) = (q64 (l.set i x)).toArray := by
 simp [q64, List.map_set]
theorem q64_arr {l : List UInt32} {i : Nat} {x : UInt32} (h : l[i]? = some x) : (q64 l).toArray[i]? = some (.int .u64 (qI (up x))) := by
 rw [List.getElem?_toArray]; exact q64_get h
theorem q64_one (l : List UInt32) : ∀ u ∈ q64 l, u.oneCell' = true := by
 intro u hu
 obtain ⟨_, _, rfl⟩ := List.mem_map.1 hu
 rfl
/-- words in a block -/
abbrev QBlk (w : World) (g : Nat) (l : List UInt32) : Prop := Blk w g 91 (q64 l).toArray
theorem QBlk.at {w : World} {g : Nat} {l : List UInt32} (h : QBlk w g l) {i : Nat} {x : UInt32} (hx : l[i]? = some x) : w.cell? ⟨g, i, none⟩ = some (.int .u64 (qI (up x))) := (Blk.cell h i).trans (q64_arr hx)
theorem QBlk.put {w : World} {g : Nat} {l : List UInt32} (h : QBlk w g l) (i : Nat) (x : UInt32) : QBlk (w.setCell ⟨g, i, none⟩ (.int .u64 (qI (up x)))) g (l.set i x) := by
 have := Blk.set_ h i (.int .u64 (qI (up x)))
 rwa [q64_set] at this
theorem QBlk.sl {w : World} {g : Nat} {l : List UInt32} (h : QBlk w g l) {n : Nat} (hn : l.length = n) : Sl w 1 (some ⟨g, 0, none⟩) n (q64 l) :=
 ⟨by rw [q64_length]; omega, fun _ => ⟨g, 0, rfl, Blk.lt h, fun j u hu => by rw [Nat.zero_add]; exact (Blk.cell h j).trans (by rw [List.getElem?_toArray]; exact hu)⟩⟩
/-- words at the beginning of a block -/
structure QAt (w : World) (g : Nat) (l : List UInt32) : Prop where
 lt : g < w.heap.size
 cell : ∀ i x, l[i]? = some x → w.cell? ⟨g, i, none⟩ = some (.int .u64 (qI (up x)))
theorem QBlk.qat {w : World} {g : Nat} {l : List UInt32} (h : QBlk w g l) : QAt w g l := ⟨Blk.lt h, fun i x hx => QBlk.at h hx⟩
theorem QAt.same {w w' : World} {g : Nat} {l : List UInt32} (h : QAt w g l) (hs : Same w w') : QAt w' g l := ⟨by rw [hs.size]; exact h.lt, fun i x hx => (hs.cell _).trans (h.cell i x hx)⟩
theorem QAt.other {w : World} {g g' : Nat} {l : List UInt32} (h : QAt w g l) (hne : g ≠ g') (i : Nat) (u : Value) : QAt (w.setCell ⟨g', i, none⟩ u) g l :=
 ⟨Nat.lt_of_lt_of_le h.lt ((Below.refl 0 w).setCell (p := ⟨g', i, none⟩) (Nat.zero_le _) u).size, fun k x hx => by
  rw [World.cell?_setCell_other _ _ _ _ (fun e => hne (by injection e with e1; exact e1.symm))]
  exact h.cell k x hx⟩
theorem QAt.ofSl {w : World} {g n : Nat} {l : List UInt32} (h : Sl w 1 (some ⟨g, 0, none⟩) n (q64 l)) (hn : 0 < n) : QAt w g l := by
 obtain ⟨b, off, e, hb, hc⟩ := h.2 hn
 injection e with e
 injection e with e1 e2
 subst e1 e2
 exact ⟨hb, fun i x hx => by have := hc i _ (q64_get hx); rwa [Nat.zero_add] at this⟩
theorem elemU64 : ElemOf Tryz.prog 108 91 (.int .u64 0) 1 8 := ⟨Tryz.underlying108, by kernel_rfl, rfl, by decide⟩
/-- '[]byte(s)', as a buffer of the call's own -/
theorem stb_buf (W : World) (b : List UInt8) (hb : b.length ≤ maxLen) {base : Nat} (hbase : base ≤ W.heap.size) : ∃ c w1, stb W ⟨b.toArray⟩ = .ok (.slice (some ⟨W.heap.size, 0, none⟩) b.length c) w1 ∧ Buf w1 base (some ⟨W.heap.size, 0, none⟩) b.length c (bytesV b) ∧ Below base W w1 := by
 have hrun := run_bytes_of_string (P := Tryz.prog) W 9 38 5 ⟨b.toArray⟩ Tryz.underlying9 Tryz.underlying38 Tryz.underlying5
 have hs : (⟨b.toArray⟩ : ByteArray).size = b.length := by simp [ByteArray.size]
 rw [hs] at hrun
 have hge := grownCap_ge W b.length 0 5
 have hcm := grownCap_le_maxLen W b.length 0 5 hb
 have hsz : (bytesRow ⟨b.toArray⟩ (grownCap W b.length 0 5)).size = grownCap W b.length 0 5 := by
  unfold bytesRow
  simp [ByteArray.size]
  omega
 refine ⟨_, _, hrun, ⟨by simp [bytesV], hge, hcm, fun _ => ⟨W.heap.size, 0, rfl, hbase, by simp, fun j u hu => ?_, fun j hj => ?_⟩⟩, ((Below.refl _ _).drew).alloc hbase _⟩
 ·rw [Nat.zero_add, cell_of_row _ W.heap.size j _ 5 _ (heap_alloc_new W.drew _)]
  have hj := (List.getElem?_eq_some_iff.1 hu).1
  unfold bytesRow
  rw [Array.getElem?_append_left (by simpa [bytesV] using hj), ← hu]
  simp [bytesV]
 ·rw [Nat.zero_add, cell_of_row _ W.heap.size j _ 5 _ (heap_alloc_new W.drew _)]
  refine ⟨by rw [Array.getElem?_eq_getElem (by rw [hsz]; exact hj)]; rfl, ?_⟩
  unfold World.frozen?
  rw [show ((W.drew.alloc (.cells (bytesRow ⟨b.toArray⟩ (grownCap W b.length 0 5)) 5 ((bytesRow ⟨b.toArray⟩ (grownCap W b.length 0 5)).size, (bytesRow ⟨b.toArray⟩ (grownCap W b.length 0 5)).size + 1))).heap[W.heap.size]?) = _ from heap_alloc_new W.drew _]
  simp [hsz]
  omega
set_option maxRecDepth 100000 in
theorem parts_any (w : World) : Calls Tryz.prog 44 #[] w fun e w' => e = .returned (.slice (some ⟨w.heap.size, 0, none⟩) 64 64) ∧ QBlk w' w.heap.size shaK ∧ Below w.heap.size w w' := by
 go_enter Tryz.func44, Tryz.ntmps44
 go_wp2_with fail
 go_ret
 exact ⟨rfl, Blk.new w _ _, (Below.refl _ _).alloc (Nat.le_refl _) _⟩
theorem start_any (w : World) : Calls Tryz.prog 45 #[] w fun e w' => e = .returned (.slice (some ⟨w.heap.size, 0, none⟩) 8 8) ∧ QBlk w' w.heap.size shaH ∧ Below w.heap.size w w' := by
 go_enter Tryz.func45, Tryz.ntmps45
 go_wp2_with fail
 go_ret
 exact ⟨rfl, Blk.new w _ _, (Below.refl _ _).alloc (Nat.le_refl _) _⟩
/-- all turns that are made -/
theorem turn_lit (x : UInt32) (k : Int) (hk : k ∈ ([2, 6, 7, 11, 13, 17, 18, 19, 22, 25] : List Int)) (w : World) :
  Calls Tryz.prog 46 #[.int .u64 (qI (up x)), .int .i64 k] w fun e w' => e = .returned (.int .u64 (qI (up (rotr x k.natAbs)))) ∧ Same w w' := by
 have h : 1 ≤ k.natAbs ∧ k.natAbs ≤ 31 ∧ ((k.natAbs : Nat) : Int) = k := by
  simp only [List.mem_cons, List.not_mem_nil, or_false] at hk
  rcases hk with rfl | rfl | rfl | rfl | rfl | rfl | rfl | rfl | rfl | rfl <;> decide
 have := turn_any x k.natAbs h.1 h.2.1 w
 rwa [h.2.2] at this
theorem drop_lit (x : UInt32) (k : Int) (hk : k ∈ ([3, 10] : List Int)) (w : World) :
  Calls Tryz.prog 47 #[.int .u64 (qI (up x)), .int .i64 k] w fun e w' => e = .returned (.int .u64 (qI (up (x >>> UInt32.ofNat k.natAbs)))) ∧ w = w' := by
 have h : k.natAbs < 32 ∧ ((k.natAbs : Nat) : Int) = k := by
  simp only [List.mem_cons, List.not_mem_nil, or_false] at hk
  rcases hk with rfl | rfl <;> decide
 have := drop_any x k.natAbs h.1 w
 rwa [h.2] at this
theorem Sl.belowB {w w' : World} {sz n B : Nat} {A : Option Addr} {xs : List Value} (h : Sl w sz A n xs) (hb : Below B w w') (hB : w.heap.size = B) : Sl w' sz A n xs := by
 subst hB; exact h.below hb
theorem addTo_all {s V : List UInt32} (hs : s.length = 8) (hV : V.length = 8) : addTo s V 8 = addL s V := by
 obtain ⟨s0, s1, s2, s3, s4, s5, s6, s7, rfl⟩ := list8 hs
 obtain ⟨v0, v1, v2, v3, v4, v5, v6, v7, rfl⟩ := list8 hV
 exact addTo_8 _ _ _ _ _ _ _ _ _ _ _ _ _ _ _ _
theorem block_next {PD : List UInt8} {s : List UInt32} {a : Nat} (h : a + 64 ≤ PD.length) : blocksS s (PD.drop a) = blocksS (blockS s (PD.drop a)) (PD.drop (a + 64)) := by
 rw [blocksS_step (by rw [List.length_drop]; omega), blockS_take, List.drop_drop]
theorem mk64 (w : World) : (Instr.makeSlice 108 (.int .i64 64) (.int .i64 64)).run Tryz.prog w = .ok (.slice (some ⟨w.heap.size, 0, none⟩) 64 64) (w.alloc (.cells (q64 (List.replicate 64 0)).toArray 91)) := by
 have h := run_make_row' (P := Tryz.prog) 108 91 (.int .u64 0) 8 Tryz.underlying108 (by kernel_rfl) rfl .i64 .i64 64 (by omega) (by omega) w
 have e : madeCells #[.int .u64 0] 64 = (q64 (List.replicate 64 0)).toArray := by kernel_rfl
 rw [e] at h
 exact h
end Go.Proofs.YtgmbkcjihgphmaaGreat
