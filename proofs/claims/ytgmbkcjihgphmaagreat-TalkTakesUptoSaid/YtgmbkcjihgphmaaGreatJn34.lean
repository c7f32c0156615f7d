/- Contracts and laws for what the statement reaches, joined: TalkMade, TalkBulk. -/
import Derived.Test.YtgmbkcjihgphmaaGreatJn16
import Derived.Test.YtgmbkcjihgphmaaGreatJn21
import Derived.Test.YtgmbkcjihgphmaaGreatJn24
import Derived.Test.YtgmbkcjihgphmaaGreatJn26
import Derived.Test.YtgmbkcjihgphmaaGreatJn3
import Derived.Test.YtgmbkcjihgphmaaGreatJn9
import Derived.Deep.CutBlock
import Derived.Deep.DeepCutAuto
/- made. -/
set_option linter.unusedVariables false
set_option linter.unusedSimpArgs false
namespace Go.Proofs.YtgmbkcjihgphmaaGreat
open Go.RowKit
attribute [local go_sem ↓] bsId_eq cvt_eq bsRec_eq
theorem int_look {w : World} {av : Av} {A : Option Addr} {zs : List Int} {n i : Nat} (h : SlOf (intR .i64) w av A zs) (hl : zs.length = n) (hi : i < n) :
  ∃ b off z, A = some ⟨b, off, none⟩ ∧ b < w.heap.size ∧ w.cell? ⟨b, off + i, none⟩ = some (.int .i64 z) ∧ (Lit.int .i64 z).wf = true := by
 obtain ⟨b, off, cs, z, e, hb, hx, hr, hc⟩ := h.at hl hi
 obtain ⟨rfl, hw⟩ := hr
 refine ⟨b, off, z, e, hb, ?_, hw⟩
 have := hc 0 (.int .i64 z) rfl
 have e : off + i * (intR .i64).k + 0 = off + i := by show off + i * 1 + 0 = _; omega
 rwa [e] at this
def MadePost (W0 : World) (n : Nat) (e : Ending) (w' : World) : Prop :=
 ∃ Ao m co Bo mb cb rs bs, e = .returned (.tuple #[.slice Ao m co, .slice Bo mb cb]) ∧ MI W0 w' Ao m co Bo mb cb rs bs ∧ rs.length = n ∧ bs.length ≤ n
set_option maxRecDepth 100000 in
set_option maxHeartbeats 16000000 in
theorem made_any (A : Option Addr) (n c : Nat) (ms : List MkT) (W0 : World) (hs : SlOf mkR W0 no A ms) (hn : n = ms.length) (hn2 : n ≤ 1000000) (hb : ∀ x ∈ ms, x.2.1.length ≤ 1048576 ∧ x.2.2.1.length ≤ 1048576) :
  Calls Tryz.prog 5 #[.slice A n c] W0 (MadePost W0 n) := by
 have HS := Lib.hid hs
 have HN := Lib.hid hn.symm
 have HB := Lib.hid hb
 clear hs hn hb
 go_enter Tryz.func5, Tryz.ntmps5
 go_wp2_with fail
 go_loopw [4, 5, 19] (fun s4 s5 s19 wr => ∃ (k m co mb cb : Nat) (Ao Bo : Option Addr) (rs bs : List RecT), k ≤ n ∧ s19 = .int .i64 (k : Int) ∧ s4 = .slice Ao m co ∧ s5 = .slice Bo mb cb ∧ Hid (m = k ∧ mb ≤ k) ∧ Hid (MI W0 wr Ao m co Bo mb cb rs bs)) (fun s4 s5 s19 wr => n - (intOf s19).toNat)
 case atStart => exact ⟨0, 0, 0, 0, 0, none, none, [], [], by omega, rfl, rfl, rfl, Lib.hid ⟨rfl, by omega⟩, Lib.hid (MI.start W0)⟩
 case round =>
  obtain ⟨k, m, co, mb, cb, Ao, Bo, rs, bs, hk, rfl, rfl, rfl, HM, HI⟩ := hrel
  by_cases hlt : k < n
  ·have hltI : (k : Int) < (n : Int) := by omega
   obtain ⟨b1, o1, x, D, cd, L, cl, rfl, hb1, hx, hat, hd1, hd2, hd3, hl1, hl2, hl3⟩ := mk_look (HS.out.below HI.out.below) HN.out hlt
   have hbx := HB.out x (List.mem_of_getElem? hx)
   obtain ⟨kd, d, ls0, bo⟩ := x
   obtain ⟨nd, hnd⟩ : ∃ nd, nd = d.length := ⟨_, rfl⟩
   obtain ⟨nl, hnl⟩ : ∃ nl, nl = ls0.length := ⟨_, rfl⟩
   have hat2 : At wr ⟨b1, o1 + k * 4, none⟩ (mkK kd D nd cd L nl cl bo) := by rw [hnd, hnl]; exact hat
   clear hat
   have hbx2 : d.length ≤ 1048576 ∧ ls0.length ≤ 1048576 := hbx
   clear hbx
   obtain ⟨KX, hKX⟩ : ∃ KX, KX = mkK kd D nd cd L nl cl bo := ⟨_, rfl⟩
   have HDD := Lib.hid (show DataAt wr D nd cd d from ⟨by rw [hnd]; exact slOf_bytes hd3, by rw [hnd]; exact hd1, hd2, hnd.symm, by omega⟩)
   have HLL := Lib.hid (And.intro (show SlOf (intR .i64) wr no L ls0 from hl3) (show nl ≤ cl by rw [hnl]; exact hl1))
   have hnl2 : nl ≤ 1048576 := by omega
   have HNL := Lib.hid hnl.symm
   rw [← hKX] at hat2
   have HAT := Lib.hid hat2
   have HKI := Lib.hid (show (Tryz.prog.info? 63).map (·.size) = some KX.size by rw [hKX]; kernel_rfl)
   have HKO := Lib.hid (show KX.all (·.oneCell') = true by rw [hKX]; simp [mkK, Value.oneCell'])
   have HKZ := Lib.hid (show (mkK 0 none 0 0 none 0 0 false).size = KX.size by rw [hKX]; rfl)
   have HNB := Lib.hid (Blk.new wr 63 (mkK 0 none 0 0 none 0 0 false))
   have HKX := Lib.hid hKX
   clear hx hat2 hd1 hd2 hd3 hl1 hl2 hl3 hbx2 hnd hnl hKX
   go_upto_region 5 with (first | (refine wpList_load_at rfl _ _ rfl b1 (o1 + k * 4) rfl KX _ HAT.out Tryz.underlying63 rfl HKI.out ?_) | (refine wpList_store_row rfl _ _ _ rfl wr.heap.size KX rfl rfl 63 _ HNB.out HKI.out HKZ.out HKO.out ?_) | fail)
   rw [World.setRow_alloc_new]
   go_frame
   change Code.wp _ _ _ _ (wr.alloc (.cells KX 63))
   have hba : Below wr.heap.size wr (wr.alloc (.cells KX 63)) := (Below.refl _ _).alloc (Nat.le_refl _) _
   have HOG := Lib.hid (show ∀ b, own (.slice Ao m co) b → b < wr.heap.size from fun b hb => (HI.out.out.lt hb).2)
   have HI1 := Lib.hid (HI.out.go hba)
   have HD1 := Lib.hid (show DataAt (wr.alloc (.cells KX 63)) D nd cd d from ⟨HDD.out.sl.below hba, HDD.out.cap, HDD.out.max, HDD.out.len, HDD.out.small⟩)
   have HL1 := Lib.hid (show SlOf (intR .i64) (wr.alloc (.cells KX 63)) no L ls0 from HLL.out.1.below hba)
   have HK1 := Blk.new wr 63 KX
   have HGL := HK1.lt
   generalize hG : wr.heap.size = g at *
   generalize wr.alloc (.cells KX 63) = w1 at *
   have c0 : w1.cell? ⟨g, 0, none⟩ = some (.int .i64 kd) := by rw [HK1.cell 0, HKX.out]; rfl
   have c1 : w1.cell? ⟨g, 1, none⟩ = some (.slice D nd cd) := by rw [HK1.cell 1, HKX.out]; rfl
   have c2 : w1.cell? ⟨g, 2, none⟩ = some (.slice L nl cl) := by rw [HK1.cell 2, HKX.out]; rfl
   have c3 : w1.cell? ⟨g, 3, none⟩ = some (.bool bo) := by rw [HK1.cell 3, HKX.out]; rfl
   have HC1 := Lib.hid c1
   have HC0 := Lib.hid c0
   have HC3 := Lib.hid c3
   clear HI hba HDD HAT HNB hG HK1 HKX HKI HKO HKZ
   clear HLL
   obtain ⟨wL, rfl⟩ : ∃ wo : World, wo = wr := ⟨_, rfl⟩
   have HM1 := Lib.hid (show m = rs.length from HI1.out.len)
   go_wp2_with fail
   go_loopw [8, 26] (fun s8 s26 wr => ∃ (j ml cl2 : Nat) (Al : Option Addr) (ls : List (List UInt8)), j ≤ nl ∧ s26 = .int .i64 (j : Int) ∧ s8 = .slice Al ml cl2 ∧ Hid (ml ≤ j) ∧ Hid (RowR oidR 33 wr w1.heap.size Al ml cl2 ls) ∧ Hid (Below w1.heap.size w1 wr)) (fun s8 s26 wr => nl - (intOf s26).toNat)
   case atStart => exact ⟨0, 0, 0, none, [], by omega, rfl, rfl, Lib.hid (Nat.le_refl _), Lib.hid (RowR.nil _ _ _ _), Lib.hid (Below.refl _ _)⟩
   case round =>
    obtain ⟨j, ml, cl2, Al, ls, hj, rfl, rfl, HML, HRL, HBL⟩ := hrel
    by_cases hjl : j < nl
    ·have hjI : (j : Int) < (nl : Int) := by omega
     obtain ⟨b2, o2, z, rfl, hb2, hc, hw⟩ := int_look (HL1.out.below HBL.out) HNL.out hjl
     by_cases hz0 : 0 ≤ z ∧ z < (m : Int)
     ·obtain ⟨zn, rfl⟩ : ∃ zn : Nat, z = (zn : Int) := ⟨z.toNat, by omega⟩
      have hz1 : (zn : Int) < (m : Int) := hz0.2
      have hzm : zn < m := by omega
      obtain ⟨b3, o3, r, hAo, hb3, hr, h32, hat, _⟩ := recs_look (HI1.out.out.sl.below HBL.out) HM1.out.symm hzm
      obtain ⟨KB, hKB⟩ : ∃ KB, KB = (bytesV r.1).toArray := ⟨_, rfl⟩
      have HKB := Lib.hid (show (Tryz.prog.info? 33).map (·.size) = some KB.size by rw [hKB]; exact oid_size h32)
      have hks : KB.size = 32 := by rw [hKB]; simp [bytesV_length, h32]
      rw [← hKB] at hat
      have HAT := Lib.hid hat
      have hbs := fun w => bsId_of w KB hks
      obtain ⟨A5, c5, w5, hrun, HR5, hb5, _, _, _, _⟩ := HRL.out.push elemId HBL.out.size (av := fun _ => True) (oid_of wr _ h32) (fun _ _ _ => trivial) (by have := HML.out; omega) (by have := HML.out; simp only [maxLen]; omega) 46 1
      rw [← hKB] at hrun
      have HB5 := Lib.hid (HBL.out.trans hb5)
      have HR5 := Lib.hid HR5
      subst hAo
      clear hr hat hKB hks hb5 HRL hz0 hzm h32
      go_wp2_with (first
       | (refine wpList_load_at rfl _ _ rfl b3 (o3 + zn * 33) rfl KB _ HAT.out Tryz.underlying33 rfl HKB.out ?_)
       | (refine wpList_build1 rfl (.tmp 43) rfl (.agg KB) _ rfl (hbs _) ?_)
       | (at_builtin; refine wpList_run_append hrun ?_ ?_ ?_; exact rfl; exact rfl)
       | fail)
      go_roundw
      case rel => exact ⟨j + 1, ml + 1, c5, A5, ls ++ [r.1], by omega, by go_num, rfl, Lib.hid (by have := HML.out; omega), HR5, HB5⟩
      case measure => simp [intOf]; omega
     ·have hq : (¬ (0 : Int) ≤ z) ∨ ((0 : Int) ≤ z ∧ ¬ z < (m : Int)) := by omega
      clear hz0
      rcases hq with q1 | ⟨q1, q2⟩
      all_goals
       go_wp2_with fail
       go_roundw
       case rel => exact ⟨j + 1, ml, cl2, Al, ls, by omega, by go_num, rfl, Lib.hid (by have := HML.out; omega), HRL, HBL⟩
       case measure => simp [intOf]; omega
    ·have hjI : ¬ (j : Int) < (nl : Int) := by omega
     have hml : ml ≤ 1048576 := by have := HML.out; omega
     have HD2 := Lib.hid (show DataAt wr D nd cd d from ⟨HD1.out.sl.below HBL.out, HD1.out.cap, HD1.out.max, HD1.out.len, HD1.out.small⟩)
     have d0 := (HBL.out.cell (p := ⟨g, 0, none⟩) HGL).trans HC0.out
     have d1 := (HBL.out.cell (p := ⟨g, 1, none⟩) HGL).trans HC1.out
     have d3 := (HBL.out.cell (p := ⟨g, 3, none⟩) HGL).trans HC3.out
     have HD3 := Lib.hid d3
     have HI2 := Lib.hid (HI1.out.go HBL.out)
     have HBB := Lib.hid (show w1.heap.size ≤ wr.heap.size from HBL.out.size)
     have HRL2 := Lib.hid (show SlOf oidR wr no Al ls from HRL.out.sl)
     have HLL2 := Lib.hid (show ml = ls.length ∧ ml ≤ cl2 ∧ cl2 ≤ maxLen from ⟨HRL.out.len, HRL.out.cap⟩)
     clear HI1 HRL HBL HC0 HC1 HC3 HD1 c0 c1 c2 c3 HL1
     go_upto_block 4 with fail
     go_cut [11] (fun v wx => ∃ (D : Option Addr) (nd cd : Nat) (d : List UInt8), v = .slice D nd cd ∧ Hid (DataAt wx D nd cd d) ∧ Hid (Below wr.heap.size wr wx))
     case first =>
      by_cases hk0 : kd = 0
      ·subst hk0
       have HP := Lib.hid (putChunk_any D nd cd d wr HD2.out.sl HD2.out.cap HD2.out.max)
       clear HI2 HRL2 HLL2 HD2 HD3
       go_wp2_with fail
       refine HP.out.mono ?_
       rintro e w5 hp
       obtain ⟨A5, m5, c5, o5, z5, rfl, hda, hb5⟩ := enc_data hp (fun o h => chunk_len h)
       have HDA := Lib.hid hda
       have HB5 := Lib.hid hb5
       clear hp hda hb5
       go_wp2_with fail
       go_meet
       case rel => exact ⟨A5, m5, c5, o5, rfl, HDA, HB5⟩
      by_cases hk1 : kd = 1
      ·subst hk1
       clear hk0
       have hcap := HD2.out.cap
       obtain ⟨mn, hmn⟩ : ∃ mn, mn = min nd 100 := ⟨_, rfl⟩
       have hmc : mn ≤ cd := by omega
       have hmcI : (mn : Int) ≤ (cd : Int) := by omega
       obtain ⟨sq, hsq⟩ : ∃ sq : ByteArray, sq = ⟨(d.take mn).toArray⟩ := ⟨_, rfl⟩
       have hcv : cvt wr D mn cd = .ok (.string sq) wr := by
        rw [hsq]
        have h := HD2.out.sl.upto (k := mn) (by omega)
        rw [Nat.mul_one, bytesV_take] at h
        exact cvt_of h cd
       obtain ⟨KC, hKC⟩ : ∃ KC, KC = comK zId none 0 0 0 ⟨#[]⟩ sq := ⟨_, rfl⟩
       have HBU := Lib.hid (show Tryz.prog.built 66 [(4, .string sq)] = some KC by rw [hKC]; kernel_rfl)
       have HIC := Lib.hid (show (Tryz.prog.info? 66).map (·.size) = some KC.size by rw [hKC, comK_size (by simp)]; exact com_info)
       have HOC := Lib.hid (show KC.all (·.oneCell') = true by rw [hKC]; exact comK_one _ _ _ _ _ _ _)
       have HZC := Lib.hid (show zCom.size = KC.size by rw [hKC, comK_size (by simp), comK_size (by simp)])
       have HNB := Lib.hid (Blk.new wr 66 zCom)
       have HKC := Lib.hid hKC
       have HSZ := Lib.hid (show sq.size ≤ maxLen by rw [hsq]; simp [ByteArray.size, maxLen]; omega)
       have hq : (¬ (100 : Int) < (nd : Int) ∧ mn = nd) ∨ ((100 : Int) < (nd : Int) ∧ mn = 100) := by omega
       have hba : Below wr.heap.size wr (wr.alloc (.cells KC 66)) := (Below.refl _ _).alloc (Nat.le_refl _) _
       have HB5 := Lib.hid hba
       have HK5 := Lib.hid (Blk.new wr 66 KC)
       have HRL5 := Lib.hid (HRL2.out.stable (moves_new wr (.cells KC 66)))
       clear hmn hsq hKC HI2 HRL2 HD2 HD3 hba
       have hM : ∀ (Kx : Array Value) (A' : Option Addr) (n' : Nat) (c' : Nat) (tr : List UInt8) (ps : List (List UInt8)) (W : World), Kx = comK tr A' n' c' 0 ⟨#[]⟩ sq → tr.length = 32 → SlOf oidR W no A' ps → n' = ps.length → n' ≤ c' → c' ≤ maxLen → Calls Tryz.prog 22 #[.agg Kx] W fun e w' => ∃ A m c o z, e = .returned (.tuple #[.slice A m c, .int .i64 z]) ∧ DataAt w' A m c o ∧ Below W.heap.size W w' := by
        intro Kx A' n' c' tr ps W h1 h2 h3 h4 h5 h6
        rw [h1]
        exact (putCommit_any A' n' c' tr ps 0 ⟨#[]⟩ sq W h2 h3 h4 h5 h6 (by decide) (by simp [ByteArray.size, maxLen]) HSZ.out).mono fun e w' hp => enc_data hp (fun o h => com_len h)
       have HCM := Lib.hid hM
       clear hM
       rcases hq with ⟨hq1, rfl⟩ | ⟨hq1, rfl⟩
       all_goals
        go_upto_region 18 with (first
         | (refine wpList_built1 rfl 66 (.tmp 68) rfl KC rfl HBU.out ?_)
         | (refine wpList_store_row rfl _ _ _ rfl wr.heap.size KC rfl rfl 66 _ HNB.out HIC.out HZC.out HOC.out ?_) | fail)
        rw [World.setRow_alloc_new]
        go_frame
        change Code.wp _ _ _ _ (wr.alloc (.cells KC 66))
        generalize hgc : wr.heap.size = gc at *
        have HGC := Lib.hid hgc
        generalize wr.alloc (.cells KC 66) = w5 at *
        clear HNB HBU HZC HOC hcv hq1 hgc
        by_cases hml0 : ml = 0
        ·subst hml0
         have HCM2 := Lib.hid (HCM.out KC none 0 0 zId [] w5 HKC.out (by simp) SlOf.nil rfl (Nat.le_refl _) (by simp [maxLen]))
         go_wp2_with (first
          | (refine wpList_load_at rfl _ _ rfl gc 0 rfl KC _ (At.of_row HK5.out) Tryz.underlying66 rfl HIC.out ?_) | fail)
         refine HCM2.out.mono ?_
         rintro e w6 ⟨A5, m5, c5, o5, z5, rfl, hda, hb6⟩
         have HDA := Lib.hid hda
         have HB6 := Lib.hid (HB5.out.trans (hb6.mono (by have := HB5.out.size; have := HGC.out; omega)))
         clear hda hb6
         go_wp2_with fail
         go_meet
         case rel => exact ⟨A5, m5, c5, o5, rfl, HDA, by first | exact HB6 | (rw [HGC.out]; exact HB6)⟩
        ·have hml1 : (0 : Int) < (ml : Int) := by omega
         obtain ⟨b3, o3, oi, rfl, hb3, hoi, h32o, hat⟩ := oids_look HRL5.out HLL2.out.1.symm (i := 0) (by omega)
         obtain ⟨KB, hKB⟩ : ∃ KB, KB = (bytesV oi).toArray := ⟨_, rfl⟩
         have HAT := Lib.hid (show At w5 ⟨b3, o3, none⟩ KB by rw [hKB]; simpa using hat)
         have HIB := Lib.hid (show (Tryz.prog.info? 33).map (·.size) = some KB.size by rw [hKB]; exact oid_size h32o)
         have HOB := Lib.hid (show KB.all (·.oneCell') = true by rw [hKB]; exact oid_one _)
         have hKB32 : KB.size = 32 := by rw [hKB]; simp [bytesV, h32o]
         have HSP := Lib.hid (show 0 + KB.size ≤ KC.size by rw [hKB32, HKC.out, comK_size (by simp)]; omega)
         obtain ⟨K2, hK2⟩ : ∃ K2, K2 = comK oi none 0 0 0 ⟨#[]⟩ sq := ⟨_, rfl⟩
         have HKK := Lib.hid (show (KC.toList.take 0 ++ KB.toList ++ KC.toList.drop (0 + KB.size)).toArray = K2 by
          rw [hKB32, hKB, HKC.out, hK2]
          show ([] ++ bytesV oi ++ (bytesV zId ++ [Value.slice none 0 0, Value.float .f64 0, Value.string ⟨#[]⟩, Value.string sq]).drop 32).toArray = _
          rw [List.drop_append_of_le_length (by simp [bytesV]), List.drop_of_length_le (by simp [bytesV])]; rfl)
         have HK2 := Lib.hid hK2
         have hmw : ml ≤ cl2 := HLL2.out.2.1
         have HMX := Lib.hid HLL2.out.2.2
         have hcs : (ml = 1 ∧ cl2 = 1) ∨ (ml = 1 ∧ ¬ cl2 = 1) ∨ (ml = 2 ∧ ¬ cl2 = 1) ∨ (2 < ml ∧ ¬ cl2 = 1) := by omega
         have HLS := Lib.hid HLL2.out.1
         clear hat hKB hK2 hoi HLL2
         go_upto_region 20 with (first
          | (refine wpList_load_at rfl _ _ rfl b3 o3 rfl KB _ HAT.out Tryz.underlying33 rfl HIB.out ?_)
          | (refine wpList_store_part rfl 33 _ _ rfl gc 0 KB rfl rfl 66 KC HK5.out HIB.out HSP.out HOB.out ?_) | fail)
         rw [HKK.out]
         go_frame
         change Code.wp _ _ _ _ (w5.setRow gc K2)
         have HB6 := Lib.hid (show Below gc wr (w5.setRow gc K2) from below_setRow HB5.out (Nat.le_refl gc) K2)
         have HK6 := Lib.hid (show Blk (w5.setRow gc K2) gc 66 K2 from setRow_heap _ gc _ K2 _ _ HK5.out)
         have HRL6 := Lib.hid (HRL5.out.stable (moves_at (grown_row w5 gc K2)))
         generalize w5.setRow gc K2 = w6 at *
         have v0 : w6.cell? ⟨gc, 32, none⟩ = some (.slice none 0 0) := by rw [HK6.out.cell 32, HK2.out]; exact (comK_get h32o _ _ _ _ _ _).1
         have f0 := HK6.out.frozen 32
         clear HB5 HK5 HRL5 HAT HIB HOB HSP HKK HIC HKC
         rcases hcs with hcs | hcs | hcs | hcs
         all_goals obtain ⟨hma, hmb⟩ := hcs
         ·subst hma
          subst hmb
          have HB7 := Lib.hid (show Below gc wr (w6.setCell ⟨gc, 32, none⟩ (.slice (some ⟨b3, o3, none⟩) 0 0)) from HB6.out.setCell (p := ⟨gc, 32, none⟩) (Nat.le_refl gc) _)
          obtain ⟨K7, hK7⟩ : ∃ K7, K7 = comK oi (some ⟨b3, o3, none⟩) 0 0 0 ⟨#[]⟩ sq := ⟨_, rfl⟩
          have HK7 := Lib.hid (show Blk (w6.setCell ⟨gc, 32, none⟩ (.slice (some ⟨b3, o3, none⟩) 0 0)) gc 66 K7 by
           have h := HK6.out.set_ 32 (.slice (some ⟨b3, o3, none⟩) 0 0)
           rw [HK2.out, comK_setsl h32o] at h
           rw [hK7]; exact h)
          have HI7 := Lib.hid (show (Tryz.prog.info? 66).map (·.size) = some K7.size by rw [hK7, comK_size h32o]; exact com_info)
          have HPS := Lib.hid (show ∃ ps, SlOf oidR (w6.setCell ⟨gc, 32, none⟩ (.slice (some ⟨b3, o3, none⟩) 0 0)) no (some ⟨b3, o3, none⟩) ps ∧ 0 = ps.length ∧ 0 ≤ 0 by
           exact ⟨[], SlOf.nil, rfl, Nat.zero_le _⟩)
          obtain ⟨ps, hps1, hps2, hps3⟩ := HPS.out
          have HC7 := Lib.hid (HCM.out K7 (some ⟨b3, o3, none⟩) 0 0 oi ps _ hK7 h32o hps1 hps2 hps3 (by have := HMX.out; (simp [maxLen])))
          clear HPS hps1 hps2 hps3 hK7 HRL6
          go_upto_region 21 with fail
          change Code.wp _ _ _ _ (w6.setCell ⟨gc, 32, none⟩ (.slice (some ⟨b3, o3, none⟩) 0 0))
          generalize w6.setCell ⟨gc, 32, none⟩ (.slice (some ⟨b3, o3, none⟩) 0 0) = w7 at *
          go_wp2_with (first
           | (refine wpList_load_at rfl _ _ rfl gc 0 rfl K7 _ (At.of_row HK7.out) Tryz.underlying66 rfl HI7.out ?_) | fail)
          refine HC7.out.mono ?_
          rintro e w8 ⟨A5, m5, c5, o5, z5, rfl, hda, hb8⟩
          have HDA := Lib.hid hda
          have HB8 := Lib.hid (HB7.out.trans (hb8.mono (by have := HK7.out.lt; omega)))
          clear hda hb8
          go_wp2_with fail
          go_meet
          case rel => exact ⟨A5, m5, c5, o5, rfl, HDA, by first | exact HB8 | (rw [HGC.out]; exact HB8)⟩
         ·subst hma
          have HB7 := Lib.hid (show Below gc wr (w6.setCell ⟨gc, 32, none⟩ (.slice (some ⟨b3, o3 + 32, none⟩) 0 (cl2 - 1))) from HB6.out.setCell (p := ⟨gc, 32, none⟩) (Nat.le_refl gc) _)
          obtain ⟨K7, hK7⟩ : ∃ K7, K7 = comK oi (some ⟨b3, o3 + 32, none⟩) 0 (cl2 - 1) 0 ⟨#[]⟩ sq := ⟨_, rfl⟩
          have HK7 := Lib.hid (show Blk (w6.setCell ⟨gc, 32, none⟩ (.slice (some ⟨b3, o3 + 32, none⟩) 0 (cl2 - 1))) gc 66 K7 by
           have h := HK6.out.set_ 32 (.slice (some ⟨b3, o3 + 32, none⟩) 0 (cl2 - 1))
           rw [HK2.out, comK_setsl h32o] at h
           rw [hK7]; exact h)
          have HI7 := Lib.hid (show (Tryz.prog.info? 66).map (·.size) = some K7.size by rw [hK7, comK_size h32o]; exact com_info)
          have HPS := Lib.hid (show ∃ ps, SlOf oidR (w6.setCell ⟨gc, 32, none⟩ (.slice (some ⟨b3, o3 + 32, none⟩) 0 (cl2 - 1))) no (some ⟨b3, o3 + 32, none⟩) ps ∧ 0 = ps.length ∧ 0 ≤ (cl2 - 1) by
           exact ⟨[], SlOf.nil, rfl, Nat.zero_le _⟩)
          obtain ⟨ps, hps1, hps2, hps3⟩ := HPS.out
          have HC7 := Lib.hid (HCM.out K7 (some ⟨b3, o3 + 32, none⟩) 0 (cl2 - 1) oi ps _ hK7 h32o hps1 hps2 hps3 (by have := HMX.out; omega))
          clear HPS hps1 hps2 hps3 hK7 HRL6
          go_upto_region 21 with fail
          change Code.wp _ _ _ _ (w6.setCell ⟨gc, 32, none⟩ (.slice (some ⟨b3, o3 + 32, none⟩) 0 (cl2 - 1)))
          generalize w6.setCell ⟨gc, 32, none⟩ (.slice (some ⟨b3, o3 + 32, none⟩) 0 (cl2 - 1)) = w7 at *
          go_wp2_with (first
           | (refine wpList_load_at rfl _ _ rfl gc 0 rfl K7 _ (At.of_row HK7.out) Tryz.underlying66 rfl HI7.out ?_) | fail)
          refine HC7.out.mono ?_
          rintro e w8 ⟨A5, m5, c5, o5, z5, rfl, hda, hb8⟩
          have HDA := Lib.hid hda
          have HB8 := Lib.hid (HB7.out.trans (hb8.mono (by have := HK7.out.lt; omega)))
          clear hda hb8
          go_wp2_with fail
          go_meet
          case rel => exact ⟨A5, m5, c5, o5, rfl, HDA, by first | exact HB8 | (rw [HGC.out]; exact HB8)⟩
         ·subst hma
          have HB7 := Lib.hid (show Below gc wr (w6.setCell ⟨gc, 32, none⟩ (.slice (some ⟨b3, o3 + 32, none⟩) 1 (cl2 - 1))) from HB6.out.setCell (p := ⟨gc, 32, none⟩) (Nat.le_refl gc) _)
          obtain ⟨K7, hK7⟩ : ∃ K7, K7 = comK oi (some ⟨b3, o3 + 32, none⟩) 1 (cl2 - 1) 0 ⟨#[]⟩ sq := ⟨_, rfl⟩
          have HK7 := Lib.hid (show Blk (w6.setCell ⟨gc, 32, none⟩ (.slice (some ⟨b3, o3 + 32, none⟩) 1 (cl2 - 1))) gc 66 K7 by
           have h := HK6.out.set_ 32 (.slice (some ⟨b3, o3 + 32, none⟩) 1 (cl2 - 1))
           rw [HK2.out, comK_setsl h32o] at h
           rw [hK7]; exact h)
          have HI7 := Lib.hid (show (Tryz.prog.info? 66).map (·.size) = some K7.size by rw [hK7, comK_size h32o]; exact com_info)
          have HPS := Lib.hid (show ∃ ps, SlOf oidR (w6.setCell ⟨gc, 32, none⟩ (.slice (some ⟨b3, o3 + 32, none⟩) 1 (cl2 - 1))) no (some ⟨b3, o3 + 32, none⟩) ps ∧ 1 = ps.length ∧ 1 ≤ (cl2 - 1) by
           have h1 := (HRL6.out.stable (moves_at (grown_set w6 gc 32 (.slice (some ⟨b3, o3 + 32, none⟩) 1 (cl2 - 1))))).forget
           have h2 := h1.upto (k := 2) HLS.out.symm (by omega)
           have h3 := h2.from (n := 2) (k := 1) (c := cl2) (by rw [List.length_take]; have := HLS.out; omega) (by omega) (by omega)
           rw [if_neg hmb] at h3
           have h4 : (Option.map (fun x : Addr => x.add (1 * oidR.k)) (some ⟨b3, o3, none⟩)) = some ⟨b3, o3 + 32, none⟩ := by
            show some (Addr.add ⟨b3, o3, none⟩ (1 * 32)) = _
            rw [addr_add]
           rw [h4] at h3
           exact ⟨_, h3, by rw [List.length_drop, List.length_take]; have := HLS.out; omega, by omega⟩)
          obtain ⟨ps, hps1, hps2, hps3⟩ := HPS.out
          have HC7 := Lib.hid (HCM.out K7 (some ⟨b3, o3 + 32, none⟩) 1 (cl2 - 1) oi ps _ hK7 h32o hps1 hps2 hps3 (by have := HMX.out; omega))
          clear HPS hps1 hps2 hps3 hK7 HRL6
          go_upto_region 21 with fail
          change Code.wp _ _ _ _ (w6.setCell ⟨gc, 32, none⟩ (.slice (some ⟨b3, o3 + 32, none⟩) 1 (cl2 - 1)))
          generalize w6.setCell ⟨gc, 32, none⟩ (.slice (some ⟨b3, o3 + 32, none⟩) 1 (cl2 - 1)) = w7 at *
          go_wp2_with (first
           | (refine wpList_load_at rfl _ _ rfl gc 0 rfl K7 _ (At.of_row HK7.out) Tryz.underlying66 rfl HI7.out ?_) | fail)
          refine HC7.out.mono ?_
          rintro e w8 ⟨A5, m5, c5, o5, z5, rfl, hda, hb8⟩
          have HDA := Lib.hid hda
          have HB8 := Lib.hid (HB7.out.trans (hb8.mono (by have := HK7.out.lt; omega)))
          clear hda hb8
          go_wp2_with fail
          go_meet
          case rel => exact ⟨A5, m5, c5, o5, rfl, HDA, by first | exact HB8 | (rw [HGC.out]; exact HB8)⟩
         ·have hmI : (2 : Int) < (ml : Int) := by omega
          have HB7 := Lib.hid (show Below gc wr (w6.setCell ⟨gc, 32, none⟩ (.slice (some ⟨b3, o3 + 32, none⟩) 1 (cl2 - 1))) from HB6.out.setCell (p := ⟨gc, 32, none⟩) (Nat.le_refl gc) _)
          obtain ⟨K7, hK7⟩ : ∃ K7, K7 = comK oi (some ⟨b3, o3 + 32, none⟩) 1 (cl2 - 1) 0 ⟨#[]⟩ sq := ⟨_, rfl⟩
          have HK7 := Lib.hid (show Blk (w6.setCell ⟨gc, 32, none⟩ (.slice (some ⟨b3, o3 + 32, none⟩) 1 (cl2 - 1))) gc 66 K7 by
           have h := HK6.out.set_ 32 (.slice (some ⟨b3, o3 + 32, none⟩) 1 (cl2 - 1))
           rw [HK2.out, comK_setsl h32o] at h
           rw [hK7]; exact h)
          have HI7 := Lib.hid (show (Tryz.prog.info? 66).map (·.size) = some K7.size by rw [hK7, comK_size h32o]; exact com_info)
          have HPS := Lib.hid (show ∃ ps, SlOf oidR (w6.setCell ⟨gc, 32, none⟩ (.slice (some ⟨b3, o3 + 32, none⟩) 1 (cl2 - 1))) no (some ⟨b3, o3 + 32, none⟩) ps ∧ 1 = ps.length ∧ 1 ≤ (cl2 - 1) by
           have h1 := (HRL6.out.stable (moves_at (grown_set w6 gc 32 (.slice (some ⟨b3, o3 + 32, none⟩) 1 (cl2 - 1))))).forget
           have h2 := h1.upto (k := 2) HLS.out.symm (by omega)
           have h3 := h2.from (n := 2) (k := 1) (c := cl2) (by rw [List.length_take]; have := HLS.out; omega) (by omega) (by omega)
           rw [if_neg hmb] at h3
           have h4 : (Option.map (fun x : Addr => x.add (1 * oidR.k)) (some ⟨b3, o3, none⟩)) = some ⟨b3, o3 + 32, none⟩ := by
            show some (Addr.add ⟨b3, o3, none⟩ (1 * 32)) = _
            rw [addr_add]
           rw [h4] at h3
           exact ⟨_, h3, by rw [List.length_drop, List.length_take]; have := HLS.out; omega, by omega⟩)
          obtain ⟨ps, hps1, hps2, hps3⟩ := HPS.out
          have HC7 := Lib.hid (HCM.out K7 (some ⟨b3, o3 + 32, none⟩) 1 (cl2 - 1) oi ps _ hK7 h32o hps1 hps2 hps3 (by have := HMX.out; omega))
          clear HPS hps1 hps2 hps3 hK7 HRL6
          go_upto_region 21 with fail
          change Code.wp _ _ _ _ (w6.setCell ⟨gc, 32, none⟩ (.slice (some ⟨b3, o3 + 32, none⟩) 1 (cl2 - 1)))
          generalize w6.setCell ⟨gc, 32, none⟩ (.slice (some ⟨b3, o3 + 32, none⟩) 1 (cl2 - 1)) = w7 at *
          go_wp2_with (first
           | (refine wpList_load_at rfl _ _ rfl gc 0 rfl K7 _ (At.of_row HK7.out) Tryz.underlying66 rfl HI7.out ?_) | fail)
          refine HC7.out.mono ?_
          rintro e w8 ⟨A5, m5, c5, o5, z5, rfl, hda, hb8⟩
          have HDA := Lib.hid hda
          have HB8 := Lib.hid (HB7.out.trans (hb8.mono (by have := HK7.out.lt; omega)))
          clear hda hb8
          go_wp2_with fail
          go_meet
          case rel => exact ⟨A5, m5, c5, o5, rfl, HDA, by first | exact HB8 | (rw [HGC.out]; exact HB8)⟩
      by_cases hk2 : kd = 2
      ·subst hk2
       clear hk0 hk1
       clear HI2 HD2 HD3
       have HLS := Lib.hid HLL2.out.1
       clear HLL2
       obtain ⟨w2, hw2⟩ : ∃ w2 : World, w2 = wr := ⟨_, rfl⟩
       have HW2 := Lib.hid hw2
       have HRLw := Lib.hid (show SlOf oidR w2 no Al ls by rw [hw2]; exact HRL2.out)
       rw [← hw2]
       rw [← hw2] at d0 d1 d3
       clear HRL2
       go_upto_region 24 with fail
       go_wp2_with fail
       go_loopw [13, 92] (fun s13 s92 wr => ∃ (q me ce : Nat) (Ae : Option Addr) (es : List EntT), q ≤ ml ∧ s92 = .int .i64 (q : Int) ∧ s13 = .slice Ae me ce ∧ Hid (me ≤ q ∧ ∀ x ∈ es, x.1.size ≤ 1) ∧ Hid (RowR entR 70 wr w2.heap.size Ae me ce es) ∧ Hid (Below w2.heap.size w2 wr)) (fun s13 s92 wr => ml - (intOf s92).toNat)
       case atStart => exact ⟨0, 0, 0, none, [], by omega, rfl, rfl, Lib.hid ⟨Nat.le_refl _, fun _ h => (nomatch h)⟩, Lib.hid (RowR.nil _ _ _ _), Lib.hid (by rw [HW2.out]; exact Below.refl _ _)⟩
       case round =>
        obtain ⟨q, me, ce, Ae, es, hq, rfl, rfl, HME, HRE, HBE⟩ := hrel
        by_cases hql : q < ml
        ·have hqI : (q : Int) < (ml : Int) := by omega
         obtain ⟨b3, o3, oi, rfl, hb3, hoi, h32o, hat⟩ := oids_look (HRLw.out.below HBE.out) HLS.out.symm hql
         obtain ⟨KB, hKB⟩ : ∃ KB, KB = (bytesV oi).toArray := ⟨_, rfl⟩
         rw [← hKB] at hat
         have HAT := Lib.hid hat
         have HIB := Lib.hid (show (Tryz.prog.info? 33).map (·.size) = some KB.size by rw [hKB]; exact oid_size h32o)
         have HOB := Lib.hid (show KB.all (·.oneCell') = true by rw [hKB]; exact oid_one _)
         have HZB := Lib.hid (show zID.size = KB.size by rw [hKB]; simp [bytesV, h32o])
         have HNB := Lib.hid (Blk.new wr 33 zID)
         have hba : Below wr.heap.size wr (wr.alloc (.cells KB 33)) := (Below.refl _ _).alloc (Nat.le_refl _) _
         have HB5 := Lib.hid (HBE.out.trans (hba.mono HBE.out.size))
         have HR5 := Lib.hid (HRE.out.below hba)
         have HK5 := Lib.hid (Blk.new wr 33 KB)
         have HOE := Lib.hid (show ∀ b, own (.slice Ae me ce) b → b < wr.heap.size from fun b hb => (HRE.out.lt hb).2)
         have HKBe := Lib.hid hKB
         clear hat hoi hKB hba HRE
         go_upto_region 27 with (first
          | (refine wpList_load_at rfl _ _ rfl b3 (o3 + q * 32) rfl KB _ HAT.out Tryz.underlying33 rfl HIB.out ?_)
          | (refine wpList_store_row rfl _ _ _ rfl wr.heap.size KB rfl rfl 33 _ HNB.out HIB.out HZB.out HOB.out ?_) | fail)
         rw [World.setRow_alloc_new]
         go_frame
         change Code.wp _ _ _ _ (wr.alloc (.cells KB 33))
         generalize hgi : wr.heap.size = gi at *
         generalize wr.alloc (.cells KB 33) = w5 at *
         clear HNB HAT HZB HOB hgi
         by_cases hq9 : q < 9
         ·have hq9I : (q : Int) < 9 := by omega
          obtain ⟨nm, hnm⟩ : ∃ nm, (⟨#[97, 98, 99, 100, 101, 102, 103, 104, 105]⟩ : ByteArray).extract q (q + 1) = nm := ⟨_, rfl⟩
          have hns : nm.size ≤ 1 := by rw [← hnm, ByteArray.size_extract]; omega
          have n1 : (q : Int) + 1 ≤ 9 := by omega
          have n2 : (0 : Int) ≤ (q : Int) + 1 := by omega
          have n3 : (q : Int) ≤ (q : Int) + 1 := by omega
          have n4 : ((q : Int) + 1).toNat = q + 1 := by omega
          have n5 : IntKind.i64.wrap ((q : Int) + 1) = (q : Int) + 1 := IntWalk.i64_in _ (by omega)
          have hpar : ∃ r : Int, (q : Int).tmod 2 = r ∧ (q : Int) % 2 = r ∧ (r = 0 ∨ r = 1) := ⟨(q : Int) % 2, Int.tmod_eq_emod_of_nonneg (by omega), rfl, by omega⟩
          obtain ⟨r, hr1, hr2, hr3⟩ := hpar
          obtain ⟨wd, hwd⟩ : ∃ wd, wd = w5.drew := ⟨_, rfl⟩
          have HWD := Lib.hid hwd
          have hdr : Below w5.heap.size w5 wd := by rw [hwd]; exact Same.below ⟨1, rfl⟩ _
          have HRd := HR5.out.below hdr
          have HBd := HB5.out.trans (hdr.mono HB5.out.size)
          have hgi2 := HK5.out.lt
          have hme : me ≤ 2000000 := by have := HME.out.1; omega
          obtain ⟨ev, hev⟩ : ∃ ev : Bool, ev = (r == 0) := ⟨_, rfl⟩
          obtain ⟨A6, c6, w6, run6, hr6, hb6, hg6, _, _⟩ := HRd.push elemEnt HBd.size (av := fun _ => True) (ent_of wd _ (x := (nm, ev, oi, 0)) h32o (show (0 : Nat) < 2 ^ 64 by decide)) (fun _ _ _ => trivial) (by omega) (by simp only [maxLen]; omega) 68 1
          obtain ⟨KE, hKE⟩ : ∃ KE, KE = entK nm ev oi 0 := ⟨_, rfl⟩
          have run6 : (Builtin.append_ #[68, 68] 68 #[.slice Ae me ce, .slice (some ⟨wd.heap.size, 0, none⟩) 1 1]).run Tryz.prog (wd.alloc (.cells KE 70)) = .ok (.slice A6 (me + 1) c6) w6 := by rw [hKE]; simpa using run6
          have HRUN := Lib.hid run6
          have hKs : KE.size = 35 := by rw [hKE]; exact entK_size h32o _ _ _
          have hbe := Lib.hid (show ∀ w, (Instr.build 70 #[(0, .string nm), (1, .bool ev), (2, .agg KB)]).run Tryz.prog w = .ok (.agg KE) w from fun w => by rw [HKBe.out, hKE]; exact run_build w _ _ _ (built_ent3 nm ev oi h32o))
          have HKS := Lib.hid hKs
          have HR6 := Lib.hid hr6
          have HB6 := Lib.hid (HBd.trans hb6)
          have HM6 := Lib.hid (show me + 1 ≤ q + 1 ∧ ∀ x ∈ es ++ [(nm, ev, oi, 0)], x.1.size ≤ 1 from ⟨by have := HME.out.1; omega, fun x hx => by
           rcases List.mem_append.1 hx with h | h
           ·exact HME.out.2 x h
           ·rw [List.mem_singleton.1 h]; exact hns⟩)
          have hbd : Below w5.heap.size w5 (wd.alloc (.cells KE 70)) := hdr.alloc hdr.size _
          have HK10 := Lib.hid (show Blk (wd.alloc (.cells KE 70)) gi 33 KB from HK5.out.below hbd hgi2)
          have HK11 := Lib.hid (show Blk w6 gi 33 KB from (HK5.out.below hdr hgi2).grown hg6 (fun e => by have := HOE.out gi e.symm; omega))
          have HKd := Lib.hid (HK5.out.below hdr hgi2)
          clear run6 hr6 hb6 hg6 hKE hKs HRd HBd hns hbd HR5 HME hwd hdr
          go_upto_region 28 with fail
          rcases hr3 with rfl | rfl
          all_goals
           have hev2 := hev
           clear hev
           simp only [beq_self_eq_true, show ((1 : Int) == 0) = false from rfl] at hev2
           subst hev2
           refine wp_region_held (S := fun w => Blk w gi 33 KB) (by kernel_rfl) ?_
           change wpAnyH _ _ _ _ _ _ _ _ (World.drew _)
           rw [← HWD.out]
           refine rgT 0 HKd.out ?_
           refine rgT 1 HKd.out ?_
           refine rgT 2 HKd.out ?_
           refine rgT 3 HKd.out ?_
           refine rgT 4 HKd.out ?_
           refine rgT 5 HKd.out ?_
           refine rgT 6 HKd.out ?_
           refine rgT 7 HKd.out ?_
           refine rgU 8 (v := ?_) (a' := ?_) HKd.out ?_ ?_ ?_
           rotate_left 2
           ·(intro w hS; refine exec_load_at 33 (.tmp 15) ?_ gi 0 ?_ KB _ (At.of_row hS) Tryz.underlying33 rfl HIB.out; exact rfl; exact rfl)
           ·(go_simp; try with_reducible rfl)
           refine rgU 9 (v := ?_) (a' := ?_) HKd.out ?_ ?_ ?_
           rotate_left 2
           ·(intro w hS; refine exec_build3 70 0 1 2 (.tmp 103) (.tmp 106) (.tmp 107) ?_ (.string nm) (.bool _) (.agg KB) (.agg KE) ?_ ?_ ?_ (hbe.out w); exact rfl; exact rfl; exact rfl; exact rfl)
           ·(go_simp; try with_reducible rfl)
           refine held_ready (rs := [10]) (by kernel_rfl) (by simp) ?_
           refine AllHeld.cons rfl (fun KR hKR => ?_) ?_
           ·refine step_build (by rfl) (.tmp 108) (by rfl) (by rfl) (bsEnt_of _ KE HKS.out) ?_
            refine hKR _ _ HK10.out ?_
            clear hKR KR
            refine held_ready (rs := [11]) (by kernel_rfl) (by simp) ?_
            refine AllHeld.cons rfl (fun KR hKR => ?_) ?_
            ·refine step_run_append (by rfl) (.tmp 99) (.tmp 109) (by rfl) (by rfl) (by rfl) HRUN.out ?_
             refine hKR _ _ HK11.out ?_
             clear hKR KR
             refine rgT 12 HK11.out ?_
             refine wpAnyH_done (by kernel_rfl) ?_ _
             go_wp2_with fail
             go_roundw
             case rel => exact ⟨q + 1, me + 1, c6, A6, es ++ [(nm, _, oi, 0)], by omega, by go_num, rfl, HM6, HR6, HB6⟩
             case measure => simp [intOf]; omega
            exact AllHeld.nil
           exact AllHeld.nil
         ·have hq9I : ¬ (q : Int) < 9 := by omega
          go_wp2_with fail
          go_roundw
          case rel => exact ⟨q + 1, me, ce, Ae, es, by omega, by go_num, rfl, Lib.hid ⟨by have := HME.out.1; omega, HME.out.2⟩, HR5, HB5⟩
          case measure => simp [intOf]; omega
        ·have hqI : ¬ (q : Int) < (ml : Int) := by omega
         have HT := Lib.hid ((putTree_any Ae me ce es wr HRE.out.sl HRE.out.len (by have := HME.out.1; omega) (fun x hx => by have := HME.out.2 x hx; omega)).mono fun e w' hp => enc_data hp (fun o h => tree_len h))
         go_wp2_with fail
         refine HT.out.mono ?_
         rintro e w8 ⟨A5, m5, c5, o5, z5, rfl, hda, hb8⟩
         have HDA := Lib.hid hda
         have HB8 := Lib.hid (HBE.out.trans (hb8.mono HBE.out.size))
         clear hda hb8 HT
         go_wp2_with fail
         go_meet
         case rel => exact ⟨A5, m5, c5, o5, rfl, HDA, by rw [← HW2.out]; exact HB8⟩
      ·have hq0 : (kd == 0) = false := by rw [beq_eq_false_iff_ne]; exact hk0
       have hq1 : (kd == 1) = false := by rw [beq_eq_false_iff_ne]; exact hk1
       have hq2 : (kd == 2) = false := by rw [beq_eq_false_iff_ne]; exact hk2
       clear HI2 HRL2 HLL2 HD3
       go_wp2_with fail
       go_meet
       case rel => exact ⟨D, nd, cd, d, rfl, HD2, Lib.hid (Below.refl _ _)⟩
     case rest =>
      obtain ⟨D2, nd2, cd2, d2, rfl, HDX, HBX⟩ := hcut
      rename World => wx
      have HI3 := Lib.hid (HI2.out.go HBX.out)
      have HD3x := Lib.hid ((HBX.out.cell (p := ⟨g, 3, none⟩) (Nat.lt_of_lt_of_le HGL HBB.out)).trans HD3.out)
      have hglx : g < wx.heap.size := Nat.lt_of_lt_of_le (Nat.lt_of_lt_of_le HGL HBB.out) HBX.out.size
      obtain ⟨sm, hsm⟩ : ∃ sm, sm = shaG d2 := ⟨_, rfl⟩
      have h32 : sm.length = 32 := by rw [hsm]; exact shaG_len32 _
      obtain ⟨KB, hKB⟩ : ∃ KB, KB = (bytesV sm).toArray := ⟨_, rfl⟩
      have HSU := Lib.hid (show ∀ (W : World) (g : Addr), Below wx.heap.size wx W → Sl W 1 (some g) 1 [.slice D2 nd2 cd2] → Calls Tryz.prog 19 #[.slice (some g) 1 1] W fun e w' => e = .returned (.agg KB) ∧ Below W.heap.size W w' from fun W g hW hl => by
       have h := sum_any (some g) 1 1 _ [d2] W hl ((AllB.nil _).snoc (SlB.of (HDX.out.sl.below hW) HDX.out.cap HDX.out.max)) (by omega) (by have := HDX.out.len; have := HDX.out.small; simp; omega)
       have e : [d2].flatten = d2 := by simp
       rw [e] at h
       rw [hKB, hsm]; exact h)
      obtain ⟨sq, hsq⟩ : ∃ sq : ByteArray, sq = ⟨d2.toArray⟩ := ⟨_, rfl⟩
      have HCV := Lib.hid (fun w (h : Below wx.heap.size wx w) => show cvt w D2 nd2 cd2 = .ok (.string sq) w from by rw [hsq]; exact cvt_of (HDX.out.sl.below h) cd2)
      obtain ⟨KE, hKE⟩ : ∃ KE, KE = recK sm sq := ⟨_, rfl⟩
      have hbe := Lib.hid (show ∀ w, (Instr.build 35 #[(0, .agg KB), (1, .string sq)]).run Tryz.prog w = .ok (.agg KE) w from fun w => by rw [hKB, hKE]; exact run_build w _ _ _ (built_rec sq sm h32))
      have HIE := Lib.hid (show (Tryz.prog.info? 35).map (·.size) = some KE.size by rw [hKE]; exact recK_info h32 _)
      have HSE := Lib.hid (show zRec.size = KE.size by rw [hKE, recK_size h32, recK_size (by simp)])
      have HOE := Lib.hid (show KE.all (·.oneCell') = true by rw [hKE]; exact recK_one _ _)
      have hKs : KE.size = 33 := by rw [hKE]; exact recK_size h32 _
      have HGR := Lib.hid (show sm = shaG (dB sq) ∧ sq.size ≤ 1048576 from ⟨by rw [hsq]; simp [dB, hsm], by rw [hsq]; have := HDX.out.len; have := HDX.out.small; simp [ByteArray.size]; omega⟩)
      have HKE := Lib.hid hKE
      have hbs := fun w => bsRec_of w KE hKs
      clear d0 d1 d3 HRL2 HLL2 HI2 hsm hKB hsq hKE hKs h32 HDX
      go_upto_region 31 with fail
      go_cut [16] (fun v wy => ∃ ge, v = .pointer (some ⟨ge, 0, none⟩) ∧ Hid (wx.heap.size ≤ ge) ∧ Hid (Below wx.heap.size wx wy) ∧ Hid (Blk wy ge 35 KE))
      case first =>
       have hcls : Below wx.heap.size wx wx.drew := Same.below ⟨1, rfl⟩ _
       refine wp_region_held (S := fun w => Below wx.heap.size wx w) (by kernel_rfl) ?_
       change wpAnyH _ _ _ _ _ _ _ _ (World.drew _)
       generalize World.drew wx = wd at hcls ⊢
       refine rgT 0 hcls ?_
       refine rgT 3 hcls ?_
       refine rgU 4 (v := ?_) (a' := ?_) hcls ?_ ?_ ?_
       rotate_left 2
       ·(intro w hS; have t := HCV.out w hS; go_simp; try with_reducible rfl)
       ·(go_simp; try with_reducible rfl)
       refine held_ready (rs := [1, 6]) (by kernel_rfl) (by simp) ?_
       refine AllHeld.cons rfl (fun KR hKR => ?_) ?_
       ·go_simp
        have hl1 := slOne hcls (.slice D2 nd2 cd2) 38
        try simp only [World.size_alloc] at hl1
        try have hE := hE.alloc (.cells #[.slice D2 nd2 cd2] 38)
        have hcls := hcls.alloc hcls.size (.cells #[.slice D2 nd2 cd2] 38)
        refine hKR _ _ hcls ?_
        clear hKR KR
        refine held_ready (rs := [2, 6]) (by kernel_rfl) (by simp) ?_
        refine AllHeld.cons rfl (fun KR hKR => ?_) ?_
        ·go_simp
         refine (HSU.out _ _ hcls hl1).mono ?_
         rintro e wa ⟨rfl, hba⟩
         try have hE := hE.below hba hE.lt
         have hcls := hcls.trans (hba.mono hcls.size)
         refine hKR _ _ hcls ?_
         clear hKR KR
         refine rgU 5 (v := ?_) (a' := ?_) hcls ?_ ?_ ?_
         rotate_left 2
         ·(intro w hS; refine exec_b2 35 0 1 (.tmp 119) (.tmp 121) ?_ (.agg KB) (.string sq) (.agg KE) ?_ ?_ (hbe.out w); exact rfl; exact rfl; exact rfl)
         ·(go_simp; try with_reducible rfl)
         refine held_ready (rs := [6]) (by kernel_rfl) (by simp) ?_
         refine AllHeld.cons rfl (fun KR hKR => ?_) ?_
         ·go_simp
          obtain ⟨wE, ge, hwE, hgE, hcls, hge, hE, hbE⟩ := rec_alloc hcls
          try have hl1 := hl1.below hbE
          try simp only [World.size_alloc] at hgE
          change KR _ (World.alloc _ (.cells zRec 35))
          rw [hwE, hgE]
          clear hwE hgE hbE
          refine hKR _ _ hcls ?_
          clear hKR KR
          refine held_ready (rs := [7]) (by kernel_rfl) (by simp) ?_
          refine AllHeld.cons rfl (fun KR hKR => ?_) ?_
          ·refine step_store_row (by rfl) (.tmp 16) (.tmp 122) (by rfl) ge KE (by rfl) (by rfl) 35 zRec hE HIE.out HSE.out HOE.out ?_
           have hcls := below_setRow hcls hge KE
           have hE2 := setRow_heap _ ge _ KE _ _ hE
           refine hKR _ _ hcls ?_
           clear hKR KR
           refine wpAnyH_done (by kernel_rfl) ?_ _
           go_wp2_with fail
           go_meet
           case rel => exact ⟨ge, rfl, Lib.hid hge, Lib.hid hcls, Lib.hid hE2⟩
          exact AllHeld.nil
         exact AllHeld.nil
        refine AllHeld.cons rfl (fun KR hKR => ?_) ?_
        ·go_simp
         obtain ⟨wE, ge, hwE, hgE, hcls, hge, hE, hbE⟩ := rec_alloc hcls
         try have hl1 := hl1.below hbE
         try simp only [World.size_alloc] at hgE
         change KR _ (World.alloc _ (.cells zRec 35))
         rw [hwE, hgE]
         clear hwE hgE hbE
         refine hKR _ _ hcls ?_
         clear hKR KR
         refine held_ready (rs := [2]) (by kernel_rfl) (by simp) ?_
         refine AllHeld.cons rfl (fun KR hKR => ?_) ?_
         ·go_simp
          refine (HSU.out _ _ hcls hl1).mono ?_
          rintro e wa ⟨rfl, hba⟩
          try have hE := hE.below hba hE.lt
          have hcls := hcls.trans (hba.mono hcls.size)
          refine hKR _ _ hcls ?_
          clear hKR KR
          refine rgU 5 (v := ?_) (a' := ?_) hcls ?_ ?_ ?_
          rotate_left 2
          ·(intro w hS; refine exec_b2 35 0 1 (.tmp 119) (.tmp 121) ?_ (.agg KB) (.string sq) (.agg KE) ?_ ?_ (hbe.out w); exact rfl; exact rfl; exact rfl)
          ·(go_simp; try with_reducible rfl)
          refine held_ready (rs := [7]) (by kernel_rfl) (by simp) ?_
          refine AllHeld.cons rfl (fun KR hKR => ?_) ?_
          ·refine step_store_row (by rfl) (.tmp 16) (.tmp 122) (by rfl) ge KE (by rfl) (by rfl) 35 zRec hE HIE.out HSE.out HOE.out ?_
           have hcls := below_setRow hcls hge KE
           have hE2 := setRow_heap _ ge _ KE _ _ hE
           refine hKR _ _ hcls ?_
           clear hKR KR
           refine wpAnyH_done (by kernel_rfl) ?_ _
           go_wp2_with fail
           go_meet
           case rel => exact ⟨ge, rfl, Lib.hid hge, Lib.hid hcls, Lib.hid hE2⟩
          exact AllHeld.nil
         exact AllHeld.nil
        exact AllHeld.nil
       refine AllHeld.cons rfl (fun KR hKR => ?_) ?_
       ·go_simp
        obtain ⟨wE, ge, hwE, hgE, hcls, hge, hE, hbE⟩ := rec_alloc hcls
        try have hl1 := hl1.below hbE
        try simp only [World.size_alloc] at hgE
        change KR _ (World.alloc _ (.cells zRec 35))
        rw [hwE, hgE]
        clear hwE hgE hbE
        refine hKR _ _ hcls ?_
        clear hKR KR
        refine held_ready (rs := [1]) (by kernel_rfl) (by simp) ?_
        refine AllHeld.cons rfl (fun KR hKR => ?_) ?_
        ·go_simp
         have hl1 := slOne hcls (.slice D2 nd2 cd2) 38
         try simp only [World.size_alloc] at hl1
         try have hE := hE.alloc (.cells #[.slice D2 nd2 cd2] 38)
         have hcls := hcls.alloc hcls.size (.cells #[.slice D2 nd2 cd2] 38)
         refine hKR _ _ hcls ?_
         clear hKR KR
         refine held_ready (rs := [2]) (by kernel_rfl) (by simp) ?_
         refine AllHeld.cons rfl (fun KR hKR => ?_) ?_
         ·go_simp
          refine (HSU.out _ _ hcls hl1).mono ?_
          rintro e wa ⟨rfl, hba⟩
          try have hE := hE.below hba hE.lt
          have hcls := hcls.trans (hba.mono hcls.size)
          refine hKR _ _ hcls ?_
          clear hKR KR
          refine rgU 5 (v := ?_) (a' := ?_) hcls ?_ ?_ ?_
          rotate_left 2
          ·(intro w hS; refine exec_b2 35 0 1 (.tmp 119) (.tmp 121) ?_ (.agg KB) (.string sq) (.agg KE) ?_ ?_ (hbe.out w); exact rfl; exact rfl; exact rfl)
          ·(go_simp; try with_reducible rfl)
          refine held_ready (rs := [7]) (by kernel_rfl) (by simp) ?_
          refine AllHeld.cons rfl (fun KR hKR => ?_) ?_
          ·refine step_store_row (by rfl) (.tmp 16) (.tmp 122) (by rfl) ge KE (by rfl) (by rfl) 35 zRec hE HIE.out HSE.out HOE.out ?_
           have hcls := below_setRow hcls hge KE
           have hE2 := setRow_heap _ ge _ KE _ _ hE
           refine hKR _ _ hcls ?_
           clear hKR KR
           refine wpAnyH_done (by kernel_rfl) ?_ _
           go_wp2_with fail
           go_meet
           case rel => exact ⟨ge, rfl, Lib.hid hge, Lib.hid hcls, Lib.hid hE2⟩
          exact AllHeld.nil
         exact AllHeld.nil
        exact AllHeld.nil
       exact AllHeld.nil
      case rest =>
       obtain ⟨ge, rfl, HGE, HBY, HEB⟩ := hcut
       rename World => wy
       have HI4 := Lib.hid (HI3.out.go HBY.out)
       have HD4 := Lib.hid ((HBY.out.cell (p := ⟨g, 3, none⟩) hglx).trans HD3x.out)
       have hmm : m ≤ 1000000 := by have := HM.out.1; omega
       have hmb : mb ≤ 1000000 := by have := HM.out.2; omega
       obtain ⟨A7, c7, w7, run7, hI7, hg7⟩ := HI4.out.push_out (r := (sm, sq)) HGR.out hmm
       rw [show recK (sm, sq).1 (sm, sq).2 = KE from HKE.out.symm] at run7
       have HI7 := Lib.hid hI7
       have hgey : ge < wy.heap.size := HEB.out.lt
       have HEB7 := Lib.hid (show Blk w7 ge 35 KE from by
        have h := hg7.block ge hgey (fun e => by
         have h1 : own (.slice Ao m co) ge := e.symm
         have h2 := (HI3.out.out.lt h1).2
         have := HGE.out; omega)
        exact h.trans HEB.out)
       have HD7 := Lib.hid (show w7.cell? ⟨g, 3, none⟩ = some (.bool bo) from by
        have hgy : g < wy.heap.size := Nat.lt_of_lt_of_le hglx HBY.out.size
        have h := hg7.block g hgy (fun e => by
         have h1 : own (.slice Ao m co) g := e.symm
         have := HOG.out g h1; omega)
        have h2 := HD4.out
        unfold World.cell? at h2 ⊢
        rw [h]; exact h2)
       have d7 := HD7.out
       have hrs : (sm, sq) ∈ rs ++ [(sm, sq)] := by simp
       have HIEK := Lib.hid (show (Tryz.prog.info? 35).map (·.size) = some KE.size from HIE.out)
       cases bo with
       | false =>
        clear HI4 HI3 hI7 hg7 HD4 HD7 hrs
        go_wp2_with (first
         | (refine wpList_load_at rfl _ _ rfl ge 0 rfl KE _ (At.of_row HEB.out) Tryz.underlying35 rfl HIE.out ?_)
         | (refine wpList_build1 rfl (.tmp 124) rfl (.agg KE) _ rfl (hbs _) ?_)
         | (at_builtin; refine wpList_run_append run7 ?_ ?_ ?_; exact rfl; exact rfl)
         | fail)
        go_roundw
        case rel => exact ⟨k + 1, m + 1, c7, mb, cb, A7, Bo, rs ++ [(sm, sq)], bs, by omega, by go_num, rfl, rfl, Lib.hid (by have := HM.out; omega), HI7⟩
        case measure => simp [intOf]; omega
       | true =>
        obtain ⟨A8, c8, w8, run8, hI8⟩ := HI7.out.push_both hrs hmb
        rw [show recK (sm, sq).1 (sm, sq).2 = KE from HKE.out.symm] at run8
        have HI8 := Lib.hid hI8
        clear HI4 HI3 hI7 hg7 HD4 HD7 hrs hI8 HI7
        go_upto_region 34 with (first
         | (refine wpList_load_at rfl _ _ rfl ge 0 rfl KE _ (At.of_row HEB.out) Tryz.underlying35 rfl HIE.out ?_)
         | (refine wpList_build1 rfl (.tmp 124) rfl (.agg KE) _ rfl (hbs _) ?_)
         | (at_builtin; refine wpList_run_append run7 ?_ ?_ ?_; exact rfl; exact rfl)
         | fail)
        clear run7
        go_wp2_with (first
         | (refine wpList_load_at rfl _ _ rfl ge 0 rfl KE _ (At.of_row HEB7.out) Tryz.underlying35 rfl HIE.out ?_)
         | (refine wpList_build1 rfl (.tmp 130) rfl (.agg KE) _ rfl (hbs _) ?_)
         | (at_builtin; refine wpList_run_append run8 ?_ ?_ ?_; exact rfl; exact rfl)
         | fail)
        go_roundw
        case rel => exact ⟨k + 1, m + 1, c7, mb + 1, c8, A7, A8, rs ++ [(sm, sq)], bs ++ [(sm, sq)], by omega, by go_num, rfl, rfl, Lib.hid (by have := HM.out; omega), HI8⟩
        case measure => simp [intOf]; omega
  ·have hltI : ¬ (k : Int) < (n : Int) := by omega
   go_wp2_with fail
   go_ret2
   exact ⟨Ao, m, co, Bo, mb, cb, rs, bs, rfl, HI.out, by have := HM.out.1; have := HI.out.len; omega, by have := HM.out.2; have := HI.out.both.len; omega⟩
end Go.Proofs.YtgmbkcjihgphmaaGreat
/- how large the makes and the raw bytes are. -/
namespace Go.Proofs.YtgmbkcjihgphmaaGreat
open Go.RowKit
def bulkM (x : MkT) : Nat := (1 + ((bulkL (fun _ => 1) x.2.1 + 1) + ((bulkL (fun _ => 1) x.2.2.1 + 1) + 1))) + 1
theorem bulk_ones {α : Type} : ∀ l : List α, bulkL (fun _ => 1) l = l.length
 | [] => rfl
 | x :: r => by simp [bulkL, bulk_ones r]; omega
theorem bulkL_mem {α : Type} {b : α → Nat} : ∀ {l : List α} {x : α}, x ∈ l → b x ≤ bulkL b l
 | y :: r, x, h => by
  rcases List.mem_cons.1 h with rfl | h
  ·simp [bulkL]
  ·have := bulkL_mem (b := b) h
   simp [bulkL]; omega
theorem makes_small {l : List MkT} (h : bulkL bulkM l + 1 ≤ 1048576) : ∀ x ∈ l, x.2.1.length ≤ 1048576 ∧ x.2.2.1.length ≤ 1048576 := fun x hx => by
 have h1 : (1 + ((bulkL (fun _ => 1) x.2.1 + 1) + ((bulkL (fun _ => 1) x.2.2.1 + 1) + 1))) + 1 ≤ bulkL bulkM l := bulkL_mem (b := bulkM) hx
 rw [bulk_ones, bulk_ones] at h1
 omega
end Go.Proofs.YtgmbkcjihgphmaaGreat
