/- Contracts and laws for what the statement reaches, joined: TalkRefMark, TalkRefRecs. -/
import Derived.Test.YtgmbkcjihgphmaaGreatJn29
import Derived.Test.YtgmbkcjihgphmaaGreatJn31
import Derived.Test.YtgmbkcjihgphmaaGreatJn5
import Derived.OwnWalk
/- the reference's mark and Mark. -/
set_option linter.unusedVariables false
set_option linter.unusedSimpArgs false
namespace Go.Proofs.YtgmbkcjihgphmaaGreat
open Go.RowKit
attribute [local go_sem ↓] bsId_eq
def av2 (A : Option Addr) (n c : Nat) (Ao : Option Addr) (mo co : Nat) : Av := fun b => own (.slice A n c) b ∨ own (.slice Ao mo co) b
theorem moves_l {w w' : World} {A A' Ao : Option Addr} {n c n' c' mo co : Nat} (h : Moves w w' (own (.slice A n c)) (own (.slice A' n' c'))) : Moves w w' (av2 A n c Ao mo co) (av2 A' n' c' Ao mo co) :=
 ⟨h.size, fun b hb hn => h.block b hb (fun q => hn (.inl q)), fun b hb hn h' => h'.elim (fun q => h.ne b hb (fun q => hn (.inl q)) q) (fun q => hn (.inr q))⟩
theorem moves_r {w w' : World} {A A' Ao : Option Addr} {n c n' c' mo co : Nat} (h : Moves w w' (own (.slice A n c)) (own (.slice A' n' c'))) : Moves w w' (av2 Ao mo co A n c) (av2 Ao mo co A' n' c') :=
 ⟨h.size, fun b hb hn => h.block b hb (fun q => hn (.inr q)), fun b hb hn h' => h'.elim (fun q => hn (.inl q)) (fun q => h.ne b hb (fun q => hn (.inr q)) q)⟩
theorem Blk.moves {w w' : World} {g : Nat} {t : TypeId} {K : Array Value} {av av' : Av} (h : Blk w g t K) (hn : ¬ av g) (hm : Moves w w' av av') : Blk w' g t K ∧ ¬ av' g := ⟨(hm.block g h.lt hn).trans h, hm.ne g h.lt hn⟩
def DeepPost (w0 w : World) (Ab : Option Addr) (nb cb : Nat) (Ad : Option Addr) (nd cd : Nat) (R : Except Int (Ids × Ids)) (e : Ending) (w' : World) : Prop := match R with
 | .ok r => ∃ Ab' nb' cb' Ad' nd' cd', e = .returned (.tuple #[.slice Ab' nb' cb', .slice Ad' nd' cd', .int .i64 0]) ∧ L2 w0 w' Ab' nb' cb' r.1 Ad' nd' cd' r.2 ∧ Moves w w' (av2 Ab nb cb Ad nd cd) (av2 Ab' nb' cb' Ad' nd' cd')
 | .error z => e = .returned (.tuple #[.slice none 0 0, .slice none 0 0, .int .i64 z]) ∧ z ≠ 0 ∧ Below w0.heap.size w0 w'
/-- the loop's head -/
structure DI (w0 w wr : World) (g : Nat) (KI : Array Value) (V lnk : Ids) (Al : Option Addr) (f : List UInt8 → Ids → Ids → MkRes) (Q : Except Int (Ids × Ids)) (Ab0 : Option Addr) (nb0 cb0 : Nat) (Ad0 : Option Addr) (nd0 cd0 : Nat) (i : Nat) (Ab : Option Addr) (nb cb : Nat) (Ad : Option Addr) (nd cd : Nat) (B D : Ids) : Prop where
 rows : L2 w0 wr Ab nb cb B Ad nd cd D
 res : mkDeeps f (lnk.drop i) B D = some Q
 nodup : B.Nodup
 sub : ∀ x ∈ B, x ∈ V
 len : D.length + 1 ≤ B.length
 box : Blk wr g 33 KI
 apart : ¬ av2 Ab nb cb Ad nd cd g
 lnks : SlOf oidR wr (av2 Ab nb cb Ad nd cd) Al lnk
 mv : Moves w wr (av2 Ab0 nb0 cb0 Ad0 nd0 cd0) (av2 Ab nb cb Ad nd cd)
set_option maxRecDepth 100000 in
set_option maxHeartbeats 16000000 in
theorem deep_any (w0 : World) (Ar : Option Addr) (nr cr : Nat) (rs : List RecT) (hrs : SlOf recR w0 no Ar rs) (hrn : nr = rs.length) (hnr : nr ≤ 100000) (V : Ids) (hV : ∀ x b, getB rs x = some b → x ∈ V) (hVl : V.length ≤ 100000) :
  ∀ (n : Nat) (id : List UInt8) (B D : Ids) (R : Except Int (Ids × Ids)) (w : World) (Ab : Option Addr) (nb cb : Nat) (Ad : Option Addr) (nd cd : Nat), mkDeep (getB rs) n id B D = some R → id.length = 32 → L2 w0 w Ab nb cb B Ad nd cd D → B.Nodup → (∀ x ∈ B, x ∈ V) → D.length ≤ B.length →
  Calls Tryz.prog 60 #[.slice Ar nr cr, .slice Ab nb cb, .slice Ad nd cd, idV id] w (DeepPost w0 w Ab nb cb Ad nd cd R) := by
 intro n
 induction n with
 | zero => intro id B D R w Ab nb cb Ad nd cd h; simp [mkDeep] at h
 | succ n ih =>
  intro id B D R w Ab nb cb Ad nd cd hR h32 hL hn hs hDB
  obtain ⟨S, hS⟩ : ∃ S, S = getB rs := ⟨_, rfl⟩
  rw [← hS] at hR ih hV
  have HIH := Lib.hid ih
  have HSS := Lib.hid hS
  have HRS := Lib.hid hrs
  have HRN := Lib.hid hrn
  have HVV := Lib.hid hV
  have HVL := Lib.hid hVl
  obtain ⟨KI, hKI⟩ : ∃ KI, KI = (bytesV id).toArray := ⟨_, rfl⟩
  have HII := Lib.hid (show (Tryz.prog.info? 33).map (·.size) = some KI.size by rw [hKI]; exact oid_size h32)
  have hks : KI.size = 32 := by rw [hKI]; simp [bytesV, h32]
  rw [show idV id = .agg KI by rw [hKI]]
  obtain ⟨w1, hw1⟩ : ∃ w1, w1 = w.alloc (.cells KI 33) := ⟨_, rfl⟩
  have hb1 : Below w.heap.size w w1 := by rw [hw1]; exact (Below.refl _ _).alloc (Nat.le_refl _) _
  have HK1 := Lib.hid (show Blk w1 w.heap.size 33 KI by rw [hw1]; exact Blk.new w _ _)
  have hL1 := hL.go hb1
  have hapart : ¬ av2 Ab nb cb Ad nd cd w.heap.size := fun h => by
   rcases h with h | h
   ·have := (hL.r.lt h).2; omega
   ·have := (hL.o.lt h).2; omega
  have hlen := List.Nodup.length_le_of_subset hn (fun x hx => hs x hx)
  have hnb := hL.r.len
  have hnd := hL.o.len
  have HHA := Lib.hid (has20_any Ab nb cb B id w1 hL1.r.sl hL1.r.len (by omega) h32)
  rw [show idV id = .agg KI by rw [hKI]] at HHA
  obtain ⟨C, hC⟩ : ∃ C, C = B.contains id := ⟨_, rfl⟩
  rw [← hC] at HHA
  have HL1 := Lib.hid hL1
  have HM1 := Lib.hid (show Moves w w1 (av2 Ab nb cb Ad nd cd) (av2 Ab nb cb Ad nd cd) from Moves.of_below hb1)
  have HAP := Lib.hid hapart
  have HKI := Lib.hid hKI
  have H32 := Lib.hid h32
  have HN := Lib.hid (And.intro hn (And.intro hs hDB))
  have HC := Lib.hid hC
  have HR := Lib.hid hR
  have HW1 := Lib.hid hw1
  have HNB := Lib.hid (show nb ≤ 100000 ∧ nd ≤ 100000 from by omega)
  clear ih hS hrs hrn hV hVl hR h32 hL hn hs hDB hKI hw1 hb1 hL1 hapart hC hlen hnb hnd
  go_enter Tryz.func60, Tryz.ntmps60
  go_upto_region 1 with fail
  rw [← HW1.out]
  generalize hg0 : w.heap.size = g0 at *
  clear hg0 HW1
  go_wp2_with (first | (refine wpList_load_at rfl _ _ rfl g0 0 rfl KI _ (At.of_row HK1.out) Tryz.underlying33 rfl HII.out ?_) | fail)
  refine HHA.out.mono ?_
  rintro e w2 ⟨rfl, hb2⟩
  have HL2 := Lib.hid (HL1.out.go hb2)
  have HM2 := Lib.hid (HM1.out.trans (Moves.of_below hb2))
  have HK2 := Lib.hid (HK1.out.below hb2 HK1.out.lt)
  clear hb2 HL1 HM1 HK1 HHA
  cases C with
  | true =>
   have HRR := Lib.hid (show R = .ok (B, D) by
    have := HR.out
    unfold mkDeep at this
    rw [if_pos HC.out.symm] at this
    exact (Option.some.inj this).symm)
   go_wp2_with fail
   go_ret3
   rw [HRR.out]
   exact ⟨Ab, nb, cb, Ad, nd, cd, rfl, HL2.out, HM2.out⟩
  | false =>
  have HRN2 := Lib.hid (fun (e : S id = none) => show R = .error 4 from by
   have h1 := mkDeep_none (n := n) (D := D) HC.out.symm e
   rw [HR.out] at h1
   exact Option.some.inj h1)
  have HR2 := Lib.hid (fun b (e : S id = some b) => show deepTail (mkDeep S n) B D id (linksG b) = some R from by
   rw [← mkDeep_some HC.out.symm e]; exact HR.out)
  have HNC := Lib.hid (show id ∉ B by have := HC.out; simpa using this.symm)
  obtain ⟨A3, c3, w3, hrun, hl3, hmv3⟩ := HL2.out.push H32.out (by have := HNB.out; omega)
  rw [← HKI.out] at hrun
  have hbs := fun w => bsId_of w KI hks
  have HL3 := Lib.hid hl3
  have hk3 := HK2.out.moves HAP.out (moves_l (Ao := Ad) (mo := nd) (co := cd) hmv3)
  have HK3 := Lib.hid hk3.1
  have HA3 := Lib.hid hk3.2
  have HM3 := Lib.hid (HM2.out.trans (moves_l (Ao := Ad) (mo := nd) (co := cd) hmv3))
  have HG := Lib.hid (refGet_any Ar nr cr rs id w3 (HRS.out.below hl3.below) HRN.out (by omega) H32.out)
  rw [show idV id = .agg KI by rw [HKI.out]] at HG
  clear hl3 hmv3 hk3 HR HC HL2 HM2
  go_wp2_with (first
   | (refine wpList_load_at rfl _ _ rfl g0 0 rfl KI _ (At.of_row HK2.out) Tryz.underlying33 rfl HII.out ?_)
   | (refine wpList_build1 rfl (.tmp 21) rfl (.agg KI) _ rfl (hbs _) ?_)
   | (at_builtin; refine wpList_run_append hrun ?_ ?_ ?_; exact rfl; exact rfl)
   | (refine wpList_load_at rfl _ _ rfl g0 0 rfl KI _ (At.of_row HK3.out) Tryz.underlying33 rfl HII.out ?_) | fail)
  refine HG.out.mono ?_
  rintro e w4 ⟨hb4, hm4⟩
  have HL4 := Lib.hid (HL3.out.go hb4)
  have HM4 := Lib.hid (HM3.out.trans (Moves.of_below hb4))
  have HK4 := Lib.hid (HK3.out.below hb4 HK3.out.lt)
  obtain ⟨sg, hsg⟩ : ∃ sg, sg = getS rs id := ⟨_, rfl⟩
  rw [← hsg] at hm4
  have HSX := Lib.hid (show S id = sg.map (fun s => s.data.toList) by rw [HSS.out, hsg]; rfl)
  clear hb4 HG hsg hrun HL3 HM3 HK3 HK2 hbs
  cases sg with
  | none =>
   obtain rfl : e = _ := hm4
   have HRR := Lib.hid (show R = .error 4 from HRN2.out HSX.out)
   clear HR2 HRN2
   go_wp2_with fail
   go_ret3
   rw [HRR.out]
   exact ⟨rfl, by decide, HL4.out.below⟩
  | some s =>
  obtain rfl : e = _ := hm4
  have HLN := Lib.hid (refLinks_any s w4)
  obtain ⟨lx, hlx⟩ : ∃ lx, lx = linksG (sB s) := ⟨_, rfl⟩
  rw [← hlx] at HLN
  have HR3 := Lib.hid (show deepTail (mkDeep S n) B D id lx = some R by rw [hlx]; exact HR2.out _ HSX.out)
  have HER := Lib.hid (fun z (e : lx = .error z) => show z ≠ 0 from linksG_err (hlx.symm.trans e))
  have HFEW := Lib.hid (fun l (e : lx = .ok l) => show l.length ≤ 4096 from linksG_few (hlx.symm.trans e))
  have HID := Lib.hid (show id ∈ V from HVV.out id _ HSX.out)
  clear hlx HSX HR2 HRN2
  go_wp2_with fail
  refine HLN.out.mono ?_
  rintro e w5 ⟨hb5, hm5⟩
  have HL5 := Lib.hid (HL4.out.go hb5)
  have HM5 := Lib.hid (HM4.out.trans (Moves.of_below hb5))
  have HK5 := Lib.hid (HK4.out.below hb5 HK4.out.lt)
  cases lx with
  | error z =>
   obtain rfl : e = _ := hm5
   have hz := HER.out z rfl
   have hz2 : (z != 0) = true := by simpa using hz
   have HRR := Lib.hid (show R = .error z from (Option.some.inj HR3.out).symm)
   have HZ := Lib.hid hz
   clear hb5 hz HR3 HER HLN
   go_wp2_with fail
   go_ret3
   rw [HRR.out]
   exact ⟨rfl, HZ.out, HL5.out.below⟩
  | ok lnk =>
  obtain ⟨A6, c6, rfl, hs6, hl6, hm6⟩ := hm5
  have HS5 := Lib.hid (show SlOf oidR w5 (av2 A3 (nb + 1) c3 Ad nd cd) A6 lnk from hs6.stable (Moves.less w5 (fun y _ hy => hy.elim (fun q => (HL4.out.r.lt q).2) (fun q => (HL4.out.o.lt q).2))))
  have HQ : ∃ Q, mkDeeps (mkDeep S n) lnk (B ++ [id]) D = some Q ∧ R = (match Q with
    | .error z => .error z
    | .ok y => .ok (y.1, y.2 ++ [id])) := by
   have := HR3.out
   simp only [deepTail] at this
   cases hq : mkDeeps (mkDeep S n) lnk (B ++ [id]) D with
   | none => rw [hq] at this; cases this
   | some Q =>
    rw [hq] at this
    refine ⟨Q, rfl, ?_⟩
    cases Q with
    | error z => exact (Option.some.inj this).symm
    | ok y => exact (Option.some.inj this).symm
  obtain ⟨Q, hQ1, hQ2⟩ := HQ
  have HQ2 := Lib.hid hQ2
  obtain ⟨nl, hnl⟩ : ∃ nl, nl = lnk.length := ⟨_, rfl⟩
  rw [← hnl] at hl6 ⊢
  have HNL := Lib.hid hnl.symm
  have hnl9 : nl ≤ 4096 := by rw [hnl]; exact HFEW.out lnk rfl
  have HCM := Lib.hid (And.intro hl6 hm6)
  have HDI := Lib.hid (show DI w0 w w5 g0 KI V lnk A6 (mkDeep S n) Q Ab nb cb Ad nd cd 0 A3 (nb + 1) c3 Ad nd cd (B ++ [id]) D from
   ⟨HL5.out, by rw [List.drop_zero]; exact hQ1, by
    rw [List.nodup_append]
    exact ⟨HN.out.1, by simp, fun a ha c hc e => by
     have : c = id := by simpa using hc
     subst this; subst e; exact HNC.out ha⟩, fun y hy => by
    rcases List.mem_append.1 hy with h1 | h1
    ·exact HN.out.2.1 y h1
    ·have h1 : y = id := by simpa using h1
     subst h1; exact HID.out, by have := HN.out.2.2; simp; omega, HK5.out, HA3.out, HS5.out, HM5.out⟩)
  clear hb5 hs6 hl6 hm6 hQ1 hQ2 hnl HR3 HER HLN HL4 HM4 HK4 HL5 HM5 HK5 HA3 HS5 HFEW
  go_wp2_with fail
  go_loopw [1, 2, 14] (fun s1 s2 s14 wr => ∃ (i nb' cb' nd' cd' : Nat) (Ab' Ad' : Option Addr) (B' D' : Ids), i ≤ nl ∧ s1 = .slice Ab' nb' cb' ∧ s2 = .slice Ad' nd' cd' ∧ s14 = .int .i64 (i : Int) ∧ Hid (DI w0 w wr g0 KI V lnk A6 (mkDeep S n) Q Ab nb cb Ad nd cd i Ab' nb' cb' Ad' nd' cd' B' D')) (fun s1 s2 s14 wr => nl - (intOf s14).toNat)
  case atStart => exact ⟨0, nb + 1, c3, nd, cd, A3, Ad, B ++ [id], D, by omega, rfl, rfl, rfl, HDI⟩
  case round =>
   obtain ⟨i, nb', cb', nd', cd', Ab', Ad', B', D', hi, rfl, rfl, rfl, HD⟩ := hrel
   clear HDI
   have hlB := List.Nodup.length_le_of_subset HD.out.nodup (fun x hx => HD.out.sub x hx)
   by_cases hlt : i < nl
   ·have hltI : (i : Int) < (nl : Int) := by omega
    obtain ⟨b1, o1, x, rfl, hb1, hx, hx32, hat⟩ := oids_look HD.out.lnks HNL.out hlt
    obtain ⟨KX, hKX⟩ : ∃ KX, KX = (bytesV x).toArray := ⟨_, rfl⟩
    have HI := Lib.hid (show (Tryz.prog.info? 33).map (·.size) = some KX.size by rw [hKX]; exact oid_size hx32)
    rw [← hKX] at hat
    have HAT := Lib.hid hat
    have hres := HD.out.res
    obtain ⟨h1, h2⟩ := List.getElem?_eq_some_iff.1 hx
    rw [List.drop_eq_getElem_cons h1, h2] at hres
    simp only [mkDeeps] at hres
    cases hq : mkDeep S n x B' D' with
    | none => rw [hq] at hres; cases hres
    | some r =>
     rw [hq] at hres
     have HC := Lib.hid (HIH.out x B' D' r wr Ab' nb' cb' Ad' nd' cd' hq hx32 HD.out.rows HD.out.nodup HD.out.sub (by have := HD.out.len; omega))
     rw [show idV x = .agg KX by rw [hKX]] at HC
     have HQQ := Lib.hid hq
     have HRES := Lib.hid hres
     clear hat hKX hx32 hx h1 h2 hq hres hlB
     go_wp2_with (first | (refine wpList_load_at rfl _ _ rfl b1 (o1 + i * 32) rfl KX _ HAT.out Tryz.underlying33 rfl HI.out ?_) | fail)
     refine HC.out.mono ?_
     intro e w7 hp
     cases r with
     | error z =>
      obtain ⟨rfl, hz, hb7⟩ := hp
      have hz2 : (z != 0) = true := by simpa using hz
      have HRR := Lib.hid (show R = .error z by
       have h1 : Q = .error z := (Option.some.inj HRES.out).symm
       rw [HQ2.out, h1])
      have HZ := Lib.hid hz
      have HB7 := Lib.hid hb7
      clear hz hb7 HC HRES
      go_wp2_with fail
      go_ret3
      rw [HRR.out]
      exact ⟨rfl, HZ.out, HB7.out⟩
     | ok y =>
      obtain ⟨Ab7, nb7, cb7, Ad7, nd7, cd7, rfl, hl7, hmv7⟩ := hp
      have hinv := mkDeep_inv HVV.out HD.out.nodup HD.out.sub HQQ.out
      have hbox := HD.out.box.moves HD.out.apart hmv7
      have HD7 := Lib.hid (show DI w0 w w7 g0 KI V lnk (some ⟨b1, o1, none⟩) (mkDeep S n) Q Ab nb cb Ad nd cd (i + 1) Ab7 nb7 cb7 Ad7 nd7 cd7 y.1 y.2 from
       ⟨hl7, HRES.out, hinv.nodup, hinv.sub, by have h1 := hinv.len; have h2 := HD.out.len; omega, hbox.1, hbox.2, HD.out.lnks.stable hmv7, HD.out.mv.trans hmv7⟩)
      clear hl7 hmv7 hinv hbox HC HRES HD HQQ
      go_wp2_with fail
      go_roundw
      case rel => exact ⟨i + 1, nb7, cb7, nd7, cd7, Ab7, Ad7, y.1, y.2, by omega, rfl, rfl, by go_num, HD7⟩
      case measure => simp [intOf]; omega
   ·have hltI : ¬ (i : Int) < (nl : Int) := by omega
    have HRR := Lib.hid (show R = .ok (B', D' ++ [id]) by
     have h1 := HD.out.res
     rw [List.drop_of_length_le (by rw [HNL.out]; omega)] at h1
     simp only [mkDeeps] at h1
     have h1 := Option.some.inj h1
     rw [HQ2.out, ← h1])
    have hnd' := HD.out.rows.o.len
    obtain ⟨A8, c8, w8, hrun, hl8, hmv8⟩ := HD.out.rows.swap.push H32.out (by have h1 := HD.out.len; have h2 := HVL.out; omega)
    rw [← HKI.out] at hrun
    have HL8 := Lib.hid hl8.swap
    have HM8 := Lib.hid (HD.out.mv.trans (moves_r (Ao := Ab') (mo := nb') (co := cb') hmv8))
    have hbs := bsId_of wr KI hks
    have HKW := Lib.hid HD.out.box
    clear hl8 hmv8 HD hnd' hlB
    go_wp2_with (first
     | (refine wpList_load_at rfl _ _ rfl g0 0 rfl KI _ (At.of_row HKW.out) Tryz.underlying33 rfl HII.out ?_)
     | (refine wpList_build1 rfl (.tmp 64) rfl (.agg KI) _ rfl hbs ?_)
     | (at_builtin; refine wpList_run_append hrun ?_ ?_ ?_; exact rfl; exact rfl) | fail)
    go_ret3
    rw [HRR.out]
    exact ⟨Ab', nb', cb', A8, nd' + 1, c8, rfl, HL8.out, HM8.out⟩
/-- what a round leaves -/
def RMarkRel (w : World) (Q : Except Int Ids) (s7 : Value) (wr : World) : Prop := ∃ Ad nd cd ids, s7 = .slice Ad nd cd ∧ Q = .ok ids ∧ RowR oidR 33 wr w.heap.size Ad nd cd ids ∧ Below w.heap.size w wr
set_option maxRecDepth 100000 in
set_option maxHeartbeats 8000000 in
theorem refMark_any (Ar : Option Addr) (nr cr : Nat) (rs : List RecT) (A : Option Addr) (c : Nat) (root : List UInt8) (W0 : World) (hrs : SlOf recR W0 no Ar rs) (hrn : nr = rs.length) (hnr : nr ≤ 1000) (hs : SlOf oidR W0 no A [root]) :
  Calls Tryz.prog 34 #[.slice Ar nr cr, .slice A 1 c] W0 (MarkPost W0 (markL (getB rs) root)) := by
 have h32 : root.length = 32 := oids_32 hs root (by simp)
 obtain ⟨b1, o1, x, rfl, hb1, hx, _, hat⟩ := oids_look hs rfl (i := 0) (by simp)
 have e : x = root := by simpa using hx.symm
 subst e
 obtain ⟨V, hVl, hV⟩ := getB_fin rs
 obtain ⟨R, hR⟩ := mkDeep_ends hV (n := V.length + 1) (id := x) (B := []) (D := []) (by simp) (fun _ h => nomatch h) (by simp)
 have HME := Lib.hid (mkDeep_err hR)
 have HMO := Lib.hid (mkDeep_ok hR)
 have HDE := Lib.hid (deep_any W0 Ar nr cr rs hrs hrn (by omega) V hV (by omega) (V.length + 1) x [] [] R W0 none 0 0 none 0 0 hR h32 ⟨RowR.nil _ _ _ _, RowR.nil _ _ _ _, fun b h => by simp [own, Value.ownBlock] at h, Below.refl _ _⟩ (by simp) (fun _ h => nomatch h) (Nat.le_refl _))
 obtain ⟨Q, hQ⟩ : ∃ Q, Q = markL (getB rs) x := ⟨_, rfl⟩
 rw [← hQ] at HME HMO ⊢
 obtain ⟨KX, hKX⟩ : ∃ KX, KX = (bytesV x).toArray := ⟨_, rfl⟩
 have HI := Lib.hid (show (Tryz.prog.info? 33).map (·.size) = some KX.size by rw [hKX]; exact oid_size h32)
 have hat2 : At W0 ⟨b1, o1, none⟩ KX := by rw [hKX]; simpa using hat
 have HAT := Lib.hid hat2
 rw [show idV x = .agg KX by rw [hKX]] at HDE
 clear hrs hrn hs hx hat hat2 hVl hV hR hQ hKX h32
 go_enter Tryz.func34, Tryz.ntmps34
 go_wp2_with fail
 go_loopw [6, 7, 9] (fun s6 s7 s9 wr => (s6 = .slice none 0 0 ∧ s7 = .slice none 0 0 ∧ s9 = .int .i64 0 ∧ wr = W0) ∨ (s9 = .int .i64 1 ∧ Hid (RMarkRel W0 Q s7 wr))) (fun s6 s7 s9 wr => 1 - (intOf s9).toNat)
 case atStart => exact .inl ⟨rfl, rfl, rfl, rfl⟩
 case round =>
  obtain ⟨rfl, rfl, rfl, rfl⟩ | ⟨rfl, HRL⟩ := hrel
  ·go_wp2_with (first | (refine wpList_load_at rfl _ _ rfl b1 o1 rfl KX _ HAT.out Tryz.underlying33 rfl HI.out ?_) | fail)
   refine HDE.out.mono ?_
   intro e w5 hp
   cases R with
   | error z =>
    obtain ⟨rfl, hz, hb⟩ := hp
    have hz2 : (z != 0) = true := by simpa using hz
    have HQ := Lib.hid (show Q = .error z from HME.out z rfl)
    have HZ := Lib.hid hz
    have HB := Lib.hid hb
    clear hz hb HDE
    go_wp2_with fail
    go_ret2
    rw [HQ.out]
    exact ⟨HB.out, rfl, HZ.out⟩
   | ok y =>
    obtain ⟨Ab', nb', cb', Ad', nd', cd', rfl, hl, _⟩ := hp
    have HRL := Lib.hid (show RMarkRel wr Q (.slice Ad' nd' cd') w5 from ⟨_, _, _, y.2, rfl, HMO.out y rfl, hl.o, hl.below⟩)
    clear hl HDE
    go_wp2_with fail
    go_roundw
    case rel => exact .inr ⟨by go_num, HRL⟩
    case measure => simp [intOf]
  ·obtain ⟨Ad', nd', cd', ids, hs7, hQ, hr, hb⟩ := HRL.out
   subst hs7
   have HQ := Lib.hid hQ
   have HRW := Lib.hid hr
   have HBB := Lib.hid hb
   clear hQ hr hb HRL HDE
   go_wp2_with fail
   go_ret2
   rw [HQ.out]
   exact ⟨HBB.out, Ad', nd', cd', rfl, HRW.out⟩
end Go.Proofs.YtgmbkcjihgphmaaGreat
/- the reference's Want, Records; ids. -/
namespace Go.Proofs.YtgmbkcjihgphmaaGreat
open Go.RowKit
attribute [local go_sem ↓] bsId_eq neqId_eq
set_option maxRecDepth 100000 in
set_option maxHeartbeats 4000000 in
theorem refWant_any {K : Array Value} {bs ax : List RecT} {root : List UInt8} (W0 : World) (h : RF W0 K bs ax root) (hn : ax.length + bs.length ≤ 1000) :
  Calls Tryz.prog 11 #[.agg K] W0 (IdsOut W0 ((lackL (getB (ax ++ bs)) root).take 16)) := by
 have HIF := Lib.hid h.size
 obtain ⟨w1, hw1⟩ : ∃ w1, w1 = W0.alloc (.cells K 37) := ⟨_, rfl⟩
 have hb1 : Below W0.heap.size W0 w1 := by rw [hw1]; exact (Below.refl _ _).alloc (Nat.le_refl _) _
 have HB1 := Lib.hid hb1
 have HK1 := Lib.hid (show Blk w1 W0.heap.size 37 K by rw [hw1]; exact Blk.new W0 _ _)
 have HL := Lib.hid (refLack_any w1 (h.go hb1) hn)
 obtain ⟨L, hL⟩ : ∃ L, L = lackL (getB (ax ++ bs)) root := ⟨_, rfl⟩
 rw [← hL] at HL ⊢
 have HW1 := Lib.hid hw1
 clear h hb1 hw1 hL
 go_enter Tryz.func11, Tryz.ntmps11
 go_upto_region 1 with fail
 rw [← HW1.out]
 generalize hg : W0.heap.size = g at *
 have HG := Lib.hid hg
 clear hg HW1
 go_wp2_with (first | (refine wpList_load_at rfl _ _ rfl g 0 rfl K _ (At.of_row HK1.out) Tryz.underlying37 rfl HIF.out ?_) | fail)
 refine HL.out.mono ?_
 rintro e w2 ⟨hb, A, m, c, rfl, hr⟩
 have HB := Lib.hid (HB1.out.trans (hb.mono (by have := HB1.out.size; have := HK1.out.lt; omega)))
 have HS := Lib.hid hr.sl
 have HC := Lib.hid hr.cap
 have HM := Lib.hid hr.len
 have hmc := hr.cap.1
 clear hb hr HL
 rcases Nat.lt_or_ge 16 m with h | h
 ·have q5 : (16 : Int) ≤ (c : Int) := by omega
  have q6 : 16 ≤ c := by omega
  have q7 : (16 : Int) < (m : Int) := by omega
  clear hmc
  go_wp2_with fail
  go_ret
  exact ⟨by rw [HG.out]; exact HB.out, A, 16, c, rfl, by rw [List.length_take, ← HM.out]; omega, q6, HC.out.2, HS.out.upto HM.out.symm (by omega)⟩
 ·have q7 : ¬ (16 : Int) < (m : Int) := by omega
  have HT := Lib.hid (show L.take 16 = L by rw [List.take_of_length_le]; have := HM.out; omega)
  clear hmc
  go_wp2_with fail
  go_ret
  exact ⟨by rw [HG.out]; exact HB.out, A, m, c, rfl, by rw [HT.out, HM.out], HC.out.1, HC.out.2, by rw [HT.out]; exact HS.out⟩
def MkOut (w : World) (A : Option Addr) (n : Nat) (z : Int) : Except Int Ids → Prop
 | .ok ids => z = 0 ∧ SlOf oidR w no A ids ∧ n = ids.length
 | .error _ => z ≠ 0
def recB (ax : List RecT) : Except Int Ids → List (List UInt8)
 | .ok ids => ids.filterMap (getB ax)
 | .error _ => []
theorem recB_step {ax : List RecT} {ids : Ids} {k : Nat} {id : List UInt8} (h : ids[k]? = some id) : (ids.drop k).filterMap (getB ax) = match getB ax id with
  | none => (ids.drop (k + 1)).filterMap (getB ax)
  | some b => b :: (ids.drop (k + 1)).filterMap (getB ax) := by
 obtain ⟨h1, h2⟩ := List.getElem?_eq_some_iff.1 h
 rw [List.drop_eq_getElem_cons h1, h2, List.filterMap_cons]
 cases getB ax id <;> rfl
set_option maxRecDepth 100000 in
set_option maxHeartbeats 8000000 in
theorem refRecs_any {K : Array Value} {bs ax : List RecT} {root : List UInt8} (W0 : World) (h : RF W0 K bs ax root) (hn : ax.length + bs.length ≤ 1000) :
  Calls Tryz.prog 16 #[.agg K] W0 (StrsPost W0 (recB ax (markL (getB (ax ++ bs)) root))) := by
 have HIF := Lib.hid h.size
 have h32 := h.r32
 obtain ⟨KI, hKI⟩ : ∃ KI, KI = (bytesV root).toArray := ⟨_, rfl⟩
 have HII := Lib.hid (show (Tryz.prog.info? 33).map (·.size) = some KI.size by rw [hKI]; exact oid_size h32)
 have hks : KI.size = 32 := by rw [hKI]; simp [bytesV, h32]
 have hbs := fun w => bsId_of w KI hks
 obtain ⟨w1, hw1⟩ : ∃ w1, w1 = W0.alloc (.cells K 37) := ⟨_, rfl⟩
 have hb1 : Below W0.heap.size W0 w1 := by rw [hw1]; exact (Below.refl _ _).alloc (Nat.le_refl _) _
 have HB1 := Lib.hid hb1
 have HK1 := Lib.hid (show Blk w1 W0.heap.size 37 K by rw [hw1]; exact Blk.new W0 _ _)
 have HAL := Lib.hid (fun w (hb : Below w1.heap.size w1 w) => all_any w ((h.go hb1).go hb) (by omega))
 obtain ⟨Aw, nw, cw, Aa, na, ca, hK, hnw, hna, hsw, hsa⟩ := h.ex
 have HAT := Lib.hid (show At w1 ⟨W0.heap.size, 2, none⟩ KI by
  have := HK1.out
  rw [hK] at this
  rw [hKI]
  exact fK_id_at this)
 have HCA := Lib.hid (show w1.cell? ⟨W0.heap.size, 1, none⟩ = some (.slice Aa na ca) by rw [HK1.out.cell, hK]; rfl)
 have HSA := Lib.hid (hsa.below hb1)
 have HNA := Lib.hid hna
 have HSL := Lib.hid (fun (W : World) (hb : Below w1.heap.size w1 W) => show SlOf oidR (W.alloc (.cells KI 33)) no (some ⟨W.heap.size, 0, none⟩) [root] by
  rw [hKI]
  exact ⟨bytesV root, Sl.fresh W (bytesV root).toArray 33 (0, 0) 1 32 (by simp [bytesV_length, h32]), by simpa using (Each.nil (R := oidR.R _ no)).snoc (oid_of _ no h32), fun _ _ _ _ q => q⟩)
 obtain ⟨MM, hMM⟩ : ∃ MM, MM = markL (getB (ax ++ bs)) root := ⟨_, rfl⟩
 have HMA := Lib.hid (fun (w : World) Ar nr cr A (hrs : SlOf recR w no Ar (ax ++ bs)) (hrn : (ax ++ bs).length = nr) (hsl : SlOf oidR w no A [root]) => refMark_any Ar nr cr (ax ++ bs) A 1 root w hrs hrn.symm (by rw [List.length_append] at hrn; omega) hsl)
 have HLE := Lib.hid (fun ids (e : MM = .ok ids) => show ids.length ≤ 1000000000 by
  have h1 := (getB_fin (ax ++ bs)).markL root
  rw [← hMM, e] at h1
  have h2 := markP_len h1
  rw [List.length_append] at h2
  omega)
 rw [← hMM] at HMA ⊢
 have HW1 := Lib.hid hw1
 have hg1 := HK1.out.lt
 have hg0 : W0.heap.size < w1.heap.size := hg1
 obtain ⟨R, hR⟩ : ∃ R, R = recB ax MM := ⟨_, rfl⟩
 rw [← hR]
 have HR := Lib.hid hR
 clear h hw1 hb1 hKI hK hnw hna hsw hsa hMM hR h32 hks
 go_enter Tryz.func16, Tryz.ntmps16
 go_upto_region 1 with fail
 rw [← HW1.out]
 generalize hgg : W0.heap.size = g at *
 have HG := Lib.hid hgg
 clear hgg HW1
 have hcls : Below w1.heap.size w1 w1.drew := Same.below ⟨1, rfl⟩ _
 go_cut [3, 4] (fun s3 s4 wx => ∃ (A3 : Option Addr) (n3 c3 : Nat) (z : Int), s3 = .slice A3 n3 c3 ∧ s4 = .int .i64 z ∧ Hid (Below w1.heap.size w1 wx) ∧ Hid (MkOut wx A3 n3 z MM))
 case first =>
  refine wp_region_held (S := fun w' => Below w1.heap.size w1 w') (by kernel_rfl) ?_
  change wpAnyH _ _ _ _ _ _ _ _ (World.drew _)
  generalize World.drew w1 = wd at hcls ⊢
  refine rgU 0 (v := ?_) (a' := ?_) hcls ?_ ?_ ?_
  rotate_left 2
  ·(intro w hS; refine exec_load_at 37 (.tmp 1) ?_ g 0 ?_ K _ (At.of_row (HK1.out.below hS hg1)) Tryz.underlying37 rfl HIF.out; exact rfl; exact rfl)
  ·(go_simp; try with_reducible rfl)
  refine rgT 2 hcls ?_
  refine rgU 3 (v := ?_) (a' := ?_) hcls ?_ ?_ ?_
  rotate_left 2
  ·(intro w hS; refine exec_load_at 33 (.tmp 12) ?_ g 2 ?_ KI _ (HAT.out.below hS hg1) Tryz.underlying33 rfl HII.out; exact rfl; exact rfl)
  ·(go_simp; try with_reducible rfl)
  refine held_ready (rs := [1, 4]) (by kernel_rfl) (by simp) ?_
  refine AllHeld.cons rfl (fun KR hKR => ?_) ?_
  ·go_simp
   refine (HAL.out _ hcls).mono ?_
   rintro e we ⟨hbe, Ar, nr, cr, rfl, hre⟩
   try have hsl := hsl.below hbe
   have hrs := hre.sl
   have hrn := hre.len.symm
   have hcls := hcls.trans (hbe.mono hcls.size)
   clear hbe hre
   refine hKR _ _ hcls ?_
   clear hKR KR
   refine held_ready (rs := [4]) (by kernel_rfl) (by simp) ?_
   refine AllHeld.cons rfl (fun KR hKR => ?_) ?_
   ·refine step_build (by rfl) (.tmp 13) (by rfl) (by rfl) (hbs _) ?_
    have hsl := HSL.out _ hcls
    try have hrs := hrs.below ((Below.refl _ _).alloc (Nat.le_refl _) (.cells KI 33))
    have hcls := hcls.alloc hcls.size (.cells KI 33)
    refine hKR _ _ hcls ?_
    clear hKR KR
    refine held_ready (rs := [5]) (by kernel_rfl) (by simp) ?_
    refine AllHeld.cons rfl (fun KR hKR => ?_) ?_
    ·go_simp
     refine (HMA.out _ _ _ _ _ hrs hrn hsl).mono ?_
     rintro e wm ⟨hbm, hm⟩
     have hcls := hcls.trans (hbm.mono hcls.size)
     obtain ⟨A3, n3, c3, z, rfl, HZ⟩ : ∃ A3 n3 c3 z, e = .returned (.tuple #[.slice A3 n3 c3, .int .i64 z]) ∧ Hid (MkOut wm A3 n3 z MM) := by
      cases MM with
      | error z => exact ⟨none, 0, 0, z, hm.1, Lib.hid hm.2⟩
      | ok ids =>
       obtain ⟨A3, n3, c3, he, hr⟩ := hm
       exact ⟨A3, n3, c3, 0, he, Lib.hid ⟨rfl, hr.sl, hr.len⟩⟩
     clear hbm
     refine hKR _ _ hcls ?_
     clear hKR KR
     refine rgT 6 hcls ?_
     refine rgT 7 hcls ?_
     refine rgT 8 hcls ?_
     refine rgT 9 hcls ?_
     refine rgT 10 hcls ?_
     refine wpAnyH_done (by kernel_rfl) ?_ _
     go_wp2_with fail
     go_meet
     case rel => exact ⟨A3, n3, c3, z, rfl, rfl, Lib.hid hcls, HZ⟩
    exact AllHeld.nil
   exact AllHeld.nil
  refine AllHeld.cons rfl (fun KR hKR => ?_) ?_
  ·refine step_build (by rfl) (.tmp 13) (by rfl) (by rfl) (hbs _) ?_
   have hsl := HSL.out _ hcls
   try have hrs := hrs.below ((Below.refl _ _).alloc (Nat.le_refl _) (.cells KI 33))
   have hcls := hcls.alloc hcls.size (.cells KI 33)
   refine hKR _ _ hcls ?_
   clear hKR KR
   refine held_ready (rs := [1]) (by kernel_rfl) (by simp) ?_
   refine AllHeld.cons rfl (fun KR hKR => ?_) ?_
   ·go_simp
    refine (HAL.out _ hcls).mono ?_
    rintro e we ⟨hbe, Ar, nr, cr, rfl, hre⟩
    try have hsl := hsl.below hbe
    have hrs := hre.sl
    have hrn := hre.len.symm
    have hcls := hcls.trans (hbe.mono hcls.size)
    clear hbe hre
    refine hKR _ _ hcls ?_
    clear hKR KR
    refine held_ready (rs := [5]) (by kernel_rfl) (by simp) ?_
    refine AllHeld.cons rfl (fun KR hKR => ?_) ?_
    ·go_simp
     refine (HMA.out _ _ _ _ _ hrs hrn hsl).mono ?_
     rintro e wm ⟨hbm, hm⟩
     have hcls := hcls.trans (hbm.mono hcls.size)
     obtain ⟨A3, n3, c3, z, rfl, HZ⟩ : ∃ A3 n3 c3 z, e = .returned (.tuple #[.slice A3 n3 c3, .int .i64 z]) ∧ Hid (MkOut wm A3 n3 z MM) := by
      cases MM with
      | error z => exact ⟨none, 0, 0, z, hm.1, Lib.hid hm.2⟩
      | ok ids =>
       obtain ⟨A3, n3, c3, he, hr⟩ := hm
       exact ⟨A3, n3, c3, 0, he, Lib.hid ⟨rfl, hr.sl, hr.len⟩⟩
     clear hbm
     refine hKR _ _ hcls ?_
     clear hKR KR
     refine rgT 6 hcls ?_
     refine rgT 7 hcls ?_
     refine rgT 8 hcls ?_
     refine rgT 9 hcls ?_
     refine rgT 10 hcls ?_
     refine wpAnyH_done (by kernel_rfl) ?_ _
     go_wp2_with fail
     go_meet
     case rel => exact ⟨A3, n3, c3, z, rfl, rfl, Lib.hid hcls, HZ⟩
    exact AllHeld.nil
   exact AllHeld.nil
  exact AllHeld.nil
 case rest =>
 obtain ⟨A3, n3, c3, z, rfl, rfl, HBX, HZ⟩ := hcut
 rename World => wx
 have HBW := Lib.hid (HB1.out.trans (HBX.out.mono (Nat.le_of_lt hg0)))
 have HGX := Lib.hid (show g ≤ wx.heap.size by have := HBW.out.size; rw [HG.out] at this; exact this)
 cases MM with
 | error z' =>
  have hz : z ≠ 0 := HZ.out
  have hz2 : (z != 0) = true := by simpa using hz
  have HRN := Lib.hid (show R = [] from HR.out)
  clear hz HZ
  go_wp2_with fail
  go_ret
  rw [HRN.out]
  exact ⟨by rw [HG.out]; exact HBW.out, none, 0, 0, [], rfl, RowR.nil _ _ _ _, rfl⟩
 | ok ids =>
  obtain ⟨hz, hsi, hni⟩ := HZ.out
  subst hz
  have HIS := Lib.hid hsi
  have HIN := Lib.hid hni.symm
  have hn9 : n3 ≤ 1000000000 := by rw [hni]; exact HLE.out ids rfl
  have HRF := Lib.hid (show R = ids.filterMap (getB ax) from HR.out)
  have HKX := Lib.hid (HK1.out.below HBX.out hg1)
  have HCX := Lib.hid ((HBX.out.cell (p := ⟨g, 1, none⟩) hg1).trans HCA.out)
  have HSX := Lib.hid (HSA.out.below HBX.out)
  have hgx : g < wx.heap.size := Nat.lt_of_lt_of_le hg1 HBX.out.size
  clear hsi hni HZ HLE HR HAL HMA HSL hcls hbs
  go_wp2_with fail
  go_loopw [5, 6] (fun s5 s6 wr => ∃ (k mo co : Nat) (Ao : Option Addr) (ss : List ByteArray), k ≤ n3 ∧ s6 = .int .i64 (k : Int) ∧ s5 = .slice Ao mo co ∧ Hid (mo ≤ k) ∧ Hid (RowR strR 9 wr wx.heap.size Ao mo co ss) ∧ Hid (ss.map dB ++ (ids.drop k).filterMap (getB ax) = R) ∧ Hid (Below wx.heap.size wx wr)) (fun s5 s6 wr => n3 - (intOf s6).toNat)
  case atStart => exact ⟨0, 0, 0, none, [], by omega, rfl, rfl, Lib.hid (Nat.le_refl _), Lib.hid (RowR.nil _ _ _ _), Lib.hid HRF.out.symm, Lib.hid (Below.refl _ _)⟩
  case round =>
   obtain ⟨k, mo, co, Ao, ss, hk, rfl, rfl, HMO, HRW, HF, HBL⟩ := hrel
   by_cases hlt : k < n3
   ·have hltI : (k : Int) < (n3 : Int) := by omega
    have hmo := HMO.out
    obtain ⟨b1, o1, x, rfl, hb1, hx, hx32, hat⟩ := oids_look (HIS.out.below HBL.out) HIN.out hlt
    obtain ⟨KX, hKX⟩ : ∃ KX, KX = (bytesV x).toArray := ⟨_, rfl⟩
    have HI := Lib.hid (show (Tryz.prog.info? 33).map (·.size) = some KX.size by rw [hKX]; exact oid_size hx32)
    rw [← hKX] at hat
    obtain ⟨wd, hwd⟩ : ∃ wd, wd = wr.drew := ⟨_, rfl⟩
    have hbd : Below wr.heap.size wr wd := by rw [hwd]; exact Same.below ⟨1, rfl⟩ _
    have HATD := Lib.hid (hat.below hbd hb1)
    have HBD := Lib.hid (HBL.out.trans (hbd.mono HBL.out.size))
    have HCD := Lib.hid ((HBD.out.cell (p := ⟨g, 1, none⟩) hgx).trans HCX.out)
    have HRD := Lib.hid (HRW.out.below hbd)
    have HGE := Lib.hid (refGet_any Aa na ca ax x wd (HSX.out.below HBD.out) HNA.out (by have := HNA.out; omega) hx32)
    rw [show idV x = .agg KX by rw [hKX]] at HGE
    have HST := Lib.hid (recB_step (ax := ax) hx)
    have HWD := Lib.hid hwd
    obtain ⟨sg, hsg⟩ : ∃ sg, sg = getS ax x := ⟨_, rfl⟩
    rw [← hsg] at HGE
    have HSG := Lib.hid (show getB ax x = sg.map dB by rw [hsg]; rfl)
    clear hat hKX hx32 hx hwd hbd hsg HRW HBL
    go_upto_region 8 with fail
    cases sg with
    | none =>
     have HF2 := Lib.hid (show ss.map dB ++ (ids.drop (k + 1)).filterMap (getB ax) = R by
      have := HF.out
      rw [HST.out, HSG.out] at this
      exact this)
     refine wp_region_late (S := fun w => w = wd) (s := 6) (by kernel_rfl) ?_
     change wpAnyL _ _ _ _ _ _ _ _ _ (World.drew _)
     rw [← HWD.out]
     refine rgL 0 rfl (fun _ _ _ h => h) (fun _ => rfl) ?_
     refine late_load (i := 1) (m := 1) (v := ?_) (a' := ?_) rfl (by kernel_rfl) (by kernel_rfl) (by kernel_rfl) (by kernel_rfl) (by rfl) (fun _ _ _ h => h) (by rfl) rfl ?_ ?_ ?_
     rotate_left 2
     ·(intro w hS; subst hS; have t := HCD.out; go_simp; try with_reducible rfl)
     ·(go_simp; try with_reducible rfl)
     refine rgL 2 rfl (fun _ _ _ h => h) (fun _ => rfl) ?_
     refine rgL 3 rfl (fun _ _ _ h => h) (fun _ => rfl) ?_
     refine rgL 4 rfl (fun _ _ _ h => h) (fun _ => rfl) ?_
     refine late_load (i := 5) (m := 5) (v := ?_) (a' := ?_) rfl (by kernel_rfl) (by kernel_rfl) (by kernel_rfl) (by kernel_rfl) (by rfl) (fun _ _ _ h => h) (by rfl) rfl ?_ ?_ ?_
     rotate_left 2
     ·(intro w hS; subst hS; refine exec_load_at 33 (.tmp 31) ?_ b1 (o1 + k * 32) ?_ KX _ HATD.out Tryz.underlying33 rfl HI.out; exact rfl; exact rfl)
     ·(go_simp; try with_reducible rfl)
     refine late_one (i := 6) (by kernel_rfl) rfl (fun KR hKR => ?_)
     go_simp
     refine HGE.out.mono ?_
     rintro e w8 ⟨hb8, hm⟩
     obtain rfl : e = _ := hm
     have HB8 := Lib.hid (HBD.out.trans (hb8.mono HBD.out.size))
     have HR8 := Lib.hid (HRD.out.below hb8)
     clear hb8
     refine hKR _ _ (fun h0 => Bool.noConfusion (show (true : Bool) = false from h0)) ?_
     clear hKR KR
     refine rgL 7 rfl (fun _ _ _ h => h) (fun h0 => Bool.noConfusion (show (true : Bool) = false from h0)) ?_
     refine rgL 8 rfl (fun _ _ _ h => h) (fun h0 => Bool.noConfusion (show (true : Bool) = false from h0)) ?_
     refine rgL 9 rfl (fun _ _ _ h => h) (fun h0 => Bool.noConfusion (show (true : Bool) = false from h0)) ?_
     refine rgL 10 rfl (fun _ _ _ h => h) (fun h0 => Bool.noConfusion (show (true : Bool) = false from h0)) ?_
     refine rgL 11 rfl (fun _ _ _ h => h) (fun h0 => Bool.noConfusion (show (true : Bool) = false from h0)) ?_
     refine late_done' (by kernel_rfl) ?_ _
     go_wp2_with fail
     go_roundw
     case rel => exact ⟨k + 1, mo, co, Ao, ss, by omega, by go_num, rfl, Lib.hid (by omega), HR8, HF2, HB8⟩
     case measure => simp [intOf]; omega
    | some s =>
     have HF2 := Lib.hid (show (ss ++ [s]).map dB ++ (ids.drop (k + 1)).filterMap (getB ax) = R by
      have := HF.out
      rw [HST.out, HSG.out] at this
      rw [List.map_append, List.append_assoc]
      exact this)
     refine wp_region_late (S := fun w => w = wd) (s := 6) (by kernel_rfl) ?_
     change wpAnyL _ _ _ _ _ _ _ _ _ (World.drew _)
     rw [← HWD.out]
     refine rgL 0 rfl (fun _ _ _ h => h) (fun _ => rfl) ?_
     refine late_load (i := 1) (m := 1) (v := ?_) (a' := ?_) rfl (by kernel_rfl) (by kernel_rfl) (by kernel_rfl) (by kernel_rfl) (by rfl) (fun _ _ _ h => h) (by rfl) rfl ?_ ?_ ?_
     rotate_left 2
     ·(intro w hS; subst hS; have t := HCD.out; go_simp; try with_reducible rfl)
     ·(go_simp; try with_reducible rfl)
     refine rgL 2 rfl (fun _ _ _ h => h) (fun _ => rfl) ?_
     refine rgL 3 rfl (fun _ _ _ h => h) (fun _ => rfl) ?_
     refine rgL 4 rfl (fun _ _ _ h => h) (fun _ => rfl) ?_
     refine late_load (i := 5) (m := 5) (v := ?_) (a' := ?_) rfl (by kernel_rfl) (by kernel_rfl) (by kernel_rfl) (by kernel_rfl) (by rfl) (fun _ _ _ h => h) (by rfl) rfl ?_ ?_ ?_
     rotate_left 2
     ·(intro w hS; subst hS; refine exec_load_at 33 (.tmp 31) ?_ b1 (o1 + k * 32) ?_ KX _ HATD.out Tryz.underlying33 rfl HI.out; exact rfl; exact rfl)
     ·(go_simp; try with_reducible rfl)
     refine late_one (i := 6) (by kernel_rfl) rfl (fun KR hKR => ?_)
     go_simp
     refine HGE.out.mono ?_
     rintro e w8 ⟨hb8, hm⟩
     obtain rfl : e = _ := hm
     have HB8 := Lib.hid (HBD.out.trans (hb8.mono HBD.out.size))
     have HR8 := Lib.hid (HRD.out.below hb8)
     clear hb8
     obtain ⟨A9, c9, w9, hrun, hr9, hb9, _, _, _, _⟩ := HR8.out.push elemStr1 HB8.out.size (av := fun _ => True) (cs := [.string s]) (x := s) rfl (fun _ _ _ => trivial) (by omega) (by simp only [maxLen]; omega) 43 1
     have hrun : (Builtin.append_ #[43, 43] 43 #[.slice Ao mo co, .slice (some ⟨w8.heap.size, 0, none⟩) 1 1]).run Tryz.prog (w8.alloc (.cells #[.string s] 9)) = .ok (.slice A9 (mo + 1) c9) w9 := hrun
     have HR9 := Lib.hid hr9
     have HB9 := Lib.hid (HB8.out.trans hb9)
     clear hr9 hb9
     refine hKR _ _ (fun h0 => Bool.noConfusion (show (true : Bool) = false from h0)) ?_
     clear hKR KR
     refine rgL 7 rfl (fun _ _ _ h => h) (fun h0 => Bool.noConfusion (show (true : Bool) = false from h0)) ?_
     refine rgL 8 rfl (fun _ _ _ h => h) (fun h0 => Bool.noConfusion (show (true : Bool) = false from h0)) ?_
     refine rgL 9 rfl (fun _ _ _ h => h) (fun h0 => Bool.noConfusion (show (true : Bool) = false from h0)) ?_
     refine rgL 10 rfl (fun _ _ _ h => h) (fun h0 => Bool.noConfusion (show (true : Bool) = false from h0)) ?_
     refine rgL 11 rfl (fun _ _ _ h => h) (fun h0 => Bool.noConfusion (show (true : Bool) = false from h0)) ?_
     refine late_done' (by kernel_rfl) ?_ _
     go_wp2_with (at_builtin; refine wpList_run_append hrun ?_ ?_ ?_; exact rfl; exact rfl)
     go_roundw
     case rel => exact ⟨k + 1, mo + 1, c9, A9, ss ++ [s], by omega, by go_num, rfl, Lib.hid (by omega), HR9, HF2, HB9⟩
     case measure => simp [intOf]; omega
   ·have hltI : ¬ (k : Int) < (n3 : Int) := by omega
    have HRO := Lib.hid (show ss.map dB = R by
     have := HF.out
     rw [List.drop_of_length_le (by rw [HIN.out]; omega)] at this
     simpa using this)
    have HBZ := Lib.hid (HBW.out.trans (HBL.out.mono HGX.out))
    clear HF
    go_wp2_with fail
    go_ret
    rw [← HRO.out]
    exact ⟨by rw [HG.out]; exact HBZ.out, Ao, mo, co, ss, rfl, by rw [HG.out]; exact HRW.out.lower HGX.out, rfl⟩
end Go.Proofs.YtgmbkcjihgphmaaGreat
