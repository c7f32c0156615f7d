/- Contracts and laws for what the statement reaches, joined: TalkTakeKit, TalkTake. -/
import Derived.Test.YtgmbkcjihgphmaaJn18
import Derived.Test.YtgmbkcjihgphmaaJn20
/- Take: what it does to a fetch, plain; what its store leaves. -/
set_option linter.unusedVariables false
set_option linter.unusedSimpArgs false
namespace Go.Proofs.Ytgmbkcjihgphmaa
open Go.RowKit

def lkL : Res (List (List UInt8)) → List (List UInt8)
  | .ok x => x
  | .error _ => []
def lkB : Res (List (List UInt8)) → Bool
  | .ok _ => true
  | .error _ => false
/-- records come in: the fetch, how many were lacking -/
def takeF (L : AsT → List (List UInt8)) : List (List UInt8) → AsT → Nat → AsT × Nat
  | [], ad, z => (ad, z)
  | b :: bs, ad, z => if (lkB (linksG b) && (L ad).contains (shaG b)) = true then takeF L bs ((shaG b, b) :: ad) (z + 1) else takeF L bs ad z
theorem LinksPost.lk {w w' : World} {R : Res (List (List UInt8))} {e : Ending} (h : LinksPost w R e w') : (∃ A c, e = .returned (.tuple #[.slice A (lkL R).length c, .int .i64 (okZ R)]) ∧ SlOf oidR w' (fun b => b < w.heap.size) A (lkL R) ∧ (lkL R).length ≤ c ∧ c ≤ maxLen) ∧ Below w.heap.size w w' := by
  obtain ⟨hb, h⟩ := h
  refine ⟨?_, hb⟩
  cases R with
  | error z => exact ⟨none, 0, h, SlOf.nil, Nat.le_refl _, Nat.zero_le _⟩
  | ok o => exact h
theorem lkB_ok {b : List UInt8} (h : lkB (linksG b) = true) : okZ (linksG b) = 0 := by
  cases hl : linksG b with
  | ok x => rfl
  | error z => rw [hl] at h; cases h
theorem lkB_err {b : List UInt8} (h : lkB (linksG b) = false) : okZ (linksG b) ≠ 0 := by
  cases hl : linksG b with
  | ok x => rw [hl] at h; cases h
  | error z => exact linksG_err hl

theorem IM.get_set (m : IM) (k : List UInt8) (v : Value) (x : List UInt8) : (m.set k v).get x = if k == x then some v else m.get x := by
  unfold IM.set
  split
  · rename_i ha
    unfold IM.get
    rw [List.find?_map]
    have hf : ((fun p : List UInt8 × Value => p.1 == x) ∘ fun p => if p.1 == k then (p.1, v) else p) = fun p => p.1 == x := by
      funext p
      simp only [Function.comp]
      split <;> rfl
    rw [hf]
    cases hx : m.find? (fun p => p.1 == x) with
    | none =>
      rw [if_neg]
      · rfl
      · intro e
        have e := eq_of_beq e
        obtain ⟨p, hp, hk⟩ := List.any_eq_true.1 ha
        have := List.find?_eq_none.1 hx p hp
        rw [← e] at this
        exact this hk
    | some p =>
      have hp : (p.1 == x) = true := by have := List.find?_some hx; exact this
      have hp := eq_of_beq hp
      by_cases hk : k = x
      · rw [if_pos (by simpa using hk)]
        simp [hp, hk]
      · rw [if_neg (by simpa using hk)]
        have : ¬ x = k := fun e => hk e.symm
        simp [hp, this]
  · rename_i ha
    unfold IM.get
    rw [List.find?_append]
    by_cases hk : k = x
    · rw [if_pos (by simpa using hk)]
      have : m.find? (fun p => p.1 == x) = none := List.find?_eq_none.2 fun p hp e => ha (List.any_eq_true.2 ⟨p, hp, by rw [hk]; exact e⟩)
      rw [this]
      simp [hk]
    · rw [if_neg (by simpa using hk)]
      cases hx : m.find? (fun p => p.1 == x) with
      | none => simp [hk]
      | some p => rfl
theorem getA_cons (ad : AsT) (k b x : List UInt8) : getA ((k, b) :: ad) x = if k == x then some b else getA ad x := by
  unfold getA
  rw [List.find?_cons]
  by_cases h : k = x
  · simp [h]
  · have h2 : (k == x) = false := by simpa using h
    simp only [h2]
    rfl
/-- what has cells is no map -/
theorem apart_map {w : World} {mb : Nat} {m : IM} {A : Option Addr} {b : List UInt8} (hs : SlOf byteR w no A b) (hm : MapW w mb m) : SlOf byteR w (fun x => x = mb) A b := by
  obtain ⟨vs, h1, h2, h3⟩ := hs
  refine ⟨vs, h1, h2.mono fun _ _ k => k, fun h0 x off e hx => ?_⟩
  obtain ⟨b', off', e', hb', hc⟩ := h1.2 h0
  rw [e] at e'
  cases e'
  have hl : 0 < vs.length := by have h4 : vs.length = b.length * 1 := h1.1; omega
  have := hc 0 vs[0] (List.getElem?_eq_getElem hl)
  rw [hx] at this
  rw [hm.no_cell] at this
  cases this
theorem blk_map {w : World} {g mb : Nat} {t : TypeId} {K : Array Value} {m : IM} (h : Blk w g t K) (hm : MapW w mb m) : g ≠ mb := by
  rintro rfl
  obtain ⟨es, cl, h1, _⟩ := hm
  unfold Blk at h
  rw [h] at h1
  cases h1
section
variable {w w' : World} {B g mb c : Nat} {T : TypeId} {V : Value} {root id b : List UInt8} {m : IM} {ad : AsT} {A : Option Addr}
theorem FT.put (h : FT w B g T V root mb m ad) (hg : w.grownBy w' (some mb)) (hm : MapW w' mb (m.set id (.slice A b.length c))) (hs : SlOf byteR w' no A b) (h1 : b.length ≤ c) (h2 : c ≤ maxLen) (h3 : b.length ≤ 1000000000) :
    FT w' B g T V root mb (m.set id (.slice A b.length c)) ((id, b) :: ad) := by
  refine ⟨h.blk.grown hg (fun e => blk_map h.blk h.map (Option.some.inj e)), hm, fun x => ?_, h.baseg, h.basem, h.r32⟩
  rw [IM.get_set, getA_cons]
  by_cases hx : id = x
  · have hx : (id == x) = true := by simpa using hx
    rw [if_pos hx, if_pos hx]
    exact ⟨b, A, c, rfl, rfl, hs, h1, h2, h3⟩
  · have hx : ¬ (id == x) = true := by simpa using hx
    rw [if_neg hx, if_neg hx]
    have he := h.els x
    cases hv : m.get x with
    | none => rw [hv] at he; exact he
    | some v =>
      rw [hv] at he
      obtain ⟨b', A', c', e1, e2, e3, e4⟩ := he
      exact ⟨b', A', c', e1, e2, ((apart_map e3 h.map).stable (Moves.grown hg rfl)).forget, e4⟩
end

theorem step_mapUpdate {P : Program} {Q : Exit → Act → World → Prop} {o : Oper} {a : Act} {w w' : World} {K : Act → World → Prop} {E : Prop} (hgd : o.guard = none) (x y z : Operand) {ty : TypeId} (ho : o.op = .mapUpdate ty x y z)
    {vx vy vz : Value} (hx : a.eval x = vx) (hy : a.eval y = vy) (hz : a.eval z = vz) (hr : (Instr.mapUpdate ty vx vy vz).run P w = .ok () w') (h : K (a.put o.dst undef) w') :
    ∀ {ops : Array Oper}, if Region.wanted o (yielded ops a.tmps) = true then Oper.wp P o a w K Q else E := by
  intro ops
  have hw : Region.wanted o (yielded ops a.tmps) = true := by simp [Region.wanted, hgd]
  rw [if_pos hw]
  unfold Oper.wp execOp
  simp only [ho, hx, hy, hz, Sem.run_bind, Sem.run_pure, Result.andThen_ok, hr]
  exact h
end Go.Proofs.Ytgmbkcjihgphmaa

/- Take: by what lacking gives. -/
set_option linter.unusedVariables false
set_option linter.unusedSimpArgs false
namespace Go.Proofs.Ytgmbkcjihgphmaa
open Go.RowKit

/-- what lacking gives of a fetch, wherever it stands -/
structure LackLaw (W0 : World) (g : Nat) (T : TypeId) (V : Value) (root : List UInt8) (mb : Nat) (L : AsT → List (List UInt8)) (J : Nat) : Prop where
  run : ∀ w m ad, Below W0.heap.size W0 w → FT w W0.heap.size g T V root mb m ad → ad.length ≤ J → Calls Try.prog 31 #[.pointer (some ⟨g, 0, none⟩)] w (IdsPost w (L ad))
  len : ∀ ad, ad.length ≤ J → (L ad).length ≤ 1000000000
def TakePost (W0 w : World) (g : Nat) (T : TypeId) (V : Value) (root : List UInt8) (mb : Nat) (R : AsT × Nat) (e : Ending) (w' : World) : Prop :=
  ∃ m', e = .returned (.int .i64 (R.2 : Int)) ∧ FT w' W0.heap.size g T V root mb m' R.1 ∧ w.grownBy w' (some mb)
theorem takeF_len (L : AsT → List (List UInt8)) : ∀ (bs : List (List UInt8)) (ad : AsT) (z : Nat), (takeF L bs ad z).1.length ≤ ad.length + bs.length
  | [], ad, z => by simp [takeF]
  | b :: bs, ad, z => by
    unfold takeF
    split
    · have := takeF_len L bs ((shaG b, b) :: ad) (z + 1)
      simp at this ⊢; omega
    · have := takeF_len L bs ad z
      simp at this ⊢; omega

set_option maxRecDepth 100000 in
set_option maxHeartbeats 8000000 in
theorem takes_any {T : TypeId} {V : Value} {g mb : Nat} {root : List UInt8} {m : IM} {ad : AsT} {L : AsT → List (List UInt8)} {J : Nat} (W0 w : World) (hL : LackLaw W0 g T V root mb L J) (hB : Below W0.heap.size W0 w) (h : FT w W0.heap.size g T V root mb m ad)
    (A : Option Addr) (n c : Nat) (bs : List (List UInt8)) (hs : SlOf byR w (fun b => b = mb) A bs) (hn : n = bs.length) (hl : n ≤ 1000000) (hbl : ∀ b ∈ bs, b.length ≤ 1000000000) (hP : ad.length + n ≤ J) :
    Calls Try.prog 16 #[.pointer (some ⟨g, 0, none⟩), .slice A n c] w (TakePost W0 w g T V root mb (takeF L bs ad 0)) := by
  have HL := Lib.hid hL
  have HB := Lib.hid hB
  have HS := Lib.hid hs
  have HN := Lib.hid hn.symm
  have HBL := Lib.hid hbl
  have HF := Lib.hid h
  have HP := Lib.hid (show ad.length + (n - 0) ≤ J by omega)
  obtain ⟨R, hR⟩ : ∃ R, R = takeF L bs ad 0 := ⟨_, rfl⟩
  have HR := Lib.hid hR
  rw [← hR]
  have hgl := h.blk.lt
  have HZZ := Lib.hid (show zID.size = 32 from rfl)
  clear hL hB hs hn hbl h hP hR
  go_enter Try.func16, Try.ntmps16
  go_wp2_with fail
  go_loopw [5, 13] (fun s5 s13 wr => ∃ (k z : Nat) (m' : IM) (ad' : AsT), k ≤ n ∧ s13 = .int .i64 (k : Int) ∧ s5 = .int .i64 (z : Int) ∧ z ≤ k ∧ Hid (takeF L (bs.drop k) ad' z = R) ∧ Hid (FT wr W0.heap.size g T V root mb m' ad') ∧ Hid (ad'.length + (n - k) ≤ J) ∧ Hid (w.grownBy wr (some mb))) (fun s5 s13 wr => n - (intOf s13).toNat)
  case atStart => exact ⟨0, 0, m, ad, by omega, rfl, rfl, Nat.le_refl _, Lib.hid HR.out.symm, HF, HP, Lib.hid (grown_refl _ _)⟩
  case round =>
    obtain ⟨k, z, m', ad', hk, rfl, rfl, hz, HRR, HFR, HPR, HGR⟩ := hrel
    by_cases hlt : k < n
    · have hltI : (k : Int) < (n : Int) := by omega
      obtain ⟨b1, o1, x, A1, c1, rfl, hb1, hxr, hcell, hxc, hcm, hsx⟩ := bys_look (HS.out.stable (Moves.grown HGR.out rfl)) HN.out hlt
      have hxl : x.length ≤ 1000000000 := HBL.out x (List.mem_of_getElem? hxr)
      have HXS := Lib.hid hsx
      have HBW := Lib.hid (show Below W0.heap.size W0 wr from HB.out.grown HGR.out HB.out.size (fun k e => by have := Option.some.inj e; have := HF.out.basem; omega))
      have hmbr := HFR.out.map.lt
      have h32 : (shaG x).length = 32 := shaG_len32 x
      have HD := Lib.hid (show (if (lkB (linksG x) && (L ad').contains (shaG x)) = true then takeF L (bs.drop (k + 1)) ((shaG x, x) :: ad') (z + 1) else takeF L (bs.drop (k + 1)) ad' z) = R by
        have := HRR.out
        obtain ⟨h1, h2⟩ := List.getElem?_eq_some_iff.1 hxr
        rw [List.drop_eq_getElem_cons h1, h2] at this
        exact this)
      have HLK := Lib.hid (fun w' (hb : Below wr.heap.size wr w') => links_any A1 x.length c1 x w' (slOf_bytes (hsx.below hb)) hxc hcm)
      have HCL := Lib.hid (fun w' (hb : Below wr.heap.size wr w') => clone_any A1 x.length c1 x w' (slOf_bytes (hsx.below hb)) rfl hxl)
      have hba : Below wr.heap.size wr (wr.alloc (.cells #[.slice A1 x.length c1] 28)) := (Below.refl _ _).alloc (Nat.le_refl _) _
      have HSU := Lib.hid (show Calls Try.prog 9 #[.slice (some ⟨wr.heap.size, 0, none⟩) 1 1] (wr.alloc (.cells #[.slice A1 x.length c1] 28)) fun e w' => e = .returned (.agg (bytesV (shaG x)).toArray) ∧ Below (wr.alloc (.cells #[.slice A1 x.length c1] 28)).heap.size (wr.alloc (.cells #[.slice A1 x.length c1] 28)) w' by
        have hh := sum_any (some ⟨wr.heap.size, 0, none⟩) 1 1 [.slice A1 x.length c1] [x] (wr.alloc (.cells #[.slice A1 x.length c1] 28)) (by have := Sl.one wr (.slice A1 x.length c1) 28; simpa using this) ((AllB.nil _).snoc (SlB.of (slOf_bytes (hsx.below hba)) hxc hcm)) (by omega) (by simp; omega)
        have e : [x].flatten = x := by simp
        rw [e] at hh
        exact hh)
      have HBA := Lib.hid hba
      obtain ⟨sm, hsm⟩ : ∃ sm, sm = shaG x := ⟨_, rfl⟩
      obtain ⟨lx, hlx⟩ : ∃ lx, lx = linksG x := ⟨_, rfl⟩
      rw [← hsm] at h32
      have HLB := Lib.hid (fun (e : lkB lx = true) => show okZ lx = 0 by rw [hlx] at e ⊢; exact lkB_ok e)
      have HLE := Lib.hid (fun (e : lkB lx = false) => show okZ lx ≠ 0 by rw [hlx] at e ⊢; exact lkB_err e)
      have HPN := Lib.hid (show (((sm, x) :: ad' : AsT)).length + (n - (k + 1)) ≤ J by have := HPR.out; simp; omega)
      have HPM := Lib.hid (show ad'.length + (n - (k + 1)) ≤ J by have := HPR.out; omega)
      rw [← hsm] at HSU HD
      rw [← hlx] at HLK HD
      obtain ⟨KX, hKX⟩ : ∃ KX, KX = (bytesV sm).toArray := ⟨_, rfl⟩
      have HI := Lib.hid (show (Try.prog.info? 33).map (·.size) = some KX.size by rw [hKX]; exact oid_size h32)
      have HO := Lib.hid (show KX.all (·.oneCell') = true by rw [hKX]; exact oid_one _)
      have HZ := Lib.hid (show zID.size = KX.size by rw [HZZ.out, hKX]; simp [bytesV_length, h32])
      have HKX := Lib.hid hKX
      have H32 := Lib.hid h32
      rw [← hKX] at HSU
      have HXC := Lib.hid (show x.length ≤ 1000000000 ∧ x.length ≤ c1 ∧ c1 ≤ maxLen from ⟨hxl, hxc, hcm⟩)
      obtain ⟨nx, hnx⟩ : ∃ nx, nx = x.length := ⟨_, rfl⟩
      rw [← hnx] at HSU HBA HLK HCL hcell
      have HNX := Lib.hid hnx
      clear hsx hba hxr HRR hKX hlx hsm hxl hxc hcm h32 hnx
      go_upto_region 5 with fail
      go_wp2_with fail
      refine HSU.out.mono ?_
      rintro e w1 ⟨rfl, hb1'⟩
      have HB1 := Lib.hid (HBA.out.trans (hb1'.mono HBA.out.size))
      have HNB := Lib.hid (Blk.new w1 33 zID)
      clear HSU hb1' HBA hcell
      go_upto_region 6 with (first | (refine wpList_store_row rfl _ _ _ rfl w1.heap.size KX rfl rfl 33 _ HNB.out HI.out HZ.out HO.out ?_) | fail)
      rw [World.setRow_alloc_new]
      go_frame
      change Code.wp _ _ _ _ (w1.alloc (.cells KX 33))
      have HB2 := Lib.hid (HB1.out.alloc HB1.out.size (.cells KX 33))
      have HK2 := Lib.hid (Blk.new w1 33 KX)
      have HGO := Lib.hid HB1.out.size
      generalize hG : w1.heap.size = GO at *
      generalize w1.alloc (.cells KX 33) = w2 at *
      clear HNB hG HZ HB1
      have HLK2 := Lib.hid (HLK.out w2 HB2.out)
      go_wp2_with fail
      refine HLK2.out.mono ?_
      intro e w3 hp
      obtain ⟨⟨A3, c3, rfl, _⟩, hb3⟩ := hp.lk
      have HB3 := Lib.hid (HB2.out.trans (hb3.mono HB2.out.size))
      have HK3 := Lib.hid (HK2.out.below hb3 HK2.out.lt)
      obtain ⟨nl, hnl⟩ : ∃ nl, nl = (lkL lx).length := ⟨_, rfl⟩
      obtain ⟨zl, hzl⟩ : ∃ zl, zl = okZ lx := ⟨_, rfl⟩
      rw [← hnl, ← hzl]
      rw [← hzl] at HLB HLE
      clear hp hb3 hnl hzl HLK2 HK2 HLK
      go_upto_region 7 with fail
      obtain ⟨wd, hwd⟩ : ∃ wd, wd = w3.drew := ⟨_, rfl⟩
      have HWD := Lib.hid hwd
      have HBD := Lib.hid (show Below wr.heap.size wr wd by rw [hwd]; exact HB3.out.trans ((Same.below ⟨1, rfl⟩ _)))
      have HKD := Lib.hid (show Blk wd GO 33 KX by rw [hwd]; exact HK3.out)
      have hgod := HKD.out.lt
      clear hwd HK3 HB3
      cases hcc : lkB lx with
      | false =>
        have hzz : (zl == 0) = false := by rw [beq_eq_false_iff_ne]; exact HLE.out hcc
        have HRN := Lib.hid (show takeF L (bs.drop (k + 1)) ad' z = R by have := HD.out; rw [hcc] at this; exact this)
        have HFN := Lib.hid (HFR.out.go HBD.out)
        have HGN := Lib.hid (grown_trans HGR.out (grown_below HBD.out (some mb)))
        clear hcc HLB HLE HD HCL
        refine wp_region_held (S := fun w => w = wd) (by kernel_rfl) ?_
        change wpAnyH _ _ _ _ _ _ _ _ (World.drew _)
        rw [← HWD.out]
        refine held_take (i := 0) (v := ?_) (a' := ?_) rfl (by kernel_rfl) (by kernel_rfl) (by kernel_rfl) (fun _ _ _ h => h) (by rfl) rfl ?_ ?_ ?_
        rotate_left 2
        · (intro w hS; go_simp; try with_reducible rfl)
        · (go_simp; try with_reducible rfl)
        refine held_take (i := 1) (v := ?_) (a' := ?_) rfl (by kernel_rfl) (by kernel_rfl) (by kernel_rfl) (fun _ _ _ h => h) (by rfl) rfl ?_ ?_ ?_
        rotate_left 2
        · (intro w hS; go_simp; try with_reducible rfl)
        · (go_simp; try with_reducible rfl)
        refine held_take (i := 2) (v := ?_) (a' := ?_) rfl (by kernel_rfl) (by kernel_rfl) (by kernel_rfl) (fun _ _ _ h => h) (by rfl) rfl ?_ ?_ ?_
        rotate_left 2
        · (intro w hS; go_simp; try with_reducible rfl)
        · (go_simp; try with_reducible rfl)
        refine held_no (i := 3) (a' := ?_) rfl (by kernel_rfl) (by kernel_rfl) (by kernel_rfl) (fun _ _ _ h => h) (by rfl) rfl ?_ ?_
        rotate_left 1
        · (go_simp; try with_reducible rfl)
        refine held_no (i := 4) (a' := ?_) rfl (by kernel_rfl) (by kernel_rfl) (by kernel_rfl) (fun _ _ _ h => h) (by rfl) rfl ?_ ?_
        rotate_left 1
        · (go_simp; try with_reducible rfl)
        refine held_no (i := 5) (a' := ?_) rfl (by kernel_rfl) (by kernel_rfl) (by kernel_rfl) (fun _ _ _ h => h) (by rfl) rfl ?_ ?_
        rotate_left 1
        · (go_simp; try with_reducible rfl)
        refine held_no (i := 6) (a' := ?_) rfl (by kernel_rfl) (by kernel_rfl) (by kernel_rfl) (fun _ _ _ h => h) (by rfl) rfl ?_ ?_
        rotate_left 1
        · (go_simp; try with_reducible rfl)
        refine held_take (i := 7) (v := ?_) (a' := ?_) rfl (by kernel_rfl) (by kernel_rfl) (by kernel_rfl) (fun _ _ _ h => h) (by rfl) rfl ?_ ?_ ?_
        rotate_left 2
        · (intro w hS; go_simp; try with_reducible rfl)
        · (go_simp; try with_reducible rfl)
        refine wpAnyH_done (by kernel_rfl) ?_ _
        go_wp2_with fail
        go_roundw
        case rel => exact ⟨k + 1, z, m', ad', by omega, by go_num, rfl, by omega, HRN, HFN, HPM, HGN⟩
        case measure => simp [intOf]; omega
      | true =>
        have hzz : (zl == 0) = true := by rw [beq_iff_eq]; exact HLB.out hcc
        have hzl0 : zl = 0 := HLB.out hcc
        have HD2 := Lib.hid (show (if (L ad').contains sm = true then takeF L (bs.drop (k + 1)) ((sm, x) :: ad') (z + 1) else takeF L (bs.drop (k + 1)) ad' z) = R by have := HD.out; rw [hcc] at this; exact this)
        have HLA := Lib.hid (HL.out.run wd m' ad' (HBW.out.trans (HBD.out.mono HBW.out.size)) (HFR.out.go HBD.out) (by have := HPR.out; omega))
        have hLn := HL.out.len ad' (by have := HPR.out; omega)
        obtain ⟨la, hla⟩ : ∃ la, la = L ad' := ⟨_, rfl⟩
        rw [← hla] at HLA hLn HD2
        have HLN := Lib.hid hLn
        clear hcc HLB HLE HD hla hLn
        cases hin : la.contains sm with
        | false =>
          have HRN := Lib.hid (show takeF L (bs.drop (k + 1)) ad' z = R by have := HD2.out; rw [hin] at this; exact this)
          have HIN := Lib.hid hin
          clear hin HD2 HCL
          refine wp_region_held (S := fun w => Below wd.heap.size wd w) (by kernel_rfl) ?_
          change wpAnyH _ _ _ _ _ _ _ _ (World.drew _)
          rw [← HWD.out]
          refine held_take (i := 0) (v := ?_) (a' := ?_) rfl (by kernel_rfl) (by kernel_rfl) (by kernel_rfl) (fun _ _ _ h => h) (by rfl) (Below.refl _ _) ?_ ?_ ?_
          rotate_left 2
          · (intro w hS; go_simp; try with_reducible rfl)
          · (go_simp; try with_reducible rfl)
          refine held_take (i := 1) (v := ?_) (a' := ?_) rfl (by kernel_rfl) (by kernel_rfl) (by kernel_rfl) (fun _ _ _ h => h) (by rfl) (Below.refl _ _) ?_ ?_ ?_
          rotate_left 2
          · (intro w hS; go_simp; try with_reducible rfl)
          · (go_simp; try with_reducible rfl)
          refine held_take (i := 2) (v := ?_) (a' := ?_) rfl (by kernel_rfl) (by kernel_rfl) (by kernel_rfl) (fun _ _ _ h => h) (by rfl) (Below.refl _ _) ?_ ?_ ?_
          rotate_left 2
          · (intro w hS; go_simp; try with_reducible rfl)
          · (go_simp; try with_reducible rfl)
          refine held_take (i := 3) (v := ?_) (a' := ?_) rfl (by kernel_rfl) (by kernel_rfl) (by kernel_rfl) (fun _ _ _ h => h) (by rfl) (Below.refl _ _) ?_ ?_ ?_
          rotate_left 2
          · (intro w hS; go_simp; try with_reducible rfl)
          · (go_simp; try with_reducible rfl)
          refine held_take (i := 5) (v := ?_) (a' := ?_) rfl (by kernel_rfl) (by kernel_rfl) (by kernel_rfl) (fun _ _ _ h => h) (by rfl) (Below.refl _ _) ?_ ?_ ?_
          rotate_left 2
          · (intro w hS; refine exec_load_at 33 (.tmp 8) ?_ GO 0 ?_ KX _ (At.of_row (HKD.out.below hS hgod)) Try.underlying33 rfl HI.out; exact rfl; exact rfl)
          · (go_simp; try with_reducible rfl)
          refine held_ready (rs := [4]) (by kernel_rfl) (by simp) ?_
          refine AllHeld.cons rfl (fun KR hKR => ?_) ?_
          · go_simp
            refine HLA.out.mono ?_
            rintro e w4 ⟨hc4, A4, n4, c4, rfl, hr4⟩
            have HCO := Lib.hid (contains_any A4 n4 c4 la sm w4 hr4.sl hr4.len (by rw [hr4.len]; exact HLN.out) H32.out)
            rw [show idV sm = .agg KX by rw [HKX.out], HIN.out] at HCO
            clear hr4
            refine hKR _ _ hc4 ?_
            clear hKR KR
            refine held_ready (rs := [6]) (by kernel_rfl) (by simp) ?_
            refine AllHeld.cons rfl (fun KR hKR => ?_) ?_
            · go_simp
              refine HCO.out.mono ?_
              rintro e w5 ⟨rfl, hb5⟩
              have hc6 := hc4.trans (hb5.mono hc4.size)
              have HFN := Lib.hid (HFR.out.go (HBD.out.trans (hc6.mono HBD.out.size)))
              have HGN := Lib.hid (grown_trans HGR.out (grown_below (HBD.out.trans (hc6.mono HBD.out.size)) (some mb)))
              refine hKR _ _ hc6 ?_
              clear hKR KR
              refine held_take (i := 7) (v := ?_) (a' := ?_) rfl (by kernel_rfl) (by kernel_rfl) (by kernel_rfl) (fun _ _ _ h => h) (by rfl) hc6 ?_ ?_ ?_
              rotate_left 2
              · (intro w hS; go_simp; try with_reducible rfl)
              · (go_simp; try with_reducible rfl)
              refine wpAnyH_done (by kernel_rfl) ?_ _
              go_wp2_with fail
              go_roundw
              case rel => exact ⟨k + 1, z, m', ad', by omega, by go_num, rfl, by omega, HRN, HFN, HPM, HGN⟩
              case measure => simp [intOf]; omega
            exact AllHeld.nil
          exact AllHeld.nil
        | true =>
          have HRN := Lib.hid (show takeF L (bs.drop (k + 1)) ((sm, x) :: ad') (z + 1) = R by have := HD2.out; rw [hin] at this; exact this)
          have HIN := Lib.hid hin
          clear hin HD2
          refine wp_region_held (S := fun w => Below wd.heap.size wd w) (by kernel_rfl) ?_
          change wpAnyH _ _ _ _ _ _ _ _ (World.drew _)
          rw [← HWD.out]
          refine held_take (i := 0) (v := ?_) (a' := ?_) rfl (by kernel_rfl) (by kernel_rfl) (by kernel_rfl) (fun _ _ _ h => h) (by rfl) (Below.refl _ _) ?_ ?_ ?_
          rotate_left 2
          · (intro w hS; go_simp; try with_reducible rfl)
          · (go_simp; try with_reducible rfl)
          refine held_take (i := 1) (v := ?_) (a' := ?_) rfl (by kernel_rfl) (by kernel_rfl) (by kernel_rfl) (fun _ _ _ h => h) (by rfl) (Below.refl _ _) ?_ ?_ ?_
          rotate_left 2
          · (intro w hS; go_simp; try with_reducible rfl)
          · (go_simp; try with_reducible rfl)
          refine held_take (i := 2) (v := ?_) (a' := ?_) rfl (by kernel_rfl) (by kernel_rfl) (by kernel_rfl) (fun _ _ _ h => h) (by rfl) (Below.refl _ _) ?_ ?_ ?_
          rotate_left 2
          · (intro w hS; go_simp; try with_reducible rfl)
          · (go_simp; try with_reducible rfl)
          refine held_take (i := 3) (v := ?_) (a' := ?_) rfl (by kernel_rfl) (by kernel_rfl) (by kernel_rfl) (fun _ _ _ h => h) (by rfl) (Below.refl _ _) ?_ ?_ ?_
          rotate_left 2
          · (intro w hS; go_simp; try with_reducible rfl)
          · (go_simp; try with_reducible rfl)
          refine held_take (i := 5) (v := ?_) (a' := ?_) rfl (by kernel_rfl) (by kernel_rfl) (by kernel_rfl) (fun _ _ _ h => h) (by rfl) (Below.refl _ _) ?_ ?_ ?_
          rotate_left 2
          · (intro w hS; refine exec_load_at 33 (.tmp 8) ?_ GO 0 ?_ KX _ (At.of_row (HKD.out.below hS hgod)) Try.underlying33 rfl HI.out; exact rfl; exact rfl)
          · (go_simp; try with_reducible rfl)
          refine held_ready (rs := [4]) (by kernel_rfl) (by simp) ?_
          refine AllHeld.cons rfl (fun KR hKR => ?_) ?_
          · go_simp
            refine HLA.out.mono ?_
            rintro e w4 ⟨hc4, A4, n4, c4, rfl, hr4⟩
            have HCO := Lib.hid (contains_any A4 n4 c4 la sm w4 hr4.sl hr4.len (by rw [hr4.len]; exact HLN.out) H32.out)
            rw [show idV sm = .agg KX by rw [HKX.out], HIN.out] at HCO
            clear hr4
            refine hKR _ _ hc4 ?_
            clear hKR KR
            refine held_ready (rs := [6]) (by kernel_rfl) (by simp) ?_
            refine AllHeld.cons rfl (fun KR hKR => ?_) ?_
            · go_simp
              refine HCO.out.mono ?_
              rintro e w5 ⟨rfl, hb5⟩
              have hc6 := hc4.trans (hb5.mono hc4.size)
              refine hKR _ _ hc6 ?_
              clear hKR KR
              refine held_take (i := 7) (v := ?_) (a' := ?_) rfl (by kernel_rfl) (by kernel_rfl) (by kernel_rfl) (fun _ _ _ h => h) (by rfl) hc6 ?_ ?_ ?_
              rotate_left 2
              · (intro w hS; go_simp; try with_reducible rfl)
              · (go_simp; try with_reducible rfl)
              refine wpAnyH_done (by kernel_rfl) ?_ _
              go_upto_region 8 with fail
              have HC6 := Lib.hid hc6
              clear hc4 hc6 hb5 HCO HLA
              obtain ⟨wz, hwz⟩ : ∃ wz, wz = w5.drew := ⟨_, rfl⟩
              have HBZ := Lib.hid (show Below wr.heap.size wr wz by rw [hwz]; exact (HBD.out.trans (HC6.out.mono HBD.out.size)).trans (Same.below ⟨1, rfl⟩ _))
              have HKZ := Lib.hid (show Blk wz GO 33 KX by rw [hwz]; exact (HKD.out.below HC6.out hgod : Blk w5 GO 33 KX))
              have HFZ := Lib.hid (HFR.out.go HBZ.out)
              have HCZ := Lib.hid (HCL.out wz HBZ.out)
              have HWZ := Lib.hid hwz
              have HNG := Lib.hid (show some g ≠ some mb from fun e => blk_map HFZ.out.blk HFZ.out.map (Option.some.inj e))
              have HNO := Lib.hid (show some GO ≠ some mb from fun e => blk_map HKZ.out HFZ.out.map (Option.some.inj e))
              have HC33 := Lib.hid (fetchK_get HFZ.out.r32 T V mb).2
              clear hwz HC6 HCL
              refine wp_region_held (S := fun w => wz.grownBy w (some mb)) (by kernel_rfl) ?_
              change wpAnyH _ _ _ _ _ _ _ _ (World.drew _)
              rw [← HWZ.out]
              refine held_take (i := 0) (v := ?_) (a' := ?_) rfl (by kernel_rfl) (by kernel_rfl) (by kernel_rfl) (fun _ _ _ h => h) (by rfl) (grown_refl _ _) ?_ ?_ ?_
              rotate_left 2
              · (intro w hS; go_simp; try with_reducible rfl)
              · (go_simp; try with_reducible rfl)
              refine held_take (i := 1) (v := ?_) (a' := ?_) rfl (by kernel_rfl) (by kernel_rfl) (by kernel_rfl) (fun _ _ _ h => h) (by rfl) (grown_refl _ _) ?_ ?_ ?_
              rotate_left 2
              · (intro w hS; go_simp; try with_reducible rfl)
              · (go_simp; try with_reducible rfl)
              refine held_take (i := 2) (v := ?_) (a' := ?_) rfl (by kernel_rfl) (by kernel_rfl) (by kernel_rfl) (fun _ _ _ h => h) (by rfl) (grown_refl _ _) ?_ ?_ ?_
              rotate_left 2
              · (intro w hS; go_simp; try with_reducible rfl)
              · (go_simp; try with_reducible rfl)
              refine held_take (i := 3) (v := ?_) (a' := ?_) rfl (by kernel_rfl) (by kernel_rfl) (by kernel_rfl) (fun _ _ _ h => h) (by rfl) (grown_refl _ _) ?_ ?_ ?_
              rotate_left 2
              · (intro w hS; have t := ((HFZ.out.blk.grown hS HNG.out).cell 33).trans HC33.out; go_simp; try with_reducible rfl)
              · (go_simp; try with_reducible rfl)
              refine held_take (i := 4) (v := ?_) (a' := ?_) rfl (by kernel_rfl) (by kernel_rfl) (by kernel_rfl) (fun _ _ _ h => h) (by rfl) (grown_refl _ _) ?_ ?_ ?_
              rotate_left 2
              · (intro w hS; refine exec_load_at 33 (.tmp 8) ?_ GO 0 ?_ KX _ (At.of_row (HKZ.out.grown hS HNO.out)) Try.underlying33 rfl HI.out; exact rfl; exact rfl)
              · (go_simp; try with_reducible rfl)
              refine held_take (i := 5) (v := ?_) (a' := ?_) rfl (by kernel_rfl) (by kernel_rfl) (by kernel_rfl) (fun _ _ _ h => h) (by rfl) (grown_refl _ _) ?_ ?_ ?_
              rotate_left 2
              · (intro w hS; go_simp; try with_reducible rfl)
              · (go_simp; try with_reducible rfl)
              refine held_ready (rs := [6]) (by kernel_rfl) (by simp) ?_
              refine AllHeld.cons rfl (fun KR hKR => ?_) ?_
              · go_simp
                refine HCZ.out.mono ?_
                rintro e w6 ⟨hb6, A6, c6, rfl, hs6, hl6, hm6⟩
                have hc6 := grown_below hb6 (some mb)
                have HF6 := Lib.hid (HFZ.out.go hb6)
                obtain ⟨w7, hrun, hmw, hg7, _⟩ := HF6.out.map.update H32.out Try.underlying88 (.slice A6 x.length c6)
                rw [show idV sm = .agg KX by rw [HKX.out]] at hrun
                have HF7 := Lib.hid (HF6.out.put hg7 hmw (hs6.stable (Moves.grown hg7 (show mb < wz.heap.size from HFZ.out.map.lt))).forget hl6 hm6 HXC.out.1)
                have HG7 := Lib.hid (grown_trans (grown_trans HGR.out (grown_below HBZ.out (some mb))) (grown_trans hc6 hg7))
                have hc7 := grown_trans hc6 hg7
                clear hs6 hl6 hm6 hmw hb6
                refine hKR _ _ hc6 ?_
                clear hKR KR
                refine held_ready (rs := [7]) (by kernel_rfl) (by simp) ?_
                refine AllHeld.cons rfl (fun KR hKR => ?_) ?_
                · refine step_mapUpdate rfl (.tmp 36) (.tmp 37) (.tmp 39) rfl rfl rfl rfl hrun ?_
                  refine hKR _ _ hc7 ?_
                  clear hKR KR
                  refine wpAnyH_done (by kernel_rfl) ?_ _
                  go_wp2_with fail
                  go_roundw
                  case rel => exact ⟨k + 1, z + 1, _, _, by omega, by go_num, by go_num, by omega, HRN, HF7, HPN, HG7⟩
                  case measure => simp [intOf]; omega
                exact AllHeld.nil
              exact AllHeld.nil
            exact AllHeld.nil
          exact AllHeld.nil
    · have hltI : ¬ (k : Int) < (n : Int) := by omega
      have HRO := Lib.hid (show (ad', z) = R by
        have := HRR.out
        rw [List.drop_of_length_le (by have := HN.out; omega)] at this
        exact this)
      go_wp2_with fail
      go_ret
      rw [← HRO.out]
      exact ⟨m', rfl, HFR.out, HGR.out⟩
end Go.Proofs.Ytgmbkcjihgphmaa
