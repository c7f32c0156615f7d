/- Contracts and laws for what the statement reaches, joined: ObjRefPutTree. -/
import Derived.Test.YtpafhajpnepecaaJn24
/- towlineref09.PutTree. -/
set_option linter.unusedVariables false
set_option linter.unusedSimpArgs false
namespace Go.Proofs.Ytpafhajpnepecaa
open Go.RowKit

def entVr (x : EntT) : Val := if x.2.1 then lstV [txtV (sB x.1), txtV x.2.2.1] else lstV [txtV (sB x.1), txtV x.2.2.1, fltV x.2.2.2]
theorem wrV_flt (d : Nat) (out : List UInt8) (f : Nat) : wrV d out (fltV f) = wrV d out (fltV (canonB f)) := by
  cases d with
  | zero => rfl
  | succ d => simp [wrV, fltV, Val.kind, Val.flt, canonB_canonB]
theorem wrV_lst (d : Nat) (out : List UInt8) (vs : List Val) : wrV (d + 1) out (lstV vs) = match wrL (wrV d) (out ++ headL 3 vs.length) vs with | .ok o => fin o | .error e => .error e := by
  unfold wrV
  rw [if_neg (show ¬ (lstV vs).kind = 0 from (show ¬ (3 : Int) = 0 by decide)), if_neg (show ¬ (lstV vs).kind = 1 from (show ¬ (3 : Int) = 1 by decide)), if_neg (show ¬ (lstV vs).kind = 2 from (show ¬ (3 : Int) = 2 by decide)), if_pos (show (lstV vs).kind = 3 from rfl)]
  rfl
theorem wrL_last (d : Nat) (a b x y : Val) (h : ∀ out, wrV d out x = wrV d out y) (out : List UInt8) : wrL (wrV d) out [a, b, x] = wrL (wrV d) out [a, b, y] := by
  unfold wrL
  cases wrV d out a with
  | error e => rfl
  | ok o =>
    show wrL (wrV d) o [b, x] = wrL (wrV d) o [b, y]
    unfold wrL
    cases wrV d o b with
    | error e => rfl
    | ok o2 =>
      show wrL (wrV d) o2 [x] = wrL (wrV d) o2 [y]
      unfold wrL
      rw [h]
theorem wrV_ent (d : Nat) (out : List UInt8) (x : EntT) : wrV d out (entVr x) = wrV d out (entV x) := by
  unfold entVr entV
  cases x.2.1 with
  | true => rfl
  | false =>
    rw [if_neg (by simp), if_neg (by simp)]
    cases d with
    | zero => rfl
    | succ d =>
      rw [wrV_lst, wrV_lst, wrL_last d _ _ _ _ (fun out => wrV_flt d out _)]
      rfl
theorem wrL_ents (d : Nat) : ∀ (l : List EntT) (out : List UInt8), wrL (wrV d) out (l.map entVr) = wrL (wrV d) out (l.map entV)
  | [], _ => rfl
  | x :: r, out => by
    rw [List.map_cons, List.map_cons]
    unfold wrL
    rw [wrV_ent]
    cases wrV d out (entV x) with
    | error e => rfl
    | ok o => exact wrL_ents d r o
theorem wrL_two (d : Nat) (a x y : Val) (h : ∀ out, wrV d out x = wrV d out y) (out : List UInt8) : wrL (wrV d) out [a, x] = wrL (wrV d) out [a, y] := by
  unfold wrL
  cases wrV d out a with
  | error e => rfl
  | ok o =>
    show wrL (wrV d) o [x] = wrL (wrV d) o [y]
    unfold wrL
    rw [h]
theorem sealG_ents (l : List EntT) : sealG 3 [lstV (l.map entVr)] = sealG 3 [lstV (l.map entV)] := by
  have h : ∀ out, wrL (wrV 15) out [numV 3, lstV (l.map entVr)] = wrL (wrV 15) out [numV 3, lstV (l.map entV)] := wrL_two 15 _ _ _ (fun out => by
    rw [wrV_lst 14 out (l.map entVr), wrV_lst 14 out (l.map entV), wrL_ents, List.length_map, List.length_map])
  show wrV (15 + 1) [] (lstV [numV 3, lstV (l.map entVr)]) = wrV (15 + 1) [] (lstV [numV 3, lstV (l.map entV)])
  rw [wrV_lst 15 [] [numV 3, lstV (l.map entVr)], wrV_lst 15 [] [numV 3, lstV (l.map entV)], h]
  try rfl
theorem bulk_entsr : ∀ (l : List EntT), (∀ x ∈ l, (sB x.1).length ≤ 64 ∧ x.2.2.1.length = 32) → bulkVs (l.map entVr) ≤ l.length * 120
  | [], _ => by simp [bulkVs]
  | x :: r, h => by
    have h1 := bulk_entsr r (fun y hy => h y (by simp [hy]))
    obtain ⟨h2, h3⟩ := h x (by simp)
    simp only [List.map_cons, bulkVs, List.length_cons]
    have : bulkV (entVr x) ≤ 120 := by
      unfold entVr
      split <;> simp only [lstV, txtV, fltV, bulkV, bulkVs, List.length_nil] <;> omega
    omega

theorem val_alloc {B : Nat} {W : World} (h : B ≤ W.heap.size) : ∃ W' ge, W.alloc (.cells zVal 84) = W' ∧ W.heap.size = ge ∧ Below W.heap.size W W' ∧ B ≤ ge ∧ Blk W' ge 84 zVal := ⟨_, _, rfl, rfl, (Below.refl _ _).alloc (Nat.le_refl _) _, h, Blk.new _ _ _⟩
theorem vals_alloc {B : Nat} {W : World} (h : B ≤ W.heap.size) (K : Array Value) : ∃ W' ge, W.alloc (.cells K 84) = W' ∧ W.heap.size = ge ∧ Below W.heap.size W W' ∧ B ≤ ge ∧ Blk W' ge 84 K := ⟨_, _, rfl, rfl, (Below.refl _ _).alloc (Nat.le_refl _) _, h, Blk.new _ _ _⟩
theorem each_two {w : World} {av : Av} {K0 K1 : Array Value} {a b : Val} (h0 : valR.R w av K0.toList a) (h1 : valR.R w av K1.toList b) : Each (valR.R w av) ([K0, K1].flatMap (·.toList)).toArray.toList [a, b] := by
  simpa using Each.cons h0 (Each.one h1)

set_option maxRecDepth 100000 in
set_option maxHeartbeats 8000000 in
theorem refPutTree_any (A : Option Addr) (n c : Nat) (l : List EntT) (w : World) (hs : SlOf entR w no A l) (hn : n = l.length) (hnl : n ≤ 1000000000) (hsz : ∀ x ∈ l, x.1.size ≤ 1000000000) :
    Calls Try.prog 13 #[.slice A n c] w (RefEnc w (putTree l)) := by
  have HOR := Lib.hid (refOrdered_any A n c l w hs hn hnl hsz)
  have HS1 := Lib.hid hs
  obtain ⟨R, hR⟩ : ∃ R, R = putTree l := ⟨_, rfl⟩
  obtain ⟨D, hD⟩ : ∃ D, D = orderedG l := ⟨_, rfl⟩
  have HR := Lib.hid (show R = if D ≠ 0 then .error D else sealG 3 [lstV (l.map entVr)] by rw [hR, hD, sealG_ents]; rfl)
  have HDL := Lib.hid hD
  have HN := Lib.hid hn.symm
  have HSZ := Lib.hid hsz
  rw [← hR]
  rw [← hD] at HOR
  clear hs hR hD hn hsz hnl
  go_enter Try.func13, Try.ntmps13
  go_wp2_with fail
  refine HOR.out.mono ?_
  rintro e w2 ⟨rfl, hb2⟩
  have HB2 := Lib.hid hb2
  have HS2 := Lib.hid (HS1.out.below hb2)
  clear HOR HS1 hb2
  by_cases hz : D = 0
  · have e1 : (D != 0) = false := by simp [hz]
    have HRR := Lib.hid (show R = sealG 3 [lstV (l.map entVr)] by rw [HR.out, if_neg (by simp [hz])])
    have hog : orderedG l = 0 := by rw [← HDL.out]; exact hz
    have hn1 : n ≤ 1024 := by
      unfold orderedG at hog
      split at hog
      · omega
      · have := HN.out; omega
    have hog2 : ordG none l = 0 := by
      unfold orderedG at hog
      split at hog
      · omega
      · exact hog
    have HNM := Lib.hid (fun x hx => nameG_len (ordG_names hog2 x hx))
    clear HR HDL hz hog hog2
    obtain ⟨K3, hK3⟩ : ∃ K3, K3 = cellsV 3 0 none 0 0 0 none 0 0 := ⟨_, rfl⟩
    have hb3 : Below w2.heap.size w2 (w2.alloc (.cells K3 84)) := (Below.refl _ _).alloc (Nat.le_refl _) _
    have HV := Lib.hid (show VL (w2.alloc (.cells K3 84)) w2.heap.size none 0 0 ((l.take 0).map entVr) from VL.start (by
      have := Blk.new w2 84 K3
      rw [hK3] at this; rw [hK3]; exact this))
    have HBN := Lib.hid (Blk.new w2 84 zVal)
    have HI := Lib.hid (show (Try.prog.info? 84).map (·.size) = some K3.size by rw [hK3]; exact cellsV_info _ _ _ _ _ _ _ _ _)
    have HO := Lib.hid (show K3.all (·.oneCell') = true by rw [hK3]; exact cellsV_one _ _ _ _ _ _ _ _ _)
    have HKS := Lib.hid (show zVal.size = K3.size by rw [hK3]; rfl)
    have HK3 := Lib.hid hK3
    have HB3 := Lib.hid hb3
    clear hb3 hK3
    go_upto_region 5 with (first
      | (refine wpList_store_row rfl _ _ _ rfl w2.heap.size K3 rfl (by rw [HK3.out]; rfl) 84 _ HBN.out HI.out HKS.out HO.out ?_) | fail)
    rw [World.setRow_alloc_new]
    clear HBN HI HO HKS HK3
    generalize w2.alloc (.cells K3 84) = w3 at *
    obtain ⟨gv, hgv⟩ : ∃ gv, w2.heap.size = gv := ⟨_, rfl⟩
    rw [hgv] at HV HB3 ⊢
    have HGV := Lib.hid hgv
    clear hgv
    go_wp2_with fail
    go_loopw [6] (fun s6 wr => ∃ (k : Nat) (A' : Option Addr) (c' : Nat), k ≤ n ∧ s6 = .int .i64 (k : Int) ∧ Hid (Below gv w2 wr) ∧ Hid (VL wr gv A' k c' ((l.take k).map entVr))) (fun s6 wr => n - (intOf s6).toNat)
    case atStart => exact ⟨0, none, 0, by omega, rfl, HB3, HV⟩
    case round =>
      obtain ⟨k, A', c', hk, rfl, HB4, HV4⟩ := hrel
      clear HB3 HV
      by_cases hlt : k < n
      · have hltI : (k : Int) < (n : Int) := by omega
        obtain ⟨b1, o1, x, hA, hb1, hx, h32, hf, hat⟩ := ents_look (HS2.out.below (by rw [HGV.out]; exact HB4.out)) HN.out hlt
        have hb1g : b1 < gv := by
          obtain ⟨b1', o1', _, e1, h1, _⟩ := ents_look HS2.out HN.out hlt
          rw [hA] at e1
          have e1 := Option.some.inj e1
          injection e1 with e1
          have := HGV.out
          omega
        obtain ⟨s, d, i, f⟩ := x
        have HX32 := Lib.hid (show i.length = 32 from h32)
        have HF64 := Lib.hid (show f < 2 ^ 64 from hf)
        have HX64 := Lib.hid (HNM.out _ (List.mem_of_getElem? hx))
        have HTK := Lib.hid (show (l.take k).map entVr ++ [entVr (s, d, i, f)] = (l.take (k + 1)).map entVr by rw [List.take_add_one, hx]; simp)
        have hat2 : At wr ⟨b1, o1 + k * 35, none⟩ (entK s d i f) := hat
        have hcs : wr.cell? ⟨b1, o1 + k * 35, none⟩ = some (.string s) := by have := hat2 0 _ (entK_get h32 _ _ _).1; simpa using this
        have hcd : wr.cell? ⟨b1, o1 + k * 35 + 1, none⟩ = some (.bool d) := hat2 1 _ (entK_get h32 _ _ _).2.1
        have hcf : wr.cell? ⟨b1, o1 + k * 35 + 34, none⟩ = some (.float .f64 f) := hat2 34 _ (entK_get h32 _ _ _).2.2
        obtain ⟨KB, hKB⟩ : ∃ KB, KB = (bytesV i).toArray := ⟨_, rfl⟩
        have hai : At wr ⟨b1, o1 + k * 35 + 2, none⟩ KB := by
          rw [hKB]
          intro j u hu
          have hu : (bytesV i)[j]? = some u := by simpa using hu
          have hj : j < 32 := by have := (List.getElem?_eq_some_iff.1 hu).1; rw [bytesV_length, HX32.out] at this; exact this
          have := hat2 (2 + j) u (by
            unfold entK
            rw [List.getElem?_toArray, show 2 + j = j + 1 + 1 by omega, List.getElem?_cons_succ, List.getElem?_cons_succ, List.getElem?_append_left (by rw [bytesV_length, HX32.out]; exact hj)]
            exact hu)
          rw [← Nat.add_assoc] at this; exact this
        have HIB := Lib.hid (show (Try.prog.info? 27).map (·.size) = some KB.size by rw [hKB]; exact oid_size HX32.out)
        have HTX := Lib.hid (fun w => refBytes_any s w (by have := HX64.out; simp only [sB, Array.length_toList] at this; simp only [maxLen, ByteArray.size]; omega))
        have HTI := Lib.hid (fun w => refName_id i w HX32.out)
        rw [← hKB] at HTI
        have HCS := Lib.hid hcs
        have HCF := Lib.hid hcf
        have HAI := Lib.hid hai
        have hgl := HV4.out.blk.lt
        have hdr : Below wr.heap.size wr wr.drew := Same.below ⟨1, rfl⟩ _
        subst hA
        clear hx h32 hf hat hat2 hcs hcf hai hKB HX64
        go_upto_region 8 with fail
        obtain ⟨B, hB⟩ : ∃ B, wr.heap.size = B := ⟨_, rfl⟩
        have HBB := Lib.hid hB
        have hb1B : b1 < B := by omega
        rw [hB] at hdr
        clear hB
        go_cut [7] from 14 to 56 (fun s7 wx => ∃ (ge gs : Nat) (KK : Array Value), s7 = .pointer (some ⟨ge, 0, none⟩) ∧ B ≤ ge ∧ B ≤ gs ∧ gs ≠ ge ∧ Hid (Below B wr wx) ∧ Hid (Blk wx ge 84 (cellsV 3 0 none 0 0 0 (some ⟨gs, 0, none⟩) 2 2)) ∧ Hid (Blk wx gs 84 KK) ∧ Hid (Each (valR.R wx (fun b => b < B ∨ b = ge ∨ b = gs)) KK.toList [txtV (sB s), txtV i]))
        case first =>
          refine wp_door (fun _ _ => False) 2 3 undef undef [] (fun _ _ _ _ _ _ hp => hp.elim) ?_
          have hcls := hdr
          have hcl0 : B ≤ wr.drew.heap.size := by rw [← HBB.out]; exact Nat.le_refl _
          refine wp_region_held (S := fun w => Below B wr w) (by kernel_rfl) ?_
          change wpAnyH _ _ _ _ _ _ _ _ (World.drew _)
          generalize World.drew wr = wd at hcls hcl0 ⊢
          refine held_take (i := 0) (v := ?_) (a' := ?_) rfl (by kernel_rfl) (by kernel_rfl) (by kernel_rfl) (fun _ _ _ h => (show False from h.2.2.2).elim) (by rfl) hcls ?_ ?_ ?_
          rotate_left 2
          · (intro w hS; go_simp; try with_reducible rfl)
          · (go_simp; try with_reducible rfl)
          refine held_take (i := 1) (v := ?_) (a' := ?_) rfl (by kernel_rfl) (by kernel_rfl) (by kernel_rfl) (fun _ _ _ h => (show False from h.2.2.2).elim) (by rfl) hcls ?_ ?_ ?_
          rotate_left 2
          · (intro w hS; go_simp; try with_reducible rfl)
          · (go_simp; try with_reducible rfl)
          refine held_take (i := 2) (v := ?_) (a' := ?_) rfl (by kernel_rfl) (by kernel_rfl) (by kernel_rfl) (fun _ _ _ h => (show False from h.2.2.2).elim) (by rfl) hcls ?_ ?_ ?_
          rotate_left 2
          · (intro w hS; go_simp; try with_reducible rfl)
          · (go_simp; try with_reducible rfl)
          refine held_take (i := 3) (v := ?_) (a' := ?_) rfl (by kernel_rfl) (by kernel_rfl) (by kernel_rfl) (fun _ _ _ h => (show False from h.2.2.2).elim) (by rfl) hcls ?_ ?_ ?_
          rotate_left 2
          · (intro w hS; go_simp; try with_reducible rfl)
          · (go_simp; try with_reducible rfl)
          refine held_take (i := 4) (v := ?_) (a' := ?_) rfl (by kernel_rfl) (by kernel_rfl) (by kernel_rfl) (fun _ _ _ h => (show False from h.2.2.2).elim) (by rfl) hcls ?_ ?_ ?_
          rotate_left 2
          · (intro w hS; have t := (hS.cell (p := ⟨b1, o1 + k * 35, none⟩) hb1B).trans HCS.out; go_simp; try with_reducible rfl)
          · (go_simp; try with_reducible rfl)
          refine held_take (i := 6) (v := ?_) (a' := ?_) rfl (by kernel_rfl) (by kernel_rfl) (by kernel_rfl) (fun _ _ _ h => (show False from h.2.2.2).elim) (by rfl) hcls ?_ ?_ ?_
          rotate_left 2
          · (intro w hS; go_simp; try with_reducible rfl)
          · (go_simp; try with_reducible rfl)
          refine held_take (i := 7) (v := ?_) (a' := ?_) rfl (by kernel_rfl) (by kernel_rfl) (by kernel_rfl) (fun _ _ _ h => (show False from h.2.2.2).elim) (by rfl) hcls ?_ ?_ ?_
          rotate_left 2
          · (intro w hS; go_simp; try with_reducible rfl)
          · (go_simp; try with_reducible rfl)
          refine held_take (i := 8) (v := ?_) (a' := ?_) rfl (by kernel_rfl) (by kernel_rfl) (by kernel_rfl) (fun _ _ _ h => (show False from h.2.2.2).elim) (by rfl) hcls ?_ ?_ ?_
          rotate_left 2
          · (intro w hS; go_simp; try with_reducible rfl)
          · (go_simp; try with_reducible rfl)
          refine held_take (i := 9) (v := ?_) (a' := ?_) rfl (by kernel_rfl) (by kernel_rfl) (by kernel_rfl) (fun _ _ _ h => (show False from h.2.2.2).elim) (by rfl) hcls ?_ ?_ ?_
          rotate_left 2
          · (intro w hS; go_simp; try with_reducible rfl)
          · (go_simp; try with_reducible rfl)
          refine held_take (i := 10) (v := ?_) (a' := ?_) rfl (by kernel_rfl) (by kernel_rfl) (by kernel_rfl) (fun _ _ _ h => (show False from h.2.2.2).elim) (by rfl) hcls ?_ ?_ ?_
          rotate_left 2
          · (intro w hS; refine exec_load_at 27 (.tmp 29) ?_ b1 (o1 + k * 35 + 2) ?_ KB _ (HAI.out.below hS hb1B) Try.underlying27 rfl HIB.out; exact rfl; exact rfl)
          · (go_simp; try with_reducible rfl)
          refine held_ready (rs := [5, 14]) (by kernel_rfl) (by simp) ?_
          refine AllHeld.cons rfl (fun KR hKR => ?_) ?_
          · go_simp
            refine (HTX.out _).mono ?_
            rintro e wn ⟨⟨cs, rfl, hv⟩, hbn⟩
            have hcls := hcls.trans (hbn.mono hcl0)
            try have hgel := hE.lt
            try have hE := hE.below hbn hE.lt
            have hk5 : cs.length = 5 := valR.len hv
            obtain ⟨K0, hK⟩ : ∃ K, K = cs.toArray := ⟨_, rfl⟩
            first
              | have HV0 := Lib.hid (show valR.R wn (fun b => b < B ∨ b = ge) K0.toList (txtV (sB s)) by rw [hK]; exact valR.stable (by simpa using hv) (Moves.less _ (fun b _ h => by have h : b < B ∨ b = ge := h; show b < _; omega)))
              | have HV0 := Lib.hid (show valR.R wn (fun b => b < B) K0.toList (txtV (sB s)) by rw [hK]; exact valR.stable (by simpa using hv) (Moves.less _ (fun b _ h => by have h : b < B := h; show b < _; omega)))
            have HK0 := Lib.hid (show K0.size = 5 by rw [hK]; simpa using hk5)
            rw [← hK]
            have hcl0 := Nat.le_trans hcl0 hbn.size
            clear hv hk5 hK hbn
            refine hKR _ _ hcls ?_
            clear hKR KR
            refine held_ready (rs := [11, 14]) (by kernel_rfl) (by simp) ?_
            refine AllHeld.cons rfl (fun KR hKR => ?_) ?_
            · go_simp
              refine (HTI.out _).mono ?_
              rintro e wn ⟨⟨cs, rfl, hv⟩, hbn⟩
              have hcls := hcls.trans (hbn.mono hcl0)
              try have hgel := hE.lt
              try have hE := hE.below hbn hE.lt
              have HV0 := Lib.hid (valR.stable HV0.out (Moves.of_below hbn))
              have hk5 : cs.length = 5 := valR.len hv
              obtain ⟨K1, hK⟩ : ∃ K, K = cs.toArray := ⟨_, rfl⟩
              first
                | have HV1 := Lib.hid (show valR.R wn (fun b => b < B ∨ b = ge) K1.toList (txtV i) by rw [hK]; exact valR.stable (by simpa using hv) (Moves.less _ (fun b _ h => by have h : b < B ∨ b = ge := h; show b < _; omega)))
                | have HV1 := Lib.hid (show valR.R wn (fun b => b < B) K1.toList (txtV i) by rw [hK]; exact valR.stable (by simpa using hv) (Moves.less _ (fun b _ h => by have h : b < B := h; show b < _; omega)))
              have HK1 := Lib.hid (show K1.size = 5 by rw [hK]; simpa using hk5)
              rw [← hK]
              have hcl0 := Nat.le_trans hcl0 hbn.size
              clear hv hk5 hK hbn
              refine hKR _ _ hcls ?_
              clear hKR KR
              refine held_ready (rs := [12, 14]) (by kernel_rfl) (by simp) ?_
              refine AllHeld.cons rfl (fun KR hKR => ?_) ?_
              · refine step_build2 (by rfl) (.tmp 25) (.tmp 31) (by rfl) (by rfl) (by rfl) (bsVals_of _ [K0, K1] 2 rfl (by omega) (by omega) (fun K hK => by
                  simp only [List.mem_cons, List.not_mem_nil, or_false] at hK
                  rcases hK with rfl | rfl
                  · exact HK0.out
                  · exact HK1.out)) ?_
                obtain ⟨wS, gs, hwS, hgS, hbS, hBS, hKK⟩ := vals_alloc hcl0 (([K0, K1].flatMap (·.toList)).toArray)
                have HEA := Lib.hid (each_two (rd_new HV0.out (.cells (([K0, K1].flatMap (·.toList)).toArray) 84)) (rd_new HV1.out (.cells (([K0, K1].flatMap (·.toList)).toArray) 84)))
                rw [hwS, hgS] at HEA
                rw [hwS, hgS]
                have hcls := hcls.trans (hbS.mono hcl0)
                have hcl0 := Nat.le_trans hcl0 hbS.size
                try have hne : gs ≠ ge := by have := hE.lt; omega
                try have hE := hE.below hbS hE.lt
                generalize ([K0, K1].flatMap (·.toList)).toArray = KK at *
                clear hwS hgS HV0 HV1 HK0 HK1
                refine hKR _ _ hcls ?_
                clear hKR KR
                refine held_take (i := 13) (v := ?_) (a' := ?_) rfl (by kernel_rfl) (by kernel_rfl) (by kernel_rfl) (fun _ _ _ h => (show False from h.2.2.2).elim) (by rfl) hcls ?_ ?_ ?_
                rotate_left 2
                · (intro w hS; go_simp; try with_reducible rfl)
                · (go_simp; try with_reducible rfl)
                refine held_ready (rs := [14]) (by kernel_rfl) (by simp) ?_
                refine AllHeld.cons rfl (fun KR hKR => ?_) ?_
                · go_simp
                  obtain ⟨wE, ge, hwE, hgE, hbE, hBE, hE⟩ := val_alloc hcl0
                  first
                    | have HV0 := Lib.hid (rd_new HV0.out (.cells zVal 84)); rw [hwE, hgE] at HV0
                    | skip
                  first
                    | have HV1 := Lib.hid (rd_new HV1.out (.cells zVal 84)); rw [hwE, hgE] at HV1
                    | skip
                  first
                    | have HEA := Lib.hid (HEA.out.mono fun _ _ h => rd_new h (.cells zVal 84)); rw [hwE, hgE] at HEA
                    | skip
                  try have hne : gs ≠ ge := by have := hKK.lt; omega
                  try have hKK := hKK.below hbE hKK.lt
                  have hcls := hcls.trans (hbE.mono hcl0)
                  have hcl0 := Nat.le_trans hcl0 hbE.size
                  change KR _ (World.alloc _ (.cells zVal 84))
                  rw [hwE, hgE]
                  clear hwE hgE
                  refine hKR _ _ hcls ?_
                  clear hKR KR
                  refine held_ready (rs := [15]) (by kernel_rfl) (by simp) ?_
                  refine AllHeld.cons rfl (fun KR hKR => ?_) ?_
                  · refine step_store_row (by rfl) (.tmp 7) (.tmp 33) (by rfl) ge (cellsV 3 0 none 0 0 0 (some ⟨gs, 0, none⟩) 2 2) (by rfl) (by rfl) 84 zVal hE (cellsV_info _ _ _ _ _ _ _ _ _) rfl (cellsV_one _ _ _ _ _ _ _ _ _) ?_
                    have hcls := below_setRow hcls hBE (cellsV 3 0 none 0 0 0 (some ⟨gs, 0, none⟩) 2 2)
                    have hE2 := Lib.hid (show Blk _ ge 84 (cellsV 3 0 none 0 0 0 (some ⟨gs, 0, none⟩) 2 2) from setRow_heap _ ge _ (cellsV 3 0 none 0 0 0 (some ⟨gs, 0, none⟩) 2 2) _ _ hE)
                    have hKK2 := Lib.hid (hKK.grown (grown_row _ ge (cellsV 3 0 none 0 0 0 (some ⟨gs, 0, none⟩) 2 2)) (fun e => hne (Option.some.inj e)))
                    have HEB := Lib.hid (HEA.out.mono fun _ _ h => valR.stable h ((Moves.less (av' := fun b => b < B ∨ b = ge ∨ b = gs) _ (fun b _ h => by
                      have h : b < B ∨ b = ge ∨ b = gs := h
                      first
                        | exact (show (b < B ∨ b = ge) ∨ b = gs by omega)
                        | exact (show (b < B ∨ b = gs) ∨ b = ge by omega))).trans (Moves.grown (grown_row _ ge (cellsV 3 0 none 0 0 0 (some ⟨gs, 0, none⟩) 2 2)) (.inr (.inl rfl)))))
                    refine hKR _ _ hcls ?_
                    clear hKR KR
                    refine wpAnyH_done (by kernel_rfl) ?_ _
                    refine door_normal ?_
                    clear HEA hKK hE
                    go_wp2_with fail
                    go_meet
                    case rel => exact ⟨ge, gs, KK, rfl, hBE, hBS, hne, Lib.hid hcls, hE2, hKK2, HEB⟩
                  exact AllHeld.nil
                exact AllHeld.nil
              refine AllHeld.cons rfl (fun KR hKR => ?_) ?_
              · go_simp
                obtain ⟨wE, ge, hwE, hgE, hbE, hBE, hE⟩ := val_alloc hcl0
                first
                  | have HV0 := Lib.hid (rd_new HV0.out (.cells zVal 84)); rw [hwE, hgE] at HV0
                  | skip
                first
                  | have HV1 := Lib.hid (rd_new HV1.out (.cells zVal 84)); rw [hwE, hgE] at HV1
                  | skip
                first
                  | have HEA := Lib.hid (HEA.out.mono fun _ _ h => rd_new h (.cells zVal 84)); rw [hwE, hgE] at HEA
                  | skip
                try have hne : gs ≠ ge := by have := hKK.lt; omega
                try have hKK := hKK.below hbE hKK.lt
                have hcls := hcls.trans (hbE.mono hcl0)
                have hcl0 := Nat.le_trans hcl0 hbE.size
                change KR _ (World.alloc _ (.cells zVal 84))
                rw [hwE, hgE]
                clear hwE hgE
                refine hKR _ _ hcls ?_
                clear hKR KR
                refine held_ready (rs := [12]) (by kernel_rfl) (by simp) ?_
                refine AllHeld.cons rfl (fun KR hKR => ?_) ?_
                · refine step_build2 (by rfl) (.tmp 25) (.tmp 31) (by rfl) (by rfl) (by rfl) (bsVals_of _ [K0, K1] 2 rfl (by omega) (by omega) (fun K hK => by
                    simp only [List.mem_cons, List.not_mem_nil, or_false] at hK
                    rcases hK with rfl | rfl
                    · exact HK0.out
                    · exact HK1.out)) ?_
                  obtain ⟨wS, gs, hwS, hgS, hbS, hBS, hKK⟩ := vals_alloc hcl0 (([K0, K1].flatMap (·.toList)).toArray)
                  have HEA := Lib.hid (each_two (rd_new HV0.out (.cells (([K0, K1].flatMap (·.toList)).toArray) 84)) (rd_new HV1.out (.cells (([K0, K1].flatMap (·.toList)).toArray) 84)))
                  rw [hwS, hgS] at HEA
                  rw [hwS, hgS]
                  have hcls := hcls.trans (hbS.mono hcl0)
                  have hcl0 := Nat.le_trans hcl0 hbS.size
                  try have hne : gs ≠ ge := by have := hE.lt; omega
                  try have hE := hE.below hbS hE.lt
                  generalize ([K0, K1].flatMap (·.toList)).toArray = KK at *
                  clear hwS hgS HV0 HV1 HK0 HK1
                  refine hKR _ _ hcls ?_
                  clear hKR KR
                  refine held_take (i := 13) (v := ?_) (a' := ?_) rfl (by kernel_rfl) (by kernel_rfl) (by kernel_rfl) (fun _ _ _ h => (show False from h.2.2.2).elim) (by rfl) hcls ?_ ?_ ?_
                  rotate_left 2
                  · (intro w hS; go_simp; try with_reducible rfl)
                  · (go_simp; try with_reducible rfl)
                  refine held_ready (rs := [15]) (by kernel_rfl) (by simp) ?_
                  refine AllHeld.cons rfl (fun KR hKR => ?_) ?_
                  · refine step_store_row (by rfl) (.tmp 7) (.tmp 33) (by rfl) ge (cellsV 3 0 none 0 0 0 (some ⟨gs, 0, none⟩) 2 2) (by rfl) (by rfl) 84 zVal hE (cellsV_info _ _ _ _ _ _ _ _ _) rfl (cellsV_one _ _ _ _ _ _ _ _ _) ?_
                    have hcls := below_setRow hcls hBE (cellsV 3 0 none 0 0 0 (some ⟨gs, 0, none⟩) 2 2)
                    have hE2 := Lib.hid (show Blk _ ge 84 (cellsV 3 0 none 0 0 0 (some ⟨gs, 0, none⟩) 2 2) from setRow_heap _ ge _ (cellsV 3 0 none 0 0 0 (some ⟨gs, 0, none⟩) 2 2) _ _ hE)
                    have hKK2 := Lib.hid (hKK.grown (grown_row _ ge (cellsV 3 0 none 0 0 0 (some ⟨gs, 0, none⟩) 2 2)) (fun e => hne (Option.some.inj e)))
                    have HEB := Lib.hid (HEA.out.mono fun _ _ h => valR.stable h ((Moves.less (av' := fun b => b < B ∨ b = ge ∨ b = gs) _ (fun b _ h => by
                      have h : b < B ∨ b = ge ∨ b = gs := h
                      first
                        | exact (show (b < B ∨ b = ge) ∨ b = gs by omega)
                        | exact (show (b < B ∨ b = gs) ∨ b = ge by omega))).trans (Moves.grown (grown_row _ ge (cellsV 3 0 none 0 0 0 (some ⟨gs, 0, none⟩) 2 2)) (.inr (.inl rfl)))))
                    refine hKR _ _ hcls ?_
                    clear hKR KR
                    refine wpAnyH_done (by kernel_rfl) ?_ _
                    refine door_normal ?_
                    clear HEA hKK hE
                    go_wp2_with fail
                    go_meet
                    case rel => exact ⟨ge, gs, KK, rfl, hBE, hBS, hne, Lib.hid hcls, hE2, hKK2, HEB⟩
                  exact AllHeld.nil
                exact AllHeld.nil
              exact AllHeld.nil
            refine AllHeld.cons rfl (fun KR hKR => ?_) ?_
            · go_simp
              obtain ⟨wE, ge, hwE, hgE, hbE, hBE, hE⟩ := val_alloc hcl0
              first
                | have HV0 := Lib.hid (rd_new HV0.out (.cells zVal 84)); rw [hwE, hgE] at HV0
                | skip
              first
                | have HV1 := Lib.hid (rd_new HV1.out (.cells zVal 84)); rw [hwE, hgE] at HV1
                | skip
              first
                | have HEA := Lib.hid (HEA.out.mono fun _ _ h => rd_new h (.cells zVal 84)); rw [hwE, hgE] at HEA
                | skip
              try have hne : gs ≠ ge := by have := hKK.lt; omega
              try have hKK := hKK.below hbE hKK.lt
              have hcls := hcls.trans (hbE.mono hcl0)
              have hcl0 := Nat.le_trans hcl0 hbE.size
              change KR _ (World.alloc _ (.cells zVal 84))
              rw [hwE, hgE]
              clear hwE hgE
              refine hKR _ _ hcls ?_
              clear hKR KR
              refine held_ready (rs := [11]) (by kernel_rfl) (by simp) ?_
              refine AllHeld.cons rfl (fun KR hKR => ?_) ?_
              · go_simp
                refine (HTI.out _).mono ?_
                rintro e wn ⟨⟨cs, rfl, hv⟩, hbn⟩
                have hcls := hcls.trans (hbn.mono hcl0)
                try have hgel := hE.lt
                try have hE := hE.below hbn hE.lt
                have HV0 := Lib.hid (valR.stable HV0.out (Moves.of_below hbn))
                have hk5 : cs.length = 5 := valR.len hv
                obtain ⟨K1, hK⟩ : ∃ K, K = cs.toArray := ⟨_, rfl⟩
                first
                  | have HV1 := Lib.hid (show valR.R wn (fun b => b < B ∨ b = ge) K1.toList (txtV i) by rw [hK]; exact valR.stable (by simpa using hv) (Moves.less _ (fun b _ h => by have h : b < B ∨ b = ge := h; show b < _; omega)))
                  | have HV1 := Lib.hid (show valR.R wn (fun b => b < B) K1.toList (txtV i) by rw [hK]; exact valR.stable (by simpa using hv) (Moves.less _ (fun b _ h => by have h : b < B := h; show b < _; omega)))
                have HK1 := Lib.hid (show K1.size = 5 by rw [hK]; simpa using hk5)
                rw [← hK]
                have hcl0 := Nat.le_trans hcl0 hbn.size
                clear hv hk5 hK hbn
                refine hKR _ _ hcls ?_
                clear hKR KR
                refine held_ready (rs := [12]) (by kernel_rfl) (by simp) ?_
                refine AllHeld.cons rfl (fun KR hKR => ?_) ?_
                · refine step_build2 (by rfl) (.tmp 25) (.tmp 31) (by rfl) (by rfl) (by rfl) (bsVals_of _ [K0, K1] 2 rfl (by omega) (by omega) (fun K hK => by
                    simp only [List.mem_cons, List.not_mem_nil, or_false] at hK
                    rcases hK with rfl | rfl
                    · exact HK0.out
                    · exact HK1.out)) ?_
                  obtain ⟨wS, gs, hwS, hgS, hbS, hBS, hKK⟩ := vals_alloc hcl0 (([K0, K1].flatMap (·.toList)).toArray)
                  have HEA := Lib.hid (each_two (rd_new HV0.out (.cells (([K0, K1].flatMap (·.toList)).toArray) 84)) (rd_new HV1.out (.cells (([K0, K1].flatMap (·.toList)).toArray) 84)))
                  rw [hwS, hgS] at HEA
                  rw [hwS, hgS]
                  have hcls := hcls.trans (hbS.mono hcl0)
                  have hcl0 := Nat.le_trans hcl0 hbS.size
                  try have hne : gs ≠ ge := by have := hE.lt; omega
                  try have hE := hE.below hbS hE.lt
                  generalize ([K0, K1].flatMap (·.toList)).toArray = KK at *
                  clear hwS hgS HV0 HV1 HK0 HK1
                  refine hKR _ _ hcls ?_
                  clear hKR KR
                  refine held_take (i := 13) (v := ?_) (a' := ?_) rfl (by kernel_rfl) (by kernel_rfl) (by kernel_rfl) (fun _ _ _ h => (show False from h.2.2.2).elim) (by rfl) hcls ?_ ?_ ?_
                  rotate_left 2
                  · (intro w hS; go_simp; try with_reducible rfl)
                  · (go_simp; try with_reducible rfl)
                  refine held_ready (rs := [15]) (by kernel_rfl) (by simp) ?_
                  refine AllHeld.cons rfl (fun KR hKR => ?_) ?_
                  · refine step_store_row (by rfl) (.tmp 7) (.tmp 33) (by rfl) ge (cellsV 3 0 none 0 0 0 (some ⟨gs, 0, none⟩) 2 2) (by rfl) (by rfl) 84 zVal hE (cellsV_info _ _ _ _ _ _ _ _ _) rfl (cellsV_one _ _ _ _ _ _ _ _ _) ?_
                    have hcls := below_setRow hcls hBE (cellsV 3 0 none 0 0 0 (some ⟨gs, 0, none⟩) 2 2)
                    have hE2 := Lib.hid (show Blk _ ge 84 (cellsV 3 0 none 0 0 0 (some ⟨gs, 0, none⟩) 2 2) from setRow_heap _ ge _ (cellsV 3 0 none 0 0 0 (some ⟨gs, 0, none⟩) 2 2) _ _ hE)
                    have hKK2 := Lib.hid (hKK.grown (grown_row _ ge (cellsV 3 0 none 0 0 0 (some ⟨gs, 0, none⟩) 2 2)) (fun e => hne (Option.some.inj e)))
                    have HEB := Lib.hid (HEA.out.mono fun _ _ h => valR.stable h ((Moves.less (av' := fun b => b < B ∨ b = ge ∨ b = gs) _ (fun b _ h => by
                      have h : b < B ∨ b = ge ∨ b = gs := h
                      first
                        | exact (show (b < B ∨ b = ge) ∨ b = gs by omega)
                        | exact (show (b < B ∨ b = gs) ∨ b = ge by omega))).trans (Moves.grown (grown_row _ ge (cellsV 3 0 none 0 0 0 (some ⟨gs, 0, none⟩) 2 2)) (.inr (.inl rfl)))))
                    refine hKR _ _ hcls ?_
                    clear hKR KR
                    refine wpAnyH_done (by kernel_rfl) ?_ _
                    refine door_normal ?_
                    clear HEA hKK hE
                    go_wp2_with fail
                    go_meet
                    case rel => exact ⟨ge, gs, KK, rfl, hBE, hBS, hne, Lib.hid hcls, hE2, hKK2, HEB⟩
                  exact AllHeld.nil
                exact AllHeld.nil
              exact AllHeld.nil
            exact AllHeld.nil
          refine AllHeld.cons rfl (fun KR hKR => ?_) ?_
          · go_simp
            obtain ⟨wE, ge, hwE, hgE, hbE, hBE, hE⟩ := val_alloc hcl0
            first
              | have HV0 := Lib.hid (rd_new HV0.out (.cells zVal 84)); rw [hwE, hgE] at HV0
              | skip
            first
              | have HV1 := Lib.hid (rd_new HV1.out (.cells zVal 84)); rw [hwE, hgE] at HV1
              | skip
            first
              | have HEA := Lib.hid (HEA.out.mono fun _ _ h => rd_new h (.cells zVal 84)); rw [hwE, hgE] at HEA
              | skip
            try have hne : gs ≠ ge := by have := hKK.lt; omega
            try have hKK := hKK.below hbE hKK.lt
            have hcls := hcls.trans (hbE.mono hcl0)
            have hcl0 := Nat.le_trans hcl0 hbE.size
            change KR _ (World.alloc _ (.cells zVal 84))
            rw [hwE, hgE]
            clear hwE hgE
            refine hKR _ _ hcls ?_
            clear hKR KR
            refine held_ready (rs := [5]) (by kernel_rfl) (by simp) ?_
            refine AllHeld.cons rfl (fun KR hKR => ?_) ?_
            · go_simp
              refine (HTX.out _).mono ?_
              rintro e wn ⟨⟨cs, rfl, hv⟩, hbn⟩
              have hcls := hcls.trans (hbn.mono hcl0)
              try have hgel := hE.lt
              try have hE := hE.below hbn hE.lt
              have hk5 : cs.length = 5 := valR.len hv
              obtain ⟨K0, hK⟩ : ∃ K, K = cs.toArray := ⟨_, rfl⟩
              first
                | have HV0 := Lib.hid (show valR.R wn (fun b => b < B ∨ b = ge) K0.toList (txtV (sB s)) by rw [hK]; exact valR.stable (by simpa using hv) (Moves.less _ (fun b _ h => by have h : b < B ∨ b = ge := h; show b < _; omega)))
                | have HV0 := Lib.hid (show valR.R wn (fun b => b < B) K0.toList (txtV (sB s)) by rw [hK]; exact valR.stable (by simpa using hv) (Moves.less _ (fun b _ h => by have h : b < B := h; show b < _; omega)))
              have HK0 := Lib.hid (show K0.size = 5 by rw [hK]; simpa using hk5)
              rw [← hK]
              have hcl0 := Nat.le_trans hcl0 hbn.size
              clear hv hk5 hK hbn
              refine hKR _ _ hcls ?_
              clear hKR KR
              refine held_ready (rs := [11]) (by kernel_rfl) (by simp) ?_
              refine AllHeld.cons rfl (fun KR hKR => ?_) ?_
              · go_simp
                refine (HTI.out _).mono ?_
                rintro e wn ⟨⟨cs, rfl, hv⟩, hbn⟩
                have hcls := hcls.trans (hbn.mono hcl0)
                try have hgel := hE.lt
                try have hE := hE.below hbn hE.lt
                have HV0 := Lib.hid (valR.stable HV0.out (Moves.of_below hbn))
                have hk5 : cs.length = 5 := valR.len hv
                obtain ⟨K1, hK⟩ : ∃ K, K = cs.toArray := ⟨_, rfl⟩
                first
                  | have HV1 := Lib.hid (show valR.R wn (fun b => b < B ∨ b = ge) K1.toList (txtV i) by rw [hK]; exact valR.stable (by simpa using hv) (Moves.less _ (fun b _ h => by have h : b < B ∨ b = ge := h; show b < _; omega)))
                  | have HV1 := Lib.hid (show valR.R wn (fun b => b < B) K1.toList (txtV i) by rw [hK]; exact valR.stable (by simpa using hv) (Moves.less _ (fun b _ h => by have h : b < B := h; show b < _; omega)))
                have HK1 := Lib.hid (show K1.size = 5 by rw [hK]; simpa using hk5)
                rw [← hK]
                have hcl0 := Nat.le_trans hcl0 hbn.size
                clear hv hk5 hK hbn
                refine hKR _ _ hcls ?_
                clear hKR KR
                refine held_ready (rs := [12]) (by kernel_rfl) (by simp) ?_
                refine AllHeld.cons rfl (fun KR hKR => ?_) ?_
                · refine step_build2 (by rfl) (.tmp 25) (.tmp 31) (by rfl) (by rfl) (by rfl) (bsVals_of _ [K0, K1] 2 rfl (by omega) (by omega) (fun K hK => by
                    simp only [List.mem_cons, List.not_mem_nil, or_false] at hK
                    rcases hK with rfl | rfl
                    · exact HK0.out
                    · exact HK1.out)) ?_
                  obtain ⟨wS, gs, hwS, hgS, hbS, hBS, hKK⟩ := vals_alloc hcl0 (([K0, K1].flatMap (·.toList)).toArray)
                  have HEA := Lib.hid (each_two (rd_new HV0.out (.cells (([K0, K1].flatMap (·.toList)).toArray) 84)) (rd_new HV1.out (.cells (([K0, K1].flatMap (·.toList)).toArray) 84)))
                  rw [hwS, hgS] at HEA
                  rw [hwS, hgS]
                  have hcls := hcls.trans (hbS.mono hcl0)
                  have hcl0 := Nat.le_trans hcl0 hbS.size
                  try have hne : gs ≠ ge := by have := hE.lt; omega
                  try have hE := hE.below hbS hE.lt
                  generalize ([K0, K1].flatMap (·.toList)).toArray = KK at *
                  clear hwS hgS HV0 HV1 HK0 HK1
                  refine hKR _ _ hcls ?_
                  clear hKR KR
                  refine held_take (i := 13) (v := ?_) (a' := ?_) rfl (by kernel_rfl) (by kernel_rfl) (by kernel_rfl) (fun _ _ _ h => (show False from h.2.2.2).elim) (by rfl) hcls ?_ ?_ ?_
                  rotate_left 2
                  · (intro w hS; go_simp; try with_reducible rfl)
                  · (go_simp; try with_reducible rfl)
                  refine held_ready (rs := [15]) (by kernel_rfl) (by simp) ?_
                  refine AllHeld.cons rfl (fun KR hKR => ?_) ?_
                  · refine step_store_row (by rfl) (.tmp 7) (.tmp 33) (by rfl) ge (cellsV 3 0 none 0 0 0 (some ⟨gs, 0, none⟩) 2 2) (by rfl) (by rfl) 84 zVal hE (cellsV_info _ _ _ _ _ _ _ _ _) rfl (cellsV_one _ _ _ _ _ _ _ _ _) ?_
                    have hcls := below_setRow hcls hBE (cellsV 3 0 none 0 0 0 (some ⟨gs, 0, none⟩) 2 2)
                    have hE2 := Lib.hid (show Blk _ ge 84 (cellsV 3 0 none 0 0 0 (some ⟨gs, 0, none⟩) 2 2) from setRow_heap _ ge _ (cellsV 3 0 none 0 0 0 (some ⟨gs, 0, none⟩) 2 2) _ _ hE)
                    have hKK2 := Lib.hid (hKK.grown (grown_row _ ge (cellsV 3 0 none 0 0 0 (some ⟨gs, 0, none⟩) 2 2)) (fun e => hne (Option.some.inj e)))
                    have HEB := Lib.hid (HEA.out.mono fun _ _ h => valR.stable h ((Moves.less (av' := fun b => b < B ∨ b = ge ∨ b = gs) _ (fun b _ h => by
                      have h : b < B ∨ b = ge ∨ b = gs := h
                      first
                        | exact (show (b < B ∨ b = ge) ∨ b = gs by omega)
                        | exact (show (b < B ∨ b = gs) ∨ b = ge by omega))).trans (Moves.grown (grown_row _ ge (cellsV 3 0 none 0 0 0 (some ⟨gs, 0, none⟩) 2 2)) (.inr (.inl rfl)))))
                    refine hKR _ _ hcls ?_
                    clear hKR KR
                    refine wpAnyH_done (by kernel_rfl) ?_ _
                    refine door_normal ?_
                    clear HEA hKK hE
                    go_wp2_with fail
                    go_meet
                    case rel => exact ⟨ge, gs, KK, rfl, hBE, hBS, hne, Lib.hid hcls, hE2, hKK2, HEB⟩
                  exact AllHeld.nil
                exact AllHeld.nil
              exact AllHeld.nil
            exact AllHeld.nil
          exact AllHeld.nil
        case rest =>
          obtain ⟨ge, gs, KK, rfl, hge, hgs, hne, HB9, HE9, HK9, HEA9⟩ := hcut
          rename World => w9
          have hcd9 : w9.cell? ⟨b1, o1 + k * 35 + 1, none⟩ = some (.bool d) := (HB9.out.cell (p := ⟨b1, o1 + k * 35 + 1, none⟩) hb1B).trans hcd
          have HRX := Lib.hid (show RowX valR 84 w9 B (fun b => b < B ∨ b = ge) (some ⟨gs, 0, none⟩) 2 2 [txtV (sB s), txtV i] from RowX.of_blk HK9.out hgs rfl (by simp [maxLen]) (by omega) (HEA9.out.mono fun _ _ h => valR.stable h (Moves.less _ (fun b _ h => by
            have h : (b < B ∨ b = ge) ∨ b = gs := h
            show b < B ∨ b = ge ∨ b = gs
            omega))))
          have hgel := HE9.out.lt
          clear HAI HIB HTX HTI HCS hdr hcd
          cases d with
          | true =>
            have HTK2 := Lib.hid (show (l.take k).map entVr ++ [lstV [txtV (sB s), txtV i]] = (l.take (k + 1)).map entVr from HTK.out)
            have HROW := Lib.hid (show valR.R w9 (fun b => b < B) (cellsV 3 0 none 0 0 0 (some ⟨gs, 0, none⟩) 2 2).toList (lstV [txtV (sB s), txtV i]) from valR_iff.2 ⟨none, 0, some ⟨gs, 0, none⟩, 2, rfl, by decide, by omega, by omega, ⟨Nat.le_refl _, Nat.zero_le _, SlOf.nil⟩, Nat.le_refl _, by simp [maxLen], (HRX.out.sl (fun b hb h => by
              have hb : some gs = some b := hb
              have hb := Option.some.inj hb
              have h : b < B ∨ b = ge := h
              omega)).stable (Moves.less _ (fun b _ h => .inl h))⟩)
            have HEW := HE9
            have HBW := HB9
            clear HTK HRX HK9 HEA9 HCF HF64 HE9 HB9
            obtain ⟨KE, hKE⟩ : ∃ KE, KE = cellsV 3 0 none 0 0 0 (some ⟨gs, 0, none⟩) 2 2 := ⟨_, rfl⟩
            have hke5 : KE.size = 5 := by rw [hKE]; rfl
            have HVE := Lib.hid (show valR.R w9 (fun b => b < wr.heap.size) KE.toList (lstV [txtV (sB s), txtV i]) by rw [hKE, HBB.out]; exact HROW.out)
            have HEE := Lib.hid (show Blk w9 ge 84 KE by rw [hKE]; exact HEW.out)
            have HIE := Lib.hid (show (Try.prog.info? 84).map (·.size) = some KE.size by rw [hKE]; exact cellsV_info _ _ _ _ _ _ _ _ _)
            have HBW2 := Lib.hid (show Below wr.heap.size wr w9 by rw [HBB.out]; exact HBW.out)
            obtain ⟨A9, c9, w7, run9, hVL, hgr, hblk, hb7⟩ := HV4.out.more HBW2.out HVE.out (by omega) 1
            rw [HTK2.out] at hVL
            have hbs := bsVal_of w9 KE hke5
            have hcl : w9.cell? ⟨gv, 4, none⟩ = some (.slice A' k c') := (HBW2.out.cell (p := ⟨gv, 4, none⟩) hgl).trans (HV4.out.blk.cell 4)
            have hcz : w7.cell? ⟨gv, 4, none⟩ = some (.slice A' k c') := hblk.cell 4
            have hfz := hblk.frozen 4
            have hlz := hblk.lt
            have HV9 := Lib.hid hVL
            have HB99 := Lib.hid (show Below gv w2 (w7.setCell ⟨gv, 4, none⟩ (.slice A9 (k + 1) c9)) from ((HB4.out.trans (HBW2.out.mono (Nat.le_of_lt hgl))).trans (hb7.mono (Nat.le_succ _))).setCell (p := ⟨gv, 4, none⟩) (Nat.le_refl _) _)
            rw [Array.toArray_toList] at run9
            clear hKE hke5 HVE HBW2 hVL hgr hblk hb7 HV4 HB4 HROW HEW HBW
            go_wp2_with (first
              | (refine wpList_load_row rfl 84 (.tmp 7) rfl ge rfl 84 KE (0, 0) _ HEE.out Try.underlying84 rfl HIE.out ?_)
              | (refine wpList_build1 rfl (.tmp 53) rfl (.agg KE) _ rfl hbs ?_)
              | (at_builtin; refine wpList_run_append run9 ?_ ?_ ?_; exact rfl; exact rfl)
              | fail)
            go_roundw
            case rel => exact ⟨k + 1, A9, c9, by omega, by go_num, HB99, HV9⟩
            case measure => simp [intOf]; omega
          | false =>
            have HTK2 := Lib.hid (show (l.take k).map entVr ++ [lstV [txtV (sB s), txtV i, fltV f]] = (l.take (k + 1)).map entVr from HTK.out)
            have hcf9 : w9.cell? ⟨b1, o1 + k * 35 + 34, none⟩ = some (.float .f64 f) := (HB9.out.cell (p := ⟨b1, o1 + k * 35 + 34, none⟩) hb1B).trans HCF.out
            have hdr9 : Below w9.heap.size w9 w9.drew := Same.below ⟨1, rfl⟩ _
            have hb19 : b1 < w9.heap.size := by omega
            have hs0 : w9.drew.cell? ⟨ge, 4, none⟩ = some (.slice (some ⟨gs, 0, none⟩) 2 2) ∧ w9.drew.cell? ⟨b1, o1 + k * 35 + 34, none⟩ = some (.float .f64 f) := ⟨(hdr9.cell (p := ⟨ge, 4, none⟩) hgel).trans (HE9.out.cell 4), (hdr9.cell (p := ⟨b1, o1 + k * 35 + 34, none⟩) hb19).trans hcf9⟩
            obtain ⟨KF, hKF⟩ : ∃ KF, KF = cellsV 2 0 none 0 0 f none 0 0 := ⟨_, rfl⟩
            have hkf5 : KF.size = 5 := by rw [hKF]; rfl
            have hvf : valR.R w9.drew (fun _ => True) KF.toList (fltV f) := by
              rw [hKF]
              exact valR_iff.2 ⟨none, 0, none, 0, rfl, by decide, by omega, HF64.out, ⟨Nat.le_refl _, Nat.zero_le _, SlOf.nil⟩, Nat.le_refl _, Nat.zero_le _, SlOf.nil⟩
            have hB9 : B ≤ w9.drew.heap.size := Nat.le_trans hge (Nat.le_of_lt hgel)
            obtain ⟨A8, c8, w10, run8, hrow8, hb10, hgr8, hc8, hcm8, hown8⟩ := (HRX.out.below hdr9).push elemVal hB9 hvf (fun _ _ _ => trivial) (by omega) (by simp [maxLen]) 82 1
            rw [Array.toArray_toList] at run8
            have hbs8 := bsVal_of w9.drew KF hkf5
            have hE10 : Blk w10 ge 84 (cellsV 3 0 none 0 0 0 (some ⟨gs, 0, none⟩) 2 2) := (HE9.out.below hdr9 hgel).grown hgr8 (fun e => by
              have e : some ge = some gs := e
              exact hne (Option.some.inj e).symm)
            have hal : Below w9.drew.heap.size w9.drew (w9.drew.alloc (.cells KF 84)) := (Below.refl _ _).alloc (Nat.le_refl _) _
            have hs8 : (w9.drew.alloc (.cells KF 84)).cell? ⟨ge, 4, none⟩ = some (.slice (some ⟨gs, 0, none⟩) 2 2) ∧ (w9.drew.alloc (.cells KF 84)).cell? ⟨b1, o1 + k * 35 + 34, none⟩ = some (.float .f64 f) := ⟨(hal.cell (p := ⟨ge, 4, none⟩) hgel).trans hs0.1, (hal.cell (p := ⟨b1, o1 + k * 35 + 34, none⟩) hb19).trans hs0.2⟩
            have hs9 : w10.cell? ⟨ge, 4, none⟩ = some (.slice (some ⟨gs, 0, none⟩) 2 2) ∧ w10.cell? ⟨b1, o1 + k * 35 + 34, none⟩ = some (.float .f64 f) := ⟨hE10.cell 4, (hb10.cell (p := ⟨b1, o1 + k * 35 + 34, none⟩) hb1B).trans hs0.2⟩
            have hown9 : ¬ own (.slice A8 3 c8) ge := fun h => by
              have h2 : some gs = some ge := hown8 ge hgel h
              exact hne (Option.some.inj h2)
            have hrow9 := hrow8.set (b0 := ge) (.inr rfl) hown9 4 (.slice A8 3 c8)
            have hfz0 := hE10.frozen 4
            have hlz0 := hE10.lt
            have hcz0 := hs9.1
            have hb9w : Below B wr w10 := (HB9.out.trans (hdr9.mono (Nat.le_trans hge (Nat.le_of_lt hgel)))).trans hb10
            have HBW := Lib.hid (show Below B wr (w10.setCell ⟨ge, 4, none⟩ (.slice A8 3 c8)) from hb9w.setCell (p := ⟨ge, 4, none⟩) hge _)
            have HEW := Lib.hid (show Blk (w10.setCell ⟨ge, 4, none⟩ (.slice A8 3 c8)) ge 84 (cellsV 3 0 none 0 0 0 A8 3 c8) from hE10.set_ 4 _)
            have HROW := Lib.hid (show valR.R (w10.setCell ⟨ge, 4, none⟩ (.slice A8 3 c8)) (fun b => b < B) (cellsV 3 0 none 0 0 0 A8 3 c8).toList (lstV [txtV (sB s), txtV i, fltV f]) from valR_iff.2 ⟨none, 0, A8, c8, rfl, by decide, by omega, by omega, ⟨Nat.le_refl _, Nat.zero_le _, SlOf.nil⟩, hc8, hcm8, (hrow9.sl (fun b hb h => by
              have h : b < B ∨ b = ge := h
              rcases h with h | h
              · have := (hrow8.lt hb).1; omega
              · subst h; exact hown9 hb)).stable (Moves.less _ (fun b _ h => .inl h))⟩)
            have HS8 := Lib.hid hs8
            have HS9 := Lib.hid hs9
            have HKF := Lib.hid hKF
            have HFZ := Lib.hid (And.intro hfz0 (And.intro hlz0 hcz0))
            clear hrow8 hb10 hgr8 hc8 hcm8 hown8 hkf5 hvf hB9 hE10 hal hs8 hs9 hown9 hrow9 hb9w hKF hfz0 hlz0 hcz0 HTK HRX HK9 HEA9 HCF HF64 HE9 HB9 hcf9 hdr9
            go_upto_region 10 with fail
            refine wp_door (fun _ _ => False) 2 3 undef undef [] (fun _ _ _ _ _ _ hp => hp.elim) ?_
            refine wp_region_late (S := fun w => w.cell? ⟨ge, 4, none⟩ = some (.slice (some ⟨gs, 0, none⟩) 2 2) ∧ w.cell? ⟨b1, o1 + k * 35 + 34, none⟩ = some (.float .f64 f)) (s := 11) (by kernel_rfl) ?_
            refine late_pure (i := 0) (v := ?_) (a' := ?_) rfl (by kernel_rfl) (by kernel_rfl) (by kernel_rfl) (by rfl) (fun _ _ _ h => (show False from h.2.2.2).elim) (by rfl) (fun _ => hs0) ?_ ?_ ?_
            rotate_left 2
            · (intro w; go_simp; try with_reducible rfl)
            · (go_simp; try with_reducible rfl)
            refine late_load (i := 1) (m := 1) (v := ?_) (a' := ?_) rfl (by kernel_rfl) (by kernel_rfl) (by kernel_rfl) (by kernel_rfl) (by rfl) (fun _ _ _ h => (show False from h.2.2.2).elim) (by rfl) hs0 ?_ ?_ ?_
            rotate_left 2
            · (intro w hS; have t := hS.1; go_simp; try with_reducible rfl)
            · (go_simp; try with_reducible rfl)
            refine late_pure (i := 2) (v := ?_) (a' := ?_) rfl (by kernel_rfl) (by kernel_rfl) (by kernel_rfl) (by rfl) (fun _ _ _ h => (show False from h.2.2.2).elim) (by rfl) (fun _ => hs0) ?_ ?_ ?_
            rotate_left 2
            · (intro w; go_simp; try with_reducible rfl)
            · (go_simp; try with_reducible rfl)
            refine late_pure (i := 3) (v := ?_) (a' := ?_) rfl (by kernel_rfl) (by kernel_rfl) (by kernel_rfl) (by rfl) (fun _ _ _ h => (show False from h.2.2.2).elim) (by rfl) (fun _ => hs0) ?_ ?_ ?_
            rotate_left 2
            · (intro w; go_simp; try with_reducible rfl)
            · (go_simp; try with_reducible rfl)
            refine late_pure (i := 4) (v := ?_) (a' := ?_) rfl (by kernel_rfl) (by kernel_rfl) (by kernel_rfl) (by rfl) (fun _ _ _ h => (show False from h.2.2.2).elim) (by rfl) (fun _ => hs0) ?_ ?_ ?_
            rotate_left 2
            · (intro w; go_simp; try with_reducible rfl)
            · (go_simp; try with_reducible rfl)
            refine late_pure (i := 5) (v := ?_) (a' := ?_) rfl (by kernel_rfl) (by kernel_rfl) (by kernel_rfl) (by rfl) (fun _ _ _ h => (show False from h.2.2.2).elim) (by rfl) (fun _ => hs0) ?_ ?_ ?_
            rotate_left 2
            · (intro w; go_simp; try with_reducible rfl)
            · (go_simp; try with_reducible rfl)
            refine late_load (i := 6) (m := 6) (v := ?_) (a' := ?_) rfl (by kernel_rfl) (by kernel_rfl) (by kernel_rfl) (by kernel_rfl) (by rfl) (fun _ _ _ h => (show False from h.2.2.2).elim) (by rfl) hs0 ?_ ?_ ?_
            rotate_left 2
            · (intro w hS; have t := hS.2; go_simp; try with_reducible rfl)
            · (go_simp; try with_reducible rfl)
            refine late_pure (i := 7) (v := ?_) (a' := ?_) rfl (by kernel_rfl) (by kernel_rfl) (by kernel_rfl) (by rfl) (fun _ _ _ h => (show False from h.2.2.2).elim) (by rfl) (fun _ => hs0) ?_ ?_ ?_
            rotate_left 2
            · (intro w; go_simp; try with_reducible rfl)
            · (go_simp; try with_reducible rfl)
            refine late_one (i := 8) (by kernel_rfl) rfl (fun KR hKR => ?_)
            refine step_build (by rfl) (.tmp 47) (by rfl) (by rw [HKF.out]; rfl) hbs8 ?_
            refine hKR _ _ (fun _ => HS8.out) ?_
            clear hKR KR
            refine late_one (i := 9) (by kernel_rfl) rfl (fun KR hKR => ?_)
            refine step_run_append (by rfl) (.tmp 41) (.tmp 48) (by rfl) (by rfl) (by rfl) run8 ?_
            obtain ⟨hfz0, hlz0, hcz0⟩ := HFZ.out
            refine hKR _ _ (fun _ => HS9.out) ?_
            clear hKR KR
            refine late_pure (i := 10) (v := ?_) (a' := ?_) rfl (by kernel_rfl) (by kernel_rfl) (by kernel_rfl) (by rfl) (fun _ _ _ h => (show False from h.2.2.2).elim) (by rfl) (fun _ => HS9.out) ?_ ?_ ?_
            rotate_left 2
            · (intro w; go_simp; try with_reducible rfl)
            · (go_simp; try with_reducible rfl)
            refine late_one (i := 11) (by kernel_rfl) rfl (fun KR hKR => ?_)
            go_simp
            skip
            refine hKR _ _ (fun h0 => Bool.noConfusion (show (true : Bool) = false from h0)) ?_
            clear hKR KR
            refine late_done' (by kernel_rfl) ?_ _
            clear run8 hbs8 hfz0 hlz0 hcz0 hs0 hcd9
            refine door_normal ?_
            generalize w10.setCell ⟨ge, 4, none⟩ (.slice A8 3 c8) = w11 at *
            obtain ⟨KE, hKE⟩ : ∃ KE, KE = cellsV 3 0 none 0 0 0 A8 3 c8 := ⟨_, rfl⟩
            have hke5 : KE.size = 5 := by rw [hKE]; rfl
            have HVE := Lib.hid (show valR.R w11 (fun b => b < wr.heap.size) KE.toList (lstV [txtV (sB s), txtV i, fltV f]) by rw [hKE, HBB.out]; exact HROW.out)
            have HEE := Lib.hid (show Blk w11 ge 84 KE by rw [hKE]; exact HEW.out)
            have HIE := Lib.hid (show (Try.prog.info? 84).map (·.size) = some KE.size by rw [hKE]; exact cellsV_info _ _ _ _ _ _ _ _ _)
            have HBW2 := Lib.hid (show Below wr.heap.size wr w11 by rw [HBB.out]; exact HBW.out)
            obtain ⟨A9, c9, w7, run9, hVL, hgr, hblk, hb7⟩ := HV4.out.more HBW2.out HVE.out (by omega) 1
            rw [HTK2.out] at hVL
            have hbs := bsVal_of w11 KE hke5
            have hcl : w11.cell? ⟨gv, 4, none⟩ = some (.slice A' k c') := (HBW2.out.cell (p := ⟨gv, 4, none⟩) hgl).trans (HV4.out.blk.cell 4)
            have hcz : w7.cell? ⟨gv, 4, none⟩ = some (.slice A' k c') := hblk.cell 4
            have hfz := hblk.frozen 4
            have hlz := hblk.lt
            have HV9 := Lib.hid hVL
            have HB99 := Lib.hid (show Below gv w2 (w7.setCell ⟨gv, 4, none⟩ (.slice A9 (k + 1) c9)) from ((HB4.out.trans (HBW2.out.mono (Nat.le_of_lt hgl))).trans (hb7.mono (Nat.le_succ _))).setCell (p := ⟨gv, 4, none⟩) (Nat.le_refl _) _)
            rw [Array.toArray_toList] at run9
            clear hKE hke5 HVE HBW2 hVL hgr hblk hb7 HV4 HB4 HROW HEW HBW
            go_wp2_with (first
              | (refine wpList_load_row rfl 84 (.tmp 7) rfl ge rfl 84 KE (0, 0) _ HEE.out Try.underlying84 rfl HIE.out ?_)
              | (refine wpList_build1 rfl (.tmp 53) rfl (.agg KE) _ rfl hbs ?_)
              | (at_builtin; refine wpList_run_append run9 ?_ ?_ ?_; exact rfl; exact rfl)
              | fail)
            go_roundw
            case rel => exact ⟨k + 1, A9, c9, by omega, by go_num, HB99, HV9⟩
            case measure => simp [intOf]; omega
      · have hltI : ¬ (k : Int) < (n : Int) := by omega
        obtain rfl : k = n := by omega
        have htk : l.take k = l := List.take_of_length_le (by rw [HN.out]; exact Nat.le_refl _)
        have hv := HV4.out.val
        rw [htk] at hv
        obtain ⟨KV, hKV⟩ : ∃ KV, KV = cellsV 3 0 none 0 0 0 A' k c' := ⟨_, rfl⟩
        have hkv5 : KV.size = 5 := by rw [hKV]; rfl
        have HVB := Lib.hid (show Blk wr gv 84 KV by rw [hKV]; exact HV4.out.blk)
        have HI := Lib.hid (show (Try.prog.info? 84).map (·.size) = some KV.size by rw [hKV]; exact cellsV_info _ _ _ _ _ _ _ _ _)
        have hvv : valR.R wr no KV.toList (lstV (l.map entVr)) := by rw [hKV]; exact valR.stable hv (Moves.forget _ _)
        have hbs := bsVal_of wr KV hkv5
        have hsl : SlOf valR (wr.alloc (.cells KV 84)) no (some ⟨wr.heap.size, 0, none⟩) [lstV (l.map entVr)] := by
          have := sl_built (w := wr) (Each.one hvv)
          rwa [Array.toArray_toList] at this
        have HBK := Lib.hid (show bulkVs (l.map entVr) ≤ 1024 * 120 from Nat.le_trans (bulk_entsr l (fun x hx => ⟨HNM.out x hx, ents_32 HS2.out x hx⟩)) (Nat.mul_le_mul_right _ (by rw [HN.out]; omega)))
        have HSEAL := Lib.hid (refSeal_any 3 (some ⟨wr.heap.size, 0, none⟩) 1 1 [lstV (l.map entVr)] (wr.alloc (.cells KV 84)) (by omega) hsl rfl (by omega) (by
          simp only [bulkVs, bulkV, lstV, List.length_nil]
          have h1 := HBK.out
          omega))
        rw [← HRR.out] at HSEAL
        have hal : Below wr.heap.size wr (wr.alloc (.cells KV 84)) := (Below.refl _ _).alloc (Nat.le_refl _) _
        have HB6 := Lib.hid (show Below w.heap.size w (wr.alloc (.cells KV 84)) from HB2.out.trans ((HB4.out.trans (hal.mono (Nat.le_of_lt HV4.out.blk.lt))).mono (by rw [← HGV.out]; exact HB2.out.size)))
        clear hv htk hKV hkv5 hvv hsl HBK hal HB4 HV4
        go_wp2_with (first
          | (refine wpList_load_row rfl 84 (.tmp 5) rfl gv rfl 84 KV (0, 0) _ HVB.out Try.underlying84 rfl HI.out ?_)
          | (refine wpList_build1 rfl (.tmp 57) rfl (.agg KV) _ rfl hbs ?_)
          | fail)
        refine HSEAL.out.mono ?_
        intro e w7 hp
        have hp2 := hp.lower HB6.out
        obtain ⟨rfl, hb9⟩ := hp2.use
        have HP := Lib.hid hb9
        clear hp hp2 hb9 HSEAL hbs
        go_wp2_with fail
        go_ret2
        exact RefEnc.of rfl HP.out
  · have e1 : (D != 0) = true := by simp [hz]
    have HRR := Lib.hid (show R = .error D by rw [HR.out, if_pos hz])
    clear HR hz
    go_wp2_with fail
    go_ret2
    exact ⟨HB2.out, by rw [HRR.out]; rfl⟩
end Go.Proofs.Ytpafhajpnepecaa
