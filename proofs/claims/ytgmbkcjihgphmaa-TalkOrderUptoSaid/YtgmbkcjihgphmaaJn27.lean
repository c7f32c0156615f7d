/- Contracts and laws for what the statement reaches, joined: TalkAwake, ObjPutKit. -/
import Derived.Test.YtgmbkcjihgphmaaJn25
import Derived.Test.YtgmbkcjihgphmaaJn26
/- towlinelaw21.awake. -/
set_option linter.unusedVariables false
set_option linter.unusedSimpArgs false
namespace Go.Proofs.Ytgmbkcjihgphmaa
open Go.RowKit
attribute [local go_sem ↓] neqId_eq cvt_eq

theorem step_val {P : Program} {Q : Exit → Act → World → Prop} {o : Oper} {a : Act} {w w' : World} {K : Act → World → Prop} {E : Prop} {ops : Array Oper} (hw : Region.wanted o (yielded ops a.tmps) = true) {v : Value}
    (hr : (execOp a.eval o).run P w = .ok (.value v) w') (h : K (a.put o.dst v) w') : if Region.wanted o (yielded ops a.tmps) = true then Oper.wp P o a w K Q else E := by
  rw [if_pos hw]
  unfold Oper.wp
  rw [hr]
  exact h
theorem wpList_val_g {P : Program} {ops : Array Oper} {rest : List Oper} {o : Oper} {a : Act} {w w' : World} {Q : Exit → Act → World → Prop} (hw : Region.wanted o (yielded ops a.tmps) = true) {v : Value} (hr : (execOp a.eval o).run P w = .ok (.value v) w') (h : wpList P ops Q rest (a.put o.dst v) w') : wpList P ops Q (o :: rest) a w :=
  wpList_step fun _ hK => by
    rw [if_pos (by exact hw)]
    unfold Oper.wp
    rw [hr]
    exact hK _ _ h
theorem exec_b0 {P : Program} {o : Oper} {a : Act} {w : World} (t : TypeId) (ho : o.op = .build t #[]) (v : Value) (h : (Instr.build t #[]).run P w = .ok v w) : (execOp a.eval o).run P w = .ok (.value v) w := by
  unfold execOp
  simp only [ho, List.map_toArray, List.map_nil, Sem.run_bind, h, Result.andThen_ok, Sem.run_pure]
theorem exec_bs2 {P : Program} {o : Oper} {a : Act} {w w' : World} (t : TypeId) (x y : Operand) (ho : o.op = .buildSlice t 2 #[(0, x), (1, y)]) (vx vy v : Value) (hx : a.eval x = vx) (hy : a.eval y = vy) (h : (Instr.buildSlice t 2 #[(0, vx), (1, vy)]).run P w = .ok v w') : (execOp a.eval o).run P w = .ok (.value v) w' := by
  subst hx hy
  unfold execOp
  simp only [ho, List.map_toArray, List.map_cons, List.map_nil, Sem.run_bind, h, Result.andThen_ok, Sem.run_pure]
set_option maxRecDepth 100000 in
theorem zid_build (w : World) : (Instr.build 33 #[]).run Try.prog w = .ok (.agg zID) w := by kernel_rfl
theorem fill_ids : ∀ (Ks : List (Array Value)) (n : Nat) (cells : Array Value), (∀ K ∈ Ks, K.size = 32) → cells.size = (n + Ks.length) * 32 →
    Instr.fill (fun i => some (i * 32, 32)) cells ((Ks.zipIdx n).map fun p => (p.2, Value.agg p.1)) = some (cells.toList.take (n * 32) ++ Ks.flatMap (·.toList)).toArray
  | [], n, cells, h, hc => by
    have : cells.toList.take (n * 32) = cells.toList := List.take_of_length_le (by simp at hc ⊢; omega)
    simp [Instr.fill, this]
  | K :: r, n, cells, h, hc => by
    have hK : K.size = 32 := h K (by simp)
    simp only [List.length_cons] at hc
    have hK2 : (Value.agg K).cells = K := rfl
    rw [List.zipIdx_cons, List.map_cons]
    unfold Instr.fill
    simp only [hK2]
    have hc1 : (decide (K.size ≠ 32) || decide (n * 32 + K.size > cells.size)) = false := by
      have : ¬ (n * 32 + 32 > cells.size) := by omega
      simp [hK]; omega
    rw [if_neg (by rw [hc1]; decide), fill_step K cells (n * 32) (by omega)]
    rw [fill_ids r (n + 1) _ (fun K hk => h K (by simp [hk])) (by simp; omega)]
    congr 1
    have ht : (cells.toList.take (n * 32)).length = n * 32 := by rw [List.length_take, Array.length_toList]; omega
    rw [List.flatMap_cons, List.take_append_of_le_length (by rw [List.length_append, ht, Array.length_toList]; omega), List.take_of_length_le (by rw [List.length_append, ht, Array.length_toList]; omega), List.append_assoc]
theorem bsIds2 (w : World) (K L : Array Value) (hK : K.size = 32) (hL : L.size = 32) : (Instr.buildSlice 37 2 #[(0, .agg K), (1, .agg L)]).run Try.prog w = .ok (.slice (some ⟨w.heap.size, 0, none⟩) 2 2) (w.alloc (.cells (K.toList ++ L.toList).toArray 33)) := by
  have hf := fun (cells : Array Value) (hc : cells.size = 2 * 32) => fill_ids [K, L] 0 cells (fun M hM => by
    simp only [List.mem_cons, List.not_mem_nil, or_false] at hM
    rcases hM with rfl | rfl <;> assumption) (by rw [hc]; rfl)
  unfold Instr.buildSlice
  simp only [run_underlying Try.underlying37, Sem.run_bind, id_sizeOf, id_zero, Value.cells, Result.andThen_ok, Sem.run_pure, if_neg (show ¬ (2 * 32 > 2 ^ 24) by decide), if_neg (show ¬ (2 * 32 = 0) by decide)]
  have h2 : ([K, L].zipIdx 0).map (fun p => (p.2, Value.agg p.1)) = [(0, .agg K), (1, .agg L)] := rfl
  rw [h2] at hf
  rw [hf _ (by simp [bytesV])]
  simp [newRow, Sem.run_bind]
theorem lack_law {T : TypeId} {V : Value} {K : Nat} {S : SrcT} {nv g mb : Nat} {root : List UInt8} (W0 : World) (hS : SrcK W0 T V K S) (hf : FinS S nv) (J : Nat) (hJ : nv + J ≤ 200000) : LackLaw W0 g T V root mb (fun ad => lackL (srcF S ad) root) J :=
  ⟨fun w m ad hb hft hl => lack_any W0 w hS hb hft hf (by omega), fun ad hl => by
    have := (srcF_fin hf ad).lack_len (root := root)
    have h2 : (nv + ad.length) * 4096 ≤ 200000 * 4096 := Nat.mul_le_mul_right _ (by omega)
    omega⟩

theorem take_awake {T : TypeId} {V : Value} {g mb c2 : Nat} {m : IM} {A2 : Option Addr} {w4 w8 : World} (hL : LackLaw w4 g T V rtA mb (fun ad => lackL (srcF (getB []) ad) rtA) 10) (hB : Below w4.heap.size w4 w8) (h : FT w8 w4.heap.size g T V rtA mb m []) (hs : Sl w8 1 A2 6 (bytesV chA)) (hc : 6 ≤ c2 ∧ c2 ≤ maxLen) :
    Calls Try.prog 16 #[.pointer (some ⟨g, 0, none⟩), .slice (some ⟨w8.heap.size + 1, 0, none⟩) 3 3] ((w8.alloc (.cells #[.int .u8 110, .int .u8 111] 5 (2, 3))).alloc (.cells #[.slice (some ⟨w8.heap.size, 0, none⟩) 2 2, .slice A2 6 c2, .slice A2 6 c2] 28))
      fun e w' => e = .returned (.int .i64 1) ∧ ∃ m', FT w' w4.heap.size g T V rtA mb m' adA ∧ Below w4.heap.size w4 w' := by
  obtain ⟨w10, hw10⟩ : ∃ w10, w10 = w8.alloc (.cells #[.int .u8 110, .int .u8 111] 5 (2, 3)) := ⟨_, rfl⟩
  have hs10 : w10.heap.size = w8.heap.size + 1 := by rw [hw10]; simp
  have hb10 : Below w8.heap.size w8 w10 := by rw [hw10]; exact (Below.refl _ _).alloc (Nat.le_refl _) _
  have hno : Sl w10 1 (some ⟨w8.heap.size, 0, none⟩) 2 (bytesV [110, 111]) := by rw [hw10]; exact Sl.fresh w8 #[.int .u8 110, .int .u8 111] 5 (2, 3) 2 1 rfl
  rw [← hw10, ← hs10]
  have hf : Sl (w10.alloc (.cells #[.slice (some ⟨w8.heap.size, 0, none⟩) 2 2, .slice A2 6 c2, .slice A2 6 c2] 28)) 1 (some ⟨w10.heap.size, 0, none⟩) 3 [.slice (some ⟨w8.heap.size, 0, none⟩) 2 2, .slice A2 6 c2, .slice A2 6 c2] := Sl.fresh w10 #[.slice (some ⟨w8.heap.size, 0, none⟩) 2 2, .slice A2 6 c2, .slice A2 6 c2] 28 (0, 0) 3 1 rfl
  have hb11 : Below w10.heap.size w10 (w10.alloc (.cells #[.slice (some ⟨w8.heap.size, 0, none⟩) 2 2, .slice A2 6 c2, .slice A2 6 c2] 28)) := (Below.refl _ _).alloc (Nat.le_refl _) _
  generalize w10.alloc (.cells #[.slice (some ⟨w8.heap.size, 0, none⟩) 2 2, .slice A2 6 c2, .slice A2 6 c2] 28) = w11 at *
  have hb8 : Below w8.heap.size w8 w11 := hb10.trans (hb11.mono hb10.size)
  have hft := h.go hb8
  have hno2 : SlOf byteR w11 (fun b => b = mb) (some ⟨w8.heap.size, 0, none⟩) [110, 111] := apart_map ⟨_, hno.below hb11, bytes_each _ _ _, fun _ _ _ _ q => q⟩ hft.map
  have hch2 : SlOf byteR w11 (fun b => b = mb) A2 chA := apart_map ⟨_, hs.below hb8, bytes_each _ _ _, fun _ _ _ _ q => q⟩ hft.map
  have hmb := h.map.lt
  have hsl : SlOf byR w11 (fun b => b = mb) (some ⟨w10.heap.size, 0, none⟩) [[110, 111], chA, chA] :=
    ⟨_, hf, .cons (cs := [.slice (some ⟨w8.heap.size, 0, none⟩) 2 2]) ⟨_, 2, rfl, Nat.le_refl _, by simp [maxLen], hno2⟩ (.cons (cs := [.slice A2 6 c2]) ⟨_, c2, rfl, hc.1, hc.2, hch2⟩ (.cons (cs := [.slice A2 6 c2]) ⟨_, c2, rfl, hc.1, hc.2, hch2⟩ .nil)), fun _ b off e => by
      have e := Option.some.inj e
      injection e with e
      omega⟩
  have hbw := hB.trans (hb8.mono hB.size)
  have ht := takes_any (J := 10) w4 w11 hL hbw hft _ 3 3 [[110, 111], chA, chA] hsl rfl (by omega) (fun b hb => by
    simp at hb
    rcases hb with rfl | rfl <;> simp [chA]) (by simp)
  rw [show takeF (fun ad => lackL (srcF (getB []) ad) rtA) [[110, 111], chA, chA] [] 0 = (adA, 1) from takeA] at ht
  refine ht.mono ?_
  rintro e w' ⟨m', rfl, h1, h2⟩
  exact ⟨rfl, m', h1, hbw.grown h2 hbw.size (fun k e => by have := Option.some.inj e; have := h.basem; omega)⟩

theorem serve_awake {T : TypeId} {V : Value} {K g mb : Nat} {m : IM} {w4 w16 : World} {KX : Array Value} (hS : SrcK w4 T V K (getB [])) (hB : Below w4.heap.size w4 w16) (h : FT w16 w4.heap.size g T V rtA mb m adA) (hKX : KX = (bytesV rtA).toArray) :
    Calls Try.prog 11 #[.iface 49 (.pointer (some ⟨g, 0, none⟩)), .slice (some ⟨w16.heap.size, 0, none⟩) 2 2] (w16.alloc (.cells (KX.toList ++ zID.toList).toArray 33))
      fun e w' => Below w16.heap.size w16 w' ∧ True ∧ ∃ A c, e = .returned (.slice A 1 c) := by
  have hba : Below w16.heap.size w16 (w16.alloc (.cells (KX.toList ++ zID.toList).toArray 33)) := (Below.refl _ _).alloc (Nat.le_refl _) _
  have hsl : SlOf oidR (w16.alloc (.cells (KX.toList ++ zID.toList).toArray 33)) no (some ⟨w16.heap.size, 0, none⟩) [rtA, List.replicate 32 0] := by
    refine ⟨KX.toList ++ zID.toList, ?_, ?_, fun _ _ _ _ h => h⟩
    · exact Sl.fresh w16 (KX.toList ++ zID.toList).toArray 33 (0, 0) 2 32 (by rw [hKX]; simp [bytesV_length, shaG_len32])
    · rw [hKX]
      exact Each.cons (oid_of _ _ (shaG_len32 chA)) (Each.one (oid_of _ _ rfl))
  have hs := serve_any 49 (.pointer (some ⟨g, 0, none⟩)) _ (srcF (getB []) adA) _ 2 2 [rtA, List.replicate 32 0] _ (fetch_src w4 _ hS (hB.trans (hba.mono hB.size)) (h.go hba)) hsl rfl (by omega) (Nat.le_refl _) (by simp [maxLen])
  rw [show serveF (srcF (getB []) adA) (([rtA, List.replicate 32 0] : List (List UInt8)).take 16) 0 [] = [chA] from serveA] at hs
  refine hs.mono ?_
  rintro e w' ⟨hb, A, m', c, rfl, hr⟩
  obtain rfl : m' = 1 := hr.len
  exact ⟨hba.trans (hb.mono hba.size), trivial, A, c, rfl⟩

set_option maxRecDepth 100000 in
set_option maxHeartbeats 16000000 in
theorem awake_talk (W0 : World) : Calls Try.prog 6 #[] W0 fun e w' => e = .returned (.bool true) ∧ Below W0.heap.size W0 w' := by
  have kc := fun (w : World) (C : Array Value) (n c : Nat) => Lib.run_convert_bytes_const (P := Try.prog) w 28 5 C n c Try.underlying28 Try.underlying5
  obtain ⟨w1, hw1⟩ : ∃ w1, w1 = W0.alloc (.cells #[.int .u8 97, .int .u8 98, .int .u8 99] 5 (3, 4)) := ⟨_, rfl⟩
  have HB1 := Lib.hid (show Below W0.heap.size W0 w1 by rw [hw1]; exact (Below.refl _ _).alloc (Nat.le_refl _) _)
  have hs1 : Sl w1 1 (some ⟨W0.heap.size, 0, none⟩) 3 (bytesV [97, 98, 99]) := by rw [hw1]; exact Sl.fresh W0 #[.int .u8 97, .int .u8 98, .int .u8 99] 5 (3, 4) 3 1 rfl
  have HPC := Lib.hid (putChunk_any _ 3 3 [97, 98, 99] w1 hs1 (Nat.le_refl _) (by simp [maxLen]))
  rw [chA_put] at HPC
  have HW1 := Lib.hid hw1
  clear hw1 hs1
  go_enter Try.func6, Try.ntmps6
  go_wp2_with fail
  rw [← HW1.out]
  refine HPC.out.mono ?_
  rintro e w2 ⟨hb2, A2, m2, c2, rfl, hm2, hown2⟩
  obtain rfl : m2 = 6 := hm2
  obtain ⟨hc6, hcm⟩ := own_cap hown2
  have HB2 := Lib.hid (HB1.out.trans (hb2.mono HB1.out.size))
  have hsl2 : Sl w2 1 A2 6 (bytesV chA) := Sl.ofOwn hown2
  have HC2 := Lib.hid (And.intro hc6 hcm)
  have hba : Below w2.heap.size w2 (w2.alloc (.cells #[.slice A2 6 c2] 28)) := (Below.refl _ _).alloc (Nat.le_refl _) _
  have HSU := Lib.hid (show Calls Try.prog 9 #[.slice (some ⟨w2.heap.size, 0, none⟩) 1 1] (w2.alloc (.cells #[.slice A2 6 c2] 28)) fun e w' => e = .returned (.agg (bytesV rtA).toArray) ∧ Below (w2.alloc (.cells #[.slice A2 6 c2] 28)).heap.size (w2.alloc (.cells #[.slice A2 6 c2] 28)) w' from
    sum_any (some ⟨w2.heap.size, 0, none⟩) 1 1 [.slice A2 6 c2] [chA] _ (by have := Sl.one w2 (.slice A2 6 c2) 28; simpa using this) ((AllB.nil _).snoc (SlB.of (hsl2.below hba) hc6 hcm)) (by omega) (by simp [chA]))
  have h32 : rtA.length = 32 := shaG_len32 chA
  obtain ⟨RA, hRA⟩ : ∃ RA, RA = rtA := ⟨_, rfl⟩
  obtain ⟨KX, hKX⟩ : ∃ KX, KX = (bytesV rtA).toArray := ⟨_, rfl⟩
  have HI := Lib.hid (show (Try.prog.info? 33).map (·.size) = some KX.size by rw [hKX]; exact oid_size h32)
  have hks : KX.size = 32 := by rw [hKX]; simp [bytesV, h32]
  have HZZ := Lib.hid (show zID.size = KX.size by rw [hks]; rfl)
  have HO := Lib.hid (show KX.all (·.oneCell') = true by rw [hKX]; exact oid_one _)
  have HKX := Lib.hid hKX
  have HKS := Lib.hid hks
  rw [← hKX] at HSU
  have HBA := Lib.hid hba
  have HSL2 := Lib.hid hsl2
  have HLE2 := Lib.hid hb2.size
  clear hb2 hown2 hsl2 hba HPC HW1 hc6 hcm kc hKX hRA hks
  go_wp2_with fail
  refine HSU.out.mono ?_
  rintro e w3 ⟨rfl, hb3⟩
  have HB3 := Lib.hid (HBA.out.trans (hb3.mono HBA.out.size))
  have HNB := Lib.hid (Blk.new w3 33 zID)
  clear hb3 HSU HBA
  go_upto_region 3 with (first | (refine wpList_store_row rfl _ _ _ rfl w3.heap.size KX rfl rfl 33 _ HNB.out HI.out HZZ.out HO.out ?_) | fail)
  rw [World.setRow_alloc_new]
  go_frame
  change Code.wp _ _ _ _ (w3.alloc (.cells KX 33))
  have HK4 := Lib.hid (Blk.new w3 33 KX)
  have HB4 := Lib.hid (show Below w2.heap.size w2 (w3.alloc (.cells KX 33)) from HB3.out.alloc HB3.out.size _)
  generalize hg3 : w3.heap.size = g3 at *
  generalize w3.alloc (.cells KX 33) = w4 at *
  clear HNB hg3 HZZ HO HB3
  have HBB4 := Lib.hid (HB2.out.trans (HB4.out.mono HB2.out.size))
  have HSL4 := Lib.hid (HSL2.out.below HB4.out)
  have HSR := Lib.hid (shelf_src w4 none 0 0 [] SlOf.nil rfl (by omega) (fun r hr => nomatch hr))
  have HNE := Lib.hid (new_any 42 (.agg #[.slice none 0 0]) rtA w4 h32)
  rw [show idV rtA = .agg KX by rw [HKX.out]] at HNE
  clear HSL2 HB4
  go_wp2_with (first | (refine wpList_load_at rfl _ _ rfl g3 0 rfl KX _ (At.of_row HK4.out) Try.underlying33 rfl HI.out ?_) | fail)
  refine HNE.out.mono ?_
  rintro e w5 ⟨hb5, g, mb, rfl, hft⟩
  have HF5 := Lib.hid hft
  have HB5 := Lib.hid hb5
  clear hb5 hft HNE
  go_upto_region 4 with fail
  obtain ⟨wd, hwd⟩ : ∃ wd, wd = w5.drew := ⟨_, rfl⟩
  have hbd : Below w5.heap.size w5 wd := by rw [hwd]; exact Same.below ⟨1, rfl⟩ _
  have HWD := Lib.hid hwd
  have HFD := Lib.hid (HF5.out.go hbd)
  have HBD := Lib.hid (HB5.out.trans (hbd.mono HB5.out.size))
  have HL := Lib.hid (lack_law (g := g) (mb := mb) (root := rtA) w4 HSR.out (getB_fin []) 10 (by simp))
  have HDO := Lib.hid (fun w m (hb : Below w4.heap.size w4 w) (hft : FT w w4.heap.size g 42 (.agg #[.slice none 0 0]) rtA mb m []) => show Calls Try.prog 19 #[.pointer (some ⟨g, 0, none⟩)] w fun e w' => e = .returned (.bool false) ∧ Below w.heap.size w w' by
    have := done_any w g _ (HL.out.run w m [] hb hft (by simp))
    rw [show lackL (srcF (getB []) []) rtA = [rtA] from lackA0] at this
    exact this)
  have HDO2 := Lib.hid (fun w m (hb : Below w4.heap.size w4 w) (hft : FT w w4.heap.size g 42 (.agg #[.slice none 0 0]) rtA mb m adA) => show Calls Try.prog 19 #[.pointer (some ⟨g, 0, none⟩)] w fun e w' => e = .returned (.bool true) ∧ Below w.heap.size w w' by
    have := done_any w g _ (HL.out.run w m adA hb hft (by simp))
    rw [show lackL (srcF (getB []) adA) rtA = [] from lackA1] at this
    exact this)
  have HWA := Lib.hid (fun w m (hb : Below w4.heap.size w4 w) (hft : FT w w4.heap.size g 42 (.agg #[.slice none 0 0]) rtA mb m []) => show Calls Try.prog 17 #[.pointer (some ⟨g, 0, none⟩)] w fun e w' => Below w.heap.size w w' ∧ ∃ b off c, e = .returned (.slice (some ⟨b, off, none⟩) 1 c) ∧ At w' ⟨b, off, none⟩ KX by
    have := want_any w g _ (HL.out.run w m [] hb hft (by simp))
    rw [show lackL (srcF (getB []) []) rtA = [rtA] from lackA0] at this
    refine this.mono ?_
    rintro e w' ⟨h1, A, m', c, rfl, hm', _, _, hsl⟩
    obtain rfl : m' = 1 := hm'
    obtain ⟨b, off, o, rfl, _, ho, _, hat⟩ := oids_look hsl rfl (i := 0) (by simp)
    have ho : o = rtA := by simpa using ho.symm
    subst ho
    exact ⟨h1, b, off, c, rfl, by rw [HKX.out]; simpa using hat⟩)
  have he := fun w => neqId_of h32 h32 w
  rw [← HKX.out] at he
  simp only [beq_self_eq_true, Bool.not_true] at he
  have hg3 := HK4.out.lt
  have HL3 := Lib.hid hg3
  clear hwd hbd HB5 HF5
  refine wp_region_held (S := fun w' => Below w4.heap.size w4 w') (by kernel_rfl) ?_
  change wpAnyH _ _ _ _ _ _ _ _ (World.drew _)
  rw [← HWD.out]
  refine held_take (i := 0) (v := ?_) (a' := ?_) rfl (by kernel_rfl) (by kernel_rfl) (by kernel_rfl) (fun _ _ _ h => h) (by rfl) HBD.out ?_ ?_ ?_
  rotate_left 2
  · (intro w hS; go_simp; try with_reducible rfl)
  · (go_simp; try with_reducible rfl)
  refine held_take (i := 1) (v := ?_) (a' := ?_) rfl (by kernel_rfl) (by kernel_rfl) (by kernel_rfl) (fun _ _ _ h => h) (by rfl) HBD.out ?_ ?_ ?_
  rotate_left 2
  · (intro w hS; go_simp; try with_reducible rfl)
  · (go_simp; try with_reducible rfl)
  refine held_take (i := 2) (v := ?_) (a' := ?_) rfl (by kernel_rfl) (by kernel_rfl) (by kernel_rfl) (fun _ _ _ h => h) (by rfl) HBD.out ?_ ?_ ?_
  rotate_left 2
  · (intro w hS; go_simp; try with_reducible rfl)
  · (go_simp; try with_reducible rfl)
  refine held_take (i := 3) (v := ?_) (a' := ?_) rfl (by kernel_rfl) (by kernel_rfl) (by kernel_rfl) (fun _ _ _ h => h) (by rfl) HBD.out ?_ ?_ ?_
  rotate_left 2
  · (intro w hS; go_simp; try with_reducible rfl)
  · (go_simp; try with_reducible rfl)
  refine held_ready (rs := [4]) (by kernel_rfl) (by simp) ?_
  refine AllHeld.cons rfl (fun KR hKR => ?_) ?_
  · go_simp
    refine (HDO.out wd _ HBD.out HFD.out).mono ?_
    rintro e w6 ⟨rfl, hb6⟩
    have hc4 := HBD.out.trans (hb6.mono HBD.out.size)
    have HF6 := Lib.hid (HFD.out.go hb6)
    clear hb6
    refine hKR _ _ hc4 ?_
    clear hKR KR
    refine held_take (i := 5) (v := ?_) (a' := ?_) rfl (by kernel_rfl) (by kernel_rfl) (by kernel_rfl) (fun _ _ _ h => h) (by rfl) hc4 ?_ ?_ ?_
    rotate_left 2
    · (intro w hS; go_simp; try with_reducible rfl)
    · (go_simp; try with_reducible rfl)
    refine held_take (i := 6) (v := ?_) (a' := ?_) rfl (by kernel_rfl) (by kernel_rfl) (by kernel_rfl) (fun _ _ _ h => h) (by rfl) hc4 ?_ ?_ ?_
    rotate_left 2
    · (intro w hS; go_simp; try with_reducible rfl)
    · (go_simp; try with_reducible rfl)
    refine held_take (i := 7) (v := ?_) (a' := ?_) rfl (by kernel_rfl) (by kernel_rfl) (by kernel_rfl) (fun _ _ _ h => h) (by rfl) hc4 ?_ ?_ ?_
    rotate_left 2
    · (intro w hS; go_simp; try with_reducible rfl)
    · (go_simp; try with_reducible rfl)
    refine held_ready (rs := [8]) (by kernel_rfl) (by simp) ?_
    refine AllHeld.cons rfl (fun KR hKR => ?_) ?_
    · go_simp
      refine (HWA.out w6 _ hc4 HF6.out).mono ?_
      rintro e w7 ⟨hb7, b7, o7, c7, rfl, _⟩
      have hc8 := hc4.trans (hb7.mono hc4.size)
      have HF7 := Lib.hid (HF6.out.go hb7)
      clear hb7
      refine hKR _ _ hc8 ?_
      clear hKR KR
      refine held_take (i := 9) (v := ?_) (a' := ?_) rfl (by kernel_rfl) (by kernel_rfl) (by kernel_rfl) (fun _ _ _ h => h) (by rfl) hc8 ?_ ?_ ?_
      rotate_left 2
      · (intro w hS; go_simp; try with_reducible rfl)
      · (go_simp; try with_reducible rfl)
      refine held_take (i := 10) (v := ?_) (a' := ?_) rfl (by kernel_rfl) (by kernel_rfl) (by kernel_rfl) (fun _ _ _ h => h) (by rfl) hc8 ?_ ?_ ?_
      rotate_left 2
      · (intro w hS; go_simp; try with_reducible rfl)
      · (go_simp; try with_reducible rfl)
      refine held_take (i := 11) (v := ?_) (a' := ?_) rfl (by kernel_rfl) (by kernel_rfl) (by kernel_rfl) (fun _ _ _ h => h) (by rfl) hc8 ?_ ?_ ?_
      rotate_left 2
      · (intro w hS; go_simp; try with_reducible rfl)
      · (go_simp; try with_reducible rfl)
      refine held_take (i := 12) (v := ?_) (a' := ?_) rfl (by kernel_rfl) (by kernel_rfl) (by kernel_rfl) (fun _ _ _ h => h) (by rfl) hc8 ?_ ?_ ?_
      rotate_left 2
      · (intro w hS; go_simp; try with_reducible rfl)
      · (go_simp; try with_reducible rfl)
      refine held_take (i := 13) (v := ?_) (a' := ?_) rfl (by kernel_rfl) (by kernel_rfl) (by kernel_rfl) (fun _ _ _ h => h) (by rfl) hc8 ?_ ?_ ?_
      rotate_left 2
      · (intro w hS; go_simp; try with_reducible rfl)
      · (go_simp; try with_reducible rfl)
      refine held_take (i := 17) (v := ?_) (a' := ?_) rfl (by kernel_rfl) (by kernel_rfl) (by kernel_rfl) (fun _ _ _ h => h) (by rfl) hc8 ?_ ?_ ?_
      rotate_left 2
      · (intro w hS; refine exec_load_at 33 (.tmp 3) ?_ g3 0 ?_ KX _ (At.of_row (HK4.out.below hS hg3)) Try.underlying33 rfl HI.out; exact rfl; exact rfl)
      · (go_simp; try with_reducible rfl)
      refine held_ready (rs := [14]) (by kernel_rfl) (by simp) ?_
      refine AllHeld.cons rfl (fun KR hKR => ?_) ?_
      · go_simp
        refine (HWA.out w7 _ hc8 HF7.out).mono ?_
        rintro e w8 ⟨hb8, b8, o8, c8, rfl, hat8⟩
        have hc14 := hc8.trans (hb8.mono hc8.size)
        have HF8 := Lib.hid (HF7.out.go hb8)
        have HAT8 := Lib.hid hat8
        have kc := Lib.run_convert_bytes_const (P := Try.prog) w8 28 5 #[.int .u8 110, .int .u8 111] 2 2 Try.underlying28 Try.underlying5
        have HTK := Lib.hid (take_awake HL.out hc14 HF8.out (HSL4.out.below hc14) HC2.out)
        clear hb8 hat8
        refine hKR _ _ hc14 ?_
        clear hKR KR
        refine held_take (i := 15) (v := ?_) (a' := ?_) rfl (by kernel_rfl) (by kernel_rfl) (by kernel_rfl) (fun _ _ _ h => h) (by rfl) hc14 ?_ ?_ ?_
        rotate_left 2
        · (intro w hS; go_simp; try with_reducible rfl)
        · (go_simp; try with_reducible rfl)
        refine held_ready (rs := [16]) (by kernel_rfl) (by simp) ?_
        refine AllHeld.cons rfl (fun KR hKR => ?_) ?_
        · refine step_val (by rfl) (exec_load_at 33 (.tmp 35) rfl b8 o8 rfl KX _ HAT8.out Try.underlying33 rfl HI.out) ?_
          refine hKR _ _ hc14 ?_
          clear hKR KR
          refine held_take (i := 18) (v := ?_) (a' := ?_) rfl (by kernel_rfl) (by kernel_rfl) (by kernel_rfl) (fun _ _ _ h => h) (by rfl) hc14 ?_ ?_ ?_
          rotate_left 2
          · (intro w hS; go_simp; try with_reducible rfl)
          · (go_simp; try with_reducible rfl)
          refine held_take (i := 19) (v := ?_) (a' := ?_) rfl (by kernel_rfl) (by kernel_rfl) (by kernel_rfl) (fun _ _ _ h => h) (by rfl) hc14 ?_ ?_ ?_
          rotate_left 2
          · (intro w hS; go_simp; try with_reducible rfl)
          · (go_simp; try with_reducible rfl)
          refine held_take (i := 20) (v := ?_) (a' := ?_) rfl (by kernel_rfl) (by kernel_rfl) (by kernel_rfl) (fun _ _ _ h => h) (by rfl) hc14 ?_ ?_ ?_
          rotate_left 2
          · (intro w hS; go_simp; try with_reducible rfl)
          · (go_simp; try with_reducible rfl)
          refine held_take (i := 21) (v := ?_) (a' := ?_) rfl (by kernel_rfl) (by kernel_rfl) (by kernel_rfl) (fun _ _ _ h => h) (by rfl) hc14 ?_ ?_ ?_
          rotate_left 2
          · (intro w hS; go_simp; try with_reducible rfl)
          · (go_simp; try with_reducible rfl)
          refine held_take (i := 24) (v := ?_) (a' := ?_) rfl (by kernel_rfl) (by kernel_rfl) (by kernel_rfl) (fun _ _ _ h => h) (by rfl) hc14 ?_ ?_ ?_
          rotate_left 2
          · (intro w hS; go_simp; try with_reducible rfl)
          · (go_simp; try with_reducible rfl)
          refine held_take (i := 25) (v := ?_) (a' := ?_) rfl (by kernel_rfl) (by kernel_rfl) (by kernel_rfl) (fun _ _ _ h => h) (by rfl) hc14 ?_ ?_ ?_
          rotate_left 2
          · (intro w hS; go_simp; try with_reducible rfl)
          · (go_simp; try with_reducible rfl)
          refine held_ready (rs := [22]) (by kernel_rfl) (by simp) ?_
          refine AllHeld.cons rfl (fun KR hKR => ?_) ?_
          · go_simp
            skip
            refine hKR _ _ (hc14.alloc hc14.size _) ?_
            clear hKR KR
            refine held_ready (rs := [23]) (by kernel_rfl) (by simp) ?_
            refine AllHeld.cons rfl (fun KR hKR => ?_) ?_
            · go_simp
              skip
              refine hKR _ _ (hc14.alloc hc14.size _) ?_
              clear hKR KR
              refine held_ready (rs := [26]) (by kernel_rfl) (by simp) ?_
              refine AllHeld.cons rfl (fun KR hKR => ?_) ?_
              · go_simp
                have hc26 := (hc14.alloc hc14.size (.cells #[.int .u8 110, .int .u8 111] 5 (2, 3))).alloc (by have := hc14.size; simp; omega) (.cells #[.slice (some ⟨w8.heap.size, 0, none⟩) 2 2, .slice A2 6 c2, .slice A2 6 c2] 28)
                refine hKR _ _ hc26 ?_
                clear hKR KR
                refine held_ready (rs := [27]) (by kernel_rfl) (by simp) ?_
                refine AllHeld.cons rfl (fun KR hKR => ?_) ?_
                · go_simp
                  refine HTK.out.mono ?_
                  rintro e w12 ⟨rfl, m12, hft12, hc27⟩
                  have HF12 := Lib.hid hft12
                  clear hft12 HTK kc
                  refine hKR _ _ hc27 ?_
                  clear hKR KR
                  refine held_take (i := 28) (v := ?_) (a' := ?_) rfl (by kernel_rfl) (by kernel_rfl) (by kernel_rfl) (fun _ _ _ h => h) (by rfl) hc27 ?_ ?_ ?_
                  rotate_left 2
                  · (intro w hS; go_simp; try with_reducible rfl)
                  · (go_simp; try with_reducible rfl)
                  refine held_take (i := 29) (v := ?_) (a' := ?_) rfl (by kernel_rfl) (by kernel_rfl) (by kernel_rfl) (fun _ _ _ h => h) (by rfl) hc27 ?_ ?_ ?_
                  rotate_left 2
                  · (intro w hS; go_simp; try with_reducible rfl)
                  · (go_simp; try with_reducible rfl)
                  refine held_take (i := 30) (v := ?_) (a' := ?_) rfl (by kernel_rfl) (by kernel_rfl) (by kernel_rfl) (fun _ _ _ h => h) (by rfl) hc27 ?_ ?_ ?_
                  rotate_left 2
                  · (intro w hS; go_simp; try with_reducible rfl)
                  · (go_simp; try with_reducible rfl)
                  refine held_take (i := 31) (v := ?_) (a' := ?_) rfl (by kernel_rfl) (by kernel_rfl) (by kernel_rfl) (fun _ _ _ h => h) (by rfl) hc27 ?_ ?_ ?_
                  rotate_left 2
                  · (intro w hS; go_simp; try with_reducible rfl)
                  · (go_simp; try with_reducible rfl)
                  refine held_ready (rs := [32]) (by kernel_rfl) (by simp) ?_
                  refine AllHeld.cons rfl (fun KR hKR => ?_) ?_
                  · go_simp
                    refine (HDO2.out w12 _ hc27 HF12.out).mono ?_
                    rintro e w13 ⟨rfl, hb13⟩
                    have hc32 := hc27.trans (hb13.mono hc27.size)
                    have HF13 := Lib.hid (HF12.out.go hb13)
                    have HRO := Lib.hid (root_any w13 HF13.out)
                    rw [show idV rtA = .agg KX by rw [HKX.out]] at HRO
                    clear hb13
                    refine hKR _ _ hc32 ?_
                    clear hKR KR
                    refine held_take (i := 33) (v := ?_) (a' := ?_) rfl (by kernel_rfl) (by kernel_rfl) (by kernel_rfl) (fun _ _ _ h => h) (by rfl) hc32 ?_ ?_ ?_
                    rotate_left 2
                    · (intro w hS; go_simp; try with_reducible rfl)
                    · (go_simp; try with_reducible rfl)
                    refine held_take (i := 34) (v := ?_) (a' := ?_) rfl (by kernel_rfl) (by kernel_rfl) (by kernel_rfl) (fun _ _ _ h => h) (by rfl) hc32 ?_ ?_ ?_
                    rotate_left 2
                    · (intro w hS; go_simp; try with_reducible rfl)
                    · (go_simp; try with_reducible rfl)
                    refine held_take (i := 35) (v := ?_) (a' := ?_) rfl (by kernel_rfl) (by kernel_rfl) (by kernel_rfl) (fun _ _ _ h => h) (by rfl) hc32 ?_ ?_ ?_
                    rotate_left 2
                    · (intro w hS; go_simp; try with_reducible rfl)
                    · (go_simp; try with_reducible rfl)
                    refine held_take (i := 36) (v := ?_) (a' := ?_) rfl (by kernel_rfl) (by kernel_rfl) (by kernel_rfl) (fun _ _ _ h => h) (by rfl) hc32 ?_ ?_ ?_
                    rotate_left 2
                    · (intro w hS; go_simp; try with_reducible rfl)
                    · (go_simp; try with_reducible rfl)
                    refine held_take (i := 38) (v := ?_) (a' := ?_) rfl (by kernel_rfl) (by kernel_rfl) (by kernel_rfl) (fun _ _ _ h => h) (by rfl) hc32 ?_ ?_ ?_
                    rotate_left 2
                    · (intro w hS; refine exec_load_at 33 (.tmp 3) ?_ g3 0 ?_ KX _ (At.of_row (HK4.out.below hS hg3)) Try.underlying33 rfl HI.out; exact rfl; exact rfl)
                    · (go_simp; try with_reducible rfl)
                    refine held_ready (rs := [37]) (by kernel_rfl) (by simp) ?_
                    refine AllHeld.cons rfl (fun KR hKR => ?_) ?_
                    · go_simp
                      refine HRO.out.mono ?_
                      rintro e w14 ⟨rfl, hb14⟩
                      have hc37 := hc32.trans (hb14.mono hc32.size)
                      have HF14 := Lib.hid (HF13.out.go hb14)
                      clear hb14
                      refine hKR _ _ hc37 ?_
                      clear hKR KR
                      refine held_take (i := 39) (v := ?_) (a' := ?_) rfl (by kernel_rfl) (by kernel_rfl) (by kernel_rfl) (fun _ _ _ h => h) (by rfl) hc37 ?_ ?_ ?_
                      rotate_left 2
                      · (intro w hS; go_simp; try with_reducible rfl)
                      · (go_simp; try with_reducible rfl)
                      refine held_take (i := 40) (v := ?_) (a' := ?_) rfl (by kernel_rfl) (by kernel_rfl) (by kernel_rfl) (fun _ _ _ h => h) (by rfl) hc37 ?_ ?_ ?_
                      rotate_left 2
                      · (intro w hS; go_simp; try with_reducible rfl)
                      · (go_simp; try with_reducible rfl)
                      refine wpAnyH_done (by kernel_rfl) ?_ _
                      go_upto_region 6 with fail
                      have HK14 := Lib.hid (HK4.out.below hc37 HL3.out)
                      have HB14 := Lib.hid hc37
                      have HGE := Lib.hid (fget_any w4 w14 HSR.out hc37 HF14.out rtA h32)
                      rw [show idV rtA = .agg KX by rw [HKX.out], show srcF (getB []) adA rtA = some chA from srcA] at HGE
                      clear hc4 hc8 hc14 hc27 hc32 hc37 HF13 HF12 HF8 HF7 HF6 HRO HAT8 HDO HDO2 HWA HK4
                      go_wp2_with (first | (refine wpList_load_at rfl _ _ rfl g3 0 rfl KX _ (At.of_row HK14.out) Try.underlying33 rfl HI.out ?_) | fail)
                      refine HGE.out.mono ?_
                      rintro e w15 ⟨hb15, A5, c5, rfl, hs5, hc5, hm5⟩
                      go_upto_region 7 with fail
                      have HB15 := Lib.hid (HB14.out.trans (hb15.mono HB14.out.size))
                      have HF15 := Lib.hid (HF14.out.go hb15)
                      have HK15 := Lib.hid (HK14.out.below hb15 HK14.out.lt)
                      have hcv1 := cvt_of (slOf_bytes hs5) c5
                      have hcv2 := cvt_of (HSL4.out.below HB15.out) c2
                      have HRC := Lib.hid (records_any w4 w15 HSR.out HB15.out HF15.out (getB_fin []) (by simp))
                      rw [show recsF (getB []) adA rtA = [chA] from recsA] at HRC
                      obtain ⟨n5, hn5⟩ : ∃ n5, n5 = chA.length := ⟨_, rfl⟩
                      have HIZ := Lib.hid (show zID.size = 32 from rfl)
                      rw [← hn5] at hcv1 ⊢
                      clear hb15 hs5 hc5 hm5 HF14 HK14 HB14 HGE hn5
                      go_wp2_with fail
                      refine HRC.out.mono ?_
                      rintro e w16 ⟨hb16, A16, m16, c16, rfl, hr16⟩
                      obtain rfl : m16 = 1 := hr16.len
                      have HB16 := Lib.hid (HB15.out.trans (hb16.mono HB15.out.size))
                      have HK16 := Lib.hid (HK15.out.below hb16 HK15.out.lt)
                      have hbs := bsIds2 w16 KX zID HKS.out HIZ.out
                      have HSV := Lib.hid (serve_awake HSR.out HB16.out (HF15.out.go hb16) HKX.out)
                      clear hr16 hb16 hcv1 hcv2 HRC
                      go_wp2_with (first
                        | (refine wpList_val_g (by rfl) (exec_load_at 33 (.tmp 3) rfl g3 0 rfl KX _ (At.of_row HK16.out) Try.underlying33 rfl HI.out) ?_)
                        | (refine wpList_val_g (by rfl) (exec_b0 33 rfl (.agg zID) (zid_build _)) ?_)
                        | (refine wpList_val_g (by rfl) (exec_bs2 37 (.tmp 85) (.tmp 86) rfl (.agg KX) (.agg zID) _ rfl rfl hbs) ?_) | fail)
                      refine HSV.out.mono ?_
                      rintro e w17 ⟨hb17, _, A17, c17, rfl⟩
                      have HB17 := Lib.hid (HB16.out.trans (hb17.mono HB16.out.size))
                      clear hb17 HSV hbs
                      go_wp2_with fail
                      go_ret
                      exact ⟨rfl, HBB4.out.trans (HB17.out.mono HBB4.out.size)⟩
                    exact AllHeld.nil
                  exact AllHeld.nil
                exact AllHeld.nil
              exact AllHeld.nil
            exact AllHeld.nil
          exact AllHeld.nil
        exact AllHeld.nil
      exact AllHeld.nil
    exact AllHeld.nil
  exact AllHeld.nil
end Go.Proofs.Ytgmbkcjihgphmaa

/- what Object's writers share. -/
set_option linter.unusedVariables false
set_option linter.unusedSimpArgs false
namespace Go.Proofs.Ytgmbkcjihgphmaa
open Go.RowKit

theorem sl_built {w : World} {cells : List Value} {vs : List Val} (h : Each (valR.R w no) cells vs) : SlOf valR (w.alloc (.cells cells.toArray 72)) no (some ⟨w.heap.size, 0, none⟩) vs := by
  have hba : Below w.heap.size w (w.alloc (.cells cells.toArray 72)) := (Below.refl _ _).alloc (Nat.le_refl _) _
  have hl : cells.length = vs.length * 5 := h.length fun _ _ => valR.len
  exact ⟨cells, Sl.fresh w cells.toArray 72 (0, 0) vs.length 5 (by simpa using hl), h.mono fun _ _ k => valR.stable k (Moves.of_below hba), fun _ _ _ _ h => h⟩
theorem step_build2 {P : Program} {Q : Exit → Act → World → Prop} {o : Oper} {a : Act} {w w' : World} {K : Act → World → Prop} {E : Prop} (hgd : o.guard = none) (x y : Operand) {t : TypeId}
    (ho : o.op = .buildSlice t 2 #[(0, x), (1, y)]) {vx vy v' : Value} (hx : a.eval x = vx) (hy : a.eval y = vy) (hrun : (Instr.buildSlice t 2 #[(0, vx), (1, vy)]).run P w = .ok v' w') (h : K (a.put o.dst v') w') :
    ∀ {ops : Array Oper}, if Region.wanted o (yielded ops a.tmps) = true then Oper.wp P o a w K Q else E := by
  intro ops
  have hw : Region.wanted o (yielded ops a.tmps) = true := by simp [Region.wanted, hgd]
  rw [if_pos hw]
  unfold Oper.wp execOp
  simp only [ho, List.map_toArray, List.map_cons, List.map_nil, hx, hy, Sem.run_bind, hrun, Result.andThen_ok, Sem.run_pure]
  exact h
theorem bulk_ids : ∀ (is : List (List UInt8)), (∀ i ∈ is, i.length = 32) → bulkVs (is.map txtV) = is.length * 33
  | [], _ => rfl
  | i :: r, h => by
    have := bulk_ids r (fun j hj => h j (by simp [hj]))
    have hi := h i (by simp)
    simp only [List.map_cons, bulkVs, bulkV, txtV, List.length_cons] at this ⊢
    omega
end Go.Proofs.Ytgmbkcjihgphmaa
