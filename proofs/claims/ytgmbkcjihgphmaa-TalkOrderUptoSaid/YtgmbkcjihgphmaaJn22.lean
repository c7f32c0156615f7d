/- Contracts and laws for what the statement reaches, joined: TalkMarkKit, TalkPush. -/
import Derived.Test.YtgmbkcjihgphmaaJn21
import Derived.Test.YtgmbkcjihgphmaaJn6
/- collect's marks in memory: what was begun, the stack of places, what is done. -/
set_option linter.unusedVariables false
set_option linter.unusedSimpArgs false
namespace Go.Proofs.Ytgmbkcjihgphmaa
open Go.RowKit

abbrev PlcT := List UInt8 × List (List UInt8)
abbrev plcR : Rd PlcT := prodR oidR (slR oidR)
abbrev plcK (i : List UInt8) (A : Option Addr) (n c : Nat) : Array Value := (bytesV i ++ [Value.slice A n c]).toArray
abbrev zPlc : Array Value := plcK (List.replicate 32 0) none 0 0
theorem elemPlc : ElemOf Try.prog 109 111 (.agg zPlc) 33 56 := ⟨Try.underlying109, by kernel_rfl, rfl, by decide⟩
theorem plcK_size {i : List UInt8} (h : i.length = 32) (A : Option Addr) (n c : Nat) : (plcK i A n c).size = 33 := by simp [plcK, bytesV_length, h]
theorem plc_info : (Try.prog.info? 111).map (·.size) = some 33 := by kernel_rfl
set_option maxRecDepth 100000 in
theorem built_plc (A : Option Addr) (n c : Nat) : ∀ (i : List UInt8), i.length = 32 → Try.prog.built 111 [(0, .agg (bytesV i).toArray), (1, .slice A n c)] = some (plcK i A n c)
  | [x0, x1, x2, x3, x4, x5, x6, x7, x8, x9, x10, x11, x12, x13, x14, x15, x16, x17, x18, x19, x20, x21, x22, x23, x24, x25, x26, x27, x28, x29, x30, x31], _ => by kernel_rfl
theorem plc_of {w : World} {av : Av} {i : List UInt8} {l : List (List UInt8)} {A : Option Addr} {c : Nat} (hi : i.length = 32) (h1 : l.length ≤ c) (h2 : c ≤ maxLen) (hs : SlOf oidR w av A l) : plcR.R w av (plcK i A l.length c).toList (i, l) :=
  ⟨bytesV i, [.slice A l.length c], by simp [plcK], oid_of w av hi, A, c, rfl, h1, h2, hs⟩
/-- '[]place{x}', as an append's last part makes it ('attribute [local go_sem ↓] bsPlc_eq') -/
noncomputable def bsPlc (w : World) (v : Value) : Result Value := (Instr.buildSlice 109 1 #[(0, v)]).run Try.prog w
theorem bsPlc_eq (w : World) (v : Value) : (Instr.buildSlice 109 1 #[(0, v)]).run Try.prog w = bsPlc w v := rfl
theorem plc_sizeOf (w : World) : (sizeOf 111).run Try.prog w = .ok 33 w := by
  have h := plc_info
  cases hq : Try.prog.info? 111 with
  | none => rw [hq] at h; simp at h
  | some i =>
    rw [hq] at h
    have h1 : i.size = 33 := by simpa using h
    simp [sizeOf, typeInfo, hq, h1]
theorem plc_zero (w : World) : (zeroValue 111).run Try.prog w = .ok (.agg zPlc) w := by kernel_rfl
theorem bsPlc_of (w : World) (K : Array Value) (hK : K.size = 33) : bsPlc w (.agg K) = .ok (.slice (some ⟨w.heap.size, 0, none⟩) 1 1) (w.alloc (.cells K 111)) := by
  unfold bsPlc Instr.buildSlice
  have hf : ∀ cells : Array Value, cells.size = 33 → Instr.fill (fun i => some (i * 33, 33)) cells [(0, .agg K)] = some K := by
    intro cells hc
    have hK2 : (Value.agg K).cells = K := rfl
    have h := fill_all K cells (by omega)
    unfold Instr.fill
    simp only [hK2]
    have hc1 : (decide (K.size ≠ 33) || decide (0 * 33 + K.size > cells.size)) = false := by simp [hK, hc]
    simp only [Nat.zero_mul] at hc1 ⊢
    rw [if_neg (by rw [hc1]; decide)]
    unfold Instr.fill
    rw [h]
  simp [run_underlying Try.underlying109, Sem.run_bind, plc_sizeOf, plc_zero, Value.cells]
  rw [hf _ (by simp)]
  simp [newRow, Sem.run_bind]

theorem wpList_built2 {P : Program} {ops : Array Oper} {rest : List Oper} {o : Oper} {a : Act} {w : World} {Q : Exit → Act → World → Prop} (hg : o.guard = none) (t : TypeId) (x0 x1 : Operand) {i0 i1 : Nat} (ho : o.op = .build t #[(i0, x0), (i1, x1)]) {v0 v1 : Value} (K : Array Value)
    (h0 : a.eval x0 = v0) (h1 : a.eval x1 = v1) (hb : P.built t [(i0, v0), (i1, v1)] = some K) (h : wpList P ops Q rest (a.put o.dst (.agg K)) w) : wpList P ops Q (o :: rest) a w := by
  subst h0 h1
  exact wpList_build hg t _ ho (by simp [hb]) (by simpa [hb] using h)

/-! ### rows -/
theorem own_typ {w : World} {base n sz : Nat} {e : TypeId} {v : Value} {xs : List Value} (h : w.ownsRow base e sz v n xs) {b : Nat} (hb : own v b) : ∃ cur, Blk w b e cur := by
  rcases h.2 with ⟨rfl, _⟩ | ⟨g, cap, cur, rfl, _, hg, _⟩
  · simp [own, Value.ownBlock] at hb
  · have : g = b := by simpa [own, Value.ownBlock] using hb
    subst this
    exact ⟨cur, hg⟩
theorem own_slc (A : Option Addr) (n m c c' : Nat) : own (.slice A n c) = own (.slice A m c') := by cases A <;> rfl
theorem blk_ne {w : World} {a b : Nat} {t t' : TypeId} {K K' : Array Value} (h1 : Blk w a t K) (h2 : Blk w b t' K') (ht : t ≠ t') : a ≠ b := by
  rintro rfl
  unfold Blk at *
  rw [h1] at h2
  injection h2 with h2
  injection h2 with _ h2
  exact ht h2
section
variable {α : Type} {r : Rd α} {e : TypeId} {w w' : World} {base m c : Nat} {x x' : Av} {A : Option Addr} {l : List α}
theorem RowX.typ (h : RowX r e w base x A m c l) {b : Nat} (hb : own (.slice A m c) b) : ∃ cur, Blk w b e cur := by
  obtain ⟨xs, h1, _⟩ := h.row
  exact own_typ h1 hb
theorem RowR.typ (h : RowR r e w base A m c l) {b : Nat} (hb : own (.slice A m c) b) : ∃ cur, Blk w b e cur := by
  obtain ⟨xs, h1, _⟩ := h.row
  exact own_typ h1 hb
theorem RowX.turn (h : RowX r e w base x A m c l) {row : Option Nat} (hg : w.grownBy w' row) (hb : ∀ b, row = some b → x b ∧ ¬ own (.slice A m c) b) (hx : ∀ b, b < w.heap.size → x' b → x b) : RowX r e w' base x' A m c l := by
  obtain ⟨xs, h1, h2⟩ := h.row
  refine ⟨⟨xs, h1.kept hg ?_, h2.mono fun _ _ k => r.stable k ⟨hg.size, fun b hb' hne => hg.block b hb' (fun e => hne (.inl (hb b e.symm).1)), fun b hb' hne h' => h'.elim (fun q => hne (.inl (hx b hb' q))) (fun q => hne (.inr q))⟩⟩, h.len⟩
  cases hv : (Value.slice A m c).ownBlock with
  | none => exact .inl rfl
  | some k => right; intro e; exact (hb k e.symm).2 hv
/-- one less at the end -/
theorem RowX.pop {y : α} (h : RowX r e w base x A (m + 1) c (l ++ [y])) : RowX r e w base x A m c l := by
  have hm : m = l.length := by have h0 : m + 1 = (l ++ [y]).length := h.len; rw [List.length_append, List.length_singleton] at h0; omega
  obtain ⟨xs, h1, h2⟩ := h.row
  have h3 := h2.take (fun _ _ => r.len) m
  have e1 : (l ++ [y]).take m = l := by rw [List.take_append_of_le_length (by omega), List.take_of_length_le (by omega)]
  rw [e1] at h3
  have hle : m * r.k ≤ (m + 1) * r.k := Nat.mul_le_mul_right _ (by omega)
  have hl := h1.1
  refine ⟨⟨xs.take (m * r.k), ⟨by rw [List.length_take]; omega, ?_⟩, h3.mono fun _ _ k => r.stable k (Moves.less w (fun b _ q => ?_))⟩, hm⟩
  · rcases h1.2 with ⟨h4, _⟩ | ⟨g, cap, cur, h4, h5, h6, h7, h8, h9, h10⟩
    · injection h4 with h4 h5; omega
    · injection h4 with h4 h4' h4''
      subst h4 h4''
      exact .inr ⟨g, _, cur, rfl, h5, h6, by omega, h8, h9, by rw [← h10, List.take_take, Nat.min_eq_left hle]⟩
  · exact q.elim .inl fun q => .inr (by rw [own_slc A (m + 1) m c c]; exact q)
end
theorem Each.split {α : Type} {R : List Value → α → Prop} {y : α} : ∀ {l : List α} {xs : List Value}, Each R xs (l ++ [y]) → ∃ xs1 cs, xs = xs1 ++ cs ∧ Each R xs1 l ∧ R cs y
  | [], xs, h => by
    cases h with
    | cons h1 h2 =>
      cases h2
      exact ⟨[], _, by simp, .nil, h1⟩
  | z :: l, xs, h => by
    cases h with
    | cons h1 h2 =>
      obtain ⟨xs1, cs, rfl, h3, h4⟩ := Each.split h2
      exact ⟨_ ++ xs1, cs, by simp, .cons h1 h3, h4⟩

/-! ### the marks -/
def avM (bm gm ms bs : Nat) (v : Value) : Av := fun b => b = bm ∨ b = gm ∨ b = ms ∨ b = bs ∨ own v b
structure MK (w : World) (base : Nat) (T : TypeId) (V : Value) (bm gm ms bs : Nat) (M : IM) (A : Option Addr) (n c : Nat) (st : List PlcT) (Ao : Option Addr) (mo co : Nat) (out : List (List UInt8)) : Prop where
  box : Blk w bm 83 #[.pointer (some ⟨gm, 0, none⟩)]
  mrk : Blk w gm 86 #[.iface T V, .map (some ms), .slice Ao mo co]
  map : MapW w ms M
  bst : Blk w bs 109 #[.slice A n c]
  stk : RowX plcR 111 w base (avM bm gm ms bs (.slice Ao mo co)) A n c st.reverse
  outr : RowR oidR 33 w base Ao mo co out
  bbm : base ≤ bm
  bgm : base ≤ gm
  bms : base ≤ ms
  bbs : base ≤ bs
section
variable {w w' : World} {base : Nat} {T : TypeId} {V : Value} {bm gm ms bs : Nat} {M M' : IM} {A : Option Addr} {n c : Nat} {st : List PlcT} {Ao : Option Addr} {mo co : Nat} {out : List (List UInt8)}
theorem MK.go (h : MK w base T V bm gm ms bs M A n c st Ao mo co out) (hb : Below w.heap.size w w') : MK w' base T V bm gm ms bs M A n c st Ao mo co out :=
  ⟨h.box.below hb h.box.lt, h.mrk.below hb h.mrk.lt, h.map.below hb, h.bst.below hb h.bst.lt, h.stk.below hb, h.outr.below hb, h.bbm, h.bgm, h.bms, h.bbs⟩
theorem MK.size (h : MK w base T V bm gm ms bs M A n c st Ao mo co out) : base ≤ w.heap.size := by have := h.box.lt; have := h.bbm; omega
theorem MK.len (h : MK w base T V bm gm ms bs M A n c st Ao mo co out) : n = st.length := by have := h.stk.len; simpa using this
theorem MK.stk_ne (h : MK w base T V bm gm ms bs M A n c st Ao mo co out) {b : Nat} {t : TypeId} {K : Array Value} (hk : Blk w b t K) (ht : 111 ≠ t) : ¬ own (.slice A n c) b := fun ho => by
  obtain ⟨cur, hc⟩ := h.stk.typ ho
  exact blk_ne hc hk ht rfl
theorem MK.out_ne (h : MK w base T V bm gm ms bs M A n c st Ao mo co out) {b : Nat} {t : TypeId} {K : Array Value} (hk : Blk w b t K) (ht : 33 ≠ t) : ¬ own (.slice Ao mo co) b := fun ho => by
  obtain ⟨cur, hc⟩ := h.outr.typ ho
  exact blk_ne hc hk ht rfl
theorem MK.stk_map (h : MK w base T V bm gm ms bs M A n c st Ao mo co out) : ¬ own (.slice A n c) ms := fun ho => by
  obtain ⟨cur, hc⟩ := h.stk.typ ho
  exact blk_map hc h.map rfl
theorem MK.out_map (h : MK w base T V bm gm ms bs M A n c st Ao mo co out) : ¬ own (.slice Ao mo co) ms := fun ho => by
  obtain ⟨cur, hc⟩ := h.outr.typ ho
  exact blk_map hc h.map rfl
/-- all that may turn lies in the world -/
theorem MK.av_lt (h : MK w base T V bm gm ms bs M A n c st Ao mo co out) {b : Nat} (hb : avX (avM bm gm ms bs (.slice Ao mo co)) (.slice A n c) b) : b < w.heap.size := by
  rcases hb with (rfl | rfl | rfl | rfl | ho) | ho
  · exact h.box.lt
  · exact h.mrk.lt
  · exact h.map.lt
  · exact h.bst.lt
  · exact (h.outr.lt ho).2
  · exact (h.stk.lt ho).2
/-- another map -/
theorem MK.turn_map (h : MK w base T V bm gm ms bs M A n c st Ao mo co out) (hg : w.grownBy w' (some ms)) (hm : MapW w' ms M') : MK w' base T V bm gm ms bs M' A n c st Ao mo co out :=
  ⟨h.box.grown hg (fun e => blk_map h.box h.map (Option.some.inj e)), h.mrk.grown hg (fun e => blk_map h.mrk h.map (Option.some.inj e)), hm, h.bst.grown hg (fun e => blk_map h.bst h.map (Option.some.inj e)),
    h.stk.turn hg (fun b e => by have e := Option.some.inj e; subst e; exact ⟨.inr (.inr (.inl rfl)), h.stk_map⟩) (fun _ _ q => q),
    h.outr.grown hg (fun k e hk => h.out_map (by have e := Option.some.inj e; subst e; exact hk)) (fun _ _ _ k => k), h.bbm, h.bgm, h.bms, h.bbs⟩
theorem MK.below_map (h : MK w base T V bm gm ms bs M A n c st Ao mo co out) (hg : w.grownBy w' (some ms)) : Below base w w' :=
  (Below.refl base w).grown hg h.size (fun k e => by have e := Option.some.inj e; have := h.bms; omega)
/-- one more place -/
theorem MK.push (h : MK w base T V bm gm ms bs M A n c st Ao mo co out) {av : Av} {i : List UInt8} {l : List (List UInt8)} {Al : Option Addr} {cl : Nat} (hi : i.length = 32) (h1 : l.length ≤ cl) (h2 : cl ≤ maxLen) (hs : SlOf oidR w av Al l)
    (hav : ∀ b, avX (avM bm gm ms bs (.slice Ao mo co)) (.slice A n c) b → av b) (hn : n ≤ 1000000000) :
    ∃ A' c' w', (Builtin.append_ #[109, 109] 109 #[.slice A n c, .slice (some ⟨w.heap.size, 0, none⟩) 1 1]).run Try.prog (w.alloc (.cells (plcK i Al l.length cl) 111)) = .ok (.slice A' (n + 1) c') w' ∧
      Blk w' bs 109 #[.slice A n c] ∧ Below base w w' ∧
      MK (w'.setCell ⟨bs, 0, none⟩ (.slice A' (n + 1) c')) base T V bm gm ms bs M A' (n + 1) c' ((i, l) :: st) Ao mo co out ∧ Below base w (w'.setCell ⟨bs, 0, none⟩ (.slice A' (n + 1) c')) := by
  obtain ⟨A', c', w', run, hrow, hbe, hg, hc1, hc2, hnew⟩ := h.stk.push elemPlc h.size (plc_of hi h1 h2 hs) (fun b _ q => hav b q) (by omega) (by simp only [maxLen]; omega) 109 1
  have o1 : ¬ own (.slice A n c) bm := h.stk_ne h.box (by decide)
  have o2 : ¬ own (.slice A n c) gm := h.stk_ne h.mrk (by decide)
  have o3 : ¬ own (.slice A n c) ms := h.stk_map
  have o4 : ¬ own (.slice A n c) bs := h.stk_ne h.bst (by decide)
  have b1 : Blk w' bm 83 #[.pointer (some ⟨gm, 0, none⟩)] := h.box.grown hg (fun e => o1 e.symm)
  have b2 : Blk w' gm 86 #[.iface T V, .map (some ms), .slice Ao mo co] := h.mrk.grown hg (fun e => o2 e.symm)
  have b3 : MapW w' ms M := h.map.same (hg.block ms h.map.lt (fun e => o3 e.symm))
  have b4 : Blk w' bs 109 #[.slice A n c] := h.bst.grown hg (fun e => o4 e.symm)
  have b5 : RowR oidR 33 w' base Ao mo co out := h.outr.grown hg (fun k e hk => by
    obtain ⟨cur, hc⟩ := h.stk.typ (show own (.slice A n c) k from e)
    exact h.out_ne hc (by decide) hk) (fun _ _ _ k => k)
  have hg2 := grown_set w' bs 0 (.slice A' (n + 1) c')
  refine ⟨A', c', w', run, b4, hbe, ⟨b1.other (blk_ne b1 b4 (by decide)) 0 _, b2.other (blk_ne b2 b4 (by decide)) 0 _, ?_, ?_, ?_, ?_, h.bbm, h.bgm, h.bms, h.bbs⟩, hbe.grown hg2 (Nat.le_trans h.size hbe.size) (fun k e => by have e := Option.some.inj e; have := h.bbs; omega)⟩
  · exact b3.same (hg2.block ms b3.lt (fun e => blk_map b4 b3 (Option.some.inj e).symm))
  · have := b4.set_ 0 (.slice A' (n + 1) c')
    simpa using this
  · rw [List.reverse_cons]
    exact hrow.turn hg2 (fun b e => by
      have e := Option.some.inj e
      subst e
      exact ⟨.inr (.inr (.inr (.inl rfl))), fun ho => by obtain ⟨cur, hc⟩ := hrow.typ ho; exact blk_ne hc b4 (by decide) rfl⟩) (fun _ _ q => q)
  · exact b5.grown hg2 (fun k e hk => by
      have e := Option.some.inj e
      subst e
      obtain ⟨cur, hc⟩ := b5.typ hk
      exact blk_ne hc b4 (by decide) rfl) (fun _ _ _ k => k)
/-- the place on top -/
theorem MK.top {i : List UInt8} {l : List (List UInt8)} (h : MK w base T V bm gm ms bs M A n c ((i, l) :: st) Ao mo co out) :
    ∃ (ga : Nat) (Al : Option Addr) (cl : Nat), n = st.length + 1 ∧ A = some ⟨ga, 0, none⟩ ∧ ga < w.heap.size ∧ n ≤ c ∧ i.length = 32 ∧ At w ⟨ga, st.length * 33, none⟩ (bytesV i).toArray ∧ w.cell? ⟨ga, st.length * 33 + 32, none⟩ = some (.slice Al l.length cl) ∧ w.frozen? ⟨ga, st.length * 33 + 32, none⟩ = false ∧
      l.length ≤ cl ∧ cl ≤ maxLen ∧ SlOf oidR w (avX (avM bm gm ms bs (.slice Ao mo co)) (.slice A n c)) Al l := by
  have hn : n = st.length + 1 := by have := h.len; simpa using this
  obtain ⟨xs, h1, h2⟩ := h.stk.row
  rw [List.reverse_cons] at h2
  obtain ⟨xs1, cs, rfl, h3, h4⟩ := Each.split h2
  obtain ⟨c1, c2, rfl, h5, Al, cl, rfl, h6, h7, h8⟩ := h4
  obtain ⟨rfl, h32⟩ := oid_cells h5
  have hx1 : xs1.length = st.length * 33 := by have h0 := h3.length (fun _ _ => plcR.len); rw [List.length_reverse] at h0; exact h0
  obtain ⟨ga, rfl, _, hga⟩ := own_at h1 (by omega)
  have hc : ∀ j u, (bytesV i ++ [Value.slice Al l.length cl])[j]? = some u → w.cell? ⟨ga, st.length * 33 + j, none⟩ = some u := fun j u hu => by
    have hj := (List.getElem?_eq_some_iff.1 hu).1
    have h33 : (bytesV i ++ [Value.slice Al l.length cl]).length = 33 := by simp [bytesV_length, h32]
    rw [h1.cellAt (st.length * 33 + j) (by rw [hn]; show _ < (st.length + 1) * 33; omega), List.getElem?_append_right (by omega), ← hu]
    congr 1; omega
  refine ⟨ga, Al, cl, hn, rfl, hga, (own_cap h1).1, h32, fun j u hu => hc j u ?_, hc 32 _ ?_, h1.frozenAt _, h6, h7, h8⟩
  · have hu : (bytesV i)[j]? = some u := by simpa using hu
    rw [List.getElem?_append_left (List.getElem?_eq_some_iff.1 hu).1, hu]
  · rw [List.getElem?_append_right (by rw [bytesV_length, h32]; exact Nat.le_refl _), bytesV_length, h32]; rfl
/-- another list at the place on top -/
theorem MK.set_top {i : List UInt8} {l l' : List (List UInt8)} {ga : Nat} (h : MK w base T V bm gm ms bs M (some ⟨ga, 0, none⟩) n c ((i, l) :: st) Ao mo co out) {Al : Option Addr} {cl : Nat} (h1 : l'.length ≤ cl) (h2 : cl ≤ maxLen)
    (hs : SlOf oidR w (avX (avM bm gm ms bs (.slice Ao mo co)) (.slice (some ⟨ga, 0, none⟩) n c)) Al l') :
    MK (w.setCell ⟨ga, st.length * 33 + 32, none⟩ (.slice Al l'.length cl)) base T V bm gm ms bs M (some ⟨ga, 0, none⟩) n c ((i, l') :: st) Ao mo co out ∧ Below base w (w.setCell ⟨ga, st.length * 33 + 32, none⟩ (.slice Al l'.length cl)) := by
  have hown : own (.slice (some ⟨ga, 0, none⟩) n c) ga := rfl
  have hg := grown_set w ga (st.length * 33 + 32) (.slice Al l'.length cl)
  obtain ⟨cur, hcur⟩ := h.stk.typ hown
  have hge := (h.stk.lt hown).1
  refine ⟨⟨h.box.other (blk_ne h.box hcur (by decide)) _ _, h.mrk.other (blk_ne h.mrk hcur (by decide)) _ _, h.map.same (hg.block ms h.map.lt (fun e => blk_map hcur h.map (Option.some.inj e).symm)), h.bst.other (blk_ne h.bst hcur (by decide)) _ _, ?_,
    h.outr.grown hg (fun k e hk => by
      have e := Option.some.inj e
      subst e
      obtain ⟨cur', hc'⟩ := h.outr.typ hk
      exact blk_ne hc' hcur (by decide) rfl) (fun _ _ _ k => k), h.bbm, h.bgm, h.bms, h.bbs⟩, (Below.refl base w).grown hg h.size (fun k e => by have e := Option.some.inj e; omega)⟩
  obtain ⟨xs, h3, h4⟩ := h.stk.row
  have hln := h.stk.len
  rw [List.reverse_cons] at h4 ⊢
  obtain ⟨xs1, cs, rfl, h5, h6⟩ := Each.split h4
  obtain ⟨c1, c2, rfl, h7, Ao', co', rfl, h8, h9, h10⟩ := h6
  obtain ⟨rfl, h32⟩ := oid_cells h7
  have hx1 : xs1.length = st.length * 33 := by have h0 := h5.length (fun _ _ => plcR.len); rw [List.length_reverse] at h0; exact h0
  have hst := (h3.stored (st.length * 33 + 32) (.slice Al l'.length cl)).1
  have hset : (xs1 ++ (bytesV i ++ [Value.slice Ao' l.length co'])).set (st.length * 33 + 32) (.slice Al l'.length cl) = xs1 ++ (bytesV i ++ [Value.slice Al l'.length cl]) := by
    rw [List.set_append_right _ _ (by omega), hx1, show st.length * 33 + 32 - st.length * 33 = 32 by omega, List.set_append_right _ _ (by rw [bytesV_length, h32]; exact Nat.le_refl _), bytesV_length, h32]; rfl
  rw [hset] at hst
  have hmv : Moves w (w.setCell ⟨ga, st.length * 33 + 32, none⟩ (.slice Al l'.length cl)) (avX (avM bm gm ms bs (.slice Ao mo co)) (.slice (some ⟨ga, 0, none⟩) n c)) (avX (avM bm gm ms bs (.slice Ao mo co)) (.slice (some ⟨ga, 0, none⟩) n c)) :=
    ⟨hg.size, fun b hb hne => hg.block b hb (fun e => hne (.inr (by have e := Option.some.inj e; subst e; exact hown))), fun _ _ q => q⟩
  refine ⟨⟨_, hst, (h5.mono fun _ _ k => plcR.stable k hmv).snoc ⟨bytesV i, [.slice Al l'.length cl], rfl, oid_of _ _ h32, Al, cl, rfl, h1, h2, hs.stable hmv⟩⟩, by simpa using hln⟩
/-- the place on top goes -/
theorem MK.pop {p : PlcT} (h : MK w base T V bm gm ms bs M A (n + 1) c (p :: st) Ao mo co out) :
    MK (w.setCell ⟨bs, 0, none⟩ (.slice A n c)) base T V bm gm ms bs M A n c st Ao mo co out ∧ Below base w (w.setCell ⟨bs, 0, none⟩ (.slice A n c)) := by
  have hg2 := grown_set w bs 0 (.slice A n c)
  have hrow := h.stk
  rw [List.reverse_cons] at hrow
  have hrow := hrow.pop
  refine ⟨⟨h.box.other (blk_ne h.box h.bst (by decide)) 0 _, h.mrk.other (blk_ne h.mrk h.bst (by decide)) 0 _, h.map.same (hg2.block ms h.map.lt (fun e => blk_map h.bst h.map (Option.some.inj e).symm)), ?_, ?_, ?_, h.bbm, h.bgm, h.bms, h.bbs⟩, (Below.refl base w).grown hg2 h.size (fun k e => by have e := Option.some.inj e; have := h.bbs; omega)⟩
  · have := h.bst.set_ 0 (.slice A n c)
    simpa using this
  · exact hrow.turn hg2 (fun b e => by
      have e := Option.some.inj e
      subst e
      exact ⟨.inr (.inr (.inr (.inl rfl))), fun ho => by obtain ⟨cur, hc⟩ := hrow.typ ho; exact blk_ne hc h.bst (by decide) rfl⟩) (fun _ _ q => q)
  · exact h.outr.grown hg2 (fun k e hk => by
      have e := Option.some.inj e
      subst e
      obtain ⟨cur, hc⟩ := h.outr.typ hk
      exact blk_ne hc h.bst (by decide) rfl) (fun _ _ _ k => k)
theorem MK.pop' {p : PlcT} {n' : Nat} (hn : n = n' + 1) (h : MK w base T V bm gm ms bs M A n c (p :: st) Ao mo co out) :
    MK (w.setCell ⟨bs, 0, none⟩ (.slice A n' c)) base T V bm gm ms bs M A n' c st Ao mo co out ∧ Below base w (w.setCell ⟨bs, 0, none⟩ (.slice A n' c)) := by
  subst hn
  exact h.pop
/-- one more is done -/
theorem MK.done (h : MK w base T V bm gm ms bs M A n c st Ao mo co out) {i : List UInt8} (hi : i.length = 32) (hn : mo ≤ 1000000000) :
    ∃ A' c' w', (Builtin.append_ #[37, 37] 37 #[.slice Ao mo co, .slice (some ⟨w.heap.size, 0, none⟩) 1 1]).run Try.prog (w.alloc (.cells (bytesV i).toArray 33)) = .ok (.slice A' (mo + 1) c') w' ∧
      Blk w' gm 86 #[.iface T V, .map (some ms), .slice Ao mo co] ∧ (∀ b t K, Blk w b t K → 33 ≠ t → Blk w' b t K) ∧
      MK (w'.setCell ⟨gm, 2, none⟩ (.slice A' (mo + 1) c')) base T V bm gm ms bs M A n c st A' (mo + 1) c' (out ++ [i]) ∧ Below base w (w'.setCell ⟨gm, 2, none⟩ (.slice A' (mo + 1) c')) := by
  obtain ⟨A', c', w', run, hrow, hbe, hg, hnew⟩ := h.outr.push_at elemId h.size (av := fun _ => True) (oid_of w _ hi) (fun _ _ _ => trivial) (by omega) (by simp only [maxLen]; omega) 37 1
  have o1 : ¬ own (.slice Ao mo co) bm := h.out_ne h.box (by decide)
  have o2 : ¬ own (.slice Ao mo co) gm := h.out_ne h.mrk (by decide)
  have o3 : ¬ own (.slice Ao mo co) ms := h.out_map
  have o4 : ¬ own (.slice Ao mo co) bs := h.out_ne h.bst (by decide)
  have b1 : Blk w' bm 83 #[.pointer (some ⟨gm, 0, none⟩)] := h.box.grown hg (fun e => o1 e.symm)
  have b2 : Blk w' gm 86 #[.iface T V, .map (some ms), .slice Ao mo co] := h.mrk.grown hg (fun e => o2 e.symm)
  have b3 : MapW w' ms M := h.map.same (hg.block ms h.map.lt (fun e => o3 e.symm))
  have b4 : Blk w' bs 109 #[.slice A n c] := h.bst.grown hg (fun e => o4 e.symm)
  have b5 : RowX plcR 111 w' base (avM bm gm ms bs (.slice A' (mo + 1) c')) A n c st.reverse := h.stk.turn hg (fun b e => ⟨.inr (.inr (.inr (.inr e))), fun ho => by
      obtain ⟨cur, hc⟩ := h.outr.typ (show own (.slice Ao mo co) b from e)
      exact h.stk_ne hc (by decide) ho⟩) (fun b hb q => by
        rcases q with q | q | q | q | q
        · exact .inl q
        · exact .inr (.inl q)
        · exact .inr (.inr (.inl q))
        · exact .inr (.inr (.inr (.inl q)))
        · rcases hnew b q with q | q
          · exact .inr (.inr (.inr (.inr q)))
          · omega)
  have hg2 := grown_set w' gm 2 (.slice A' (mo + 1) c')
  refine ⟨A', c', w', run, b2, fun b t K hk ht => hk.grown hg (fun e => h.out_ne hk ht e.symm), ⟨b1.other (blk_ne b1 b2 (by decide)) 2 _, ?_, b3.same (hg2.block ms b3.lt (fun e => blk_map b2 b3 (Option.some.inj e).symm)), b4.other (blk_ne b4 b2 (by decide)) 2 _, ?_, ?_, h.bbm, h.bgm, h.bms, h.bbs⟩, hbe.grown hg2 (Nat.le_trans h.size hbe.size) (fun k e => by have e := Option.some.inj e; have := h.bgm; omega)⟩
  · have := b2.set_ 2 (.slice A' (mo + 1) c')
    simpa using this
  · exact b5.turn hg2 (fun b e => by
      have e := Option.some.inj e
      subst e
      exact ⟨.inr (.inl rfl), fun ho => by obtain ⟨cur, hc⟩ := b5.typ ho; exact blk_ne hc b2 (by decide) rfl⟩) (fun _ _ q => q)
  · exact hrow.grown hg2 (fun k e hk => by
      have e := Option.some.inj e
      subst e
      obtain ⟨cur, hc⟩ := hrow.typ hk
      exact blk_ne hc b2 (by decide) rfl) (fun _ _ _ k => k)
end
end Go.Proofs.Ytgmbkcjihgphmaa

/- the marks' push: a record is begun, once. -/
set_option linter.unusedVariables false
set_option linter.unusedSimpArgs false
namespace Go.Proofs.Ytgmbkcjihgphmaa
open Go.RowKit
attribute [local go_sem ↓] bsPlc_eq

abbrev Ids := List (List UInt8)
/-- a record is begun: what was begun, the stack, top first -/
def pushP (S : List UInt8 → Option (List UInt8)) (id : List UInt8) (B : Ids) (st : List PlcT) : Except Int (Ids × List PlcT) :=
  if B.contains id = true then .ok (B, st) else match S id with
    | none => .error 4
    | some b => match linksG b with
      | .ok l => .ok (id :: B, (id, l) :: st)
      | .error z => .error z
def SeenM (M : IM) (B : Ids) : Prop := ∀ id, M.get id = if B.contains id = true then some (.int .i64 1) else none
def PushPost (w : World) (base : Nat) (T : TypeId) (V : Value) (bm gm ms bs : Nat) (Ao : Option Addr) (mo co : Nat) (out : Ids) (R : Except Int (Ids × List PlcT)) (e : Ending) (w' : World) : Prop :=
  Below base w w' ∧ match R with
    | .ok x => e = .returned (.int .i64 0) ∧ ∃ M A n c, MK w' base T V bm gm ms bs M A n c x.2 Ao mo co out ∧ SeenM M x.1
    | .error z => e = .returned (.int .i64 z) ∧ z ≠ 0
theorem SeenM.set {M : IM} {B : Ids} (h : SeenM M B) (id : List UInt8) : SeenM (M.set id (.int .i64 1)) (id :: B) := fun x => by
  rw [IM.get_set, h x, List.contains_cons]
  by_cases hx : id = x
  · subst hx; simp
  · have h1 : (id == x) = false := by simpa using hx
    have h2 : (x == id) = false := by simpa using fun e => hx e.symm
    simp [h1, h2]
theorem step_mapEntry {P : Program} {Q : Exit → Act → World → Prop} {o : Oper} {a : Act} {w w' : World} {K : Act → World → Prop} {E : Prop} (hgd : o.guard = none) (x y : Operand) {ty : TypeId} (ho : o.op = .mapEntry ty x y)
    {vx vy v : Value} (hx : a.eval x = vx) (hy : a.eval y = vy) (hr : (Instr.mapEntry ty vx vy).run P w = .ok v w') (h : K (a.put o.dst v) w') :
    ∀ {ops : Array Oper}, if Region.wanted o (yielded ops a.tmps) = true then Oper.wp P o a w K Q else E := by
  intro ops
  have hw : Region.wanted o (yielded ops a.tmps) = true := by simp [Region.wanted, hgd]
  rw [if_pos hw]
  unfold Oper.wp execOp
  simp only [ho, hx, hy, Sem.run_bind, Sem.run_pure, Result.andThen_ok, hr]
  exact h
theorem step_entryStore {P : Program} {Q : Exit → Act → World → Prop} {o : Oper} {a : Act} {w w' : World} {K : Act → World → Prop} {E : Prop} (hgd : o.guard = none) (x y z : Operand) {ty : TypeId} (ho : o.op = .entryStore ty x y z)
    {vx vy vz : Value} (hx : a.eval x = vx) (hy : a.eval y = vy) (hz : a.eval z = vz) (hr : (Instr.entryStore ty vx vy vz).run P w = .ok () w') (h : K (a.put o.dst undef) w') :
    ∀ {ops : Array Oper}, if Region.wanted o (yielded ops a.tmps) = true then Oper.wp P o a w K Q else E := by
  intro ops
  have hw : Region.wanted o (yielded ops a.tmps) = true := by simp [Region.wanted, hgd]
  rw [if_pos hw]
  unfold Oper.wp execOp
  simp only [ho, hx, hy, hz, Sem.run_bind, Sem.run_pure, Result.andThen_ok, hr]
  exact h
theorem zeroInt (w : World) : (zeroValue 3).run Try.prog w = .ok (.int .i64 0) w := by kernel_rfl
/-- as long as the entry has not got its number -/
structure EC (wq w : World) (ms : Nat) (id : List UInt8) : Prop where
  grown : wq.grownBy w (some ms)
  look : ∃ M, MapW w ms M ∧ (M.get id).getD (.int .i64 0) = .int .i64 0

set_option maxRecDepth 100000 in
set_option maxHeartbeats 8000000 in
theorem push_any {T : TypeId} {V : Value} {K : Nat} {S : List UInt8 → Option (List UInt8)} {base bm gm ms bs : Nat} {M : IM} {A : Option Addr} {n c : Nat} {st : List PlcT} {Ao : Option Addr} {mo co : Nat} {out B : Ids} (W0 w : World) (hS : SrcK W0 T V K S) (hB : Below W0.heap.size W0 w) (hbase : W0.heap.size ≤ base)
    (h : MK w base T V bm gm ms bs M A n c st Ao mo co out) (hM : SeenM M B) (id : List UInt8) (hid : id.length = 32) (hn : n ≤ 1000000000) :
    Calls Try.prog 43 #[idV id, .pointer (some ⟨bm, 0, none⟩), .pointer (some ⟨bs, 0, none⟩)] w (PushPost w base T V bm gm ms bs Ao mo co out (pushP S id B st)) := by
  have hnil := hS.nil
  have hmet := hS.meth
  have hcall := hS.call
  obtain ⟨KI, hKI⟩ : ∃ KI, KI = (bytesV id).toArray := ⟨_, rfl⟩
  have HII := Lib.hid (show (Try.prog.info? 33).map (·.size) = some KI.size by rw [hKI]; exact oid_size hid)
  have HSR := Lib.hid (fun w hw => hS.get w hw id hid)
  rw [show idV id = .agg KI by rw [hKI]] at HSR ⊢
  obtain ⟨w1, hw1⟩ : ∃ w1, w1 = w.alloc (.cells KI 33) := ⟨_, rfl⟩
  have HB1 := Lib.hid (show Below w.heap.size w w1 by rw [hw1]; exact (Below.refl _ _).alloc (Nat.le_refl _) _)
  have HK1 := Lib.hid (show Blk w1 w.heap.size 33 KI by rw [hw1]; exact Blk.new w _ _)
  have HM1 := Lib.hid (h.go HB1.out)
  have HBS := Lib.hid (show Below base w w1 from HB1.out.mono h.size)
  have HBW := Lib.hid (hB.trans (HB1.out.mono hB.size))
  have HBASE := Lib.hid hbase
  have HBW0 := Lib.hid hB
  have HSZ := Lib.hid h.size
  have HW := Lib.hid hw1
  have HSEEN := Lib.hid hM
  have HID := Lib.hid hid
  have HN := Lib.hid hn
  have HKI := Lib.hid hKI
  have HCB := Lib.hid (show w1.cell? ⟨bm, 0, none⟩ = some (.pointer (some ⟨gm, 0, none⟩)) from HM1.out.box.cell 0)
  have HCM := Lib.hid (show w1.cell? ⟨gm, 1, none⟩ = some (.map (some ms)) from HM1.out.mrk.cell 1)
  have hbl := HM1.out.box.lt
  have hgl := HM1.out.mrk.lt
  have hwl : w.heap.size < w1.heap.size := HK1.out.lt
  have hdr : Below w1.heap.size w1 w1.drew := Same.below ⟨1, rfl⟩ _
  have HDR := Lib.hid hdr
  obtain ⟨R, hR⟩ : ∃ R, R = pushP S id B st := ⟨_, rfl⟩
  have HR := Lib.hid hR
  rw [← hR]
  have HLK := Lib.hid (fun w' (hb : Below w1.heap.size w1 w') => by
    have h1 := (HM1.out.map.below hb).lookup hid Try.underlying84 (zeroInt w') false
    rw [show idV id = .agg KI by rw [hKI], HSEEN.out id] at h1
    exact h1)
  clear hS hB h hKI hw1 hR hid hM hbase
  cases hc : B.contains id with
  | true =>
    have HLK2 := Lib.hid (fun w' hb => show (Instr.lookup 84 (.map (some ms)) (.agg KI) false).run Try.prog w' = .ok (.int .i64 1) w' by
      have := HLK.out w' hb
      rw [hc] at this
      exact this)
    have HR2 := Lib.hid (show R = .ok (B, st) by rw [HR.out]; unfold pushP; rw [if_pos hc])
    clear HLK hc HR HSR HBW hdr
    go_enter Try.func43, Try.ntmps43
    go_upto_region 1 with fail
    rw [← HW.out]
    clear HW
    generalize hgw : w.heap.size = gw at *
    refine wp_region_held (S := fun w' => Below w1.heap.size w1 w') (by kernel_rfl) ?_
    change wpAnyH _ _ _ _ _ _ _ _ (World.drew _)
    refine held_take (i := 0) (v := ?_) (a' := ?_) rfl (by kernel_rfl) (by kernel_rfl) (by kernel_rfl) (fun _ _ _ h => h) (by rfl) HDR.out ?_ ?_ ?_
    rotate_left 2
    · (intro w hS; have t := (hS.cell (p := ⟨bm, 0, none⟩) hbl).trans HCB.out; go_simp; try with_reducible rfl)
    · (go_simp; try with_reducible rfl)
    refine held_take (i := 1) (v := ?_) (a' := ?_) rfl (by kernel_rfl) (by kernel_rfl) (by kernel_rfl) (fun _ _ _ h => h) (by rfl) HDR.out ?_ ?_ ?_
    rotate_left 2
    · (intro w hS; go_simp; try with_reducible rfl)
    · (go_simp; try with_reducible rfl)
    refine held_take (i := 2) (v := ?_) (a' := ?_) rfl (by kernel_rfl) (by kernel_rfl) (by kernel_rfl) (fun _ _ _ h => h) (by rfl) HDR.out ?_ ?_ ?_
    rotate_left 2
    · (intro w hS; go_simp; try with_reducible rfl)
    · (go_simp; try with_reducible rfl)
    refine held_take (i := 3) (v := ?_) (a' := ?_) rfl (by kernel_rfl) (by kernel_rfl) (by kernel_rfl) (fun _ _ _ h => h) (by rfl) HDR.out ?_ ?_ ?_
    rotate_left 2
    · (intro w hS; have t := (hS.cell (p := ⟨gm, 1, none⟩) hgl).trans HCM.out; go_simp; try with_reducible rfl)
    · (go_simp; try with_reducible rfl)
    refine held_take (i := 4) (v := ?_) (a' := ?_) rfl (by kernel_rfl) (by kernel_rfl) (by kernel_rfl) (fun _ _ _ h => h) (by rfl) HDR.out ?_ ?_ ?_
    rotate_left 2
    · (intro w hS; refine exec_load_at 33 (.tmp 3) ?_ gw 0 ?_ KI _ (At.of_row (HK1.out.below hS hwl)) Try.underlying33 rfl HII.out; exact rfl; exact rfl)
    · (go_simp; try with_reducible rfl)
    refine held_take (i := 5) (v := ?_) (a' := ?_) rfl (by kernel_rfl) (by kernel_rfl) (by kernel_rfl) (fun _ _ _ h => h) (by rfl) HDR.out ?_ ?_ ?_
    rotate_left 2
    · (intro w hS; have t := HLK2.out w hS; go_simp; try with_reducible rfl)
    · (go_simp; try with_reducible rfl)
    refine held_take (i := 6) (v := ?_) (a' := ?_) rfl (by kernel_rfl) (by kernel_rfl) (by kernel_rfl) (fun _ _ _ h => h) (by rfl) HDR.out ?_ ?_ ?_
    rotate_left 2
    · (intro w hS; go_simp; try with_reducible rfl)
    · (go_simp; try with_reducible rfl)
    refine wpAnyH_done (by kernel_rfl) ?_ _
    go_wp2_with fail
    go_ret
    rw [HR2.out]
    exact ⟨HBS.out.trans (HDR.out.mono (Nat.le_trans HSZ.out (Nat.le_of_lt hwl))), rfl, M, A, n, c, HM1.out.go HDR.out, HSEEN.out⟩
  | false =>
    have HLK2 := Lib.hid (fun w' hb => show (Instr.lookup 84 (.map (some ms)) (.agg KI) false).run Try.prog w' = .ok (.int .i64 0) w' by
      have := HLK.out w' hb
      rw [hc] at this
      exact this)
    have HR2 := Lib.hid (show R = match S id with
      | none => .error 4
      | some b => match linksG b with
        | .ok l => .ok (id :: B, (id, l) :: st)
        | .error z => .error z by rw [HR.out]; unfold pushP; rw [hc]; rfl)
    clear HLK hc HR hdr
    go_enter Try.func43, Try.ntmps43
    go_upto_region 1 with fail
    rw [← HW.out]
    clear HW
    generalize hgw : w.heap.size = gw at *
    have HGW := Lib.hid hgw
    clear hgw
    refine wp_region_held (S := fun w' => Below w1.heap.size w1 w') (by kernel_rfl) ?_
    change wpAnyH _ _ _ _ _ _ _ _ (World.drew _)
    refine held_take (i := 0) (v := ?_) (a' := ?_) rfl (by kernel_rfl) (by kernel_rfl) (by kernel_rfl) (fun _ _ _ h => h) (by rfl) HDR.out ?_ ?_ ?_
    rotate_left 2
    · (intro w hS; have t := (hS.cell (p := ⟨bm, 0, none⟩) hbl).trans HCB.out; go_simp; try with_reducible rfl)
    · (go_simp; try with_reducible rfl)
    refine held_take (i := 1) (v := ?_) (a' := ?_) rfl (by kernel_rfl) (by kernel_rfl) (by kernel_rfl) (fun _ _ _ h => h) (by rfl) HDR.out ?_ ?_ ?_
    rotate_left 2
    · (intro w hS; go_simp; try with_reducible rfl)
    · (go_simp; try with_reducible rfl)
    refine held_take (i := 2) (v := ?_) (a' := ?_) rfl (by kernel_rfl) (by kernel_rfl) (by kernel_rfl) (fun _ _ _ h => h) (by rfl) HDR.out ?_ ?_ ?_
    rotate_left 2
    · (intro w hS; go_simp; try with_reducible rfl)
    · (go_simp; try with_reducible rfl)
    refine held_take (i := 3) (v := ?_) (a' := ?_) rfl (by kernel_rfl) (by kernel_rfl) (by kernel_rfl) (fun _ _ _ h => h) (by rfl) HDR.out ?_ ?_ ?_
    rotate_left 2
    · (intro w hS; have t := (hS.cell (p := ⟨gm, 1, none⟩) hgl).trans HCM.out; go_simp; try with_reducible rfl)
    · (go_simp; try with_reducible rfl)
    refine held_take (i := 4) (v := ?_) (a' := ?_) rfl (by kernel_rfl) (by kernel_rfl) (by kernel_rfl) (fun _ _ _ h => h) (by rfl) HDR.out ?_ ?_ ?_
    rotate_left 2
    · (intro w hS; refine exec_load_at 33 (.tmp 3) ?_ gw 0 ?_ KI _ (At.of_row (HK1.out.below hS hwl)) Try.underlying33 rfl HII.out; exact rfl; exact rfl)
    · (go_simp; try with_reducible rfl)
    refine held_take (i := 5) (v := ?_) (a' := ?_) rfl (by kernel_rfl) (by kernel_rfl) (by kernel_rfl) (fun _ _ _ h => h) (by rfl) HDR.out ?_ ?_ ?_
    rotate_left 2
    · (intro w hS; have t := HLK2.out w hS; go_simp; try with_reducible rfl)
    · (go_simp; try with_reducible rfl)
    refine held_take (i := 6) (v := ?_) (a' := ?_) rfl (by kernel_rfl) (by kernel_rfl) (by kernel_rfl) (fun _ _ _ h => h) (by rfl) HDR.out ?_ ?_ ?_
    rotate_left 2
    · (intro w hS; go_simp; try with_reducible rfl)
    · (go_simp; try with_reducible rfl)
    refine wpAnyH_done (by kernel_rfl) ?_ _
    go_upto_region 3 with fail
    obtain ⟨wq, hwq⟩ : ∃ wq, wq = w1.drew.drew := ⟨_, rfl⟩
    have HQ := Lib.hid (show Below w1.heap.size w1 wq by rw [hwq]; exact Same.below ⟨2, rfl⟩ _)
    have HMQ := Lib.hid (HM1.out.go HQ.out)
    have HKQ := Lib.hid (HK1.out.below HQ.out hwl)
    have HNB := Lib.hid (show some bm ≠ some ms from fun e => blk_map HMQ.out.box HMQ.out.map (Option.some.inj e))
    have HNG := Lib.hid (show some gm ≠ some ms from fun e => blk_map HMQ.out.mrk HMQ.out.map (Option.some.inj e))
    have HNW := Lib.hid (show some gw ≠ some ms from fun e => blk_map HKQ.out HMQ.out.map (Option.some.inj e))
    have HEC := Lib.hid (show EC wq wq ms id from ⟨grown_refl _ _, M, HMQ.out.map, by
      have h1 := HMQ.out.map.lookup HID.out Try.underlying84 (zeroInt wq) false
      have h2 := HLK2.out wq HQ.out
      rw [show idV id = .agg KI by rw [HKI.out]] at h1
      rw [h2] at h1
      injection h1 with h1
      exact h1.symm⟩)
    have HEL := Lib.hid (fun w' (hE : EC wq w' ms id) => show (Instr.lookup 84 (.map (some ms)) (.agg KI) false).run Try.prog w' = .ok (.int .i64 0) w' by
      obtain ⟨M', h1, h2⟩ := hE.look
      have h3 := h1.lookup HID.out Try.underlying84 (zeroInt w') false
      rw [h2, show idV id = .agg KI by rw [HKI.out]] at h3
      exact h3)
    obtain ⟨w2, s, hent, hmw2, hea2, hg2, _⟩ := HMQ.out.map.entry HID.out Try.underlying84 (zeroInt wq)
    obtain ⟨w3, hsto, hmw3, hg3, _⟩ := hmw2.entryStore (t := 84) hea2 (.int .i64 1)
    rw [show idV id = .agg KI by rw [HKI.out]] at hent
    have hz0 : (M.get id).getD (.int .i64 0) = .int .i64 0 := by
      have h1 := HMQ.out.map.lookup HID.out Try.underlying84 (zeroInt wq) false
      have h2 := HLK2.out wq HQ.out
      rw [show idV id = .agg KI by rw [HKI.out]] at h1
      rw [h2] at h1
      injection h1 with h1
      exact h1.symm
    rw [hz0] at hent hmw2 hmw3
    have hc7 : EC wq w2 ms id := ⟨hg2, _, hmw2, by rw [IM.get_set]; simp⟩
    have HM3 := Lib.hid (show MK w3 base T V bm gm ms bs (M.set id (.int .i64 1)) A n c st Ao mo co out from HMQ.out.turn_map (grown_trans hg2 hg3) (by
      rw [IM.set_set _ _ _ _ HMQ.out.map.nodup] at hmw3
      exact hmw3))
    have HSN := Lib.hid (HSEEN.out.set id)
    have HG3 := Lib.hid (grown_trans hg2 hg3)
    have HB3 := Lib.hid (show Below base w w3 from (HBS.out.trans (HQ.out.mono (by have := HSZ.out; omega))).trans (HMQ.out.below_map (grown_trans hg2 hg3)))
    have HK3 := Lib.hid (HKQ.out.grown HG3.out HNW.out)
    have HWQ := Lib.hid hwq
    have hsI : (0 : Int) + 1 = 1 := rfl
    clear hwq hmw2 hmw3 hea2 hg2 hg3 HSEEN HLK2 HM1 HK1 hz0 HCB HCM HB1 HBS
    refine wp_region_late (S := fun w' => EC wq w' ms id) (s := 9) (by kernel_rfl) ?_
    change wpAnyL _ _ _ _ _ _ _ _ _ (World.drew _)
    rw [← HWQ.out]
    refine late_load (i := 0) (m := 0) (v := ?_) (a' := ?_) rfl (by kernel_rfl) (by kernel_rfl) (by kernel_rfl) (by kernel_rfl) (by rfl) (fun _ _ _ h => h) (by rfl) HEC.out ?_ ?_ ?_
    rotate_left 2
    · (intro w hS; have t := ((HMQ.out.box.grown hS.grown HNB.out).cell 0); go_simp; try with_reducible rfl)
    · (go_simp; try with_reducible rfl)
    refine late_pure (i := 1) (v := ?_) (a' := ?_) rfl (by kernel_rfl) (by kernel_rfl) (by kernel_rfl) (by rfl) (fun _ _ _ h => h) (by rfl) (fun _ => HEC.out) ?_ ?_ ?_
    rotate_left 2
    · (intro w; go_simp; try with_reducible rfl)
    · (go_simp; try with_reducible rfl)
    refine late_pure (i := 2) (v := ?_) (a' := ?_) rfl (by kernel_rfl) (by kernel_rfl) (by kernel_rfl) (by rfl) (fun _ _ _ h => h) (by rfl) (fun _ => HEC.out) ?_ ?_ ?_
    rotate_left 2
    · (intro w; go_simp; try with_reducible rfl)
    · (go_simp; try with_reducible rfl)
    refine late_load (i := 3) (m := 3) (v := ?_) (a' := ?_) rfl (by kernel_rfl) (by kernel_rfl) (by kernel_rfl) (by kernel_rfl) (by rfl) (fun _ _ _ h => h) (by rfl) HEC.out ?_ ?_ ?_
    rotate_left 2
    · (intro w hS; have t := ((HMQ.out.mrk.grown hS.grown HNG.out).cell 1); go_simp; try with_reducible rfl)
    · (go_simp; try with_reducible rfl)
    refine late_load (i := 4) (m := 4) (v := ?_) (a' := ?_) rfl (by kernel_rfl) (by kernel_rfl) (by kernel_rfl) (by kernel_rfl) (by rfl) (fun _ _ _ h => h) (by rfl) HEC.out ?_ ?_ ?_
    rotate_left 2
    · (intro w hS; refine exec_load_at 33 (.tmp 3) ?_ gw 0 ?_ KI _ (At.of_row (HKQ.out.grown hS.grown HNW.out)) Try.underlying33 rfl HII.out; exact rfl; exact rfl)
    · (go_simp; try with_reducible rfl)
    refine late_load (i := 5) (m := 5) (v := ?_) (a' := ?_) rfl (by kernel_rfl) (by kernel_rfl) (by kernel_rfl) (by kernel_rfl) (by rfl) (fun _ _ _ h => h) (by rfl) HEC.out ?_ ?_ ?_
    rotate_left 2
    · (intro w hS; have t := HEL.out w hS; go_simp; try with_reducible rfl)
    · (go_simp; try with_reducible rfl)
    refine late_pure (i := 6) (v := ?_) (a' := ?_) rfl (by kernel_rfl) (by kernel_rfl) (by kernel_rfl) (by rfl) (fun _ _ _ h => h) (by rfl) (fun _ => HEC.out) ?_ ?_ ?_
    rotate_left 2
    · (intro w; go_simp; try with_reducible rfl)
    · (go_simp; try with_reducible rfl)
    refine late_one (i := 7) (by kernel_rfl) rfl (fun KR hKR => ?_)
    refine step_mapEntry rfl (.tmp 18) (.tmp 19) rfl rfl rfl hent ?_
    refine hKR _ _ (fun _ => hc7) ?_
    clear hKR KR
    refine late_pure (i := 8) (v := ?_) (a' := ?_) rfl (by kernel_rfl) (by kernel_rfl) (by kernel_rfl) (by rfl) (fun _ _ _ h => h) (by rfl) (fun _ => hc7) ?_ ?_ ?_
    rotate_left 2
    · (intro w; go_simp; try with_reducible rfl)
    · (go_simp; try with_reducible rfl)
    refine late_one (i := 9) (by kernel_rfl) rfl (fun KR hKR => ?_)
    refine step_entryStore rfl (.tmp 18) (.tmp 23) (.tmp 21) rfl rfl rfl rfl hsto ?_
    refine hKR _ _ (fun h0 => Bool.noConfusion (show (true : Bool) = false from h0)) ?_
    clear hKR KR
    refine late_done' (by kernel_rfl) ?_ _
    go_upto_region 4 with fail
    clear hent hsto HEC HEL hc7 HMQ HKQ HNB HNG HNW
    obtain ⟨wd, hwd⟩ : ∃ wd, wd = w3.drew := ⟨_, rfl⟩
    have hdd : Below w3.heap.size w3 wd := by rw [hwd]; exact Same.below ⟨1, rfl⟩ _
    have HMD := Lib.hid (HM3.out.go hdd)
    have HKD := Lib.hid (HK3.out.below hdd HK3.out.lt)
    have hgd := HKD.out.lt
    have hbd := HMD.out.box.lt
    have hmd := HMD.out.mrk.lt
    have HBD := Lib.hid (HB3.out.trans (hdd.mono (by have := HSZ.out; have := HB3.out.size; have := HGW.out; omega)))
    have HB0 := Lib.hid (show Below W0.heap.size W0 w from HBW0.out)
    have HCL := Lib.hid (HSR.out wd (HB0.out.trans (HBD.out.mono HBASE.out)))
    have HCB := Lib.hid (show wd.cell? ⟨bm, 0, none⟩ = some (.pointer (some ⟨gm, 0, none⟩)) from HMD.out.box.cell 0)
    have HCI := Lib.hid (show wd.cell? ⟨gm, 0, none⟩ = some (.iface T V) from HMD.out.mrk.cell 0)
    have HWD := Lib.hid hwd
    clear hwd hdd HM3 HK3 HB3 HSR HBW HG3 HQ HB0 HBW0
    refine wp_region_held (S := fun w' => Below wd.heap.size wd w') (by kernel_rfl) ?_
    change wpAnyH _ _ _ _ _ _ _ _ (World.drew _)
    rw [← HWD.out]
    refine held_take (i := 0) (v := ?_) (a' := ?_) rfl (by kernel_rfl) (by kernel_rfl) (by kernel_rfl) (fun _ _ _ h => h) (by rfl) (Below.refl _ _) ?_ ?_ ?_
    rotate_left 2
    · (intro w hS; have t := (hS.cell (p := ⟨bm, 0, none⟩) hbd).trans HCB.out; go_simp; try with_reducible rfl)
    · (go_simp; try with_reducible rfl)
    refine held_take (i := 1) (v := ?_) (a' := ?_) rfl (by kernel_rfl) (by kernel_rfl) (by kernel_rfl) (fun _ _ _ h => h) (by rfl) (Below.refl _ _) ?_ ?_ ?_
    rotate_left 2
    · (intro w hS; go_simp; try with_reducible rfl)
    · (go_simp; try with_reducible rfl)
    refine held_take (i := 2) (v := ?_) (a' := ?_) rfl (by kernel_rfl) (by kernel_rfl) (by kernel_rfl) (fun _ _ _ h => h) (by rfl) (Below.refl _ _) ?_ ?_ ?_
    rotate_left 2
    · (intro w hS; go_simp; try with_reducible rfl)
    · (go_simp; try with_reducible rfl)
    refine held_take (i := 3) (v := ?_) (a' := ?_) rfl (by kernel_rfl) (by kernel_rfl) (by kernel_rfl) (fun _ _ _ h => h) (by rfl) (Below.refl _ _) ?_ ?_ ?_
    rotate_left 2
    · (intro w hS; have t := (hS.cell (p := ⟨gm, 0, none⟩) hmd).trans HCI.out; go_simp; try with_reducible rfl)
    · (go_simp; try with_reducible rfl)
    refine held_take (i := 4) (v := ?_) (a' := ?_) rfl (by kernel_rfl) (by kernel_rfl) (by kernel_rfl) (fun _ _ _ h => h) (by rfl) (Below.refl _ _) ?_ ?_ ?_
    rotate_left 2
    · (intro w hS; refine exec_load_at 33 (.tmp 3) ?_ gw 0 ?_ KI _ (At.of_row (HKD.out.below hS hgd)) Try.underlying33 rfl HII.out; exact rfl; exact rfl)
    · (go_simp; try with_reducible rfl)
    refine held_ready (rs := [5]) (by kernel_rfl) (by simp) ?_
    refine AllHeld.cons rfl (fun KR hKR => ?_) ?_
    · go_simp
      refine HCL.out.mono ?_
      intro e w4 hp
      obtain ⟨A2, n2, c2, z2, rfl⟩ := hp.form
      have hc5 := hp.1
      have HP := Lib.hid hp
      refine hKR _ _ hc5 ?_
      clear hKR KR
      refine held_take (i := 6) (v := ?_) (a' := ?_) rfl (by kernel_rfl) (by kernel_rfl) (by kernel_rfl) (fun _ _ _ h => h) (by rfl) hc5 ?_ ?_ ?_
      rotate_left 2
      · (intro w hS; go_simp; try with_reducible rfl)
      · (go_simp; try with_reducible rfl)
      refine held_take (i := 7) (v := ?_) (a' := ?_) rfl (by kernel_rfl) (by kernel_rfl) (by kernel_rfl) (fun _ _ _ h => h) (by rfl) hc5 ?_ ?_ ?_
      rotate_left 2
      · (intro w hS; go_simp; try with_reducible rfl)
      · (go_simp; try with_reducible rfl)
      refine held_take (i := 8) (v := ?_) (a' := ?_) rfl (by kernel_rfl) (by kernel_rfl) (by kernel_rfl) (fun _ _ _ h => h) (by rfl) hc5 ?_ ?_ ?_
      rotate_left 2
      · (intro w hS; go_simp; try with_reducible rfl)
      · (go_simp; try with_reducible rfl)
      refine held_take (i := 9) (v := ?_) (a' := ?_) rfl (by kernel_rfl) (by kernel_rfl) (by kernel_rfl) (fun _ _ _ h => h) (by rfl) hc5 ?_ ?_ ?_
      rotate_left 2
      · (intro w hS; go_simp; try with_reducible rfl)
      · (go_simp; try with_reducible rfl)
      refine held_take (i := 10) (v := ?_) (a' := ?_) rfl (by kernel_rfl) (by kernel_rfl) (by kernel_rfl) (fun _ _ _ h => h) (by rfl) hc5 ?_ ?_ ?_
      rotate_left 2
      · (intro w hS; go_simp; try with_reducible rfl)
      · (go_simp; try with_reducible rfl)
      refine wpAnyH_done (by kernel_rfl) ?_ _
      clear hp
      have HM4 := Lib.hid (HMD.out.go hc5)
      have HB4 := Lib.hid (HBD.out.trans (hc5.mono HMD.out.size))
      have HK4 := Lib.hid (HKD.out.below hc5 hgd)
      clear HMD HKD HBD hc5 HCL HCB HCI
      cases hsi : S id with
      | none =>
        have hp := HP.out
        rw [hsi] at hp
        obtain ⟨_, A5, n5, c5, hp⟩ := hp
        injection hp with hp
        injection hp with hp
        have hp : #[Value.slice A2 n2 c2, .int .i64 z2] = #[.slice A5 n5 c5, .int .i64 4] := hp
        have hp := congrArg Array.toList hp
        injection hp with hp1 hp2
        injection hp2 with hp2 _
        injection hp2 with _ hp2
        subst hp2
        have HR3 := Lib.hid (show R = .error 4 by rw [HR2.out, hsi])
        clear hp1 hsi HP HR2
        go_wp2_with fail
        go_ret
        rw [HR3.out]
        exact ⟨HB4.out, rfl, by decide⟩
      | some b =>
        have hp := HP.out
        rw [hsi] at hp
        obtain ⟨_, A5, c5, hp, hs5, hl5, hm5⟩ := hp
        injection hp with hp
        injection hp with hp
        have hp : #[Value.slice A2 n2 c2, .int .i64 z2] = #[.slice A5 b.length c5, .int .i64 0] := hp
        have hp := congrArg Array.toList hp
        injection hp with hp1 hp2
        injection hp2 with hp2 _
        injection hp2 with _ hp2
        subst hp2
        injection hp1 with hp1 hp3 hp4
        subst hp1 hp3 hp4
        have HLN := Lib.hid (links_any A2 b.length c2 b w4 (slOf_bytes hs5) hl5 hm5)
        have HR3 := Lib.hid (show R = match linksG b with
              | .ok l => .ok (id :: B, (id, l) :: st)
              | .error z => .error z by rw [HR2.out, hsi])
        obtain ⟨nb, hnb⟩ : ∃ nb, nb = b.length := ⟨_, rfl⟩
        rw [← hnb] at HLN ⊢
        clear hs5 hl5 hm5 hsi HP HR2 hnb
        obtain ⟨lx, hlx⟩ : ∃ lx, lx = linksG b := ⟨_, rfl⟩
        rw [← hlx] at HLN HR3
        have HER := Lib.hid (fun z (e : lx = .error z) => show z ≠ 0 from linksG_err (hlx.symm.trans e))
        clear hlx
        go_wp2_with fail
        refine HLN.out.mono ?_
        intro e w5 hp
        obtain ⟨⟨A6, c6, rfl, hs6, hl6, hm6⟩, hb6⟩ := hp.lk
        have HM5 := Lib.hid (HM4.out.go hb6)
        have HK5 := Lib.hid (HK4.out.below hb6 HK4.out.lt)
        have HB5 := Lib.hid (HB4.out.trans (hb6.mono HM4.out.size))
        obtain ⟨A7, c7, w7, hrun, b4, hb7, hm7, hb8⟩ := HM5.out.push HID.out hl6 hm6 hs6 (fun b hb => HM4.out.av_lt hb) hn
        obtain ⟨nl, hnl⟩ : ∃ nl, nl = (lkL lx).length := ⟨_, rfl⟩
        obtain ⟨KP, hKP⟩ : ∃ KP, KP = plcK id A6 nl c6 := ⟨_, rfl⟩
        have HBP := Lib.hid (show Try.prog.built 111 [(0, .agg KI), (1, .slice A6 nl c6)] = some KP by rw [hKP, HKI.out]; exact built_plc A6 nl c6 id HID.out)
        have hks : KP.size = 33 := by rw [hKP]; exact plcK_size HID.out _ _ _
        have hbp := fun w => bsPlc_of w KP hks
        rw [← hnl, ← hKP] at hrun
        have HCS := Lib.hid (show w5.cell? ⟨bs, 0, none⟩ = some (.slice A n c) from HM5.out.bst.cell 0)
        have HM7 := Lib.hid hm7
        have HB8 := Lib.hid (HB5.out.trans hb8)
        have t1 := b4.cell 0
        have t2 := b4.frozen 0
        have t3 : w5.cell? ⟨bs, 0, none⟩ = some (.slice A n c) := HM5.out.bst.cell 0
        rw [← hnl]
        clear hp hs6 hl6 hm6 hb6 hb7 hm7 hb8 HLN b4 hnl hKP hks HM4 HK4 HB4 HCS
        go_wp2_with (first
          | (refine wpList_load_at rfl _ _ rfl gw 0 rfl KI _ (At.of_row HK5.out) Try.underlying33 rfl HII.out ?_)
          | (refine wpList_built2 rfl 111 (.tmp 42) (.tmp 43) rfl KP rfl rfl HBP.out ?_)
          | (refine wpList_build1 rfl (.tmp 44) rfl (.agg KP) _ rfl (hbp _) ?_)
          | (at_builtin; refine wpList_run_append hrun ?_ ?_ ?_; exact rfl; exact rfl) | fail)
        go_ret
        rw [HR3.out]
        cases lx with
        | error z => exact ⟨HB8.out, rfl, HER.out z rfl⟩
        | ok l => exact ⟨HB8.out, rfl, _, _, _, _, HM7.out, HSN.out⟩
    exact AllHeld.nil
end Go.Proofs.Ytgmbkcjihgphmaa
