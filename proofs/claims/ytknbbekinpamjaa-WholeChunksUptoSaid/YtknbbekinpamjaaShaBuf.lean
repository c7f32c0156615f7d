/- A buffer that is cut ahead and appended to behind: a slice of the call's own at any place of its row. -/
import Derived.Test.YtknbbekinpamjaaShaLoad
import Derived.Deep.Upon
import Derived.Deep.MidRow
set_option linter.unusedVariables false
namespace Go.Proofs.Ytknbbekinpamjaa
open Go.RowKit

/-- the slice at A with n elements of one cell and capacity c is the call's own and reads as cs -/
structure Buf (w : World) (base : Nat) (A : Option Addr) (n c : Nat) (cs : List Value) : Prop where
  len : cs.length = n
  le : n ≤ c
  max : c ≤ maxLen
  mem : 0 < c → ∃ g off, A = some ⟨g, off, none⟩ ∧ base ≤ g ∧ g < w.heap.size ∧ (∀ j u, cs[j]? = some u → w.cell? ⟨g, off + j, none⟩ = some u) ∧
    ∀ j, j < c → (w.cell? ⟨g, off + j, none⟩).isSome = true ∧ w.frozen? ⟨g, off + j, none⟩ = false

section
variable {w w' : World} {base : Nat} {A : Option Addr} {n c : Nat} {cs : List Value}
theorem Buf.nil : Buf w base none 0 0 [] := ⟨rfl, Nat.le_refl _, by simp [maxLen], fun h => absurd h (by omega)⟩
theorem Buf.sl (h : Buf w base A n c cs) : Sl w 1 A n cs := ⟨by rw [h.len, Nat.mul_one], fun hn => by
  obtain ⟨g, off, e, _, hl, hc, _⟩ := h.mem (by have := h.le; omega)
  exact ⟨g, off, e, hl, hc⟩⟩
theorem Buf.at (h : Buf w base A n c cs) (hn : 0 < c) : ∃ g off, A = some ⟨g, off, none⟩ ∧ base ≤ g ∧ g < w.heap.size := by
  obtain ⟨g, off, e, hb, hl, _⟩ := h.mem hn
  exact ⟨g, off, e, hb, hl⟩
/-- it stays while no block from base on turns -/
theorem Buf.keep (h : Buf w base A n c cs) (hk : ∀ b, base ≤ b → b < w.heap.size → w'.heap[b]? = w.heap[b]?) (hs : w.heap.size ≤ w'.heap.size) : Buf w' base A n c cs :=
  ⟨h.len, h.le, h.max, fun hc => by
    obtain ⟨g, off, e, hb, hl, h1, h2⟩ := h.mem hc
    refine ⟨g, off, e, hb, by omega, fun j u hu => ?_, fun j hj => ⟨?_, ?_⟩⟩
    · rw [World.cell?_of_block (a := ⟨g, off + j, none⟩) (hk g hb hl)]; exact h1 j u hu
    · rw [World.cell?_of_block (a := ⟨g, off + j, none⟩) (hk g hb hl)]; exact (h2 j hj).1
    · rw [World.frozen?_of_block (a := ⟨g, off + j, none⟩) (hk g hb hl)]; exact (h2 j hj).2⟩
theorem Buf.grown (h : Buf w base A n c cs) {G : Nat} (hg : w.grownBy w' (some G)) (hG : G < base) : Buf w' base A n c cs :=
  h.keep (fun b hb hl => hg.block b hl (by intro e; injection e with e; omega)) hg.size
theorem Buf.alloc (h : Buf w base A n c cs) (o : Obj) : Buf (w.alloc o) base A n c cs :=
  h.keep (fun b _ hl => Below.heap_alloc w o b hl) (by simp)
theorem Buf.setCell (h : Buf w base A n c cs) {p : Addr} (hp : p.block < base) (u : Value) : Buf (w.setCell p u) base A n c cs :=
  h.keep (fun b hb _ => Below.heap_setCell w p u b (by omega)) ((Below.refl 0 w).setCell (p := p) (Nat.zero_le _) u).size
theorem Buf.same (h : Buf w base A n c cs) (hs : Same w w') : Buf w' base A n c cs := h.keep (fun b _ _ => by rw [hs.heap]) (by rw [hs.heap]; exact Nat.le_refl _)
theorem Buf.cut (h : Buf w base A n c cs) {k : Nat} (hk : k ≤ n) : Buf w base (cutA A c k) (n - k) (c - k) (cs.drop k) :=
  ⟨by rw [List.length_drop, h.len], by have := h.le; omega, by have := h.max; omega, fun hc => by
    obtain ⟨g, off, e, hb, hl, h1, h2⟩ := h.mem (by omega)
    subst e
    refine ⟨g, off + k, by rw [cutA, if_neg (by omega)]; simp [addr_add], hb, hl, fun j u hu => ?_, fun j hj => ?_⟩
    · rw [Nat.add_assoc]; exact h1 _ u (by rw [← hu, List.getElem?_drop])
    · rw [Nat.add_assoc]; exact h2 _ (by omega)⟩
end

theorem below_setCells {B g : Nat} {a : World} (hg : B ≤ g) : ∀ (vs : List Value) (o : Nat) (w : World), Below B a w → Below B a (w.setCells g o vs)
  | [], _, _, h => h
  | v :: vs, o, w, h => below_setCells hg vs (o + 1) _ (h.setCell (p := ⟨g, o, none⟩) hg v)

/-- append onto such a buffer, from anywhere -/
theorem buf_append {P : Program} {w : World} {t e : TypeId} {z : Value} {byt : Nat} (E : ElemOf P t e z 1 byt) {base : Nat} {A : Option Addr} {n c : Nat} {cs : List Value} (hb : Buf w base A n c cs)
    {A2 : Option Addr} {m : Nat} {news : List Value} (hr : Sl w 1 A2 m news) (h1 : ∀ u ∈ news, u.oneCell' = true) (hbytes : (n + m) * byt ≤ 140737488355328) (h63 : n + m ≤ maxLen) (hbase : base ≤ w.heap.size) (ty : TypeId) (c2 : Nat) :
    ∃ A' c' w', (Builtin.append_ #[t, t] ty #[.slice A n c, .slice A2 m c2]).run P w = .ok (.slice A' (n + m) c') w' ∧ Buf w' base A' (n + m) c' (cs ++ news) ∧ Below base w w' := by
  have hrl : news.length = m := by have := hr.1; omega
  rcases Nat.eq_zero_or_pos c with h0 | hc
  · subst h0
    have hn : n = 0 := by have := hb.le; omega
    subst hn
    have hcs : cs = [] := List.eq_nil_of_length_eq_zero hb.len
    subst hcs
    obtain ⟨ht, hi, hzs, hsz⟩ := E
    obtain ⟨i, hi, hz, hsize, hby⟩ := info_parts hi
    have hsrc : Src P i.size t (.slice A2 m c2) m news w := by
      rcases Nat.eq_zero_or_pos m with hm | hm
      · subst hm
        have hnn : news = [] := List.eq_nil_of_length_eq_zero hrl
        subst hnn
        cases A2 with
        | none => exact Src.ofNil w ht c2
        | some a => exact Src.ofSlice w ht a 0 c2 [] (by simp) (by intro j u hu; simp at hu) h1
      · obtain ⟨b, off, ea, _, hcell⟩ := hr.2 hm
        subst ea
        exact Src.ofSlice w ht _ m c2 news (by rw [hsize, Nat.mul_one]; exact hrl) (fun j u hu => by rw [addr_add]; exact hcell j u hu) h1
    rcases Nat.eq_zero_or_pos m with hm | hm
    · subst hm
      have hnn : news = [] := List.eq_nil_of_length_eq_zero hrl
      subst hnn
      exact ⟨A, 0, w, run_append_nothing w t t ty e i ht hi A 0 0 (Nat.le_refl _) _ hsrc, by simpa using hb, Below.refl _ _⟩
    · have hold : (Builtin.firstCells i.size 0 (.slice A 0 0)).run P w.drew = .ok ([] : List Value).toArray w.drew := by
        cases A with
        | none => exact run_firstCells_none w.drew i.size 0 0 0
        | some a => exact run_firstCells_some w.drew i.size 0 a 0 0 [] (by simp) (by intro _ _ h'; simp at h')
      have hrun := run_append_grow_src (P := P) w t t ty e i z ht hi hz A 0 0 [] hold _ m news hsrc (by omega) (by simp only [maxLen] at h63; omega) (growslice_fits (by omega) (by rw [hby]; exact hbytes))
      have hge := grownCap_ge w (0 + m) 0 e
      have hcm := grownCap_le_maxLen w (0 + m) 0 e h63
      refine ⟨_, _, _, hrun, ⟨by simpa using hrl, hge, hcm, fun _ => ⟨w.heap.size, 0, rfl, hbase, by simp, fun j u hu => ?_, fun j hj => ?_⟩⟩, ((Below.refl _ _).drew).alloc hbase _⟩
      · rw [Nat.zero_add j]
        have e1 : (w.drew.alloc (.cells (([] ++ news : List Value).toArray ++ Builtin.zeroCells z.cells (grownCap w (0 + m) 0 e - (0 + m))) e)).cell? ⟨w.heap.size, j, none⟩ = _ := World.cell?_alloc_new w.drew (([] ++ news : List Value).toArray ++ Builtin.zeroCells z.cells (grownCap w (0 + m) 0 e - (0 + m))) e j
        refine Eq.trans e1 ?_
        simp only [List.nil_append] at hu ⊢
        rw [Array.getElem?_append_left (by simpa using (List.getElem?_eq_some_iff.1 hu).1), List.getElem?_toArray]; exact hu
      · rw [Nat.zero_add j]
        refine ⟨?_, World.frozen?_alloc_new w.drew _ _ j⟩
        have e1 : (w.drew.alloc (.cells (([] ++ news : List Value).toArray ++ Builtin.zeroCells z.cells (grownCap w (0 + m) 0 e - (0 + m))) e)).cell? ⟨w.heap.size, j, none⟩ = _ := World.cell?_alloc_new w.drew (([] ++ news : List Value).toArray ++ Builtin.zeroCells z.cells (grownCap w (0 + m) 0 e - (0 + m))) e j
        have hsz2 : (([] ++ news : List Value).toArray ++ Builtin.zeroCells z.cells (grownCap w (0 + m) 0 e - (0 + m))).size = grownCap w (0 + m) 0 e := by
          rw [Array.size_append, List.size_toArray, size_zeroCells, hzs, List.nil_append, hrl]
          omega
        rw [e1, Array.getElem?_eq_getElem (by rw [hsz2]; exact hj)]
        rfl
  · obtain ⟨g, off, ea, hg, hl, hcell, hthere⟩ := hb.mem hc
    subst ea
    obtain ⟨ht, hi, hzs, hsz⟩ := E
    obtain ⟨i, hi, hz, hsize, hby⟩ := info_parts hi
    have hsrc : Src P i.size t (.slice A2 m c2) m news w := by
      rcases Nat.eq_zero_or_pos m with hm | hm
      · subst hm
        have hnn : news = [] := List.eq_nil_of_length_eq_zero hrl
        subst hnn
        cases A2 with
        | none => exact Src.ofNil w ht c2
        | some a => exact Src.ofSlice w ht a 0 c2 [] (by simp) (by intro j u hu; simp at hu) h1
      · obtain ⟨b, off, ea, _, hcell⟩ := hr.2 hm
        subst ea
        exact Src.ofSlice w ht _ m c2 news (by rw [hsize, Nat.mul_one]; exact hrl) (fun j u hu => by rw [addr_add]; exact hcell j u hu) h1
    have hnl := hb.len
    by_cases hroom : n + m ≤ c
    · have hrun := run_append_room_src (P := P) w t t ty e i ht hi g off n c _ m news hsrc hroom
        (fun j hj => by rw [hsize, Nat.mul_one, Nat.add_assoc]; exact (hthere (n + j) (by omega)).1) (fun j hj => by rw [hsize, Nat.mul_one, Nat.add_assoc]; exact (hthere (n + j) (by omega)).2)
      rw [hsize, Nat.mul_one] at hrun
      refine ⟨_, _, _, hrun, ⟨by rw [List.length_append, hnl, hrl], hroom, hb.max, fun _ => ⟨g, off, rfl, hg, ?_, fun j u hu => ?_, fun j hj => ⟨?_, ?_⟩⟩⟩, below_setCells hg news (off + n) w (Below.refl _ _)⟩
      · exact Nat.lt_of_lt_of_le hl (below_setCells (Nat.zero_le g) news (off + n) w (Below.refl 0 w)).size
      · by_cases hj : j < n
        · rw [World.cell?_setCells_out g _ _ _ _ (fun _ _ => Or.inl (by show off + j < off + n; omega))]
          exact hcell j u (by rw [List.getElem?_append_left (by omega)] at hu; exact hu)
        · rw [List.getElem?_append_right (by omega), hnl] at hu
          have hlt := (List.getElem?_eq_some_iff.1 hu).1
          have := World.cell?_setCells_in g news (off + n) w (fun j hj => by rw [Nat.add_assoc]; exact (hthere (n + j) (by omega)).1) (j - n) hlt
          rw [show off + n + (j - n) = off + j from by omega] at this
          rw [this, ← hu, List.getElem?_eq_getElem hlt]
      · exact World.isSome_setCells g _ _ _ _ (hthere j hj).1
      · rw [World.frozen?_setCells]; exact (hthere j hj).2
    · have hold : (Builtin.firstCells i.size n (.slice (some ⟨g, off, none⟩) n c)).run P w.drew = .ok cs.toArray w.drew :=
        run_firstCells_some w.drew i.size n _ n c cs (by rw [hsize, Nat.mul_one]; exact hnl) (fun j u hu => by rw [addr_add]; exact hcell j u hu)
      have hrun := run_append_grow_src (P := P) w t t ty e i z ht hi hz (some ⟨g, off, none⟩) n c cs hold _ m news hsrc (by omega) (by simp only [maxLen] at h63; omega) (growslice_fits (by omega) (by rw [hby]; exact hbytes))
      have hge := grownCap_ge w (n + m) c e
      have hcm := grownCap_le_maxLen w (n + m) c e h63
      refine ⟨_, _, _, hrun, ⟨by rw [List.length_append, hnl, hrl], hge, hcm, fun _ => ⟨w.heap.size, 0, rfl, hbase, by simp, fun j u hu => ?_, fun j hj => ?_⟩⟩, ((Below.refl _ _).drew).alloc hbase _⟩
      · rw [Nat.zero_add j]
        have e1 : (w.drew.alloc (.cells ((cs ++ news : List Value).toArray ++ Builtin.zeroCells z.cells (grownCap w (n + m) c e - (n + m))) e)).cell? ⟨w.heap.size, j, none⟩ = _ := World.cell?_alloc_new w.drew ((cs ++ news : List Value).toArray ++ Builtin.zeroCells z.cells (grownCap w (n + m) c e - (n + m))) e j
        refine Eq.trans e1 ?_
        rw [Array.getElem?_append_left (by simpa using (List.getElem?_eq_some_iff.1 hu).1), List.getElem?_toArray]; exact hu
      · rw [Nat.zero_add j]
        refine ⟨?_, World.frozen?_alloc_new w.drew _ _ j⟩
        have e1 : (w.drew.alloc (.cells ((cs ++ news : List Value).toArray ++ Builtin.zeroCells z.cells (grownCap w (n + m) c e - (n + m))) e)).cell? ⟨w.heap.size, j, none⟩ = _ := World.cell?_alloc_new w.drew ((cs ++ news : List Value).toArray ++ Builtin.zeroCells z.cells (grownCap w (n + m) c e - (n + m))) e j
        have hsz2 : ((cs ++ news : List Value).toArray ++ Builtin.zeroCells z.cells (grownCap w (n + m) c e - (n + m))).size = grownCap w (n + m) c e := by
          rw [Array.size_append, List.size_toArray, size_zeroCells, hzs, List.length_append, hnl, hrl]
          omega
        rw [e1, Array.getElem?_eq_getElem (by rw [hsz2]; exact hj)]
        rfl
end Go.Proofs.Ytknbbekinpamjaa
