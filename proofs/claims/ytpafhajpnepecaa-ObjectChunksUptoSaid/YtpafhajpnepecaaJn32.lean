/- Contracts and laws for what the statement reaches, joined: ShaBuf, ShaSumLaw, ShaSum, ObjSum. -/
import Derived.Test.YtpafhajpnepecaaJn13
import Derived.Test.YtpafhajpnepecaaJn2
import Derived.Test.YtpafhajpnepecaaJn29
import Derived.Test.YtpafhajpnepecaaJn31
import Derived.Test.YtpafhajpnepecaaJn5
import Derived.Deep.MidRow
import Derived.Deep.Upon
/- A buffer that is cut ahead and appended to behind: a slice of the call's own at any place of its row. -/
set_option linter.unusedVariables false
namespace Go.Proofs.Ytpafhajpnepecaa
open Go.RowKit

/-- the slice at A with n elements of one cell and capacity c is the call's own and reads as cs -/
structure Buf (w : World) (base : Nat) (A : Option Addr) (n c : Nat) (cs : List Value) : Prop where
  len : cs.length = n
  le : n ≤ c
  max : c ≤ maxLen
  mem : 0 < c → ∃ g off, A = some ⟨g, off, none⟩ ∧ base ≤ g ∧ g < w.heap.size ∧ (∀ j u, cs[j]? = some u → w.cell? ⟨g, off + j, none⟩ = some u) ∧
    ∀ j, j < c → (w.cell? ⟨g, off + j, none⟩).isSome = true ∧ w.frozen? ⟨g, off + j, none⟩ = false

section
variable {w w' : World} {base : Nat} {A : Option Addr} {n c : Nat} {cs : List Value}
theorem Buf.nil : Buf w base none 0 0 [] := ⟨rfl, Nat.le_refl _, by simp [maxLen], fun h => absurd h (by omega)⟩
theorem Buf.sl (h : Buf w base A n c cs) : Sl w 1 A n cs := ⟨by rw [h.len, Nat.mul_one], fun hn => by
  obtain ⟨g, off, e, _, hl, hc, _⟩ := h.mem (by have := h.le; omega)
  exact ⟨g, off, e, hl, hc⟩⟩
theorem Buf.at (h : Buf w base A n c cs) (hn : 0 < c) : ∃ g off, A = some ⟨g, off, none⟩ ∧ base ≤ g ∧ g < w.heap.size := by
  obtain ⟨g, off, e, hb, hl, _⟩ := h.mem hn
  exact ⟨g, off, e, hb, hl⟩
/-- it stays while no block from base on turns -/
theorem Buf.keep (h : Buf w base A n c cs) (hk : ∀ b, base ≤ b → b < w.heap.size → w'.heap[b]? = w.heap[b]?) (hs : w.heap.size ≤ w'.heap.size) : Buf w' base A n c cs :=
  ⟨h.len, h.le, h.max, fun hc => by
    obtain ⟨g, off, e, hb, hl, h1, h2⟩ := h.mem hc
    refine ⟨g, off, e, hb, by omega, fun j u hu => ?_, fun j hj => ⟨?_, ?_⟩⟩
    · rw [World.cell?_of_block (a := ⟨g, off + j, none⟩) (hk g hb hl)]; exact h1 j u hu
    · rw [World.cell?_of_block (a := ⟨g, off + j, none⟩) (hk g hb hl)]; exact (h2 j hj).1
    · rw [World.frozen?_of_block (a := ⟨g, off + j, none⟩) (hk g hb hl)]; exact (h2 j hj).2⟩
theorem Buf.grown (h : Buf w base A n c cs) {G : Nat} (hg : w.grownBy w' (some G)) (hG : G < base) : Buf w' base A n c cs :=
  h.keep (fun b hb hl => hg.block b hl (by intro e; injection e with e; omega)) hg.size
theorem Buf.alloc (h : Buf w base A n c cs) (o : Obj) : Buf (w.alloc o) base A n c cs :=
  h.keep (fun b _ hl => Below.heap_alloc w o b hl) (by simp)
theorem Buf.setCell (h : Buf w base A n c cs) {p : Addr} (hp : p.block < base) (u : Value) : Buf (w.setCell p u) base A n c cs :=
  h.keep (fun b hb _ => Below.heap_setCell w p u b (by omega)) ((Below.refl 0 w).setCell (p := p) (Nat.zero_le _) u).size
theorem Buf.same (h : Buf w base A n c cs) (hs : Same w w') : Buf w' base A n c cs := h.keep (fun b _ _ => by rw [hs.heap]) (by rw [hs.heap]; exact Nat.le_refl _)
theorem Buf.cut (h : Buf w base A n c cs) {k : Nat} (hk : k ≤ n) : Buf w base (cutA A c k) (n - k) (c - k) (cs.drop k) :=
  ⟨by rw [List.length_drop, h.len], by have := h.le; omega, by have := h.max; omega, fun hc => by
    obtain ⟨g, off, e, hb, hl, h1, h2⟩ := h.mem (by omega)
    subst e
    refine ⟨g, off + k, by rw [cutA, if_neg (by omega)]; simp [addr_add], hb, hl, fun j u hu => ?_, fun j hj => ?_⟩
    · rw [Nat.add_assoc]; exact h1 _ u (by rw [← hu, List.getElem?_drop])
    · rw [Nat.add_assoc]; exact h2 _ (by omega)⟩
end

theorem below_setCells {B g : Nat} {a : World} (hg : B ≤ g) : ∀ (vs : List Value) (o : Nat) (w : World), Below B a w → Below B a (w.setCells g o vs)
  | [], _, _, h => h
  | v :: vs, o, w, h => below_setCells hg vs (o + 1) _ (h.setCell (p := ⟨g, o, none⟩) hg v)

/-- append onto such a buffer, from anywhere -/
theorem buf_append {P : Program} {w : World} {t e : TypeId} {z : Value} {byt : Nat} (E : ElemOf P t e z 1 byt) {base : Nat} {A : Option Addr} {n c : Nat} {cs : List Value} (hb : Buf w base A n c cs)
    {A2 : Option Addr} {m : Nat} {news : List Value} (hr : Sl w 1 A2 m news) (h1 : ∀ u ∈ news, u.oneCell' = true) (hbytes : (n + m) * byt ≤ 140737488355328) (h63 : n + m ≤ maxLen) (hbase : base ≤ w.heap.size) (ty : TypeId) (c2 : Nat) :
    ∃ A' c' w', (Builtin.append_ #[t, t] ty #[.slice A n c, .slice A2 m c2]).run P w = .ok (.slice A' (n + m) c') w' ∧ Buf w' base A' (n + m) c' (cs ++ news) ∧ Below base w w' := by
  have hrl : news.length = m := by have := hr.1; omega
  rcases Nat.eq_zero_or_pos c with h0 | hc
  · subst h0
    have hn : n = 0 := by have := hb.le; omega
    subst hn
    have hcs : cs = [] := List.eq_nil_of_length_eq_zero hb.len
    subst hcs
    obtain ⟨ht, hi, hzs, hsz⟩ := E
    obtain ⟨i, hi, hz, hsize, hby⟩ := info_parts hi
    have hsrc : Src P i.size t (.slice A2 m c2) m news w := by
      rcases Nat.eq_zero_or_pos m with hm | hm
      · subst hm
        have hnn : news = [] := List.eq_nil_of_length_eq_zero hrl
        subst hnn
        cases A2 with
        | none => exact Src.ofNil w ht c2
        | some a => exact Src.ofSlice w ht a 0 c2 [] (by simp) (by intro j u hu; simp at hu) h1
      · obtain ⟨b, off, ea, _, hcell⟩ := hr.2 hm
        subst ea
        exact Src.ofSlice w ht _ m c2 news (by rw [hsize, Nat.mul_one]; exact hrl) (fun j u hu => by rw [addr_add]; exact hcell j u hu) h1
    rcases Nat.eq_zero_or_pos m with hm | hm
    · subst hm
      have hnn : news = [] := List.eq_nil_of_length_eq_zero hrl
      subst hnn
      exact ⟨A, 0, w, run_append_nothing w t t ty e i ht hi A 0 0 (Nat.le_refl _) _ hsrc, by simpa using hb, Below.refl _ _⟩
    · have hold : (Builtin.firstCells i.size 0 (.slice A 0 0)).run P w.drew = .ok ([] : List Value).toArray w.drew := by
        cases A with
        | none => exact run_firstCells_none w.drew i.size 0 0 0
        | some a => exact run_firstCells_some w.drew i.size 0 a 0 0 [] (by simp) (by intro _ _ h'; simp at h')
      have hrun := run_append_grow_src (P := P) w t t ty e i z ht hi hz A 0 0 [] hold _ m news hsrc (by omega) (by simp only [maxLen] at h63; omega) (growslice_fits (by omega) (by rw [hby]; exact hbytes))
      have hge := grownCap_ge w (0 + m) 0 e
      have hcm := grownCap_le_maxLen w (0 + m) 0 e h63
      refine ⟨_, _, _, hrun, ⟨by simpa using hrl, hge, hcm, fun _ => ⟨w.heap.size, 0, rfl, hbase, by simp, fun j u hu => ?_, fun j hj => ?_⟩⟩, ((Below.refl _ _).drew).alloc hbase _⟩
      · rw [Nat.zero_add j]
        have e1 : (w.drew.alloc (.cells (([] ++ news : List Value).toArray ++ Builtin.zeroCells z.cells (grownCap w (0 + m) 0 e - (0 + m))) e)).cell? ⟨w.heap.size, j, none⟩ = _ := World.cell?_alloc_new w.drew (([] ++ news : List Value).toArray ++ Builtin.zeroCells z.cells (grownCap w (0 + m) 0 e - (0 + m))) e j
        refine Eq.trans e1 ?_
        simp only [List.nil_append] at hu ⊢
        rw [Array.getElem?_append_left (by simpa using (List.getElem?_eq_some_iff.1 hu).1), List.getElem?_toArray]; exact hu
      · rw [Nat.zero_add j]
        refine ⟨?_, World.frozen?_alloc_new w.drew _ _ j⟩
        have e1 : (w.drew.alloc (.cells (([] ++ news : List Value).toArray ++ Builtin.zeroCells z.cells (grownCap w (0 + m) 0 e - (0 + m))) e)).cell? ⟨w.heap.size, j, none⟩ = _ := World.cell?_alloc_new w.drew (([] ++ news : List Value).toArray ++ Builtin.zeroCells z.cells (grownCap w (0 + m) 0 e - (0 + m))) e j
        have hsz2 : (([] ++ news : List Value).toArray ++ Builtin.zeroCells z.cells (grownCap w (0 + m) 0 e - (0 + m))).size = grownCap w (0 + m) 0 e := by
          rw [Array.size_append, List.size_toArray, size_zeroCells, hzs, List.nil_append, hrl]
          omega
        rw [e1, Array.getElem?_eq_getElem (by rw [hsz2]; exact hj)]
        rfl
  · obtain ⟨g, off, ea, hg, hl, hcell, hthere⟩ := hb.mem hc
    subst ea
    obtain ⟨ht, hi, hzs, hsz⟩ := E
    obtain ⟨i, hi, hz, hsize, hby⟩ := info_parts hi
    have hsrc : Src P i.size t (.slice A2 m c2) m news w := by
      rcases Nat.eq_zero_or_pos m with hm | hm
      · subst hm
        have hnn : news = [] := List.eq_nil_of_length_eq_zero hrl
        subst hnn
        cases A2 with
        | none => exact Src.ofNil w ht c2
        | some a => exact Src.ofSlice w ht a 0 c2 [] (by simp) (by intro j u hu; simp at hu) h1
      · obtain ⟨b, off, ea, _, hcell⟩ := hr.2 hm
        subst ea
        exact Src.ofSlice w ht _ m c2 news (by rw [hsize, Nat.mul_one]; exact hrl) (fun j u hu => by rw [addr_add]; exact hcell j u hu) h1
    have hnl := hb.len
    by_cases hroom : n + m ≤ c
    · have hrun := run_append_room_src (P := P) w t t ty e i ht hi g off n c _ m news hsrc hroom
        (fun j hj => by rw [hsize, Nat.mul_one, Nat.add_assoc]; exact (hthere (n + j) (by omega)).1) (fun j hj => by rw [hsize, Nat.mul_one, Nat.add_assoc]; exact (hthere (n + j) (by omega)).2)
      rw [hsize, Nat.mul_one] at hrun
      refine ⟨_, _, _, hrun, ⟨by rw [List.length_append, hnl, hrl], hroom, hb.max, fun _ => ⟨g, off, rfl, hg, ?_, fun j u hu => ?_, fun j hj => ⟨?_, ?_⟩⟩⟩, below_setCells hg news (off + n) w (Below.refl _ _)⟩
      · exact Nat.lt_of_lt_of_le hl (below_setCells (Nat.zero_le g) news (off + n) w (Below.refl 0 w)).size
      · by_cases hj : j < n
        · rw [World.cell?_setCells_out g _ _ _ _ (fun _ _ => Or.inl (by show off + j < off + n; omega))]
          exact hcell j u (by rw [List.getElem?_append_left (by omega)] at hu; exact hu)
        · rw [List.getElem?_append_right (by omega), hnl] at hu
          have hlt := (List.getElem?_eq_some_iff.1 hu).1
          have := World.cell?_setCells_in g news (off + n) w (fun j hj => by rw [Nat.add_assoc]; exact (hthere (n + j) (by omega)).1) (j - n) hlt
          rw [show off + n + (j - n) = off + j from by omega] at this
          rw [this, ← hu, List.getElem?_eq_getElem hlt]
      · exact World.isSome_setCells g _ _ _ _ (hthere j hj).1
      · rw [World.frozen?_setCells]; exact (hthere j hj).2
    · have hold : (Builtin.firstCells i.size n (.slice (some ⟨g, off, none⟩) n c)).run P w.drew = .ok cs.toArray w.drew :=
        run_firstCells_some w.drew i.size n _ n c cs (by rw [hsize, Nat.mul_one]; exact hnl) (fun j u hu => by rw [addr_add]; exact hcell j u hu)
      have hrun := run_append_grow_src (P := P) w t t ty e i z ht hi hz (some ⟨g, off, none⟩) n c cs hold _ m news hsrc (by omega) (by simp only [maxLen] at h63; omega) (growslice_fits (by omega) (by rw [hby]; exact hbytes))
      have hge := grownCap_ge w (n + m) c e
      have hcm := grownCap_le_maxLen w (n + m) c e h63
      refine ⟨_, _, _, hrun, ⟨by rw [List.length_append, hnl, hrl], hge, hcm, fun _ => ⟨w.heap.size, 0, rfl, hbase, by simp, fun j u hu => ?_, fun j hj => ?_⟩⟩, ((Below.refl _ _).drew).alloc hbase _⟩
      · rw [Nat.zero_add j]
        have e1 : (w.drew.alloc (.cells ((cs ++ news : List Value).toArray ++ Builtin.zeroCells z.cells (grownCap w (n + m) c e - (n + m))) e)).cell? ⟨w.heap.size, j, none⟩ = _ := World.cell?_alloc_new w.drew ((cs ++ news : List Value).toArray ++ Builtin.zeroCells z.cells (grownCap w (n + m) c e - (n + m))) e j
        refine Eq.trans e1 ?_
        rw [Array.getElem?_append_left (by simpa using (List.getElem?_eq_some_iff.1 hu).1), List.getElem?_toArray]; exact hu
      · rw [Nat.zero_add j]
        refine ⟨?_, World.frozen?_alloc_new w.drew _ _ j⟩
        have e1 : (w.drew.alloc (.cells ((cs ++ news : List Value).toArray ++ Builtin.zeroCells z.cells (grownCap w (n + m) c e - (n + m))) e)).cell? ⟨w.heap.size, j, none⟩ = _ := World.cell?_alloc_new w.drew ((cs ++ news : List Value).toArray ++ Builtin.zeroCells z.cells (grownCap w (n + m) c e - (n + m))) e j
        have hsz2 : ((cs ++ news : List Value).toArray ++ Builtin.zeroCells z.cells (grownCap w (n + m) c e - (n + m))).size = grownCap w (n + m) c e := by
          rw [Array.size_append, List.size_toArray, size_zeroCells, hzs, List.length_append, hnl, hrl]
          omega
        rw [e1, Array.getElem?_eq_getElem (by rw [hsz2]; exact hj)]
        rfl
end Go.Proofs.Ytpafhajpnepecaa

/- Plain laws on sums: bytes taken in piece by piece. -/
set_option linter.unusedVariables false
namespace Go.Proofs.Ytpafhajpnepecaa
open Go.RowKit

theorem blocksS_step {s : List UInt32} {b : List UInt8} (h : 64 ≤ b.length) : blocksS s b = blocksS (blockS s (b.take 64)) (b.drop 64) := by
  rw [blocksS, dif_pos h]
theorem blocksS_short {s : List UInt32} {b : List UInt8} (h : b.length < 64) : blocksS s b = s := by
  rw [blocksS, dif_neg (by omega)]
/-- the bytes behind the last whole block -/
def tailS (b : List UInt8) : List UInt8 := if h : 64 ≤ b.length then tailS (b.drop 64) else b
termination_by b.length
decreasing_by rw [List.length_drop]; omega
theorem tailS_step {b : List UInt8} (h : 64 ≤ b.length) : tailS b = tailS (b.drop 64) := by rw [tailS, dif_pos h]
theorem tailS_short {b : List UInt8} (h : b.length < 64) : tailS b = b := by rw [tailS, dif_neg (by omega)]
theorem blocksS_length : ∀ (m : Nat) (s : List UInt32) (b : List UInt8), b.length ≤ m → s.length = 8 → (blocksS s b).length = 8
  | m, s, b, hm, hs => by
    by_cases h : 64 ≤ b.length
    · match m with
      | 0 => omega
      | m + 1 =>
        rw [blocksS_step h]
        exact blocksS_length m _ _ (by rw [List.length_drop]; omega) (blockS_length hs _)
    · rw [blocksS_short (by omega)]; exact hs
theorem blocksS_app : ∀ (m : Nat) (s : List UInt32) (D E : List UInt8), D.length ≤ m → blocksS s (D ++ E) = blocksS (blocksS s D) (tailS D ++ E)
  | m, s, D, E, hm => by
    by_cases h : 64 ≤ D.length
    · match m with
      | 0 => omega
      | m + 1 =>
        rw [blocksS_step (s := s) (b := D ++ E) (by rw [List.length_append]; omega), List.take_append_of_le_length h, List.drop_append_of_le_length h,
          blocksS_app m _ _ _ (by rw [List.length_drop]; omega), ← blocksS_step h, ← tailS_step h]
    · rw [blocksS_short (b := D) (by omega), tailS_short (by omega)]
theorem blocksS_append (s : List UInt32) (D E : List UInt8) : blocksS s (D ++ E) = blocksS (blocksS s D) (tailS D ++ E) := blocksS_app _ s D E (Nat.le_refl _)
theorem tailS_app : ∀ (m : Nat) (D E : List UInt8), D.length ≤ m → tailS (D ++ E) = tailS (tailS D ++ E)
  | m, D, E, hm => by
    by_cases h : 64 ≤ D.length
    · match m with
      | 0 => omega
      | m + 1 =>
        rw [tailS_step (b := D ++ E) (by rw [List.length_append]; omega), List.drop_append_of_le_length h, tailS_app m _ _ (by rw [List.length_drop]; omega), ← tailS_step h]
    · rw [tailS_short (b := D) (by omega)]
theorem tailS_append (D E : List UInt8) : tailS (D ++ E) = tailS (tailS D ++ E) := tailS_app _ D E (Nat.le_refl _)
theorem tailS_len : ∀ (m : Nat) (D : List UInt8), D.length ≤ m → (tailS D).length = D.length % 64
  | m, D, hm => by
    by_cases h : 64 ≤ D.length
    · match m with
      | 0 => omega
      | m + 1 =>
        rw [tailS_step h, tailS_len m _ (by rw [List.length_drop]; omega), List.length_drop]; omega
    · rw [tailS_short (by omega), Nat.mod_eq_of_lt (by omega)]
theorem tailS_length (D : List UInt8) : (tailS D).length = D.length % 64 := tailS_len _ D (Nat.le_refl _)

/-- the bytes behind a text of n bytes -/
def padL (n : Nat) : List UInt8 := 128 :: (List.replicate (spadZ n) 0 ++ lenB n)
theorem shaG_tail (D : List UInt8) : shaG D = bytesU (blocksS (blocksS shaH D) (tailS D ++ padL D.length)) := by
  unfold shaG padded
  rw [← blocksS_append]; rfl
theorem lenB_length (n : Nat) : (lenB n).length = 8 := rfl
theorem padZ_lt (n : Nat) : spadZ n < 64 := by unfold spadZ; omega
/-- where the noughts end -/
theorem padZ_end {n t j : Nat} (ht : t = n % 64) (hj : j ≤ spadZ n) : (t + 1 + j) % 64 = 56 ↔ j = spadZ n := by
  unfold spadZ at *; omega
theorem padL_whole (D : List UInt8) : (tailS D ++ padL D.length).length % 64 = 0 := by
  rw [List.length_append, tailS_length]
  unfold padL
  rw [List.length_cons, List.length_append, List.length_replicate, lenB_length]
  unfold spadZ
  omega
theorem lenB_succ {n k : Nat} (hk : k < 8) : (lenB n).take (k + 1) = (lenB n).take k ++ [UInt8.ofNat (8 * n / 2 ^ (56 - 8 * k))] := by
  have h8 : k = 0 ∨ k = 1 ∨ k = 2 ∨ k = 3 ∨ k = 4 ∨ k = 5 ∨ k = 6 ∨ k = 7 := by omega
  rcases h8 with rfl | rfl | rfl | rfl | rfl | rfl | rfl | rfl <;> rfl
/-- a row that is filled from the front -/
def fill (l : List UInt8) (m : Nat) : List UInt8 := l.take m ++ List.replicate (l.length - m) 0
theorem fill_put {l : List UInt8} {m : Nat} {x : UInt8} (h : l[m]? = some x) : (fill l m).set m x = fill l (m + 1) := by
  have hm := (List.getElem?_eq_some_iff.1 h).1
  have hl : (l.take m).length = m := by rw [List.length_take]; omega
  unfold fill
  rw [List.set_append, if_neg (by omega), hl, Nat.sub_self, show l.length - m = (l.length - (m + 1)) + 1 from by omega, List.replicate_succ, List.set_cons_zero, List.take_add_one, h, List.append_assoc]
  rfl
theorem sfill_all (l : List UInt8) : fill l l.length = l := by unfold fill; simp
theorem fill_length {l : List UInt8} {m : Nat} (hm : m ≤ l.length) : (fill l m).length = l.length := by
  unfold fill; rw [List.length_append, List.length_take, List.length_replicate]; omega
theorem bytesU_length (s : List UInt32) : (bytesU s).length = 4 * s.length := by
  unfold bytesU
  induction s with
  | nil => rfl
  | cons x s ih => rw [List.flatMap_cons, List.length_append, ih, List.length_cons, List.length_map]; simp; omega
theorem bytesU_get : ∀ {s : List UInt32} {i k : Nat} {x : UInt32}, s[i]? = some x → k < 4 → (bytesU s)[4 * i + k]? = some (UInt8.ofNat (x.toNat / 2 ^ (24 - 8 * k)))
  | [], i, k, x, h, _ => by simp at h
  | y :: s, 0, k, x, h, hk => by
    simp at h; subst h
    unfold bytesU
    rw [List.flatMap_cons]
    have h4 : k = 0 ∨ k = 1 ∨ k = 2 ∨ k = 3 := by omega
    rcases h4 with rfl | rfl | rfl | rfl <;> rfl
  | y :: s, i + 1, k, x, h, hk => by
    have h2 := bytesU_get (s := s) (i := i) (k := k) (x := x) (by simpa using h) hk
    unfold bytesU at h2 ⊢
    rw [List.flatMap_cons, List.getElem?_append_right (by simp; omega), ← h2]
    congr 1
    simp; omega
theorem sbytesV_set (l : List UInt8) (i : Nat) (x : UInt8) : (bytesV l).toArray.setIfInBounds i (.int .u8 (x.toNat : Int)) = (bytesV (l.set i x)).toArray := by
  simp [bytesV, List.map_set]
theorem bytesV_arr {l : List UInt8} {i : Nat} {x : UInt8} (h : l[i]? = some x) : (bytesV l).toArray[i]? = some (.int .u8 (x.toNat : Int)) := by
  rw [List.getElem?_toArray]; simp [bytesV, h]
theorem fill_hole {l : List UInt8} {m : Nat} (hm : m < l.length) : (fill l m)[m]? = some 0 := by
  unfold fill
  rw [List.getElem?_append_right (by rw [List.length_take]; omega), List.length_take, show m - min m l.length = 0 from by omega, show l.length - m = (l.length - (m + 1)) + 1 from by omega, List.replicate_succ]
  rfl
theorem fill_zero (l : List UInt8) : fill l 0 = List.replicate l.length 0 := rfl
theorem shr_byte (x : UInt32) (e : Nat) : ((UInt8.ofNat (x.toNat / 2 ^ e)).toNat : Int) = uI x / 2 ^ e % 256 := by
  unfold uI
  generalize x.toNat = n
  rw [UInt8.toNat_ofNat', Int.natCast_emod, Int.natCast_ediv, Int.natCast_pow]; rfl
end Go.Proofs.Ytpafhajpnepecaa

/- sha.Sum. -/
set_option linter.unusedVariables false
namespace Go.Proofs.Ytpafhajpnepecaa
open Go.RowKit
attribute [local go_sem ↓] cutA_eq

theorem elemU8 : ElemOf Try.prog 32 5 (.int .u8 0) 1 1 := ⟨Try.underlying32, by kernel_rfl, rfl, by decide⟩

/-- what stands while a sum is made: the state, the result's cells, all else as it was -/
structure SumS (w wr : World) (s : List UInt32) : Prop where
  st : WBlk wr (w.heap.size + 1) 140 s
  res : Blk wr w.heap.size 27 (bytesV (List.replicate 32 0)).toArray
  below : Below w.heap.size w wr
  size : w.heap.size + 2 ≤ wr.heap.size
  len : s.length = 8
section
variable {w wr w' : World} {s s' : List UInt32}
theorem SumS.start (w : World) : SumS w ((w.alloc (.cells (bytesV (List.replicate 32 0)).toArray 27)).alloc (.cells (wV shaH).toArray 140)) shaH :=
  ⟨by have := Blk.new (w.alloc (.cells (bytesV (List.replicate 32 0)).toArray 27)) 140 (wV shaH).toArray; simpa using this, (Blk.new w _ _).alloc _,
    ((Below.refl _ _).alloc (Nat.le_refl _) _).alloc (by simp) _, by simp, rfl⟩
theorem SumS.app (h : SumS w wr s) (hb : Below (w.heap.size + 2) wr w') : SumS w w' s :=
  ⟨h.st.below hb (by omega), h.res.below hb (by omega), h.below.trans (hb.mono (by omega)), Nat.le_trans h.size hb.size, h.len⟩
theorem SumS.turn (h : SumS w wr s) (hg : wr.grownBy w' (some (w.heap.size + 1))) (hs : WBlk w' (w.heap.size + 1) 140 s') (hl : s'.length = 8) : SumS w w' s' :=
  ⟨hs, h.res.grown hg (by intro e; injection e with e; omega), h.below.grown hg (by have := h.size; omega) (by intro k e; injection e with e; omega), Nat.le_trans h.size hg.size, hl⟩
theorem SumS.alloc (h : SumS w wr s) (o : Obj) : SumS w (wr.alloc o) s := h.app ((Below.refl _ _).alloc h.size o)
end
theorem block_buf {w wr : World} {s : List UInt32} (hS : SumS w wr s) {A : Option Addr} {n c : Nat} {R : List UInt8} (hb : Buf wr (w.heap.size + 2) A n c (bytesV R)) (h64 : 64 ≤ n) :
    Calls Try.prog 86 #[.pointer (some ⟨w.heap.size + 1, 0, none⟩), .slice A n c] wr fun e w' => e = .returned (.tuple #[]) ∧ SumS w w' (blockS s (R.take 64)) ∧ Buf w' (w.heap.size + 2) A n c (bytesV R) := by
  obtain ⟨g, off, rfl, hg, hl⟩ := hb.at (by have := hb.le; omega)
  refine (block_any (w.heap.size + 1) g n c off s R wr hS.st hS.len hb.sl h64 hb.le hb.max (by omega)).mono ?_
  rintro e w' ⟨rfl, h1, h2⟩
  exact ⟨rfl, hS.turn h2 h1 (blockS_length hS.len _), hb.grown h2 (by omega)⟩

set_option maxRecDepth 100000 in
set_option maxHeartbeats 4000000 in
theorem sum_any (A : Option Addr) (n c : Nat) (vs : List Value) (ls : List (List UInt8)) (w : World) (hs : Sl w 1 A n vs) (hv : AllB w vs ls) (hn : n ≤ 1000000000) (hf : ls.flatten.length ≤ 1000000000) :
    Calls Try.prog 71 #[.slice A n c] w fun e w' => e = .returned (.agg (bytesV (shaG ls.flatten)).toArray) ∧ Below w.heap.size w w' := by
  have hl : ls.length = n := by have := hs.1; have := hv.1; omega
  have HL := Lib.hid hl
  have HIS := Lib.hid hs
  have HV := Lib.hid hv
  have HST := Lib.hid (SumS.start w)
  clear hl hs hv
  go_enter Try.func71, Try.ntmps71
  go_wp2_with fail
  go_loopw [4, 5, 16] (fun r u i wr => ∃ (k : Nat) (F R : List UInt8) (Ao : Option Addr) (co : Nat), k ≤ n ∧ i = .int .i64 k ∧ u = .int .u64 (F.length : Nat) ∧ r = .slice Ao R.length co ∧
      Hid (F = (ls.take k).flatten) ∧ Hid (R = tailS F) ∧ Hid (Buf wr (w.heap.size + 2) Ao R.length co (bytesV R)) ∧ Hid (SumS w wr (blocksS shaH F))) (fun _ _ i _ => n - (intOf i).toNat)
  case atStart =>
    refine ⟨0, [], [], none, 0, by omega, rfl, rfl, rfl, Lib.hid (by simp), Lib.hid ?_, Lib.hid Buf.nil, Lib.hid ?_⟩
    · exact (tailS_short (by simp)).symm
    · rw [blocksS_short (by simp)]; exact HST.out
  case round =>
    obtain ⟨k, F, R, Ao, co, hk, rfl, rfl, rfl, HF, HR, HB, HS⟩ := hrel
    by_cases hlt : k < n
    · obtain ⟨b, off, A', c', l, rfl, hb, hc, hlk, hsl, hl1, hl2⟩ := HV.out.look HIS.out hlt
      have hcr := (HS.out.below.cell (p := ⟨b, off + k, none⟩) hb).trans hc
      have hfs := flat_take_succ hlk
      rw [← HF.out] at hfs
      have hle := flat_take_le ls (k + 1)
      rw [hfs, List.length_append] at hle
      have hRl : R.length < 64 := by rw [HR.out, tailS_length]; exact Nat.mod_lt _ (by omega)
      obtain ⟨A2, c2, w2, hrun, hb2, hbe2⟩ := buf_append elemU8 HB.out (hsl.below (HS.out.below.mono (Nat.le_refl _))) (bytesV_one l) (by omega) (by simp only [maxLen]; omega) HS.out.size 32 c'
      have HB2 := Lib.hid (show Buf w2 (w.heap.size + 2) A2 (R.length + l.length) c2 (bytesV (R ++ l)) by simpa [bytesV] using hb2)
      have HS2 := Lib.hid (HS.out.app hbe2)
      have HQ1 := Lib.hid (show blocksS (blocksS shaH F) (R ++ l) = blocksS shaH (F ++ l) by rw [blocksS_append shaH, HR.out])
      have HQ2 := Lib.hid (show tailS (R ++ l) = tailS (F ++ l) by rw [tailS_append F, ← HR.out])
      have hln : l.length ≤ 1000000000 := by omega
      have hw1 : IntKind.u64.wrap (l.length : Int) = (l.length : Int) := IntWalk.u64_in _ (by omega)
      have hw2 : IntKind.u64.wrap ((F.length : Int) + (l.length : Int)) = (F.length : Int) + (l.length : Int) := IntWalk.u64_in _ (by omega)
      have HLE := Lib.hid hle
      have HFS := Lib.hid hfs
      clear hc hfs hlk hsl hb2 hbe2 hle
      have HLR := Lib.hid (show (R ++ l).length = R.length + l.length from List.length_append)
      obtain ⟨R2, hR2⟩ : ∃ R2, R2 = R ++ l := ⟨_, rfl⟩
      rw [← hR2] at HB2 HQ1 HQ2 HLR
      clear hR2
      have hk1 : IntKind.i64.wrap ((k : Int) + 1) = (k : Int) + 1 := IntWalk.i64_in _ (by omega)
      have HLF := Lib.hid (show (F ++ l).length = F.length + l.length from List.length_append)
      obtain ⟨F2, hF2⟩ : ∃ F2, F2 = F ++ l := ⟨_, rfl⟩
      rw [← hF2] at HQ1 HQ2 HLF HFS
      clear hF2
      go_wp2_with (at_builtin; refine wpList_run_append hrun ?_ ?_ ?_; exact rfl; exact rfl)
      go_loopw [4] (fun r wr => ∃ (Q : List UInt8) (s : List UInt32) (Ao : Option Addr) (m co : Nat), r = .slice Ao m co ∧ Hid (Buf wr (w.heap.size + 2) Ao m co (bytesV Q)) ∧ Hid (SumS w wr s) ∧ Hid (blocksS s Q = blocksS shaH F2) ∧ Hid (tailS Q = tailS F2)) (fun r _ => lenOf r)
      case atStart => exact ⟨R2, _, A2, _, c2, rfl, HB2, HS2, HQ1, HQ2⟩
      case round =>
        obtain ⟨Q, s, Ao, m, co, rfl, HB3, HS3, HQ3, HQ4⟩ := hrel
        have HQl := Lib.hid (show Q.length = m by have := HB3.out.len; rwa [bytesV_length] at this)
        have hmc := HB3.out.le
        have hmm := HB3.out.max
        simp only [maxLen] at hmm
        by_cases h64 : 64 ≤ m
        · have h64' : (64 : Int) ≤ (m : Int) := by omega
          have h65' : (64 : Int) ≤ (co : Int) := by omega
          have HBC := Lib.hid (HB3.out.cut h64)
          go_wp2_with fail
          refine (block_buf HS3.out HB3.out h64).mono ?_
          rintro e wk ⟨rfl, hS4, hB4⟩
          have HB5 := Lib.hid (hB4.cut h64)
          have HS4 := Lib.hid hS4
          clear hS4 hB4 HBC
          go_wp2_with fail
          go_roundw
          case rel =>
            refine ⟨Q.drop 64, _, _, _, _, rfl, Lib.hid (by rw [← bytesV_drop]; exact HB5.out), HS4, Lib.hid ?_, Lib.hid ?_⟩
            · rw [← HQ3.out, blocksS_step (s := s) (b := Q) (by rw [HQl.out]; exact h64)]
            · rw [← HQ4.out, tailS_step (b := Q) (by rw [HQl.out]; exact h64)]
          case measure => simp [lenOf]; omega
        · have h64' : ¬ (64 : Int) ≤ (m : Int) := by omega
          go_wp2_with fail
          go_roundw
          case rel =>
            have e1 := HQ3.out
            have e2 := HQ4.out
            rw [blocksS_short (by rw [HQl.out]; omega)] at e1
            rw [tailS_short (by rw [HQl.out]; omega)] at e2
            exact ⟨k + 1, F2, Q, Ao, co, by omega, by go_num, by rw [HLF.out]; go_num, by rw [HQl.out], Lib.hid HFS.out.symm, Lib.hid e2, by rw [HQl.out]; exact HB3, by rw [← e1]; exact HS3⟩
          case measure => simp [intOf]; omega
    · have hkn : k = n := by omega
      have hkk : ¬ (k : Int) < (n : Int) := by omega
      have HT := Lib.hid (show F = ls.flatten by rw [HF.out, List.take_of_length_le (by rw [HL.out]; omega)])
      have HRl := Lib.hid (show R.length = F.length % 64 by rw [HR.out, tailS_length])
      have hRl : R.length < 64 := by rw [HRl.out]; exact Nat.mod_lt _ (by omega)
      have hFl : F.length ≤ 1000000000 := by rw [HT.out]; exact hf
      obtain ⟨A2, c2, w2, hrun, hb2, hbe2⟩ := buf_append elemU8 (HB.out.alloc (.cells #[.int .u8 128] 5)) (Sl.one wr (.int .u8 128) 5) (by simp [Value.oneCell']) (by omega) (by simp only [maxLen]; omega) (by have := HS.out.size; simp; omega) 32 1
      have HB2 := Lib.hid (show Buf w2 (w.heap.size + 2) A2 (R.length + 1) c2 (bytesV (R ++ 128 :: List.replicate 0 0)) by simpa [bytesV] using hb2)
      have HS2 := Lib.hid ((HS.out.alloc (.cells #[.int .u8 128] 5)).app hbe2)
      clear hb2 hbe2 hkn hlt HST HV HIS HL HF HB HS
      go_wp2_with (at_builtin; refine wpList_run_append hrun ?_ ?_ ?_; exact rfl; exact rfl)
      go_loopw [4] (fun r wr => ∃ (j : Nat) (Ao : Option Addr) (m co : Nat), r = .slice Ao m co ∧ Hid (m = R.length + 1 + j) ∧ j ≤ spadZ F.length ∧ Hid (Buf wr (w.heap.size + 2) Ao m co (bytesV (R ++ 128 :: List.replicate j 0))) ∧ Hid (SumS w wr (blocksS shaH F))) (fun r _ => 128 - lenOf r)
      case atStart => exact ⟨0, A2, _, c2, rfl, Lib.hid rfl, Nat.zero_le _, HB2, HS2⟩
      case round =>
        obtain ⟨j, Ao, m, co, rfl, hm, hj, HB3, HS3⟩ := hrel
        have hend := padZ_end HRl.out hj
        rw [← hm.out] at hend
        have hpz := padZ_lt F.length
        have hml : m ≤ 128 := by rw [hm.out]; omega
        by_cases hjl : j < spadZ F.length
        · have hg : ¬ m % 64 = 56 := fun h => by have := hend.1 h; omega
          obtain ⟨A3, c3, w3, hrun3, hb3, hbe3⟩ := buf_append elemU8 (HB3.out.alloc (.cells #[.int .u8 0] 5)) (Sl.one wr (.int .u8 0) 5) (by simp [Value.oneCell']) (by omega) (by simp only [maxLen]; omega) (by have := HS3.out.size; simp; omega) 32 1
          have HB4 := Lib.hid (show Buf w3 (w.heap.size + 2) A3 (m + 1) c3 (bytesV (R ++ 128 :: List.replicate (j + 1) 0)) by rw [List.replicate_succ', ← List.cons_append, ← List.append_assoc]; simpa [bytesV] using hb3)
          have HS4 := Lib.hid ((HS3.out.alloc (.cells #[.int .u8 0] 5)).app hbe3)
          have hgi : ¬ (m : Int) % 64 = 56 := by omega
          clear hb3 hbe3 hend
          go_wp2_with (at_builtin; refine wpList_run_append hrun3 ?_ ?_ ?_; exact rfl; exact rfl)
          go_roundw
          case rel => exact ⟨j + 1, A3, m + 1, c3, rfl, Lib.hid (by rw [hm.out]; omega), by omega, HB4, HS4⟩
          case measure => have hmo := hm.out; simp [lenOf]; omega
        · have hje : j = spadZ F.length := by omega
          have hg : m % 64 = 56 := hend.2 hje
          have hgi : (m : Int) % 64 = 56 := by omega
          clear hend
          have HP0 := Lib.hid (show R ++ 128 :: List.replicate j 0 = R ++ 128 :: (List.replicate (spadZ F.length) 0 ++ (lenB F.length).take 0) by rw [hje, List.take_zero, List.append_nil])
          rw [HP0.out] at HB3
          have HM := Lib.hid (show m = R.length + 1 + spadZ F.length + 0 by have := hm.out; omega)
          clear hje hjl hm HP0
          go_wp2_with fail
          clear hg hgi
          obtain ⟨wo, rfl⟩ : ∃ wo : World, wo = wr := ⟨_, rfl⟩
          go_loopw [4, 8] (fun r i wr => ∃ (k : Nat) (Ao : Option Addr) (m co : Nat), k ≤ 8 ∧ i = .int .i64 (56 - 8 * (k : Int)) ∧ r = .slice Ao m co ∧ Hid (m = R.length + 1 + spadZ F.length + k) ∧ Hid (Buf wr (w.heap.size + 2) Ao m co (bytesV (R ++ 128 :: (List.replicate (spadZ F.length) 0 ++ (lenB F.length).take k)))) ∧ Hid (SumS w wr (blocksS shaH F))) (fun _ i _ => (intOf i + 8).toNat)
          case atStart => exact ⟨0, Ao, m, co, by omega, rfl, rfl, HM, HB3, HS3⟩
          case round =>
            obtain ⟨q, Ao, m, co, hq, rfl, rfl, hm, HB3, HS3⟩ := hrel
            have hml : m ≤ 200 := by rw [hm.out]; omega
            by_cases hq8 : q < 8
            · have hi0 : 8 * (q : Int) ≤ 56 := by omega
              have hi1 : (0 : Int) ≤ 56 - 8 * (q : Int) := by omega
              have hx : ((UInt8.ofNat (8 * F.length / 2 ^ (56 - 8 * q))).toNat : Int) = (F.length : Int) * 8 / 2 ^ (56 - 8 * q) % 256 := by
                rw [UInt8.toNat_ofNat', Nat.mul_comm]; push_cast; rfl
              obtain ⟨A3, c3, w3, hrun3, hb3, hbe3⟩ := buf_append elemU8 (HB3.out.alloc (.cells #[.int .u8 ((F.length : Int) * 8 / 2 ^ (56 - 8 * q) % 256)] 5)) (Sl.one wr (.int .u8 ((F.length : Int) * 8 / 2 ^ (56 - 8 * q) % 256)) 5) (by simp [Value.oneCell']) (by omega) (by simp only [maxLen]; omega) (by have := HS3.out.size; simp; omega) 32 1
              have HB4 := Lib.hid (show Buf w3 (w.heap.size + 2) A3 (m + 1) c3 (bytesV (R ++ 128 :: (List.replicate (spadZ F.length) 0 ++ (lenB F.length).take (q + 1)))) by
                rw [lenB_succ hq8, ← List.append_assoc (List.replicate _ _), ← List.cons_append, ← List.append_assoc]
                rw [← hx] at hb3
                simpa [bytesV] using hb3)
              have HS4 := Lib.hid ((HS3.out.alloc (.cells #[.int .u8 ((F.length : Int) * 8 / 2 ^ (56 - 8 * q) % 256)] 5)).app hbe3)
              have hi8 : IntKind.i64.wrap (56 - 8 * (q : Int) - 8) = 56 - 8 * ((q : Int) + 1) := by rw [IntWalk.i64_in _ (by omega)]; omega
              clear hb3 hbe3 hx
              go_wp2_with (at_builtin; refine wpList_run_append hrun3 ?_ ?_ ?_; exact rfl; exact rfl)
              go_roundw
              case rel =>
                exact ⟨q + 1, A3, m + 1, c3, by omega, by first | rfl | go_num | (simp; omega), rfl, Lib.hid (by rw [hm.out]; omega), HB4, HS4⟩
              case measure => simp [intOf]; omega
            · have hqe : q = 8 := by omega
              have hi0 : ¬ 8 * (q : Int) ≤ 56 := by omega
              have HPW := Lib.hid (padL_whole F)
              have HG := Lib.hid (shaG_tail F)
              rw [← HR.out] at HPW HG
              have HB4 := Lib.hid (show Buf wr (w.heap.size + 2) Ao m co (bytesV (R ++ padL F.length)) by
                have h1 := HB3.out
                rw [hqe, List.take_of_length_le (by rw [lenB_length]; omega)] at h1
                exact h1)
              have HW := Lib.hid (show (R ++ padL F.length).length % 64 = 0 from HPW.out)
              clear HPW hqe hq8 hm
              obtain ⟨S8, hS8⟩ : ∃ S8, S8 = blocksS (blocksS shaH F) (R ++ padL F.length) := ⟨_, rfl⟩
              rw [← hS8] at HG
              have HS8 := Lib.hid hS8.symm
              clear hS8 HB3
              generalize blocksS shaH F = s0 at *
              generalize R ++ padL F.length = Q0 at *
              go_wp2_with fail
              obtain ⟨wo, rfl⟩ : ∃ wo : World, wo = wr := ⟨_, rfl⟩
              go_loopw [4] (fun r wr => ∃ (Q : List UInt8) (s : List UInt32) (Ao : Option Addr) (m co : Nat), r = .slice Ao m co ∧ Hid (Buf wr (w.heap.size + 2) Ao m co (bytesV Q)) ∧ Hid (SumS w wr s) ∧ Hid (blocksS s Q = S8) ∧ Hid (Q.length % 64 = 0)) (fun r _ => lenOf r)
              case atStart => exact ⟨Q0, s0, Ao, m, co, rfl, HB4, HS3, HS8, HW⟩
              case round =>
                obtain ⟨Q, s, Ao, m, co, rfl, HB3, HS3, HQ3, HQ4⟩ := hrel
                have HQl := Lib.hid (show Q.length = m by have := HB3.out.len; rwa [bytesV_length] at this)
                have hmc := HB3.out.le
                have hmm := HB3.out.max
                simp only [maxLen] at hmm
                by_cases h0 : 0 < m
                · have h64 : 64 ≤ m := by have h1 := HQ4.out; rw [HQl.out] at h1; omega
                  have h64' : (64 : Int) ≤ (m : Int) := by omega
                  have h65' : (64 : Int) ≤ (co : Int) := by omega
                  have h0' : (0 : Int) < (m : Int) := by omega
                  go_wp2_with fail
                  refine (block_buf HS3.out HB3.out h64).mono ?_
                  rintro e wk ⟨rfl, hS4, hB4⟩
                  have HB5 := Lib.hid (hB4.cut h64)
                  have HS4 := Lib.hid hS4
                  clear hS4 hB4
                  go_wp2_with fail
                  go_roundw
                  case rel =>
                    refine ⟨Q.drop 64, _, _, _, _, rfl, Lib.hid (by rw [← bytesV_drop]; exact HB5.out), HS4, Lib.hid ?_, Lib.hid ?_⟩
                    · rw [← HQ3.out, blocksS_step (s := s) (b := Q) (by rw [HQl.out]; exact h64)]
                    · have h1 := HQ4.out
                      rw [List.length_drop]; rw [HQl.out] at h1 ⊢; omega
                  case measure => simp [lenOf]; omega
                · have h0' : ¬ (0 : Int) < (m : Int) := by omega
                  have HE := Lib.hid (show s = S8 by rw [← HQ3.out, blocksS_short (by rw [HQl.out]; omega)])
                  have hst := HS3.out.st
                  have hss := Blk.alloc hst (.cells (bytesV (List.replicate 32 0)).toArray 27)
                  have HS5 := Lib.hid (HS3.out.alloc (.cells (bytesV (List.replicate 32 0)).toArray 27))
                  have HI0 := Lib.hid (Blk.new wr 27 (bytesV (List.replicate 32 0)).toArray)
                  have HOL := Lib.hid (show (bytesU s).length = 32 by rw [bytesU_length, HS3.out.len])
                  have HL8 := Lib.hid HS3.out.len
                  have HSZ := Lib.hid HS3.out.size
                  obtain ⟨KV, hKV⟩ : ∃ KV, KV = (wV s).toArray := ⟨_, rfl⟩
                  rw [← hKV] at hss
                  have hks : (Try.prog.info? 140).map (·.size) = some KV.size := by
                    have : KV.size = 8 := by rw [hKV]; simp [wV, HL8.out]
                    have h2 : (Try.prog.info? 140).map (·.size) = some 8 := by kernel_rfl
                    rw [this]; exact h2
                  have HKV := Lib.hid hKV
                  have HSS := Lib.hid hss
                  have HKS := Lib.hid hks
                  clear hKV hst hss hks HB3 HS3 HQ3 HQ4 HB4 HW HS8
                  go_upto_region 24 with fail
                  go_wp2_with (refine wpList_load_row rfl _ _ rfl (w.heap.size + 1) rfl 140 KV (0, 0) _ HSS.out Try.underlying140 rfl HKS.out ?_)
                  clear h0' h0 hi0
                  obtain ⟨wo, rfl⟩ : ∃ wo : World, wo = wr := ⟨_, rfl⟩
                  have HB0 := Lib.hid HS5.out.below
                  have HR0 := Lib.hid HS5.out.res
                  have HI1 := Lib.hid (show Blk (wo.alloc (.cells (bytesV (List.replicate 32 0)).toArray 27)) wo.heap.size 27 (bytesV (fill (bytesU s) (4 * 0))).toArray by rw [Nat.mul_zero, fill_zero, HOL.out]; exact HI0.out)
                  clear HS5 HSS HI0
                  go_loopw [66] (fun i wr => ∃ q : Nat, i = .int .i64 q ∧ q ≤ 8 ∧ Hid (Blk wr wo.heap.size 27 (bytesV (fill (bytesU s) (4 * q))).toArray) ∧ Hid (Blk wr w.heap.size 27 (bytesV (List.replicate 32 0)).toArray) ∧ Hid (Below w.heap.size w wr)) (fun i _ => 8 - (intOf i).toNat)
                  case atStart => exact ⟨0, rfl, by omega, HI1, HR0, HB0⟩
                  case round =>
                    obtain ⟨q, rfl, hq, HI, HRr, HBr⟩ := hrel
                    by_cases hlt : q < 8
                    · have hlt' : (q : Int) < 8 := by omega
                      have hx : s[q]? = some (s.getD q 0) := getD_get (by rw [HL8.out]; exact hlt)
                      have hidx := run_index_agg (P := Try.prog) Try.underlying140 (by kernel_rfl) Try.underlying138 hlt (show KV[q]? = some (.int .u32 (uI (s.getD q 0))) by rw [HKV.out]; exact wV_arr hx)
                      have HX := Lib.hid hx
                      have hq1 : IntKind.i64.wrap ((q : Int) + 1) = (q : Int) + 1 := IntWalk.i64_in _ (by omega)
                      clear hx
                      generalize s.getD q 0 = x at *
                      go_wp2_with fail
                      clear hidx
                      obtain ⟨wp, rfl⟩ : ∃ wp : World, wp = wr := ⟨_, rfl⟩
                      go_loopw [70] (fun i wr => ∃ p : Nat, i = .int .i64 p ∧ p ≤ 4 ∧ Hid (Blk wr wo.heap.size 27 (bytesV (fill (bytesU s) (4 * q + p))).toArray) ∧ Hid (Blk wr w.heap.size 27 (bytesV (List.replicate 32 0)).toArray) ∧ Hid (Below w.heap.size w wr)) (fun i _ => 4 - (intOf i).toNat)
                      case atStart => exact ⟨0, rfl, by omega, HI, HRr, HBr⟩
                      case round =>
                        obtain ⟨p, rfl, hp, HI2, HR2, HB2'⟩ := hrel
                        by_cases hp4 : p < 4
                        · have hp4' : (p : Int) < 4 := by omega
                          have hb := bytesU_get HX.out hp4
                          have hfp := fill_put hb
                          have c1 := (HI2.out.cell (4 * q + p)).trans (bytesV_arr (fill_hole (l := bytesU s) (m := 4 * q + p) (by rw [HOL.out]; omega)))
                          have c2 := HI2.out.frozen (4 * q + p)
                          have hst := HI2.out.set_ (4 * q + p) (.int .u8 ((UInt8.ofNat (x.toNat / 2 ^ (24 - 8 * p))).toNat : Int))
                          rw [sbytesV_set, hfp, shr_byte] at hst
                          have HIN := Lib.hid hst
                          have HRN := Lib.hid (HR2.out.other (g' := wo.heap.size) (by have := HSZ.out; omega) (4 * q + p) (.int .u8 (uI x / 2 ^ (24 - 8 * p) % 256)))
                          have HBN := Lib.hid (HB2'.out.setCell (p := ⟨wo.heap.size, 4 * q + p, none⟩) (by have := HSZ.out; show w.heap.size ≤ wo.heap.size; omega) (.int .u8 (uI x / 2 ^ (24 - 8 * p) % 256)))
                          have m1 : IntKind.i64.wrap (4 * (q : Int)) = 4 * (q : Int) := IntWalk.i64_in _ (by omega)
                          have m2 : IntKind.i64.wrap (4 * (q : Int) + (p : Int)) = 4 * (q : Int) + (p : Int) := IntWalk.i64_in _ (by omega)
                          have m3 : IntKind.i64.wrap (8 * (p : Int)) = 8 * (p : Int) := IntWalk.i64_in _ (by omega)
                          have m4 : IntKind.i64.wrap (24 - 8 * (p : Int)) = 24 - 8 * (p : Int) := IntWalk.i64_in _ (by omega)
                          have m5 : (0 : Int) ≤ 24 - 8 * (p : Int) := by omega
                          have m6 : 8 * (p : Int) ≤ 24 := by omega
                          have m7 : (24 - 8 * (p : Int)).toNat = 24 - 8 * p := by omega
                          have m8 : (0 : Int) ≤ 4 * (q : Int) + (p : Int) := by omega
                          have m9 : 4 * (q : Int) + (p : Int) < 32 := by omega
                          have m10 : (4 * (q : Int) + (p : Int)).toNat = 4 * q + p := by omega
                          have hp1 : IntKind.i64.wrap ((p : Int) + 1) = (p : Int) + 1 := IntWalk.i64_in _ (by omega)
                          clear hb hfp hst
                          go_wp2_with fail
                          go_roundw
                          case rel => exact ⟨p + 1, by go_num, by omega, HIN, HRN, HBN⟩
                          case measure => simp [intOf]; omega
                        · have hpe : p = 4 := by omega
                          have hp4' : ¬ (p : Int) < 4 := by omega
                          have HIN := Lib.hid (show Blk wr wo.heap.size 27 (bytesV (fill (bytesU s) (4 * (q + 1)))).toArray by have h1 := HI2.out; rw [hpe] at h1; exact h1)
                          go_wp2_with fail
                          go_roundw
                          case rel => exact ⟨q + 1, by go_num, by omega, HIN, HR2, HB2'⟩
                          case measure => simp [intOf]; omega
                    · have hqe : q = 8 := by omega
                      have hlt' : ¬ (q : Int) < 8 := by omega
                      have HIN := Lib.hid (show Blk wr wo.heap.size 27 (bytesV (bytesU s)).toArray by
                        have h1 := HI.out
                        rw [hqe, show 4 * 8 = (bytesU s).length from HOL.out.symm, sfill_all] at h1
                        exact h1)
                      obtain ⟨IV, hIV⟩ : ∃ IV, IV = (bytesV (bytesU s)).toArray := ⟨_, rfl⟩
                      rw [← hIV] at HIN
                      have hiv : IV.size = 32 := by rw [hIV]; simp [bytesV, HOL.out]
                      have hone : IV.all (·.oneCell') = true := by
                        rw [hIV, Array.all_eq_true']
                        intro v hv
                        exact bytesV_one _ v (by simpa using hv)
                      have hii : (Try.prog.info? 27).map (·.size) = some IV.size := by
                        have h2 : (Try.prog.info? 27).map (·.size) = some 32 := by kernel_rfl
                        rw [hiv]; exact h2
                      have HIV := Lib.hid hIV
                      have HSI := Lib.hid hiv
                      have HON := Lib.hid hone
                      have HII := Lib.hid hii
                      clear hIV hiv hone hii hqe hlt
                      go_upto_region 33 with fail
                      go_wp2_with (first | (refine wpList_load_row rfl _ _ rfl wo.heap.size rfl 27 IV (0, 0) _ HIN.out Try.underlying27 rfl HII.out ?_) | (refine wpList_store_row rfl _ _ _ rfl w.heap.size IV rfl rfl 27 _ HRr.out HII.out (by rw [HSI.out]; rfl) HON.out ?_))
                      refine bodyPost_ret (v := .agg IV) (results_cell_row rfl _ _ w.heap.size 27 IV (0, 0) _ rfl (setRow_heap wr w.heap.size _ _ _ _ HRr.out) Try.underlying27 rfl HII.out) rfl ⟨?_, below_setRow HBr.out (Nat.le_refl _) _⟩
                      rw [HIV.out, HE.out, ← HG.out, HT.out]
end Go.Proofs.Ytpafhajpnepecaa

/- object.Name: a record's id is its sum. -/
set_option linter.unusedVariables false
set_option linter.unusedSimpArgs false
namespace Go.Proofs.Ytpafhajpnepecaa
open Go.RowKit

theorem shaG_len32 (l : List UInt8) : (shaG l).length = 32 := by
  unfold shaG
  rw [bytesU_length, blocksS_length _ _ _ (Nat.le_refl _) rfl]

theorem recName_any (A : Option Addr) (n c : Nat) (l : List UInt8) (w : World) (hs : Sl w 1 A n (bytesV l)) (hnc : n ≤ c) (hcm : c ≤ maxLen) (hn : n ≤ 1000000000) :
    Calls Try.prog 36 #[.slice A n c] w fun e w' => e = .returned (.agg (bytesV (shaG l)).toArray) ∧ Below w.heap.size w w' := by
  have hb2 : Below w.heap.size w ((w.alloc (.cells zID 27)).alloc (.cells #[.slice A n c] 32)) := ((Below.refl _ _).alloc (Nat.le_refl _) _).alloc (by simp) _
  have hl : l.length = n := by have := hs.1; rw [bytesV_length] at this; omega
  have HSUM := Lib.hid (sum_any (some ⟨w.heap.size + 1, 0, none⟩) 1 1 [.slice A n c] [l] ((w.alloc (.cells zID 27)).alloc (.cells #[.slice A n c] 32)) (by have := Sl.one (w.alloc (.cells zID 27)) (.slice A n c) 32; simpa using this) ((AllB.nil _).snoc (SlB.of (hs.below hb2) hnc hcm)) (by omega) (by simp; omega))
  have HB := Lib.hid hb2
  have HR := Lib.hid ((Blk.new w 27 zID).alloc (.cells #[.slice A n c] 32))
  have hfl : [l].flatten = l := by simp
  rw [hfl] at HSUM
  obtain ⟨KS, hKS⟩ : ∃ KS, KS = (bytesV (shaG l)).toArray := ⟨_, rfl⟩
  have HI := Lib.hid (show (Try.prog.info? 27).map (·.size) = some KS.size by rw [hKS]; exact oid_size (shaG_len32 l))
  have HO := Lib.hid (show KS.all (·.oneCell') = true by rw [hKS]; exact oid_one _)
  have HZ := Lib.hid (show zID.size = KS.size by rw [hKS]; simp [bytesV, shaG_len32])
  rw [← hKS] at HSUM ⊢
  clear hs hb2 hfl hKS
  go_enter Try.func36, Try.ntmps36
  go_wp2_with fail
  refine HSUM.out.mono ?_
  generalize (w.alloc (.cells zID 27)).alloc (.cells #[.slice A n c] 32) = w1 at *
  rintro e w2 ⟨rfl, hb⟩
  have hg := HR.out.lt
  have HB2 := Lib.hid (HB.out.trans (hb.mono (Nat.le_of_lt hg)))
  have HR2 := Lib.hid (HR.out.below hb hg)
  clear hb HSUM
  go_wp2_with (first | (refine wpList_store_row rfl _ _ _ rfl w.heap.size KS rfl rfl 27 _ HR2.out HI.out HZ.out HO.out ?_) | fail)
  refine bodyPost_ret (results_cell_row rfl _ _ w.heap.size 27 KS (0, 0) _ rfl (setRow_heap _ w.heap.size _ _ _ _ HR2.out) Try.underlying27 rfl HI.out) rfl ?_
  exact ⟨rfl, below_setRow HB2.out (Nat.le_refl _) KS⟩
end Go.Proofs.Ytpafhajpnepecaa
