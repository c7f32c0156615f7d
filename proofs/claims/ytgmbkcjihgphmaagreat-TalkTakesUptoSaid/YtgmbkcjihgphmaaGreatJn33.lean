/- Contracts and laws for what the statement reaches, joined: TalkTakesP. -/
import Derived.Test.YtgmbkcjihgphmaaGreatJn22
import Derived.Test.YtgmbkcjihgphmaaGreatJn31
import Derived.Test.YtgmbkcjihgphmaaGreatJn32
/- talk.Fetch beside the reference, plain; ids; the reference's fetch away from a block. -/
set_option linter.unusedVariables false
set_option linter.unusedSimpArgs false
namespace Go.Proofs.YtgmbkcjihgphmaaGreat
open Go.RowKit
attribute [local go_sem ↓] neqId_eq
/-- the same is aside -/
def AlikeA (ax : List RecT) (ad : AsT) : Prop := ∀ x, getB ax x = getA ad x
section
variable {ax bs : List RecT} {ad : AsT} {root : List UInt8}
theorem AlikeA.nil : AlikeA [] [] := fun _ => rfl
theorem getB_app (x : List UInt8) : getB (ax ++ bs) x = (getB ax x).or (getB bs x) := by
 unfold getB getS
 rw [List.find?_append]
 cases ax.find? (fun r => r.1 == x) <;> simp
theorem AlikeA.src (h : AlikeA ax ad) : getB (ax ++ bs) = srcF (getB bs) ad := by
 funext x
 rw [getB_app, h x]
 unfold srcF
 cases getA ad x <;> rfl
theorem AlikeA.recs (h : AlikeA ax ad) : recB ax (markL (getB (ax ++ bs)) root) = recsF (getB bs) ad root := by
 rw [h.src]
 unfold recsF
 cases markL (srcF (getB bs) ad) root with
 | error z => rfl
 | ok ids =>
  show ids.filterMap (getB ax) = ids.filterMap (getA ad)
  rw [show getB ax = getA ad from funext h]
theorem lack_aside {x : List UInt8} (h : x ∈ lackL (srcF (getB bs) ad) root) : getA ad x = none := by
 have h1 := ((srcF_fin (getB_fin bs) ad).re h).2
 unfold srcF at h1
 cases hg : getA ad x with
 | none => rfl
 | some b => rw [hg] at h1; cases h1
theorem AlikeA.take (h : AlikeA ax ad) (s : ByteArray) : AlikeA (takeB bs ax root s).1 (take1 (fun ad => lackL (srcF (getB bs) ad) root) ad (dB s)).1 ∧ (takeB bs ax root s).2 = (take1 (fun ad => lackL (srcF (getB bs) ad) root) ad (dB s)).2 := by
 unfold takeB take1
 rw [h.src]
 by_cases hc : (lkB (linksG (dB s)) && (lackL (srcF (getB bs) ad) root).contains (shaG (dB s))) = true
 ·rw [if_pos hc, if_pos hc]
  refine ⟨fun x => ?_, rfl⟩
  have hm : shaG (dB s) ∈ lackL (srcF (getB bs) ad) root := by
   have := (Bool.and_eq_true_iff.1 hc).2
   simpa using this
  have hn := lack_aside hm
  rw [getB_app, h x]
  unfold getA at hn ⊢
  unfold getB getS
  rw [List.find?_cons]
  by_cases hx : shaG (dB s) = x
  ·subst hx
   rw [hn]
   simp [dB]
  ·have hx2 : (shaG (dB s) == x) = false := by simpa using hx
   simp [hx2]
 ·rw [if_neg hc, if_neg hc]
  exact ⟨h, rfl⟩
theorem takeB_len (s : ByteArray) : (takeB bs ax root s).1.length ≤ ax.length + 1 := by
 unfold takeB
 split <;> simp
end
/-- records lie in no fetch -/
theorem recs_off {w : World} {g : Nat} {t : TypeId} {Aw Aa A : Option Addr} {nw cw na ca : Nat} {root : List UInt8} {l : List RecT} (hb : Blk w g t (fK Aw nw cw Aa na ca root)) (h32 : root.length = 32) (h : SlOf recR w no A l) : SlOf recR w (fun b => b = g) A l := by
 have h' := h
 obtain ⟨vs, hs, he, _⟩ := h'
 refine ⟨vs, hs, he.mono fun _ _ k => rec_anyw k, fun h0 b off e hg => ?_⟩
 subst hg
 obtain ⟨b1, o1, r, e1, hb1, hr, hr32, hat⟩ := recs_row h rfl (i := 0) h0
 rw [e] at e1
 injection e1 with e1
 injection e1 with e1 e2
 subst e1 e2
 have c32 := hat 32 (.string r.2) (by unfold recK; rw [List.getElem?_toArray, List.getElem?_append_right (by rw [bytesV_length, hr32]; exact Nat.le_refl _), bytesV_length, hr32]; rfl)
 obtain ⟨x, xs, hx⟩ : ∃ x xs, r.1 = x :: xs := by
  cases hr1 : r.1 with
  | nil => rw [hr1] at hr32; cases hr32
  | cons x xs => exact ⟨x, xs, rfl⟩
 have c0 := hat 0 (.int .u8 (x.toNat : Int)) (by unfold recK; rw [hx]; rfl)
 have c32 : (fK Aw nw cw Aa na ca root)[off + 0 * 33 + 32]? = some (.string r.2) := (hb.cell _).symm.trans c32
 have c0 : (fK Aw nw cw Aa na ca root)[off + 0 * 33 + 0]? = some (.int .u8 (x.toNat : Int)) := (hb.cell _).symm.trans c0
 have hlt := (Array.getElem?_eq_some_iff.1 c32).1
 rw [fK_size h32] at hlt
 have ho : off = 0 ∨ off = 1 := by omega
 rcases ho with rfl | rfl
 ·cases c0
 ·cases c0
theorem recs_offmap {w : World} {mb : Nat} {m : IM} {A : Option Addr} {l : List RecT} (hm : MapW w mb m) (h : SlOf recR w no A l) : SlOf recR w (fun b => b = mb) A l := by
 have h' := h
 obtain ⟨vs, hs, he, _⟩ := h'
 refine ⟨vs, hs, he.mono fun _ _ k => rec_anyw k, fun h0 b off e hg => ?_⟩
 obtain ⟨b1, o1, r, e1, hb1, hr, hr32, hat⟩ := recs_row h rfl (i := 0) h0
 rw [e] at e1
 injection e1 with e1
 injection e1 with e1 e2
 subst e1 e2
 have c32 := hat 32 (.string r.2) (by unfold recK; rw [List.getElem?_toArray, List.getElem?_append_right (by rw [bytesV_length, hr32]; exact Nat.le_refl _), bytesV_length, hr32]; rfl)
 rw [hg, hm.no_cell] at c32
 cases c32
theorem RF.row {w : World} {g : Nat} {K K2 : Array Value} {bs ax : List RecT} {root : List UInt8} (h : RF w K bs ax root) (h2 : ∃ Aw nw cw Aa na ca, K2 = fK Aw nw cw Aa na ca root) (hb : Blk w g 37 K2) (K3 : Array Value) : RF (w.setRow g K3) K bs ax root := by
 obtain ⟨Aw, nw, cw, Aa, na, ca, h1, h2', h3, h4, h5⟩ := h.ex
 obtain ⟨_, _, _, _, _, _, rfl⟩ := h2
 have hgr := grown_row w g K3
 have hm : Moves w (w.setRow g K3) (fun b => b = g) (fun b => b = g) := Moves.grown hgr rfl
 exact ⟨⟨Aw, nw, cw, Aa, na, ca, h1, h2', h3, ((recs_off hb h.r32 h4).stable hm).forget, ((recs_off hb h.r32 h5).stable hm).forget⟩, h.r32⟩
theorem RF.map {w w' : World} {mb : Nat} {m : IM} {K : Array Value} {bs ax : List RecT} {root : List UInt8} (h : RF w K bs ax root) (hm : MapW w mb m) (hg : w.grownBy w' (some mb)) : RF w' K bs ax root := by
 obtain ⟨Aw, nw, cw, Aa, na, ca, h1, h2', h3, h4, h5⟩ := h.ex
 exact ⟨⟨Aw, nw, cw, Aa, na, ca, h1, h2', h3, ((recs_offmap hm h4).stable (Moves.grown hg rfl)).forget, ((recs_offmap hm h5).stable (Moves.grown hg rfl)).forget⟩, h.r32⟩
theorem bytes_row {w : World} {g : Nat} {t : TypeId} {Aw Aa A Bw Ba : Option Addr} {nw cw na ca mw dw ma da : Nat} {root b : List UInt8} (hb : Blk w g t (fK Aw nw cw Aa na ca root)) (h : SlOf byteR w no A b) : SlOf byteR (w.setRow g (fK Bw mw dw Ba ma da root)) no A b := by
 obtain ⟨vs, hs, he, _⟩ := h
 have hgr := grown_row w g (fK Bw mw dw Ba ma da root)
 refine ⟨vs, ⟨hs.1, fun h0 => ?_⟩, he.mono fun _ _ k => k, fun _ _ _ _ k => k⟩
 obtain ⟨b1, off, e, hb1, hc⟩ := hs.2 h0
 refine ⟨b1, off, e, Nat.lt_of_lt_of_le hb1 hgr.size, fun j u hu => ?_⟩
 by_cases hg : b1 = g
 ·subst hg
  have h1 := hc j u hu
  rw [hb.cell] at h1
  have h2 : (w.setRow b1 (fK Bw mw dw Ba ma da root)).cell? ⟨b1, off + j, none⟩ = (fK Bw mw dw Ba ma da root)[off + j]? := cell_of_row _ b1 _ _ t (0, 0) (setRow_heap _ b1 _ _ _ _ hb)
  rw [h2]
  have hu8 : ∃ x : UInt8, u = .int .u8 (x.toNat : Int) := by
   have hv : vs = bytesV b := each_bytes he
   rw [hv] at hu
   have := List.mem_of_getElem? hu
   simp [bytesV] at this
   obtain ⟨x, _, hx⟩ := this
   exact ⟨x, hx.symm⟩
  obtain ⟨x, rfl⟩ := hu8
  generalize off + j = q at h1 ⊢
  match q with
  | 0 => cases h1
  | 1 => cases h1
  | q + 2 => simpa [fK] using h1
 ·rw [World.cell?_of_block (hgr.block b1 hb1 (fun e => hg (Option.some.inj e)))]
  exact hc j u hu
theorem FT.row {w : World} {B g g2 mb : Nat} {T : TypeId} {V : Value} {root root2 : List UInt8} {m : IM} {ad : AsT} {K K3 : Array Value} (h : FT w B g T V root mb m ad) (hb : Blk w g2 37 K) (hk : ∃ Aw nw cw Aa na ca, K = fK Aw nw cw Aa na ca root2) (hk3 : ∃ Aw nw cw Aa na ca, K3 = fK Aw nw cw Aa na ca root2) (hne : g ≠ g2) : FT (w.setRow g2 K3) B g T V root mb m ad := by
 have hgr := grown_row w g2 K3
 have hmb := blk_map hb h.map
 obtain ⟨_, _, _, _, _, _, rfl⟩ := hk
 obtain ⟨_, _, _, _, _, _, rfl⟩ := hk3
 refine ⟨h.blk.grown hgr (fun e => hne (Option.some.inj e)), h.map.same (hgr.block mb h.map.lt (fun e => hmb (Option.some.inj e).symm)), fun x => ?_, h.baseg, h.basem, h.r32⟩
 have he := h.els x
 cases hv : m.get x with
 | none => rw [hv] at he; exact he
 | some v =>
  rw [hv] at he
  obtain ⟨b', A', c', e1, e2, e3, e4⟩ := he
  exact ⟨b', A', c', e1, e2, bytes_row hb e3, e4⟩
theorem RF.one {w : World} {K : Array Value} {bs ax : List RecT} {root : List UInt8} (h : RF w K bs ax root) : K.all (·.oneCell') = true := by
 obtain ⟨Aw, nw, cw, Aa, na, ca, hK, _⟩ := h.ex
 rw [hK]; exact fK_one _ _ _ _ _ _ _
theorem RF.sz {w : World} {K : Array Value} {bs ax : List RecT} {root : List UInt8} (h : RF w K bs ax root) : K.size = 34 := by
 obtain ⟨Aw, nw, cw, Aa, na, ca, hK, _⟩ := h.ex
 rw [hK]; exact fK_size h.r32 _ _ _ _ _ _
theorem RF.k {w : World} {K : Array Value} {bs ax : List RecT} {root : List UInt8} (h : RF w K bs ax root) : ∃ Aw nw cw Aa na ca, K = fK Aw nw cw Aa na ca root := by
 obtain ⟨Aw, nw, cw, Aa, na, ca, hK, _⟩ := h.ex
 exact ⟨_, _, _, _, _, _, hK⟩
theorem built_f21 (A : Option Addr) (n c : Nat) : ∀ (i : List UInt8), i.length = 32 → Tryz.prog.built 37 [(0, .slice A n c), (2, .agg (bytesV i).toArray)] = some (fK A n c none 0 0 i)
 | [x0, x1, x2, x3, x4, x5, x6, x7, x8, x9, x10, x11, x12, x13, x14, x15, x16, x17, x18, x19, x20, x21, x22, x23, x24, x25, x26, x27, x28, x29, x30, x31], _ => by kernel_rfl
abbrev TurnT := Int × Int × List UInt8
def turnR : Rd TurnT := prodR (intR .i64) (prodR (intR .i64) (slR byteR))
abbrev turnK (k n : Int) (D : Option Addr) (nd cd : Nat) : Array Value := #[.int .i64 k, .int .i64 n, .slice D nd cd]
theorem turn_look {w : World} {av : Av} {A : Option Addr} {ms : List TurnT} {n i : Nat} (h : SlOf turnR w av A ms) (hl : ms.length = n) (hi : i < n) :
  ∃ b off x D cd, A = some ⟨b, off, none⟩ ∧ b < w.heap.size ∧ ms[i]? = some x ∧ At w ⟨b, off + i * 3, none⟩ (turnK x.1 x.2.1 D x.2.2.length cd) ∧ x.2.2.length ≤ cd ∧ cd ≤ maxLen ∧ SlOf byteR w av D x.2.2 := by
 obtain ⟨b, off, cs, x, e, hb, hx, hr, hc⟩ := h.at hl hi
 obtain ⟨c1, c2, rfl, h1, c3, c4, rfl, h3, ⟨D, cd, rfl, d1, d2, d3⟩⟩ := hr
 have h1 : c1 = [.int .i64 x.1] := h1.1
 have h3 : c3 = [.int .i64 x.2.1] := h3.1
 subst h1 h3
 exact ⟨b, off, x, D, cd, e, hb, hx, hc, d1, d2, d3⟩
def bulkT (x : TurnT) : Nat := (1 + (1 + (bulkL (fun _ => 1) x.2.2 + 1))) + 1
set_option maxRecDepth 100000 in
set_option maxHeartbeats 4000000 in
theorem ids_same (A B : Option Addr) (n c m d : Nat) (l : List (List UInt8)) (W0 : World) (ha : SlOf oidR W0 no A l) (hb : SlOf oidR W0 no B l) (hn : n = l.length) (hm : m = l.length) (hl : n ≤ 1000000000) :
  Calls Tryz.prog 9 #[.slice A n c, .slice B m d] W0 fun e w' => e = .returned (.bool true) ∧ Below W0.heap.size W0 w' := by
 obtain rfl : m = n := hm.trans hn.symm
 have HA := Lib.hid ha
 have HB := Lib.hid hb
 have HN := Lib.hid hn.symm
 clear ha hb hm hn
 go_enter Tryz.func9, Tryz.ntmps9
 go_wp2_with fail
 go_loopw [13] (fun s13 wr => ∃ k : Nat, k ≤ m ∧ s13 = .int .i64 (k : Int) ∧ Hid (Below W0.heap.size W0 wr)) (fun s13 wr => m - (intOf s13).toNat)
 case atStart => exact ⟨0, by omega, rfl, Lib.hid (Below.refl _ _)⟩
 case round =>
  obtain ⟨k, hk, rfl, HBL⟩ := hrel
  by_cases hlt : k < m
  ·have hltI : (k : Int) < (m : Int) := by omega
   obtain ⟨b1, o1, x, rfl, hb1, hx, h32, hat⟩ := oids_look (HA.out.below HBL.out) HN.out hlt
   obtain ⟨b2, o2, y, rfl, hb2, hy, _, hat2⟩ := oids_look (HB.out.below HBL.out) HN.out hlt
   obtain rfl : y = x := by rw [hx] at hy; exact (Option.some.inj hy).symm
   have hne := fun w => neqId_of h32 h32 w
   simp only [beq_self_eq_true, Bool.not_true] at hne
   obtain ⟨KX, hKX⟩ : ∃ KX, KX = (bytesV y).toArray := ⟨_, rfl⟩
   have HI := Lib.hid (show (Tryz.prog.info? 33).map (·.size) = some KX.size by rw [hKX]; exact oid_size h32)
   rw [← hKX] at hat hat2 hne
   have HAT := Lib.hid hat
   have HAT2 := Lib.hid hat2
   have hdr : Below wr.heap.size wr wr.drew := Same.below ⟨1, rfl⟩ _
   have HB2 := Lib.hid (HBL.out.trans (hdr.mono HBL.out.size))
   clear hx hy h32 hat hat2 hKX
   go_upto_region 6 with fail
   refine wp_region_held (S := fun w => Below wr.heap.size wr w) (by kernel_rfl) ?_
   change wpAnyH _ _ _ _ _ _ _ _ (World.drew _)
   refine rgT 0 hdr ?_
   refine rgT 1 hdr ?_
   refine rgT 2 hdr ?_
   refine rgU 3 (v := ?_) (a' := ?_) hdr ?_ ?_ ?_
   rotate_left 2
   ·(intro w hS; refine exec_load_at 33 (.tmp 18) ?_ b1 (o1 + k * 32) ?_ KX _ (HAT.out.below hS hb1) Tryz.underlying33 rfl HI.out; exact rfl; exact rfl)
   ·(go_simp; try with_reducible rfl)
   refine rgT 4 hdr ?_
   refine rgT 5 hdr ?_
   refine rgT 6 hdr ?_
   refine rgU 7 (v := ?_) (a' := ?_) hdr ?_ ?_ ?_
   rotate_left 2
   ·(intro w hS; refine exec_load_at 33 (.tmp 22) ?_ b2 (o2 + k * 32) ?_ KX _ (HAT2.out.below hS hb2) Tryz.underlying33 rfl HI.out; exact rfl; exact rfl)
   ·(go_simp; try with_reducible rfl)
   refine rgT 8 hdr ?_
   refine wpAnyH_done (by kernel_rfl) ?_ _
   go_wp2_with fail
   go_roundw
   case rel => exact ⟨k + 1, by omega, by go_num, HB2⟩
   case measure => simp [intOf]; omega
  ·have hltI : ¬ (k : Int) < (m : Int) := by omega
   go_wp2_with fail
   go_ret
   exact ⟨rfl, HBL.out⟩
end Go.Proofs.YtgmbkcjihgphmaaGreat
