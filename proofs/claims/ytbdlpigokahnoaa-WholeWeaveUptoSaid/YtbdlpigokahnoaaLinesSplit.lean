/- lines.Split and IsText, and what they call. -/
import Derived.Test.YtbdlpigokahnoaaBytesList
import Derived.Test.YtbdlpigokahnoaaLinesStr
import Derived.Lib.BytesEntry
import Derived.Lib.IndexLaws
import Derived.Laws.Externs
set_option linter.unusedVariables false
namespace Go.Proofs.Ytbdlpigokahnoaa
open Go.RowKit
attribute [local go_sem ↓] cutA_eq cvt_eq

theorem indexByte_any (A : Option Addr) (n c : Nat) (l : List UInt8) (x : UInt8) (w : World) (hs : Sl w 1 A n (bytesV l)) :
    Calls Try.prog 29 #[.slice A n c, .int .u8 (x.toNat : Int)] w fun e w' => e = .returned (.int .i64 (Lib.indexByte l x)) ∧ w = w' := by
  have hl : l.length = n := by have := hs.1; simpa [bytesV] using this
  have hx : (x.toNat : Int).toNat.toUInt8 = x := by simp
  have hrun : (Extern.BytealgIndexByte.indexByte #[.slice A n c, .int .u8 (x.toNat : Int)]).run Try.prog w = .ok (.int .i64 (Lib.indexByte l x)) w := by
    rcases Nat.eq_zero_or_pos n with hz | hz
    · subst hz
      have : l = [] := List.eq_nil_of_length_eq_zero hl
      subst this
      rcases A with _ | ⟨b, off, spot⟩
      · exact Lib.run_indexByteNil (P := Try.prog) (w := w) 0 c (x.toNat : Int)
      · cases spot with
        | none => exact Lib.run_indexByteSlice (P := Try.prog) (w := w) b off 0 c [] rfl (fun i hi => by omega) (x.toNat : Int)
        | some sp => rfl
    · obtain ⟨b, off, rfl, _, hc⟩ := hs.2 hz
      have h := Lib.run_indexByteSlice (P := Try.prog) (w := w) b off n c (l.map fun b => (b.toNat : Int)) (by simpa using hl) (fun i hi => by
        have := hc i (.int .u8 (l[i].toNat : Int)) (bytesV_get l i (by omega))
        rw [this]
        simp [List.getD, show i < l.length from by omega]) (x.toNat : Int)
      rw [hx] at h
      have e : Lib.bytesOf (l.map fun b => (b.toNat : Int)) = l := by
        simp [Lib.bytesOf, Function.comp_def]
      rw [e] at h
      exact h
  have HR := Lib.hid hrun
  clear hx hl hrun
  go_enter Try.func29, Try.ntmps29
  go_wp2_with fail
  rw [run_callFunc_extern Try.func40 (by kernel_rfl) (by kernel_rfl) (by kernel_rfl) (e := Extern.BytealgIndexByte.indexByte) (by kernel_rfl), HR.out]
  simp only [Result.andThen]
  rw [Oper.upon_value]
  go_wp2_with fail
  go_ret
  exact ⟨rfl, rfl⟩

/-- how long the first line is -/
def lineLen (l : List UInt8) : Nat := if Lib.indexByte l 10 = -1 then l.length else (Lib.indexByte l 10).toNat + 1
theorem lineLen_pos {l : List UInt8} (h : l ≠ []) : 0 < lineLen l := by
  unfold lineLen
  split
  · exact List.length_pos_iff.2 h
  · omega
theorem indexByte_lt {l : List UInt8} {x : UInt8} (h : ¬ Lib.indexByte l x = -1) : 0 ≤ Lib.indexByte l x ∧ (Lib.indexByte l x).toNat < l.length := by
  have h1 := Lib.indexByte_ge l x
  have h2 : Lib.indexByte l x = ((Lib.indexByte l x).toNat : Int) := by omega
  have h3 := (Lib.indexByte_some h2).1
  exact ⟨by omega, (List.getElem?_eq_some_iff.1 h3).1⟩
theorem lineLen_le (l : List UInt8) : lineLen l ≤ l.length := by
  unfold lineLen
  split
  · exact Nat.le_refl _
  · rename_i h; have := (indexByte_lt h).2; omega

/-- a text's lines -/
def splitG (l : List UInt8) : List ByteArray :=
  if h : l = [] then [] else ⟨(l.take (lineLen l)).toArray⟩ :: splitG (l.drop (lineLen l))
termination_by l.length
decreasing_by
  have := lineLen_pos h
  have h2 := List.length_pos_iff.2 h
  rw [List.length_drop]; omega
theorem splitG_nil : splitG [] = [] := by rw [splitG, dif_pos rfl]
theorem splitG_cons {l : List UInt8} (h : l ≠ []) : splitG l = ⟨(l.take (lineLen l)).toArray⟩ :: splitG (l.drop (lineLen l)) := by rw [splitG, dif_neg h]

set_option maxRecDepth 100000 in
set_option maxHeartbeats 1000000 in
theorem split_any (A : Option Addr) (n c : Nat) (l : List UInt8) (w : World) (hs : Sl w 1 A n (bytesV l)) (hc : n ≤ c) (hm : c ≤ maxLen) (hn : n ≤ 1048576) :
    Calls Try.prog 12 #[.slice A n c] w (StrsPost w (splitG l)) := by
  have HL : Hid (l.length = n) := Lib.hid (by have := hs.1; simpa [bytesV] using this)
  unfold maxLen at hm
  go_enter Try.func12, Try.ntmps12
  go_wp2_with fail
  go_loopw [0, 3] (fun s o wr => ∃ (At : Option Addr) (nt ct : Nat) (r : List UInt8) (Ao : Option Addr) (co : Nat) (d : List ByteArray), s = .slice At nt ct ∧ Sl w 1 At nt (bytesV r) ∧ nt ≤ ct ∧ ct ≤ 9223372036854775807 ∧ d.length + nt ≤ n ∧
      o = .slice Ao d.length co ∧ wr.ownsRow w.heap.size 9 1 (.slice Ao d.length co) d.length (strV d) ∧ Below w.heap.size w wr ∧ Hid (splitG l = d ++ splitG r)) (fun s _ _ => lenOf s)
  case atStart => exact ⟨A, n, c, l, none, 0, [], rfl, hs, hc, by omega, by simp, rfl, World.ownsRow_nil _ _ _ _, Below.refl _ _, Lib.hid rfl⟩
  case round =>
    obtain ⟨At, nt, ct, r, Ao, co, d, rfl, hsr, hct, hcm, hdn, rfl, hown, hbr, H⟩ := hrel
    by_cases hz0 : nt = 0
    · subst hz0
      have hr : bytesV r = [] := hsr.empty
      have hr : r = [] := by simpa [bytesV] using hr
      subst hr
      have HE := Lib.hid splitG_nil
      go_wp2_with fail
      go_ret
      have h1 := H.out
      rw [HE.out, List.append_nil] at h1
      rw [h1]
      exact ⟨Ao, co, rfl, hown, (own_cap hown).1, (own_cap hown).2, hbr⟩
    · have hpos : (0 : Int) < (nt : Int) := by omega
      have hrl : r.length = nt := by have := hsr.1; simpa [bytesV] using this
      have hr0 : r ≠ [] := by intro h; subst h; simp at hrl; omega
      have HS := Lib.hid (splitG_cons hr0)
      have p1 := lineLen_pos hr0
      have p2 := lineLen_le r
      rw [hrl] at p2
      have hcall := indexByte_any At nt ct r 10 wr (hsr.below hbr)
      have HLL : Hid (lineLen r = if Lib.indexByte r 10 = -1 then r.length else (Lib.indexByte r 10).toNat + 1) := Lib.hid rfl
      have hge := Lib.indexByte_ge r 10
      have hlt := fun h => (indexByte_lt (l := r) (x := 10) h).2
      generalize Lib.indexByte r 10 = z at *
      generalize lineLen r = k at *
      have HRL := Lib.hid hrl
      have HC := Lib.hid hcall
      have hk : (z = -1 ∧ k = nt) ∨ (¬ z = -1 ∧ (k : Int) = z + 1) := by
        have := HLL.out
        rw [hrl] at this
        by_cases h : z = -1
        · rw [if_pos h] at this; exact .inl ⟨h, this⟩
        · rw [if_neg h] at this; exact .inr ⟨h, by omega⟩
      clear hcall HLL hrl hr0 hlt
      have hsub := (hsr.below hbr).upto (k := k) (by omega)
      rw [Nat.mul_one, bytesV_take] at hsub
      have hcv := cvt_of hsub ct
      have hnx := hsr.cut (k := k) (by omega) hct
      rw [bytesV_drop] at hnx
      have hown2 := hown.alloc (.cells #[.string ⟨(r.take k).toArray⟩] 9)
      obtain ⟨A', c', w3, hrun, hap, hc1, hc2⟩ := append_sl (P := Try.prog) elemStr hown2 (Sl.one wr (.string ⟨(r.take k).toArray⟩) 9) (by simp; rfl) (by omega) (by simp only [maxLen]; omega) (by have := hbr.size; simp; omega) 23 1
      have HB := Lib.hid ((hbr.alloc hbr.size (.cells #[.string ⟨(r.take k).toArray⟩] 9)).trans hap.below)
      have HO := Lib.hid hap.own
      have HN := Lib.hid hnx
      clear hap hown2 hnx hsub hsr hown hbr hs
      have hkt : (k : Int) ≤ (nt : Int) := by omega
      have hkc : (k : Int) ≤ (ct : Int) := by omega
      rcases hk with ⟨rfl, rfl⟩ | ⟨hz, hk⟩
      · go_wp2_with fail
        refine HC.out.mono ?_
        rintro e w2 ⟨rfl, rfl⟩
        go_wp2_with (at_builtin; refine wpList_run_append hrun ?_ ?_ ?_; exact rfl; exact rfl)
        go_roundw
        case rel =>
          refine ⟨_, 0, ct - k, r.drop k, A', c', d ++ [⟨(r.take k).toArray⟩], rfl, by have h := HN.out; rw [Nat.sub_self] at h; exact h, by omega, by omega, by simp; omega, by rw [List.length_append]; rfl, ?_, HB.out, ?_⟩
          · rw [List.length_append]; simpa [strV] using HO.out
          · exact Lib.hid (by rw [H.out, HS.out]; simp)
        case measure => simp [lenOf]; omega
      · obtain rfl : z = (k : Int) - 1 := by omega
        have hkk : ((k : Int) - 1 + 1) = (k : Int) := by omega
        have HKK := Lib.hid hkk
        have hk0 : ((k : Int) == 0) = false := by rw [beq_eq_false_iff_ne]; omega
        clear hkk hz hk
        go_wp2_with fail
        refine HC.out.mono ?_
        rintro e w2 ⟨rfl, rfl⟩
        have hkk := HKK.out
        go_wp2_with (at_builtin; refine wpList_run_append hrun ?_ ?_ ?_; exact rfl; exact rfl)
        go_roundw
        case rel =>
          refine ⟨_, nt - k, ct - k, r.drop k, A', c', d ++ [⟨(r.take k).toArray⟩], rfl, HN.out, by omega, by omega, by simp; omega, by rw [List.length_append]; rfl, ?_, HB.out, ?_⟩
          · rw [List.length_append]; simpa [strV] using HO.out
          · exact Lib.hid (by rw [H.out, HS.out]; simp)
        case measure => simp [lenOf]; omega

end Go.Proofs.Ytbdlpigokahnoaa
