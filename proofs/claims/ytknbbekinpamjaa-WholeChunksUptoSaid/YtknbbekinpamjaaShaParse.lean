/- sha.Parse. -/
import Derived.Test.YtknbbekinpamjaaShaHex
import Derived.Laws.ResultCell
set_option linter.unusedVariables false
namespace Go.Proofs.Ytknbbekinpamjaa
open Go.RowKit

def digU (x : UInt8) : UInt8 := if 97 ≤ x.toNat then x - 97 + 10 else x - 48
def badD (x : UInt8) : Bool := decide (15 < (digU x).toNat) || (decide (x.toNat < 97) && decide (9 < (digU x).toNat))
def mix4 (y d : UInt8) : UInt8 := (y <<< 4) ||| d
/-- q digits read -/
def parT (b : List UInt8) : Nat → List UInt8
  | 0 => List.replicate 32 0
  | q + 1 => (parT b q).set (q / 2) (mix4 ((parT b q).getD (q / 2) 0) (digU (b.getD q 0)))
def parOk (b : List UInt8) : Bool := b.length == 64 && b.all (fun x => !badD x)
def parR (b : List UInt8) : List UInt8 × Int := if parOk b then (parT b 64, 0) else (List.replicate 32 0, 30)
theorem parT_length (b : List UInt8) : ∀ q, (parT b q).length = 32
  | 0 => by simp [parT]
  | q + 1 => by rw [parT, List.length_set, parT_length b q]
theorem getD_getB {l : List UInt8} {i : Nat} (h : i < l.length) : l[i]? = some (l.getD i 0) := by
  rw [List.getD_eq_getElem?_getD, List.getElem?_eq_getElem h]; rfl
theorem parR_short {b : List UInt8} (h : b.length ≠ 64) : parR b = (List.replicate 32 0, 30) := by
  unfold parR parOk
  rw [if_neg]
  simp [h]
theorem parR_bad {b : List UInt8} {q : Nat} (hq : q < b.length) (h : badD (b.getD q 0) = true) : parR b = (List.replicate 32 0, 30) := by
  unfold parR parOk
  rw [if_neg]
  intro hh
  rw [Bool.and_eq_true, List.all_eq_true] at hh
  have := hh.2 (b.getD q 0) (List.mem_iff_getElem?.2 ⟨q, getD_getB hq⟩)
  rw [h] at this
  cases this
theorem parR_ok {b : List UInt8} (h64 : b.length = 64) (h : ∀ j, j < 64 → badD (b.getD j 0) = false) : parR b = (parT b 64, 0) := by
  unfold parR parOk
  rw [if_pos]
  rw [Bool.and_eq_true, List.all_eq_true]
  refine ⟨by simp [h64], fun x hx => ?_⟩
  obtain ⟨j, hj⟩ := List.mem_iff_getElem?.1 hx
  have hjl := (List.getElem?_eq_some_iff.1 hj).1
  have := h j (by omega)
  rw [List.getD_eq_getElem?_getD, hj] at this
  show (!badD x) = true
  rw [show badD x = false from this]; rfl

/-! ### bytes as the walk spells them -/
theorem b_sub48 (x : UInt8) : ((x.toNat : Int) - 48) % 256 = ((x - 48).toNat : Int) := by rw [UInt8.toNat_sub]; have := x.toNat_lt; simp; omega
theorem b_let (x : UInt8) : (((x.toNat : Int) - 97) % 256 + 10) % 256 = ((x - 97 + 10).toNat : Int) := by rw [UInt8.toNat_add, UInt8.toNat_sub]; have := x.toNat_lt; simp; omega
theorem b8_of (x : UInt8) : BitVec.ofInt 8 (x.toNat : Int) = x.toBitVec := by
  apply BitVec.eq_of_toNat_eq
  rw [BitVec.toNat_ofInt]
  have := x.toNat_lt
  rw [UInt8.toNat_toBitVec]
  omega
theorem wrap8_bv (r : BitVec 8) : IntKind.u8.wrap (r.toNat : Int) = (r.toNat : Int) := by
  have := r.isLt
  simp only [IntKind.wrap, IntKind.bits, IntKind.signed]
  simp
  omega
theorem b_or (x y : UInt8) : bits .or .u8 (x.toNat : Int) (y.toNat : Int) = ((x ||| y).toNat : Int) := by
  unfold bits
  show IntKind.u8.wrap ((BitVec.ofInt 8 (x.toNat : Int) ||| BitVec.ofInt 8 (y.toNat : Int)).toNat : Int) = _
  rw [b8_of, b8_of, wrap8_bv]; rfl
theorem b_shl4 (x : UInt8) : (x.toNat : Int) * (16 : Int) % (256 : Int) = ((x <<< 4).toNat : Int) := by
  have h : (x <<< 4).toNat = x.toNat * 16 % 256 := by
    rw [UInt8.toNat_shiftLeft, Nat.shiftLeft_eq]; simp
  rw [h]; omega
theorem b_mix (y d : UInt8) : bits .or .u8 ((y.toNat : Int) * (16 : Int) % (256 : Int)) (d.toNat : Int) = ((mix4 y d).toNat : Int) := by rw [b_shl4, b_or]; rfl

/-- '[]byte(s)' behind a name -/
noncomputable def stb (w : World) (s : ByteArray) : Result Value := (convert 9 22 (.string s)).run Try.prog w
theorem stb_eq (w : World) (s : ByteArray) : (convert 9 22 (.string s)).run Try.prog w = stb w s := rfl
theorem stb_of (W : World) (b : List UInt8) : ∃ c w1, stb W ⟨b.toArray⟩ = .ok (.slice (some ⟨W.heap.size, 0, none⟩) b.length c) w1 ∧ Sl w1 1 (some ⟨W.heap.size, 0, none⟩) b.length (bytesV b) ∧ Below W.heap.size W w1 ∧ W.heap.size < w1.heap.size := by
  have hrun := run_bytes_of_string (P := Try.prog) W 9 22 5 ⟨b.toArray⟩ Try.underlying9 Try.underlying22 Try.underlying5
  refine ⟨_, _, hrun, ⟨by simp [bytesV], fun _ => ⟨W.heap.size, 0, rfl, by simp, fun j u hu => ?_⟩⟩, (Below.refl _ W).drew.alloc (Nat.le_refl _) _, by simp⟩
  rw [Nat.zero_add, cell_of_row _ W.heap.size j _ 5 _ (heap_alloc_new W.drew _)]
  have hj := (List.getElem?_eq_some_iff.1 hu).1
  unfold bytesRow
  rw [Array.getElem?_append_left (by simpa [bytesV] using hj), ← hu]
  simp [bytesV]
/-- the two results, the first out of a row -/
theorem results_row_tmp {P : Program} {fn : Func} {p u : Tmp} {ty : TypeId} (h : fn.results = #[.cell p ty, .tmp u]) (tmps : Array Value) (w : World) (g : Nat) (t : TypeId) (cs : Array Value) (fr : Nat × Nat) (d : TypeDesc)
    (hp : tmps.getD p undef = .pointer (some ⟨g, 0, none⟩)) (hg : w.heap[g]? = some (.cells cs t fr))
    (hu : P.underlying ty = some d) (hd : (match d with | .struct _ | .array _ _ => true | _ => false) = true) (hi : (P.info? ty).map (·.size) = some cs.size) :
    (results fn tmps).run P w = .ok (.tuple #[.agg cs, tmps.getD u undef]) w := by
  rw [results_cell_tmp h]
  have hp' : tmps[p]?.getD undef = .pointer (some ⟨g, 0, none⟩) := by simpa using hp
  simp [hp', asAddr, run_loadVar_row w g t ty cs fr d hg hu hd hi, Result.andThen]
end Go.Proofs.Ytknbbekinpamjaa
