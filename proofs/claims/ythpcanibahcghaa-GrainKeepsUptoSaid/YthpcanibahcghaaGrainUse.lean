/- grain: Encode and Decode as the laws use them: what they answer, with and without an error, in one form. -/
import Derived.Test.YthpcanibahcghaaGrainMore
import Derived.Test.YthpcanibahcghaaGrainAwake
import Derived.Test.YthpcanibahcghaaGrainSame
set_option linter.unusedVariables false
namespace Go.Proofs.Ythpcanibahcghaa
open Go.RowKit

open Go.ChangeShapes Go.WideShapes Go.ChangeAt in
theorem open_flt {H : Type} {enc : TypeId × Value → H} {P : Program} {W : World} {spare : Nat → Bool} {held : Bool} {rc : Reach} {base : Nat} {t : TypeId} {v : Value} {d : DataW H} {p : List MemPlace}
    (ht : P.underlying t = some (.float .f64)) (hv : Value.okWide P W rc base t v) (h : DataW.Trod enc P W 0 spare held t v d p) : ∃ b, v = .float .f64 b ∧ b < 2 ^ 64 := by
  have hf : ∃ b, v = .float .f64 b := by
    simp only [Value.okWide, ht, Cell.okWide] at hv
    cases v <;> simp_all [Cell.ok]
  obtain ⟨b, rfl⟩ := hf
  obtain ⟨fuel, hf⟩ := h
  cases fuel with
  | zero => simp [DataW.trod] at hf
  | succ n =>
    refine ⟨b, rfl, ?_⟩
    simp [DataW.trod, ht, Value.cells] at hf
    simpa [Lit.wf] using hf.1

def okZ {α : Type} : Res α → Int
  | .ok _ => 0
  | .error z => z
def okV : Res Val → Val
  | .ok v => v
  | .error _ => .mk 0 0 [] 0 []
def okB : Res (List UInt8) → List UInt8
  | .ok o => o
  | .error _ => []

theorem DecPost.use {w w' : World} {D : Res Val} {e : Ending} (h : DecPost w D e w') : ∃ cs : List Value, e = .returned (.tuple #[.agg cs.toArray, .int .i64 (okZ D)]) ∧ valR.R w' (fun b => b < w.heap.size) cs (okV D) ∧ Below w.heap.size w w' := by
  obtain ⟨hb, h⟩ := h
  cases D with
  | error z => exact ⟨zV.toList, h, valR_flat w' _ (k := 0) 0 0 (by decide) (by decide) (by decide), hb⟩
  | ok v => obtain ⟨cs, he, hv⟩ := h; exact ⟨cs, he, hv, hb⟩
theorem EncPost.use {w w' : World} {E : Res (List UInt8)} {e : Ending} (h : EncPost w E e w') : ∃ A c, e = .returned (.tuple #[.slice A (okB E).length c, .int .i64 (okZ E)]) ∧ w'.ownsRow w.heap.size 5 1 (.slice A (okB E).length c) (okB E).length (bytesV (okB E)) ∧ Below w.heap.size w w' := by
  obtain ⟨hb, h⟩ := h
  cases E with
  | error z => exact ⟨none, 0, h, World.ownsRow_nil _ _ _ _, hb⟩
  | ok o => obtain ⟨A, m, c, he, rfl, ho⟩ := h; exact ⟨A, c, he, ho, hb⟩
theorem dec_err_ne {l : List UInt8} {z : Int} (h : dec l = .error z) : z ≠ 0 := by
  unfold dec at h
  split at h
  · injection h with h; omega
  · split at h
    · rename_i q; injection h with h; subst h; exact rd_err_ne _ _ _ q
    · cases h
    · injection h with h; omega
theorem dec_zero {l : List UInt8} (h : okZ (dec l) = 0) : dec l = .ok (okV (dec l)) := by
  cases hd : dec l with
  | ok v => rfl
  | error z => rw [hd] at h; exact absurd h (dec_err_ne hd)
theorem enc_zero {v : Val} (h : okZ (enc v) = 0) : enc v = .ok (okB (enc v)) := by
  cases hd : enc v with
  | ok v => rfl
  | error z => rw [hd] at h; exact absurd h (wrV_err 16 [] v z hd)
theorem okB_bad {v : Val} (h : okZ (enc v) ≠ 0) : okB (enc v) = [] := by
  cases hd : enc v with
  | ok v => rw [hd] at h; exact absurd rfl h
  | error z => rfl
theorem okV_bad {l : List UInt8} (h : okZ (dec l) ≠ 0) : okV (dec l) = .mk 0 0 [] 0 [] := by
  cases hd : dec l with
  | ok v => rw [hd] at h; exact absurd rfl h
  | error z => rfl

/-- a value in a block of its own -/
structure Kept (w : World) (g : Nat) (KV : Array Value) (v : Val) : Prop where
  blk : Blk w g 27 KV
  val : valR.R w no KV.toList v
theorem Kept.below {w w' : World} {g : Nat} {KV : Array Value} {v : Val} (h : Kept w g KV v) (hb : Below w.heap.size w w') : Kept w' g KV v :=
  ⟨h.blk.below hb h.blk.lt, valR.stable h.val (Moves.of_below hb)⟩
theorem Kept.info {w : World} {g : Nat} {KV : Array Value} {v : Val} (h : Kept w g KV v) : (Try.prog.info? 27).map (·.size) = some KV.size := by
  have : KV.toList.length = 5 := valR.len h.val
  rw [show KV.size = 5 from by simpa using this]; exact val_info
theorem Kept.enc {w : World} {g : Nat} {KV : Array Value} {v : Val} (h : Kept w g KV v) (hb : bulkV v ≤ 1100000) : Calls Try.prog 10 #[.agg KV] w (EncPost w (enc v)) := by
  have := encode_big v w h.val hb
  rwa [Array.toArray_toList] at this
theorem Kept.same {w : World} {g g' : Nat} {KV KW : Array Value} {v : Val} (h : Kept w g KV v) (h' : Kept w g' KW v) : Calls Try.prog 14 #[.agg KV, .agg KW] w fun e w' => e = .returned (.bool true) ∧ Below w.heap.size w w' := by
  have := same_any v KV.toList KW.toList w h.val h'.val
  rwa [Array.toArray_toList, Array.toArray_toList] at this
theorem keepNew (w : World) {cs : List Value} {v : Val} {av : Av} (hv : valR.R w av cs v) : ∃ KV : Array Value, KV = cs.toArray ∧ Hid (Kept (w.alloc (.cells KV 27)) w.heap.size KV v) ∧ Hid ((Try.prog.info? 27).map (·.size) = some KV.size) ∧ Hid (KV.all (·.oneCell') = true) ∧ Hid (5 = KV.size) ∧
    Hid ((w.alloc (.cells #[.int .i64 0, .int .u64 0, .slice none 0 0, .float .f64 0, .slice none 0 0] 27)).heap[w.heap.size]? = some (.cells #[.int .i64 0, .int .u64 0, .slice none 0 0, .float .f64 0, .slice none 0 0] 27)) := by
  have hk5 : cs.length = 5 := valR.len hv
  refine ⟨cs.toArray, rfl, Lib.hid ⟨Blk.new _ _ _, ?_⟩, Lib.hid (by rw [show cs.toArray.size = 5 from by simpa using hk5]; exact val_info), Lib.hid (by simpa using valR.one hv), Lib.hid (by simpa using hk5.symm), Lib.hid (heap_alloc_new w _)⟩
  exact valR.stable hv ((Moves.forget w _).trans (Moves.of_below ((Below.refl _ _).alloc (Nat.le_refl _) _)))
end Go.Proofs.Ythpcanibahcghaa
