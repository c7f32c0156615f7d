/- The law's own small functions: plain (the program's hunks as the document's) and same. -/
import Derived.Test.YtoeajlkmcokiiaaHunks
import Derived.Test.YtoeajlkmcokiiaaLinesStr
set_option linter.unusedVariables false
namespace Go.Proofs.Ytoeajlkmcokiiaa
open Go.RowKit

theorem elemRefHk : ElemOf Try.prog 34 68 (.agg #[.int .i64 0, .slice none 0 0, .slice none 0 0]) 3 56 := ⟨Try.underlying34, by kernel_rfl, rfl, by decide⟩

/-- What a call leaves that hands back hunks in new memory. -/
def HksPost (E : TypeId) (W : World) (hs : List Hk) (e : Ending) (w' : World) : Prop :=
  ∃ A c, e = .returned (.slice A hs.length c) ∧ hs.length ≤ c ∧ c ≤ maxLen ∧ SlOf hkR w' none A hs ∧ Below W.heap.size W w'


set_option maxHeartbeats 1000000 in
theorem plain_any (B : Option Addr) (m cb : Nat) (hs : List Hk) (w : World) (hb : SlOf hkR w none B hs) (hl : hs.length = m) (hm : m ≤ 2000000) :
    Calls Try.prog 15 #[.slice B m cb] w (HksPost 68 w hs) := by
  have HL := Lib.hid hl
  clear hl
  go_enter Try.func15, Try.ntmps15
  go_wp2_with fail
  go_loopw [3, 8] (fun o k wr => ∃ (K : Nat) (Ao : Option Addr) (co : Nat) (vs : List Value), o = .slice Ao K co ∧ k = .int .i64 K ∧ K ≤ m ∧
      wr.ownsRow w.heap.size 68 3 (.slice Ao K co) K vs ∧ Each (hkR.R wr (Value.slice Ao K co).ownBlock) vs (hs.take K) ∧ Below w.heap.size w wr) (fun _ k _ => m - (intOf k).toNat)
  case atStart => exact ⟨0, none, 0, [], rfl, rfl, by omega, World.ownsRow_nil _ _ _ _, by simpa using Each.nil, Below.refl _ _⟩
  case round =>
    obtain ⟨K, Ao, co, vs, rfl, rfl, hK, hown, hE, hbr⟩ := hrel
    by_cases hKm : K < m
    · obtain ⟨b1, o1, z, l1, l2, A1, A2, c1, c2, rfl, hb1, hx, hwf, k0, k1, k2, hc1, hm1, hs1, hc2, hm2, hs2⟩ := hk_look hb HL.out hKm
      have k0 := (hbr.cell hb1).trans k0
      have k1 := (hbr.cell hb1).trans k1
      have k2 := (hbr.cell hb1).trans k2
      have HX := Lib.hid hx
      have HW := Lib.hid hwf
      have hlt' : (K : Int) < (m : Int) := by omega
      have hbx : Below w.heap.size w ((wr.alloc (.cells #[.int .i64 z, .slice A1 l1.length c1, .slice A2 l2.length c2] 51)).alloc (.cells #[.int .i64 z, .slice A1 l1.length c1, .slice A2 l2.length c2] 68)) :=
        (hbr.alloc hbr.size _).alloc (by have := hbr.size; simp; omega) _
      have hown2 := (hown.alloc (.cells #[.int .i64 z, .slice A1 l1.length c1, .slice A2 l2.length c2] 51)).alloc (.cells #[.int .i64 z, .slice A1 l1.length c1, .slice A2 l2.length c2] 68)
      have hsl := Sl.fresh' (w := wr.alloc (.cells #[.int .i64 z, .slice A1 l1.length c1, .slice A2 l2.length c2] 51)) (cs := #[.int .i64 z, .slice A1 l1.length c1, .slice A2 l2.length c2]) (e := 68) (n := 1) (sz := 3) (g := wr.heap.size + 1) (by simp) rfl
      have hmv : Moves wr _ (Value.slice Ao K co).ownBlock (Value.slice Ao K co).ownBlock := Moves.of_below (((Below.refl wr.heap.size wr).alloc (Nat.le_refl _) (.cells #[.int .i64 z, .slice A1 l1.length c1, .slice A2 l2.length c2] 51)).alloc (by simp) (.cells #[.int .i64 z, .slice A1 l1.length c1, .slice A2 l2.length c2] 68))
      have hav : ∀ (l : List ByteArray) (A : Option Addr), SlOf strR w none A l → SlOf strR wr (Value.slice Ao K co).ownBlock A l := fun l A h => by
        obtain ⟨us, h1, h2, _⟩ := h.below hbr
        obtain ⟨us', h3, _, _⟩ := h
        refine ⟨us, h1, h2.mono fun _ _ h => h, fun h0 b off e he => ?_⟩
        obtain ⟨b', off', e', hlt, _⟩ := h3.2 h0
        rw [e] at e'
        injection e' with e'
        injection e' with e1
        have := (hown.lt b he.symm).1
        omega
      have hE2 := hE.mono (fun _ _ h => hkR.stable h hmv)
      have hr2 := hk_mk (z := z) (l1 := l1) (l2 := l2) hwf hc1 hm1 ((hav _ _ hs1).stable hmv) hc2 hm2 ((hav _ _ hs2).stable hmv)
      obtain ⟨A', c', w3, hrun, hap, h1, h2⟩ := append_sl (P := Try.prog) elemRefHk hown2 hsl (by simp; exact ⟨rfl, rfl, rfl⟩) (by omega) (by simp only [maxLen]; omega) hbx.size 34 1
      have HB := Lib.hid (hbx.trans hap.below)
      have HO := Lib.hid hap.own
      have HE := Lib.hid ((hE2.mono (fun _ _ h => hkR.stable h (.of_app hap))).snoc (hkR.stable hr2 (.of_app hap)))
      clear hx hwf hs1 hs2 hown hbr hbx hown2 hsl hmv hav hE hE2 hr2 hap hb
      go_wp2_with (at_builtin; refine wpList_run_append hrun ?_ ?_ ?_; exact rfl; exact rfl)
      go_roundw
      case rel =>
        refine ⟨K + 1, A', c', _, rfl, by go_num, by omega, HO.out, ?_, HB.out⟩
        rw [List.take_add_one, HX.out]
        exact HE.out
      case measure => simp [intOf]; omega
    · obtain rfl : K = m := by omega
      have hlt' : ¬ (K : Int) < (K : Int) := by omega
      have HLL := HL.out
      have ht : hs.take K = hs := List.take_of_length_le (by omega)
      rw [ht] at hE
      subst HLL
      have hO := SlOf.ofOwn (r := hkR) (l := hs) hown hE
      have HO := Lib.hid hO
      have HC := Lib.hid (own_cap hown)
      clear ht hE hown hO hb
      go_wp2_with fail
      go_ret
      exact ⟨Ao, co, rfl, HC.out.1, HC.out.2, HO.out, hbr⟩
end Go.Proofs.Ytoeajlkmcokiiaa
