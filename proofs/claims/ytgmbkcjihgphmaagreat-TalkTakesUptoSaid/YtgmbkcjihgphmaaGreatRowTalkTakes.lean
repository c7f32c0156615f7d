/- The statement TalkTakesUptoSaid of towline/towlinelaw21.TalkTakes: for every input, where what it reads is of bulk at most 1048576, the law returns true and each argument reads as it did. Condition: none but the given row's own. -/
import Derived.Test.YtgmbkcjihgphmaaGreatJn3
import Derived.Test.YtgmbkcjihgphmaaGreatLawTalkTakes
set_option linter.unusedVariables false
namespace Go.Proofs.YtgmbkcjihgphmaaGreat.talkTakes
open Go.ChangeShapes Go.WideShapes Go.ChangeAt Go.RowKit
open Go.ChangeMaps (open_string shut_string)

set_option maxRecDepth 100000 in
theorem lifted (os : Os) (started : os.Started) (H : Type) (enc : TypeId × Value → H) (F : Stop.Interp) :
    ReturnsInHanded {} Tryz.checked os 3 .any ((Rows.OpenSpec.upto Rows.talkTakesSpec).pre6 enc Tryz.prog Tryz.f3 Rows.talkTakesUptoRow.domain false) (((Rows.OpenSpec.upto Rows.talkTakesSpec).at F).post enc Tryz.prog Tryz.f3 false true false false) := by
  refine returnsInHanded_of_cond (C := Tryz.checked) (s := Rows.OpenSpec.upto Rows.talkTakesSpec) (k := Rows.uptoSmall) rfl own_knob started (by kernel_rfl) Tryz.func3
    (OpenSpec.witness (enc := enc) (C := Tryz.checked) (s := Rows.OpenSpec.upto Rows.talkTakesSpec) (k := Rows.uptoSmall) rfl false ⟨#[], #[.slice none 0 0, .slice none 0 0, .int .i64 0], []⟩ 8 (by kernel_rfl) (by kernel_rfl) (by kernel_rfl)
      (x := ([.nil, .nil, .lit (.int .i64 0)], [], [])) (by kernel_rfl) rfl (by kernel_rfl)) ?_
  intro W base args ds gs before hval0 hW _ hk _
  have hval : ∀ (j : Nat) t v, Tryz.f3.params[j]? = some t → args[j]? = some v → Value.okWide Tryz.prog W .any base t v := hval0
  have hW' := hW
  obtain ⟨p, q, hA0, hV, rfl, hfz, hnd⟩ := hW
  have hA : DataW.TrodAll enc Tryz.prog W 0 (fun _ => true) true Tryz.f3.params.toList args.toList ds p := hA0
  rw [Tryz.params3] at hA hval
  obtain ⟨v0, vs0, d0, ds0, p0, q0, hargs, rfl, rfl, h0, r0⟩ := trodAll_cons hA
  obtain ⟨v1, vs1, d1, ds1, p1, q1, rfl, rfl, rfl, h1, r1⟩ := trodAll_cons r0
  obtain ⟨v2, vs2, d2, ds2, p2, q2, rfl, rfl, rfl, h2, r2⟩ := trodAll_cons r1
  obtain ⟨rfl, rfl, rfl⟩ := trodAll_nil r2
  obtain rfl : args = #[v0, v1, v2] := by cases args; simp_all
  obtain ⟨rfl, rfl⟩ := trodVars_none hV
  have hB := bulk_all hk
  simp only [List.append_nil, Rows.uptoBulkAll] at hB
  have k0 := h0
  have lt0 : ∀ x ∈ p0, x.block < W.heap.size := by obtain ⟨m, hm⟩ := k0; exact DataW.trod_lt m _ _ _ hm
  obtain ⟨A0, c0, l0, rfl, nc0, cm0, s0, b0⟩ := open_slice_rd Tryz.underlying22 (hval 0 22 v0 rfl rfl) (opens_slice Tryz.underlying22 (by kernel_rfl) (by decide) (opens_struct Tryz.underlying63 (by kernel_rfl) (opensFs_cons (opens_int Tryz.underlying3 (by kernel_rfl)) (opensFs_cons (opens_slice Tryz.underlying38 (by kernel_rfl) (by decide) (opens_byte Tryz.underlying5 (by kernel_rfl))) (opensFs_cons (opens_slice Tryz.underlying61 (by kernel_rfl) (by decide) (opens_int Tryz.underlying3 (by kernel_rfl))) (opensFs_one (opens_bool Tryz.underlying4 (by kernel_rfl))) rfl rfl) rfl rfl) rfl rfl))) h0
  have k1 := h1
  have lt1 : ∀ x ∈ p1, x.block < W.heap.size := by obtain ⟨m, hm⟩ := k1; exact DataW.trod_lt m _ _ _ hm
  obtain ⟨A1, c1, l1, rfl, nc1, cm1, s1, b1⟩ := open_slice_rd Tryz.underlying23 (hval 1 23 v1 rfl rfl) (opens_slice Tryz.underlying23 (by kernel_rfl) (by decide) (opens_struct Tryz.underlying40 (by kernel_rfl) (opensFs_cons (opens_int Tryz.underlying3 (by kernel_rfl)) (opensFs_cons (opens_int Tryz.underlying3 (by kernel_rfl)) (opensFs_one (opens_slice Tryz.underlying38 (by kernel_rfl) (by decide) (opens_byte Tryz.underlying5 (by kernel_rfl)))) rfl rfl) rfl rfl))) h1
  have k2 := h2
  have lt2 : ∀ x ∈ p2, x.block < W.heap.size := by obtain ⟨m, hm⟩ := k2; exact DataW.trod_lt m _ _ _ hm
  obtain ⟨x2, rfl, rfl, rfl, w2⟩ := open_int Tryz.underlying3 (hval 2 3 v2 rfl rfl) h2
  clear hA0 hval0
  refine (talkTakes_any A0 c0 l0 A1 c1 l1 x2 W nc0 cm0 s0 (Nat.le_trans b0 (by omega)) nc1 cm1 s1 (Nat.le_trans b1 (by omega)) w2).mono fun e W' ⟨he, bel⟩ => ?_
  subst he
  exact ⟨_, rfl, _, _, _, [], _, [], hW', trodAll_mk1 (shut_bool Tryz.underlying4 _), (trodAll_cons_mk (Below.trod laid_out (by kernel_rfl) (of_decide_eq_true (by kernel_rfl)) k0 bel lt0) (trodAll_cons_mk (Below.trod laid_out (by kernel_rfl) (of_decide_eq_true (by kernel_rfl)) k1 bel lt1) (trodAll_cons_mk (Below.trod laid_out (by kernel_rfl) (of_decide_eq_true (by kernel_rfl)) k2 bel lt2) trodAll_mk0))), rfl, bel.frame _, fun h => by cases h⟩

theorem proved : Rows.TalkTakesUptoSaid :=
  OpenClaim.holds_of_cond 3 Tryz.f3 rfl rfl rfl rfl rfl rfl rfl ⟨rfl, rfl, rfl, rfl, rfl⟩ rfl rfl rfl rfl rfl (by kernel_rfl) Tryz.func3 (by kernel_rfl)
    (of_decide_eq_true (by kernel_rfl)) (by unfold Func.isWrapper; first | (rw [if_pos (by decide +kernel)]; kernel_rfl) | (rw [if_neg (by decide +kernel)]; exact ⟨rfl, rfl⟩))
    (fun os started H enc _ F => lifted os started H enc F)
end Go.Proofs.YtgmbkcjihgphmaaGreat.talkTakes
