/- the statements' helper quoted, and patterns made of it, plain. -/
import Derived.Test.YtlddnghfjdjglaaDoorGlobFuel
import Derived.Test.YtlddnghfjdjglaaDoorGlobRefLetter
import Derived.Test.YtlddnghfjdjglaaDoorGlobRefSplit
set_option linter.unusedVariables false
set_option linter.unusedSimpArgs false
namespace Go.Proofs.YtlddnghfjdjglaaDoor
open Go.RowKit

def quoG : List UInt8 → List UInt8
  | [] => []
  | x :: r => if x = 47 then 47 :: quoG r else 92 :: x :: quoG r
theorem quoG_append : ∀ (a b : List UInt8), quoG (a ++ b) = quoG a ++ quoG b
  | [], b => rfl
  | x :: r, b => by
    show (if x = 47 then 47 :: quoG (r ++ b) else 92 :: x :: quoG (r ++ b)) = (if x = 47 then 47 :: quoG r else 92 :: x :: quoG r) ++ quoG b
    rw [quoG_append r b]
    split <;> rfl
theorem quoG_len : ∀ (p : List UInt8), (quoG p).length ≤ 2 * p.length
  | [] => Nat.le_refl _
  | x :: r => by
    have := quoG_len r
    unfold quoG
    split <;> simp <;> omega
theorem strL_add (a b : List UInt8) : strL a ++ strL b = strL (a ++ b) := by
  apply ByteArray.ext
  simp [strL]

set_option maxRecDepth 100000 in
set_option maxHeartbeats 4000000 in
theorem quoted_any (p : List UInt8) (w : World) (hp : p.length ≤ 1000000) :
    Calls Tryd.prog 19 #[.string (strL p)] w fun e w' => e = .returned (.string (strL (quoG p))) ∧ Below w.heap.size w w' := by
  obtain ⟨M, hM⟩ : ∃ M, M = p.length := ⟨_, rfl⟩
  have HM := Lib.hid hM
  rw [← hM] at hp
  obtain ⟨q, hq⟩ : ∃ q, q = strL p := ⟨_, rfl⟩
  rw [← hq]
  have hqM : q.size = M := by rw [hq, strL_size, hM]
  have HQ := Lib.hid hq
  clear hM hq
  have H0 := Lib.hid (show (ByteArray.mk #[]) = strL (quoG (p.take 0)) from rfl)
  go_enter Tryd.func19, Tryd.ntmps19
  go_wp2_with fail
  go_loopw [3, 4] (fun s3 s4 wr => ∃ (i : Nat) (o : ByteArray), i ≤ M ∧ s3 = .string o ∧ s4 = .int .i64 (i : Int) ∧ Hid (o = strL (quoG (p.take i))) ∧ Hid (Below w.heap.size w wr)) (fun s3 s4 wr => M - (intOf s4).toNat)
  case atStart => exact ⟨0, _, Nat.zero_le _, rfl, rfl, H0, Lib.hid (Below.refl _ _)⟩
  case round =>
    obtain ⟨i, o, hi, rfl, rfl, HO, HB⟩ := hrel
    by_cases hlt : i < M
    · have hltI : (i : Int) < (M : Int) := by omega
      obtain ⟨x, hx⟩ : ∃ x, p[i]? = some x := ⟨_, List.getElem?_eq_getElem (by have := HM.out; omega)⟩
      have hiq : i < q.size := by omega
      have hqx : q[i] = x := strL_at hx HQ.out hiq
      have HT := Lib.hid (show quoG (p.take (i + 1)) = quoG (p.take i) ++ (if x = 47 then [47] else [92, x]) by
        rw [List.take_add_one, hx, quoG_append]
        refine congrArg _ ?_
        show (if x = 47 then 47 :: quoG [] else 92 :: x :: quoG []) = _
        rfl)
      have HE := Lib.hid (show q.extract i (i + 1) = strL [x] by
        rw [HQ.out, strL_cut, drop_cons hx, show i + 1 - i = 1 by omega]; rfl)
      have hos : o.size ≤ 2000000 := by
        rw [HO.out, strL_size]
        have := quoG_len (p.take i)
        rw [List.length_take] at this; omega
      have hii : (i : Int) ≤ (i : Int) + 1 := by omega
      have hi1 : (i : Int) + 1 ≤ (M : Int) := by omega
      have hi2 : ((i : Int) + 1).toNat = i + 1 := by omega
      by_cases h47 : x = 47
      · have hx47 : ((x.toNat : Int) != 47) = false := by rw [h47]; rfl
        have HO2 := Lib.hid (show o ++ q.extract i (i + 1) = strL (quoG (p.take (i + 1))) by
          rw [HT.out, HE.out, HO.out, strL_add, if_pos h47, h47])
        clear hx h47
        go_wp2_with fail
        go_roundw
        case rel => exact ⟨i + 1, o ++ q.extract i (i + 1), by omega, rfl, by go_num, HO2, HB⟩
        case measure => simp [intOf]; omega
      · have hx47 : ((x.toNat : Int) != 47) = true := by
          have := u8_ne (y := 47) h47
          simp only [bne, Bool.not_eq_true']; exact this
        have HO2 := Lib.hid (show o ++ ⟨#[92]⟩ ++ q.extract i (i + 1) = strL (quoG (p.take (i + 1))) by
          rw [HT.out, HE.out, HO.out, show (ByteArray.mk #[92]) = strL [92] from rfl, strL_add, strL_add, if_neg h47, List.append_assoc]; rfl)
        clear hx h47
        go_wp2_with fail
        go_roundw
        case rel => exact ⟨i + 1, o ++ ⟨#[92]⟩ ++ q.extract i (i + 1), by omega, rfl, by go_num, HO2, HB⟩
        case measure => simp [intOf]; omega
    · have hltI : ¬ (i : Int) < (M : Int) := by omega
      have HE := Lib.hid (show o = strL (quoG p) by rw [HO.out, List.take_of_length_le (by rw [← HM.out]; omega)])
      go_wp2_with fail
      go_ret
      exact ⟨by rw [HE.out]; rfl, HB.out⟩

/-! ### what they parse to -/
/-- no / in it -/
def flat (p : List UInt8) : Prop := ∀ x ∈ p, x ≠ 47
theorem quo_flat {p : List UInt8} (h : flat p) : flat (quoG p) := by
  induction p with
  | nil => exact h
  | cons x r ih =>
    have hx := h x (by simp)
    have hr := ih (fun y hy => h y (by simp [hy]))
    intro y hy
    unfold quoG at hy
    rw [if_neg hx] at hy
    rcases List.mem_cons.1 hy with rfl | hy
    · decide
    · rcases List.mem_cons.1 hy with rfl | hy
      · exact hx
      · exact hr y hy
theorem atoms_quo : ∀ {p : List UInt8} (az : List Atm) (r : List UInt8), flat p → atomsL az (quoG p ++ r) = atomsL (az ++ p.map litA) r
  | [], az, r, _ => by simp [quoG]
  | x :: p, az, r, h => by
    have hx := h x (by simp)
    have hp : flat p := fun y hy => h y (by simp [hy])
    have e : quoG (x :: p) = 92 :: x :: quoG p := by show (if x = 47 then 47 :: quoG p else 92 :: x :: quoG p) = _; rw [if_neg hx]
    rw [e, List.cons_append, List.cons_append, atomsL_step (a := litA x) (r := quoG p ++ r) (by simp) rfl, atoms_quo _ r hp]
    congr 1
    simp
theorem atoms_one {az : List Atm} {r : List UInt8} : atomsL az (42 :: r) = atomsL (az ++ [starA]) r := atomsL_step (by simp) rfl
theorem atoms_mark : ∀ (n : Nat) (az : List Atm), atomsL az (List.replicate n 63) = some (az ++ List.replicate n oneA)
  | 0, az => by rw [List.replicate_zero, atomsL_nil]; simp
  | n + 1, az => by
    rw [List.replicate_succ, atomsL_step (a := oneA) (r := List.replicate n 63) (by simp) rfl, atoms_mark n, List.replicate_succ]
    simp
/-- a text that is one piece -/
theorem parse_piece {l : List UInt8} {az : List Atm} (hl : l.length ≤ 255) (hf : flat l) (h0 : l ≠ []) (h2 : l ≠ [42, 42]) (ha : atomsL [] l = some az) : parseG l = .ok [some az] := by
  unfold parseG
  rw [if_neg (by omega), splitG_one hf]
  have hp : pieceG l = some (some az) := by rw [piece_atoms h2 h0, ha]; rfl
  have : piecesG [l] = some [some az] := by rw [pieces_step, hp]; rfl
  rw [this]
theorem match_name {az : List Atm} {s : List UInt8} (hf : flat s) (h0 : s ≠ []) : matchM [some az] s = nameM az s := by
  unfold matchM namesG
  rw [if_neg h0, splitG_one hf, mat_sign_cons _ _ rfl, mat_nil]
  simp [pcTakes]
theorem name_flat {s : List UInt8} (h : nameG s = true) : flat s ∧ s ≠ [] ∧ s.length ≤ 64 := by
  unfold nameG at h
  simp only [Bool.and_eq_true, decide_eq_true_eq] at h
  refine ⟨fun x hx => ?_, ?_, h.1.2⟩
  · have := (List.all_eq_true.1 h.2) x hx
    rintro rfl
    simp [badB] at this
  · rintro rfl
    simp at h
/-- literal bytes mean themselves -/
theorem take_lits : ∀ (p : List UInt8), takeAll Atm.star Atm.takes (p.map litA) p = true
  | [] => rfl
  | x :: r => by
    show (!(litA x).star && (litA x).takes x && takeAll Atm.star Atm.takes (r.map litA) r) = true
    rw [take_lits r]
    simp [litA, Atm.takes, inRs]
theorem lits_only : ∀ (p s : List UInt8), nameM (p.map litA) s = (s == p)
  | [], s => by unfold nameM; rw [List.map_nil, mat_nil]; cases s <;> rfl
  | x :: r, [] => by unfold nameM; rw [List.map_cons, mat_sign_nil _ _ rfl]; rfl
  | x :: r, y :: t => by
    have h := lits_only r t
    unfold nameM at h ⊢
    rw [List.map_cons, mat_sign_cons _ _ rfl, h]
    have e : (litA x).takes y = (y == x) := by
      show (if (false : Bool) then true else if inRs [(x, x)] y then !false else false) = _
      have : inRs [(x, x)] y = (y == x) := by
        simp only [inRs, List.any_cons, List.any_nil, Bool.or_false]
        rw [Bool.eq_iff_iff]
        simp only [Bool.and_eq_true, decide_eq_true_eq, beq_iff_eq]
        constructor
        · rintro ⟨h1, h2⟩; exact UInt8.le_antisymm h2 h1
        · rintro rfl; exact ⟨UInt8.le_refl _, UInt8.le_refl _⟩
      rw [this]
      cases y == x <;> rfl
    rw [e]; rfl
end Go.Proofs.YtlddnghfjdjglaaDoor
