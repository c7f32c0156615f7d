/- glob's scan: atoms. -/
import Derived.Test.YtlddnghfjdjglaaDoorGlobAtm
set_option linter.unusedVariables false
set_option linter.unusedSimpArgs false
namespace Go.Proofs.YtlddnghfjdjglaaDoor
open Go.RowKit

def AtomsPost (w : World) (g : Nat) (r : Option (List Atm)) (e : Ending) (w' : World) : Prop :=
  w.grownBy w' (some g) ∧ match r with
    | some az => ∃ A n c, e = .returned (.slice A n c) ∧ n = az.length ∧ n ≤ c ∧ c ≤ maxLen ∧ SlOf atmR w' (fun b => b < w.heap.size) A az
    | none => e = .panicked brokE
theorem lit_alloc (w : World) (y : UInt8) :
    atmR.R ((w.alloc (.cells #[.int .u8 (y.toNat : Int)] 5)).alloc (.cells #[.int .u8 (y.toNat : Int)] 5)) (fun b => b < w.heap.size) [.bool false, .bool false, .bool false, .slice (some ⟨w.heap.size, 0, none⟩) 1 1, .slice (some ⟨w.heap.size + 1, 0, none⟩) 1 1] (litA y) := by
  have h1 : Sl ((w.alloc (.cells #[.int .u8 (y.toNat : Int)] 5)).alloc (.cells #[.int .u8 (y.toNat : Int)] 5)) 1 (some ⟨w.heap.size, 0, none⟩) 1 [.int .u8 (y.toNat : Int)] := (Sl.one w _ _).below ((Below.refl _ _).alloc (Nat.le_refl _) _)
  have h2 : Sl ((w.alloc (.cells #[.int .u8 (y.toNat : Int)] 5)).alloc (.cells #[.int .u8 (y.toNat : Int)] 5)) 1 (some ⟨w.heap.size + 1, 0, none⟩) 1 [.int .u8 (y.toNat : Int)] := by
    have := Sl.one (w.alloc (.cells #[.int .u8 (y.toNat : Int)] 5)) (.int .u8 (y.toNat : Int)) 5
    simpa only [World.size_alloc] using this
  refine ⟨some ⟨w.heap.size, 0, none⟩, 1, 1, some ⟨w.heap.size + 1, 0, none⟩, 1, rfl, rfl, Nat.le_refl _, by simp only [maxLen]; omega, Nat.le_refl _, by simp only [maxLen]; omega, ⟨[.int .u8 (y.toNat : Int)], h1, Each.one (R := byteR.R _ _) rfl, fun _ b off e => ?_⟩, ⟨[.int .u8 (y.toNat : Int)], h2, Each.one (R := byteR.R _ _) rfl, fun _ b off e => ?_⟩⟩
  · injection e with e; injection e with e1 _; omega
  · injection e with e; injection e with e1 _; omega

theorem atomG_cons (x : UInt8) (r : List UInt8) : atomG (x :: r) = if x = 42 then some (starA, r) else if x = 63 then some (oneA, r) else if x = 91 then setG r else if x = 92 then (match nextG r with | none => none | some (y, r') => some (litA y, r')) else some (litA x, r) := rfl
theorem ne_byte {x : UInt8} (k : Nat) (hk : k < 256) (h : x ≠ UInt8.ofNat k) : ((x.toNat : Int) == (k : Int)) = false := by
  rw [beq_eq_false_iff_ne]
  intro e
  apply h
  apply UInt8.toNat_inj.1
  rw [UInt8.toNat_ofNat_of_lt' (by simpa using hk)]; omega

set_option maxRecDepth 100000 in
set_option maxHeartbeats 4000000 in
theorem atoms_any (g : Nat) (l : List UInt8) (w : World) (h : Scn w g l) (hl : l.length ≤ 1000000) :
    Calls Tryd.prog 26 #[.pointer (some ⟨g, 0, none⟩)] w (AtomsPost w g (atomsL [] l)) := by
  obtain ⟨R, hR⟩ : ∃ R, R = atomsL [] l := ⟨_, rfl⟩
  have HR := Lib.hid hR
  have HIN0 := Lib.hid (show AtIn w w g none 0 0 [] l from ⟨grown_refl w _, h.lt, h, RowX.nil _ _ _ _ _⟩)
  have HLN := Lib.hid hl
  rw [← hR]
  clear h hl hR
  go_enter Tryd.func26, Tryd.ntmps26
  go_wp2_with fail
  go_loopw [3] (fun s3 wr => ∃ (A : Option Addr) (n c : Nat) (az : List Atm) (l' : List UInt8), s3 = .slice A n c ∧ Hid (AtIn w wr g A n c az l') ∧ Hid (atomsL az l' = R) ∧ Hid (n + l'.length ≤ 1000000)) (fun s3 wr => leftOf wr g)
  case atStart => exact ⟨none, 0, 0, [], l, rfl, HIN0, Lib.hid HR.out.symm, Lib.hid (by have := HLN.out; omega)⟩
  case round =>
    obtain ⟨A, n, c, az, l', rfl, HIN, HSL, HNL⟩ := hrel
    have c0 : wr.cell? ⟨g, 0, none⟩ = some (.string (strL l')) := HIN.out.scan.cell 0
    have HLF := Lib.hid (left_scn HIN.out.scan)
    cases l' with
    | nil =>
      have hq0 : (strL []).toList.isEmpty = true := by rw [ByteArray.toList_eq]; rfl
      have HRR := Lib.hid (show R = some az by rw [← HSL.out, atomsL_nil])
      go_wp2_with fail
      go_ret
      refine ⟨HIN.out.grown, ?_⟩
      rw [HRR.out]
      exact ⟨A, n, c, rfl, HIN.out.row.len, HIN.out.row.cap.1, HIN.out.row.cap.2, HIN.out.row.sl (fun b hb hx => by have := (HIN.out.row.lt hb).1; omega)⟩
    | cons x r =>
      have hq0 : (strL (x :: r)).toList.isEmpty = false := by rw [ByteArray.toList_eq]; rfl
      have HNX := Lib.hid (next_any g (x :: r) wr HIN.out.scan)
      generalize strL (x :: r) = q at *
      go_wp2_with fail
      refine HNX.out.mono ?_
      rintro e w5 ⟨hg5, rfl, hs5⟩
      have HIN5 := Lib.hid (HIN.out.scanned hg5 hs5)
      have hn : n ≤ 1000000 := by have := HNL.out; omega
      clear c0 hq0 HNX hg5 hs5
      by_cases h42 : x = 42
      · have t42 : ((x.toNat : Int) == 42) = true := by rw [h42]; rfl
        have HST := Lib.hid (show atomsL (az ++ [starA]) r = R by rw [← HSL.out]; exact (atomsL_step (by simp) (by rw [atomG_cons, if_pos h42])).symm)
        obtain ⟨A', c', w6, run, hin6⟩ := HIN5.out.push (atm_flat w5 (fun b => b < w5.heap.size) true false false) (fun b hb _ => hb) hn 1
        have HIN6 := Lib.hid hin6
        clear hin6 h42
        go_wp2_with (at_builtin; refine wpList_run_append run ?_ ?_ ?_; exact rfl; exact rfl)
        go_roundw
        case rel => exact ⟨A', n + 1, c', az ++ [starA], r, rfl, HIN6, HST, Lib.hid (by have := HNL.out; rw [List.length_cons] at this; omega)⟩
        case measure => show leftOf _ g < leftOf wr g; rw [left_scn HIN6.out.scan, HLF.out, List.length_cons]; omega
      · have t42 : ((x.toNat : Int) == 42) = false := ne_byte 42 (by decide) h42
        by_cases h63 : x = 63
        · have t63 : ((x.toNat : Int) == 63) = true := by rw [h63]; rfl
          have HST := Lib.hid (show atomsL (az ++ [oneA]) r = R by rw [← HSL.out]; exact (atomsL_step (by simp) (by rw [atomG_cons, if_neg h42, if_pos h63])).symm)
          obtain ⟨A', c', w6, run, hin6⟩ := HIN5.out.push (atm_flat w5 (fun b => b < w5.heap.size) false true false) (fun b hb _ => hb) hn 1
          have HIN6 := Lib.hid hin6
          clear hin6 h42 h63
          go_wp2_with (at_builtin; refine wpList_run_append run ?_ ?_ ?_; exact rfl; exact rfl)
          go_roundw
          case rel => exact ⟨A', n + 1, c', az ++ [oneA], r, rfl, HIN6, HST, Lib.hid (by have := HNL.out; rw [List.length_cons] at this; omega)⟩
          case measure => show leftOf _ g < leftOf wr g; rw [left_scn HIN6.out.scan, HLF.out, List.length_cons]; omega
        · have t63 : ((x.toNat : Int) == 63) = false := ne_byte 63 (by decide) h63
          by_cases h91 : x = 91
          · have t91 : ((x.toNat : Int) == 91) = true := by rw [h91]; rfl
            have HG := Lib.hid (show atomG (x :: r) = setG r by rw [atomG_cons, if_neg h42, if_neg h63, if_pos h91])
            have HSE := Lib.hid (set_any g r w5 HIN5.out.scan (by have := HNL.out; rw [List.length_cons] at this; omega))
            clear h42 h63 h91
            go_wp2_with fail
            refine HSE.out.mono ?_
            intro e w6 hp
            obtain ⟨hg6, hp⟩ := hp
            revert hp
            cases hse : setG r with
            | none =>
              intro hp
              obtain rfl : e = _ := hp
              have hrr : R = none := by rw [← HSL.out, atomsL_bad (by simp) (by rw [HG.out, hse])]
              exact ⟨rfl, grown_trans HIN5.out.grown hg6, by rw [hrr]⟩
            | some q =>
              obtain ⟨a, r'⟩ := q
              rintro ⟨F, m, cF, T, dT, rfl, hae, hm, h1, h2, h3, h4, h5, h6, hs6⟩
              have hin6 := HIN5.out.scanned hg6 hs6
              have hrd : atmR.R w6 (fun b => b < w5.heap.size) [.bool a.star, .bool a.one, .bool a.no, .slice F m cF, .slice T m dT] a := ⟨F, m, cF, T, dT, rfl, hm, h1, h2, h3, h4, h5, h6⟩
              have hst : a.star = false := by rw [hae]
              have hon : a.one = false := by rw [hae]
              rw [hst, hon] at hrd
              have HST := Lib.hid (show atomsL (az ++ [a]) r' = R by rw [← HSL.out]; exact (atomsL_step (by simp) (by rw [HG.out, hse])).symm)
              have HRL := Lib.hid (setG_len hse)
              obtain ⟨A', c', w7, run, hin7⟩ := hin6.push hrd (fun b hb h => by
                rcases h with h | h
                · exact Nat.lt_of_lt_of_le h HIN5.out.grown.size
                · exact (HIN5.out.row.lt h).2) hn 1
              have HIN7 := Lib.hid hin7
              clear hin7 hin6 hrd hse hae hst hon h1 h2 h3 h4 h5 h6 hs6 hm HSE HG
              unfold atK
              go_wp2_with (at_builtin; refine wpList_run_append run ?_ ?_ ?_; exact rfl; exact rfl)
              go_roundw
              case rel => exact ⟨A', n + 1, c', az ++ [a], r', rfl, HIN7, HST, Lib.hid (by have := HNL.out; have := HRL.out; rw [List.length_cons] at *; omega)⟩
              case measure => show leftOf _ g < leftOf wr g; rw [left_scn HIN7.out.scan, HLF.out, List.length_cons]; have := HRL.out; omega
          · have t91 : ((x.toNat : Int) == 91) = false := ne_byte 91 (by decide) h91
            by_cases h92 : x = 92
            · have t92 : ((x.toNat : Int) == 92) = true := by rw [h92]; rfl
              have HG := Lib.hid (show atomG (x :: r) = (match nextG r with | none => none | some (y, r') => some (litA y, r')) by rw [atomG_cons, if_neg h42, if_neg h63, if_neg h91, if_pos h92])
              have HN6 := Lib.hid (next_any g r w5 HIN5.out.scan)
              clear h42 h63 h91 h92
              go_wp2_with fail
              refine HN6.out.mono ?_
              intro e w6 hp
              obtain ⟨hg6, hp⟩ := hp
              revert hp
              cases hse : nextG r with
              | none =>
                intro hp
                obtain rfl : e = _ := hp
                have hrr : R = none := by rw [← HSL.out, atomsL_bad (by simp) (by rw [HG.out, hse])]
                exact ⟨rfl, grown_trans HIN5.out.grown hg6, by rw [hrr]⟩
              | some q =>
                obtain ⟨y, r'⟩ := q
                rintro ⟨rfl, hs6⟩
                have HIN6 := Lib.hid (HIN5.out.scanned hg6 hs6)
                have HST := Lib.hid (show atomsL (az ++ [litA y]) r' = R by rw [← HSL.out]; exact (atomsL_step (by simp) (by rw [HG.out, hse])).symm)
                have HRL := Lib.hid (nextG_len hse)
                clear hse hg6 hs6 HN6 HG
                have hbb : Below w6.heap.size w6 ((w6.alloc (.cells #[.int .u8 (y.toNat : Int)] 5)).alloc (.cells #[.int .u8 (y.toNat : Int)] 5)) := ((Below.refl _ _).alloc (Nat.le_refl _) _).alloc (by simp) _
                obtain ⟨A', c', w8, run, hin8⟩ := (HIN6.out.below hbb).push (lit_alloc w6 y) (fun b hb h => by
                  rcases h with h | h
                  · exact Nat.lt_of_lt_of_le h HIN6.out.grown.size
                  · exact (HIN6.out.row.lt h).2) hn 1
                simp only [World.size_alloc] at run
                have HIN8 := Lib.hid hin8
                clear hin8 hbb
                go_wp2_with (at_builtin; refine wpList_run_append run ?_ ?_ ?_; exact rfl; exact rfl)
                go_roundw
                case rel => exact ⟨A', n + 1, c', az ++ [litA y], r', rfl, HIN8, HST, Lib.hid (by have := HNL.out; have := HRL.out; rw [List.length_cons] at *; omega)⟩
                case measure => show leftOf _ g < leftOf wr g; rw [left_scn HIN8.out.scan, HLF.out, List.length_cons]; have := HRL.out; omega
            · have t92 : ((x.toNat : Int) == 92) = false := ne_byte 92 (by decide) h92
              have HST := Lib.hid (show atomsL (az ++ [litA x]) r = R by rw [← HSL.out]; exact (atomsL_step (by simp) (by rw [atomG_cons, if_neg h42, if_neg h63, if_neg h91, if_neg h92])).symm)
              clear h42 h63 h91 h92
              have hbb : Below w5.heap.size w5 ((w5.alloc (.cells #[.int .u8 (x.toNat : Int)] 5)).alloc (.cells #[.int .u8 (x.toNat : Int)] 5)) := ((Below.refl _ _).alloc (Nat.le_refl _) _).alloc (by simp) _
              obtain ⟨A', c', w8, run, hin8⟩ := (HIN5.out.below hbb).push (lit_alloc w5 x) (fun b hb h => by
                rcases h with h | h
                · exact Nat.lt_of_lt_of_le h HIN5.out.grown.size
                · exact (HIN5.out.row.lt h).2) hn 1
              simp only [World.size_alloc] at run
              have HIN8 := Lib.hid hin8
              clear hin8 hbb
              go_wp2_with (at_builtin; refine wpList_run_append run ?_ ?_ ?_; exact rfl; exact rfl)
              go_roundw
              case rel => exact ⟨A', n + 1, c', az ++ [litA x], r, rfl, HIN8, HST, Lib.hid (by have := HNL.out; rw [List.length_cons] at *; omega)⟩
              case measure => show leftOf _ g < leftOf wr g; rw [left_scn HIN8.out.scan, HLF.out, List.length_cons]; omega
end Go.Proofs.YtlddnghfjdjglaaDoor
