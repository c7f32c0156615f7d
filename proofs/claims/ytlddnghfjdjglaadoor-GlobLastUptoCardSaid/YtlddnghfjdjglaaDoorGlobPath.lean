/- path.Check, Under, Parent; towlineref05.Under. -/
import Derived.Test.YtlddnghfjdjglaaDoorGlobQuoted
import Derived.Test.YtlddnghfjdjglaaDoorGlobName
import Derived.Test.YtlddnghfjdjglaaDoorGlobMatch
set_option linter.unusedVariables false
set_option linter.unusedSimpArgs false
namespace Go.Proofs.YtlddnghfjdjglaaDoor
open Go.RowKit

/-! ### Check -/
theorem notName_any (s : ByteArray) (w : World) (hs : s.size ≤ 1000000000) : Calls Tryd.prog 38 #[.string s] w fun e w' => e = .returned (.bool (!nameG (sB s))) ∧ Below w.heap.size w w' := by
  have HN := Lib.hid (fun w => name_any s w hs)
  go_enter Tryd.func38, Tryd.ntmps38
  go_wp2_with fail
  refine (HN.out w).mono ?_
  rintro e w2 ⟨rfl, hb2⟩
  have HB := Lib.hid hb2
  clear hb2
  go_wp2_with fail
  go_ret
  exact ⟨rfl, HB.out⟩

set_option maxRecDepth 100000 in
set_option maxHeartbeats 1000000 in
theorem indexNames_any (A : Option Addr) (N c : Nat) (ns : List (List UInt8)) (w : World) (h : SlOf strR w no A (ns.map strL)) (hN : N = ns.length) (hN6 : N ≤ 4294967290) (hl : ∀ n ∈ ns, n.length ≤ 1000000000) :
    Calls Tryd.prog 49 #[.slice A N c, .func (.func 38) #[] #[]] w fun e w' => (∃ z : Int, e = .returned (.int .i64 z) ∧ decide (0 ≤ z) = !ns.all nameG) ∧ Below w.heap.size w w' := by
  have HS := Lib.hid h
  have HN := Lib.hid hN
  have HL := Lib.hid hl
  clear h hN hl
  go_enter Tryd.func49, Tryd.ntmps49
  go_wp2_with fail
  go_loopw [8] (fun s8 wr => ∃ k : Nat, k ≤ N ∧ s8 = .int .i64 (k : Int) ∧ Hid (ns.all nameG = (ns.drop k).all nameG) ∧ Hid (Below w.heap.size w wr)) (fun s8 wr => N - (intOf s8).toNat)
  case atStart => exact ⟨0, Nat.zero_le _, rfl, Lib.hid rfl, Lib.hid (Below.refl _ _)⟩
  case round =>
    obtain ⟨k, hk, rfl, HA, HB⟩ := hrel
    by_cases hlt : k < N
    · have hltI : (k : Int) < (N : Int) := by omega
      obtain ⟨b, off, n, hA, hb, hn, x0⟩ := str_look (HS.out.below HB.out) HN.out.symm hlt
      subst hA
      obtain ⟨q, hq⟩ : ∃ q, q = strL n := ⟨_, rfl⟩
      have HNN := Lib.hid (fun w => notName_any q w (by rw [hq, strL_size]; exact HL.out n (List.mem_of_getElem? hn)))
      obtain ⟨nm, hnm⟩ : ∃ nm, nm = nameG n := ⟨_, rfl⟩
      have hqn : nameG (sB q) = nm := by rw [hnm, hq]; simp [sB, strL]
      rw [hqn] at HNN
      have HAD := Lib.hid (show (ns.drop k).all nameG = (nm && (ns.drop (k + 1)).all nameG) by rw [drop_cons hn, List.all_cons, hnm])
      rw [← hq] at x0
      clear hn hq hqn hnm
      go_wp2_with fail
      refine (HNN.out wr).mono ?_
      rintro e w2 ⟨rfl, hb2⟩
      have HB2 := Lib.hid (HB.out.trans (hb2.mono HB.out.size))
      clear hb2
      cases nm with
      | true =>
        have HA2 := Lib.hid (show ns.all nameG = (ns.drop (k + 1)).all nameG by rw [HA.out, HAD.out, Bool.true_and])
        go_wp2_with fail
        go_roundw
        case rel => exact ⟨k + 1, by omega, by go_num, HA2, HB2⟩
        case measure => simp [intOf]; omega
      | false =>
        have HA2 := Lib.hid (show ns.all nameG = false by rw [HA.out, HAD.out, Bool.false_and])
        go_wp2_with fail
        go_ret
        exact ⟨⟨k, rfl, by rw [HA2.out]; simp⟩, HB2.out⟩
    · have hltI : ¬ (k : Int) < (N : Int) := by omega
      have HA2 := Lib.hid (show ns.all nameG = true by rw [HA.out, List.drop_eq_nil_of_le (by rw [← HN.out]; omega)]; rfl)
      go_wp2_with fail
      go_ret
      exact ⟨⟨-1, rfl, by rw [HA2.out]; rfl⟩, HB.out⟩

theorem containsNames_any (A : Option Addr) (N c : Nat) (ns : List (List UInt8)) (w : World) (h : SlOf strR w no A (ns.map strL)) (hN : N = ns.length) (hN6 : N ≤ 4294967290) (hl : ∀ n ∈ ns, n.length ≤ 1000000000) :
    Calls Tryd.prog 37 #[.slice A N c, .func (.func 38) #[] #[]] w fun e w' => e = .returned (.bool (!ns.all nameG)) ∧ Below w.heap.size w w' := by
  have hI := indexNames_any A N c ns w h hN hN6 hl
  obtain ⟨R, hR⟩ : ∃ R, R = !ns.all nameG := ⟨_, rfl⟩
  rw [← hR] at hI ⊢
  have HI := Lib.hid hI
  clear h hN hl hR hI
  go_enter Tryd.func37, Tryd.ntmps37
  go_wp2_with fail
  refine HI.out.mono ?_
  rintro e w2 ⟨⟨z, rfl, hz⟩, hb2⟩
  have HB := Lib.hid hb2
  clear hb2
  go_wp2_with fail
  go_ret
  exact ⟨rfl, HB.out⟩

def pathOk (p : List UInt8) : Prop := p.length ≤ 255 ∧ (splitG p).all nameG = true
theorem check_any (p : List UInt8) (w : World) (hp : p.length ≤ 4294967280) : Calls Tryd.prog 20 #[.string (strL p)] w fun e w' => (∃ z : Int, e = .returned (.int .i64 z) ∧ ((z == 0) = true → pathOk p)) ∧ Below w.heap.size w w' := by
  obtain ⟨L, hL⟩ : ∃ L, L = p.length := ⟨_, rfl⟩
  obtain ⟨q, hq⟩ : ∃ q, q = strL p := ⟨_, rfl⟩
  have hqL : q.size = L := by rw [hq, strL_size, hL]
  have HSP := Lib.hid (split_any p w hp)
  rw [← hq] at HSP ⊢
  obtain ⟨N, hN⟩ : ∃ N, N = (splitG p).length := ⟨_, rfl⟩
  have HN := Lib.hid hN
  have hN6 : N ≤ 4294967290 := by
    rw [hN, splitG_len]
    have := List.count_le_length (a := (47 : UInt8)) (l := p); omega
  have HL := Lib.hid hL
  clear hq hL
  rw [← hN] at HSP
  clear hN
  go_enter Tryd.func20, Tryd.ntmps20
  go_wp2_with fail
  refine HSP.out.mono ?_
  rintro e w2 ⟨rfl, hw⟩
  have HB := Lib.hid (show Below w.heap.size w w2 by rw [hw]; exact (Below.refl _ _).alloc (Nat.le_refl _) _)
  have HSL := Lib.hid (show SlOf strR w2 no (some ⟨w.heap.size, 0, none⟩) ((splitG p).map strL) by
    refine ⟨((splitG p).map strL).map Value.string, ?_, each_str_mk _, fun _ _ _ _ h => h⟩
    have := Sl.fresh w ((splitG p).map fun p => Value.string (strL p)).toArray 9 (0, 0) (splitG p).length 1 (by simp)
    rw [List.toList_toArray] at this
    rw [List.length_map, List.map_map, hw]; exact this)
  clear hw
  by_cases h255 : 255 < L
  · have h255I : (255 : Int) < (L : Int) := by omega
    go_wp2_with fail
    go_ret
    exact ⟨⟨2, rfl, fun h => by cases h⟩, HB.out⟩
  · have h255I : ¬ (255 : Int) < (L : Int) := by omega
    by_cases h16 : 16 < N
    · have h16I : (16 : Int) < (N : Int) := by omega
      go_wp2_with fail
      go_ret
      exact ⟨⟨2, rfl, fun h => by cases h⟩, HB.out⟩
    · have h16I : ¬ (16 : Int) < (N : Int) := by omega
      have HCN := Lib.hid (containsNames_any (some ⟨w.heap.size, 0, none⟩) N N (splitG p) w2 HSL.out HN.out hN6 (fun n hn => by have := mem_split hn; have := HL.out; omega))
      obtain ⟨al, hal⟩ : ∃ al, al = (splitG p).all nameG := ⟨_, rfl⟩
      rw [← hal] at HCN
      have HAL := Lib.hid hal
      clear hal
      go_wp2_with fail
      refine HCN.out.mono ?_
      rintro e w3 ⟨rfl, hb3⟩
      have HB3 := Lib.hid (HB.out.trans (hb3.mono HB.out.size))
      clear hb3
      cases al with
      | true =>
        go_wp2_with fail
        go_ret
        exact ⟨⟨0, rfl, fun _ => ⟨by rw [← HL.out]; omega, HAL.out.symm⟩⟩, HB3.out⟩
      | false =>
        go_wp2_with fail
        go_ret
        exact ⟨⟨50, rfl, fun h => by cases h⟩, HB3.out⟩

/-! ### Under -/
def underG (p f : List UInt8) : Bool := f.isEmpty && !p.isEmpty || begins (f ++ [47]) p && !f.isEmpty
theorem empty_of (l : List UInt8) : (strL l).toList.isEmpty = l.isEmpty := by
  rw [ByteArray.toList_eq]
  cases l <;> rfl
theorem under_any (p f : List UInt8) (w : World) (hf : f.length ≤ 1000000) : Calls Tryd.prog 21 #[.string (strL p), .string (strL f)] w fun e w' => e = .returned (.bool (underG p f)) ∧ Below w.heap.size w w' := by
  have HB := Lib.hid (fun w => begins_any p (f ++ [47]) w)
  rw [← strL_add] at HB
  have hp := empty_of p
  have hfe := empty_of f
  have hfs : (strL f).size ≤ 1000000 := by rw [strL_size]; exact hf
  obtain ⟨R, hR⟩ : ∃ R, R = underG p f := ⟨_, rfl⟩
  rw [← hR]
  unfold underG at hR
  have HR := Lib.hid hR
  clear hR
  generalize strL p = q at *
  generalize strL f = r at *
  obtain ⟨ep, hep⟩ : ∃ ep, ep = p.isEmpty := ⟨_, rfl⟩
  obtain ⟨ef, hef⟩ : ∃ ef, ef = f.isEmpty := ⟨_, rfl⟩
  obtain ⟨bg, hbg⟩ : ∃ bg, bg = begins (f ++ [47]) p := ⟨_, rfl⟩
  rw [← hep] at hp
  rw [← hef] at hfe
  rw [← hep, ← hef, ← hbg] at HR
  rw [← hbg] at HB
  have HBB := Lib.hid (show ∀ w, Calls Tryd.prog 39 #[.string q, .string (r ++ ⟨#[47]⟩)] w fun e w' => e = .returned (.bool bg) ∧ w' = w from HB.out)
  clear hep hef hbg HB hf
  cases ef with
  | true =>
    cases ep with
    | true =>
      have HRR := Lib.hid (show R = false by rw [HR.out]; simp)
      go_enter Tryd.func21, Tryd.ntmps21
      go_wp2_with fail
      refine (HBB.out _).mono ?_
      rintro e w2 ⟨rfl, rfl⟩
      cases bg <;> (go_wp2_with fail; go_ret; rw [HRR.out]; exact ⟨rfl, Below.refl _ _⟩)
    | false =>
      have HRR := Lib.hid (show R = true by rw [HR.out]; simp)
      go_enter Tryd.func21, Tryd.ntmps21
      go_wp2_with fail
      go_ret
      rw [HRR.out]
      exact ⟨rfl, Below.refl _ _⟩
  | false =>
    cases bg with
    | true =>
      have HRR := Lib.hid (show R = true by rw [HR.out]; simp)
      go_enter Tryd.func21, Tryd.ntmps21
      go_wp2_with fail
      refine (HBB.out _).mono ?_
      rintro e w2 ⟨rfl, rfl⟩
      go_wp2_with fail
      go_ret
      rw [HRR.out]
      exact ⟨rfl, Below.refl _ _⟩
    | false =>
      have HRR := Lib.hid (show R = false by rw [HR.out]; simp)
      go_enter Tryd.func21, Tryd.ntmps21
      go_wp2_with fail
      refine (HBB.out _).mono ?_
      rintro e w2 ⟨rfl, rfl⟩
      go_wp2_with fail
      go_ret
      rw [HRR.out]
      exact ⟨rfl, Below.refl _ _⟩
end Go.Proofs.YtlddnghfjdjglaaDoor
