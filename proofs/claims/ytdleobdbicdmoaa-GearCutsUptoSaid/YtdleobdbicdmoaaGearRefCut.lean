/- The document's Ends and Cut compute what gear.Cut computes. -/
import Derived.Test.YtdleobdbicdmoaaGearRef
set_option linter.unusedVariables false
namespace Go.Proofs.Ytdleobdbicdmoaa
open Go.RowKit

/-- a hash carried over bytes -/
def hashF : Int → List UInt8 → Int
  | h, [] => h
  | h, x :: r => hashF (hashI h x) r

theorem hashF_snoc : ∀ (l : List UInt8) (h : Int) (x : UInt8), hashF h (l ++ [x]) = hashI (hashF h l) x
  | [], _, _ => rfl
  | _ :: r, h, x => hashF_snoc r _ x

theorem hashF_append : ∀ (l r : List UInt8) (h : Int), hashF h (l ++ r) = hashF (hashF h l) r
  | [], _, _ => rfl
  | _ :: l, r, h => hashF_append l r _

theorem hashI_eq (h : Int) (x : UInt8) : ∃ c : Int, hashI h x = 2 * h + gearI x.toNat + 18446744073709551616 * c := by
  unfold hashI
  generalize gearI x.toNat = g
  simp only [IntKind.wrap_u64]
  exact ⟨((h * 2 % 18446744073709551616 + g) % 18446744073709551616 - (2 * h + g)) / 18446744073709551616, by omega⟩

theorem hashI_u64 (h : Int) (x : UInt8) : U64 (hashI h x) := u64_wrap _

theorem hashF_u64 : ∀ (l : List UInt8) (h : Int), U64 h → U64 (hashF h l)
  | [], _, hh => hh
  | x :: r, h, _ => hashF_u64 r _ (hashI_u64 h x)

/-- A hash carried over bytes: what came in is doubled with each. -/
theorem hashF_lin : ∀ (l : List UInt8) (h : Int), ∃ c : Int, hashF h l = h * 2 ^ l.length + hashF 0 l + 18446744073709551616 * c
  | [], h => ⟨0, by simp [hashF]⟩
  | x :: r, h => by
    obtain ⟨a, ha⟩ := hashF_lin r (hashI h x)
    obtain ⟨b, hb⟩ := hashF_lin r (hashI 0 x)
    obtain ⟨c, hc⟩ := hashI_eq h x
    obtain ⟨d, hd⟩ := hashI_eq 0 x
    refine ⟨a - b + (c - d) * 2 ^ r.length, ?_⟩
    simp only [hashF, List.length_cons]
    rw [ha, hb, hc, hd, Int.pow_succ]
    generalize (2 : Int) ^ r.length = P
    generalize gearI x.toNat = g
    grind

/-- Of more than 64 bytes the last 64 alone count. -/
theorem hashF_last {l r : List UInt8} (hr : r.length = 64) : hashF 0 (l ++ r) = hashF 0 r := by
  rw [hashF_append]
  obtain ⟨c, hc⟩ := hashF_lin r (hashF 0 l)
  have h1 := hashF_u64 r (hashF 0 l) (hashF_u64 l 0 (by unfold U64; omega))
  have h2 := hashF_u64 r 0 (by unfold U64; omega)
  rw [hr, show (2 : Int) ^ 64 = 18446744073709551616 by decide] at hc
  unfold U64 at h1 h2
  generalize hashF (hashF 0 l) r = y at *
  generalize hashF 0 r = z at *
  generalize hashF 0 l = h at *
  omega

def last64 (l : List UInt8) : List UInt8 := l.drop (l.length - 64)
theorem hashF_last64 (l : List UInt8) : hashF 0 (last64 l) = hashF 0 l := by
  unfold last64
  by_cases h : l.length ≤ 64
  · rw [show l.length - 64 = 0 by omega, List.drop_zero]
  · have := hashF_last (l := l.take (l.length - 64)) (r := l.drop (l.length - 64)) (by rw [List.length_drop]; omega)
    rw [List.take_append_drop] at this
    exact this.symm

def refEndsB (bits : Int) (l : List UInt8) : Bool := bits == 0 || endsB bits (hashF 0 l)

theorem str_get (s : ByteArray) (k : Nat) (hk : k < s.size) : (s[k]'hk) = s.data.toList[k]'(by simpa using hk) := rfl
theorem str_drop (s : ByteArray) (k : Nat) (hk : k < s.size) : s.data.toList.drop k = (s[k]'hk) :: s.data.toList.drop (k + 1) :=
  List.drop_eq_getElem_cons (by simpa using hk)
theorem take_snoc_drop {l : List UInt8} {f k : Nat} {x : UInt8} (h : l.drop (f + k) = x :: l.drop (f + k + 1)) : (l.drop f).take (k + 1) = (l.drop f).take k ++ [x] := by
  rw [List.take_add_one]
  congr 1
  have : (l.drop f)[k]? = some x := by
    rw [List.getElem?_drop]
    have := congrArg List.head? h
    rw [List.head?_drop] at this
    simpa using this
  rw [this]
  rfl

set_option maxHeartbeats 400000 in
theorem refends_any (s : ByteArray) (b : Int) (w : World) (hs : s.size ≤ 1000000000) (hb0 : 0 ≤ b) (hb1 : b ≤ 20) :
    Calls Try.prog 22 #[.string s, .int .i64 b] w fun e w' => e = .returned (.bool (refEndsB b s.data.toList)) ∧ w = w' := by
  obtain ⟨f, hf⟩ : ∃ f : Nat, f = s.size - 64 := ⟨_, rfl⟩
  have F := Lib.hid hf
  have hfs : f ≤ s.size := by omega
  have hend : hashF 0 (s.data.toList.drop f) = hashF 0 s.data.toList := by
    have := hashF_last64 s.data.toList
    unfold last64 at this
    rw [show s.data.toList.length - 64 = f by rw [Array.length_toList]; exact hf.symm] at this
    exact this
  have HE := Lib.hid hend
  clear hend
  by_cases h64 : (64 : Int) < (s.size : Int)
  all_goals
    clear hf
    go_enter Try.func22, Try.ntmps22
    go_wp2_with fail
    go_loop [5, 7] (fun v i => ∃ (k : Nat) (h : Int), f + k ≤ s.size ∧ i = .int .i64 ((f + k : Nat) : Int) ∧ v = .int .u64 h ∧ U64 h ∧ Hid (h = hashF 0 ((s.data.toList.drop f).take k))) (fun _ i => s.size - (intOf i).toNat)
    case atStart => exact ⟨0, 0, by omega, by have := F.out; congr 1; omega, rfl, by unfold U64; omega, Lib.hid (by simp [hashF])⟩
    case round =>
      obtain ⟨k, h, hk, rfl, rfl, hu, H⟩ := hrel
      by_cases hlt : f + k < s.size
      · have HS := Lib.hid (take_snoc_drop (str_drop s (f + k) hlt))
        have hlt' : ((f + k : Nat) : Int) < (s.size : Int) := by omega
        go_wp2_with fail
        refine (refgear_any _ _ (by omega) (by have := (s[f + k]).toNat_lt; omega)).mono ?_
        rintro e w' ⟨rfl, rfl⟩
        go_wp2_with fail
        go_round
        case rel => exact ⟨k + 1, hashI h s[f + k], by omega, by go_num, rfl, hashI_u64 _ _, Lib.hid (by rw [HS.out, hashF_snoc, ← H.out])⟩
        case measure => simp [intOf]; omega
      · have hfin : h = hashF 0 s.data.toList := by
          rw [H.out, ← HE.out, List.take_of_length_le (by rw [List.length_drop, Array.length_toList]; show s.size - f ≤ k; omega)]
        have HF := Lib.hid hfin
        have hge : ¬ ((f + k : Nat) : Int) < (s.size : Int) := by omega
        clear hfin
        by_cases hb : b = 0
        · subst hb
          go_wp2_with fail
          go_ret
          exact ⟨by simp [refEndsB], rfl⟩
        · have hbf : (b == 0) = false := by simpa using hb
          have HB : Hid (refEndsB b s.data.toList = endsB b h) := Lib.hid (by unfold refEndsB; rw [hbf, HF.out]; rfl)
          have e64 : (64 : Int) - b = (((64 - b).toNat : Nat) : Int) := by omega
          have D := down_any h (64 - b).toNat w hu (by omega)
          rw [← e64] at D
          have HD := Lib.hid D
          clear e64 D hb
          go_wp2_with fail
          refine HD.out.mono ?_
          rintro e w' ⟨rfl, rfl⟩
          go_wp2_with fail
          go_ret
          exact ⟨by rw [HB.out]; rfl, rfl⟩

/-- What the reference's Cut leaves: all lengths in new memory. -/
def NatsPost (E : TypeId) (W : World) (r : List Nat) (e : Ending) (w' : World) : Prop :=
  ∃ A c, e = .returned (.slice A r.length c) ∧ w'.ownsRow W.heap.size E 1 (.slice A r.length c) r.length (natsV r) ∧ Below W.heap.size W w'

theorem extract_list (s : ByteArray) (f k : Nat) (hk : f + k ≤ s.size) : (s.extract f (f + k)).data.toList = (s.data.toList.drop f).take k := by
  rw [ByteArray.data_extract, Array.toList_extract]
  simp [List.extract]

/-- at a round's end: a chunk is over -/
theorem refcut_stop {mn mx b : Int} {l : List UInt8} {f k : Nat} {h : Int} {x : UInt8} {d : List Nat} {D : List Nat} (hd : l.drop (f + k) = x :: l.drop (f + k + 1))
    (hN : nextL mn mx b h k (l.drop (f + k)) = nextL mn mx b 0 0 (l.drop f)) (hD : d ++ cutL mn mx b (l.drop f) = D) (hs : stopB mn mx b (hashI h x) ((k : Int) + 1) = true ∨ f + k + 1 = l.length) :
    (d ++ [k + 1]) ++ cutL mn mx b (l.drop (f + k + 1)) = D := by
  have hne : l.drop f ≠ [] := by
    intro e
    have h1 := congrArg List.length e
    have h2 := congrArg List.length hd
    simp at h1 h2
    omega
  have hk1 : nextL mn mx b 0 0 (l.drop f) = k + 1 := by
    rw [hd] at hN
    rcases hs with hs | hs
    · have := next_stop rfl hN hs
      omega
    · by_cases hst : stopB mn mx b (hashI h x) ((k : Int) + 1) = true
      · have := next_stop rfl hN hst
        omega
      · have := next_go rfl hN (by simpa using hst)
        rw [List.drop_eq_nil_of_le (by omega)] at this
        simp only [nextL] at this
        exact this.symm
  rw [cutL_cons mn mx b hne, hk1, List.drop_drop] at hD
  rw [← hD, List.append_assoc]
  rfl

theorem refcut_go {mn mx b : Int} {l : List UInt8} {f k : Nat} {h : Int} {x : UInt8} (hd : l.drop (f + k) = x :: l.drop (f + k + 1))
    (hN : nextL mn mx b h k (l.drop (f + k)) = nextL mn mx b 0 0 (l.drop f)) (hs : stopB mn mx b (hashI h x) ((k : Int) + 1) = false) :
    nextL mn mx b (hashI h x) (k + 1) (l.drop (f + (k + 1))) = nextL mn mx b 0 0 (l.drop f) := by
  rw [hd] at hN
  exact next_go rfl hN hs

set_option maxHeartbeats 1000000 in
theorem refcut_any (s : ByteArray) (mn mx b : Int) (w : World) (hs : s.size ≤ 10000000) (hb0 : 0 ≤ b) (hb1 : b ≤ 20) :
    Calls Try.prog 18 #[.string s, .int .i64 mn, .int .i64 mx, .int .i64 b] w (NatsPost 3 w (cutL mn mx b s.data.toList)) := by
  have hll : s.data.toList.length = s.size := by rw [Array.length_toList]; rfl
  obtain ⟨l, hl⟩ : ∃ l, l = s.data.toList := ⟨_, rfl⟩
  rw [← hl] at hll ⊢
  have HLL := Lib.hid hll
  have HL := Lib.hid hl
  have hlen := cutL_length mn mx b l.length l (Nat.le_refl _)
  rw [hll] at hlen
  have HLEN := Lib.hid hlen
  clear hll hl hlen
  go_enter Try.func18, Try.ntmps18
  go_wp2_with fail
  go_loopw [9, 10, 11] (fun o fv i wr => ∃ (f k : Nat) (h : Int) (Ao : Option Addr) (co : Nat) (d : List Nat), f + k ≤ s.size ∧ (k = 0 ∨ f + k < s.size) ∧ i = .int .i64 ((f + k + 1 : Nat) : Int) ∧ fv = .int .i64 (f : Nat) ∧
      o = .slice Ao d.length co ∧ wr.ownsRow w.heap.size 3 1 (.slice Ao d.length co) d.length (natsV d) ∧ Below w.heap.size w wr ∧
      Hid (h = hashF 0 ((l.drop f).take k)) ∧ Hid (nextL mn mx b h k (l.drop (f + k)) = nextL mn mx b 0 0 (l.drop f)) ∧ Hid (d ++ cutL mn mx b (l.drop f) = cutL mn mx b l)) (fun _ _ i _ => s.size + 1 - (intOf i).toNat)
  case atStart =>
    exact ⟨0, 0, 0, none, 0, [], by omega, .inl rfl, rfl, rfl, rfl, World.ownsRow_nil _ _ _ _, Below.refl _ _, Lib.hid (by simp [hashF]), Lib.hid (by simp), Lib.hid (by simp)⟩
  case round =>
    obtain ⟨f, k, h, Ao, co, d, hfk, hk0, rfl, rfl, rfl, hown, hbr, HH, HN, HD⟩ := hrel
    by_cases hlt : f + k < s.size
    · have hd : l.drop (f + k) = (s[f + k]'hlt) :: l.drop (f + k + 1) := by rw [HL.out]; exact str_drop s (f + k) hlt
      obtain ⟨x, hx⟩ : ∃ x, x = s[f + k]'hlt := ⟨_, rfl⟩
      rw [← hx] at hd
      have hdlen : d.length + 1 ≤ s.size := by
        have h1 := HLEN.out
        have hne : l.drop f ≠ [] := by
          intro e
          have h1 := congrArg List.length e
          have h2 := HLL.out
          simp at h1
          omega
        have h3 := congrArg List.length HD.out
        rw [List.length_append, cutL_cons mn mx b hne, List.length_cons] at h3
        omega
      have HDD := Lib.hid hd
      have E1 := refends_any (s.extract f (f + k + 1)) b wr (by rw [ByteArray.size_extract]; omega) hb0 hb1
      have hcat : refEndsB b (s.extract f (f + k + 1)).data.toList = (b == 0 || endsB b (hashI h x)) := by
        unfold refEndsB
        rw [show f + k + 1 = f + (k + 1) by omega, extract_list s f (k + 1) (by omega), ← HL.out, take_snoc_drop hd, hashF_snoc, ← HH.out]
      rw [hcat] at E1
      have HE1 := Lib.hid E1
      have hle : ((f + k + 1 : Nat) : Int) ≤ (s.size : Int) := by omega
      obtain ⟨A2, c2, w2, hrun, hap, hc1, hc2⟩ := append_sl elemInt (hown.alloc (.cells #[.int .i64 ((k : Int) + 1)] 3)) (Sl.one wr (.int .i64 ((k : Int) + 1)) 3) (by simp; rfl) (by omega) (by simp only [maxLen]; omega) (by have := hbr.size; simp; omega) 26 1
      have hown2 := hap.own
      have hb2 := (hbr.alloc hbr.size (.cells #[.int .i64 ((k : Int) + 1)] 3)).trans hap.below
      have hsub : IntKind.i64.wrap ((f : Int) + (k : Int) + 1 - (f : Int)) = (k : Int) + 1 := by rw [IntKind.wrap_i64]; omega
      have hownR := Lib.hid hown
      clear hd hcat E1 hx hown hap
      have hstop : stopB mn mx b (hashI h x) ((k : Int) + 1) = (((k : Int) + 1 == mx) || (decide (mn ≤ (k : Int) + 1) && (b == 0 || endsB b (hashI h x)))) := rfl
      have HSTOP := Lib.hid hstop
      have stopAll : (stopB mn mx b (hashI h x) ((k : Int) + 1) = true ∨ f + k + 1 = l.length) → Hid ((d ++ [k + 1]) ++ cutL mn mx b (l.drop (f + k + 1)) = cutL mn mx b l) := fun hh => Lib.hid (refcut_stop HDD.out HN.out HD.out hh)
      have goAll : stopB mn mx b (hashI h x) ((k : Int) + 1) = false → Hid (nextL mn mx b (hashI h x) (k + 1) (l.drop (f + (k + 1))) = nextL mn mx b 0 0 (l.drop f)) := fun hh => Lib.hid (refcut_go HDD.out HN.out hh)
      have hashAll : Hid (hashI h x = hashF 0 ((l.drop f).take (k + 1))) := Lib.hid (by rw [take_snoc_drop HDD.out, hashF_snoc, ← HH.out])
      have own2' : w2.ownsRow w.heap.size 3 1 (.slice A2 (d ++ [k + 1]).length c2) (d ++ [k + 1]).length (natsV (d ++ [k + 1])) := by
        rw [List.length_append]
        simpa [natsV] using hown2
      have SA := Lib.hid stopAll
      have GA := Lib.hid goAll
      have O2 := Lib.hid own2'
      clear hstop stopAll goAll own2' hown2 HDD HH HN
      by_cases hA : ((k : Int) + 1 == mx) = true
      · have G := SA.out (.inl (by rw [HSTOP.out, hA]; rfl))
        clear SA GA HSTOP
        go_wp2_with (first | (at_builtin; refine wpList_run_append hrun ?_ ?_ ?_; exact rfl; exact rfl))
        go_roundw
        case rel => exact ⟨f + k + 1, 0, 0, A2, c2, d ++ [k + 1], by omega, .inl rfl, by go_num, by go_num, by rw [List.length_append]; rfl, O2.out, hb2, Lib.hid (by simp [hashF]), Lib.hid rfl, G⟩
        case measure => simp [intOf]; omega
      · have hA' : ((k : Int) + 1 == mx) = false := by simpa using hA
        clear hA
        by_cases hB : f + k + 1 = s.size
        · have G := SA.out (.inr (by rw [HLL.out]; exact hB))
          have hB' : ((f : Int) + (k : Int) + 1 == (s.size : Int)) = true := by simp; omega
          have hB2 : f + k + 1 ≤ s.size := by omega
          clear SA GA HSTOP hB
          go_wp2_with (first | (at_builtin; refine wpList_run_append hrun ?_ ?_ ?_; exact rfl; exact rfl))
          go_roundw
          case rel => exact ⟨f + k + 1, 0, 0, A2, c2, d ++ [k + 1], by omega, .inl rfl, by go_num, by go_num, by rw [List.length_append]; rfl, O2.out, hb2, Lib.hid (by simp [hashF]), Lib.hid rfl, G⟩
          case measure => simp [intOf]; omega
        · have hB' : ((f : Int) + (k : Int) + 1 == (s.size : Int)) = false := by simp; omega
          by_cases hC : mn ≤ (k : Int) + 1
          · have hC' : decide (mn ≤ (k : Int) + 1) = true := by simpa using hC
            by_cases hD : (b == 0 || endsB b (hashI h x)) = true
            · have G := SA.out (.inl (by rw [HSTOP.out, hA', hC', hD]; rfl))
              rw [hD] at HE1
              clear SA GA HSTOP hD hC'
              go_wp2_with (first | (at_builtin; refine wpList_run_append hrun ?_ ?_ ?_; exact rfl; exact rfl) | (go_at_call 22; refine HE1.out.mono ?_; rintro e w' ⟨rfl, rfl⟩))
              go_roundw
              case rel => exact ⟨f + k + 1, 0, 0, A2, c2, d ++ [k + 1], by omega, .inl rfl, by go_num, by go_num, by rw [List.length_append]; rfl, O2.out, hb2, Lib.hid (by simp [hashF]), Lib.hid rfl, G⟩
              case measure => simp [intOf]; omega
            · have hD' : (b == 0 || endsB b (hashI h x)) = false := by simpa using hD
              have G := GA.out (by rw [HSTOP.out, hA', hD', Bool.and_false]; rfl)
              rw [hD'] at HE1
              clear SA GA HSTOP hD hD' hC' O2 hb2
              go_wp2_with (first | (go_at_call 22; refine HE1.out.mono ?_; rintro e w' ⟨rfl, rfl⟩))
              go_roundw
              case rel => exact ⟨f, k + 1, hashI h x, Ao, co, d, by omega, .inr (by omega), by go_num, rfl, rfl, hownR.out, hbr, hashAll, G, HD⟩
              case measure => simp [intOf]; omega
          · have hC' : decide (mn ≤ (k : Int) + 1) = false := by simpa using hC
            have G := GA.out (by rw [HSTOP.out, hA', hC']; rfl)
            clear SA GA HSTOP hC' O2 hb2 HE1
            go_wp2_with fail
            go_roundw
            case rel => exact ⟨f, k + 1, hashI h x, Ao, co, d, by omega, .inr (by omega), by go_num, rfl, rfl, hownR.out, hbr, hashAll, G, HD⟩
            case measure => simp [intOf]; omega
    · have hk : k = 0 := by omega
      have hf : f = s.size := by omega
      have hfin : d = cutL mn mx b l := by
        have := HD.out
        rw [hf, List.drop_eq_nil_of_le (by rw [HLL.out]; omega), cutL_nil, List.append_nil] at this
        exact this
      have HF := Lib.hid hfin
      have hge : ¬ ((f + k + 1 : Nat) : Int) ≤ (s.size : Int) := by omega
      clear hk hf hfin
      go_wp2_with fail
      go_ret
      rw [← HF.out]
      exact ⟨Ao, co, rfl, hown, hbr⟩
end Go.Proofs.Ytdleobdbicdmoaa
