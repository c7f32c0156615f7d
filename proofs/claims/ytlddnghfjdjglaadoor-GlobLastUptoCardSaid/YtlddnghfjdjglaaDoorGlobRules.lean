/- glob.New: the rules of some lines. -/
import Derived.Test.YtlddnghfjdjglaaDoorGlobMatch
import Derived.OwnWalk
set_option linter.unusedVariables false
set_option linter.unusedSimpArgs false
namespace Go.Proofs.YtlddnghfjdjglaaDoor
open Go.RowKit

/-! ### plain -/
/-- patterns that a pattern's way may go through -/
def PatOk (ps : List Pc) : Prop := ps.length ≤ 1000000 ∧ ∀ p ∈ ps, ∀ az, p = some az → az.length ≤ 1000000
theorem atomsL_le (n : Nat) : ∀ {az : List Atm} {l : List UInt8} {q : List Atm}, l.length ≤ n → atomsL az l = some q → q.length ≤ az.length + l.length := by
  induction n with
  | zero =>
    intro az l q hl h
    obtain rfl : l = [] := List.eq_nil_of_length_eq_zero (by omega)
    rw [atomsL, if_pos rfl] at h
    injection h with h; subst h; omega
  | succ n ih =>
    intro az l q hl h
    rw [atomsL] at h
    split at h
    · injection h with h; subst h; omega
    · split at h
      · cases h
      · rename_i a r h1
        have := atomG_len h1
        have := ih (by omega) h
        rw [List.length_append, List.length_singleton] at this
        omega
theorem pieceG_le {l : List UInt8} {p : Pc} {az : List Atm} (h : pieceG l = some p) (hp : p = some az) : az.length ≤ l.length := by
  subst hp
  unfold pieceG at h
  split at h
  · cases h
  · split at h
    · cases h
    · cases ha : atomsL [] l with
      | none => rw [ha] at h; cases h
      | some q =>
        rw [ha] at h
        injection h with h; injection h with h; subst h
        simpa using atomsL_le _ (Nat.le_refl _) ha
theorem piecesG_mem : ∀ {ls : List (List UInt8)} {ps : List Pc}, piecesG ls = some ps → ps.length = ls.length ∧ ∀ p ∈ ps, ∃ l ∈ ls, pieceG l = some p
  | [], ps, h => by injection h with h; subst h; exact ⟨rfl, fun p hp => by cases hp⟩
  | l :: r, ps, h => by
    rw [pieces_step] at h
    cases hp : pieceG l with
    | none => rw [hp] at h; cases h
    | some p =>
      rw [hp] at h
      cases hr : piecesG r with
      | none => rw [hr] at h; cases h
      | some q =>
        rw [hr] at h
        injection h with h; subst h
        obtain ⟨h1, h2⟩ := piecesG_mem hr
        refine ⟨by simp [h1], fun x hx => ?_⟩
        rcases List.mem_cons.1 hx with rfl | hx
        · exact ⟨l, by simp, hp⟩
        · obtain ⟨l', h3, h4⟩ := h2 x hx
          exact ⟨l', by simp [h3], h4⟩
theorem parse_err {l : List UInt8} {z : Int} (h : parseG l = .error z) : z = 2 ∨ z = 60 := by
  unfold parseG at h
  split at h
  · injection h with h; exact .inl h.symm
  · split at h
    · injection h with h; exact .inr h.symm
    · cases h
theorem parse_ok {l : List UInt8} {ps : List Pc} (h : parseG l = .ok ps) : PatOk ps := by
  unfold parseG at h
  split at h
  · cases h
  · rename_i hl
    cases hp : piecesG (splitG l) with
    | none => rw [hp] at h; cases h
    | some q =>
      rw [hp] at h
      injection h with h; subst h
      obtain ⟨h1, h2⟩ := piecesG_mem hp
      have h3 := splitG_len l
      have h4 := List.count_le_length (a := (47 : UInt8)) (l := l)
      refine ⟨by omega, fun p hp az ha => ?_⟩
      obtain ⟨l', h5, h6⟩ := h2 p hp
      have := pieceG_le h6 ha
      have := mem_split h5
      omega
/-- what a line says, with the mark cut off -/
def cutG (l : List UInt8) : List UInt8 := if begins [33] l then l.drop 1 else l
def ruleOf (l : List UInt8) : Rz Rul := match parseG (cutG l) with | .ok p => .ok ⟨p, begins [33] l⟩ | .error e => .error e
theorem lineG_nil : lineG [] = .ok none := rfl
theorem lineG_hash (r : List UInt8) : lineG (35 :: r) = .ok none := rfl
theorem lineG_rule {x : UInt8} {r : List UInt8} (h : x ≠ 35) : lineG (x :: r) = match ruleOf (x :: r) with | .ok q => .ok (some q) | .error e => .error e := by
  unfold lineG ruleOf cutG
  simp only [if_neg h]
  by_cases h33 : x = 33
  · subst h33
    rw [if_pos rfl, show begins [33] (33 :: r) = true from by simp [begins]]
    simp only [if_true, List.drop_one, List.tail_cons]
    cases parseG r <;> rfl
  · have hb : begins [33] (x :: r) = false := by
      have : (33 == x) = false := by simp; exact fun e => h33 e.symm
      show ((33 == x) && List.isPrefixOf [] r) = false
      rw [this]; rfl
    rw [if_neg h33, hb]
    simp only [Bool.false_eq_true, if_false]
    cases parseG (x :: r) <;> rfl
/-- rules put behind others -/
def conRu (qs : List Rul) (o : Except (Int × Nat) (List Rul)) : Except (Int × Nat) (List Rul) := match o with | .ok r => .ok (qs ++ r) | .error e => .error e
theorem conRu_nil (o : Except (Int × Nat) (List Rul)) : conRu [] o = o := by cases o <;> rfl
theorem conRu_end (qs : List Rul) (i : Nat) : conRu qs (rulesG i []) = .ok qs := by simp [conRu, rulesG]
theorem conRu_pass {qs : List Rul} {i : Nat} {l : List UInt8} {r : List (List UInt8)} (h : lineG l = .ok none) : conRu qs (rulesG i (l :: r)) = conRu qs (rulesG (i + 1) r) := by
  rw [rulesG, h]
theorem conRu_rule {qs : List Rul} {i : Nat} {l : List UInt8} {r : List (List UInt8)} {q : Rul} (h : lineG l = .ok (some q)) : conRu qs (rulesG i (l :: r)) = conRu (qs ++ [q]) (rulesG (i + 1) r) := by
  rw [rulesG, h]
  simp only []
  cases rulesG (i + 1) r <;> simp [conRu]
theorem conRu_bad {qs : List Rul} {i : Nat} {l : List UInt8} {r : List (List UInt8)} {e : Int} (h : lineG l = .error e) : conRu qs (rulesG i (l :: r)) = .error (e, i) := by
  rw [rulesG, h]; rfl

/-! ### in memory -/
def rulR : Rd Rul where
  k := 2
  R := fun w av cs q => ∃ v, cs = [v, .bool q.keep] ∧ patR.R w av [v] q.pat ∧ PatOk q.pat
  len := fun h => by obtain ⟨v, rfl, _⟩ := h; rfl
  one := fun h u hu => by
    obtain ⟨v, rfl, h, _⟩ := h
    simp at hu
    rcases hu with rfl | rfl
    · exact patR.one h _ (by simp)
    · rfl
  stable := fun h m => by obtain ⟨v, e, h1, h2⟩ := h; exact ⟨v, e, patR.stable h1 m, h2⟩
theorem elemRu : ElemOf Tryd.prog 61 67 (.agg #[.pointer none, .bool false]) 2 16 := ⟨Tryd.underlying61, by kernel_rfl, rfl, by decide⟩
/-- a pointer to rules -/
def rulesR : Rd (List Rul) where
  k := 1
  R := fun w av cs qs => ∃ g P c, cs = [.pointer (some ⟨g, 0, none⟩)] ∧ Blk w g 63 #[.slice P qs.length c] ∧ ¬ av g ∧ qs.length ≤ c ∧ c ≤ maxLen ∧ SlOf rulR w av P qs
  len := fun h => by obtain ⟨g, P, c, rfl, _⟩ := h; rfl
  one := fun h u hu => by obtain ⟨g, P, c, rfl, _⟩ := h; simp at hu; subst hu; rfl
  stable := fun h m => by
    obtain ⟨g, P, c, e, h1, h2, h3, h4, h5⟩ := h
    exact ⟨g, P, c, e, (m.block g h1.lt h2).trans h1, m.ne g h1.lt h2, h3, h4, h5.stable m⟩
def NewPost (w : World) (r : Except (Int × Nat) (List Rul)) (e : Ending) (w' : World) : Prop :=
  Below w.heap.size w w' ∧ match r with
    | .ok qs => ∃ v, e = .returned (.tuple #[v, .int .i64 0, .int .i64 0]) ∧ rulesR.R w' (fun b => b < w.heap.size) [v] qs
    | .error z => e = .returned (.tuple #[.pointer none, .int .i64 z.1, .int .i64 (z.2 : Int)])

/-- what New's loop knows -/
structure RuIn (W0 w : World) (g : Nat) (P0 : Option Addr) (n0 c0 : Nat) (P : Option Addr) (n c : Nat) (qs : List Rul) : Prop where
  below : Below g W0 w
  blk : Blk w g 63 #[.slice P0 n0 c0]
  row : RowX rulR 67 w (g + 1) (fun b => b < g + 1) P n c qs
section
variable {W0 w w' : World} {g n0 c0 n c : Nat} {P0 P : Option Addr} {qs : List Rul}
theorem RuIn.go (h : RuIn W0 w g P0 n0 c0 P n c qs) (hb : Below w.heap.size w w') : RuIn W0 w' g P0 n0 c0 P n c qs :=
  ⟨h.below.trans (hb.mono (by have := h.blk.lt; omega)), h.blk.below hb h.blk.lt, h.row.below hb⟩
theorem RuIn.push (h : RuIn W0 w g P0 n0 c0 P n c qs) {av : Av} {v : Value} {x : Rul} (hx : rulR.R w av [v, .bool x.keep] x) (hav : ∀ b, b < w.heap.size → (b < g + 1 ∨ own (.slice P n c) b) → av b) (hn : n ≤ 1000000) (c1 : Nat) :
    ∃ P' c' w', (Builtin.append_ #[61, 61] 61 #[.slice P n c, .slice (some ⟨w.heap.size, 0, none⟩) 1 c1]).run Tryd.prog (w.alloc (.cells #[v, .bool x.keep] 67)) = .ok (.slice P' (n + 1) c') w' ∧ RuIn W0 w' g P0 n0 c0 P' (n + 1) c' (qs ++ [x]) := by
  obtain ⟨P', c', w', run, hr, hb, hgr, hc, hcm, ho⟩ := h.row.push elemRu (by have := h.blk.lt; omega) hx hav (by omega) (by simp only [maxLen]; omega) 61 c1
  have hgo : ∀ k, (Value.slice P n c).ownBlock = some k → g + 1 ≤ k := fun k hk => (h.row.lt hk).1
  exact ⟨P', c', w', run, ⟨h.below.trans (hb.mono (by omega)), h.blk.grown hgr (fun e => by have := hgo g e.symm; omega), hr⟩⟩
theorem RuIn.store (h : RuIn W0 w g P0 n0 c0 P n c qs) : RuIn W0 (w.setCell ⟨g, 0, none⟩ (.slice P n c)) g P n c P n c qs :=
  ⟨h.below.setCell (p := ⟨g, 0, none⟩) (Nat.le_refl g) _, h.blk.set_ 0 _, h.row.set (show g < g + 1 by omega) (fun e => by have := (h.row.lt e).1; omega) _ _⟩
theorem RuIn.end_ (h : RuIn W0 w g P n c P n c qs) (hg : W0.heap.size = g) : rulesR.R w (fun b => b < W0.heap.size) [.pointer (some ⟨g, 0, none⟩)] qs := by
  have hl := h.row.len
  subst hl
  exact ⟨g, P, c, rfl, h.blk, by show ¬ g < W0.heap.size; omega, h.row.cap.1, h.row.cap.2, (h.row.sl (fun b hb hx => by have := (h.row.lt hb).1; omega)).stable (Moves.less _ (fun b _ hb => by show b < g + 1; omega))⟩
end

theorem cut_any (l : List UInt8) (w : World) : Calls Tryd.prog 32 #[.string (strL l), .string ⟨#[33]⟩] w fun e w' => e = .returned (.tuple #[.string (strL (cutG l)), .bool (begins [33] l)]) ∧ w' = w := by
  have h := Tryd.strings_CutPrefix (strL l) ⟨#[33]⟩ w
  have e1 : Lib.hasPrefix (strL l).data.toList (ByteArray.mk #[33]).data.toList = begins [33] l := by simp [strL, Lib.hasPrefix, begins]
  have e2 : (⟨(Lib.trimPrefix (strL l).data.toList (ByteArray.mk #[33]).data.toList).toArray⟩ : ByteArray) = strL (cutG l) := by
    unfold Lib.trimPrefix cutG
    rw [e1]
    cases begins [33] l <;> simp [strL]
  rw [e1, e2] at h
  exact h

set_option maxRecDepth 100000 in
set_option maxHeartbeats 4000000 in
theorem new_any (A : Option Addr) (N c : Nat) (lines : List (List UInt8)) (w : World) (h : SlOf strR w no A (lines.map strL)) (hN : N = lines.length) (hN6 : N ≤ 1000000) (hl : ∀ l ∈ lines, l.length ≤ 4294967280) :
    Calls Tryd.prog 14 #[.slice A N c] w (NewPost w (rulesG 0 lines)) := by
  obtain ⟨R, hR⟩ : ∃ R, R = rulesG 0 lines := ⟨_, rfl⟩
  rw [← hR]
  have HR := Lib.hid hR
  have HS := Lib.hid h
  have HN := Lib.hid hN
  have HL := Lib.hid hl
  clear h hR hN hl
  obtain ⟨g, hg⟩ : ∃ g, w.heap.size = g := ⟨_, rfl⟩
  have HG := Lib.hid hg
  have HIN := Lib.hid (show RuIn w (w.alloc (.cells #[.slice none 0 0] 63)) g none 0 0 none 0 0 [] from
    ⟨by rw [← hg]; exact (Below.refl _ _).alloc (Nat.le_refl _) _, by have := Blk.new w 63 #[.slice none 0 0]; rwa [hg] at this, RowX.nil _ _ _ _ _⟩)
  go_enter Tryd.func14, Tryd.ntmps14
  go_upto_region 2 with fail
  clear hg
  generalize w.alloc (.cells #[.slice none 0 0] 63) = w1 at *
  go_wp2_with fail
  go_loopw [16] (fun s16 wr => ∃ (k m : Nat) (P : Option Addr) (cP : Nat) (qs : List Rul), k ≤ N ∧ m ≤ k ∧ s16 = .int .i64 (k : Int) ∧ Hid (RuIn w wr g P m cP P m cP qs) ∧ Hid (conRu qs (rulesG k (lines.drop k)) = R)) (fun s16 wr => N - (intOf s16).toNat)
  case atStart => exact ⟨0, 0, none, 0, [], Nat.zero_le _, Nat.zero_le _, rfl, HIN, Lib.hid (by rw [List.drop_zero, conRu_nil, HR.out])⟩
  case round =>
    obtain ⟨k, m, P, cP, qs, hk, hmk, rfl, HI, HC⟩ := hrel
    by_cases hlt : k < N
    · have hltI : (k : Int) < (N : Int) := by omega
      obtain ⟨b, off, l, hA, hb, hlk, x0⟩ := str_look (HS.out.below (by rw [HG.out]; exact HI.out.below)) HN.out.symm hlt
      subst hA
      have hdrop : lines.drop k = l :: lines.drop (k + 1) := drop_cons hlk
      rw [hdrop] at HC
      have HLL := Lib.hid (HL.out l (List.mem_of_getElem? hlk))
      clear hdrop hlk
      cases l with
      | nil =>
        have HC2 := Lib.hid (show conRu qs (rulesG (k + 1) (lines.drop (k + 1))) = R by rw [← HC.out, conRu_pass lineG_nil])
        obtain ⟨q, hqs⟩ : ∃ q, q = strL [] := ⟨_, rfl⟩
        have hq : q.toList.isEmpty = true := by rw [hqs, ByteArray.toList_eq]; rfl
        rw [← hqs] at x0
        clear hqs
        go_wp2_with fail
        go_roundw
        case rel => exact ⟨k + 1, m, P, cP, qs, by omega, by omega, by go_num, HI, HC2⟩
        case measure => simp [intOf]; omega
      | cons x r =>
        have hq : (strL (x :: r)).toList.isEmpty = false := by rw [ByteArray.toList_eq]; rfl
        obtain ⟨q, hqs⟩ : ∃ q, q = strL (x :: r) := ⟨_, rfl⟩
        have hq0 : 0 < q.size := by rw [hqs]; simp [strL, ByteArray.size]
        have hqx : q[0] = x := by subst hqs; rfl
        rw [← hqs] at hq x0
        by_cases h35 : x = 35
        · have HC2 := Lib.hid (show conRu qs (rulesG (k + 1) (lines.drop (k + 1))) = R by rw [← HC.out, h35, conRu_pass (lineG_hash r)])
          have hx35 : ((x.toNat : Int) == 35) = true := by rw [h35]; rfl
          clear h35 hqs
          go_wp2_with fail
          go_roundw
          case rel => exact ⟨k + 1, m, P, cP, qs, by omega, by omega, by go_num, HI, HC2⟩
          case measure => simp [intOf]; omega
        · have hx35 : ((x.toNat : Int) == 35) = false := by
            simp
            intro e
            exact h35 (UInt8.toNat_inj.1 (by show x.toNat = 35; omega))
          have HLR := Lib.hid (lineG_rule (r := r) h35)
          have HCUT := Lib.hid (fun w => cut_any (x :: r) w)
          have HPAR := Lib.hid (fun w => parse_any (cutG (x :: r)) w (by
            have := HLL.out
            unfold cutG; split
            · rw [List.length_drop]; omega
            · exact this))
          rw [← hqs] at HCUT
          obtain ⟨kp, hkp⟩ : ∃ kp, kp = begins [33] (x :: r) := ⟨_, rfl⟩
          obtain ⟨lc, hlc⟩ : ∃ lc, lc = cutG (x :: r) := ⟨_, rfl⟩
          rw [← hkp, ← hlc] at HCUT
          rw [← hlc] at HPAR
          have HRO := Lib.hid (show ruleOf (x :: r) = match parseG lc with | .ok p => .ok ⟨p, kp⟩ | .error e => .error e by rw [hkp, hlc]; rfl)
          clear h35 hkp hlc hqs
          go_wp2_with fail
          refine (HCUT.out _).mono ?_
          rintro e w2 ⟨rfl, rfl⟩
          go_wp2_with fail
          refine (HPAR.out _).mono ?_
          intro e w3 hp
          obtain ⟨hb3, hp⟩ := hp
          cases hpg : parseG lc with
          | error z =>
            rw [hpg] at hp
            obtain rfl : e = _ := hp
            have HRR := Lib.hid (show R = .error (z, k) by rw [← HC.out]; exact conRu_bad (by rw [HLR.out, HRO.out, hpg]))
            have hz : (z != 0) = true := by rcases parse_err hpg with rfl | rfl <;> rfl
            have HBL := Lib.hid (show Below w.heap.size w w3 by rw [HG.out]; exact (HI.out.go hb3).below)
            clear hpg hb3 HPAR HCUT
            go_wp2_with fail
            go_ret3
            unfold NewPost
            rw [HRR.out]
            exact ⟨HBL.out, rfl⟩
          | ok ps =>
            rw [hpg] at hp
            obtain ⟨v, rfl, hp⟩ := hp
            obtain ⟨gv, rfl⟩ : ∃ gv, v = .pointer (some ⟨gv, 0, none⟩) := by
              obtain ⟨g', _, _, e, _⟩ := hp
              injection e with e; exact ⟨g', e⟩
            have hin := HI.out.go hb3
            obtain ⟨P', c', w4, run4, hin4⟩ := hin.push (v := .pointer (some ⟨gv, 0, none⟩)) (x := ⟨ps, kp⟩) ⟨_, rfl, hp, parse_ok hpg⟩ (fun b hb h => by
              rcases h with h | h
              · have := HI.out.blk.lt; omega
              · exact (HI.out.row.lt h).2) (by omega) 1
            have HC2 := Lib.hid (show conRu (qs ++ [⟨ps, kp⟩]) (rulesG (k + 1) (lines.drop (k + 1))) = R by rw [← HC.out]; exact (conRu_rule (by rw [HLR.out, HRO.out, hpg])).symm)
            have c3 := hin.blk.cell 0
            have c4 := hin4.blk.cell 0
            have f4 := hin4.blk.frozen 0
            have HIN4 := Lib.hid hin4.store
            clear hin hin4 hpg hb3 HPAR HCUT hp
            go_wp2_with (at_builtin; refine wpList_run_append run4 ?_ ?_ ?_; exact rfl; exact rfl)
            go_roundw
            case rel => exact ⟨k + 1, m + 1, P', c', qs ++ [⟨ps, kp⟩], by omega, by omega, by go_num, HIN4, HC2⟩
            case measure => simp [intOf]; omega
    · have hltI : ¬ (k : Int) < (N : Int) := by omega
      obtain rfl : k = N := by omega
      have HRN := Lib.hid (show R = .ok qs by rw [← HC.out, List.drop_eq_nil_of_le (by have := HN.out; omega), conRu_end])
      have HEND := Lib.hid (HI.out.end_ HG.out)
      have HBL := Lib.hid (show Below w.heap.size w wr by rw [HG.out]; exact HI.out.below)
      go_wp2_with fail
      go_ret3
      unfold NewPost
      rw [HRN.out]
      exact ⟨HBL.out, _, rfl, HEND.out⟩
end Go.Proofs.YtlddnghfjdjglaaDoor
