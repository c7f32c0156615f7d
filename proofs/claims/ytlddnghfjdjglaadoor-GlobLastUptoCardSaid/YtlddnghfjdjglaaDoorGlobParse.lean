/- glob.Parse. -/
import Derived.Test.YtlddnghfjdjglaaDoorGlobPat
import Derived.Test.YtlddnghfjdjglaaDoorDoor
set_option linter.unusedVariables false
set_option linter.unusedSimpArgs false
namespace Go.Proofs.YtlddnghfjdjglaaDoor
open Go.RowKit

/-- the door of Parse behind a panic -/
theorem parse_door {w w4 : World} {g : Nat} {tmps : Array Value} {y : Option Addr} (HG : w.heap.size = g) (hB : Below g w w4) (hv : Blk w4 g 23 #[.pointer y]) (he : Blk w4 (g + 1) 24 #[.int .i64 0])
    (hp : tmps.getD 2 undef = .pointer (some ⟨g, 0, none⟩)) (hq : tmps.getD 3 undef = .pointer (some ⟨g + 1, 0, none⟩)) :
    Leaves Tryd.prog Tryd.f10 tmps (ParsePost w (.error 60)) [{ target := .fn (.func 24) #[.pointer (some ⟨g, 0, none⟩), .pointer (some ⟨g + 1, 0, none⟩)], args := #[] }] (.panicking brokE) w4 := by
  have hlt : g + 1 < w4.heap.size := he.lt
  have V1 := ((hv.alloc (.cells #[] 44)).set_ 0 (.pointer none)).other (g' := g + 1) (by omega) 0 (.int .i64 60)
  have E1 := ((he.alloc (.cells #[] 44)).other (g' := g) (by omega) 0 (.pointer none)).set_ 0 (.int .i64 60)
  have HB5 := ((hB.alloc (by omega) (.cells #[] 44)).setCell (p := ⟨g, 0, none⟩) (Nat.le_refl g) (.pointer none)).setCell (p := ⟨g + 1, 0, none⟩) (by show g ≤ g + 1; omega) (.int .i64 60)
  refine leaves_cons (f := 24) (args := #[.pointer (some ⟨g, 0, none⟩), .pointer (some ⟨g + 1, 0, none⟩)]) (by simp) (by simp [go_sem]) ?_
  refine (pcaught_hit g y 0 [] w4 hv he).mono ?_
  rintro e u' w7 ⟨rfl, rfl, rfl⟩
  have r1 := V1.cell 0
  have r2 := E1.cell 0
  have hp' : tmps[2]?.getD undef = .pointer (some ⟨g, 0, none⟩) := by simpa using hp
  have hq' : tmps[3]?.getD undef = .pointer (some ⟨g + 1, 0, none⟩) := by simpa using hq
  generalize ((w4.alloc (.cells #[] 44)).setCell ⟨g, 0, none⟩ (.pointer none)).setCell ⟨g + 1, 0, none⟩ (.int .i64 60) = w8 at *
  simp [settle, Leaves, results, Tryd.results10, go_sem, r1, r2, hp', hq']
  unfold ParsePost
  rw [HG]
  exact ⟨HB5, rfl⟩

/-- what Parse's loop knows: its results' cells g, g + 1, the pattern's block g + 2, the pieces' texts g + 3 -/
structure PaIn (W0 w : World) (g : Nat) (P0 : Option Addr) (n0 c0 : Nat) (P : Option Addr) (n c : Nat) (ls : List (List UInt8)) (ps : List Pc) : Prop where
  below : Below g W0 w
  p : Blk w g 23 #[.pointer (some ⟨g + 2, 0, none⟩)]
  e : Blk w (g + 1) 24 #[.int .i64 0]
  pat : Blk w (g + 2) 48 #[.slice P0 n0 c0]
  nm : Blk w (g + 3) 9 (ls.map fun l => Value.string (strL l)).toArray
  row : RowX pcR 50 w (g + 4) (fun b => b < g + 4) P n c ps
section
variable {W0 w w' : World} {g n0 c0 n c : Nat} {P0 P : Option Addr} {ls : List (List UInt8)} {ps : List Pc}
theorem PaIn.size (h : PaIn W0 w g P0 n0 c0 P n c ls ps) : g + 4 ≤ w.heap.size := h.nm.lt
theorem PaIn.go (h : PaIn W0 w g P0 n0 c0 P n c ls ps) (hb : Below w.heap.size w w') : PaIn W0 w' g P0 n0 c0 P n c ls ps :=
  ⟨h.below.trans (hb.mono (by have := h.size; omega)), h.p.below hb h.p.lt, h.e.below hb h.e.lt, h.pat.below hb h.pat.lt, h.nm.below hb h.nm.lt, h.row.below hb⟩
theorem PaIn.push (h : PaIn W0 w g P0 n0 c0 P n c ls ps) {av : Av} {v : Value} {x : Pc} (hx : pcR.R w av [v] x) (hav : ∀ b, b < w.heap.size → (b < g + 4 ∨ own (.slice P n c) b) → av b) (hn : n ≤ 1000000) (c1 : Nat) :
    ∃ P' c' w', (Builtin.append_ #[46, 46] 46 #[.slice P n c, .slice (some ⟨w.heap.size, 0, none⟩) 1 c1]).run Tryd.prog (w.alloc (.cells #[v] 50)) = .ok (.slice P' (n + 1) c') w' ∧ PaIn W0 w' g P0 n0 c0 P' (n + 1) c' ls (ps ++ [x]) := by
  obtain ⟨P', c', w', run, hr, hb, hgr, hc, hcm, ho⟩ := h.row.push elemPc h.size hx hav (by omega) (by simp only [maxLen]; omega) 46 c1
  have hgo : ∀ k, (Value.slice P n c).ownBlock = some k → g + 4 ≤ k := fun k hk => (h.row.lt hk).1
  have hne : ∀ k, k < g + 4 → some k ≠ (Value.slice P n c).ownBlock := fun k hk e => by have := hgo k e.symm; omega
  exact ⟨P', c', w', run, ⟨h.below.trans (hb.mono (by omega)), h.p.grown hgr (hne _ (by omega)), h.e.grown hgr (hne _ (by omega)), h.pat.grown hgr (hne _ (by omega)), h.nm.grown hgr (hne _ (by omega)), hr⟩⟩
theorem PaIn.store (h : PaIn W0 w g P0 n0 c0 P n c ls ps) : PaIn W0 (w.setCell ⟨g + 2, 0, none⟩ (.slice P n c)) g P n c P n c ls ps :=
  ⟨h.below.setCell (p := ⟨g + 2, 0, none⟩) (by show g ≤ g + 2; omega) _, h.p.other (by omega) _ _, h.e.other (by omega) _ _, h.pat.set_ 0 _, h.nm.other (by omega) _ _, h.row.set (show g + 2 < g + 4 by omega) (fun e => by have := (h.row.lt e).1; omega) _ _⟩
end

theorem mem_split : ∀ {l p : List UInt8}, p ∈ splitG l → p.length ≤ l.length
  | [], p, h => by
    have h : p ∈ [[]] := h
    simp at h; subst h; simp
  | x :: r, p, h => by
    have h : p ∈ (if x = 47 then [] :: splitG r else match splitG r with | [] => [[x]] | p :: q => (x :: p) :: q) := h
    rw [List.length_cons]
    obtain ⟨a, b, hab⟩ := splitG_cut r
    split at h
    · rcases List.mem_cons.1 h with rfl | h
      · simp
      · have := mem_split h; omega
    · rw [hab] at h
      rcases List.mem_cons.1 h with rfl | h
      · have := mem_split (l := r) (p := a) (by rw [hab]; simp)
        rw [List.length_cons]; omega
      · have := mem_split (l := r) (p := p) (by rw [hab]; simp [h])
        omega
set_option maxRecDepth 100000 in
set_option maxHeartbeats 4000000 in
theorem parse_any (l : List UInt8) (w : World) (hl : l.length ≤ 4294967280) :
    Calls Tryd.prog 10 #[.string (strL l)] w (ParsePost w (parseG l)) := by
  have hmf : ∀ (fn : Fn) (first cap : Array Value) (w : World), (Instr.makeFunc fn first cap).run Tryd.prog w = .ok (.func fn first cap) w := fun _ _ _ _ => rfl
  obtain ⟨w1, hw1⟩ : ∃ w1, w1 = (w.alloc (.cells #[.pointer none] 23)).alloc (.cells #[.int .i64 0] 24) := ⟨_, rfl⟩
  have HB1 := Lib.hid (show Below w.heap.size w w1 by rw [hw1]; exact ((Below.refl _ _).alloc (Nat.le_refl _) _).alloc (by simp) _)
  have HP1 := Lib.hid (show Blk w1 w.heap.size 23 #[.pointer none] by rw [hw1]; exact (Blk.new w _ _).alloc _)
  have HE1 := Lib.hid (show Blk w1 (w.heap.size + 1) 24 #[.int .i64 0] by
    have := Blk.new (w.alloc (.cells #[.pointer none] 23)) 24 #[.int .i64 0]
    rw [hw1]; simpa using this)
  have HSZ := Lib.hid (show w1.heap.size = w.heap.size + 2 by rw [hw1]; simp)
  obtain ⟨R, hR⟩ : ∃ R, R = parseG l := ⟨_, rfl⟩
  have HR := Lib.hid hR
  have HL := Lib.hid hl
  have HSL := Lib.hid (show (strL l).size = l.length by simp [strL, ByteArray.size])
  have hl63 : (strL l).size < 9223372036854775807 := by have := HSL.out; omega
  rw [← hR]
  clear hR hl
  go_enter_defers Tryd.func10, Tryd.ntmps10
  go_upto_region 1 with fail
  rw [← hw1]
  clear hw1
  generalize hg : w.heap.size = g at *
  have HG := Lib.hid hg
  clear hg
  have p0 := HP1.out.cell 0
  have f0 := HP1.out.frozen 0
  have p1 := HE1.out.cell 0
  have f1 := HE1.out.frozen 0
  by_cases h255 : 255 < l.length
  · have hI : (255 : Int) < ((strL l).size : Int) := by have := HSL.out; omega
    have HRR := Lib.hid (show R = .error 2 by rw [HR.out]; unfold parseG; rw [if_pos h255])
    have p2 := (HE1.out.other (g' := g) (by omega) 0 (.pointer none)).cell 0
    have f2 := (HE1.out.other (g' := g) (by omega) 0 (.pointer none)).frozen 0
    have V1 := ((HP1.out.set_ 0 (.pointer none)).other (g' := g + 1) (by omega) 0 (.int .i64 2)).cell 0
    have E1 := ((HE1.out.other (g' := g) (by omega) 0 (.pointer none)).set_ 0 (.int .i64 2)).cell 0
    have HB5 := Lib.hid ((HB1.out.setCell (p := ⟨g, 0, none⟩) (Nat.le_refl g) (.pointer none)).setCell (p := ⟨g + 1, 0, none⟩) (by show g ≤ g + 1; omega) (.int .i64 2))
    go_wp2_with fail
    generalize (w1.setCell ⟨g, 0, none⟩ (.pointer none)).setCell ⟨g + 1, 0, none⟩ (.int .i64 2) = w8 at *
    simp [bodyPostD, settle, Leaves, results, Tryd.results10, go_sem, V1, E1]
    unfold ParsePost
    rw [HG.out, HRR.out]
    exact ⟨HB5.out, rfl⟩
  · have hI : ¬ (255 : Int) < ((strL l).size : Int) := by have := HSL.out; omega
    have HLN := Lib.hid (show l.length ≤ 255 by omega)
    have HRR := Lib.hid (show R = match piecesG (splitG l) with | none => .error 60 | some ps => .ok ps by rw [HR.out]; unfold parseG; rw [if_neg h255]; cases piecesG (splitG l) <;> rfl)
    have HP2 := Lib.hid ((HP1.out.alloc (.cells #[.slice none 0 0] 48)).set_ 0 (.pointer (some ⟨g + 2, 0, none⟩)))
    have HE2 := Lib.hid ((HE1.out.alloc (.cells #[.slice none 0 0] 48)).other (g' := g) (by omega) 0 (.pointer (some ⟨g + 2, 0, none⟩)))
    have HT2 := Lib.hid (show Blk ((w1.alloc (.cells #[.slice none 0 0] 48)).setCell ⟨g, 0, none⟩ (.pointer (some ⟨g + 2, 0, none⟩))) (g + 2) 48 #[.slice none 0 0] by
      have := (Blk.new w1 48 #[.slice none 0 0]).other (g' := g) (by have := HSZ.out; omega) 0 (.pointer (some ⟨g + 2, 0, none⟩))
      rwa [HSZ.out] at this)
    have HB2 := Lib.hid ((HB1.out.alloc (by have := HSZ.out; omega) (.cells #[.slice none 0 0] 48)).setCell (p := ⟨g, 0, none⟩) (Nat.le_refl g) (.pointer (some ⟨g + 2, 0, none⟩)))
    have HS2 := Lib.hid (show ((w1.alloc (.cells #[.slice none 0 0] 48)).setCell ⟨g, 0, none⟩ (.pointer (some ⟨g + 2, 0, none⟩))).heap.size = g + 3 by
      have := HSZ.out
      simp [this])
    have p2 := (HP1.out.alloc (.cells #[.slice none 0 0] 48)).cell 0
    have f2 := (HP1.out.alloc (.cells #[.slice none 0 0] 48)).frozen 0
    go_upto_region 5 with fail
    rw [HSZ.out]
    clear HB1 HP1 HE1 HSZ p0 f0 p1 f1 p2 f2 h255 hI hl63
    generalize (w1.alloc (.cells #[.slice none 0 0] 48)).setCell ⟨g, 0, none⟩ (.pointer (some ⟨g + 2, 0, none⟩)) = w2 at *
    go_wp2_with fail
    refine (split_any l w2 HL.out).mono ?_
    rintro e w3 ⟨rfl, hw3⟩
    rw [HS2.out]
    have hb3 : Below w2.heap.size w2 w3 := by rw [hw3]; exact (Below.refl _ _).alloc (Nat.le_refl _) _
    have HIN := Lib.hid (show PaIn w w3 g none 0 0 none 0 0 (splitG l) [] from
      ⟨HB2.out.trans (hb3.mono (by have := HS2.out; omega)), HP2.out.below hb3 HP2.out.lt, HE2.out.below hb3 HE2.out.lt, HT2.out.below hb3 HT2.out.lt, by
        have := Blk.new w2 9 ((splitG l).map fun p => Value.string (strL p)).toArray
        rw [HS2.out, ← hw3] at this; exact this, RowX.nil _ _ _ _ _⟩)
    obtain ⟨ls, hls⟩ : ∃ ls, ls = splitG l := ⟨_, rfl⟩
    rw [← hls] at HIN HRR ⊢
    obtain ⟨N, hN⟩ : ∃ N, N = ls.length := ⟨_, rfl⟩
    rw [← hN]
    have HN := Lib.hid hN
    have HLS := Lib.hid hls
    clear hw3 hb3 HP2 HE2 HT2 HB2 HS2 hls hN
    have HNB := Lib.hid (show N ≤ 256 by
      rw [HN.out, HLS.out, splitG_len]
      have := List.count_le_length (a := (47 : UInt8)) (l := l)
      have := HLN.out; omega)
    go_wp2_with fail
    go_loopw [15] (fun s15 wr => ∃ (k : Nat) (P : Option Addr) (c : Nat) (ps : List Pc), k ≤ N ∧ s15 = .int .i64 (k : Int) ∧ Hid (PaIn w wr g P k c P k c ls ps) ∧ Hid (conP ps (piecesG (ls.drop k)) = piecesG ls)) (fun s15 wr => N - (intOf s15).toNat)
    case atStart => exact ⟨0, none, 0, [], Nat.zero_le _, rfl, HIN, Lib.hid (by rw [List.drop_zero, conP_nil])⟩
    case round =>
      obtain ⟨k, P, c, ps, hk, rfl, HPA, HCO⟩ := hrel
      have p0 := HPA.out.p.cell 0
      have f0 := HPA.out.p.frozen 0
      by_cases hlt : k < N
      · have hltI : (k : Int) < (N : Int) := by omega
        obtain ⟨lk, hlk⟩ : ∃ lk, ls[k]? = some lk := ⟨_, List.getElem?_eq_getElem (by have := HN.out; omega)⟩
        have x0 : wr.cell? ⟨g + 3, k, none⟩ = some (.string (strL lk)) := by rw [HPA.out.nm.cell k, List.getElem?_toArray, List.getElem?_map, hlk]; rfl
        have hdrop : ls.drop k = lk :: ls.drop (k + 1) := drop_cons hlk
        rw [hdrop] at HCO
        have hk6 : k ≤ 1000000 := by have := HNB.out; omega
        have HKK := Lib.hid (show (splitG l)[k]? = some lk by rw [← HLS.out]; exact hlk)
        clear hdrop hlk
        by_cases h1 : lk = [42, 42]
        · have hq : ((strL lk).toList == [42, 42]) = true := by rw [h1, ByteArray.toList_eq]; rfl
          have HCO2 := Lib.hid (show conP (ps ++ [none]) (piecesG (ls.drop (k + 1))) = piecesG ls by rw [← HCO.out, h1]; exact (conP_step piece_any).symm)
          clear h1
          have hdr : Below wr.heap.size wr wr.drew := Same.below ⟨1, rfl⟩ _
          have hin := HPA.out.go hdr
          obtain ⟨P', c', w7, run7, hin7⟩ := hin.push (av := fun b => b < wr.drew.heap.size) (v := .slice none 0 0) (x := none) rfl (fun b hb _ => hb) hk6 1
          have hs0 : Blk wr.drew g 23 #[.pointer (some ⟨g + 2, 0, none⟩)] ∧ Blk wr.drew (g + 2) 48 #[.slice P k c] := ⟨hin.p, hin.pat⟩
          have hs6 : Blk (wr.drew.alloc (.cells #[.slice none 0 0] 50)) g 23 #[.pointer (some ⟨g + 2, 0, none⟩)] ∧ Blk (wr.drew.alloc (.cells #[.slice none 0 0] 50)) (g + 2) 48 #[.slice P k c] := ⟨hin.p.alloc _, hin.pat.alloc _⟩
          have hs7 : Blk w7 g 23 #[.pointer (some ⟨g + 2, 0, none⟩)] ∧ Blk w7 (g + 2) 48 #[.slice P k c] := ⟨hin7.p, hin7.pat⟩
          have HIN8 := Lib.hid hin7.store
          have HS0 := Lib.hid hs0
          have HS6 := Lib.hid hs6
          have HS7 := Lib.hid hs7
          have HRUN := Lib.hid run7
          clear hin hin7 run7 hs0 hs6 hs7
          go_upto_region 9 with fail
          refine wp_door (fun _ _ => False) 2 3 undef undef [] (fun _ _ _ _ _ _ hp => hp.elim) ?_
          have hs0 := HS0.out
          have hs6 := HS6.out
          have hs7 := HS7.out
          have k7 := hs7.2.cell 0
          have f7 := hs7.2.frozen 0
          refine wp_region_late (S := fun w => Blk w g 23 #[.pointer (some ⟨g + 2, 0, none⟩)] ∧ Blk w (g + 2) 48 #[.slice P k c]) (s := 9) (by kernel_rfl) ?_
          refine late_load (i := 0) (m := 0) (v := ?_) (a' := ?_) rfl (by kernel_rfl) (by kernel_rfl) (by kernel_rfl) (by kernel_rfl) (by rfl) (fun _ _ _ h => (show False from h.2.2.2).elim) (by rfl) hs0 ?_ ?_ ?_
          rotate_left 2
          · (intro w hS; have t : w.cell? ⟨g, 0, none⟩ = some (.pointer (some ⟨g + 2, 0, none⟩)) := hS.1.cell 0; go_simp; try with_reducible rfl)
          · (go_simp; try with_reducible rfl)
          refine late_load (i := 1) (m := 1) (v := ?_) (a' := ?_) rfl (by kernel_rfl) (by kernel_rfl) (by kernel_rfl) (by kernel_rfl) (by rfl) (fun _ _ _ h => (show False from h.2.2.2).elim) (by rfl) hs0 ?_ ?_ ?_
          rotate_left 2
          · (intro w hS; have t : w.cell? ⟨g, 0, none⟩ = some (.pointer (some ⟨g + 2, 0, none⟩)) := hS.1.cell 0; go_simp; try with_reducible rfl)
          · (go_simp; try with_reducible rfl)
          refine late_pure (i := 2) (v := ?_) (a' := ?_) rfl (by kernel_rfl) (by kernel_rfl) (by kernel_rfl) (by rfl) (fun _ _ _ h => (show False from h.2.2.2).elim) (by rfl) (fun _ => hs0) ?_ ?_ ?_
          rotate_left 2
          · (intro w; go_simp; try with_reducible rfl)
          · (go_simp; try with_reducible rfl)
          refine late_pure (i := 3) (v := ?_) (a' := ?_) rfl (by kernel_rfl) (by kernel_rfl) (by kernel_rfl) (by rfl) (fun _ _ _ h => (show False from h.2.2.2).elim) (by rfl) (fun _ => hs0) ?_ ?_ ?_
          rotate_left 2
          · (intro w; go_simp; try with_reducible rfl)
          · (go_simp; try with_reducible rfl)
          refine late_load (i := 4) (m := 4) (v := ?_) (a' := ?_) rfl (by kernel_rfl) (by kernel_rfl) (by kernel_rfl) (by kernel_rfl) (by rfl) (fun _ _ _ h => (show False from h.2.2.2).elim) (by rfl) hs0 ?_ ?_ ?_
          rotate_left 2
          · (intro w hS; have t : w.cell? ⟨g + 2, 0, none⟩ = some (.slice P k c) := hS.2.cell 0; go_simp; try with_reducible rfl)
          · (go_simp; try with_reducible rfl)
          refine late_one (i := 5) (by kernel_rfl) rfl (fun KR hKR => ?_)
          go_simp
          skip
          refine hKR _ _ (fun _ => hs6) ?_
          clear hKR KR
          refine late_one (i := 6) (by kernel_rfl) rfl (fun KR hKR => ?_)
          refine step_run_append (by rfl) (.tmp 25) (.tmp 26) (by rfl) (by rfl) (by rfl) HRUN.out ?_
          refine hKR _ _ (fun _ => hs7) ?_
          clear hKR KR
          refine late_pure (i := 7) (v := ?_) (a' := ?_) rfl (by kernel_rfl) (by kernel_rfl) (by kernel_rfl) (by rfl) (fun _ _ _ h => (show False from h.2.2.2).elim) (by rfl) (fun _ => hs7) ?_ ?_ ?_
          rotate_left 2
          · (intro w; go_simp; try with_reducible rfl)
          · (go_simp; try with_reducible rfl)
          refine late_pure (i := 8) (v := ?_) (a' := ?_) rfl (by kernel_rfl) (by kernel_rfl) (by kernel_rfl) (by rfl) (fun _ _ _ h => (show False from h.2.2.2).elim) (by rfl) (fun _ => hs7) ?_ ?_ ?_
          rotate_left 2
          · (intro w; go_simp; try with_reducible rfl)
          · (go_simp; try with_reducible rfl)
          refine late_one (i := 9) (by kernel_rfl) rfl (fun KR hKR => ?_)
          go_simp
          skip
          refine hKR _ _ (fun h0 => Bool.noConfusion (show (true : Bool) = false from h0)) ?_
          clear hKR KR
          refine late_done' (by kernel_rfl) ?_ _
          clear hs0 hs6 hs7 k7 f7
          refine door_normal ?_
          go_wp2_with fail
          go_roundw
          case rel => exact ⟨k + 1, P', c', ps ++ [none], by omega, by go_num, HIN8, HCO2⟩
          case measure => simp [intOf]; omega
        · have hq : ((strL lk).toList == [42, 42]) = false := by
            rw [ByteArray.toList_eq]; simpa [strL] using h1
          by_cases h2 : lk = []
          · have hq2 : (strL lk).toList.isEmpty = true := by rw [h2, ByteArray.toList_eq]; rfl
            have hr : R = .error 60 := by rw [HRR.out, ← HCO.out, h2, conP_bad piece_nil]
            have HRN := Lib.hid hr
            clear hr h1 h2
            go_wp2_with fail
            rw [HRN.out]
            refine parse_door HG.out HPA.out.below HPA.out.p HPA.out.e ?_ ?_ <;> rfl
          · have hq2 : (strL lk).toList.isEmpty = false := by
              rw [ByteArray.toList_eq]
              cases lk with
              | nil => exact absurd rfl h2
              | cons a b => rfl
            have hpc := piece_atoms h1 h2
            have HPC := Lib.hid hpc
            have HLK := Lib.hid (show lk.length ≤ 1000000 by
              have h3 := mem_split (List.mem_of_getElem? HKK.out)
              have := HLN.out; omega)
            have HNE := Lib.hid h2
            clear hpc h1 h2
            have hdr : Below wr.heap.size wr wr.drew := Same.below ⟨1, rfl⟩ _
            have hin := HPA.out.go hdr
            have hs0 : Blk wr.drew g 23 #[.pointer (some ⟨g + 2, 0, none⟩)] ∧ Blk wr.drew (g + 2) 48 #[.slice P k c] := ⟨hin.p, hin.pat⟩
            have HS0 := Lib.hid hs0
            have HIN0 := Lib.hid hin
            clear hin hs0
            go_upto_region 12 with fail
            refine wp_door (fun ch w' => ch = brokE ∧ R = .error 60 ∧ Below g w w' ∧ Blk w' g 23 #[.pointer (some ⟨g + 2, 0, none⟩)] ∧ Blk w' (g + 1) 24 #[.int .i64 0]) 2 3 (.pointer (some ⟨g, 0, none⟩)) (.pointer (some ⟨g + 1, 0, none⟩))
              [{ target := .fn (.func 24) #[.pointer (some ⟨g, 0, none⟩), .pointer (some ⟨g + 1, 0, none⟩)], args := #[] }] (fun ch a w' h1 h2 h3 hp => ?_) ?_
            · obtain ⟨rfl, hR, hB, hv, he⟩ := hp
              have key := parse_door (w := w) HG.out hB hv he h1 h2
              rw [← h3, ← hR] at key
              exact key
            have hs0 := HS0.out
            have hin := HIN0
            refine wp_region_late (S := fun w => Blk w g 23 #[.pointer (some ⟨g + 2, 0, none⟩)] ∧ Blk w (g + 2) 48 #[.slice P k c]) (s := 13) (by kernel_rfl) ?_
            change wpAnyL _ _ _ _ _ _ _ _ _ (World.drew _)
            generalize World.drew wr = wd at hs0 hin ⊢
            refine late_load (i := 0) (m := 0) (v := ?_) (a' := ?_) rfl (by kernel_rfl) (by kernel_rfl) (by kernel_rfl) (by kernel_rfl) (by rfl) (fun _ _ _ h => door_put (by decide) (by decide) h) (by rfl) hs0 ?_ ?_ ?_
            rotate_left 2
            · (intro w hS; have t : w.cell? ⟨g, 0, none⟩ = some (.pointer (some ⟨g + 2, 0, none⟩)) := hS.1.cell 0; go_simp; try with_reducible rfl)
            · (go_simp; try with_reducible rfl)
            refine late_load (i := 1) (m := 1) (v := ?_) (a' := ?_) rfl (by kernel_rfl) (by kernel_rfl) (by kernel_rfl) (by kernel_rfl) (by rfl) (fun _ _ _ h => door_put (by decide) (by decide) h) (by rfl) hs0 ?_ ?_ ?_
            rotate_left 2
            · (intro w hS; have t : w.cell? ⟨g, 0, none⟩ = some (.pointer (some ⟨g + 2, 0, none⟩)) := hS.1.cell 0; go_simp; try with_reducible rfl)
            · (go_simp; try with_reducible rfl)
            refine late_pure (i := 2) (v := ?_) (a' := ?_) rfl (by kernel_rfl) (by kernel_rfl) (by kernel_rfl) (by rfl) (fun _ _ _ h => door_put (by decide) (by decide) h) (by rfl) (fun _ => hs0) ?_ ?_ ?_
            rotate_left 2
            · (intro w; go_simp; try with_reducible rfl)
            · (go_simp; try with_reducible rfl)
            refine late_pure (i := 3) (v := ?_) (a' := ?_) rfl (by kernel_rfl) (by kernel_rfl) (by kernel_rfl) (by rfl) (fun _ _ _ h => door_put (by decide) (by decide) h) (by rfl) (fun _ => hs0) ?_ ?_ ?_
            rotate_left 2
            · (intro w; go_simp; try with_reducible rfl)
            · (go_simp; try with_reducible rfl)
            refine late_load (i := 4) (m := 4) (v := ?_) (a' := ?_) rfl (by kernel_rfl) (by kernel_rfl) (by kernel_rfl) (by kernel_rfl) (by rfl) (fun _ _ _ h => door_put (by decide) (by decide) h) (by rfl) hs0 ?_ ?_ ?_
            rotate_left 2
            · (intro w hS; have t : w.cell? ⟨g + 2, 0, none⟩ = some (.slice P k c) := hS.2.cell 0; go_simp; try with_reducible rfl)
            · (go_simp; try with_reducible rfl)
            refine late_pure (i := 5) (v := ?_) (a' := ?_) rfl (by kernel_rfl) (by kernel_rfl) (by kernel_rfl) (by rfl) (fun _ _ _ h => door_put (by decide) (by decide) h) (by rfl) (fun _ => hs0) ?_ ?_ ?_
            rotate_left 2
            · (intro w; go_simp; try with_reducible rfl)
            · (go_simp; try with_reducible rfl)
            refine late_pure (i := 6) (v := ?_) (a' := ?_) rfl (by kernel_rfl) (by kernel_rfl) (by kernel_rfl) (by rfl) (fun _ _ _ h => door_put (by decide) (by decide) h) (by rfl) (fun _ => hs0) ?_ ?_ ?_
            rotate_left 2
            · (intro w; go_simp; try with_reducible rfl)
            · (go_simp; try with_reducible rfl)
            refine late_one (i := 7) (by kernel_rfl) rfl (fun KR hKR => ?_)
            go_simp
            have hs7 : Blk (wd.alloc (.cells #[.string (strL lk)] 53)) g 23 #[.pointer (some ⟨g + 2, 0, none⟩)] ∧ Blk (wd.alloc (.cells #[.string (strL lk)] 53)) (g + 2) 48 #[.slice P k c] := ⟨hs0.1.alloc _, hs0.2.alloc _⟩
            refine hKR _ _ (fun _ => hs7) ?_
            clear hKR KR
            refine late_one (i := 8) (by kernel_rfl) rfl (fun KR hKR => ?_)
            go_simp
            refine (atoms_any wd.heap.size lk _ (Blk.new wd _ _) HLK.out).mono ?_
            intro e w8 hp
            obtain ⟨hg8, hp⟩ := hp
            have hb8 : Below wd.heap.size wd w8 := below_grown ((Below.refl _ _).alloc (Nat.le_refl _) _) hg8 (by simp) (Nat.le_refl _)
            have hin8 := hin.out.go hb8
            rcases hat : atomsL [] lk with _ | az
            · rw [hat] at hp
              obtain rfl : e = _ := hp
              exact ⟨rfl, rfl, rfl, rfl, by rw [HRR.out, ← HCO.out, conP_bad (by rw [HPC.out, hat]; rfl)], hin8.below, hin8.p, hin8.e⟩
            rw [hat] at hp
            obtain ⟨A, m, cA, rfl, hm, hmc, hcm, hsl⟩ := hp
            have hpos := (atomsL_ne _ (Nat.le_refl _) hat).2 HNE.out
            have hrd : pcR.R w8 (fun b => b < (wd.alloc (.cells #[.string (strL lk)] 53)).heap.size) [.slice A m cA] (some az) := ⟨fun e => by subst e; simp at hpos, A, cA, by rw [hm], by rw [← hm]; exact hmc, hcm, hsl⟩
            obtain ⟨P', c', w9, run9, hin9⟩ := hin8.push hrd (fun b hb h => by
              rw [World.size_alloc]
              rcases h with h | h
              · have := hin.out.size; omega
              · have := (hin.out.row.lt h).2; omega) hk6 1
            have HCO2 := Lib.hid (show conP (ps ++ [some az]) (piecesG (ls.drop (k + 1))) = piecesG ls by rw [← HCO.out]; exact (conP_step (by rw [HPC.out, hat]; rfl)).symm)
            have hs8 : Blk w8 g 23 #[.pointer (some ⟨g + 2, 0, none⟩)] ∧ Blk w8 (g + 2) 48 #[.slice P k c] := ⟨hin8.p, hin8.pat⟩
            have hs9 : Blk (w8.alloc (.cells #[.slice A m cA] 50)) g 23 #[.pointer (some ⟨g + 2, 0, none⟩)] ∧ Blk (w8.alloc (.cells #[.slice A m cA] 50)) (g + 2) 48 #[.slice P k c] := ⟨hs8.1.alloc _, hs8.2.alloc _⟩
            have hs10 : Blk w9 g 23 #[.pointer (some ⟨g + 2, 0, none⟩)] ∧ Blk w9 (g + 2) 48 #[.slice P k c] := ⟨hin9.p, hin9.pat⟩
            have HIN10 := Lib.hid hin9.store
            have HRUN := Lib.hid run9
            have k9 := hin9.pat.cell 0
            have f9 := hin9.pat.frozen 0
            clear run9 hin9 hrd hsl hpos hm hat hin8
            refine hKR _ _ (fun _ => hs8) ?_
            clear hKR KR
            refine late_one (i := 9) (by kernel_rfl) rfl (fun KR hKR => ?_)
            go_simp
            skip
            refine hKR _ _ (fun _ => hs9) ?_
            clear hKR KR
            refine late_one (i := 10) (by kernel_rfl) rfl (fun KR hKR => ?_)
            refine step_run_append (by rfl) (.tmp 38) (.tmp 43) (by rfl) (by rfl) (by rfl) HRUN.out ?_
            refine hKR _ _ (fun _ => hs10) ?_
            clear hKR KR
            refine late_pure (i := 11) (v := ?_) (a' := ?_) rfl (by kernel_rfl) (by kernel_rfl) (by kernel_rfl) (by rfl) (fun _ _ _ h => door_put (by decide) (by decide) h) (by rfl) (fun _ => hs10) ?_ ?_ ?_
            rotate_left 2
            · (intro w; go_simp; try with_reducible rfl)
            · (go_simp; try with_reducible rfl)
            refine late_pure (i := 12) (v := ?_) (a' := ?_) rfl (by kernel_rfl) (by kernel_rfl) (by kernel_rfl) (by rfl) (fun _ _ _ h => door_put (by decide) (by decide) h) (by rfl) (fun _ => hs10) ?_ ?_ ?_
            rotate_left 2
            · (intro w; go_simp; try with_reducible rfl)
            · (go_simp; try with_reducible rfl)
            refine late_one (i := 13) (by kernel_rfl) rfl (fun KR hKR => ?_)
            go_simp
            skip
            refine hKR _ _ (fun h0 => Bool.noConfusion (show (true : Bool) = false from h0)) ?_
            clear hKR KR
            refine late_done' (by kernel_rfl) ?_ _
            clear hs0 hs7 hs8 hs9 hs10 k9 f9
            refine door_normal ?_
            go_wp2_with fail
            go_roundw
            case rel => exact ⟨k + 1, P', c', ps ++ [some az], by omega, by go_num, HIN10, HCO2⟩
            case measure => simp [intOf]; omega
      · have hltI : ¬ (k : Int) < (N : Int) := by omega
        obtain rfl : k = N := by omega
        have HRN := Lib.hid (show R = .ok ps by rw [HRR.out, ← HCO.out, List.drop_eq_nil_of_le (by have := HN.out; omega), conP_end])
        have p1 := (HPA.out.e.other (g' := g) (by omega) 0 (.pointer (some ⟨g + 2, 0, none⟩))).cell 0
        have f1 := (HPA.out.e.other (g' := g) (by omega) 0 (.pointer (some ⟨g + 2, 0, none⟩))).frozen 0
        have HP1 := Lib.hid ((HPA.out.p.set_ 0 (.pointer (some ⟨g + 2, 0, none⟩))).other (g' := g + 1) (by omega) 0 (.int .i64 0))
        have HE1 := Lib.hid ((HPA.out.e.other (g' := g) (by omega) 0 (.pointer (some ⟨g + 2, 0, none⟩))).set_ 0 (.int .i64 0))
        have HT1 := Lib.hid ((HPA.out.pat.other (g' := g) (by omega) 0 (.pointer (some ⟨g + 2, 0, none⟩))).other (g' := g + 1) (by omega) 0 (.int .i64 0))
        have HB1 := Lib.hid ((HPA.out.below.setCell (p := ⟨g, 0, none⟩) (Nat.le_refl g) (.pointer (some ⟨g + 2, 0, none⟩))).setCell (p := ⟨g + 1, 0, none⟩) (by show g ≤ g + 1; omega) (.int .i64 0))
        have HS1 := Lib.hid (((HPA.out.row.sl (fun b hb hx => by have := (HPA.out.row.lt hb).1; omega)).stable (Moves.grown (grown_set wr g 0 (.pointer (some ⟨g + 2, 0, none⟩))) (by show g < g + 4; omega))).stable (Moves.grown (grown_set (wr.setCell ⟨g, 0, none⟩ (.pointer (some ⟨g + 2, 0, none⟩))) (g + 1) 0 (.int .i64 0)) (by show g + 1 < g + 4; omega)))
        have HCP := Lib.hid (And.intro HPA.out.row.len HPA.out.row.cap)
        clear HPA HCO
        go_wp2_with fail
        generalize (wr.setCell ⟨g, 0, none⟩ (.pointer (some ⟨g + 2, 0, none⟩))).setCell ⟨g + 1, 0, none⟩ (.int .i64 0) = W at *
        refine leaves_cons (f := 24) (args := #[.pointer (some ⟨g, 0, none⟩), .pointer (some ⟨g + 1, 0, none⟩)]) (by simp) (by simp [go_sem]) ?_
        refine (pcaught_idle _ _).mono ?_
        rintro e u' w7 ⟨rfl, rfl, rfl⟩
        have r1 := (HP1.out.alloc (.cells #[] 44)).cell 0
        have r2 := (HE1.out.alloc (.cells #[] 44)).cell 0
        have HT2 := Lib.hid (HT1.out.alloc (.cells #[] 44))
        have hal : Below W.heap.size W (W.alloc (.cells #[] 44)) := (Below.refl _ _).alloc (Nat.le_refl _) _
        have HB2 := Lib.hid (HB1.out.trans (hal.mono (by have := HT1.out.lt; omega)))
        have HS2 := Lib.hid (HS1.out.below hal)
        clear hal
        generalize W.alloc (.cells #[] 44) = W2 at *
        simp [settle, Leaves, results, Tryd.results10, go_sem, r1, r2]
        unfold ParsePost
        rw [HG.out, HRN.out]
        have hlen := HCP.out.1
        exact ⟨HB2.out, _, rfl, g + 2, P, c, rfl, by rw [← hlen]; exact HT2.out, by omega, by rw [← hlen]; exact HCP.out.2.1, HCP.out.2.2, HS2.out.stable (Moves.less _ (fun b _ h => Nat.lt_of_lt_of_le h (by omega)))⟩
end Go.Proofs.YtlddnghfjdjglaaDoor
