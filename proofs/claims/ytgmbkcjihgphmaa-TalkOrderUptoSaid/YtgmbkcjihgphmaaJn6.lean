/- Contracts and laws for what the statement reaches, joined: TalkRec, TalkShelf, RowR, RowB, RowX. -/
import Derived.Test.YtgmbkcjihgphmaaJn1
import Derived.Test.YtgmbkcjihgphmaaJn3
import Derived.Test.YtgmbkcjihgphmaaJn4
import Derived.Test.YtgmbkcjihgphmaaJn5
/- records: how they lie in memory; towlineref20.Get. -/
set_option linter.unusedVariables false
set_option linter.unusedSimpArgs false
namespace Go.Proofs.Ytgmbkcjihgphmaa
open Go.RowKit
attribute [local go_sem ↓] eqlId_eq neqId_eq

abbrev RecT := List UInt8 × ByteArray
def recR : Rd RecT := prodR oidR strR
theorem rec_cells {w : World} {av : Av} {cs : List Value} {r : RecT} (h : recR.R w av cs r) : cs = bytesV r.1 ++ [.string r.2] ∧ r.1.length = 32 := by
  obtain ⟨c1, c2, rfl, h1, h2⟩ := h
  obtain ⟨rfl, h3⟩ := oid_cells h1
  have h2 : c2 = [.string r.2] := h2
  exact ⟨by rw [h2], h3⟩
theorem rec_of (w : World) (av : Av) {r : RecT} (h : r.1.length = 32) : recR.R w av (bytesV r.1 ++ [Value.string r.2]) r := ⟨_, _, rfl, oid_of w av h, rfl⟩
theorem recs_look {w : World} {av : Av} {A : Option Addr} {rs : List RecT} {n i : Nat} (h : SlOf recR w av A rs) (hl : rs.length = n) (hi : i < n) :
    ∃ b off r, A = some ⟨b, off, none⟩ ∧ b < w.heap.size ∧ rs[i]? = some r ∧ r.1.length = 32 ∧ At w ⟨b, off + i * 33, none⟩ (bytesV r.1).toArray ∧ w.cell? ⟨b, off + i * 33 + 32, none⟩ = some (.string r.2) := by
  obtain ⟨b, off, cs, r, e, hb, hx, hr, hc⟩ := h.at hl hi
  obtain ⟨rfl, h32⟩ := rec_cells hr
  have hc : At w ⟨b, off + i * 33, none⟩ (bytesV r.1 ++ [Value.string r.2]).toArray := hc
  refine ⟨b, off, r, e, hb, hx, h32, fun j u hu => hc j u ?_, hc 32 _ ?_⟩
  · have hu : (bytesV r.1)[j]? = some u := by simpa using hu
    have hlt := (List.getElem?_eq_some_iff.1 hu).1
    rw [List.getElem?_toArray, List.getElem?_append_left hlt, hu]
  · rw [List.getElem?_toArray, List.getElem?_append_right (by rw [bytesV_length, h32]; exact Nat.le_refl _), bytesV_length, h32]; rfl
theorem recs_32 {w : World} {av : Av} {A : Option Addr} {rs : List RecT} (h : SlOf recR w av A rs) : ∀ r ∈ rs, r.1.length = 32 := fun r hr => by
  obtain ⟨j, hj⟩ := List.mem_iff_getElem?.1 hr
  obtain ⟨_, _, r', _, _, h1, h2, _⟩ := recs_look h rfl (i := j) (List.getElem?_eq_some_iff.1 hj).1
  rw [hj] at h1
  rw [Option.some.inj h1]; exact h2
/-- the bytes of a record -/
def getS (rs : List RecT) (id : List UInt8) : Option ByteArray := (rs.find? (fun r => r.1 == id)).map (·.2)
def GetSPost (w : World) (r : Option ByteArray) (e : Ending) (w' : World) : Prop :=
  Below w.heap.size w w' ∧ match r with
    | some s => e = .returned (.tuple #[.string s, .int .i64 0])
    | none => e = .returned (.tuple #[.string ⟨#[]⟩, .int .i64 4])

set_option maxRecDepth 100000 in
set_option maxHeartbeats 4000000 in
theorem refGet_any (A : Option Addr) (n c : Nat) (rs : List RecT) (id : List UInt8) (W0 : World) (hs : SlOf recR W0 no A rs) (hn : n = rs.length) (hl : n ≤ 1000000000) (hid : id.length = 32) :
    Calls Try.prog 27 #[.slice A n c, idV id] W0 (GetSPost W0 (getS rs id)) := by
  have HS := Lib.hid hs
  have HN := Lib.hid hn.symm
  obtain ⟨KI, hKI⟩ : ∃ KI, KI = (bytesV id).toArray := ⟨_, rfl⟩
  have HKI := Lib.hid hKI
  have HII := Lib.hid (show (Try.prog.info? 33).map (·.size) = some KI.size by rw [hKI]; exact oid_size hid)
  rw [show idV id = .agg KI by rw [hKI]]
  have hb1 : Below W0.heap.size W0 (W0.alloc (.cells KI 33)) := (Below.refl _ _).alloc (Nat.le_refl _) _
  have HB1 := Lib.hid hb1
  have HK1 := Lib.hid (Blk.new W0 33 KI)
  obtain ⟨R, hR⟩ : ∃ R, R = getS rs id := ⟨_, rfl⟩
  have HR := Lib.hid hR
  rw [← hR]
  clear hs hn hKI hb1 hR
  go_enter Try.func27, Try.ntmps27
  go_wp2_with fail
  generalize W0.alloc (.cells KI 33) = w1 at *
  generalize hg : W0.heap.size = g at *
  have HG := Lib.hid hg
  clear hg
  go_loopw [6] (fun s6 wr => ∃ k : Nat, k ≤ n ∧ s6 = .int .i64 (k : Int) ∧ Hid (getS (rs.take k) id = none) ∧ Hid (Below g W0 wr) ∧ Hid (Blk wr g 33 KI)) (fun s6 wr => n - (intOf s6).toNat)
  case atStart => exact ⟨0, by omega, rfl, Lib.hid rfl, HB1, HK1⟩
  case round =>
    obtain ⟨k, hk, rfl, HNO, HBL, HK⟩ := hrel
    by_cases hlt : k < n
    · have hltI : (k : Int) < (n : Int) := by omega
      obtain ⟨b1, o1, r, rfl, hb1, hx, h32, hat, hst⟩ := recs_look (HS.out.below (by rw [HG.out]; exact HBL.out)) HN.out hlt
      have he := fun w => eqlId_of h32 hid w
      rw [← HKI.out] at he
      obtain ⟨KX, hKX⟩ : ∃ KX, KX = (bytesV r.1).toArray := ⟨_, rfl⟩
      have HI := Lib.hid (show (Try.prog.info? 33).map (·.size) = some KX.size by rw [hKX]; exact oid_size h32)
      rw [← hKX] at hat he
      have HAT := Lib.hid hat
      have hdr : Below wr.heap.size wr wr.drew := Same.below ⟨1, rfl⟩ _
      have HB2 := Lib.hid (HBL.out.trans (hdr.mono (by have := HBL.out.size; have := HK.out.lt; omega)))
      have HK2 := Lib.hid (HK.out.below hdr HK.out.lt)
      have hglt := HK.out.lt
      by_cases heq : r.1 = id
      · have hres : getS rs id = some r.2 := by
          unfold getS at *
          have h1 : rs = rs.take k ++ r :: rs.drop (k + 1) := by
            have := List.take_append_drop k rs
            obtain ⟨h2, h3⟩ := List.getElem?_eq_some_iff.1 hx
            rw [List.drop_eq_getElem_cons h2, h3] at this
            exact this.symm
          have h2 : (rs.take k).find? (fun r => r.1 == id) = none := by
            have := HNO.out
            cases hf : (rs.take k).find? (fun r => r.1 == id) with
            | none => rfl
            | some x => rw [hf] at this; cases this
          rw [h1, List.find?_append, h2, Option.none_or, List.find?_cons_of_pos (by simpa using heq)]; rfl
        have HRR := Lib.hid (HR.out.trans hres)
        rw [heq, beq_self_eq_true] at he
        have hst2 : wr.drew.cell? ⟨b1, o1 + k * 33 + 32, none⟩ = some (.string r.2) := hst
        clear hx h32 hat hKX hres
        go_upto_region 4 with fail
        refine wp_region_held (S := fun w => Below wr.heap.size wr w) (by kernel_rfl) ?_
        change wpAnyH _ _ _ _ _ _ _ _ (World.drew _)
        refine held_take (i := 0) (v := ?_) (a' := ?_) rfl (by kernel_rfl) (by kernel_rfl) (by kernel_rfl) (fun _ _ _ h => h) (by rfl) hdr ?_ ?_ ?_
        rotate_left 2
        · (intro w hS; go_simp; try with_reducible rfl)
        · (go_simp; try with_reducible rfl)
        refine held_take (i := 1) (v := ?_) (a' := ?_) rfl (by kernel_rfl) (by kernel_rfl) (by kernel_rfl) (fun _ _ _ h => h) (by rfl) hdr ?_ ?_ ?_
        rotate_left 2
        · (intro w hS; go_simp; try with_reducible rfl)
        · (go_simp; try with_reducible rfl)
        refine held_take (i := 2) (v := ?_) (a' := ?_) rfl (by kernel_rfl) (by kernel_rfl) (by kernel_rfl) (fun _ _ _ h => h) (by rfl) hdr ?_ ?_ ?_
        rotate_left 2
        · (intro w hS; go_simp; try with_reducible rfl)
        · (go_simp; try with_reducible rfl)
        refine held_take (i := 3) (v := ?_) (a' := ?_) rfl (by kernel_rfl) (by kernel_rfl) (by kernel_rfl) (fun _ _ _ h => h) (by rfl) hdr ?_ ?_ ?_
        rotate_left 2
        · (intro w hS; go_simp; try with_reducible rfl)
        · (go_simp; try with_reducible rfl)
        refine held_take (i := 4) (v := ?_) (a' := ?_) rfl (by kernel_rfl) (by kernel_rfl) (by kernel_rfl) (fun _ _ _ h => h) (by rfl) hdr ?_ ?_ ?_
        rotate_left 2
        · (intro w hS; refine exec_load_at 33 (.tmp 16) ?_ b1 (o1 + k * 33) ?_ KX _ (HAT.out.below hS hb1) Try.underlying33 rfl HI.out; exact rfl; exact rfl)
        · (go_simp; try with_reducible rfl)
        refine held_take (i := 5) (v := ?_) (a' := ?_) rfl (by kernel_rfl) (by kernel_rfl) (by kernel_rfl) (fun _ _ _ h => h) (by rfl) hdr ?_ ?_ ?_
        rotate_left 2
        · (intro w hS; refine exec_load_at 33 (.tmp 3) ?_ g 0 ?_ KI _ (At.of_row (HK.out.below hS hglt)) Try.underlying33 rfl HII.out; exact rfl; exact rfl)
        · (go_simp; try with_reducible rfl)
        refine held_take (i := 6) (v := ?_) (a' := ?_) rfl (by kernel_rfl) (by kernel_rfl) (by kernel_rfl) (fun _ _ _ h => h) (by rfl) hdr ?_ ?_ ?_
        rotate_left 2
        · (intro w hS; go_simp; try with_reducible rfl)
        · (go_simp; try with_reducible rfl)
        refine wpAnyH_done (by kernel_rfl) ?_ _
        go_wp2_with fail
        go_ret2
        rw [HRR.out]
        exact ⟨by rw [HG.out]; exact HB2.out, rfl⟩
      · have hno : getS (rs.take (k + 1)) id = none := by
          have := HNO.out
          unfold getS at *
          rw [List.take_add_one, hx, List.find?_append]
          cases hf : (rs.take k).find? (fun r => r.1 == id) with
          | none => simp [heq]
          | some x => rw [hf] at this; cases this
        have HNO2 := Lib.hid hno
        rw [beq_eq_false_iff_ne.2 heq] at he
        clear hx h32 hat hKX hno hst
        go_upto_region 4 with fail
        refine wp_region_held (S := fun w => Below wr.heap.size wr w) (by kernel_rfl) ?_
        change wpAnyH _ _ _ _ _ _ _ _ (World.drew _)
        refine held_take (i := 0) (v := ?_) (a' := ?_) rfl (by kernel_rfl) (by kernel_rfl) (by kernel_rfl) (fun _ _ _ h => h) (by rfl) hdr ?_ ?_ ?_
        rotate_left 2
        · (intro w hS; go_simp; try with_reducible rfl)
        · (go_simp; try with_reducible rfl)
        refine held_take (i := 1) (v := ?_) (a' := ?_) rfl (by kernel_rfl) (by kernel_rfl) (by kernel_rfl) (fun _ _ _ h => h) (by rfl) hdr ?_ ?_ ?_
        rotate_left 2
        · (intro w hS; go_simp; try with_reducible rfl)
        · (go_simp; try with_reducible rfl)
        refine held_take (i := 2) (v := ?_) (a' := ?_) rfl (by kernel_rfl) (by kernel_rfl) (by kernel_rfl) (fun _ _ _ h => h) (by rfl) hdr ?_ ?_ ?_
        rotate_left 2
        · (intro w hS; go_simp; try with_reducible rfl)
        · (go_simp; try with_reducible rfl)
        refine held_take (i := 3) (v := ?_) (a' := ?_) rfl (by kernel_rfl) (by kernel_rfl) (by kernel_rfl) (fun _ _ _ h => h) (by rfl) hdr ?_ ?_ ?_
        rotate_left 2
        · (intro w hS; go_simp; try with_reducible rfl)
        · (go_simp; try with_reducible rfl)
        refine held_take (i := 4) (v := ?_) (a' := ?_) rfl (by kernel_rfl) (by kernel_rfl) (by kernel_rfl) (fun _ _ _ h => h) (by rfl) hdr ?_ ?_ ?_
        rotate_left 2
        · (intro w hS; refine exec_load_at 33 (.tmp 16) ?_ b1 (o1 + k * 33) ?_ KX _ (HAT.out.below hS hb1) Try.underlying33 rfl HI.out; exact rfl; exact rfl)
        · (go_simp; try with_reducible rfl)
        refine held_take (i := 5) (v := ?_) (a' := ?_) rfl (by kernel_rfl) (by kernel_rfl) (by kernel_rfl) (fun _ _ _ h => h) (by rfl) hdr ?_ ?_ ?_
        rotate_left 2
        · (intro w hS; refine exec_load_at 33 (.tmp 3) ?_ g 0 ?_ KI _ (At.of_row (HK.out.below hS hglt)) Try.underlying33 rfl HII.out; exact rfl; exact rfl)
        · (go_simp; try with_reducible rfl)
        refine held_take (i := 6) (v := ?_) (a' := ?_) rfl (by kernel_rfl) (by kernel_rfl) (by kernel_rfl) (fun _ _ _ h => h) (by rfl) hdr ?_ ?_ ?_
        rotate_left 2
        · (intro w hS; go_simp; try with_reducible rfl)
        · (go_simp; try with_reducible rfl)
        refine wpAnyH_done (by kernel_rfl) ?_ _
        go_wp2_with fail
        go_roundw
        case rel => exact ⟨k + 1, by omega, by go_num, HNO2, HB2, HK2⟩
        case measure => simp [intOf]; omega
    · have hltI : ¬ (k : Int) < (n : Int) := by omega
      have HRR := Lib.hid (show R = none by
        have := HNO.out
        rw [List.take_of_length_le (by have := HN.out; omega)] at this
        rw [HR.out]; exact this)
      go_wp2_with fail
      go_ret2
      rw [HRR.out]
      exact ⟨by rw [HG.out]; exact HBL.out, rfl⟩
end Go.Proofs.Ytgmbkcjihgphmaa

/- shelf: records as a source. -/
set_option linter.unusedVariables false
set_option linter.unusedSimpArgs false
namespace Go.Proofs.Ytgmbkcjihgphmaa
open Go.RowKit
attribute [local go_sem ↓] cvs_eq

theorem bytes_each (w : World) (av : Av) : ∀ b : List UInt8, Each (byteR.R w av) (bytesV b) b
  | [] => .nil
  | x :: r => .cons (cs := [.int .u8 (x.toNat : Int)]) rfl (bytes_each w av r)
theorem slB_of {w : World} {A : Option Addr} {b : List UInt8} {n B : Nat} (h : Sl w 1 A n (bytesV b)) (hn : n = b.length) (hA : ∀ g off, A = some ⟨g, off, none⟩ → B ≤ g) : SlOf byteR w (fun g => g < B) A b :=
  ⟨bytesV b, by rw [← hn]; exact h, bytes_each w _ b, fun _ g off e => by have := hA g off e; omega⟩
theorem each_bytes {w : World} {av : Av} {cs : List Value} {b : List UInt8} (h : Each (byteR.R w av) cs b) : cs = bytesV b := by
  induction h with
  | nil => rfl
  | cons h1 _ ih => rw [ih, h1]; rfl
theorem slOf_bytes {w : World} {av : Av} {A : Option Addr} {b : List UInt8} (h : SlOf byteR w av A b) : Sl w 1 A b.length (bytesV b) := by
  obtain ⟨vs, h1, h2, _⟩ := h
  rw [each_bytes h2] at h1
  exact h1
/-- what a source answers -/
def SrcPost (w : World) (r : Option (List UInt8)) (e : Ending) (w' : World) : Prop :=
  Below w.heap.size w w' ∧ match r with
    | some b => ∃ A c, e = .returned (.tuple #[.slice A b.length c, .int .i64 0]) ∧ SlOf byteR w' (fun g => g < w.heap.size) A b ∧ b.length ≤ c ∧ c ≤ maxLen
    | none => ∃ A n c, e = .returned (.tuple #[.slice A n c, .int .i64 4])
def getB (rs : List RecT) (id : List UInt8) : Option (List UInt8) := (getS rs id).map fun s => s.data.toList

set_option maxRecDepth 100000 in
set_option maxHeartbeats 4000000 in
theorem shelfGet_any (A : Option Addr) (n c : Nat) (rs : List RecT) (id : List UInt8) (W0 : World) (hs : SlOf recR W0 no A rs) (hn : n = rs.length) (hl : n ≤ 1000000000) (hid : id.length = 32) (hsz : ∀ r ∈ rs, r.2.size ≤ maxLen) :
    Calls Try.prog 93 #[.agg #[.slice A n c], idV id] W0 (SrcPost W0 (getB rs id)) := by
  obtain ⟨KI, hKI⟩ : ∃ KI, KI = (bytesV id).toArray := ⟨_, rfl⟩
  have HII := Lib.hid (show (Try.prog.info? 33).map (·.size) = some KI.size by rw [hKI]; exact oid_size hid)
  obtain ⟨w1, hw1⟩ : ∃ w1, w1 = (W0.alloc (.cells #[.slice A n c] 42)).alloc (.cells KI 33) := ⟨_, rfl⟩
  have HB1 := Lib.hid (show Below W0.heap.size W0 w1 by rw [hw1]; exact ((Below.refl _ _).alloc (Nat.le_refl _) _).alloc (by simp) _)
  have HX := (Blk.new W0 42 #[.slice A n c]).alloc (.cells KI 33)
  rw [← hw1] at HX
  have HK := Lib.hid (show Blk w1 (W0.heap.size + 1) 33 KI by
    have := Blk.new (W0.alloc (.cells #[.slice A n c] 42)) 33 KI
    rw [hw1]; simpa using this)
  have c0 : w1.cell? ⟨W0.heap.size, 0, none⟩ = some (.slice A n c) := HX.cell 0
  have HG := Lib.hid (refGet_any A n c rs id w1 (hs.below HB1.out) hn hl hid)
  rw [show idV id = .agg KI by rw [hKI]] at HG ⊢
  have HSZ := Lib.hid (show ∀ s, getS rs id = some s → s.size ≤ maxLen from fun s h => by
    unfold getS at h
    cases hf : rs.find? (fun r => r.1 == id) with
    | none => rw [hf] at h; cases h
    | some r => rw [hf] at h; cases h; exact hsz r (List.mem_of_find?_eq_some hf))
  obtain ⟨R, hR⟩ : ∃ R, R = getS rs id := ⟨_, rfl⟩
  have HR := Lib.hid (show getB rs id = R.map fun s => s.data.toList by rw [hR]; rfl)
  rw [← hR] at HG HSZ
  rw [HR.out]
  have HW := Lib.hid hw1
  clear hs hn hid hsz hR hw1 HX hKI HR
  go_enter Try.func93, Try.ntmps93
  go_upto_region 1 with fail
  rw [← HW.out]
  clear HW
  generalize hg : W0.heap.size = g at *
  have HGG := Lib.hid hg
  clear hg
  go_wp2_with (first | (refine wpList_load_at rfl _ _ rfl (g + 1) 0 rfl KI _ (At.of_row HK.out) Try.underlying33 rfl HII.out ?_) | fail)
  refine HG.out.mono ?_
  rintro e w2 ⟨hb2, hm⟩
  have HB2 := Lib.hid (HB1.out.trans (hb2.mono (by have := HK.out.lt; omega)))
  clear hb2 HG
  cases R with
  | some s =>
    obtain rfl : e = _ := hm
    obtain ⟨A3, c3, w3, hrun, hsl, h1, h2, h3, g3, rfl, hg3⟩ := toBytes w2 s (HSZ.out s rfl)
    have hst : cvs w2 s = .ok (.slice (some ⟨g3, 0, none⟩) s.size c3) w3 := hrun
    clear hrun
    have HB3 := Lib.hid (HB2.out.trans (h3.mono (by have := HB2.out.size; have := HGG.out; omega)))
    have HS3 := Lib.hid (slB_of (B := g) hsl Array.length_toList.symm (fun x off e => by have e := Option.some.inj e; injection e with e; have := HB2.out.size; have := HGG.out; omega))
    clear h3 HSZ hsl hg3
    go_wp2_with fail
    go_ret2
    unfold SrcPost
    rw [HGG.out]
    have hlen : s.data.toList.length = s.size := Array.length_toList
    refine ⟨HB3.out, some ⟨g3, 0, none⟩, c3, by rw [hlen]; rfl, HS3.out, by show s.data.toList.length ≤ c3; omega, h2⟩
  | none =>
    obtain rfl : e = _ := hm
    obtain ⟨E0, hE0⟩ : ∃ E0 : ByteArray, E0 = ⟨#[]⟩ := ⟨_, rfl⟩
    rw [← hE0]
    obtain ⟨A3, c3, w3, hrun, hsl, h1, h2, h3, _⟩ := toBytes w2 E0 (by rw [hE0]; decide)
    have hst : cvs w2 E0 = .ok (.slice A3 E0.size c3) w3 := hrun
    clear hrun hE0
    have HB3 := Lib.hid (HB2.out.trans (h3.mono (by have := HB2.out.size; have := HGG.out; omega)))
    clear h3 HSZ hsl
    go_wp2_with fail
    go_ret2
    unfold SrcPost
    rw [HGG.out]
    exact ⟨HB3.out, _, _, _, rfl⟩
end Go.Proofs.Ytgmbkcjihgphmaa

/- Own rows of anything that a reading reads: begun, kept, one element put behind. -/
set_option linter.unusedVariables false
namespace Go.Proofs.Ytgmbkcjihgphmaa
open Go.RowKit

/-- a row of the call's own, whose elements read as l -/
structure RowR {α : Type} (r : Rd α) (e : TypeId) (w : World) (base : Nat) (A : Option Addr) (m c : Nat) (l : List α) : Prop where
  row : ∃ xs, w.ownsRow base e r.k (.slice A m c) m xs ∧ Each (r.R w (own (.slice A m c))) xs l
  len : m = l.length

section
variable {α : Type} {r : Rd α} {e : TypeId} {w w' : World} {base m c : Nat} {A : Option Addr} {l : List α}

theorem RowR.nil (r : Rd α) (e : TypeId) (w : World) (base : Nat) : RowR r e w base none 0 0 [] := ⟨⟨[], World.ownsRow_nil _ _ _ _, .nil⟩, rfl⟩
theorem RowR.below (h : RowR r e w base A m c l) (hb : Below w.heap.size w w') : RowR r e w' base A m c l := by
  obtain ⟨xs, h1, h2⟩ := h.row
  exact ⟨⟨xs, own_below h1 hb, h2.mono fun _ _ k => r.stable k (Moves.of_below hb)⟩, h.len⟩
theorem RowR.cap (h : RowR r e w base A m c l) : m ≤ c ∧ c ≤ maxLen := by
  obtain ⟨xs, h1, h2⟩ := h.row
  exact own_cap h1
theorem RowR.lt (h : RowR r e w base A m c l) {b : Nat} (hb : own (.slice A m c) b) : base ≤ b ∧ b < w.heap.size := by
  obtain ⟨xs, h1, h2⟩ := h.row
  exact h1.lt b hb
theorem RowR.at (h : RowR r e w base A m c l) (hm : 0 < m) : ∃ g, A = some ⟨g, 0, none⟩ ∧ base ≤ g ∧ g < w.heap.size := by
  obtain ⟨xs, h1, h2⟩ := h.row
  exact own_at h1 hm
/-- what is written in blocks that the row's parts keep away from -/
theorem RowR.grown {row : Option Nat} (h : RowR r e w base A m c l) (hg : w.grownBy w' row) (hr : ∀ k, row = some k → own (.slice A m c) k → False) (he : ∀ x ∈ l, ∀ cs, r.R w (own (.slice A m c)) cs x → r.R w' (own (.slice A m c)) cs x) : RowR r e w' base A m c l := by
  obtain ⟨xs, h1, h2⟩ := h.row
  refine ⟨⟨xs, h1.kept hg ?_, ?_⟩, h.len⟩
  · cases hv : (Value.slice A m c).ownBlock with
    | none => exact .inl rfl
    | some k => right; intro e; exact hr k e.symm hv
  · clear h h1
    induction h2 with
    | nil => exact .nil
    | cons k1 k2 ih => exact .cons (he _ (by simp) _ k1) (ih fun x hx => he x (by simp [hx]))
/-- the row as a slice that reads as l, in new memory -/
theorem RowR.sl (h : RowR r e w base A m c l) : SlOf r w no A l := by
  obtain ⟨xs, h1, h2⟩ := h.row
  refine ⟨xs, by rw [← h.len]; exact Sl.ofOwn h1, h2.mono fun _ _ k => r.stable k (Moves.forget w _), fun _ _ _ _ q => q⟩
/-- the same, away from what was there ahead of base, where the parts are so too -/
theorem SlOf.away {av : Av} (h : SlOf r w av A l) (B : Nat) (hn : 0 < l.length → ∀ b off, A = some ⟨b, off, none⟩ → B ≤ b) (he : ∀ x cs, r.R w av cs x → r.R w (fun b => b < B) cs x) : SlOf r w (fun b => b < B) A l := by
  obtain ⟨vs, h1, h2, h3⟩ := h
  exact ⟨vs, h1, h2.mono fun _ _ k => he _ _ k, fun h0 b off e => by have := hn h0 b off e; omega⟩

/-- one more element, out of the one-element slice that '.., x)' makes -/
theorem RowR.push {P : Program} {t : TypeId} {z : Value} {byt : Nat} (E : ElemOf P t e z r.k byt) (h : RowR r e w base A m c l) (hb : base ≤ w.heap.size) {av : Av} {cs : List Value} {x : α} (hx : r.R w av cs x)
    (hav : ∀ b, b < w.heap.size → own (.slice A m c) b → av b) (hbytes : (m + 1) * byt ≤ 140737488355328) (hm : m + 1 ≤ maxLen) (ty : TypeId) (c0 : Nat) :
    ∃ A' c' w', (Builtin.append_ #[t, t] ty #[.slice A m c, .slice (some ⟨w.heap.size, 0, none⟩) 1 c0]).run P (w.alloc (.cells cs.toArray e)) = .ok (.slice A' (m + 1) c') w' ∧ RowR r e w' base A' (m + 1) c' (l ++ [x]) ∧
      Below base w w' ∧ w.grownBy w' (Value.slice A m c).ownBlock ∧ Moves w w' (own (.slice A m c)) (own (.slice A' (m + 1) c')) ∧ m + 1 ≤ c' ∧ c' ≤ maxLen := by
  obtain ⟨xs, h1, h2⟩ := h.row
  have hba : Below w.heap.size w (w.alloc (.cells cs.toArray e)) := (Below.refl _ _).alloc (Nat.le_refl _) _
  obtain ⟨A', c', w', run, ap, hc, hcm⟩ := append_sl E (own_below h1 hba) (Sl.fresh w cs.toArray e (0, 0) 1 r.k (by simpa using r.len hx)) (fun u hu => r.one hx u (by simpa using hu)) hbytes hm (by simp; omega) ty c0
  have m1 : Moves w (w.alloc (.cells cs.toArray e)) (own (.slice A m c)) (own (.slice A m c)) := Moves.of_below hba
  have m2 : Moves (w.alloc (.cells cs.toArray e)) w' (own (.slice A m c)) (own (.slice A' (m + 1) c')) := Moves.of_app ap
  have hxx : r.R w' (own (.slice A' (m + 1) c')) cs x := r.stable hx (((Moves.less w (av' := own (.slice A m c)) hav).trans m1).trans m2)
  refine ⟨A', c', w', run, ⟨⟨xs ++ cs, ?_, (h2.mono fun _ _ k => r.stable k (m1.trans m2)).snoc hxx⟩, by simp [h.len]⟩, (hba.mono hb).trans (ap.below), ?_, m1.trans m2, hc, hcm⟩
  · have := ap.own
    simpa using this
  · have g1 : w.grownBy (w.alloc (.cells cs.toArray e)) (Value.slice A m c).ownBlock := ⟨hba.os, hba.tape, hba.output, hba.size, fun k hk _ => hba.block k hk⟩
    exact g1.trans ap.grown
end
end Go.Proofs.Ytgmbkcjihgphmaa

/- Own rows whose elements stay away from what was there ahead of base. -/
set_option linter.unusedVariables false
namespace Go.Proofs.Ytgmbkcjihgphmaa
open Go.RowKit

def avB (base : Nat) (v : Value) : Av := fun b => b < base ∨ own v b
structure RowB {α : Type} (r : Rd α) (e : TypeId) (w : World) (base : Nat) (A : Option Addr) (m c : Nat) (l : List α) : Prop where
  row : ∃ xs, w.ownsRow base e r.k (.slice A m c) m xs ∧ Each (r.R w (avB base (.slice A m c))) xs l
  len : m = l.length

section
variable {α : Type} {r : Rd α} {e : TypeId} {w w' : World} {base m c : Nat} {A : Option Addr} {l : List α}
theorem RowB.nil (r : Rd α) (e : TypeId) (w : World) (base : Nat) : RowB r e w base none 0 0 [] := ⟨⟨[], World.ownsRow_nil _ _ _ _, .nil⟩, rfl⟩
theorem RowB.below (h : RowB r e w base A m c l) (hb : Below w.heap.size w w') : RowB r e w' base A m c l := by
  obtain ⟨xs, h1, h2⟩ := h.row
  exact ⟨⟨xs, own_below h1 hb, h2.mono fun _ _ k => r.stable k (Moves.of_below hb)⟩, h.len⟩
theorem RowB.lt (h : RowB r e w base A m c l) {b : Nat} (hb : own (.slice A m c) b) : base ≤ b ∧ b < w.heap.size := by
  obtain ⟨xs, h1, h2⟩ := h.row
  exact h1.lt b hb
theorem RowB.cap (h : RowB r e w base A m c l) : m ≤ c ∧ c ≤ maxLen := by
  obtain ⟨xs, h1, h2⟩ := h.row
  exact own_cap h1
theorem RowB.sl (h : RowB r e w base A m c l) : SlOf r w (fun b => b < base) A l := by
  obtain ⟨xs, h1, h2⟩ := h.row
  refine ⟨xs, by rw [← h.len]; exact Sl.ofOwn h1, h2.mono fun _ _ k => r.stable k (Moves.less w (fun b _ h => .inl h)), fun h0 b off e => ?_⟩
  subst e
  have := (h1.lt b rfl).1
  show ¬ b < base
  omega
theorem RowB.push {P : Program} {t : TypeId} {z : Value} {byt : Nat} (E : ElemOf P t e z r.k byt) (h : RowB r e w base A m c l) (hb : base ≤ w.heap.size) {av : Av} {cs : List Value} {x : α} (hx : r.R w av cs x)
    (hav : ∀ b, b < w.heap.size → avB base (.slice A m c) b → av b) (hbytes : (m + 1) * byt ≤ 140737488355328) (hm : m + 1 ≤ maxLen) (ty : TypeId) (c0 : Nat) :
    ∃ A' c' w', (Builtin.append_ #[t, t] ty #[.slice A m c, .slice (some ⟨w.heap.size, 0, none⟩) 1 c0]).run P (w.alloc (.cells cs.toArray e)) = .ok (.slice A' (m + 1) c') w' ∧ RowB r e w' base A' (m + 1) c' (l ++ [x]) ∧
      Below base w w' ∧ w.grownBy w' (Value.slice A m c).ownBlock ∧ m + 1 ≤ c' ∧ c' ≤ maxLen := by
  obtain ⟨xs, h1, h2⟩ := h.row
  have hba : Below w.heap.size w (w.alloc (.cells cs.toArray e)) := (Below.refl _ _).alloc (Nat.le_refl _) _
  obtain ⟨A', c', w', run, ap, hc, hcm⟩ := append_sl E (own_below h1 hba) (Sl.fresh w cs.toArray e (0, 0) 1 r.k (by simpa using r.len hx)) (fun u hu => r.one hx u (by simpa using hu)) hbytes hm (by simp; omega) ty c0
  have m1 : Moves w (w.alloc (.cells cs.toArray e)) (avB base (.slice A m c)) (avB base (.slice A m c)) := Moves.of_below hba
  have k2 : Moves (w.alloc (.cells cs.toArray e)) w' (own (.slice A m c)) (own (.slice A' (m + 1) c')) := Moves.of_app ap
  have m2 : Moves (w.alloc (.cells cs.toArray e)) w' (avB base (.slice A m c)) (avB base (.slice A' (m + 1) c')) :=
    ⟨k2.size, fun b hb hn => k2.block b hb (fun h => hn (.inr h)), fun b hb hn h' => h'.elim (fun h => hn (.inl h)) (fun h => k2.ne b hb (fun q => hn (.inr q)) h)⟩
  have hxx : r.R w' (avB base (.slice A' (m + 1) c')) cs x := r.stable hx (((Moves.less w (av' := avB base (.slice A m c)) hav).trans m1).trans m2)
  refine ⟨A', c', w', run, ⟨⟨xs ++ cs, ?_, (h2.mono fun _ _ k => r.stable k (m1.trans m2)).snoc hxx⟩, by simp [h.len]⟩, (hba.mono hb).trans (ap.below), ?_, hc, hcm⟩
  · have := ap.own
    simpa using this
  · have g1 : w.grownBy (w.alloc (.cells cs.toArray e)) (Value.slice A m c).ownBlock := ⟨hba.os, hba.tape, hba.output, hba.size, fun k hk _ => hba.block k hk⟩
    exact g1.trans ap.grown
end
end Go.Proofs.Ytgmbkcjihgphmaa

/- Own rows whose elements stay away from some blocks x beside the row's own. -/
set_option linter.unusedVariables false
namespace Go.Proofs.Ytgmbkcjihgphmaa
open Go.RowKit

def avX (x : Av) (v : Value) : Av := fun b => x b ∨ own v b
structure RowX {α : Type} (r : Rd α) (e : TypeId) (w : World) (base : Nat) (x : Av) (A : Option Addr) (m c : Nat) (l : List α) : Prop where
  row : ∃ xs, w.ownsRow base e r.k (.slice A m c) m xs ∧ Each (r.R w (avX x (.slice A m c))) xs l
  len : m = l.length

/-- what was read ahead of a block's making stays away from it -/
theorem rd_new {α : Type} {r : Rd α} {w : World} {av : Av} {cs : List Value} {y : α} (h : r.R w av cs y) (o : Obj) : r.R (w.alloc o) (fun b => av b ∨ b = w.heap.size) cs y := by
  have hb : Below w.heap.size w (w.alloc o) := (Below.refl _ _).alloc (Nat.le_refl _) _
  refine r.stable h ⟨hb.size, fun b hb' _ => hb.block b hb', fun b hb' hn h' => ?_⟩
  rcases h' with h' | h'
  · exact hn h'
  · omega
section
variable {α : Type} {r : Rd α} {e : TypeId} {w w' : World} {base m c : Nat} {x : Av} {A : Option Addr} {l : List α}
theorem RowX.nil (r : Rd α) (e : TypeId) (w : World) (base : Nat) (x : Av) : RowX r e w base x none 0 0 [] := ⟨⟨[], World.ownsRow_nil _ _ _ _, .nil⟩, rfl⟩
theorem RowX.below (h : RowX r e w base x A m c l) (hb : Below w.heap.size w w') : RowX r e w' base x A m c l := by
  obtain ⟨xs, h1, h2⟩ := h.row
  exact ⟨⟨xs, own_below h1 hb, h2.mono fun _ _ k => r.stable k (Moves.of_below hb)⟩, h.len⟩
theorem RowX.lt (h : RowX r e w base x A m c l) {b : Nat} (hb : own (.slice A m c) b) : base ≤ b ∧ b < w.heap.size := by
  obtain ⟨xs, h1, h2⟩ := h.row
  exact h1.lt b hb
theorem RowX.cap (h : RowX r e w base x A m c l) : m ≤ c ∧ c ≤ maxLen := by
  obtain ⟨xs, h1, h2⟩ := h.row
  exact own_cap h1
theorem RowX.sl (h : RowX r e w base x A m c l) (hn : ∀ b, own (.slice A m c) b → ¬ x b) : SlOf r w x A l := by
  obtain ⟨xs, h1, h2⟩ := h.row
  refine ⟨xs, by rw [← h.len]; exact Sl.ofOwn h1, h2.mono fun _ _ k => r.stable k (Moves.less w (fun b _ h => .inl h)), fun h0 b off e => ?_⟩
  subst e
  obtain ⟨g, hg, _⟩ := own_at h1 (by rw [h.len]; exact h0)
  have hg := Option.some.inj hg
  injection hg with e1 e2
  subst e1 e2
  exact hn b rfl
theorem RowX.set (h : RowX r e w base x A m c l) {b0 : Nat} (hb : x b0) (hn : ¬ own (.slice A m c) b0) (i : Nat) (u : Value) : RowX r e (w.setCell ⟨b0, i, none⟩ u) base x A m c l := by
  obtain ⟨xs, h1, h2⟩ := h.row
  refine ⟨⟨xs, h1.kept (grown_set w b0 i u) ?_, h2.mono fun _ _ k => r.stable k ⟨(grown_set w b0 i u).size, fun b hb' hne => (grown_set w b0 i u).block b hb' (fun e => hne (.inl (by rw [Option.some.inj e]; exact hb))), fun _ _ h => h⟩⟩, h.len⟩
  cases hv : (Value.slice A m c).ownBlock with
  | none => exact .inl rfl
  | some k => right; intro e; exact hn (by have := Option.some.inj e; subst this; exact hv)
theorem RowX.push {P : Program} {t : TypeId} {z : Value} {byt : Nat} (E : ElemOf P t e z r.k byt) (h : RowX r e w base x A m c l) (hb : base ≤ w.heap.size) {av : Av} {cs : List Value} {y : α} (hx : r.R w av cs y)
    (hav : ∀ b, b < w.heap.size → avX x (.slice A m c) b → av b) (hbytes : (m + 1) * byt ≤ 140737488355328) (hm : m + 1 ≤ maxLen) (ty : TypeId) (c0 : Nat) :
    ∃ A' c' w', (Builtin.append_ #[t, t] ty #[.slice A m c, .slice (some ⟨w.heap.size, 0, none⟩) 1 c0]).run P (w.alloc (.cells cs.toArray e)) = .ok (.slice A' (m + 1) c') w' ∧ RowX r e w' base x A' (m + 1) c' (l ++ [y]) ∧
      Below base w w' ∧ w.grownBy w' (Value.slice A m c).ownBlock ∧ m + 1 ≤ c' ∧ c' ≤ maxLen ∧ (∀ b, b < w.heap.size → own (.slice A' (m + 1) c') b → own (.slice A m c) b) := by
  obtain ⟨xs, h1, h2⟩ := h.row
  have hba : Below w.heap.size w (w.alloc (.cells cs.toArray e)) := (Below.refl _ _).alloc (Nat.le_refl _) _
  obtain ⟨A', c', w', run, ap, hc, hcm⟩ := append_sl E (own_below h1 hba) (Sl.fresh w cs.toArray e (0, 0) 1 r.k (by simpa using r.len hx)) (fun u hu => r.one hx u (by simpa using hu)) hbytes hm (by simp; omega) ty c0
  have m1 : Moves w (w.alloc (.cells cs.toArray e)) (avX x (.slice A m c)) (avX x (.slice A m c)) := Moves.of_below hba
  have k2 : Moves (w.alloc (.cells cs.toArray e)) w' (own (.slice A m c)) (own (.slice A' (m + 1) c')) := Moves.of_app ap
  have m2 : Moves (w.alloc (.cells cs.toArray e)) w' (avX x (.slice A m c)) (avX x (.slice A' (m + 1) c')) :=
    ⟨k2.size, fun b hb hn => k2.block b hb (fun h => hn (.inr h)), fun b hb hn h' => h'.elim (fun h => hn (.inl h)) (fun h => k2.ne b hb (fun q => hn (.inr q)) h)⟩
  have hxx : r.R w' (avX x (.slice A' (m + 1) c')) cs y := r.stable hx (((Moves.less w (av' := avX x (.slice A m c)) hav).trans m1).trans m2)
  refine ⟨A', c', w', run, ⟨⟨xs ++ cs, ?_, (h2.mono fun _ _ k => r.stable k (m1.trans m2)).snoc hxx⟩, by simp [h.len]⟩, (hba.mono hb).trans (ap.below), ?_, hc, hcm, fun b hb ho => ?_⟩
  · have := ap.own
    simpa using this
  · have g1 : w.grownBy (w.alloc (.cells cs.toArray e)) (Value.slice A m c).ownBlock := ⟨hba.os, hba.tape, hba.output, hba.size, fun k hk _ => hba.block k hk⟩
    exact g1.trans ap.grown
  · rcases Classical.em (own (.slice A m c) b) with h | h
    · exact h
    · exact absurd ho (k2.ne b (Nat.lt_of_lt_of_le hb hba.size) h)
end
/-- a row out of a block -/
theorem RowX.of_blk {α : Type} {r : Rd α} {e : TypeId} {w : World} {base g n : Nat} {x : Av} {K : Array Value} {l : List α} (h : Blk w g e K) (hb : base ≤ g) (hn : l.length = n) (hm : n ≤ maxLen) (hk : 0 < n) (he : Each (r.R w (fun b => x b ∨ b = g)) K.toList l) : RowX r e w base x (some ⟨g, 0, none⟩) n n l := by
  have hl : K.toList.length = n * r.k := by rw [← hn]; exact he.length fun _ _ => r.len
  refine ⟨⟨K.toList, ⟨hl, .inr ⟨g, n, K, rfl, hb, h, Nat.le_refl _, hm, by simpa using hl, by rw [List.take_of_length_le (by omega)]⟩⟩, he.mono fun _ _ k => r.stable k (Moves.less w (fun b _ h => ?_))⟩, hn.symm⟩
  rcases h with h | h
  · exact .inl h
  · right
    have h : some g = some b := h
    exact (Option.some.inj h).symm
end Go.Proofs.Ytgmbkcjihgphmaa
