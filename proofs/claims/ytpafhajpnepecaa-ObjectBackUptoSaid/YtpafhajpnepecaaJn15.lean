/- Contracts and laws for what the statement reaches, joined: ObjLinksLaw, ObjBackLaw. -/
import Derived.Test.YtpafhajpnepecaaJn11
import Derived.Test.YtpafhajpnepecaaJn14
/- object.Links: what it needs beside the readers. -/
set_option linter.unusedVariables false
namespace Go.Proofs.Ytpafhajpnepecaa
open Go.RowKit

theorem bindR_ok {α β : Type} {r : Res α} {f : α → Res β} {y : β} (h : bindR r f = .ok y) : ∃ x, r = .ok x ∧ f x = .ok y := by
  cases r with
  | error z => cases h
  | ok x => exact ⟨x, rfl, h⟩
theorem bindR_err {α β : Type} {r : Res α} {f : α → Res β} (hr : ∀ z, r = .error z → z ≠ 0) (hf : ∀ x z, f x = .error z → z ≠ 0) {z : Int} (h : bindR r f = .error z) : z ≠ 0 := by
  cases r with
  | error y =>
    injection h with h
    subst h
    exact hr y rfl
  | ok x => exact hf x z h
theorem eachG_len {α : Type} {f : Val → Res α} : ∀ {l : List Val} {xs : List α}, eachG f l = .ok xs → xs.length = l.length
  | [], xs, h => by injection h with h; subst h; rfl
  | v :: r, xs, h => by
    unfold eachG at h
    obtain ⟨x, _, h⟩ := bindR_ok h
    obtain ⟨ys, hy, h⟩ := bindR_ok h
    injection h with h
    subst h
    simp [eachG_len hy]
theorem idsG_len {v : Val} {m : Nat} {is : List (List UInt8)} (h : idsG v m = .ok is) : is.length ≤ m := by
  obtain ⟨us, h1, h2⟩ := bindR_ok h
  rw [eachG_len h2]; exact listG_len h1
theorem idsG_err {v : Val} {m : Nat} {z : Int} (h : idsG v m = .error z) : z ≠ 0 := bindR_err (fun _ => listG_err) (fun _ _ => eachG_err fun _ _ => idG_err) h
theorem getCommit_len {l : List UInt8} {x : ComT} (h : getCommit l = .ok x) : x.2.1.length ≤ 8 := by
  obtain ⟨vs, _, h⟩ := bindR_ok h
  obtain ⟨t, _, h⟩ := bindR_ok h
  obtain ⟨ps, hp, h⟩ := bindR_ok h
  unfold comEnd at h
  split at h
  · cases h
  · split at h
    · cases h
    · obtain ⟨a, _, h⟩ := bindR_ok h
      obtain ⟨n, _, h⟩ := bindR_ok h
      injection h with h
      subst h
      exact idsG_len hp
theorem getCommit_err {l : List UInt8} {z : Int} (h : getCommit l = .error z) : z ≠ 0 := by
  refine bindR_err (fun _ => openG_err) (fun vs z h => bindR_err (fun _ => idG_err) (fun t z h => bindR_err (fun _ => idsG_err) (fun ps z h => ?_) h) h) h
  unfold comEnd at h
  split at h
  · injection h with h; omega
  · split at h
    · injection h with h; omega
    · exact bindR_err (fun _ => textG_err) (fun a z h => bindR_err (fun _ => textG_err) (fun n z h => by cases h) h) h
theorem getTree_len {l : List UInt8} {x : List EntT} (h : getTree l = .ok x) : x.length ≤ 1024 := by
  obtain ⟨vs, _, h⟩ := bindR_ok h
  obtain ⟨us, hu, h⟩ := bindR_ok h
  obtain ⟨es, he, h⟩ := bindR_ok h
  unfold treeEnd at h
  split at h
  · cases h
  · injection h with h
    subst h
    rw [eachG_len he]; exact listG_len hu

theorem entG_err (v : Val) (z : Int) (h : entG v = .error z) : z ≠ 0 := by
  refine bindR_err (fun _ => listG_err) (fun row z h => ?_) h
  unfold entRow at h
  split at h
  · injection h with h; omega
  · exact bindR_err (fun _ => textG_err) (fun s z h => bindR_err (fun _ => idG_err) (fun i z h => entEnd_err h) h) h
theorem getTree_err {l : List UInt8} {z : Int} (h : getTree l = .error z) : z ≠ 0 := by
  refine bindR_err (fun _ => openG_err) (fun vs z h => bindR_err (fun _ => listG_err) (fun us z h => bindR_err (fun _ => eachG_err entG_err) (fun es z h => ?_) h) h) h
  unfold treeEnd at h
  split at h
  · rename_i hz
    injection h with h
    subst h
    exact hz
  · cases h

theorem row_one {w : World} {t : List UInt8} {base : Nat} (ht : t.length = 32) (hb : base ≤ w.heap.size) : (w.alloc (.cells (bytesV t).toArray 27)).ownsRow base 27 32 (.slice (some ⟨w.heap.size, 0, none⟩) 1 1) 1 (bytesV t) := by
  have h32 : (bytesV t).length = 32 := by rw [bytesV_length, ht]
  refine ⟨by rw [h32], .inr ⟨_, 1, (bytesV t).toArray, rfl, hb, heap_alloc_new w _, Nat.le_refl _, by simp [maxLen], by simp [h32], ?_⟩⟩
  rw [List.take_of_length_le (by simp [h32])]
/-- the commit's own tree ahead of its parents -/
theorem com_links {w : World} {base : Nat} {t : List UInt8} {A : Option Addr} {m : Nat} {ps : List (List UInt8)} (ht : t.length = 32) (hb : base ≤ w.heap.size) (h : SlOf oidR w no A ps) (hm : m = ps.length) (h8 : m ≤ 8) (c0 : Nat) :
    ∃ A' c' w', (Builtin.append_ #[22, 22] 22 #[.slice (some ⟨w.heap.size, 0, none⟩) 1 1, .slice A m c0]).run Try.prog (w.alloc (.cells (bytesV t).toArray 27)) = .ok (.slice A' (1 + m) c') w' ∧
      SlOf oidR w' (fun b => b < base) A' (t :: ps) ∧ Below base w w' ∧ 1 + m ≤ c' ∧ c' ≤ maxLen := by
  have hba : Below w.heap.size w (w.alloc (.cells (bytesV t).toArray 27)) := (Below.refl _ _).alloc (Nat.le_refl _) _
  obtain ⟨vs, hs, he, _⟩ := h.below hba
  rw [← hm] at hs
  have h1 : ∀ u ∈ vs, u.oneCell' = true := fun u hu => he.all (p := fun u => u.oneCell' = true) (fun _ _ h => oidR.one h) u hu
  obtain ⟨A', c', w', run, ap, hc, hcm⟩ := append_sl (P := Try.prog) elemId (row_one ht hb) hs h1 (by omega) (by simp only [maxLen]; omega) (by simp; omega) 22 c0
  refine ⟨A', c', w', run, ?_, (hba.mono hb).trans ap.below, hc, hcm⟩
  have hr : RowR oidR 27 w' base A' (1 + m) c' (t :: ps) := ⟨⟨bytesV t ++ vs, ap.own, .cons (oid_of w' _ ht) (he.mono fun _ _ k => k)⟩, by simp [hm]; omega⟩
  refine hr.sl.away base (fun h0 b off e => ?_) (fun _ _ k => k)
  obtain ⟨g', hg, hbb, _⟩ := hr.at (by omega)
  rw [hg] at e
  have e := Option.some.inj e
  injection e with e
  omega

def LinksPost (w : World) (r : Res (List (List UInt8))) (e : Ending) (w' : World) : Prop :=
  Below w.heap.size w w' ∧ match r with
    | .ok x => ∃ A c, e = .returned (.tuple #[.slice A x.length c, .int .i64 0]) ∧ SlOf oidR w' (fun b => b < w.heap.size) A x ∧ x.length ≤ c ∧ c ≤ maxLen
    | .error z => e = .returned (.tuple #[.slice none 0 0, .int .i64 z])
end Go.Proofs.Ytpafhajpnepecaa

/- object, plain: what is written is read again, and the other way round. -/
set_option linter.unusedVariables false
namespace Go.Proofs.Ytpafhajpnepecaa
open Go.RowKit

/-! ### one form -/
theorem norm_num (d n : Nat) : norm (d + 1) (numV n) = numV n := by simp [norm, numV, Val.kind, Val.num]
theorem norm_txt (d : Nat) (b : List UInt8) : norm (d + 1) (txtV b) = txtV b := by simp [norm, txtV, Val.kind, Val.bytes]
theorem norm_fltv (d f : Nat) : norm (d + 1) (fltV f) = fltV (canonB f) := by simp [norm, fltV, Val.kind, Val.flt]
theorem norm_lst (d : Nat) (l : List Val) : norm (d + 1) (lstV l) = lstV (l.map (norm d)) := by simp [norm, lstV, Val.kind, Val.list]
theorem norm_txts (d : Nat) (is : List (List UInt8)) : norm (d + 2) (lstV (is.map txtV)) = lstV (is.map txtV) := by
  rw [norm_lst, List.map_map]
  exact congrArg lstV (List.map_congr_left fun b _ => norm_txt d b)
theorem fits_num {d n : Nat} (h : n < 2 ^ 64) : Fits d (numV n) := by
  cases d with
  | zero => trivial
  | succ d => exact ⟨by first | exact h | exact (by decide : (0:Nat) < 2 ^ 64), by first | exact h | exact (by decide : (0:Nat) < 2 ^ 64), by first | exact h | exact (by decide : (0:Nat) < 2 ^ 64), by exact (by decide : (0:Nat) < 2 ^ 64), fun x hx => by cases hx⟩
theorem fits_txt {d : Nat} {b : List UInt8} (h : b.length < 2 ^ 64) : Fits d (txtV b) := by
  cases d with
  | zero => trivial
  | succ d => exact ⟨by first | exact h | exact (by decide : (0:Nat) < 2 ^ 64), by first | exact h | exact (by decide : (0:Nat) < 2 ^ 64), by first | exact h | exact (by decide : (0:Nat) < 2 ^ 64), by exact (by decide : (0:Nat) < 2 ^ 64), fun x hx => by cases hx⟩
theorem fits_flt {d f : Nat} (h : f < 2 ^ 64) : Fits d (fltV f) := by
  cases d with
  | zero => trivial
  | succ d => exact ⟨by first | exact h | exact (by decide : (0:Nat) < 2 ^ 64), by first | exact h | exact (by decide : (0:Nat) < 2 ^ 64), by first | exact h | exact (by decide : (0:Nat) < 2 ^ 64), by exact (by decide : (0:Nat) < 2 ^ 64), fun x hx => by cases hx⟩
theorem fits_lst {d : Nat} {l : List Val} (h : l.length < 2 ^ 64) (hf : ∀ x ∈ l, Fits d x) : Fits (d + 1) (lstV l) := ⟨(by decide : (0:Nat) < 2 ^ 64), (by decide : (0:Nat) < 2 ^ 64), (by decide : (0:Nat) < 2 ^ 64), h, hf⟩
theorem is_num {d : Nat} {v : Val} (h : norm (d + 1) v = v) (hk : v.kind = 0) : v = numV v.num := by
  obtain ⟨k, u, b, f, l⟩ := v
  have hk : k = 0 := hk
  subst hk
  simp [norm, Val.kind, Val.num] at h
  obtain ⟨rfl, rfl, rfl⟩ := h
  rfl
theorem is_txt {d : Nat} {v : Val} (h : norm (d + 1) v = v) (hk : v.kind = 1) : v = txtV v.bytes := by
  obtain ⟨k, u, b, f, l⟩ := v
  have hk : k = 1 := hk
  subst hk
  simp [norm, Val.kind, Val.bytes] at h
  obtain ⟨rfl, rfl, rfl⟩ := h
  rfl
theorem is_flt {d : Nat} {v : Val} (h : norm (d + 1) v = v) (hk : v.kind = 2) : v = fltV (canonB v.flt) ∧ canonB v.flt = v.flt := by
  obtain ⟨k, u, b, f, l⟩ := v
  have hk : k = 2 := hk
  subst hk
  simp [norm, Val.kind, Val.flt] at h
  obtain ⟨rfl, rfl, h, rfl⟩ := h
  exact ⟨by show Val.mk 2 0 [] f [] = Val.mk 2 0 [] (canonB f) []; rw [h], h⟩
theorem map_self {f : Val → Val} {l : List Val} (h : l.map f = l) : ∀ x ∈ l, f x = x := by
  intro v hv
  obtain ⟨i, hi⟩ := List.mem_iff_getElem?.1 hv
  have h2 : (l.map f)[i]? = some (f v) := by rw [List.getElem?_map, hi]; rfl
  rw [h, hi] at h2
  exact (Option.some.inj h2).symm
theorem is_lst {d : Nat} {v : Val} (h : norm (d + 1) v = v) (hk : v.kind = 3) : v = lstV v.list ∧ ∀ x ∈ v.list, norm d x = x := by
  obtain ⟨k, u, b, f, l⟩ := v
  have hk : k = 3 := hk
  subst hk
  simp [norm, Val.kind, Val.list] at h
  obtain ⟨rfl, rfl, rfl, h⟩ := h
  exact ⟨rfl, map_self h⟩

/-! ### a record opened -/
theorem open_seal {kind : Nat} {vs : List Val} {o : List UInt8} (hk : kind < 2 ^ 64) (hl : vs.length < 1000) (hf : ∀ x ∈ vs, Fits 15 x) (h : sealG kind vs = .ok o) : dec o = .ok (lstV (numV kind :: vs.map (norm 15))) := by
  have hfit : Fits 16 (lstV (numV kind :: vs)) := fits_lst (by simp; omega) (fun x hx => by
    rcases List.mem_cons.1 hx with rfl | hx
    · exact fits_num hk
    · exact hf x hx)
  have := dec_enc hfit h
  rw [this, norm_lst, List.map_cons, norm_num]
theorem openG_of {kind count : Nat} {vs : List Val} {o : List UInt8} (hd : dec o = .ok (lstV (numV kind :: vs))) (hc : vs.length = count) : openG o kind count = .ok vs := by
  unfold openG
  rw [hd]
  show openV (lstV (numV kind :: vs)) kind count = .ok vs
  unfold openV
  rw [if_neg (by rintro (h | h); exact h rfl; exact h (by show (numV kind :: vs).length = count + 1; simp [hc]))]
  show (if (numV kind).kind ≠ 0 then Except.error 91 else if (numV kind).num ≠ kind then Except.error 90 else Except.ok vs) = Except.ok vs
  rw [if_neg (by simp [numV, Val.kind]), if_neg (by simp [numV, Val.num])]
theorem kindG_of {kind : Nat} {vs : List Val} {o : List UInt8} (hd : dec o = .ok (lstV (numV kind :: vs))) (h1 : 1 ≤ kind) (h4 : kind ≤ 4) : kindG o = .ok kind := by
  unfold kindG
  rw [hd]
  show kindV (lstV (numV kind :: vs)) = .ok kind
  unfold kindV
  rw [if_neg (by simp [lstV, Val.kind])]
  show (if (numV kind).kind ≠ 0 then Except.error 91 else if 1 ≤ (numV kind).num ∧ (numV kind).num ≤ 4 then Except.ok (numV kind).num else Except.error 90) = Except.ok kind
  rw [if_neg (by simp [numV, Val.kind]), if_pos (by simp [numV, Val.num]; omega)]
  rfl
/-- bytes that open are those of their values -/
theorem open_back {l : List UInt8} {kind count : Nat} {vs : List Val} (h : openG l kind count = .ok vs) : sealG kind vs = .ok l ∧ dec l = .ok (lstV (numV kind :: vs)) ∧ (∀ x ∈ vs, norm 15 x = x) ∧ vs.length = count := by
  have hlen := openG_len h
  unfold openG at h
  obtain ⟨v, hd, h⟩ := bindR_ok h
  obtain ⟨he, hn, _, _⟩ := dec_back hd
  unfold openV at h
  split at h
  · cases h
  · rename_i hc
    have hk3 : v.kind = 3 := by apply Classical.byContradiction; intro hk; exact hc (.inl hk)
    obtain ⟨hv, hns⟩ := is_lst hn hk3
    rw [hv] at he hd
    cases hl : v.list with
    | nil => rw [hl] at h; cases h
    | cons a t =>
      rw [hl] at h hns he hd
      simp only at h
      split at h
      · cases h
      · rename_i h0
        split at h
        · cases h
        · rename_i h1
          injection h with h
          subst h
          have ha := is_num (hns a (by simp)) (by simpa using h0)
          have hn1 : a.num = kind := by simpa using h1
          rw [hn1] at ha
          subst ha
          exact ⟨he, hd, fun x hx => hns x (by simp [hx]), hlen⟩

/-! ### parts -/
theorem listG_lst {l : List Val} {m : Nat} (h : l.length ≤ m) : listG (lstV l) m = .ok l := by
  unfold listG
  rw [if_neg (by simp [lstV, Val.kind]), if_neg (by show ¬ m < l.length; omega)]
  rfl
theorem textG_txt {b : List UInt8} {m : Nat} (h : b.length ≤ m) : textG (txtV b) m = .ok b := by
  unfold textG
  rw [if_neg (by simp [txtV, Val.kind]), if_neg (by show ¬ m < b.length; omega)]
  rfl
theorem idG_txt {b : List UInt8} (h : b.length = 32) : idG (txtV b) = .ok b := by
  unfold idG
  rw [if_neg (by rintro (h1 | h1); exact h1 rfl; exact h1 h)]
  rfl
theorem ids_txts : ∀ {is : List (List UInt8)}, (∀ i ∈ is, i.length = 32) → eachG idG (is.map txtV) = .ok is
  | [], _ => rfl
  | i :: r, h => by
    rw [List.map_cons, eachG, idG_txt (h i (by simp))]
    show bindR (eachG idG (r.map txtV)) _ = _
    rw [ids_txts (fun j hj => h j (by simp [hj]))]
    rfl
theorem listG_ok {v : Val} {m : Nat} {us : List Val} {d : Nat} (h : listG v m = .ok us) (hn : norm (d + 1) v = v) : v = lstV us ∧ us.length ≤ m ∧ ∀ x ∈ us, norm d x = x := by
  unfold listG at h
  split at h
  · cases h
  · rename_i hk
    split at h
    · cases h
    · injection h with h
      obtain ⟨h1, h2⟩ := is_lst hn (by simpa using hk)
      subst h
      exact ⟨h1, by omega, h2⟩
theorem textG_back {v : Val} {m d : Nat} {b : List UInt8} (h : textG v m = .ok b) (hn : norm (d + 1) v = v) : v = txtV b ∧ b.length ≤ m := by
  unfold textG at h
  split at h
  · cases h
  · rename_i hk
    split at h
    · cases h
    · injection h with h
      subst h
      exact ⟨is_txt hn (by simpa using hk), by omega⟩
theorem idG_back {v : Val} {d : Nat} {b : List UInt8} (h : idG v = .ok b) (hn : norm (d + 1) v = v) : v = txtV b ∧ b.length = 32 := by
  unfold idG at h
  split at h
  · cases h
  · rename_i hk
    injection h with h
    subst h
    exact ⟨is_txt hn (by apply Classical.byContradiction; intro h; exact hk (.inl h)), by apply Classical.byContradiction; intro h; exact hk (.inr h)⟩
theorem ids_back {d : Nat} : ∀ {us : List Val} {is : List (List UInt8)}, eachG idG us = .ok is → (∀ x ∈ us, norm (d + 1) x = x) → us = is.map txtV ∧ ∀ i ∈ is, i.length = 32
  | [], is, h, _ => by injection h with h; subst h; exact ⟨rfl, fun i hi => by cases hi⟩
  | v :: r, is, h, hn => by
    unfold eachG at h
    obtain ⟨x, hx, h⟩ := bindR_ok h
    obtain ⟨xs, hxs, h⟩ := bindR_ok h
    injection h with h
    subst h
    obtain ⟨h1, h2⟩ := idG_back hx (hn v (by simp))
    obtain ⟨h3, h4⟩ := ids_back hxs (fun y hy => hn y (by simp [hy]))
    refine ⟨by rw [h1, h3]; rfl, fun i hi => ?_⟩
    rcases List.mem_cons.1 hi with rfl | hi
    · exact h2
    · exact h4 i hi
theorem idsG_back {v : Val} {m d : Nat} {is : List (List UInt8)} (h : idsG v m = .ok is) (hn : norm (d + 2) v = v) : v = lstV (is.map txtV) ∧ is.length ≤ m ∧ ∀ i ∈ is, i.length = 32 := by
  unfold idsG at h
  obtain ⟨us, hu, h⟩ := bindR_ok h
  obtain ⟨h1, h2, h3⟩ := listG_ok hu hn
  obtain ⟨h4, h5⟩ := ids_back h h3
  exact ⟨by rw [h1, h4], by rw [h4] at h2; simpa using h2, h5⟩
theorem idsG_txts {is : List (List UInt8)} {m : Nat} (h : is.length ≤ m) (h32 : ∀ i ∈ is, i.length = 32) : idsG (lstV (is.map txtV)) m = .ok is := by
  unfold idsG
  rw [listG_lst (by simpa using h)]
  exact ids_txts h32
theorem two_of {vs : List Val} (h : vs.length = 2) : vs = [nthV vs 0, nthV vs 1] := by
  match vs, h with
  | [a, b], _ => rfl
theorem one_of {vs : List Val} (h : vs.length = 1) : vs = [nthV vs 0] := by
  match vs, h with
  | [a], _ => rfl
theorem five_of {vs : List Val} (h : vs.length = 5) : vs = [nthV vs 0, nthV vs 1, nthV vs 2, nthV vs 3, nthV vs 4] := by
  match vs, h with
  | [a, b, c, d, e], _ => rfl
theorem sB_mk (b : List UInt8) : sB ⟨b.toArray⟩ = b := by simp [sB]
theorem mk_sB (s : ByteArray) : (⟨(sB s).toArray⟩ : ByteArray) = s := by
  cases s
  simp [sB]

theorem linksG_of {l : List UInt8} {k : Nat} (h : kindG l = .ok k) : linksG l = if k = 2 then bindR (getBlob l) fun x => .ok x.1 else if k = 3 then bindR (getTree l) fun x => .ok (x.map (·.2.2.1)) else if k = 4 then bindR (getCommit l) fun x => .ok (x.1 :: x.2.1) else bindR (getChunk l) fun _ => .ok [] := by
  unfold linksG
  rw [h]
  rfl

/-! ### chunks -/
theorem chunk_back {b o : List UInt8} (h : putChunk b = .ok o) : getChunk o = .ok b ∧ kindG o = .ok 1 ∧ b.length ≤ 262144 := by
  unfold putChunk at h
  split at h
  · cases h
  · rename_i hl
    have hd := open_seal (by decide) (by simp) (fun x hx => by
      obtain rfl : x = txtV b := by simpa using hx
      exact fits_txt (by omega)) h
    rw [List.map_cons, List.map_nil, norm_txt] at hd
    refine ⟨?_, kindG_of hd (by decide) (by decide), by omega⟩
    unfold getChunk
    rw [openG_of (count := 1) hd rfl]
    exact textG_txt (by omega)
theorem chunk_only {l b : List UInt8} (h : getChunk l = .ok b) : putChunk b = .ok l ∧ kindG l = .ok 1 := by
  unfold getChunk at h
  obtain ⟨vs, ho, h⟩ := bindR_ok h
  obtain ⟨h1, h2, h3, h4⟩ := open_back ho
  have hv := one_of h4
  obtain ⟨h5, h6⟩ := textG_back h (h3 (nthV vs 0) (by rw [hv]; simp [nthV]))
  rw [h5] at hv
  rw [hv] at h1 h2
  refine ⟨?_, kindG_of h2 (by decide) (by decide)⟩
  unfold putChunk
  rw [if_neg (by omega)]
  exact h1
theorem links_chunk {l b : List UInt8} (h : getChunk l = .ok b) : linksG l = .ok [] := by
  rw [linksG_of (chunk_only h).2, if_neg (by decide), if_neg (by decide), if_neg (by decide), h]
  rfl

/-! ### blobs -/
theorem blob_back {x : BlobT} {o : List UInt8} (h32 : ∀ i ∈ x.1, i.length = 32) (h : putBlob x = .ok o) : getBlob o = .ok x ∧ kindG o = .ok 2 := by
  unfold putBlob at h
  split at h
  · cases h
  · rename_i hl
    split at h
    · cases h
    · rename_i h0
      have hd := open_seal (by decide) (by simp) (fun v hv => by
        simp only [List.mem_cons, List.not_mem_nil, or_false] at hv
        rcases hv with rfl | rfl
        · exact fits_lst (by simp; omega) (fun y hy => by
            obtain ⟨i, hi, rfl⟩ := List.mem_map.1 hy
            exact fits_txt (by rw [h32 i hi]; decide))
        · exact fits_num (by omega)) h
      rw [List.map_cons, List.map_cons, List.map_nil, norm_num, norm_txts] at hd
      refine ⟨?_, kindG_of hd (by decide) (by decide)⟩
      unfold getBlob
      rw [openG_of (count := 2) hd rfl]
      show bindR (idsG (lstV (x.1.map txtV)) 4096) (fun is => blobEnd is (numV x.2.toNat)) = .ok x
      rw [idsG_txts (by omega) h32]
      show blobEnd x.1 (numV x.2.toNat) = .ok x
      unfold blobEnd
      rw [if_neg (by simp [numV, Val.kind]), if_neg (by show ¬ 262144 < x.2.toNat; omega)]
      show Except.ok (x.1, ((x.2.toNat : Nat) : Int)) = Except.ok x
      rw [Int.toNat_of_nonneg (by omega)]
theorem blob_only {l : List UInt8} {x : BlobT} (h : getBlob l = .ok x) : putBlob x = .ok l ∧ kindG l = .ok 2 ∧ ∀ i ∈ x.1, i.length = 32 := by
  unfold getBlob at h
  obtain ⟨vs, ho, h⟩ := bindR_ok h
  obtain ⟨is, hi, h⟩ := bindR_ok h
  obtain ⟨h1, h2, h3, h4⟩ := open_back ho
  have hv := two_of h4
  obtain ⟨h5, h6, h7⟩ := idsG_back (d := 13) hi (h3 (nthV vs 0) (by rw [hv]; simp [nthV]))
  have h8 := h3 (nthV vs 1) (by rw [hv]; simp [nthV])
  unfold blobEnd at h
  split at h
  · cases h
  · rename_i hk
    split at h
    · cases h
    · rename_i hn
      injection h with h
      subst h
      have h9 := is_num h8 (by simpa using hk)
      rw [h5, h9] at hv
      rw [hv] at h1 h2
      refine ⟨?_, kindG_of h2 (by decide) (by decide), h7⟩
      unfold putBlob
      rw [if_neg (by show ¬ (4096 < is.length ∨ (262144 : Int) < ((nthV vs 1).num : Int)); omega), if_neg (by show ¬ ((nthV vs 1).num : Int) < 0; omega)]
      exact h1
theorem links_blob {l : List UInt8} {x : BlobT} (h : getBlob l = .ok x) : linksG l = .ok x.1 := by
  rw [linksG_of (blob_only h).2.1, if_pos rfl, h]
  rfl

/-! ### trees -/
/-- an entry as it is read again -/
def normE (x : EntT) : EntT := if x.2.1 then (x.1, true, x.2.2.1, 0) else (x.1, false, x.2.2.1, canonB x.2.2.2)
theorem normE_name (x : EntT) : (normE x).1 = x.1 := by unfold normE; split <;> rfl
theorem normE_id (x : EntT) : (normE x).2.2.1 = x.2.2.1 := by unfold normE; split <;> rfl
theorem ordG_map : ∀ (l : List EntT) (p : Option (List UInt8)), ordG p (l.map normE) = ordG p l
  | [], _ => rfl
  | x :: r, p => by
    have h1 := ord_step (l := x :: r) (i := 0) (x := x) (p := p) rfl
    have h2 := ord_step (l := (x :: r).map normE) (i := 0) (x := normE x) (p := p) rfl
    have h1 : ordG p (x :: r) = _ := h1
    have h2 : ordG p ((x :: r).map normE) = _ := h2
    rw [h1, h2, normE_name]
    have h3 : ordG (some (sB x.1)) (((x :: r).map normE).drop (0 + 1)) = ordG (some (sB x.1)) ((x :: r).drop (0 + 1)) := ordG_map r _
    rw [h3]
theorem orderedG_map (l : List EntT) : orderedG (l.map normE) = orderedG l := by
  unfold orderedG
  rw [List.length_map, ordG_map]
theorem ordG_ok : ∀ {l : List EntT} {p : Option (List UInt8)}, ordG p l = 0 → ∀ x ∈ l, (sB x.1).length ≤ 64
  | [], _, _, x, hx => by cases hx
  | y :: r, p, h, x, hx => by
    have h0 : ordG p ((y :: r).drop 0) = 0 := h
    rw [ord_step (l := y :: r) (i := 0) (x := y) (p := p) rfl] at h0
    split at h0
    · omega
    · rename_i h1
      split at h0
      · omega
      · rcases List.mem_cons.1 hx with rfl | hx
        · have h1 : nameG (sB x.1) = true := by simpa using h1
          unfold nameG at h1
          simp only [Bool.and_eq_true, decide_eq_true_eq] at h1
          exact h1.1.2
        · exact ordG_ok (l := r) h0 x hx
theorem ent_again {x : EntT} (h32 : x.2.2.1.length = 32) (hl : (sB x.1).length ≤ 64) (d : Nat) : entG (norm (d + 2) (entV x)) = .ok (normE x) := by
  have hn : norm (d + 2) (entV x) = entV x := by
    unfold entV
    split
    · rw [norm_lst]; simp only [List.map_cons, List.map_nil, norm_txt]
    · rw [norm_lst]; simp only [List.map_cons, List.map_nil, norm_txt, norm_fltv, canonB_canonB]
  rw [hn]
  unfold entG entV normE
  split
  · rw [listG_lst (by simp)]
    show entRow [txtV (sB x.1), txtV x.2.2.1] = _
    unfold entRow
    rw [if_neg (by simp)]
    show bindR (textG (txtV (sB x.1)) 64) _ = _
    rw [textG_txt hl]
    show bindR (idG (txtV x.2.2.1)) _ = _
    rw [idG_txt h32]
    show entEnd [txtV (sB x.1), txtV x.2.2.1] (sB x.1) x.2.2.1 = _
    unfold entEnd
    rw [if_pos (by simp), mk_sB]
  · rw [listG_lst (by simp)]
    show entRow [txtV (sB x.1), txtV x.2.2.1, fltV (canonB x.2.2.2)] = _
    unfold entRow
    rw [if_neg (by simp)]
    show bindR (textG (txtV (sB x.1)) 64) _ = _
    rw [textG_txt hl]
    show bindR (idG (txtV x.2.2.1)) _ = _
    rw [idG_txt h32]
    show entEnd [txtV (sB x.1), txtV x.2.2.1, fltV (canonB x.2.2.2)] (sB x.1) x.2.2.1 = _
    unfold entEnd
    rw [if_neg (by simp), if_neg (by simp [nthV, fltV, Val.kind]), mk_sB]
    rfl
theorem ents_again : ∀ {l : List EntT}, (∀ x ∈ l, x.2.2.1.length = 32 ∧ (sB x.1).length ≤ 64) → eachG entG ((l.map entV).map (norm 14)) = .ok (l.map normE)
  | [], _ => rfl
  | x :: r, h => by
    rw [List.map_cons, List.map_cons, eachG, ent_again (h x (by simp)).1 (h x (by simp)).2 12]
    show bindR (eachG entG ((r.map entV).map (norm 14))) _ = _
    rw [ents_again (fun y hy => h y (by simp [hy]))]
    rfl
theorem fits_ent {x : EntT} {d : Nat} (h32 : x.2.2.1.length = 32) (hl : (sB x.1).length ≤ 64) (hf : x.2.2.2 < 2 ^ 64) : Fits (d + 1) (entV x) := by
  unfold entV
  split
  · exact fits_lst (by simp) (fun y hy => by
      simp only [List.mem_cons, List.not_mem_nil, or_false] at hy
      rcases hy with rfl | rfl <;> exact fits_txt (by omega))
  · exact fits_lst (by simp) (fun y hy => by
      simp only [List.mem_cons, List.not_mem_nil, or_false] at hy
      rcases hy with rfl | rfl | rfl
      · exact fits_txt (by omega)
      · exact fits_txt (by omega)
      · exact fits_flt (canonB_lt hf))
theorem tree_back {l : List EntT} {o : List UInt8} (h32 : ∀ x ∈ l, x.2.2.1.length = 32 ∧ x.2.2.2 < 2 ^ 64) (h : putTree l = .ok o) : getTree o = .ok (l.map normE) ∧ kindG o = .ok 3 := by
  unfold putTree at h
  split at h
  · cases h
  · rename_i h0
    have h0 : orderedG l = 0 := by simpa using h0
    have hlen : l.length ≤ 1024 := by
      unfold orderedG at h0
      split at h0
      · omega
      · omega
    have hord : ordG none l = 0 := by
      unfold orderedG at h0
      split at h0
      · omega
      · exact h0
    have hnm := ordG_ok hord
    have hd := open_seal (by decide) (by simp) (fun v hv => by
      obtain rfl : v = lstV (l.map entV) := by simpa using hv
      exact fits_lst (by simp; omega) (fun y hy => by
        obtain ⟨x, hx, rfl⟩ := List.mem_map.1 hy
        exact fits_ent (h32 x hx).1 (hnm x hx) (h32 x hx).2)) h
    rw [List.map_cons, List.map_nil, norm_lst] at hd
    refine ⟨?_, kindG_of hd (by decide) (by decide)⟩
    unfold getTree
    rw [openG_of (count := 1) hd rfl]
    show bindR (listG (lstV ((l.map entV).map (norm 14))) 1024) _ = _
    rw [listG_lst (by simpa using hlen)]
    show bindR (eachG entG ((l.map entV).map (norm 14))) treeEnd = _
    rw [ents_again (fun x hx => ⟨(h32 x hx).1, hnm x hx⟩)]
    show treeEnd (l.map normE) = _
    unfold treeEnd
    rw [orderedG_map, if_neg (by simp [h0])]
theorem ent_only {v : Val} {x : EntT} {d : Nat} (hn : norm (d + 2) v = v) (h : entG v = .ok x) : v = entV x ∧ x.2.2.1.length = 32 := by
  unfold entG at h
  obtain ⟨us, hu, h⟩ := bindR_ok h
  obtain ⟨h1, h2, h3⟩ := listG_ok hu hn
  unfold entRow at h
  split at h
  · cases h
  · rename_i hl2
    obtain ⟨s, ht, h⟩ := bindR_ok h
    obtain ⟨i, hi, h⟩ := bindR_ok h
    have hmem : ∀ k, k < us.length → nthV us k ∈ us := fun k hk => List.mem_of_getElem? (nthV_at hk)
    obtain ⟨h4, _⟩ := textG_back ht (h3 _ (hmem 0 (by omega)))
    obtain ⟨h5, h6⟩ := idG_back hi (h3 _ (hmem 1 (by omega)))
    unfold entEnd at h
    split at h
    · rename_i he
      injection h with h
      subst h
      refine ⟨?_, h6⟩
      rw [h1]
      unfold entV
      rw [if_pos rfl, sB_mk]
      have := two_of he
      rw [this, h4, h5]
    · rename_i hne
      split at h
      · cases h
      · rename_i hk
        injection h with h
        subst h
        refine ⟨?_, h6⟩
        have h3l : us.length = 3 := by omega
        obtain ⟨h7, h8⟩ := is_flt (h3 _ (hmem 2 (by omega))) (by simpa using hk)
        rw [h1]
        unfold entV
        rw [if_neg (by simp), sB_mk]
        show lstV us = lstV [txtV s, txtV i, fltV (canonB (nthV us 2).flt)]
        rw [← h7, ← h4, ← h5]
        match us, h3l with
        | [a, b, c], _ => rfl
theorem ents_only {d : Nat} : ∀ {us : List Val} {es : List EntT}, eachG entG us = .ok es → (∀ x ∈ us, norm (d + 2) x = x) → us = es.map entV ∧ ∀ x ∈ es, x.2.2.1.length = 32
  | [], es, h, _ => by injection h with h; subst h; exact ⟨rfl, fun x hx => by cases hx⟩
  | v :: r, es, h, hn => by
    unfold eachG at h
    obtain ⟨x, hx, h⟩ := bindR_ok h
    obtain ⟨xs, hxs, h⟩ := bindR_ok h
    injection h with h
    subst h
    obtain ⟨h1, h2⟩ := ent_only (hn v (by simp)) hx
    obtain ⟨h3, h4⟩ := ents_only hxs (fun y hy => hn y (by simp [hy]))
    refine ⟨by rw [h1, h3]; rfl, fun y hy => ?_⟩
    rcases List.mem_cons.1 hy with rfl | hy
    · exact h2
    · exact h4 y hy
theorem tree_only {l : List UInt8} {es : List EntT} (h : getTree l = .ok es) : putTree es = .ok l ∧ kindG l = .ok 3 ∧ ∀ x ∈ es, x.2.2.1.length = 32 := by
  unfold getTree at h
  obtain ⟨vs, ho, h⟩ := bindR_ok h
  obtain ⟨us, hu, h⟩ := bindR_ok h
  obtain ⟨es', he, h⟩ := bindR_ok h
  obtain ⟨h1, h2, h3, h4⟩ := open_back ho
  have hv := one_of h4
  obtain ⟨h5, h6, h7⟩ := listG_ok (d := 14) hu (h3 (nthV vs 0) (by rw [hv]; simp [nthV]))
  obtain ⟨h8, h9⟩ := ents_only (d := 12) he h7
  unfold treeEnd at h
  split at h
  · cases h
  · rename_i h0
    injection h with h
    subst h
    rw [h5, h8] at hv
    rw [hv] at h1 h2
    refine ⟨?_, kindG_of h2 (by decide) (by decide), h9⟩
    unfold putTree
    rw [if_neg h0]
    exact h1
theorem links_tree {l : List UInt8} {es : List EntT} (h : getTree l = .ok es) : linksG l = .ok (es.map (·.2.2.1)) := by
  rw [linksG_of (tree_only h).2.1, if_neg (by decide), if_pos rfl, h]
  rfl

/-! ### commits -/
def normC (x : ComT) : ComT := (x.1, x.2.1, canonB x.2.2.1, x.2.2.2.1, x.2.2.2.2)
theorem com_back {x : ComT} {o : List UInt8} (h1 : x.1.length = 32) (h32 : ∀ i ∈ x.2.1, i.length = 32) (hf : x.2.2.1 < 2 ^ 64) (h : putCommit x = .ok o) : getCommit o = .ok (normC x) ∧ kindG o = .ok 4 := by
  obtain ⟨tr, ps, f, au, nt⟩ := x
  have h1 : tr.length = 32 := h1
  have h32 : ∀ i ∈ ps, i.length = 32 := h32
  unfold putCommit at h
  split at h
  · cases h
  · rename_i hl
    simp only at hl
    split at h
    · cases h
    · rename_i hr
      simp only at hr h
      have hd := open_seal (by decide) (by simp) (fun v hv => by
        simp only [List.mem_cons, List.not_mem_nil, or_false] at hv
        rcases hv with rfl | rfl | rfl | rfl | rfl
        · exact fits_txt (by omega)
        · exact fits_lst (by simp; omega) (fun y hy => by
            obtain ⟨i, hi, rfl⟩ := List.mem_map.1 hy
            exact fits_txt (by rw [h32 i hi]; decide))
        · exact fits_flt (canonB_lt hf)
        · exact fits_txt (by omega)
        · exact fits_txt (by omega)) h
      simp only [List.map_cons, List.map_nil, norm_txt, norm_txts, norm_fltv, canonB_canonB] at hd
      refine ⟨?_, kindG_of hd (by decide) (by decide)⟩
      unfold getCommit
      rw [openG_of (count := 5) hd rfl]
      show bindR (idG (txtV tr)) (fun t => bindR (idsG (lstV (ps.map txtV)) 8) fun ps' => comEnd [txtV tr, lstV (ps.map txtV), fltV (canonB f), txtV (sB au), txtV (sB nt)] t ps') = _
      rw [idG_txt h1]
      show bindR (idsG (lstV (ps.map txtV)) 8) (fun ps' => comEnd [txtV tr, lstV (ps.map txtV), fltV (canonB f), txtV (sB au), txtV (sB nt)] tr ps') = _
      rw [idsG_txts (by omega) h32]
      show comEnd [txtV tr, lstV (ps.map txtV), fltV (canonB f), txtV (sB au), txtV (sB nt)] tr ps = _
      unfold comEnd
      rw [if_neg hr, if_neg (by simp [nthV, fltV, Val.kind])]
      show bindR (textG (txtV (sB au)) 64) (fun a => bindR (textG (txtV (sB nt)) 1024) fun n => .ok (tr, ps, canonB f, (⟨a.toArray⟩ : ByteArray), (⟨n.toArray⟩ : ByteArray))) = (.ok (normC (tr, ps, f, au, nt)) : Res ComT)
      rw [textG_txt (by omega)]
      show bindR (textG (txtV (sB nt)) 1024) (fun n => .ok (tr, ps, canonB f, (⟨(sB au).toArray⟩ : ByteArray), (⟨n.toArray⟩ : ByteArray))) = (.ok (normC (tr, ps, f, au, nt)) : Res ComT)
      rw [textG_txt (by omega)]
      show (Except.ok (tr, ps, canonB f, (⟨(sB au).toArray⟩ : ByteArray), (⟨(sB nt).toArray⟩ : ByteArray)) : Res ComT) = _
      rw [mk_sB, mk_sB]
      rfl
theorem com_only {l : List UInt8} {x : ComT} (h : getCommit l = .ok x) : putCommit x = .ok l ∧ kindG l = .ok 4 ∧ x.1.length = 32 ∧ ∀ i ∈ x.2.1, i.length = 32 := by
  unfold getCommit at h
  obtain ⟨vs, ho, h⟩ := bindR_ok h
  obtain ⟨t, ht, h⟩ := bindR_ok h
  obtain ⟨ps, hp, h⟩ := bindR_ok h
  obtain ⟨h1, h2, h3, h4⟩ := open_back ho
  have hv := five_of h4
  have hmem : ∀ k, k < vs.length → nthV vs k ∈ vs := fun k hk => List.mem_of_getElem? (nthV_at hk)
  obtain ⟨h5, h6⟩ := idG_back ht (h3 _ (hmem 0 (by omega)))
  obtain ⟨h7, h8, h9⟩ := idsG_back (d := 13) hp (h3 _ (hmem 1 (by omega)))
  unfold comEnd at h
  split at h
  · cases h
  · rename_i hr
    split at h
    · cases h
    · rename_i hk
      obtain ⟨a, ha, h⟩ := bindR_ok h
      obtain ⟨n, hn, h⟩ := bindR_ok h
      injection h with h
      subst h
      obtain ⟨g1, g2⟩ := textG_back ha (h3 _ (hmem 3 (by omega)))
      obtain ⟨g3, g4⟩ := textG_back hn (h3 _ (hmem 4 (by omega)))
      obtain ⟨g5, _⟩ := is_flt (h3 _ (hmem 2 (by omega))) (by simpa using hk)
      have hv2 : vs = [txtV t, lstV (ps.map txtV), fltV (canonB (nthV vs 2).flt), txtV a, txtV n] := by rw [← h5, ← h7, ← g1, ← g3, ← g5]; exact hv
      refine ⟨?_, ?_, h6, h9⟩
      · unfold putCommit
        simp only [sB_mk]
        rw [if_neg (by omega), if_neg hr, ← hv2]
        exact h1
      · exact kindG_of h2 (by decide) (by decide)
theorem links_com {l : List UInt8} {x : ComT} (h : getCommit l = .ok x) : linksG l = .ok (x.1 :: x.2.1) := by
  rw [linksG_of (com_only h).2.1, if_neg (by decide), if_neg (by decide), if_pos rfl, h]
  rfl
theorem open_flts {l : List UInt8} {kind count : Nat} {vs : List Val} (h : openG l kind count = .ok vs) : ∀ x ∈ vs, x.flt < 2 ^ 64 := by
  have hd := (open_back h).2.1
  obtain ⟨_, _, hf, _⟩ := dec_back hd
  intro x hx
  have := hf.2.2.2.2 x (by show x ∈ numV kind :: vs; simp [hx])
  exact this.2.1
theorem com_flt {l : List UInt8} {x : ComT} (h : getCommit l = .ok x) : x.2.2.1 < 2 ^ 64 := by
  unfold getCommit at h
  obtain ⟨vs, ho, h⟩ := bindR_ok h
  obtain ⟨t, ht, h⟩ := bindR_ok h
  obtain ⟨ps, hp, h⟩ := bindR_ok h
  have hfl := open_flts ho
  have hlen := openG_len ho
  unfold comEnd at h
  split at h
  · cases h
  · split at h
    · cases h
    · obtain ⟨a, ha, h⟩ := bindR_ok h
      obtain ⟨n, hn, h⟩ := bindR_ok h
      injection h with h
      subst h
      exact hfl _ (List.mem_of_getElem? (nthV_at (k := 2) (by omega)))
/-- what links are told of is a record -/
theorem links_some {l : List UInt8} {is : List (List UInt8)} (h : linksG l = .ok is) : ∃ k, kindG l = .ok k ∧ ((k = 1 ∧ ∃ b, getChunk l = .ok b) ∨ (k = 2 ∧ ∃ x, getBlob l = .ok x) ∨ (k = 3 ∧ ∃ x, getTree l = .ok x) ∨ (k = 4 ∧ ∃ x, getCommit l = .ok x)) := by
  have h0 := h
  unfold linksG at h0
  obtain ⟨k, hk, h0⟩ := bindR_ok h0
  refine ⟨k, hk, ?_⟩
  have hk14 : 1 ≤ k ∧ k ≤ 4 := by
    unfold kindG at hk
    obtain ⟨v, _, hk⟩ := bindR_ok hk
    unfold kindV at hk
    split at hk
    · cases hk
    · split at hk
      · cases hk
      · split at hk
        · cases hk
        · split at hk
          · rename_i hh; injection hk with hk; subst hk; exact hh
          · cases hk
  split at h0
  · obtain ⟨x, hx, _⟩ := bindR_ok h0; exact .inr (.inl ⟨by assumption, x, hx⟩)
  · split at h0
    · obtain ⟨x, hx, _⟩ := bindR_ok h0; exact .inr (.inr (.inl ⟨by assumption, x, hx⟩))
    · split at h0
      · obtain ⟨x, hx, _⟩ := bindR_ok h0; exact .inr (.inr (.inr ⟨by assumption, x, hx⟩))
      · obtain ⟨x, hx, _⟩ := bindR_ok h0; exact .inl ⟨by omega, x, hx⟩
/-- of which kind a record is -/
theorem one_kind (l : List UInt8) : (∃ b, getChunk l = .ok b ∧ (∃ z, getBlob l = .error z) ∧ (∃ z, getTree l = .error z) ∧ (∃ z, getCommit l = .error z) ∧ linksG l = .ok [] ∧ kindG l = .ok 1) ∨
    (∃ x, getBlob l = .ok x ∧ (∃ z, getChunk l = .error z) ∧ (∃ z, getTree l = .error z) ∧ (∃ z, getCommit l = .error z) ∧ linksG l = .ok x.1 ∧ kindG l = .ok 2) ∨
    (∃ x, getTree l = .ok x ∧ (∃ z, getChunk l = .error z) ∧ (∃ z, getBlob l = .error z) ∧ (∃ z, getCommit l = .error z) ∧ linksG l = .ok (x.map (·.2.2.1)) ∧ kindG l = .ok 3) ∨
    (∃ x, getCommit l = .ok x ∧ (∃ z, getChunk l = .error z) ∧ (∃ z, getBlob l = .error z) ∧ (∃ z, getTree l = .error z) ∧ linksG l = .ok (x.1 :: x.2.1) ∧ kindG l = .ok 4) ∨
    ((∃ z, getChunk l = .error z) ∧ (∃ z, getBlob l = .error z) ∧ (∃ z, getTree l = .error z) ∧ (∃ z, getCommit l = .error z) ∧ ∃ z, linksG l = .error z) := by
  have k1 := fun b (h : getChunk l = .ok b) => (chunk_only h).2
  have k2 := fun b (h : getBlob l = .ok b) => (blob_only h).2.1
  have k3 := fun b (h : getTree l = .ok b) => (tree_only h).2.1
  have k4 := fun b (h : getCommit l = .ok b) => (com_only h).2.1
  cases h1 : getChunk l with
  | ok b =>
    refine .inl ⟨b, rfl, ?_, ?_, ?_, links_chunk h1, k1 b h1⟩
    · cases h2 : getBlob l with
      | error z => exact ⟨z, rfl⟩
      | ok x => have := k2 x h2; rw [k1 b h1] at this; injection this with this; omega
    · cases h2 : getTree l with
      | error z => exact ⟨z, rfl⟩
      | ok x => have := k3 x h2; rw [k1 b h1] at this; injection this with this; omega
    · cases h2 : getCommit l with
      | error z => exact ⟨z, rfl⟩
      | ok x => have := k4 x h2; rw [k1 b h1] at this; injection this with this; omega
  | error z1 =>
    cases h2 : getBlob l with
    | ok b =>
      refine .inr (.inl ⟨b, rfl, ⟨z1, rfl⟩, ?_, ?_, links_blob h2, k2 b h2⟩)
      · cases h3 : getTree l with
        | error z => exact ⟨z, rfl⟩
        | ok x => have := k3 x h3; rw [k2 b h2] at this; injection this with this; omega
      · cases h3 : getCommit l with
        | error z => exact ⟨z, rfl⟩
        | ok x => have := k4 x h3; rw [k2 b h2] at this; injection this with this; omega
    | error z2 =>
      cases h3 : getTree l with
      | ok b =>
        refine .inr (.inr (.inl ⟨b, rfl, ⟨z1, rfl⟩, ⟨z2, rfl⟩, ?_, links_tree h3, k3 b h3⟩))
        cases h4 : getCommit l with
        | error z => exact ⟨z, rfl⟩
        | ok x => have := k4 x h4; rw [k3 b h3] at this; injection this with this; omega
      | error z3 =>
        cases h4 : getCommit l with
        | ok b => exact .inr (.inr (.inr (.inl ⟨b, rfl, ⟨z1, rfl⟩, ⟨z2, rfl⟩, ⟨z3, rfl⟩, links_com h4, k4 b h4⟩)))
        | error z4 =>
          refine .inr (.inr (.inr (.inr ⟨⟨z1, rfl⟩, ⟨z2, rfl⟩, ⟨z3, rfl⟩, ⟨z4, rfl⟩, ?_⟩)))
          cases h5 : linksG l with
          | error z => exact ⟨z, rfl⟩
          | ok x =>
            obtain ⟨k, _, h⟩ := links_some h5
            rcases h with ⟨_, b, hb⟩ | ⟨_, b, hb⟩ | ⟨_, b, hb⟩ | ⟨_, b, hb⟩
            · rw [h1] at hb; cases hb
            · rw [h2] at hb; cases hb
            · rw [h3] at hb; cases hb
            · rw [h4] at hb; cases hb
theorem getChunk_err {l : List UInt8} {z : Int} (h : getChunk l = .error z) : z ≠ 0 := bindR_err (fun _ => openG_err) (fun _ _ => textG_err) h
theorem getBlob_err {l : List UInt8} {z : Int} (h : getBlob l = .error z) : z ≠ 0 := bindR_err (fun _ => openG_err) (fun _ _ h => bindR_err (fun _ => idsG_err) (fun _ _ => blobEnd_err) h) h
theorem kindG_err {l : List UInt8} {z : Int} (h : kindG l = .error z) : z ≠ 0 := bindR_err (fun _ => dec_err_ne) (fun v z h => by
  unfold kindV at h
  split at h
  · injection h with h; omega
  · split at h
    · injection h with h; omega
    · split at h
      · injection h with h; omega
      · split at h
        · cases h
        · injection h with h; omega) h
theorem linksG_err {l : List UInt8} {z : Int} (h : linksG l = .error z) : z ≠ 0 := bindR_err (fun _ => kindG_err) (fun k z h => by
  split at h
  · exact bindR_err (fun _ => getBlob_err) (fun _ _ h => by cases h) h
  · split at h
    · exact bindR_err (fun _ => getTree_err) (fun _ _ h => by cases h) h
    · split at h
      · exact bindR_err (fun _ => getCommit_err) (fun _ _ h => by cases h) h
      · exact bindR_err (fun _ => getChunk_err) (fun _ _ h => by cases h) h) h

end Go.Proofs.Ytpafhajpnepecaa
