/- towlineref01.Parse. -/
import Derived.Test.YtehminpiejophaaDoorStampRefText
import Derived.OwnWalk
set_option linter.unusedVariables false
set_option linter.unusedSimpArgs false
namespace Go.Proofs.YtehminpiejophaaDoor
open Go.RowKit

def RefPost (w : World) (l : List UInt8) (e : Ending) (w' : World) : Prop :=
  w' = w ∧ ((∃ b, Reads l b ∧ e = .returned (.tuple #[.float .f64 b, .int .i64 0])) ∨ ((∀ b, ¬ Reads l b) ∧ e = .returned (.tuple #[.float .f64 0, .int .i64 10])))
theorem strL_cons (x : UInt8) (r : List UInt8) {q : ByteArray} (h : q = strL (x :: r)) {n : Nat} (hn : n = r.length + 1) : q.extract 1 n = strL r := by
  subst h hn
  apply ByteArray.ext
  simp [strL, ByteArray.extract, ByteArray.copySlice]
theorem strL_pre (a b : List UInt8) {q : ByteArray} (h : q = strL (a ++ b)) {m : Nat} (hm : m = a.length) : q.extract 0 m = strL a := by
  subst h hm
  apply ByteArray.ext
  simp [strL, ByteArray.extract, ByteArray.copySlice]
theorem strL_suf (a b : List UInt8) {q : ByteArray} (h : q = strL (a ++ b)) {m n : Nat} (hm : m = a.length) (hn : n = (a ++ b).length) : q.extract m n = strL b := by
  subst h hm hn
  apply ByteArray.ext
  simp [strL, ByteArray.extract, ByteArray.copySlice]
theorem u8_is {x y : UInt8} (h : x = y) : ((x.toNat : Int) == (y.toNat : Int)) = true := by rw [h]; simp

set_option maxRecDepth 100000 in
theorem refp_nan (w : World) : Calls Tryd.prog 18 #[.string (strL [110, 97, 110])] w (RefPost w [110, 97, 110]) := by
  obtain ⟨q, hq⟩ : ∃ q, q = strL [110, 97, 110] := ⟨_, rfl⟩
  have hq0 : q.toList.isEmpty = false := by rw [hq, toList_strL]; rfl
  have hqs : q.size = 3 := by rw [hq, strL_size]; rfl
  have hiq : 0 < q.size := by omega
  obtain ⟨x, hxx⟩ : ∃ x : UInt8, x = 110 := ⟨_, rfl⟩
  have hqx : q[0] = x := strL_at (l := [110, 97, 110]) (by rw [hxx]; rfl) hq hiq
  have hx : ((x.toNat : Int) == 45) = false := by rw [hxx]; rfl
  have hn : (q.toList == [110, 97, 110]) = true := by rw [hq, toList_strL]; rfl
  have hf := ext_from
  rw [← hq]
  clear hq hxx
  go_enter Tryd.func18, Tryd.ntmps18
  go_wp2_with fail
  go_ret2
  exact ⟨rfl, .inl ⟨nanB, reads_nan, rfl⟩⟩

set_option maxRecDepth 100000 in
set_option maxHeartbeats 8000000 in
theorem refp_inf_neg (t : List UInt8) (h0 : t = [105, 110, 102]) (w : World) (hl : t.length ≤ 4294967200) : Calls Tryd.prog 18 #[.string (strL (45 :: t))] w (RefPost w (45 :: t)) := by
  obtain ⟨n, hn⟩ : ∃ n, n = t.length := ⟨_, rfl⟩
  have hn2 : (n : Int) ≤ 4294967200 := by omega
  have hf := ext_from
  obtain ⟨tq, htq⟩ : ∃ tq, tq = strL t := ⟨_, rfl⟩
  have htn : tq.size = n := by rw [htq, strL_size, hn]
  obtain ⟨q, hq⟩ : ∃ q, q = strL (45 :: t) := ⟨_, rfl⟩
  have hqn : q.size = n + 1 := by rw [hq, strL_size, hn]; rfl
  have hq0 : q.toList.isEmpty = false := by rw [hq, toList_strL]; rfl
  have hiq : 0 < q.size := by omega
  obtain ⟨x, hxx⟩ : ∃ x : UInt8, x = 45 := ⟨_, rfl⟩
  have hqx : q[0] = x := strL_at (l := 45 :: t) (by rw [hxx]; rfl) hq hiq
  have hx : ((x.toNat : Int) == 45) = true := u8_is (y := 45) hxx
  have hsl : q.extract 1 (n + 1) = tq := by rw [htq]; exact strL_cons 45 t hq (by rw [hn])
  have hnan : (q.toList == [110, 97, 110]) = false := by rw [hq, toList_strL]; rfl
  have HRD := Lib.hid (show ∀ r, UT t r → Reads (45 :: t) (9223372036854775808 + r) from fun r h => ut_neg h)
  have HNO := Lib.hid (show (∀ r, ¬ UT t r) → ∀ b, ¬ Reads (45 :: t) b from neg_ut)
  generalize hLL : 45 :: t = LL at *
  rw [← hq]
  clear hq hxx hLL
  have hn0 : 0 < n := by rw [hn, h0]; simp
  have hi1 : (tq.toList == [105, 110, 102]) = true := by rw [htq, toList_strL, h0]; rfl
  have HR := Lib.hid (show Reads LL 18442240474082181120 from HRD.out infR (h0 ▸ ut_inf))
  clear htq h0 HRD HNO hn
  go_enter Tryd.func18, Tryd.ntmps18
  go_wp2_with fail
  go_ret2
  exact ⟨rfl, .inl ⟨_, HR.out, rfl⟩⟩

set_option maxRecDepth 100000 in
set_option maxHeartbeats 8000000 in
theorem refp_zero_neg (t : List UInt8) (h0 : t = [48]) (w : World) (hl : t.length ≤ 4294967200) : Calls Tryd.prog 18 #[.string (strL (45 :: t))] w (RefPost w (45 :: t)) := by
  obtain ⟨n, hn⟩ : ∃ n, n = t.length := ⟨_, rfl⟩
  have hn2 : (n : Int) ≤ 4294967200 := by omega
  have hf := ext_from
  obtain ⟨tq, htq⟩ : ∃ tq, tq = strL t := ⟨_, rfl⟩
  have htn : tq.size = n := by rw [htq, strL_size, hn]
  obtain ⟨q, hq⟩ : ∃ q, q = strL (45 :: t) := ⟨_, rfl⟩
  have hqn : q.size = n + 1 := by rw [hq, strL_size, hn]; rfl
  have hq0 : q.toList.isEmpty = false := by rw [hq, toList_strL]; rfl
  have hiq : 0 < q.size := by omega
  obtain ⟨x, hxx⟩ : ∃ x : UInt8, x = 45 := ⟨_, rfl⟩
  have hqx : q[0] = x := strL_at (l := 45 :: t) (by rw [hxx]; rfl) hq hiq
  have hx : ((x.toNat : Int) == 45) = true := u8_is (y := 45) hxx
  have hsl : q.extract 1 (n + 1) = tq := by rw [htq]; exact strL_cons 45 t hq (by rw [hn])
  have hnan : (q.toList == [110, 97, 110]) = false := by rw [hq, toList_strL]; rfl
  have HRD := Lib.hid (show ∀ r, UT t r → Reads (45 :: t) (9223372036854775808 + r) from fun r h => ut_neg h)
  have HNO := Lib.hid (show (∀ r, ¬ UT t r) → ∀ b, ¬ Reads (45 :: t) b from neg_ut)
  generalize hLL : 45 :: t = LL at *
  rw [← hq]
  clear hq hxx hLL
  have hn0 : 0 < n := by rw [hn, h0]; simp
  have hi1 : (tq.toList == [105, 110, 102]) = false := by rw [htq, toList_strL, h0]; rfl
  have hi2 : (tq.toList == [48]) = true := by rw [htq, toList_strL, h0]; rfl
  have HR := Lib.hid (show Reads LL 9223372036854775808 from HRD.out 0 (h0 ▸ ut_zero))
  clear htq h0 HRD HNO hn
  go_enter Tryd.func18, Tryd.ntmps18
  go_wp2_with fail
  go_ret2
  exact ⟨rfl, .inl ⟨_, HR.out, rfl⟩⟩

set_option maxRecDepth 100000 in
set_option maxHeartbeats 8000000 in
theorem refp_nop_neg (t : List UInt8) (h3 : t ≠ [105, 110, 102]) (h4 : t ≠ [48]) (h5 : (112 : UInt8) ∉ t) (w : World) (hl : t.length ≤ 4294967200) : Calls Tryd.prog 18 #[.string (strL (45 :: t))] w (RefPost w (45 :: t)) := by
  obtain ⟨n, hn⟩ : ∃ n, n = t.length := ⟨_, rfl⟩
  have hn2 : (n : Int) ≤ 4294967200 := by omega
  have hf := ext_from
  obtain ⟨tq, htq⟩ : ∃ tq, tq = strL t := ⟨_, rfl⟩
  have htn : tq.size = n := by rw [htq, strL_size, hn]
  obtain ⟨q, hq⟩ : ∃ q, q = strL (45 :: t) := ⟨_, rfl⟩
  have hqn : q.size = n + 1 := by rw [hq, strL_size, hn]; rfl
  have hq0 : q.toList.isEmpty = false := by rw [hq, toList_strL]; rfl
  have hiq : 0 < q.size := by omega
  obtain ⟨x, hxx⟩ : ∃ x : UInt8, x = 45 := ⟨_, rfl⟩
  have hqx : q[0] = x := strL_at (l := 45 :: t) (by rw [hxx]; rfl) hq hiq
  have hx : ((x.toNat : Int) == 45) = true := u8_is (y := 45) hxx
  have hsl : q.extract 1 (n + 1) = tq := by rw [htq]; exact strL_cons 45 t hq (by rw [hn])
  have hnan : (q.toList == [110, 97, 110]) = false := by rw [hq, toList_strL]; rfl
  have HRD := Lib.hid (show ∀ r, UT t r → Reads (45 :: t) (9223372036854775808 + r) from fun r h => ut_neg h)
  have HNO := Lib.hid (show (∀ r, ¬ UT t r) → ∀ b, ¬ Reads (45 :: t) b from neg_ut)
  generalize hLL : 45 :: t = LL at *
  rw [← hq]
  clear hq hxx hLL
  have hi1 : (tq.toList == [105, 110, 102]) = false := by rw [htq, toList_strL, beq_eq_false_iff_ne]; exact h3
  have hi2 : (tq.toList == [48]) = false := by rw [htq, toList_strL, beq_eq_false_iff_ne]; exact h4
  have HN := Lib.hid (HNO.out (ut_none h3 h4 h5))
  have HP := Lib.hid (show ∀ k y, t[k]? = some y → ((y.toNat : Int) == 112) = false from fun k y hy => u8_ne (y := 112) (fun e => h5 (e ▸ List.mem_of_getElem? hy)))
  have HT := Lib.hid htq
  have HNN := Lib.hid hn
  clear htq hn h3 h4 h5 HRD HNO
  go_enter Tryd.func18, Tryd.ntmps18
  go_wp2_with fail
  clear hiq hqx hx hq0 hnan hi1 hi2 hsl hqn
  go_loopw [6, 7] (fun s6 s7 wr => ∃ k : Nat, k ≤ n ∧ s7 = .int .i64 (k : Int) ∧ s6 = .int .i64 (-1) ∧ wr = w) (fun s6 s7 wr => n - (intOf s7).toNat)
  case atStart => exact ⟨0, by omega, rfl, rfl, rfl⟩
  case round =>
    obtain ⟨k, hk, rfl, rfl, rfl⟩ := hrel
    by_cases hlt : k < n
    · have hltI : (k : Int) < (n : Int) := by omega
      obtain ⟨y, hy⟩ : ∃ y, t[k]? = some y := ⟨_, List.getElem?_eq_getElem (by have := HNN.out; omega)⟩
      have hkq : k < tq.size := by omega
      have hqy : tq[k] = y := strL_at hy HT.out hkq
      have hy2 := HP.out k y hy
      clear hy
      go_wp2_with fail
      go_roundw
      case rel => exact ⟨k + 1, by omega, by go_num, rfl, by first | rfl | exact True.intro⟩
      case measure => simp [intOf]; omega
    · have hltI : ¬ (k : Int) < (n : Int) := by omega
      go_wp2_with fail
      go_ret2
      exact ⟨by first | rfl | exact True.intro, .inr ⟨HN.out, rfl⟩⟩

set_option maxRecDepth 100000 in
set_option maxHeartbeats 8000000 in
theorem refp_inf_pos (t : List UInt8) (h1 : t ≠ [110, 97, 110]) (h2 : ∀ r, t ≠ 45 :: r) (h0 : t = [105, 110, 102]) (w : World) (hl : t.length ≤ 4294967200) : Calls Tryd.prog 18 #[.string (strL (t))] w (RefPost w (t)) := by
  obtain ⟨n, hn⟩ : ∃ n, n = t.length := ⟨_, rfl⟩
  have hn2 : (n : Int) ≤ 4294967200 := by omega
  have hf := ext_from
  obtain ⟨tq, htq⟩ : ∃ tq, tq = strL t := ⟨_, rfl⟩
  have htn : tq.size = n := by rw [htq, strL_size, hn]
  have hnan : (tq.toList == [110, 97, 110]) = false := by rw [htq, toList_strL]; rw [beq_eq_false_iff_ne]; exact h1
  have HRD := Lib.hid (show ∀ r, UT t r → Reads t (0 + r) from fun r h => by rw [Nat.zero_add]; exact ut_pos h)
  have HNO := Lib.hid (show (∀ r, ¬ UT t r) → ∀ b, ¬ Reads t b from pos_ut h1 h2)
  rw [← htq]
  have hn0 : 0 < n := by rw [hn, h0]; simp
  obtain ⟨x, hx0⟩ : ∃ x, t[0]? = some x := ⟨_, List.getElem?_eq_getElem (by omega)⟩
  have hq0 : tq.toList.isEmpty = false := by
    rw [htq, toList_strL]
    cases t with
    | nil => simp at hx0
    | cons c r => rfl
  have hiq : 0 < tq.size := by omega
  have hqx : tq[0] = x := strL_at hx0 htq hiq
  have hx : ((x.toNat : Int) == 45) = false := u8_ne (y := 45) (fun e => by
    cases t with
    | nil => simp at hx0
    | cons c r =>
      simp at hx0
      exact h2 r (by rw [hx0, e]))
  clear hx0
  have hi1 : (tq.toList == [105, 110, 102]) = true := by rw [htq, toList_strL, h0]; rfl
  have HR := Lib.hid (show Reads t 9218868437227405312 from HRD.out infR (h0 ▸ ut_inf))
  clear htq h0 HRD HNO hn h1 h2
  go_enter Tryd.func18, Tryd.ntmps18
  go_wp2_with fail
  go_ret2
  exact ⟨rfl, .inl ⟨_, HR.out, rfl⟩⟩

set_option maxRecDepth 100000 in
set_option maxHeartbeats 8000000 in
theorem refp_zero_pos (t : List UInt8) (h1 : t ≠ [110, 97, 110]) (h2 : ∀ r, t ≠ 45 :: r) (h0 : t = [48]) (w : World) (hl : t.length ≤ 4294967200) : Calls Tryd.prog 18 #[.string (strL (t))] w (RefPost w (t)) := by
  obtain ⟨n, hn⟩ : ∃ n, n = t.length := ⟨_, rfl⟩
  have hn2 : (n : Int) ≤ 4294967200 := by omega
  have hf := ext_from
  obtain ⟨tq, htq⟩ : ∃ tq, tq = strL t := ⟨_, rfl⟩
  have htn : tq.size = n := by rw [htq, strL_size, hn]
  have hnan : (tq.toList == [110, 97, 110]) = false := by rw [htq, toList_strL]; rw [beq_eq_false_iff_ne]; exact h1
  have HRD := Lib.hid (show ∀ r, UT t r → Reads t (0 + r) from fun r h => by rw [Nat.zero_add]; exact ut_pos h)
  have HNO := Lib.hid (show (∀ r, ¬ UT t r) → ∀ b, ¬ Reads t b from pos_ut h1 h2)
  rw [← htq]
  have hn0 : 0 < n := by rw [hn, h0]; simp
  obtain ⟨x, hx0⟩ : ∃ x, t[0]? = some x := ⟨_, List.getElem?_eq_getElem (by omega)⟩
  have hq0 : tq.toList.isEmpty = false := by
    rw [htq, toList_strL]
    cases t with
    | nil => simp at hx0
    | cons c r => rfl
  have hiq : 0 < tq.size := by omega
  have hqx : tq[0] = x := strL_at hx0 htq hiq
  have hx : ((x.toNat : Int) == 45) = false := u8_ne (y := 45) (fun e => by
    cases t with
    | nil => simp at hx0
    | cons c r =>
      simp at hx0
      exact h2 r (by rw [hx0, e]))
  clear hx0
  have hi1 : (tq.toList == [105, 110, 102]) = false := by rw [htq, toList_strL, h0]; rfl
  have hi2 : (tq.toList == [48]) = true := by rw [htq, toList_strL, h0]; rfl
  have HR := Lib.hid (show Reads t 0 from HRD.out 0 (h0 ▸ ut_zero))
  clear htq h0 HRD HNO hn h1 h2
  go_enter Tryd.func18, Tryd.ntmps18
  go_wp2_with fail
  go_ret2
  exact ⟨rfl, .inl ⟨_, HR.out, rfl⟩⟩

set_option maxRecDepth 100000 in
set_option maxHeartbeats 8000000 in
theorem refp_nop_pos (t : List UInt8) (h1 : t ≠ [110, 97, 110]) (h2 : ∀ r, t ≠ 45 :: r) (h3 : t ≠ [105, 110, 102]) (h4 : t ≠ [48]) (h5 : (112 : UInt8) ∉ t) (w : World) (hl : t.length ≤ 4294967200) : Calls Tryd.prog 18 #[.string (strL (t))] w (RefPost w (t)) := by
  obtain ⟨n, hn⟩ : ∃ n, n = t.length := ⟨_, rfl⟩
  have hn2 : (n : Int) ≤ 4294967200 := by omega
  have hf := ext_from
  obtain ⟨tq, htq⟩ : ∃ tq, tq = strL t := ⟨_, rfl⟩
  have htn : tq.size = n := by rw [htq, strL_size, hn]
  have hnan : (tq.toList == [110, 97, 110]) = false := by rw [htq, toList_strL]; rw [beq_eq_false_iff_ne]; exact h1
  have HRD := Lib.hid (show ∀ r, UT t r → Reads t (0 + r) from fun r h => by rw [Nat.zero_add]; exact ut_pos h)
  have HNO := Lib.hid (show (∀ r, ¬ UT t r) → ∀ b, ¬ Reads t b from pos_ut h1 h2)
  rw [← htq]
  have hi1 : (tq.toList == [105, 110, 102]) = false := by rw [htq, toList_strL, beq_eq_false_iff_ne]; exact h3
  have hi2 : (tq.toList == [48]) = false := by rw [htq, toList_strL, beq_eq_false_iff_ne]; exact h4
  have HN := Lib.hid (HNO.out (ut_none h3 h4 h5))
  have HP := Lib.hid (show ∀ k y, t[k]? = some y → ((y.toNat : Int) == 112) = false from fun k y hy => u8_ne (y := 112) (fun e => h5 (e ▸ List.mem_of_getElem? hy)))
  have HT := Lib.hid htq
  have HNN := Lib.hid hn
  by_cases hn0 : n = 0
  · have hq0 : tq.toList.isEmpty = true := by have ht0 : t = [] := List.eq_nil_of_length_eq_zero (by omega); rw [htq, toList_strL, ht0]; rfl
    clear htq hn h3 h4 h5 HRD HNO h1 h2 hn0
    go_enter Tryd.func18, Tryd.ntmps18
    go_wp2_with fail
    clear hq0 hnan hi1 hi2
    go_loopw [6, 7] (fun s6 s7 wr => ∃ k : Nat, k ≤ n ∧ s7 = .int .i64 (k : Int) ∧ s6 = .int .i64 (-1) ∧ wr = w) (fun s6 s7 wr => n - (intOf s7).toNat)
    case atStart => exact ⟨0, by omega, rfl, rfl, rfl⟩
    case round =>
      obtain ⟨k, hk, rfl, rfl, rfl⟩ := hrel
      by_cases hlt : k < n
      · have hltI : (k : Int) < (n : Int) := by omega
        obtain ⟨y, hy⟩ : ∃ y, t[k]? = some y := ⟨_, List.getElem?_eq_getElem (by have := HNN.out; omega)⟩
        have hkq : k < tq.size := by omega
        have hqy : tq[k] = y := strL_at hy HT.out hkq
        have hy2 := HP.out k y hy
        clear hy
        go_wp2_with fail
        go_roundw
        case rel => exact ⟨k + 1, by omega, by go_num, rfl, by first | rfl | exact True.intro⟩
        case measure => simp [intOf]; omega
      · have hltI : ¬ (k : Int) < (n : Int) := by omega
        go_wp2_with fail
        go_ret2
        exact ⟨by first | rfl | exact True.intro, .inr ⟨HN.out, rfl⟩⟩
  · have hn0 : 0 < n := by omega
    obtain ⟨x, hx0⟩ : ∃ x, t[0]? = some x := ⟨_, List.getElem?_eq_getElem (by omega)⟩
    have hq0 : tq.toList.isEmpty = false := by
      rw [htq, toList_strL]
      cases t with
      | nil => simp at hx0
      | cons c r => rfl
    have hiq : 0 < tq.size := by omega
    have hqx : tq[0] = x := strL_at hx0 htq hiq
    have hx : ((x.toNat : Int) == 45) = false := u8_ne (y := 45) (fun e => by
      cases t with
      | nil => simp at hx0
      | cons c r =>
        simp at hx0
        exact h2 r (by rw [hx0, e]))
    clear hx0
    clear htq hn h3 h4 h5 HRD HNO h1 h2
    go_enter Tryd.func18, Tryd.ntmps18
    go_wp2_with fail
    clear hiq hqx hx hq0 hnan hi1 hi2
    go_loopw [6, 7] (fun s6 s7 wr => ∃ k : Nat, k ≤ n ∧ s7 = .int .i64 (k : Int) ∧ s6 = .int .i64 (-1) ∧ wr = w) (fun s6 s7 wr => n - (intOf s7).toNat)
    case atStart => exact ⟨0, by omega, rfl, rfl, rfl⟩
    case round =>
      obtain ⟨k, hk, rfl, rfl, rfl⟩ := hrel
      by_cases hlt : k < n
      · have hltI : (k : Int) < (n : Int) := by omega
        obtain ⟨y, hy⟩ : ∃ y, t[k]? = some y := ⟨_, List.getElem?_eq_getElem (by have := HNN.out; omega)⟩
        have hkq : k < tq.size := by omega
        have hqy : tq[k] = y := strL_at hy HT.out hkq
        have hy2 := HP.out k y hy
        clear hy
        go_wp2_with fail
        go_roundw
        case rel => exact ⟨k + 1, by omega, by go_num, rfl, by first | rfl | exact True.intro⟩
        case measure => simp [intOf]; omega
      · have hltI : ¬ (k : Int) < (n : Int) := by omega
        go_wp2_with fail
        go_ret2
        exact ⟨by first | rfl | exact True.intro, .inr ⟨HN.out, rfl⟩⟩

end Go.Proofs.YtehminpiejophaaDoor
