/- append of a string's bytes onto a slice of bytes of the call's own. -/
import Derived.Test.YthpcanibahcghaaBytesV
import Derived.Lib.AppendStr
set_option linter.unusedVariables false
namespace Go.Proofs.Ythpcanibahcghaa
open Go.RowKit

theorem append_str {P : Program} {w : World} {t u e : TypeId} (E : ElemOf P t e (.int .u8 0) 1 1) (hu : P.underlying u = some .string)
    {base : Nat} {v : Value} {n : Nat} {xs : List Value} (hown : w.ownsRow base e 1 v n xs) (s : ByteArray)
    (hbytes : n + s.size ≤ 140737488355328) (h63 : n + s.size ≤ maxLen) (hbase : base ≤ w.heap.size) (ty : TypeId) :
    ∃ A' c' w', (Builtin.append_ #[t, u] ty #[v, .string s]).run P w = .ok (.slice A' (n + s.size) c') w' ∧ Appended w w' base e 1 v (.slice A' (n + s.size) c') (n + s.size) (xs ++ bytesV s.data.toList) ∧ n + s.size ≤ c' ∧ c' ≤ maxLen := by
  obtain ⟨ht, hi, hzs, hsz⟩ := E
  obtain ⟨i, hi, hz, hsize, hby⟩ := info_parts hi
  obtain ⟨v', w', hr, hown', hg, hnil⟩ := Lib.run_append_own_string (P := P) w base t u ty e i ht hu hi hz hsize hby v n xs hown s h63 hbytes hbase
  have hxl : xs.length = n := by simpa using hown.1
  have hplace : v'.ownBlock = v.ownBlock ∨ v'.ownBlock = some w.heap.size := by
    rcases hown.2 with ⟨rfl, rfl⟩ | ⟨g, cap, cur, rfl, hbg, hgc, hnc, hcm, hcs, htake⟩
    · by_cases hm : s.size = 0
      · exact .inl (by rw [hnil.2 ⟨rfl, hm⟩])
      · have hr2 := run_append_nil_string (P := P) w t u ty e i (.int .u8 0) ht hu hi hz s (by omega) (by simp only [maxLen] at h63; omega) (by rw [hby]; omega)
        rw [hr] at hr2
        injection hr2 with hv _
        subst hv
        exact .inr rfl
    · by_cases hroom : n + s.size ≤ cap
      · have hcs' : cur.size = cap := by simpa using hcs
        have hr2 := Lib.run_append_room_string (P := P) w t u ty e i ht hu hi hsize g n cap cur hgc s hroom (by omega)
        rw [hr] at hr2
        injection hr2 with hv _
        subst hv
        exact .inl rfl
      · have holds : ∀ j u, xs[j]? = some u → w.cell? ((⟨g, 0, none⟩ : Addr).add j) = some u := hown.cells (g := g) rfl
        have hr2 := Lib.run_append_grow_string (P := P) w t u ty e i (.int .u8 0) ht hu hi hz ⟨g, 0, none⟩ n cap xs (by rw [hsize]; simpa using hxl) holds s (by omega) (by simp only [maxLen] at h63; omega) (by rw [hby]; exact growslice_fits (by omega) (by omega))
        rw [hr] at hr2
        injection hr2 with hv _
        subst hv
        exact .inr rfl
  obtain ⟨A', c', rfl, h3, h4⟩ := own_form hown'
  exact ⟨A', c', w', hr, ⟨hown', hg, (Below.refl _ _).grown hg hbase (fun k hk => (hown.lt k hk).1), hplace, ⟨A', c', rfl, h3, h4⟩⟩, h3, h4⟩
end Go.Proofs.Ythpcanibahcghaa
