/- Bytes and numbers as cells. -/
import Derived.Test.YtlddnghfjdjglaaDoorMem
set_option linter.unusedVariables false
namespace Go.Proofs.YtlddnghfjdjglaaDoor
open Go.RowKit

def bytesV (l : List UInt8) : List Value := l.map fun b => .int .u8 (b.toNat : Int)
/-- numbers, as cells -/
def natsV (l : List Nat) : List Value := l.map fun (n : Nat) => .int .i64 (n : Int)

theorem bytesV_drop (l : List UInt8) (k : Nat) : (bytesV l).drop k = bytesV (l.drop k) := by simp [bytesV]
theorem bytesV_take (l : List UInt8) (k : Nat) : (bytesV l).take k = bytesV (l.take k) := by simp [bytesV]
theorem bytesV_length (l : List UInt8) : (bytesV l).length = l.length := by simp [bytesV]
theorem bytesV_one (l : List UInt8) : ∀ u ∈ bytesV l, u.oneCell' = true := by
  intro u hu
  obtain ⟨_, _, rfl⟩ := List.mem_map.1 hu
  rfl
theorem bytesV_get (l : List UInt8) (k : Nat) (hk : k < l.length) : (bytesV l)[k]? = some (.int .u8 (l[k].toNat : Int)) := by
  simp [bytesV, hk]
theorem bytesV_look {w : World} {A : Option Addr} {n k : Nat} {l : List UInt8} (h : Sl w 1 A n (bytesV l)) (hk : k < n) :
    ∃ (b off : Nat) (x : UInt8), A = some ⟨b, off, none⟩ ∧ b < w.heap.size ∧ w.cell? ⟨b, off + k, none⟩ = some (.int .u8 (x.toNat : Int)) ∧ l.drop k = x :: l.drop (k + 1) := by
  have hl : l.length = n := by have := h.1; simpa [bytesV] using this
  have hkl : k < l.length := by omega
  obtain ⟨b, off, u, e, hb, hu, hc⟩ := h.look hk
  rw [bytesV_get l k hkl] at hu
  injection hu with hu
  subst hu
  exact ⟨b, off, l[k], e, hb, hc, List.drop_eq_getElem_cons hkl⟩
theorem natsV_one (l : List Nat) : ∀ u ∈ natsV l, u.oneCell' = true := by
  intro u hu
  obtain ⟨_, _, rfl⟩ := List.mem_map.1 hu
  rfl
theorem natsV_length (l : List Nat) : (natsV l).length = l.length := by simp [natsV]
theorem natsV_get (l : List Nat) (k : Nat) (hk : k < l.length) : (natsV l)[k]? = some (.int .i64 (l[k] : Int)) := by
  simp [natsV, hk]
end Go.Proofs.YtlddnghfjdjglaaDoor
