/- DataCons: the runs of the abstract machine, one for each class of the two arguments. -/
import Derived.Test.YthobghcnjampjaaAmDc
import Derived.Test.YthobghcnjampjaaAmV
import Derived.KernelRfl
set_option maxRecDepth 100000
set_option linter.unusedVariables false
namespace Go.Am.DataCons
open Go.Am
def isT : Option (AV × Heap × List Nat) → Bool
  | some (.bool true, _) => true
  | _ => false
theorem isT_inv {r : Option (AV × Heap × List Nat)} (h : isT r = true) : ∃ h' om', r = some (.bool true, h', om') := by
  unfold isT at h
  split at h
  · rename_i q; exact ⟨q.1, q.2, rfl⟩
  · simp at h
theorem runs (om : List Nat) : ((List.range 5).all fun i => (List.range 6).all fun j => isT (callX prog 60 9 [.int .u8 (Int.ofNat i), .int .u8 (Int.ofNat j)] Heap.empty om)) = true := by kernel_rfl
def W : Wk := [(0, 5), (1, 6), (15, 5), (16, 5), (42, 6), (52, 6), (53, 6), (64, 6), (76, 6), (84, 6), (109, 6), (110, 6)]
theorem wk : wkCode W f9.body = true := by kernel_rfl
theorem wr : strong W (resTmps f9.results) = true := by kernel_rfl
theorem arg (M : Nat) (a : Int) (h0 : 0 ≤ a) (h1 : a ≤ 255) (hM : 0 < M) (hM' : M ≤ 255) (k : Nat) (hw : wm W k = some M) : SW W k (.v (.int .u8 a)) (.v (.int .u8 (a % M))) := by
  unfold SW
  rw [hw]
  have hM0 : (M : Int) ≠ 0 := by omega
  have l1 := Int.emod_nonneg a hM0
  have l2 := Int.emod_lt_of_pos a (show (0 : Int) < M by omega)
  exact .inr (.inr ⟨.u8, a, a % M, rfl, rfl, ⟨h0, h1⟩, ⟨l1, by omega⟩, by rw [Int.emod_emod]⟩)
theorem run (a b : Int) (a0 : 0 ≤ a) (a1 : a ≤ 255) (b0 : 0 ≤ b) (b1 : b ≤ 255) (om : List Nat) : ∃ h' om', callN prog 60 9 [.int .u8 a, .int .u8 b] Heap.empty om = some (.bool true, h', om') := by
  rw [weak_call (prog := prog) (g := 9) (f := f9) rfl wk wr (as := [.int .u8 a, .int .u8 b]) (bs := [.int .u8 (a % (5 : Nat)), .int .u8 (b % (6 : Nat))]) ⟨arg 5 a a0 a1 (by omega) (by omega) 0 rfl, arg 6 b b0 b1 (by omega) (by omega) 1 rfl, trivial⟩ 59]
  obtain ⟨i, hi, ei⟩ : ∃ i : Nat, i < 5 ∧ a % (5 : Nat) = Int.ofNat i := ⟨(a % (5 : Nat)).toNat, by omega, by rw [Int.ofNat_eq_natCast]; omega⟩
  obtain ⟨j, hj, ej⟩ : ∃ j : Nat, j < 6 ∧ b % (6 : Nat) = Int.ofNat j := ⟨(b % (6 : Nat)).toNat, by omega, by rw [Int.ofNat_eq_natCast]; omega⟩
  rw [ei, ej]
  have h1 := List.all_eq_true.1 (runs om) i (by simpa using hi)
  have h2 := List.all_eq_true.1 h1 j (by simpa using hj)
  rw [callX_eq] at h2
  exact isT_inv h2
end Go.Am.DataCons
