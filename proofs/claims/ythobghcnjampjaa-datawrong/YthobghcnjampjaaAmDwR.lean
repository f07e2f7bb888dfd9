/- DataWrong: the runs of the abstract machine, one for each text. -/
import Derived.Test.YthobghcnjampjaaAmDw
import Derived.Test.YthobghcnjampjaaAmDwS0
import Derived.Test.YthobghcnjampjaaAmDwS1
import Derived.Test.YthobghcnjampjaaAmDwS2
import Derived.Test.YthobghcnjampjaaAmDwS3
import Derived.Test.YthobghcnjampjaaAmV
import Derived.KernelRfl
set_option maxRecDepth 100000
set_option linter.unusedVariables false
namespace Go.Am.DataWrong
open Go.Am
theorem isT_inv {r : Option (AV × Heap × List Nat)} (h : isT r = true) : ∃ h' om', r = some (.bool true, h', om') := by
  unfold isT at h
  split at h
  · rename_i q; exact ⟨q.1, q.2, rfl⟩
  · simp at h
theorem runs (om : List Nat) : ∀ i, i < 11 → isT (callX prog 150 7 [.int .u8 (Int.ofNat i)] Heap.empty om) = true
  | 0, _ => run0 om
  | 1, _ => run1 om
  | 2, _ => run2 om
  | 3, _ => run3 om
  | 4, _ => run4 om
  | 5, _ => run5 om
  | 6, _ => run6 om
  | 7, _ => run7 om
  | 8, _ => run8 om
  | 9, _ => run9 om
  | 10, _ => run10 om
  | n + 11, h => absurd h (by omega)
theorem firsts (om : List Nat) : ((List.range 256).map fun i => (firstX prog 149 4 f7.body [.int .u8 (Int.ofNat i)] om).map (blankX [0, 14, 15])) = ((List.range 256).map fun i => (firstX prog 149 4 f7.body [.int .u8 (Int.ofNat (i % 11))] om).map (blankX [0, 14, 15])) := by kernel_rfl
theorem somes (om : List Nat) : ((List.range 256).all fun i => (firstX prog 149 4 f7.body [.int .u8 (Int.ofNat i)] om).isSome) = true := by kernel_rfl
theorem wk : wkCode ([0, 14, 15].map fun k => (k, 0)) (rest 4 f7.body) = true := by kernel_rfl
theorem wr : strong ([0, 14, 15].map fun k => (k, 0)) (resTmps f7.results) = true := by kernel_rfl
theorem run (a : Int) (a0 : 0 ≤ a) (a1 : a ≤ 255) (om : List Nat) : ∃ h' om', callN prog 150 7 [.int .u8 a] Heap.empty om = some (.bool true, h', om') := by
  obtain ⟨i, hi, rfl⟩ : ∃ i : Nat, i < 256 ∧ a = Int.ofNat i := ⟨a.toNat, by omega, by rw [Int.ofNat_eq_natCast]; omega⟩
  have he := congrArg (fun l => l[i]?) (firsts om)
  simp only [List.getElem?_map, List.getElem?_range hi, Option.map_some, Option.some.injEq] at he
  have s1 := List.all_eq_true.1 (somes om) i (by simpa using hi)
  rw [weak_firstX (prog := prog) (g := 7) (f := f7) rfl (ks := [0, 14, 15]) 4 wk wr (as := [.int .u8 (Int.ofNat i)]) (bs := [.int .u8 (Int.ofNat (i % 11))]) rfl (n := 149) s1 he]
  have h1 := runs om (i % 11) (by omega)
  rw [callX_eq] at h1
  exact isT_inv h1
end Go.Am.DataWrong
