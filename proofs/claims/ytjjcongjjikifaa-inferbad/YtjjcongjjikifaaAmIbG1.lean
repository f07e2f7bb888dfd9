/- InferBad: the schemes of the programs, whatever the choices. -/
import Derived.Test.YtjjcongjjikifaaAmIbD
import Derived.Test.YtjjcongjjikifaaAmO
import Derived.KernelRfl
set_option maxRecDepth 100000
set_option linter.unusedVariables false
namespace Go.Am.Infer
open Go.Am
theorem g5_ (om : List Nat) : leaf (callX prog 300 16 [.pl [] 0 .nil, Dd, b5] Heap.empty (om)) = some (r5, true) := by kernel_rfl
theorem g6_ (om : List Nat) : leaf (callX prog 300 16 [.pl [] 0 .nil, Dd, b6] Heap.empty (om)) = some (r6, true) := by kernel_rfl
theorem g7_ (om : List Nat) : leaf (callX prog 300 16 [.pl [] 0 .nil, Dd, b7] Heap.empty (om)) = some (r7, true) := by kernel_rfl
theorem g8_ (om : List Nat) : leaf (callX prog 300 16 [.pl [] 0 .nil, Dd, b8] Heap.empty (om)) = some (r8, true) := by kernel_rfl
theorem g9_n : leaf (callX prog 300 16 [.pl [] 0 .nil, Dd, b9] Heap.empty ([])) = some (r9, true) := by kernel_rfl
theorem g9_0 (om : List Nat) : leaf (callX prog 300 16 [.pl [] 0 .nil, Dd, b9] Heap.empty (0 :: om)) = some (r9, true) := by kernel_rfl
theorem g9_1 (n0 : Nat) (om : List Nat) : leaf (callX prog 300 16 [.pl [] 0 .nil, Dd, b9] Heap.empty (Nat.succ n0 :: om)) = some (r9, true) := by kernel_rfl
theorem g9_ (om : List Nat) : leaf (callX prog 300 16 [.pl [] 0 .nil, Dd, b9] Heap.empty (om)) = some (r9, true) := by
  rcases om with _ | ⟨_ | m, om⟩
  · exact g9_n
  · exact g9_0 om
  · exact g9_1 m om
end Go.Am.Infer
