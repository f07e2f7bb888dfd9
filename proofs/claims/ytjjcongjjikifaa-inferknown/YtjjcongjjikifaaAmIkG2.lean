/- InferKnown: the schemes of the programs, whatever the choices. -/
import Derived.Test.YtjjcongjjikifaaAmIkD
import Derived.Test.YtjjcongjjikifaaAmO
import Derived.KernelRfl
set_option maxRecDepth 100000
set_option linter.unusedVariables false
namespace Go.Am.Infer
open Go.Am
theorem g10_n : leaf (callX prog 300 16 [.pl [] 0 .nil, Dd, b10] Heap.empty ([])) = some (r10, true) := by kernel_rfl
theorem g10_0 (om : List Nat) : leaf (callX prog 300 16 [.pl [] 0 .nil, Dd, b10] Heap.empty (0 :: om)) = some (r10, true) := by kernel_rfl
theorem g10_1 (n0 : Nat) (om : List Nat) : leaf (callX prog 300 16 [.pl [] 0 .nil, Dd, b10] Heap.empty (Nat.succ n0 :: om)) = some (r10, true) := by kernel_rfl
theorem g10_ (om : List Nat) : leaf (callX prog 300 16 [.pl [] 0 .nil, Dd, b10] Heap.empty (om)) = some (r10, true) := by
  rcases om with _ | ⟨_ | m, om⟩
  · exact g10_n
  · exact g10_0 om
  · exact g10_1 m om
theorem g11_ (om : List Nat) : leaf (callX prog 300 16 [.pl [] 0 .nil, Dd, b11] Heap.empty (om)) = some (r11, true) := by kernel_rfl
theorem g12_ (om : List Nat) : leaf (callX prog 300 16 [.pl [] 0 .nil, Dd, b12] Heap.empty (om)) = some (r12, true) := by kernel_rfl
theorem g13_ (om : List Nat) : leaf (callX prog 300 16 [.pl [] 0 .nil, Dd, b13] Heap.empty (om)) = some (r13, true) := by kernel_rfl
theorem g14_n : leaf (callX prog 300 16 [.pl [] 0 .nil, Dd, b14] Heap.empty ([])) = some (r14, true) := by kernel_rfl
theorem g14_0 (om : List Nat) : leaf (callX prog 300 16 [.pl [] 0 .nil, Dd, b14] Heap.empty (0 :: om)) = some (r14, true) := by kernel_rfl
theorem g14_1 (n0 : Nat) (om : List Nat) : leaf (callX prog 300 16 [.pl [] 0 .nil, Dd, b14] Heap.empty (Nat.succ n0 :: om)) = some (r14, true) := by kernel_rfl
theorem g14_ (om : List Nat) : leaf (callX prog 300 16 [.pl [] 0 .nil, Dd, b14] Heap.empty (om)) = some (r14, true) := by
  rcases om with _ | ⟨_ | m, om⟩
  · exact g14_n
  · exact g14_0 om
  · exact g14_1 m om
end Go.Am.Infer
