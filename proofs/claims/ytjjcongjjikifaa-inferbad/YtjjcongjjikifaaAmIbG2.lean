/- InferBad: the schemes of the programs, whatever the choices. -/
import Derived.Test.YtjjcongjjikifaaAmIbD
import Derived.Test.YtjjcongjjikifaaAmO
import Derived.KernelRfl
set_option maxRecDepth 100000
set_option linter.unusedVariables false
namespace Go.Am.Infer
open Go.Am
theorem g10_ (om : List Nat) : leaf (callX prog 300 16 [.pl [] 0 .nil, Dd, b10] Heap.empty (om)) = some (r10, true) := by kernel_rfl
theorem g11_ (om : List Nat) : leaf (callX prog 300 16 [.pl [] 0 .nil, Dd, b11] Heap.empty (om)) = some (r11, true) := by kernel_rfl
theorem g12_ (om : List Nat) : leaf (callX prog 300 16 [.pl [] 0 .nil, Dd, b12] Heap.empty (om)) = some (r12, true) := by kernel_rfl
theorem g13_ (om : List Nat) : leaf (callX prog 300 16 [.pl [] 0 .nil, Dd, b13] Heap.empty (om)) = some (r13, true) := by kernel_rfl
end Go.Am.Infer
