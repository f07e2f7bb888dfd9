/- InferOrder: the schemes of the programs, whatever the choices. -/
import Derived.Test.YtjjcongjjikifaaAmIoD
import Derived.Test.YtjjcongjjikifaaAmO
import Derived.KernelRfl
set_option maxRecDepth 100000
set_option linter.unusedVariables false
namespace Go.Am.Infer
open Go.Am
theorem g5_ (om : List Nat) : leaf (callX prog 300 16 [.pl [] 0 .nil, Dd, b5] Heap.empty (om)) = some (r5, true) := by kernel_rfl
theorem g6_ (om : List Nat) : leaf (callX prog 300 16 [.pl [] 0 .nil, Dd, b6] Heap.empty (om)) = some (r6, true) := by kernel_rfl
end Go.Am.Infer
