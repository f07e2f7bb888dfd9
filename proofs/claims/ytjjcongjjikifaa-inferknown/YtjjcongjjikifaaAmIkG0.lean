/- InferKnown: the schemes of the programs, whatever the choices. -/
import Derived.Test.YtjjcongjjikifaaAmIkD
import Derived.Test.YtjjcongjjikifaaAmO
import Derived.KernelRfl
set_option maxRecDepth 100000
set_option linter.unusedVariables false
namespace Go.Am.Infer
open Go.Am
theorem g0_ (om : List Nat) : leaf (callX prog 300 16 [.pl [] 0 .nil, Dd, b0] Heap.empty (om)) = some (r0, true) := by kernel_rfl
theorem g1_ (om : List Nat) : leaf (callX prog 300 16 [.pl [] 0 .nil, Dd, b1] Heap.empty (om)) = some (r1, true) := by kernel_rfl
theorem g2_ (om : List Nat) : leaf (callX prog 300 16 [.pl [] 0 .nil, Dd, b2] Heap.empty (om)) = some (r2, true) := by kernel_rfl
theorem g3_ (om : List Nat) : leaf (callX prog 300 16 [.pl [] 0 .nil, Dd, b3] Heap.empty (om)) = some (r3, true) := by kernel_rfl
theorem g4_ (om : List Nat) : leaf (callX prog 300 16 [.pl [] 0 .nil, Dd, b4] Heap.empty (om)) = some (r4, true) := by kernel_rfl
end Go.Am.Infer
