/- InferKnown: what the texts are as programs. -/
import Derived.Test.YtjjcongjjikifaaAmIkD
import Derived.Test.YtjjcongjjikifaaAmO
import Derived.KernelRfl
set_option maxRecDepth 100000
set_option linter.unusedVariables false
namespace Go.Am.Infer
open Go.Am
theorem binds0 (om : List Nat) : leaf (callX prog 300 15 [s0] Heap.empty om) = some (.agg [Dd, b0], true) := by kernel_rfl
theorem binds1 (om : List Nat) : leaf (callX prog 300 15 [s1] Heap.empty om) = some (.agg [Dd, b1], true) := by kernel_rfl
theorem binds2 (om : List Nat) : leaf (callX prog 300 15 [s2] Heap.empty om) = some (.agg [Dd, b2], true) := by kernel_rfl
end Go.Am.Infer
