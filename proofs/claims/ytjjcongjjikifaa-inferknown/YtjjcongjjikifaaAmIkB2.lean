/- InferKnown: what the texts are as programs. -/
import Derived.Test.YtjjcongjjikifaaAmIkD
import Derived.Test.YtjjcongjjikifaaAmO
import Derived.KernelRfl
set_option maxRecDepth 100000
set_option linter.unusedVariables false
namespace Go.Am.Infer
open Go.Am
theorem binds6 (om : List Nat) : leaf (callX prog 300 15 [s6] Heap.empty om) = some (.agg [Dd, b6], true) := by kernel_rfl
theorem binds7 (om : List Nat) : leaf (callX prog 300 15 [s7] Heap.empty om) = some (.agg [Dd, b7], true) := by kernel_rfl
theorem binds8 (om : List Nat) : leaf (callX prog 300 15 [s8] Heap.empty om) = some (.agg [Dd, b8], true) := by kernel_rfl
end Go.Am.Infer
