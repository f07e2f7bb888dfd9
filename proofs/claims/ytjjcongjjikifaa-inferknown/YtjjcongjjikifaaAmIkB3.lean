/- InferKnown: what the texts are as programs. -/
import Derived.Test.YtjjcongjjikifaaAmIkD
import Derived.Test.YtjjcongjjikifaaAmO
import Derived.KernelRfl
set_option maxRecDepth 100000
set_option linter.unusedVariables false
namespace Go.Am.Infer
open Go.Am
theorem binds9 (om : List Nat) : leaf (callX prog 300 15 [s9] Heap.empty om) = some (.agg [Dd, b9], true) := by kernel_rfl
theorem binds10 (om : List Nat) : leaf (callX prog 300 15 [s10] Heap.empty om) = some (.agg [Dd, b10], true) := by kernel_rfl
theorem binds11 (om : List Nat) : leaf (callX prog 300 15 [s11] Heap.empty om) = some (.agg [Dd, b11], true) := by kernel_rfl
end Go.Am.Infer
