/- InferKnown: what the texts are as programs. -/
import Derived.Test.YtjjcongjjikifaaAmIkD
import Derived.Test.YtjjcongjjikifaaAmO
import Derived.KernelRfl
set_option maxRecDepth 100000
set_option linter.unusedVariables false
namespace Go.Am.Infer
open Go.Am
theorem binds3 (om : List Nat) : leaf (callX prog 300 15 [s3] Heap.empty om) = some (.agg [Dd, b3], true) := by kernel_rfl
theorem binds4 (om : List Nat) : leaf (callX prog 300 15 [s4] Heap.empty om) = some (.agg [Dd, b4], true) := by kernel_rfl
theorem binds5 (om : List Nat) : leaf (callX prog 300 15 [s5] Heap.empty om) = some (.agg [Dd, b5], true) := by kernel_rfl
end Go.Am.Infer
