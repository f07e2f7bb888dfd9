/- InferKnown: what the texts are as programs. -/
import Derived.Test.YtjjcongjjikifaaAmIkD
import Derived.Test.YtjjcongjjikifaaAmO
import Derived.KernelRfl
set_option maxRecDepth 100000
set_option linter.unusedVariables false
namespace Go.Am.Infer
open Go.Am
theorem binds12 (om : List Nat) : leaf (callX prog 300 15 [s12] Heap.empty om) = some (.agg [Dd, b12], true) := by kernel_rfl
theorem binds13 (om : List Nat) : leaf (callX prog 300 15 [s13] Heap.empty om) = some (.agg [Dd, b13], true) := by kernel_rfl
theorem binds14 (om : List Nat) : leaf (callX prog 300 15 [s14] Heap.empty om) = some (.agg [Dd, b14], true) := by kernel_rfl
end Go.Am.Infer
