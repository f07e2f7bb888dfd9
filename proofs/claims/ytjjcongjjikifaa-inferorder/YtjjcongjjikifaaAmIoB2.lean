/- InferOrder: what the texts are as programs. -/
import Derived.Test.YtjjcongjjikifaaAmIoD
import Derived.Test.YtjjcongjjikifaaAmO
import Derived.KernelRfl
set_option maxRecDepth 100000
set_option linter.unusedVariables false
namespace Go.Am.Infer
open Go.Am
theorem binds6 (om : List Nat) : leaf (callX prog 300 15 [s6] Heap.empty om) = some (.agg [Dd, b6], true) := by kernel_rfl
end Go.Am.Infer
