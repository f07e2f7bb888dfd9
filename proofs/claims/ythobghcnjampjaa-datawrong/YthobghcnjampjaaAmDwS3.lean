/- DataWrong: runs of the abstract machine, one for each text. -/
import Derived.Test.YthobghcnjampjaaAmDw
import Derived.Test.YthobghcnjampjaaAmV
import Derived.Test.YthobghcnjampjaaAmDwI
import Derived.KernelRfl
set_option maxRecDepth 100000
namespace Go.Am.DataWrong
open Go.Am
theorem run9 (om : List Nat) : isT (callX prog 150 7 [.int .u8 (Int.ofNat 9)] Heap.empty om) = true := by kernel_rfl
theorem run10 (om : List Nat) : isT (callX prog 150 7 [.int .u8 (Int.ofNat 10)] Heap.empty om) = true := by kernel_rfl
end Go.Am.DataWrong
