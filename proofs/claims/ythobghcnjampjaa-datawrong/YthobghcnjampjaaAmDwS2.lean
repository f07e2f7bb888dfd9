/- DataWrong: runs of the abstract machine, one for each text. -/
import Derived.Test.YthobghcnjampjaaAmDw
import Derived.Test.YthobghcnjampjaaAmV
import Derived.Test.YthobghcnjampjaaAmDwI
import Derived.KernelRfl
set_option maxRecDepth 100000
namespace Go.Am.DataWrong
open Go.Am
theorem run6 (om : List Nat) : isT (callX prog 150 7 [.int .u8 (Int.ofNat 6)] Heap.empty om) = true := by kernel_rfl
theorem run7 (om : List Nat) : isT (callX prog 150 7 [.int .u8 (Int.ofNat 7)] Heap.empty om) = true := by kernel_rfl
theorem run8 (om : List Nat) : isT (callX prog 150 7 [.int .u8 (Int.ofNat 8)] Heap.empty om) = true := by kernel_rfl
end Go.Am.DataWrong
