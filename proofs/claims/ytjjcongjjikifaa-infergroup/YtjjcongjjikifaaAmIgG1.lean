/- InferGroup: the schemes of the programs, whatever the choices. -/
import Derived.Test.YtjjcongjjikifaaAmIgD
import Derived.Test.YtjjcongjjikifaaAmO
import Derived.KernelRfl
set_option maxRecDepth 100000
set_option linter.unusedVariables false
namespace Go.Am.Infer
open Go.Am
theorem g5_n : leaf (callX prog 300 16 [.pl [] 0 .nil, Dd, b5] Heap.empty ([])) = some (r5, true) := by kernel_rfl
theorem g5_0n : leaf (callX prog 300 16 [.pl [] 0 .nil, Dd, b5] Heap.empty (0 :: [])) = some (r5, true) := by kernel_rfl
theorem g5_00 (om : List Nat) : leaf (callX prog 300 16 [.pl [] 0 .nil, Dd, b5] Heap.empty (0 :: 0 :: om)) = some (r5, true) := by kernel_rfl
theorem g5_01 (n1 : Nat) (om : List Nat) : leaf (callX prog 300 16 [.pl [] 0 .nil, Dd, b5] Heap.empty (0 :: Nat.succ n1 :: om)) = some (r5, true) := by kernel_rfl
theorem g5_0 (om : List Nat) : leaf (callX prog 300 16 [.pl [] 0 .nil, Dd, b5] Heap.empty (0 :: om)) = some (r5, true) := by
  rcases om with _ | ⟨_ | m, om⟩
  · exact g5_0n
  · exact g5_00 om
  · exact g5_01 m om
theorem g5_1n (n0 : Nat) : leaf (callX prog 300 16 [.pl [] 0 .nil, Dd, b5] Heap.empty (Nat.succ n0 :: [])) = some (r5, true) := by kernel_rfl
theorem g5_10n (n0 : Nat) : leaf (callX prog 300 16 [.pl [] 0 .nil, Dd, b5] Heap.empty (Nat.succ n0 :: 0 :: [])) = some (r5, true) := by kernel_rfl
theorem g5_100 (n0 : Nat) (om : List Nat) : leaf (callX prog 300 16 [.pl [] 0 .nil, Dd, b5] Heap.empty (Nat.succ n0 :: 0 :: 0 :: om)) = some (r5, true) := by kernel_rfl
theorem g5_101 (n0 : Nat) (n2 : Nat) (om : List Nat) : leaf (callX prog 300 16 [.pl [] 0 .nil, Dd, b5] Heap.empty (Nat.succ n0 :: 0 :: Nat.succ n2 :: om)) = some (r5, true) := by kernel_rfl
theorem g5_10 (n0 : Nat) (om : List Nat) : leaf (callX prog 300 16 [.pl [] 0 .nil, Dd, b5] Heap.empty (Nat.succ n0 :: 0 :: om)) = some (r5, true) := by
  rcases om with _ | ⟨_ | m, om⟩
  · exact g5_10n n0
  · exact g5_100 n0 om
  · exact g5_101 n0 m om
theorem g5_11n (n0 : Nat) (n1 : Nat) : leaf (callX prog 300 16 [.pl [] 0 .nil, Dd, b5] Heap.empty (Nat.succ n0 :: Nat.succ n1 :: [])) = some (r5, true) := by kernel_rfl
theorem g5_110 (n0 : Nat) (n1 : Nat) (om : List Nat) : leaf (callX prog 300 16 [.pl [] 0 .nil, Dd, b5] Heap.empty (Nat.succ n0 :: Nat.succ n1 :: 0 :: om)) = some (r5, true) := by kernel_rfl
theorem g5_111 (n0 : Nat) (n1 : Nat) (n2 : Nat) (om : List Nat) : leaf (callX prog 300 16 [.pl [] 0 .nil, Dd, b5] Heap.empty (Nat.succ n0 :: Nat.succ n1 :: Nat.succ n2 :: om)) = some (r5, true) := by kernel_rfl
theorem g5_11 (n0 : Nat) (n1 : Nat) (om : List Nat) : leaf (callX prog 300 16 [.pl [] 0 .nil, Dd, b5] Heap.empty (Nat.succ n0 :: Nat.succ n1 :: om)) = some (r5, true) := by
  rcases om with _ | ⟨_ | m, om⟩
  · exact g5_11n n0 n1
  · exact g5_110 n0 n1 om
  · exact g5_111 n0 n1 m om
theorem g5_1 (n0 : Nat) (om : List Nat) : leaf (callX prog 300 16 [.pl [] 0 .nil, Dd, b5] Heap.empty (Nat.succ n0 :: om)) = some (r5, true) := by
  rcases om with _ | ⟨_ | m, om⟩
  · exact g5_1n n0
  · exact g5_10 n0 om
  · exact g5_11 n0 m om
theorem g5_ (om : List Nat) : leaf (callX prog 300 16 [.pl [] 0 .nil, Dd, b5] Heap.empty (om)) = some (r5, true) := by
  rcases om with _ | ⟨_ | m, om⟩
  · exact g5_n
  · exact g5_0 om
  · exact g5_1 m om
theorem g6_ (om : List Nat) : leaf (callX prog 300 16 [.pl [] 0 .nil, Dd, b6] Heap.empty (om)) = some (r6, true) := by kernel_rfl
end Go.Am.Infer
