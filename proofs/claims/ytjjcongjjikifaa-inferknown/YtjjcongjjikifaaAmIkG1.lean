/- InferKnown: the schemes of the programs, whatever the choices. -/
import Derived.Test.YtjjcongjjikifaaAmIkD
import Derived.Test.YtjjcongjjikifaaAmO
import Derived.KernelRfl
set_option maxRecDepth 100000
set_option linter.unusedVariables false
namespace Go.Am.Infer
open Go.Am
theorem g5_ (om : List Nat) : leaf (callX prog 300 16 [.pl [] 0 .nil, Dd, b5] Heap.empty (om)) = some (r5, true) := by kernel_rfl
theorem g6_n : leaf (callX prog 300 16 [.pl [] 0 .nil, Dd, b6] Heap.empty ([])) = some (r6, true) := by kernel_rfl
theorem g6_0n : leaf (callX prog 300 16 [.pl [] 0 .nil, Dd, b6] Heap.empty (0 :: [])) = some (r6, true) := by kernel_rfl
theorem g6_00n : leaf (callX prog 300 16 [.pl [] 0 .nil, Dd, b6] Heap.empty (0 :: 0 :: [])) = some (r6, true) := by kernel_rfl
theorem g6_000 (om : List Nat) : leaf (callX prog 300 16 [.pl [] 0 .nil, Dd, b6] Heap.empty (0 :: 0 :: 0 :: om)) = some (r6, true) := by kernel_rfl
theorem g6_001 (n2 : Nat) (om : List Nat) : leaf (callX prog 300 16 [.pl [] 0 .nil, Dd, b6] Heap.empty (0 :: 0 :: Nat.succ n2 :: om)) = some (r6, true) := by kernel_rfl
theorem g6_00 (om : List Nat) : leaf (callX prog 300 16 [.pl [] 0 .nil, Dd, b6] Heap.empty (0 :: 0 :: om)) = some (r6, true) := by
  rcases om with _ | ⟨_ | m, om⟩
  · exact g6_00n
  · exact g6_000 om
  · exact g6_001 m om
theorem g6_01n (n1 : Nat) : leaf (callX prog 300 16 [.pl [] 0 .nil, Dd, b6] Heap.empty (0 :: Nat.succ n1 :: [])) = some (r6, true) := by kernel_rfl
theorem g6_010n (n1 : Nat) : leaf (callX prog 300 16 [.pl [] 0 .nil, Dd, b6] Heap.empty (0 :: Nat.succ n1 :: 0 :: [])) = some (r6, true) := by kernel_rfl
theorem g6_0100 (n1 : Nat) (om : List Nat) : leaf (callX prog 300 16 [.pl [] 0 .nil, Dd, b6] Heap.empty (0 :: Nat.succ n1 :: 0 :: 0 :: om)) = some (r6, true) := by kernel_rfl
theorem g6_0101 (n1 : Nat) (n3 : Nat) (om : List Nat) : leaf (callX prog 300 16 [.pl [] 0 .nil, Dd, b6] Heap.empty (0 :: Nat.succ n1 :: 0 :: Nat.succ n3 :: om)) = some (r6, true) := by kernel_rfl
theorem g6_010 (n1 : Nat) (om : List Nat) : leaf (callX prog 300 16 [.pl [] 0 .nil, Dd, b6] Heap.empty (0 :: Nat.succ n1 :: 0 :: om)) = some (r6, true) := by
  rcases om with _ | ⟨_ | m, om⟩
  · exact g6_010n n1
  · exact g6_0100 n1 om
  · exact g6_0101 n1 m om
theorem g6_011n (n1 : Nat) (n2 : Nat) : leaf (callX prog 300 16 [.pl [] 0 .nil, Dd, b6] Heap.empty (0 :: Nat.succ n1 :: Nat.succ n2 :: [])) = some (r6, true) := by kernel_rfl
theorem g6_0110 (n1 : Nat) (n2 : Nat) (om : List Nat) : leaf (callX prog 300 16 [.pl [] 0 .nil, Dd, b6] Heap.empty (0 :: Nat.succ n1 :: Nat.succ n2 :: 0 :: om)) = some (r6, true) := by kernel_rfl
theorem g6_0111 (n1 : Nat) (n2 : Nat) (n3 : Nat) (om : List Nat) : leaf (callX prog 300 16 [.pl [] 0 .nil, Dd, b6] Heap.empty (0 :: Nat.succ n1 :: Nat.succ n2 :: Nat.succ n3 :: om)) = some (r6, true) := by kernel_rfl
theorem g6_011 (n1 : Nat) (n2 : Nat) (om : List Nat) : leaf (callX prog 300 16 [.pl [] 0 .nil, Dd, b6] Heap.empty (0 :: Nat.succ n1 :: Nat.succ n2 :: om)) = some (r6, true) := by
  rcases om with _ | ⟨_ | m, om⟩
  · exact g6_011n n1 n2
  · exact g6_0110 n1 n2 om
  · exact g6_0111 n1 n2 m om
theorem g6_01 (n1 : Nat) (om : List Nat) : leaf (callX prog 300 16 [.pl [] 0 .nil, Dd, b6] Heap.empty (0 :: Nat.succ n1 :: om)) = some (r6, true) := by
  rcases om with _ | ⟨_ | m, om⟩
  · exact g6_01n n1
  · exact g6_010 n1 om
  · exact g6_011 n1 m om
theorem g6_0 (om : List Nat) : leaf (callX prog 300 16 [.pl [] 0 .nil, Dd, b6] Heap.empty (0 :: om)) = some (r6, true) := by
  rcases om with _ | ⟨_ | m, om⟩
  · exact g6_0n
  · exact g6_00 om
  · exact g6_01 m om
theorem g6_1n (n0 : Nat) : leaf (callX prog 300 16 [.pl [] 0 .nil, Dd, b6] Heap.empty (Nat.succ n0 :: [])) = some (r6, true) := by kernel_rfl
theorem g6_10n (n0 : Nat) : leaf (callX prog 300 16 [.pl [] 0 .nil, Dd, b6] Heap.empty (Nat.succ n0 :: 0 :: [])) = some (r6, true) := by kernel_rfl
theorem g6_100n (n0 : Nat) : leaf (callX prog 300 16 [.pl [] 0 .nil, Dd, b6] Heap.empty (Nat.succ n0 :: 0 :: 0 :: [])) = some (r6, true) := by kernel_rfl
theorem g6_1000 (n0 : Nat) (om : List Nat) : leaf (callX prog 300 16 [.pl [] 0 .nil, Dd, b6] Heap.empty (Nat.succ n0 :: 0 :: 0 :: 0 :: om)) = some (r6, true) := by kernel_rfl
theorem g6_1001 (n0 : Nat) (n3 : Nat) (om : List Nat) : leaf (callX prog 300 16 [.pl [] 0 .nil, Dd, b6] Heap.empty (Nat.succ n0 :: 0 :: 0 :: Nat.succ n3 :: om)) = some (r6, true) := by kernel_rfl
theorem g6_100 (n0 : Nat) (om : List Nat) : leaf (callX prog 300 16 [.pl [] 0 .nil, Dd, b6] Heap.empty (Nat.succ n0 :: 0 :: 0 :: om)) = some (r6, true) := by
  rcases om with _ | ⟨_ | m, om⟩
  · exact g6_100n n0
  · exact g6_1000 n0 om
  · exact g6_1001 n0 m om
theorem g6_101n (n0 : Nat) (n2 : Nat) : leaf (callX prog 300 16 [.pl [] 0 .nil, Dd, b6] Heap.empty (Nat.succ n0 :: 0 :: Nat.succ n2 :: [])) = some (r6, true) := by kernel_rfl
theorem g6_1010n (n0 : Nat) (n2 : Nat) : leaf (callX prog 300 16 [.pl [] 0 .nil, Dd, b6] Heap.empty (Nat.succ n0 :: 0 :: Nat.succ n2 :: 0 :: [])) = some (r6, true) := by kernel_rfl
theorem g6_10100 (n0 : Nat) (n2 : Nat) (om : List Nat) : leaf (callX prog 300 16 [.pl [] 0 .nil, Dd, b6] Heap.empty (Nat.succ n0 :: 0 :: Nat.succ n2 :: 0 :: 0 :: om)) = some (r6, true) := by kernel_rfl
theorem g6_10101 (n0 : Nat) (n2 : Nat) (n4 : Nat) (om : List Nat) : leaf (callX prog 300 16 [.pl [] 0 .nil, Dd, b6] Heap.empty (Nat.succ n0 :: 0 :: Nat.succ n2 :: 0 :: Nat.succ n4 :: om)) = some (r6, true) := by kernel_rfl
theorem g6_1010 (n0 : Nat) (n2 : Nat) (om : List Nat) : leaf (callX prog 300 16 [.pl [] 0 .nil, Dd, b6] Heap.empty (Nat.succ n0 :: 0 :: Nat.succ n2 :: 0 :: om)) = some (r6, true) := by
  rcases om with _ | ⟨_ | m, om⟩
  · exact g6_1010n n0 n2
  · exact g6_10100 n0 n2 om
  · exact g6_10101 n0 n2 m om
theorem g6_1011n (n0 : Nat) (n2 : Nat) (n3 : Nat) : leaf (callX prog 300 16 [.pl [] 0 .nil, Dd, b6] Heap.empty (Nat.succ n0 :: 0 :: Nat.succ n2 :: Nat.succ n3 :: [])) = some (r6, true) := by kernel_rfl
theorem g6_10110 (n0 : Nat) (n2 : Nat) (n3 : Nat) (om : List Nat) : leaf (callX prog 300 16 [.pl [] 0 .nil, Dd, b6] Heap.empty (Nat.succ n0 :: 0 :: Nat.succ n2 :: Nat.succ n3 :: 0 :: om)) = some (r6, true) := by kernel_rfl
theorem g6_10111 (n0 : Nat) (n2 : Nat) (n3 : Nat) (n4 : Nat) (om : List Nat) : leaf (callX prog 300 16 [.pl [] 0 .nil, Dd, b6] Heap.empty (Nat.succ n0 :: 0 :: Nat.succ n2 :: Nat.succ n3 :: Nat.succ n4 :: om)) = some (r6, true) := by kernel_rfl
theorem g6_1011 (n0 : Nat) (n2 : Nat) (n3 : Nat) (om : List Nat) : leaf (callX prog 300 16 [.pl [] 0 .nil, Dd, b6] Heap.empty (Nat.succ n0 :: 0 :: Nat.succ n2 :: Nat.succ n3 :: om)) = some (r6, true) := by
  rcases om with _ | ⟨_ | m, om⟩
  · exact g6_1011n n0 n2 n3
  · exact g6_10110 n0 n2 n3 om
  · exact g6_10111 n0 n2 n3 m om
theorem g6_101 (n0 : Nat) (n2 : Nat) (om : List Nat) : leaf (callX prog 300 16 [.pl [] 0 .nil, Dd, b6] Heap.empty (Nat.succ n0 :: 0 :: Nat.succ n2 :: om)) = some (r6, true) := by
  rcases om with _ | ⟨_ | m, om⟩
  · exact g6_101n n0 n2
  · exact g6_1010 n0 n2 om
  · exact g6_1011 n0 n2 m om
theorem g6_10 (n0 : Nat) (om : List Nat) : leaf (callX prog 300 16 [.pl [] 0 .nil, Dd, b6] Heap.empty (Nat.succ n0 :: 0 :: om)) = some (r6, true) := by
  rcases om with _ | ⟨_ | m, om⟩
  · exact g6_10n n0
  · exact g6_100 n0 om
  · exact g6_101 n0 m om
theorem g6_11n (n0 : Nat) (n1 : Nat) : leaf (callX prog 300 16 [.pl [] 0 .nil, Dd, b6] Heap.empty (Nat.succ n0 :: Nat.succ n1 :: [])) = some (r6, true) := by kernel_rfl
theorem g6_110n (n0 : Nat) (n1 : Nat) : leaf (callX prog 300 16 [.pl [] 0 .nil, Dd, b6] Heap.empty (Nat.succ n0 :: Nat.succ n1 :: 0 :: [])) = some (r6, true) := by kernel_rfl
theorem g6_1100n (n0 : Nat) (n1 : Nat) : leaf (callX prog 300 16 [.pl [] 0 .nil, Dd, b6] Heap.empty (Nat.succ n0 :: Nat.succ n1 :: 0 :: 0 :: [])) = some (r6, true) := by kernel_rfl
theorem g6_11000 (n0 : Nat) (n1 : Nat) (om : List Nat) : leaf (callX prog 300 16 [.pl [] 0 .nil, Dd, b6] Heap.empty (Nat.succ n0 :: Nat.succ n1 :: 0 :: 0 :: 0 :: om)) = some (r6, true) := by kernel_rfl
theorem g6_11001 (n0 : Nat) (n1 : Nat) (n4 : Nat) (om : List Nat) : leaf (callX prog 300 16 [.pl [] 0 .nil, Dd, b6] Heap.empty (Nat.succ n0 :: Nat.succ n1 :: 0 :: 0 :: Nat.succ n4 :: om)) = some (r6, true) := by kernel_rfl
theorem g6_1100 (n0 : Nat) (n1 : Nat) (om : List Nat) : leaf (callX prog 300 16 [.pl [] 0 .nil, Dd, b6] Heap.empty (Nat.succ n0 :: Nat.succ n1 :: 0 :: 0 :: om)) = some (r6, true) := by
  rcases om with _ | ⟨_ | m, om⟩
  · exact g6_1100n n0 n1
  · exact g6_11000 n0 n1 om
  · exact g6_11001 n0 n1 m om
theorem g6_1101n (n0 : Nat) (n1 : Nat) (n3 : Nat) : leaf (callX prog 300 16 [.pl [] 0 .nil, Dd, b6] Heap.empty (Nat.succ n0 :: Nat.succ n1 :: 0 :: Nat.succ n3 :: [])) = some (r6, true) := by kernel_rfl
theorem g6_11010n (n0 : Nat) (n1 : Nat) (n3 : Nat) : leaf (callX prog 300 16 [.pl [] 0 .nil, Dd, b6] Heap.empty (Nat.succ n0 :: Nat.succ n1 :: 0 :: Nat.succ n3 :: 0 :: [])) = some (r6, true) := by kernel_rfl
theorem g6_110100 (n0 : Nat) (n1 : Nat) (n3 : Nat) (om : List Nat) : leaf (callX prog 300 16 [.pl [] 0 .nil, Dd, b6] Heap.empty (Nat.succ n0 :: Nat.succ n1 :: 0 :: Nat.succ n3 :: 0 :: 0 :: om)) = some (r6, true) := by kernel_rfl
theorem g6_110101 (n0 : Nat) (n1 : Nat) (n3 : Nat) (n5 : Nat) (om : List Nat) : leaf (callX prog 300 16 [.pl [] 0 .nil, Dd, b6] Heap.empty (Nat.succ n0 :: Nat.succ n1 :: 0 :: Nat.succ n3 :: 0 :: Nat.succ n5 :: om)) = some (r6, true) := by kernel_rfl
theorem g6_11010 (n0 : Nat) (n1 : Nat) (n3 : Nat) (om : List Nat) : leaf (callX prog 300 16 [.pl [] 0 .nil, Dd, b6] Heap.empty (Nat.succ n0 :: Nat.succ n1 :: 0 :: Nat.succ n3 :: 0 :: om)) = some (r6, true) := by
  rcases om with _ | ⟨_ | m, om⟩
  · exact g6_11010n n0 n1 n3
  · exact g6_110100 n0 n1 n3 om
  · exact g6_110101 n0 n1 n3 m om
theorem g6_11011n (n0 : Nat) (n1 : Nat) (n3 : Nat) (n4 : Nat) : leaf (callX prog 300 16 [.pl [] 0 .nil, Dd, b6] Heap.empty (Nat.succ n0 :: Nat.succ n1 :: 0 :: Nat.succ n3 :: Nat.succ n4 :: [])) = some (r6, true) := by kernel_rfl
theorem g6_110110 (n0 : Nat) (n1 : Nat) (n3 : Nat) (n4 : Nat) (om : List Nat) : leaf (callX prog 300 16 [.pl [] 0 .nil, Dd, b6] Heap.empty (Nat.succ n0 :: Nat.succ n1 :: 0 :: Nat.succ n3 :: Nat.succ n4 :: 0 :: om)) = some (r6, true) := by kernel_rfl
theorem g6_110111 (n0 : Nat) (n1 : Nat) (n3 : Nat) (n4 : Nat) (n5 : Nat) (om : List Nat) : leaf (callX prog 300 16 [.pl [] 0 .nil, Dd, b6] Heap.empty (Nat.succ n0 :: Nat.succ n1 :: 0 :: Nat.succ n3 :: Nat.succ n4 :: Nat.succ n5 :: om)) = some (r6, true) := by kernel_rfl
theorem g6_11011 (n0 : Nat) (n1 : Nat) (n3 : Nat) (n4 : Nat) (om : List Nat) : leaf (callX prog 300 16 [.pl [] 0 .nil, Dd, b6] Heap.empty (Nat.succ n0 :: Nat.succ n1 :: 0 :: Nat.succ n3 :: Nat.succ n4 :: om)) = some (r6, true) := by
  rcases om with _ | ⟨_ | m, om⟩
  · exact g6_11011n n0 n1 n3 n4
  · exact g6_110110 n0 n1 n3 n4 om
  · exact g6_110111 n0 n1 n3 n4 m om
theorem g6_1101 (n0 : Nat) (n1 : Nat) (n3 : Nat) (om : List Nat) : leaf (callX prog 300 16 [.pl [] 0 .nil, Dd, b6] Heap.empty (Nat.succ n0 :: Nat.succ n1 :: 0 :: Nat.succ n3 :: om)) = some (r6, true) := by
  rcases om with _ | ⟨_ | m, om⟩
  · exact g6_1101n n0 n1 n3
  · exact g6_11010 n0 n1 n3 om
  · exact g6_11011 n0 n1 n3 m om
theorem g6_110 (n0 : Nat) (n1 : Nat) (om : List Nat) : leaf (callX prog 300 16 [.pl [] 0 .nil, Dd, b6] Heap.empty (Nat.succ n0 :: Nat.succ n1 :: 0 :: om)) = some (r6, true) := by
  rcases om with _ | ⟨_ | m, om⟩
  · exact g6_110n n0 n1
  · exact g6_1100 n0 n1 om
  · exact g6_1101 n0 n1 m om
theorem g6_111n (n0 : Nat) (n1 : Nat) (n2 : Nat) : leaf (callX prog 300 16 [.pl [] 0 .nil, Dd, b6] Heap.empty (Nat.succ n0 :: Nat.succ n1 :: Nat.succ n2 :: [])) = some (r6, true) := by kernel_rfl
theorem g6_1110n (n0 : Nat) (n1 : Nat) (n2 : Nat) : leaf (callX prog 300 16 [.pl [] 0 .nil, Dd, b6] Heap.empty (Nat.succ n0 :: Nat.succ n1 :: Nat.succ n2 :: 0 :: [])) = some (r6, true) := by kernel_rfl
theorem g6_11100 (n0 : Nat) (n1 : Nat) (n2 : Nat) (om : List Nat) : leaf (callX prog 300 16 [.pl [] 0 .nil, Dd, b6] Heap.empty (Nat.succ n0 :: Nat.succ n1 :: Nat.succ n2 :: 0 :: 0 :: om)) = some (r6, true) := by kernel_rfl
theorem g6_11101 (n0 : Nat) (n1 : Nat) (n2 : Nat) (n4 : Nat) (om : List Nat) : leaf (callX prog 300 16 [.pl [] 0 .nil, Dd, b6] Heap.empty (Nat.succ n0 :: Nat.succ n1 :: Nat.succ n2 :: 0 :: Nat.succ n4 :: om)) = some (r6, true) := by kernel_rfl
theorem g6_1110 (n0 : Nat) (n1 : Nat) (n2 : Nat) (om : List Nat) : leaf (callX prog 300 16 [.pl [] 0 .nil, Dd, b6] Heap.empty (Nat.succ n0 :: Nat.succ n1 :: Nat.succ n2 :: 0 :: om)) = some (r6, true) := by
  rcases om with _ | ⟨_ | m, om⟩
  · exact g6_1110n n0 n1 n2
  · exact g6_11100 n0 n1 n2 om
  · exact g6_11101 n0 n1 n2 m om
theorem g6_1111n (n0 : Nat) (n1 : Nat) (n2 : Nat) (n3 : Nat) : leaf (callX prog 300 16 [.pl [] 0 .nil, Dd, b6] Heap.empty (Nat.succ n0 :: Nat.succ n1 :: Nat.succ n2 :: Nat.succ n3 :: [])) = some (r6, true) := by kernel_rfl
theorem g6_11110n (n0 : Nat) (n1 : Nat) (n2 : Nat) (n3 : Nat) : leaf (callX prog 300 16 [.pl [] 0 .nil, Dd, b6] Heap.empty (Nat.succ n0 :: Nat.succ n1 :: Nat.succ n2 :: Nat.succ n3 :: 0 :: [])) = some (r6, true) := by kernel_rfl
theorem g6_111100 (n0 : Nat) (n1 : Nat) (n2 : Nat) (n3 : Nat) (om : List Nat) : leaf (callX prog 300 16 [.pl [] 0 .nil, Dd, b6] Heap.empty (Nat.succ n0 :: Nat.succ n1 :: Nat.succ n2 :: Nat.succ n3 :: 0 :: 0 :: om)) = some (r6, true) := by kernel_rfl
theorem g6_111101 (n0 : Nat) (n1 : Nat) (n2 : Nat) (n3 : Nat) (n5 : Nat) (om : List Nat) : leaf (callX prog 300 16 [.pl [] 0 .nil, Dd, b6] Heap.empty (Nat.succ n0 :: Nat.succ n1 :: Nat.succ n2 :: Nat.succ n3 :: 0 :: Nat.succ n5 :: om)) = some (r6, true) := by kernel_rfl
theorem g6_11110 (n0 : Nat) (n1 : Nat) (n2 : Nat) (n3 : Nat) (om : List Nat) : leaf (callX prog 300 16 [.pl [] 0 .nil, Dd, b6] Heap.empty (Nat.succ n0 :: Nat.succ n1 :: Nat.succ n2 :: Nat.succ n3 :: 0 :: om)) = some (r6, true) := by
  rcases om with _ | ⟨_ | m, om⟩
  · exact g6_11110n n0 n1 n2 n3
  · exact g6_111100 n0 n1 n2 n3 om
  · exact g6_111101 n0 n1 n2 n3 m om
theorem g6_11111n (n0 : Nat) (n1 : Nat) (n2 : Nat) (n3 : Nat) (n4 : Nat) : leaf (callX prog 300 16 [.pl [] 0 .nil, Dd, b6] Heap.empty (Nat.succ n0 :: Nat.succ n1 :: Nat.succ n2 :: Nat.succ n3 :: Nat.succ n4 :: [])) = some (r6, true) := by kernel_rfl
theorem g6_111110 (n0 : Nat) (n1 : Nat) (n2 : Nat) (n3 : Nat) (n4 : Nat) (om : List Nat) : leaf (callX prog 300 16 [.pl [] 0 .nil, Dd, b6] Heap.empty (Nat.succ n0 :: Nat.succ n1 :: Nat.succ n2 :: Nat.succ n3 :: Nat.succ n4 :: 0 :: om)) = some (r6, true) := by kernel_rfl
theorem g6_111111 (n0 : Nat) (n1 : Nat) (n2 : Nat) (n3 : Nat) (n4 : Nat) (n5 : Nat) (om : List Nat) : leaf (callX prog 300 16 [.pl [] 0 .nil, Dd, b6] Heap.empty (Nat.succ n0 :: Nat.succ n1 :: Nat.succ n2 :: Nat.succ n3 :: Nat.succ n4 :: Nat.succ n5 :: om)) = some (r6, true) := by kernel_rfl
theorem g6_11111 (n0 : Nat) (n1 : Nat) (n2 : Nat) (n3 : Nat) (n4 : Nat) (om : List Nat) : leaf (callX prog 300 16 [.pl [] 0 .nil, Dd, b6] Heap.empty (Nat.succ n0 :: Nat.succ n1 :: Nat.succ n2 :: Nat.succ n3 :: Nat.succ n4 :: om)) = some (r6, true) := by
  rcases om with _ | ⟨_ | m, om⟩
  · exact g6_11111n n0 n1 n2 n3 n4
  · exact g6_111110 n0 n1 n2 n3 n4 om
  · exact g6_111111 n0 n1 n2 n3 n4 m om
theorem g6_1111 (n0 : Nat) (n1 : Nat) (n2 : Nat) (n3 : Nat) (om : List Nat) : leaf (callX prog 300 16 [.pl [] 0 .nil, Dd, b6] Heap.empty (Nat.succ n0 :: Nat.succ n1 :: Nat.succ n2 :: Nat.succ n3 :: om)) = some (r6, true) := by
  rcases om with _ | ⟨_ | m, om⟩
  · exact g6_1111n n0 n1 n2 n3
  · exact g6_11110 n0 n1 n2 n3 om
  · exact g6_11111 n0 n1 n2 n3 m om
theorem g6_111 (n0 : Nat) (n1 : Nat) (n2 : Nat) (om : List Nat) : leaf (callX prog 300 16 [.pl [] 0 .nil, Dd, b6] Heap.empty (Nat.succ n0 :: Nat.succ n1 :: Nat.succ n2 :: om)) = some (r6, true) := by
  rcases om with _ | ⟨_ | m, om⟩
  · exact g6_111n n0 n1 n2
  · exact g6_1110 n0 n1 n2 om
  · exact g6_1111 n0 n1 n2 m om
theorem g6_11 (n0 : Nat) (n1 : Nat) (om : List Nat) : leaf (callX prog 300 16 [.pl [] 0 .nil, Dd, b6] Heap.empty (Nat.succ n0 :: Nat.succ n1 :: om)) = some (r6, true) := by
  rcases om with _ | ⟨_ | m, om⟩
  · exact g6_11n n0 n1
  · exact g6_110 n0 n1 om
  · exact g6_111 n0 n1 m om
theorem g6_1 (n0 : Nat) (om : List Nat) : leaf (callX prog 300 16 [.pl [] 0 .nil, Dd, b6] Heap.empty (Nat.succ n0 :: om)) = some (r6, true) := by
  rcases om with _ | ⟨_ | m, om⟩
  · exact g6_1n n0
  · exact g6_10 n0 om
  · exact g6_11 n0 m om
theorem g6_ (om : List Nat) : leaf (callX prog 300 16 [.pl [] 0 .nil, Dd, b6] Heap.empty (om)) = some (r6, true) := by
  rcases om with _ | ⟨_ | m, om⟩
  · exact g6_n
  · exact g6_0 om
  · exact g6_1 m om
theorem g7_ (om : List Nat) : leaf (callX prog 300 16 [.pl [] 0 .nil, Dd, b7] Heap.empty (om)) = some (r7, true) := by kernel_rfl
theorem g8_ (om : List Nat) : leaf (callX prog 300 16 [.pl [] 0 .nil, Dd, b8] Heap.empty (om)) = some (r8, true) := by kernel_rfl
theorem g9_ (om : List Nat) : leaf (callX prog 300 16 [.pl [] 0 .nil, Dd, b9] Heap.empty (om)) = some (r9, true) := by kernel_rfl
end Go.Am.Infer
