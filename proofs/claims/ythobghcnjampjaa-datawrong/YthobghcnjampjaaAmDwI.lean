/- Whether a run answers true. -/
import Derived.Test.YthobghcnjampjaaAmDw
namespace Go.Am.DataWrong
open Go.Am
def isT : Option (AV × Heap × List Nat) → Bool
  | some (.bool true, _) => true
  | _ => false
end Go.Am.DataWrong
