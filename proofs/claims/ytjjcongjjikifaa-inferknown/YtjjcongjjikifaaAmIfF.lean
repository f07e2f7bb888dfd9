/- The abstract machine's code stands for the program's functions. -/
import Derived.Test.YtjjcongjjikifaaAmJ
import Derived.Test.YtjjcongjjikifaaAmIf
import Derived.Test.YtjjcongjjikifaaProg
import Derived.KernelRfl
set_option maxRecDepth 100000
namespace Go.Am.Infer
open Go.Am Go.Proofs
def fm (f : Nat) : Option Nat := if has.contains f then some f else none
noncomputable def cx : Cx := ⟨Try.prog, fm, []⟩
noncomputable def okAt (f : Nat) : Bool := match Try.prog.funcs[f]?, prog f with
  | some fn, some af => okFunc cx fn af
  | _, _ => false
theorem okAll : has.all okAt = true := by kernel_rfl
theorem fnsA : FnsA cx prog := by
  refine ⟨?_, fun g hg => ?_⟩
  rotate_left
  · unfold rangeId at hg
    unfold prog
    split <;> first | rfl | omega
  intro f g h
  have h' : fm f = some g := h
  unfold fm at h'
  split at h'
  · rename_i hb
    simp only [Option.some.injEq] at h'
    subst h'
    have := List.all_eq_true.1 okAll f (by simpa using hb)
    unfold okAt at this
    split at this
    · rename_i fn af e1 e2; exact ⟨fn, af, e1, e2, this⟩
    · simp at this
  · simp at h'
end Go.Am.Infer
