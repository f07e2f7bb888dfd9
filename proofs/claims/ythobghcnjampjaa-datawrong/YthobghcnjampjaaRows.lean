/-
  No cell of these rows narrows 'for every input' (looked for: loops, veiled, ifaces, maps, wideKeys, modest, calm, conditions, laid).
  DERIVED. THE GIVEN ROWS OF THIS SEAT. 8 by the template 'for every input the law returns true; each argument reads behind the call as it read before'; 0 by the template 'total and deterministic' (their statements: YthobghcnjampjaaTotals.lean).
  GIVEN WITH THE SEED: the statements are not yours to turn. If you find one false, say at which input.
  Laid BY PROGRAM, IN A SANDBOX (cutbox-rows.mjs): the forced cells as the released guide's own fill.sh prints them over the translation de1208c29553954d… (all of the seat's roots in one cut). By AI agents, Wed Nov 11 2026. No macro, syntax, notation, axiom, sorry.
-/
import Derived.Test.YthobghcnjampjaaChecked
import GoSem.Claim
import GoSem.ClaimJoined
import GoSem.ClaimMapViews
import Derived.JoinedTies
import Derived.KernelRfl
namespace Go.Proofs.Ythobghcnjampjaa
/- THE CELL 'sum', in the pinned program and in every row, IS THE sha256 OF THE DUMP (.gsa) THAT YthobghcnjampjaaProg.lean LOADS. Nothing in Lean hashes anything: it is a label: what it is worth is what the hold of that sum in a sandbox is worth. -/
noncomputable def Try.pinned : Pinned := { name := "ythobghcnjampjaa", sum := "de1208c29553954d78c23797735c2500fe8f4a5694a1abe7e0ded108fa9db074", checked := Try.checked }
namespace Rows
def none {H : Type} : Left H := { results := [], args := [] }

/-- 'warplaw14.RefsJoins': WHATEVER THE INPUT: true; the input reads as it did. -/
def refsJoinsSpec : ChangeSpec := { name := "refsJoins", fn := fun _ => fun
  | [d1, d2] => { results := [.lit (.bool true)], args := [d1, d2] }
  | _ => none }
def refsJoinsRow : OpenClaim := { program := "ythobghcnjampjaa", sum := "de1208c29553954d78c23797735c2500fe8f4a5694a1abe7e0ded108fa9db074", func := "warp/warplaw14.RefsJoins", spec := "refsJoins", recurses := true, plainKeys := false, apart := false }
def RefsJoinsSaid : Prop := refsJoinsRow.holds Try.pinned (OpenSpec.ofChange refsJoinsSpec)

/-- ITS FALSE NEIGHBOUR: 'it returns false'. Refute it at one input. -/
def refsJoinsWrong : ChangeSpec := { name := "refsJoins", fn := fun _ => fun
  | [d1, d2] => { results := [.lit (.bool false)], args := [d1, d2] }
  | _ => none }
def RefsJoinsWrongFalsely : Prop := refsJoinsRow.holds Try.pinned (OpenSpec.ofChange refsJoinsWrong)

/-- 'warplaw14.RefsAll': WHATEVER THE INPUT: true; the input reads as it did. -/
def refsAllSpec : ChangeSpec := { name := "refsAll", fn := fun _ => fun
  | [d] => { results := [.lit (.bool true)], args := [d] }
  | _ => none }
def refsAllRow : OpenClaim := { program := "ythobghcnjampjaa", sum := "de1208c29553954d78c23797735c2500fe8f4a5694a1abe7e0ded108fa9db074", func := "warp/warplaw14.RefsAll", spec := "refsAll", unfollowed := true, recurses := true, plainKeys := false, apart := false }
def RefsAllSaid : Prop := refsAllRow.holds Try.pinned (OpenSpec.ofChange refsAllSpec)

/-- ITS FALSE NEIGHBOUR: 'it returns false'. Refute it at one input. -/
def refsAllWrong : ChangeSpec := { name := "refsAll", fn := fun _ => fun
  | [d] => { results := [.lit (.bool false)], args := [d] }
  | _ => none }
def RefsAllWrongFalsely : Prop := refsAllRow.holds Try.pinned (OpenSpec.ofChange refsAllWrong)

/-- 'warplaw14.RefsMade': WHATEVER THE INPUT: true; the input reads as it did. -/
def refsMadeSpec : ChangeSpec := { name := "refsMade", fn := fun _ => fun
  | [d] => { results := [.lit (.bool true)], args := [d] }
  | _ => none }
def refsMadeRow : OpenClaim := { program := "ythobghcnjampjaa", sum := "de1208c29553954d78c23797735c2500fe8f4a5694a1abe7e0ded108fa9db074", func := "warp/warplaw14.RefsMade", spec := "refsMade", unfollowed := true, recurses := true, plainKeys := false, apart := false }
def RefsMadeSaid : Prop := refsMadeRow.holds Try.pinned (OpenSpec.ofChange refsMadeSpec)

/-- ITS FALSE NEIGHBOUR: 'it returns false'. Refute it at one input. -/
def refsMadeWrong : ChangeSpec := { name := "refsMade", fn := fun _ => fun
  | [d] => { results := [.lit (.bool false)], args := [d] }
  | _ => none }
def RefsMadeWrongFalsely : Prop := refsMadeRow.holds Try.pinned (OpenSpec.ofChange refsMadeWrong)

/-- 'warplaw14.RefsGraph': WHATEVER THE INPUT: true; the input reads as it did. -/
def refsGraphSpec : ChangeSpec := { name := "refsGraph", fn := fun _ => fun
  | [d] => { results := [.lit (.bool true)], args := [d] }
  | _ => none }
def refsGraphRow : OpenClaim := { program := "ythobghcnjampjaa", sum := "de1208c29553954d78c23797735c2500fe8f4a5694a1abe7e0ded108fa9db074", func := "warp/warplaw14.RefsGraph", spec := "refsGraph", unfollowed := true, recurses := true, plainKeys := false, apart := false }
def RefsGraphSaid : Prop := refsGraphRow.holds Try.pinned (OpenSpec.ofChange refsGraphSpec)

/-- ITS FALSE NEIGHBOUR: 'it returns false'. Refute it at one input. -/
def refsGraphWrong : ChangeSpec := { name := "refsGraph", fn := fun _ => fun
  | [d] => { results := [.lit (.bool false)], args := [d] }
  | _ => none }
def RefsGraphWrongFalsely : Prop := refsGraphRow.holds Try.pinned (OpenSpec.ofChange refsGraphWrong)

/-- 'warplaw12.DataWrong': WHATEVER THE INPUT: true; the input reads as it did. -/
def dataWrongSpec : ChangeSpec := { name := "dataWrong", fn := fun _ => fun
  | [d] => { results := [.lit (.bool true)], args := [d] }
  | _ => none }
def dataWrongRow : OpenClaim := { program := "ythobghcnjampjaa", sum := "de1208c29553954d78c23797735c2500fe8f4a5694a1abe7e0ded108fa9db074", func := "warp/warplaw12.DataWrong", spec := "dataWrong", unfollowed := true, recurses := true, plainKeys := false, apart := false }
def DataWrongSaid : Prop := dataWrongRow.holds Try.pinned (OpenSpec.ofChange dataWrongSpec)

/-- ITS FALSE NEIGHBOUR: 'it returns false'. Refute it at one input. -/
def dataWrongWrong : ChangeSpec := { name := "dataWrong", fn := fun _ => fun
  | [d] => { results := [.lit (.bool false)], args := [d] }
  | _ => none }
def DataWrongWrongFalsely : Prop := dataWrongRow.holds Try.pinned (OpenSpec.ofChange dataWrongWrong)

/-- 'warplaw12.DataOrder': WHATEVER THE INPUT: true; the input reads as it did. -/
def dataOrderSpec : ChangeSpec := { name := "dataOrder", fn := fun _ => fun
  | [d1, d2] => { results := [.lit (.bool true)], args := [d1, d2] }
  | _ => none }
def dataOrderRow : OpenClaim := { program := "ythobghcnjampjaa", sum := "de1208c29553954d78c23797735c2500fe8f4a5694a1abe7e0ded108fa9db074", func := "warp/warplaw12.DataOrder", spec := "dataOrder", unfollowed := true, recurses := true, plainKeys := false, apart := false }
def DataOrderSaid : Prop := dataOrderRow.holds Try.pinned (OpenSpec.ofChange dataOrderSpec)

/-- ITS FALSE NEIGHBOUR: 'it returns false'. Refute it at one input. -/
def dataOrderWrong : ChangeSpec := { name := "dataOrder", fn := fun _ => fun
  | [d1, d2] => { results := [.lit (.bool false)], args := [d1, d2] }
  | _ => none }
def DataOrderWrongFalsely : Prop := dataOrderRow.holds Try.pinned (OpenSpec.ofChange dataOrderWrong)

/-- 'warplaw12.DataCons': WHATEVER THE INPUT: true; the input reads as it did. -/
def dataConsSpec : ChangeSpec := { name := "dataCons", fn := fun _ => fun
  | [d1, d2] => { results := [.lit (.bool true)], args := [d1, d2] }
  | _ => none }
def dataConsRow : OpenClaim := { program := "ythobghcnjampjaa", sum := "de1208c29553954d78c23797735c2500fe8f4a5694a1abe7e0ded108fa9db074", func := "warp/warplaw12.DataCons", spec := "dataCons", unfollowed := true, recurses := true, plainKeys := false, apart := false }
def DataConsSaid : Prop := dataConsRow.holds Try.pinned (OpenSpec.ofChange dataConsSpec)

/-- ITS FALSE NEIGHBOUR: 'it returns false'. Refute it at one input. -/
def dataConsWrong : ChangeSpec := { name := "dataCons", fn := fun _ => fun
  | [d1, d2] => { results := [.lit (.bool false)], args := [d1, d2] }
  | _ => none }
def DataConsWrongFalsely : Prop := dataConsRow.holds Try.pinned (OpenSpec.ofChange dataConsWrong)

/-- 'warplaw13.ScopeAll': WHATEVER THE INPUT: true; the input reads as it did. -/
def scopeAllSpec : ChangeSpec := { name := "scopeAll", fn := fun _ => fun
  | [d] => { results := [.lit (.bool true)], args := [d] }
  | _ => none }
def scopeAllRow : OpenClaim := { program := "ythobghcnjampjaa", sum := "de1208c29553954d78c23797735c2500fe8f4a5694a1abe7e0ded108fa9db074", func := "warp/warplaw13.ScopeAll", spec := "scopeAll", unfollowed := true, recurses := true, plainKeys := false, apart := false }
def ScopeAllSaid : Prop := scopeAllRow.holds Try.pinned (OpenSpec.ofChange scopeAllSpec)

/-- ITS FALSE NEIGHBOUR: 'it returns false'. Refute it at one input. -/
def scopeAllWrong : ChangeSpec := { name := "scopeAll", fn := fun _ => fun
  | [d] => { results := [.lit (.bool false)], args := [d] }
  | _ => none }
def ScopeAllWrongFalsely : Prop := scopeAllRow.holds Try.pinned (OpenSpec.ofChange scopeAllWrong)

/- THE SECOND FORM. 'bulk': how many values and letters a reading holds, each counted each time it is reached (what is shared counts as often as it is met; a slice's spare places count too). A statement '..UptoSaid' is the law's where the arguments, and the package variables that the reading takes, are together of bulk at most 1048576: NARROWER than '..Said'. Prove '..Said' where nothing that the law and all that it calls make is longer than what came in: it says more and counts as full. Else prove '..UptoSaid'. A law counts once. -/
mutual
def uptoBulk {H : Type} : DataW H → Nat
  | .lit (.string bytes) => bytes.length + 1
  | .lit _ => 1
  | .nil => 1
  | .ptr d => uptoBulk d + 1
  | .slice elems spare => uptoBulkAll elems + uptoBulkAll spare + 1
  | .agg parts => uptoBulkAll parts + 1
  | .iface _ d => uptoBulk d + 1
  | .map entries => uptoBulkEntries entries + 1
  | .held _ => 1
def uptoBulkAll {H : Type} : List (DataW H) → Nat
  | [] => 0
  | d :: r => uptoBulk d + uptoBulkAll r
def uptoBulkEntries {H : Type} : List (Lit × DataW H) → Nat
  | [] => 0
  | x :: r => uptoBulkEntry x + uptoBulkEntries r
def uptoBulkEntry {H : Type} : Lit × DataW H → Nat
  | (.string bytes, d) => bytes.length + uptoBulk d + 1
  | (_, d) => uptoBulk d + 1
 end
def uptoSmall : (H : Type) → List (DataW H) → Bool := fun _ ds => decide (uptoBulkAll ds ≤ 1048576)
def OpenSpec.upto (s : _root_.Go.ChangeSpec) : _root_.Go.OpenSpec := { _root_.Go.OpenSpec.ofChange s with cond := some uptoSmall }

/-- 'warplaw14.RefsJoins', WHERE WHAT IT READS IS OF BULK AT MOST 1048576: true; the input reads as it did. -/
def refsJoinsUptoRow : OpenClaim := { program := "ythobghcnjampjaa", sum := "de1208c29553954d78c23797735c2500fe8f4a5694a1abe7e0ded108fa9db074", func := "warp/warplaw14.RefsJoins", spec := "refsJoins", recurses := true, plainKeys := false, apart := false, narrowed := true }
def RefsJoinsUptoSaid : Prop := refsJoinsUptoRow.holds Try.pinned (OpenSpec.upto refsJoinsSpec)

/-- 'warplaw14.RefsAll', WHERE WHAT IT READS IS OF BULK AT MOST 1048576: true; the input reads as it did. -/
def refsAllUptoRow : OpenClaim := { program := "ythobghcnjampjaa", sum := "de1208c29553954d78c23797735c2500fe8f4a5694a1abe7e0ded108fa9db074", func := "warp/warplaw14.RefsAll", spec := "refsAll", unfollowed := true, recurses := true, plainKeys := false, apart := false, narrowed := true }
def RefsAllUptoSaid : Prop := refsAllUptoRow.holds Try.pinned (OpenSpec.upto refsAllSpec)

/-- 'warplaw14.RefsMade', WHERE WHAT IT READS IS OF BULK AT MOST 1048576: true; the input reads as it did. -/
def refsMadeUptoRow : OpenClaim := { program := "ythobghcnjampjaa", sum := "de1208c29553954d78c23797735c2500fe8f4a5694a1abe7e0ded108fa9db074", func := "warp/warplaw14.RefsMade", spec := "refsMade", unfollowed := true, recurses := true, plainKeys := false, apart := false, narrowed := true }
def RefsMadeUptoSaid : Prop := refsMadeUptoRow.holds Try.pinned (OpenSpec.upto refsMadeSpec)

/-- 'warplaw14.RefsGraph', WHERE WHAT IT READS IS OF BULK AT MOST 1048576: true; the input reads as it did. -/
def refsGraphUptoRow : OpenClaim := { program := "ythobghcnjampjaa", sum := "de1208c29553954d78c23797735c2500fe8f4a5694a1abe7e0ded108fa9db074", func := "warp/warplaw14.RefsGraph", spec := "refsGraph", unfollowed := true, recurses := true, plainKeys := false, apart := false, narrowed := true }
def RefsGraphUptoSaid : Prop := refsGraphUptoRow.holds Try.pinned (OpenSpec.upto refsGraphSpec)

/-- 'warplaw12.DataWrong', WHERE WHAT IT READS IS OF BULK AT MOST 1048576: true; the input reads as it did. -/
def dataWrongUptoRow : OpenClaim := { program := "ythobghcnjampjaa", sum := "de1208c29553954d78c23797735c2500fe8f4a5694a1abe7e0ded108fa9db074", func := "warp/warplaw12.DataWrong", spec := "dataWrong", unfollowed := true, recurses := true, plainKeys := false, apart := false, narrowed := true }
def DataWrongUptoSaid : Prop := dataWrongUptoRow.holds Try.pinned (OpenSpec.upto dataWrongSpec)

/-- 'warplaw12.DataOrder', WHERE WHAT IT READS IS OF BULK AT MOST 1048576: true; the input reads as it did. -/
def dataOrderUptoRow : OpenClaim := { program := "ythobghcnjampjaa", sum := "de1208c29553954d78c23797735c2500fe8f4a5694a1abe7e0ded108fa9db074", func := "warp/warplaw12.DataOrder", spec := "dataOrder", unfollowed := true, recurses := true, plainKeys := false, apart := false, narrowed := true }
def DataOrderUptoSaid : Prop := dataOrderUptoRow.holds Try.pinned (OpenSpec.upto dataOrderSpec)

/-- 'warplaw12.DataCons', WHERE WHAT IT READS IS OF BULK AT MOST 1048576: true; the input reads as it did. -/
def dataConsUptoRow : OpenClaim := { program := "ythobghcnjampjaa", sum := "de1208c29553954d78c23797735c2500fe8f4a5694a1abe7e0ded108fa9db074", func := "warp/warplaw12.DataCons", spec := "dataCons", unfollowed := true, recurses := true, plainKeys := false, apart := false, narrowed := true }
def DataConsUptoSaid : Prop := dataConsUptoRow.holds Try.pinned (OpenSpec.upto dataConsSpec)

/-- 'warplaw13.ScopeAll', WHERE WHAT IT READS IS OF BULK AT MOST 1048576: true; the input reads as it did. -/
def scopeAllUptoRow : OpenClaim := { program := "ythobghcnjampjaa", sum := "de1208c29553954d78c23797735c2500fe8f4a5694a1abe7e0ded108fa9db074", func := "warp/warplaw13.ScopeAll", spec := "scopeAll", unfollowed := true, recurses := true, plainKeys := false, apart := false, narrowed := true }
def ScopeAllUptoSaid : Prop := scopeAllUptoRow.holds Try.pinned (OpenSpec.upto scopeAllSpec)

end Rows
end Go.Proofs.Ythobghcnjampjaa
