/-
  No cell of these rows narrows 'for every input' (looked for: loops, veiled, ifaces, maps, wideKeys, modest, calm, conditions, laid).
  DERIVED. THE GIVEN ROWS OF THIS SEAT. 7 by the template 'for every input the law returns true; each argument reads behind the call as it read before'; 0 by the template 'total and deterministic' (their statements: YtjjcongjjikifaaTotals.lean).
  GIVEN WITH THE SEED: the statements are not yours to turn. If you find one false, say at which input.
  Laid BY PROGRAM, IN A SANDBOX (cutbox-rows.mjs): the forced cells as the released guide's own fill.sh prints them over the translation 13197d6571e6d026… (all of the seat's roots in one cut). By AI agents, Wed Nov 11 2026. No macro, syntax, notation, axiom, sorry.
-/
import Derived.Test.YtjjcongjjikifaaChecked
import GoSem.Claim
import GoSem.ClaimJoined
import GoSem.ClaimMapViews
import Derived.JoinedTies
import Derived.KernelRfl
namespace Go.Proofs.Ytjjcongjjikifaa
/- THE CELL 'sum', in the pinned program and in every row, IS THE sha256 OF THE DUMP (.gsa) THAT YtjjcongjjikifaaProg.lean LOADS. Nothing in Lean hashes anything: it is a label: what it is worth is what the hold of that sum in a sandbox is worth. -/
noncomputable def Try.pinned : Pinned := { name := "ytjjcongjjikifaa", sum := "13197d6571e6d026f0fabc724d7fbf1be588821422ff2c74a6b063a57e29aca4", checked := Try.checked }
namespace Rows
def none {H : Type} : Left H := { results := [], args := [] }

/-- 'warplaw21.InferKnown': WHATEVER THE INPUT: true; the input reads as it did. -/
def inferKnownSpec : ChangeSpec := { name := "inferKnown", fn := fun _ => fun
  | [d] => { results := [.lit (.bool true)], args := [d] }
  | _ => none }
def inferKnownRow : OpenClaim := { program := "ytjjcongjjikifaa", sum := "13197d6571e6d026f0fabc724d7fbf1be588821422ff2c74a6b063a57e29aca4", func := "warp/warplaw21.InferKnown", spec := "inferKnown", unfollowed := true, recurses := true, plainKeys := false, apart := false }
def InferKnownSaid : Prop := inferKnownRow.holds Try.pinned (OpenSpec.ofChange inferKnownSpec)

/-- ITS FALSE NEIGHBOUR: 'it returns false'. Refute it at one input. -/
def inferKnownWrong : ChangeSpec := { name := "inferKnown", fn := fun _ => fun
  | [d] => { results := [.lit (.bool false)], args := [d] }
  | _ => none }
def InferKnownWrongFalsely : Prop := inferKnownRow.holds Try.pinned (OpenSpec.ofChange inferKnownWrong)

/-- 'warplaw21.InferBad': WHATEVER THE INPUT: true; the input reads as it did. -/
def inferBadSpec : ChangeSpec := { name := "inferBad", fn := fun _ => fun
  | [d] => { results := [.lit (.bool true)], args := [d] }
  | _ => none }
def inferBadRow : OpenClaim := { program := "ytjjcongjjikifaa", sum := "13197d6571e6d026f0fabc724d7fbf1be588821422ff2c74a6b063a57e29aca4", func := "warp/warplaw21.InferBad", spec := "inferBad", unfollowed := true, recurses := true, plainKeys := false, apart := false }
def InferBadSaid : Prop := inferBadRow.holds Try.pinned (OpenSpec.ofChange inferBadSpec)

/-- ITS FALSE NEIGHBOUR: 'it returns false'. Refute it at one input. -/
def inferBadWrong : ChangeSpec := { name := "inferBad", fn := fun _ => fun
  | [d] => { results := [.lit (.bool false)], args := [d] }
  | _ => none }
def InferBadWrongFalsely : Prop := inferBadRow.holds Try.pinned (OpenSpec.ofChange inferBadWrong)

/-- 'warplaw21.InferShadow': WHATEVER THE INPUT: true; the input reads as it did. -/
def inferShadowSpec : ChangeSpec := { name := "inferShadow", fn := fun _ => fun
  | [d1, d2] => { results := [.lit (.bool true)], args := [d1, d2] }
  | _ => none }
def inferShadowRow : OpenClaim := { program := "ytjjcongjjikifaa", sum := "13197d6571e6d026f0fabc724d7fbf1be588821422ff2c74a6b063a57e29aca4", func := "warp/warplaw21.InferShadow", spec := "inferShadow", unfollowed := true, recurses := true, plainKeys := false, apart := false }
def InferShadowSaid : Prop := inferShadowRow.holds Try.pinned (OpenSpec.ofChange inferShadowSpec)

/-- ITS FALSE NEIGHBOUR: 'it returns false'. Refute it at one input. -/
def inferShadowWrong : ChangeSpec := { name := "inferShadow", fn := fun _ => fun
  | [d1, d2] => { results := [.lit (.bool false)], args := [d1, d2] }
  | _ => none }
def InferShadowWrongFalsely : Prop := inferShadowRow.holds Try.pinned (OpenSpec.ofChange inferShadowWrong)

/-- 'warplaw21.InferGroup': WHATEVER THE INPUT: true; the input reads as it did. -/
def inferGroupSpec : ChangeSpec := { name := "inferGroup", fn := fun _ => fun
  | [d] => { results := [.lit (.bool true)], args := [d] }
  | _ => none }
def inferGroupRow : OpenClaim := { program := "ytjjcongjjikifaa", sum := "13197d6571e6d026f0fabc724d7fbf1be588821422ff2c74a6b063a57e29aca4", func := "warp/warplaw21.InferGroup", spec := "inferGroup", unfollowed := true, recurses := true, plainKeys := false, apart := false }
def InferGroupSaid : Prop := inferGroupRow.holds Try.pinned (OpenSpec.ofChange inferGroupSpec)

/-- ITS FALSE NEIGHBOUR: 'it returns false'. Refute it at one input. -/
def inferGroupWrong : ChangeSpec := { name := "inferGroup", fn := fun _ => fun
  | [d] => { results := [.lit (.bool false)], args := [d] }
  | _ => none }
def InferGroupWrongFalsely : Prop := inferGroupRow.holds Try.pinned (OpenSpec.ofChange inferGroupWrong)

/-- 'warplaw21.InferUses': WHATEVER THE INPUT: true; the input reads as it did. -/
def inferUsesSpec : ChangeSpec := { name := "inferUses", fn := fun _ => fun
  | [d1, d2] => { results := [.lit (.bool true)], args := [d1, d2] }
  | _ => none }
def inferUsesRow : OpenClaim := { program := "ytjjcongjjikifaa", sum := "13197d6571e6d026f0fabc724d7fbf1be588821422ff2c74a6b063a57e29aca4", func := "warp/warplaw21.InferUses", spec := "inferUses", unfollowed := true, recurses := true, plainKeys := false, apart := false }
def InferUsesSaid : Prop := inferUsesRow.holds Try.pinned (OpenSpec.ofChange inferUsesSpec)

/-- ITS FALSE NEIGHBOUR: 'it returns false'. Refute it at one input. -/
def inferUsesWrong : ChangeSpec := { name := "inferUses", fn := fun _ => fun
  | [d1, d2] => { results := [.lit (.bool false)], args := [d1, d2] }
  | _ => none }
def InferUsesWrongFalsely : Prop := inferUsesRow.holds Try.pinned (OpenSpec.ofChange inferUsesWrong)

/-- 'warplaw21.InferLets': WHATEVER THE INPUT: true; the input reads as it did. -/
def inferLetsSpec : ChangeSpec := { name := "inferLets", fn := fun _ => fun
  | [d1, d2] => { results := [.lit (.bool true)], args := [d1, d2] }
  | _ => none }
def inferLetsRow : OpenClaim := { program := "ytjjcongjjikifaa", sum := "13197d6571e6d026f0fabc724d7fbf1be588821422ff2c74a6b063a57e29aca4", func := "warp/warplaw21.InferLets", spec := "inferLets", unfollowed := true, recurses := true, plainKeys := false, apart := false }
def InferLetsSaid : Prop := inferLetsRow.holds Try.pinned (OpenSpec.ofChange inferLetsSpec)

/-- ITS FALSE NEIGHBOUR: 'it returns false'. Refute it at one input. -/
def inferLetsWrong : ChangeSpec := { name := "inferLets", fn := fun _ => fun
  | [d1, d2] => { results := [.lit (.bool false)], args := [d1, d2] }
  | _ => none }
def InferLetsWrongFalsely : Prop := inferLetsRow.holds Try.pinned (OpenSpec.ofChange inferLetsWrong)

/-- 'warplaw21.InferOrder': WHATEVER THE INPUT: true; the input reads as it did. -/
def inferOrderSpec : ChangeSpec := { name := "inferOrder", fn := fun _ => fun
  | [d1, d2] => { results := [.lit (.bool true)], args := [d1, d2] }
  | _ => none }
def inferOrderRow : OpenClaim := { program := "ytjjcongjjikifaa", sum := "13197d6571e6d026f0fabc724d7fbf1be588821422ff2c74a6b063a57e29aca4", func := "warp/warplaw21.InferOrder", spec := "inferOrder", unfollowed := true, recurses := true, plainKeys := false, apart := false }
def InferOrderSaid : Prop := inferOrderRow.holds Try.pinned (OpenSpec.ofChange inferOrderSpec)

/-- ITS FALSE NEIGHBOUR: 'it returns false'. Refute it at one input. -/
def inferOrderWrong : ChangeSpec := { name := "inferOrder", fn := fun _ => fun
  | [d1, d2] => { results := [.lit (.bool false)], args := [d1, d2] }
  | _ => none }
def InferOrderWrongFalsely : Prop := inferOrderRow.holds Try.pinned (OpenSpec.ofChange inferOrderWrong)

/- THE SECOND FORM. 'bulk': how many values and letters a reading holds, each counted each time it is reached (what is shared counts as often as it is met; a slice's spare places count too). A statement '..UptoSaid' is the law's where the arguments, and the package variables that the reading takes, are together of bulk at most 1048576: NARROWER than '..Said'. Prove '..Said' where nothing that the law and all that it calls make is longer than what came in: it says more and counts as full. Else prove '..UptoSaid'. A law counts once. -/
mutual
def uptoBulk {H : Type} : DataW H → Nat
  | .lit (.string bytes) => bytes.length + 1
  | .lit _ => 1
  | .nil => 1
  | .ptr d => uptoBulk d + 1
  | .slice elems spare => uptoBulkAll elems + uptoBulkAll spare + 1
  | .agg parts => uptoBulkAll parts + 1
  | .iface _ d => uptoBulk d + 1
  | .map entries => uptoBulkEntries entries + 1
  | .held _ => 1
def uptoBulkAll {H : Type} : List (DataW H) → Nat
  | [] => 0
  | d :: r => uptoBulk d + uptoBulkAll r
def uptoBulkEntries {H : Type} : List (Lit × DataW H) → Nat
  | [] => 0
  | x :: r => uptoBulkEntry x + uptoBulkEntries r
def uptoBulkEntry {H : Type} : Lit × DataW H → Nat
  | (.string bytes, d) => bytes.length + uptoBulk d + 1
  | (_, d) => uptoBulk d + 1
 end
def uptoSmall : (H : Type) → List (DataW H) → Bool := fun _ ds => decide (uptoBulkAll ds ≤ 1048576)
def OpenSpec.upto (s : _root_.Go.ChangeSpec) : _root_.Go.OpenSpec := { _root_.Go.OpenSpec.ofChange s with cond := some uptoSmall }

/-- 'warplaw21.InferKnown', WHERE WHAT IT READS IS OF BULK AT MOST 1048576: true; the input reads as it did. -/
def inferKnownUptoRow : OpenClaim := { program := "ytjjcongjjikifaa", sum := "13197d6571e6d026f0fabc724d7fbf1be588821422ff2c74a6b063a57e29aca4", func := "warp/warplaw21.InferKnown", spec := "inferKnown", unfollowed := true, recurses := true, plainKeys := false, apart := false, narrowed := true }
def InferKnownUptoSaid : Prop := inferKnownUptoRow.holds Try.pinned (OpenSpec.upto inferKnownSpec)

/-- 'warplaw21.InferBad', WHERE WHAT IT READS IS OF BULK AT MOST 1048576: true; the input reads as it did. -/
def inferBadUptoRow : OpenClaim := { program := "ytjjcongjjikifaa", sum := "13197d6571e6d026f0fabc724d7fbf1be588821422ff2c74a6b063a57e29aca4", func := "warp/warplaw21.InferBad", spec := "inferBad", unfollowed := true, recurses := true, plainKeys := false, apart := false, narrowed := true }
def InferBadUptoSaid : Prop := inferBadUptoRow.holds Try.pinned (OpenSpec.upto inferBadSpec)

/-- 'warplaw21.InferShadow', WHERE WHAT IT READS IS OF BULK AT MOST 1048576: true; the input reads as it did. -/
def inferShadowUptoRow : OpenClaim := { program := "ytjjcongjjikifaa", sum := "13197d6571e6d026f0fabc724d7fbf1be588821422ff2c74a6b063a57e29aca4", func := "warp/warplaw21.InferShadow", spec := "inferShadow", unfollowed := true, recurses := true, plainKeys := false, apart := false, narrowed := true }
def InferShadowUptoSaid : Prop := inferShadowUptoRow.holds Try.pinned (OpenSpec.upto inferShadowSpec)

/-- 'warplaw21.InferGroup', WHERE WHAT IT READS IS OF BULK AT MOST 1048576: true; the input reads as it did. -/
def inferGroupUptoRow : OpenClaim := { program := "ytjjcongjjikifaa", sum := "13197d6571e6d026f0fabc724d7fbf1be588821422ff2c74a6b063a57e29aca4", func := "warp/warplaw21.InferGroup", spec := "inferGroup", unfollowed := true, recurses := true, plainKeys := false, apart := false, narrowed := true }
def InferGroupUptoSaid : Prop := inferGroupUptoRow.holds Try.pinned (OpenSpec.upto inferGroupSpec)

/-- 'warplaw21.InferUses', WHERE WHAT IT READS IS OF BULK AT MOST 1048576: true; the input reads as it did. -/
def inferUsesUptoRow : OpenClaim := { program := "ytjjcongjjikifaa", sum := "13197d6571e6d026f0fabc724d7fbf1be588821422ff2c74a6b063a57e29aca4", func := "warp/warplaw21.InferUses", spec := "inferUses", unfollowed := true, recurses := true, plainKeys := false, apart := false, narrowed := true }
def InferUsesUptoSaid : Prop := inferUsesUptoRow.holds Try.pinned (OpenSpec.upto inferUsesSpec)

/-- 'warplaw21.InferLets', WHERE WHAT IT READS IS OF BULK AT MOST 1048576: true; the input reads as it did. -/
def inferLetsUptoRow : OpenClaim := { program := "ytjjcongjjikifaa", sum := "13197d6571e6d026f0fabc724d7fbf1be588821422ff2c74a6b063a57e29aca4", func := "warp/warplaw21.InferLets", spec := "inferLets", unfollowed := true, recurses := true, plainKeys := false, apart := false, narrowed := true }
def InferLetsUptoSaid : Prop := inferLetsUptoRow.holds Try.pinned (OpenSpec.upto inferLetsSpec)

/-- 'warplaw21.InferOrder', WHERE WHAT IT READS IS OF BULK AT MOST 1048576: true; the input reads as it did. -/
def inferOrderUptoRow : OpenClaim := { program := "ytjjcongjjikifaa", sum := "13197d6571e6d026f0fabc724d7fbf1be588821422ff2c74a6b063a57e29aca4", func := "warp/warplaw21.InferOrder", spec := "inferOrder", unfollowed := true, recurses := true, plainKeys := false, apart := false, narrowed := true }
def InferOrderUptoSaid : Prop := inferOrderUptoRow.holds Try.pinned (OpenSpec.upto inferOrderSpec)

end Rows
end Go.Proofs.Ytjjcongjjikifaa
