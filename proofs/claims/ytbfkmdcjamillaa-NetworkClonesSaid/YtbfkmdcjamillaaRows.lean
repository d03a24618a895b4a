/-
  No cell of these rows narrows 'for every input' (looked for: loops, veiled, ifaces, maps, wideKeys, modest, calm, conditions, laid).
  DERIVED. THE GIVEN ROWS OF THIS SEAT. 10 by the template 'for every input the law returns true; each argument reads behind the call as it read before'; 0 by the template 'total and deterministic' (their statements: YtbfkmdcjamillaaTotals.lean).
  GIVEN WITH THE SEED: the statements are not yours to turn. If you find one false, say at which input.
  Laid BY PROGRAM, IN A SANDBOX (cutbox-rows.mjs): the forced cells as the released guide's own fill.sh prints them over the translation 9662c94487066375… (all of the seat's roots in one cut). By AI agents, Wed Nov 11 2026. No macro, syntax, notation, axiom, sorry.
-/
import Derived.Test.YtbfkmdcjamillaaChecked
import GoSem.Claim
import GoSem.ClaimJoined
import GoSem.ClaimMapViews
import Derived.JoinedTies
import Derived.KernelRfl
namespace Go.Proofs.Ytbfkmdcjamillaa
/- THE CELL 'sum', in the pinned program and in every row, IS THE sha256 OF THE DUMP (.gsa) THAT YtbfkmdcjamillaaProg.lean LOADS. Nothing in Lean hashes anything: it is a label: what it is worth is what the hold of that sum in a sandbox is worth. -/
noncomputable def Try.pinned : Pinned := { name := "ytbfkmdcjamillaa", sum := "9662c94487066375e12c7c740854416f9473b26ad3e1910be9efa20584d15d3a", checked := Try.checked }
namespace Rows
def none {H : Type} : Left H := { results := [], args := [] }

/-- 'manifoldlaw48.NetworkDelays': WHATEVER THE INPUT: true; the input reads as it did. -/
def networkDelaysSpec : ChangeSpec := { name := "networkDelays", fn := fun _ => fun
  | [d] => { results := [.lit (.bool true)], args := [d] }
  | _ => none }
def networkDelaysRow : OpenClaim := { program := "ytbfkmdcjamillaa", sum := "9662c94487066375e12c7c740854416f9473b26ad3e1910be9efa20584d15d3a", func := "manifold/manifoldlaw48.NetworkDelays", spec := "networkDelays", unfollowed := true, recurses := true, plainKeys := false, apart := false }
def NetworkDelaysSaid : Prop := networkDelaysRow.holds Try.pinned (OpenSpec.ofChange networkDelaysSpec)

/-- ITS FALSE NEIGHBOUR: 'it returns false'. Refute it at one input. -/
def networkDelaysWrong : ChangeSpec := { name := "networkDelays", fn := fun _ => fun
  | [d] => { results := [.lit (.bool false)], args := [d] }
  | _ => none }
def NetworkDelaysWrongFalsely : Prop := networkDelaysRow.holds Try.pinned (OpenSpec.ofChange networkDelaysWrong)

/-- 'manifoldlaw48.NetworkPlaces': WHATEVER THE INPUT: true; the input reads as it did. -/
def networkPlacesSpec : ChangeSpec := { name := "networkPlaces", fn := fun _ => fun
  | [d1, d2] => { results := [.lit (.bool true)], args := [d1, d2] }
  | _ => none }
def networkPlacesRow : OpenClaim := { program := "ytbfkmdcjamillaa", sum := "9662c94487066375e12c7c740854416f9473b26ad3e1910be9efa20584d15d3a", func := "manifold/manifoldlaw48.NetworkPlaces", spec := "networkPlaces", unfollowed := true, recurses := true, plainKeys := false, apart := false }
def NetworkPlacesSaid : Prop := networkPlacesRow.holds Try.pinned (OpenSpec.ofChange networkPlacesSpec)

/-- ITS FALSE NEIGHBOUR: 'it returns false'. Refute it at one input. -/
def networkPlacesWrong : ChangeSpec := { name := "networkPlaces", fn := fun _ => fun
  | [d1, d2] => { results := [.lit (.bool false)], args := [d1, d2] }
  | _ => none }
def NetworkPlacesWrongFalsely : Prop := networkPlacesRow.holds Try.pinned (OpenSpec.ofChange networkPlacesWrong)

/-- 'manifoldlaw48.NetworkErrors': WHATEVER THE INPUT: true; the input reads as it did. -/
def networkErrorsSpec : ChangeSpec := { name := "networkErrors", fn := fun _ => fun
  | [d1, d2, d3] => { results := [.lit (.bool true)], args := [d1, d2, d3] }
  | _ => none }
def networkErrorsRow : OpenClaim := { program := "ytbfkmdcjamillaa", sum := "9662c94487066375e12c7c740854416f9473b26ad3e1910be9efa20584d15d3a", func := "manifold/manifoldlaw48.NetworkErrors", spec := "networkErrors", unfollowed := true, recurses := true, plainKeys := false, apart := false }
def NetworkErrorsSaid : Prop := networkErrorsRow.holds Try.pinned (OpenSpec.ofChange networkErrorsSpec)

/-- ITS FALSE NEIGHBOUR: 'it returns false'. Refute it at one input. -/
def networkErrorsWrong : ChangeSpec := { name := "networkErrors", fn := fun _ => fun
  | [d1, d2, d3] => { results := [.lit (.bool false)], args := [d1, d2, d3] }
  | _ => none }
def NetworkErrorsWrongFalsely : Prop := networkErrorsRow.holds Try.pinned (OpenSpec.ofChange networkErrorsWrong)

/-- 'manifoldlaw48.NetworkFull': WHATEVER THE INPUT: true; the input reads as it did. -/
def networkFullSpec : ChangeSpec := { name := "networkFull", fn := fun _ => fun
  | [d] => { results := [.lit (.bool true)], args := [d] }
  | _ => none }
def networkFullRow : OpenClaim := { program := "ytbfkmdcjamillaa", sum := "9662c94487066375e12c7c740854416f9473b26ad3e1910be9efa20584d15d3a", func := "manifold/manifoldlaw48.NetworkFull", spec := "networkFull", unfollowed := true, recurses := true, plainKeys := false, apart := false }
def NetworkFullSaid : Prop := networkFullRow.holds Try.pinned (OpenSpec.ofChange networkFullSpec)

/-- ITS FALSE NEIGHBOUR: 'it returns false'. Refute it at one input. -/
def networkFullWrong : ChangeSpec := { name := "networkFull", fn := fun _ => fun
  | [d] => { results := [.lit (.bool false)], args := [d] }
  | _ => none }
def NetworkFullWrongFalsely : Prop := networkFullRow.holds Try.pinned (OpenSpec.ofChange networkFullWrong)

/-- 'manifoldlaw48.NetworkReliable': WHATEVER THE INPUT: true; the input reads as it did. -/
def networkReliableSpec : ChangeSpec := { name := "networkReliable", fn := fun _ => fun
  | [d] => { results := [.lit (.bool true)], args := [d] }
  | _ => none }
def networkReliableRow : OpenClaim := { program := "ytbfkmdcjamillaa", sum := "9662c94487066375e12c7c740854416f9473b26ad3e1910be9efa20584d15d3a", func := "manifold/manifoldlaw48.NetworkReliable", spec := "networkReliable", unfollowed := true, recurses := true, plainKeys := false, apart := false }
def NetworkReliableSaid : Prop := networkReliableRow.holds Try.pinned (OpenSpec.ofChange networkReliableSpec)

/-- ITS FALSE NEIGHBOUR: 'it returns false'. Refute it at one input. -/
def networkReliableWrong : ChangeSpec := { name := "networkReliable", fn := fun _ => fun
  | [d] => { results := [.lit (.bool false)], args := [d] }
  | _ => none }
def NetworkReliableWrongFalsely : Prop := networkReliableRow.holds Try.pinned (OpenSpec.ofChange networkReliableWrong)

/-- 'manifoldlaw48.NetworkArrives': WHATEVER THE INPUT: true; the input reads as it did. -/
def networkArrivesSpec : ChangeSpec := { name := "networkArrives", fn := fun _ => fun
  | [d1, d2] => { results := [.lit (.bool true)], args := [d1, d2] }
  | _ => none }
def networkArrivesRow : OpenClaim := { program := "ytbfkmdcjamillaa", sum := "9662c94487066375e12c7c740854416f9473b26ad3e1910be9efa20584d15d3a", func := "manifold/manifoldlaw48.NetworkArrives", spec := "networkArrives", unfollowed := true, recurses := true, plainKeys := false, apart := false }
def NetworkArrivesSaid : Prop := networkArrivesRow.holds Try.pinned (OpenSpec.ofChange networkArrivesSpec)

/-- ITS FALSE NEIGHBOUR: 'it returns false'. Refute it at one input. -/
def networkArrivesWrong : ChangeSpec := { name := "networkArrives", fn := fun _ => fun
  | [d1, d2] => { results := [.lit (.bool false)], args := [d1, d2] }
  | _ => none }
def NetworkArrivesWrongFalsely : Prop := networkArrivesRow.holds Try.pinned (OpenSpec.ofChange networkArrivesWrong)

/-- 'manifoldlaw48.NetworkRuns': WHATEVER THE INPUT: true; the input reads as it did. -/
def networkRunsSpec : ChangeSpec := { name := "networkRuns", fn := fun _ => fun
  | [d1, d2] => { results := [.lit (.bool true)], args := [d1, d2] }
  | _ => none }
def networkRunsRow : OpenClaim := { program := "ytbfkmdcjamillaa", sum := "9662c94487066375e12c7c740854416f9473b26ad3e1910be9efa20584d15d3a", func := "manifold/manifoldlaw48.NetworkRuns", spec := "networkRuns", unfollowed := true, recurses := true, plainKeys := false, apart := false }
def NetworkRunsSaid : Prop := networkRunsRow.holds Try.pinned (OpenSpec.ofChange networkRunsSpec)

/-- ITS FALSE NEIGHBOUR: 'it returns false'. Refute it at one input. -/
def networkRunsWrong : ChangeSpec := { name := "networkRuns", fn := fun _ => fun
  | [d1, d2] => { results := [.lit (.bool false)], args := [d1, d2] }
  | _ => none }
def NetworkRunsWrongFalsely : Prop := networkRunsRow.holds Try.pinned (OpenSpec.ofChange networkRunsWrong)

/-- 'manifoldlaw48.NetworkCuts': WHATEVER THE INPUT: true; the input reads as it did. -/
def networkCutsSpec : ChangeSpec := { name := "networkCuts", fn := fun _ => fun
  | [d1, d2, d3] => { results := [.lit (.bool true)], args := [d1, d2, d3] }
  | _ => none }
def networkCutsRow : OpenClaim := { program := "ytbfkmdcjamillaa", sum := "9662c94487066375e12c7c740854416f9473b26ad3e1910be9efa20584d15d3a", func := "manifold/manifoldlaw48.NetworkCuts", spec := "networkCuts", unfollowed := true, recurses := true, plainKeys := false, apart := false }
def NetworkCutsSaid : Prop := networkCutsRow.holds Try.pinned (OpenSpec.ofChange networkCutsSpec)

/-- ITS FALSE NEIGHBOUR: 'it returns false'. Refute it at one input. -/
def networkCutsWrong : ChangeSpec := { name := "networkCuts", fn := fun _ => fun
  | [d1, d2, d3] => { results := [.lit (.bool false)], args := [d1, d2, d3] }
  | _ => none }
def NetworkCutsWrongFalsely : Prop := networkCutsRow.holds Try.pinned (OpenSpec.ofChange networkCutsWrong)

/-- 'manifoldlaw48.NetworkClones': WHATEVER THE INPUT: true; the input reads as it did. -/
def networkClonesSpec : ChangeSpec := { name := "networkClones", fn := fun _ => fun
  | [d1, d2, d3] => { results := [.lit (.bool true)], args := [d1, d2, d3] }
  | _ => none }
def networkClonesRow : OpenClaim := { program := "ytbfkmdcjamillaa", sum := "9662c94487066375e12c7c740854416f9473b26ad3e1910be9efa20584d15d3a", func := "manifold/manifoldlaw48.NetworkClones", spec := "networkClones", inPlace := ["maps.clone"], unfollowed := true, recurses := true, plainKeys := false, apart := false }
def NetworkClonesSaid : Prop := networkClonesRow.holds Try.pinned (OpenSpec.ofChange networkClonesSpec)

/-- ITS FALSE NEIGHBOUR: 'it returns false'. Refute it at one input. -/
def networkClonesWrong : ChangeSpec := { name := "networkClones", fn := fun _ => fun
  | [d1, d2, d3] => { results := [.lit (.bool false)], args := [d1, d2, d3] }
  | _ => none }
def NetworkClonesWrongFalsely : Prop := networkClonesRow.holds Try.pinned (OpenSpec.ofChange networkClonesWrong)

/-- 'manifoldlaw48.NetworkNil': WHATEVER THE INPUT: true; the input reads as it did. -/
def networkNilSpec : ChangeSpec := { name := "networkNil", fn := fun _ => fun
  | [d1, d2, d3] => { results := [.lit (.bool true)], args := [d1, d2, d3] }
  | _ => none }
def networkNilRow : OpenClaim := { program := "ytbfkmdcjamillaa", sum := "9662c94487066375e12c7c740854416f9473b26ad3e1910be9efa20584d15d3a", func := "manifold/manifoldlaw48.NetworkNil", spec := "networkNil", inPlace := ["maps.clone"], unfollowed := true, recurses := true, plainKeys := false, apart := false }
def NetworkNilSaid : Prop := networkNilRow.holds Try.pinned (OpenSpec.ofChange networkNilSpec)

/-- ITS FALSE NEIGHBOUR: 'it returns false'. Refute it at one input. -/
def networkNilWrong : ChangeSpec := { name := "networkNil", fn := fun _ => fun
  | [d1, d2, d3] => { results := [.lit (.bool false)], args := [d1, d2, d3] }
  | _ => none }
def NetworkNilWrongFalsely : Prop := networkNilRow.holds Try.pinned (OpenSpec.ofChange networkNilWrong)

/- THE SECOND FORM. 'bulk': how many values and letters a reading holds, each counted each time it is reached (what is shared counts as often as it is met; a slice's spare places count too). A statement '..UptoSaid' is the law's where the arguments, and the package variables that the reading takes, are together of bulk at most 1048576: NARROWER than '..Said'. Prove '..Said' where nothing that the law and all that it calls make is longer than what came in: it says more and counts as full. Else prove '..UptoSaid'. A law counts once. -/
mutual
def uptoBulk {H : Type} : DataW H → Nat
  | .lit (.string bytes) => bytes.length + 1
  | .lit _ => 1
  | .nil => 1
  | .ptr d => uptoBulk d + 1
  | .slice elems spare => uptoBulkAll elems + uptoBulkAll spare + 1
  | .agg parts => uptoBulkAll parts + 1
  | .iface _ d => uptoBulk d + 1
  | .map entries => uptoBulkEntries entries + 1
  | .held _ => 1
def uptoBulkAll {H : Type} : List (DataW H) → Nat
  | [] => 0
  | d :: r => uptoBulk d + uptoBulkAll r
def uptoBulkEntries {H : Type} : List (Lit × DataW H) → Nat
  | [] => 0
  | x :: r => uptoBulkEntry x + uptoBulkEntries r
def uptoBulkEntry {H : Type} : Lit × DataW H → Nat
  | (.string bytes, d) => bytes.length + uptoBulk d + 1
  | (_, d) => uptoBulk d + 1
 end
def uptoSmall : (H : Type) → List (DataW H) → Bool := fun _ ds => decide (uptoBulkAll ds ≤ 1048576)
def OpenSpec.upto (s : _root_.Go.ChangeSpec) : _root_.Go.OpenSpec := { _root_.Go.OpenSpec.ofChange s with cond := some uptoSmall }

/-- 'manifoldlaw48.NetworkDelays', WHERE WHAT IT READS IS OF BULK AT MOST 1048576: true; the input reads as it did. -/
def networkDelaysUptoRow : OpenClaim := { program := "ytbfkmdcjamillaa", sum := "9662c94487066375e12c7c740854416f9473b26ad3e1910be9efa20584d15d3a", func := "manifold/manifoldlaw48.NetworkDelays", spec := "networkDelays", unfollowed := true, recurses := true, plainKeys := false, apart := false, narrowed := true }
def NetworkDelaysUptoSaid : Prop := networkDelaysUptoRow.holds Try.pinned (OpenSpec.upto networkDelaysSpec)

/-- 'manifoldlaw48.NetworkPlaces', WHERE WHAT IT READS IS OF BULK AT MOST 1048576: true; the input reads as it did. -/
def networkPlacesUptoRow : OpenClaim := { program := "ytbfkmdcjamillaa", sum := "9662c94487066375e12c7c740854416f9473b26ad3e1910be9efa20584d15d3a", func := "manifold/manifoldlaw48.NetworkPlaces", spec := "networkPlaces", unfollowed := true, recurses := true, plainKeys := false, apart := false, narrowed := true }
def NetworkPlacesUptoSaid : Prop := networkPlacesUptoRow.holds Try.pinned (OpenSpec.upto networkPlacesSpec)

/-- 'manifoldlaw48.NetworkErrors', WHERE WHAT IT READS IS OF BULK AT MOST 1048576: true; the input reads as it did. -/
def networkErrorsUptoRow : OpenClaim := { program := "ytbfkmdcjamillaa", sum := "9662c94487066375e12c7c740854416f9473b26ad3e1910be9efa20584d15d3a", func := "manifold/manifoldlaw48.NetworkErrors", spec := "networkErrors", unfollowed := true, recurses := true, plainKeys := false, apart := false, narrowed := true }
def NetworkErrorsUptoSaid : Prop := networkErrorsUptoRow.holds Try.pinned (OpenSpec.upto networkErrorsSpec)

/-- 'manifoldlaw48.NetworkFull', WHERE WHAT IT READS IS OF BULK AT MOST 1048576: true; the input reads as it did. -/
def networkFullUptoRow : OpenClaim := { program := "ytbfkmdcjamillaa", sum := "9662c94487066375e12c7c740854416f9473b26ad3e1910be9efa20584d15d3a", func := "manifold/manifoldlaw48.NetworkFull", spec := "networkFull", unfollowed := true, recurses := true, plainKeys := false, apart := false, narrowed := true }
def NetworkFullUptoSaid : Prop := networkFullUptoRow.holds Try.pinned (OpenSpec.upto networkFullSpec)

/-- 'manifoldlaw48.NetworkReliable', WHERE WHAT IT READS IS OF BULK AT MOST 1048576: true; the input reads as it did. -/
def networkReliableUptoRow : OpenClaim := { program := "ytbfkmdcjamillaa", sum := "9662c94487066375e12c7c740854416f9473b26ad3e1910be9efa20584d15d3a", func := "manifold/manifoldlaw48.NetworkReliable", spec := "networkReliable", unfollowed := true, recurses := true, plainKeys := false, apart := false, narrowed := true }
def NetworkReliableUptoSaid : Prop := networkReliableUptoRow.holds Try.pinned (OpenSpec.upto networkReliableSpec)

/-- 'manifoldlaw48.NetworkArrives', WHERE WHAT IT READS IS OF BULK AT MOST 1048576: true; the input reads as it did. -/
def networkArrivesUptoRow : OpenClaim := { program := "ytbfkmdcjamillaa", sum := "9662c94487066375e12c7c740854416f9473b26ad3e1910be9efa20584d15d3a", func := "manifold/manifoldlaw48.NetworkArrives", spec := "networkArrives", unfollowed := true, recurses := true, plainKeys := false, apart := false, narrowed := true }
def NetworkArrivesUptoSaid : Prop := networkArrivesUptoRow.holds Try.pinned (OpenSpec.upto networkArrivesSpec)

/-- 'manifoldlaw48.NetworkRuns', WHERE WHAT IT READS IS OF BULK AT MOST 1048576: true; the input reads as it did. -/
def networkRunsUptoRow : OpenClaim := { program := "ytbfkmdcjamillaa", sum := "9662c94487066375e12c7c740854416f9473b26ad3e1910be9efa20584d15d3a", func := "manifold/manifoldlaw48.NetworkRuns", spec := "networkRuns", unfollowed := true, recurses := true, plainKeys := false, apart := false, narrowed := true }
def NetworkRunsUptoSaid : Prop := networkRunsUptoRow.holds Try.pinned (OpenSpec.upto networkRunsSpec)

/-- 'manifoldlaw48.NetworkCuts', WHERE WHAT IT READS IS OF BULK AT MOST 1048576: true; the input reads as it did. -/
def networkCutsUptoRow : OpenClaim := { program := "ytbfkmdcjamillaa", sum := "9662c94487066375e12c7c740854416f9473b26ad3e1910be9efa20584d15d3a", func := "manifold/manifoldlaw48.NetworkCuts", spec := "networkCuts", unfollowed := true, recurses := true, plainKeys := false, apart := false, narrowed := true }
def NetworkCutsUptoSaid : Prop := networkCutsUptoRow.holds Try.pinned (OpenSpec.upto networkCutsSpec)

/-- 'manifoldlaw48.NetworkClones', WHERE WHAT IT READS IS OF BULK AT MOST 1048576: true; the input reads as it did. -/
def networkClonesUptoRow : OpenClaim := { program := "ytbfkmdcjamillaa", sum := "9662c94487066375e12c7c740854416f9473b26ad3e1910be9efa20584d15d3a", func := "manifold/manifoldlaw48.NetworkClones", spec := "networkClones", inPlace := ["maps.clone"], unfollowed := true, recurses := true, plainKeys := false, apart := false, narrowed := true }
def NetworkClonesUptoSaid : Prop := networkClonesUptoRow.holds Try.pinned (OpenSpec.upto networkClonesSpec)

/-- 'manifoldlaw48.NetworkNil', WHERE WHAT IT READS IS OF BULK AT MOST 1048576: true; the input reads as it did. -/
def networkNilUptoRow : OpenClaim := { program := "ytbfkmdcjamillaa", sum := "9662c94487066375e12c7c740854416f9473b26ad3e1910be9efa20584d15d3a", func := "manifold/manifoldlaw48.NetworkNil", spec := "networkNil", inPlace := ["maps.clone"], unfollowed := true, recurses := true, plainKeys := false, apart := false, narrowed := true }
def NetworkNilUptoSaid : Prop := networkNilUptoRow.holds Try.pinned (OpenSpec.upto networkNilSpec)

end Rows
end Go.Proofs.Ytbfkmdcjamillaa
