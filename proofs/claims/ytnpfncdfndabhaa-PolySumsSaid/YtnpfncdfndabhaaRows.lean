/-
  No cell of these rows narrows 'for every input' (looked for: loops, veiled, ifaces, maps, wideKeys, modest, calm, conditions, laid).
  DERIVED. THE GIVEN ROWS OF THIS SEAT. 6 by the template 'for every input the law returns true; each argument reads behind the call as it read before'; 0 by the template 'total and deterministic' (their statements: YtnpfncdfndabhaaTotals.lean).
  GIVEN WITH THE SEED: the statements are not yours to turn. If you find one false, say at which input.
  Laid BY PROGRAM, IN A SANDBOX (cutbox-rows.mjs): the forced cells as the released guide's own fill.sh prints them over the translation fa79a7f041c03c36… (all of the seat's roots in one cut). By AI agents, Wed Nov 11 2026. No macro, syntax, notation, axiom, sorry.
-/
import Derived.Test.YtnpfncdfndabhaaChecked
import GoSem.Claim
import GoSem.ClaimJoined
import GoSem.ClaimMapViews
import Derived.JoinedTies
import Derived.KernelRfl
namespace Go.Proofs.Ytnpfncdfndabhaa
/- THE CELL 'sum', in the pinned program and in every row, IS THE sha256 OF THE DUMP (.gsa) THAT YtnpfncdfndabhaaProg.lean LOADS. Nothing in Lean hashes anything: it is a label: what it is worth is what the hold of that sum in a sandbox is worth. -/
noncomputable def Try.pinned : Pinned := { name := "ytnpfncdfndabhaa", sum := "fa79a7f041c03c36068438492727dc36215140063166e2452981367bd41b4a3d", checked := Try.checked }
namespace Rows
def none {H : Type} : Left H := { results := [], args := [] }

/-- 'blackboardlaw3.PolyRoots': WHATEVER THE INPUT: true; the input reads as it did. -/
def polyRootsSpec : ChangeSpec := { name := "polyRoots", fn := fun _ => fun
  | [d1, d2] => { results := [.lit (.bool true)], args := [d1, d2] }
  | _ => none }
def polyRootsRow : OpenClaim := { program := "ytnpfncdfndabhaa", sum := "fa79a7f041c03c36068438492727dc36215140063166e2452981367bd41b4a3d", func := "blackboard/blackboardlaw3.PolyRoots", spec := "polyRoots", unfollowed := true, recurses := true, apart := false }
def PolyRootsSaid : Prop := polyRootsRow.holds Try.pinned (OpenSpec.ofChange polyRootsSpec)

/-- ITS FALSE NEIGHBOUR: 'it returns false'. Refute it at one input. -/
def polyRootsWrong : ChangeSpec := { name := "polyRoots", fn := fun _ => fun
  | [d1, d2] => { results := [.lit (.bool false)], args := [d1, d2] }
  | _ => none }
def PolyRootsWrongFalsely : Prop := polyRootsRow.holds Try.pinned (OpenSpec.ofChange polyRootsWrong)

/-- 'blackboardlaw3.PolySums': WHATEVER THE INPUT: true; the input reads as it did. -/
def polySumsSpec : ChangeSpec := { name := "polySums", fn := fun _ => fun
  | [d1, d2, d3] => { results := [.lit (.bool true)], args := [d1, d2, d3] }
  | _ => none }
def polySumsRow : OpenClaim := { program := "ytnpfncdfndabhaa", sum := "fa79a7f041c03c36068438492727dc36215140063166e2452981367bd41b4a3d", func := "blackboard/blackboardlaw3.PolySums", spec := "polySums", unfollowed := true, recurses := true, apart := false }
def PolySumsSaid : Prop := polySumsRow.holds Try.pinned (OpenSpec.ofChange polySumsSpec)

/-- ITS FALSE NEIGHBOUR: 'it returns false'. Refute it at one input. -/
def polySumsWrong : ChangeSpec := { name := "polySums", fn := fun _ => fun
  | [d1, d2, d3] => { results := [.lit (.bool false)], args := [d1, d2, d3] }
  | _ => none }
def PolySumsWrongFalsely : Prop := polySumsRow.holds Try.pinned (OpenSpec.ofChange polySumsWrong)

/-- 'blackboardlaw3.PolyDegrees': WHATEVER THE INPUT: true; the input reads as it did. -/
def polyDegreesSpec : ChangeSpec := { name := "polyDegrees", fn := fun _ => fun
  | [d1, d2] => { results := [.lit (.bool true)], args := [d1, d2] }
  | _ => none }
def polyDegreesRow : OpenClaim := { program := "ytnpfncdfndabhaa", sum := "fa79a7f041c03c36068438492727dc36215140063166e2452981367bd41b4a3d", func := "blackboard/blackboardlaw3.PolyDegrees", spec := "polyDegrees", unfollowed := true, recurses := true, apart := false }
def PolyDegreesSaid : Prop := polyDegreesRow.holds Try.pinned (OpenSpec.ofChange polyDegreesSpec)

/-- ITS FALSE NEIGHBOUR: 'it returns false'. Refute it at one input. -/
def polyDegreesWrong : ChangeSpec := { name := "polyDegrees", fn := fun _ => fun
  | [d1, d2] => { results := [.lit (.bool false)], args := [d1, d2] }
  | _ => none }
def PolyDegreesWrongFalsely : Prop := polyDegreesRow.holds Try.pinned (OpenSpec.ofChange polyDegreesWrong)

/-- 'blackboardlaw3.PolyReckons': WHATEVER THE INPUT: true; the input reads as it did. -/
def polyReckonsSpec : ChangeSpec := { name := "polyReckons", fn := fun _ => fun
  | [d1, d2, d3] => { results := [.lit (.bool true)], args := [d1, d2, d3] }
  | _ => none }
def polyReckonsRow : OpenClaim := { program := "ytnpfncdfndabhaa", sum := "fa79a7f041c03c36068438492727dc36215140063166e2452981367bd41b4a3d", func := "blackboard/blackboardlaw3.PolyReckons", spec := "polyReckons", unfollowed := true, recurses := true, apart := false }
def PolyReckonsSaid : Prop := polyReckonsRow.holds Try.pinned (OpenSpec.ofChange polyReckonsSpec)

/-- ITS FALSE NEIGHBOUR: 'it returns false'. Refute it at one input. -/
def polyReckonsWrong : ChangeSpec := { name := "polyReckons", fn := fun _ => fun
  | [d1, d2, d3] => { results := [.lit (.bool false)], args := [d1, d2, d3] }
  | _ => none }
def PolyReckonsWrongFalsely : Prop := polyReckonsRow.holds Try.pinned (OpenSpec.ofChange polyReckonsWrong)

/-- 'blackboardlaw3.PolyBack': WHATEVER THE INPUT: true; the input reads as it did. -/
def polyBackSpec : ChangeSpec := { name := "polyBack", fn := fun _ => fun
  | [d1, d2, d3] => { results := [.lit (.bool true)], args := [d1, d2, d3] }
  | _ => none }
def polyBackRow : OpenClaim := { program := "ytnpfncdfndabhaa", sum := "fa79a7f041c03c36068438492727dc36215140063166e2452981367bd41b4a3d", func := "blackboard/blackboardlaw3.PolyBack", spec := "polyBack", unfollowed := true, recurses := true, apart := false }
def PolyBackSaid : Prop := polyBackRow.holds Try.pinned (OpenSpec.ofChange polyBackSpec)

/-- ITS FALSE NEIGHBOUR: 'it returns false'. Refute it at one input. -/
def polyBackWrong : ChangeSpec := { name := "polyBack", fn := fun _ => fun
  | [d1, d2, d3] => { results := [.lit (.bool false)], args := [d1, d2, d3] }
  | _ => none }
def PolyBackWrongFalsely : Prop := polyBackRow.holds Try.pinned (OpenSpec.ofChange polyBackWrong)

/-- 'blackboardlaw3.PolyKnown': WHATEVER THE INPUT: true; the input reads as it did. -/
def polyKnownSpec : ChangeSpec := { name := "polyKnown", fn := fun _ => fun
  | [] => { results := [.lit (.bool true)], args := [] }
  | _ => none }
def polyKnownRow : OpenClaim := { program := "ytnpfncdfndabhaa", sum := "fa79a7f041c03c36068438492727dc36215140063166e2452981367bd41b4a3d", func := "blackboard/blackboardlaw3.PolyKnown", spec := "polyKnown", unfollowed := true, recurses := true, apart := false }
def PolyKnownSaid : Prop := polyKnownRow.holds Try.pinned (OpenSpec.ofChange polyKnownSpec)

/-- ITS FALSE NEIGHBOUR: 'it returns false'. Refute it at one input. -/
def polyKnownWrong : ChangeSpec := { name := "polyKnown", fn := fun _ => fun
  | [] => { results := [.lit (.bool false)], args := [] }
  | _ => none }
def PolyKnownWrongFalsely : Prop := polyKnownRow.holds Try.pinned (OpenSpec.ofChange polyKnownWrong)

/- THE SECOND FORM. 'bulk': how many values and letters a reading holds, each counted each time it is reached (what is shared counts as often as it is met; a slice's spare places count too). A statement '..UptoSaid' is the law's where the arguments, and the package variables that the reading takes, are together of bulk at most 1048576: NARROWER than '..Said'. Prove '..Said' where nothing that the law and all that it calls make is longer than what came in: it says more and counts as full. Else prove '..UptoSaid'. A law counts once. -/
mutual
def uptoBulk {H : Type} : DataW H → Nat
  | .lit (.string bytes) => bytes.length + 1
  | .lit _ => 1
  | .nil => 1
  | .ptr d => uptoBulk d + 1
  | .slice elems spare => uptoBulkAll elems + uptoBulkAll spare + 1
  | .agg parts => uptoBulkAll parts + 1
  | .iface _ d => uptoBulk d + 1
  | .map entries => uptoBulkEntries entries + 1
  | .held _ => 1
def uptoBulkAll {H : Type} : List (DataW H) → Nat
  | [] => 0
  | d :: r => uptoBulk d + uptoBulkAll r
def uptoBulkEntries {H : Type} : List (Lit × DataW H) → Nat
  | [] => 0
  | x :: r => uptoBulkEntry x + uptoBulkEntries r
def uptoBulkEntry {H : Type} : Lit × DataW H → Nat
  | (.string bytes, d) => bytes.length + uptoBulk d + 1
  | (_, d) => uptoBulk d + 1
 end
def uptoSmall : (H : Type) → List (DataW H) → Bool := fun _ ds => decide (uptoBulkAll ds ≤ 1048576)
def OpenSpec.upto (s : _root_.Go.ChangeSpec) : _root_.Go.OpenSpec := { _root_.Go.OpenSpec.ofChange s with cond := some uptoSmall }

/-- 'blackboardlaw3.PolyRoots', WHERE WHAT IT READS IS OF BULK AT MOST 1048576: true; the input reads as it did. -/
def polyRootsUptoRow : OpenClaim := { program := "ytnpfncdfndabhaa", sum := "fa79a7f041c03c36068438492727dc36215140063166e2452981367bd41b4a3d", func := "blackboard/blackboardlaw3.PolyRoots", spec := "polyRoots", unfollowed := true, recurses := true, apart := false, narrowed := true }
def PolyRootsUptoSaid : Prop := polyRootsUptoRow.holds Try.pinned (OpenSpec.upto polyRootsSpec)

/-- 'blackboardlaw3.PolySums', WHERE WHAT IT READS IS OF BULK AT MOST 1048576: true; the input reads as it did. -/
def polySumsUptoRow : OpenClaim := { program := "ytnpfncdfndabhaa", sum := "fa79a7f041c03c36068438492727dc36215140063166e2452981367bd41b4a3d", func := "blackboard/blackboardlaw3.PolySums", spec := "polySums", unfollowed := true, recurses := true, apart := false, narrowed := true }
def PolySumsUptoSaid : Prop := polySumsUptoRow.holds Try.pinned (OpenSpec.upto polySumsSpec)

/-- 'blackboardlaw3.PolyDegrees', WHERE WHAT IT READS IS OF BULK AT MOST 1048576: true; the input reads as it did. -/
def polyDegreesUptoRow : OpenClaim := { program := "ytnpfncdfndabhaa", sum := "fa79a7f041c03c36068438492727dc36215140063166e2452981367bd41b4a3d", func := "blackboard/blackboardlaw3.PolyDegrees", spec := "polyDegrees", unfollowed := true, recurses := true, apart := false, narrowed := true }
def PolyDegreesUptoSaid : Prop := polyDegreesUptoRow.holds Try.pinned (OpenSpec.upto polyDegreesSpec)

/-- 'blackboardlaw3.PolyReckons', WHERE WHAT IT READS IS OF BULK AT MOST 1048576: true; the input reads as it did. -/
def polyReckonsUptoRow : OpenClaim := { program := "ytnpfncdfndabhaa", sum := "fa79a7f041c03c36068438492727dc36215140063166e2452981367bd41b4a3d", func := "blackboard/blackboardlaw3.PolyReckons", spec := "polyReckons", unfollowed := true, recurses := true, apart := false, narrowed := true }
def PolyReckonsUptoSaid : Prop := polyReckonsUptoRow.holds Try.pinned (OpenSpec.upto polyReckonsSpec)

/-- 'blackboardlaw3.PolyBack', WHERE WHAT IT READS IS OF BULK AT MOST 1048576: true; the input reads as it did. -/
def polyBackUptoRow : OpenClaim := { program := "ytnpfncdfndabhaa", sum := "fa79a7f041c03c36068438492727dc36215140063166e2452981367bd41b4a3d", func := "blackboard/blackboardlaw3.PolyBack", spec := "polyBack", unfollowed := true, recurses := true, apart := false, narrowed := true }
def PolyBackUptoSaid : Prop := polyBackUptoRow.holds Try.pinned (OpenSpec.upto polyBackSpec)

/-- 'blackboardlaw3.PolyKnown', WHERE WHAT IT READS IS OF BULK AT MOST 1048576: true; the input reads as it did. -/
def polyKnownUptoRow : OpenClaim := { program := "ytnpfncdfndabhaa", sum := "fa79a7f041c03c36068438492727dc36215140063166e2452981367bd41b4a3d", func := "blackboard/blackboardlaw3.PolyKnown", spec := "polyKnown", unfollowed := true, recurses := true, apart := false, narrowed := true }
def PolyKnownUptoSaid : Prop := polyKnownUptoRow.holds Try.pinned (OpenSpec.upto polyKnownSpec)

end Rows
end Go.Proofs.Ytnpfncdfndabhaa
