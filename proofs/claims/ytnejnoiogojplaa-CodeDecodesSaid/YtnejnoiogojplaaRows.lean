/-
  No cell of these rows narrows 'for every input' (looked for: loops, veiled, ifaces, maps, wideKeys, modest, calm, conditions, laid).
  DERIVED. THE GIVEN ROWS OF THIS SEAT. 8 by the template 'for every input the law returns true; each argument reads behind the call as it read before'; 0 by the template 'total and deterministic' (their statements: YtnejnoiogojplaaTotals.lean).
  GIVEN WITH THE SEED: the statements are not yours to turn. If you find one false, say at which input.
  Laid BY PROGRAM, IN A SANDBOX (cutbox-rows.mjs): the forced cells as the released guide's own fill.sh prints them over the translation 51c51ad53c7c0d68… (all of the seat's roots in one cut). By AI agents, Wed Nov 11 2026. No macro, syntax, notation, axiom, sorry.
-/
import Derived.Test.YtnejnoiogojplaaChecked
import GoSem.Claim
import GoSem.ClaimJoined
import GoSem.ClaimMapViews
import Derived.JoinedTies
import Derived.KernelRfl
namespace Go.Proofs.Ytnejnoiogojplaa
/- THE CELL 'sum', in the pinned program and in every row, IS THE sha256 OF THE DUMP (.gsa) THAT YtnejnoiogojplaaProg.lean LOADS. Nothing in Lean hashes anything: it is a label: what it is worth is what the hold of that sum in a sandbox is worth. -/
noncomputable def Try.pinned : Pinned := { name := "ytnejnoiogojplaa", sum := "51c51ad53c7c0d68f15e5d5fdacc1f485c9b79679c95317ec83d4332b31f9a3a", checked := Try.checked }
namespace Rows
def none {H : Type} : Left H := { results := [], args := [] }

/-- 'blackboardlaw4.CodeEncodes': WHATEVER THE INPUT: true; the input reads as it did. -/
def codeEncodesSpec : ChangeSpec := { name := "codeEncodes", fn := fun _ => fun
  | [d1, d2, d3] => { results := [.lit (.bool true)], args := [d1, d2, d3] }
  | _ => none }
def codeEncodesRow : OpenClaim := { program := "ytnejnoiogojplaa", sum := "51c51ad53c7c0d68f15e5d5fdacc1f485c9b79679c95317ec83d4332b31f9a3a", func := "blackboard/blackboardlaw4.CodeEncodes", spec := "codeEncodes", unfollowed := true, recurses := true, apart := false }
def CodeEncodesSaid : Prop := codeEncodesRow.holds Try.pinned (OpenSpec.ofChange codeEncodesSpec)

/-- ITS FALSE NEIGHBOUR: 'it returns false'. Refute it at one input. -/
def codeEncodesWrong : ChangeSpec := { name := "codeEncodes", fn := fun _ => fun
  | [d1, d2, d3] => { results := [.lit (.bool false)], args := [d1, d2, d3] }
  | _ => none }
def CodeEncodesWrongFalsely : Prop := codeEncodesRow.holds Try.pinned (OpenSpec.ofChange codeEncodesWrong)

/-- 'blackboardlaw4.CodeDecodes': WHATEVER THE INPUT: true; the input reads as it did. -/
def codeDecodesSpec : ChangeSpec := { name := "codeDecodes", fn := fun _ => fun
  | [d] => { results := [.lit (.bool true)], args := [d] }
  | _ => none }
def codeDecodesRow : OpenClaim := { program := "ytnejnoiogojplaa", sum := "51c51ad53c7c0d68f15e5d5fdacc1f485c9b79679c95317ec83d4332b31f9a3a", func := "blackboard/blackboardlaw4.CodeDecodes", spec := "codeDecodes", unfollowed := true, recurses := true, apart := false }
def CodeDecodesSaid : Prop := codeDecodesRow.holds Try.pinned (OpenSpec.ofChange codeDecodesSpec)

/-- ITS FALSE NEIGHBOUR: 'it returns false'. Refute it at one input. -/
def codeDecodesWrong : ChangeSpec := { name := "codeDecodes", fn := fun _ => fun
  | [d] => { results := [.lit (.bool false)], args := [d] }
  | _ => none }
def CodeDecodesWrongFalsely : Prop := codeDecodesRow.holds Try.pinned (OpenSpec.ofChange codeDecodesWrong)

/-- 'blackboardlaw4.CodeMends': WHATEVER THE INPUT: true; the input reads as it did. -/
def codeMendsSpec : ChangeSpec := { name := "codeMends", fn := fun _ => fun
  | [d1, d2] => { results := [.lit (.bool true)], args := [d1, d2] }
  | _ => none }
def codeMendsRow : OpenClaim := { program := "ytnejnoiogojplaa", sum := "51c51ad53c7c0d68f15e5d5fdacc1f485c9b79679c95317ec83d4332b31f9a3a", func := "blackboard/blackboardlaw4.CodeMends", spec := "codeMends", unfollowed := true, recurses := true, apart := false }
def CodeMendsSaid : Prop := codeMendsRow.holds Try.pinned (OpenSpec.ofChange codeMendsSpec)

/-- ITS FALSE NEIGHBOUR: 'it returns false'. Refute it at one input. -/
def codeMendsWrong : ChangeSpec := { name := "codeMends", fn := fun _ => fun
  | [d1, d2] => { results := [.lit (.bool false)], args := [d1, d2] }
  | _ => none }
def CodeMendsWrongFalsely : Prop := codeMendsRow.holds Try.pinned (OpenSpec.ofChange codeMendsWrong)

/-- 'blackboardlaw4.CodeKnown': WHATEVER THE INPUT: true; the input reads as it did. -/
def codeKnownSpec : ChangeSpec := { name := "codeKnown", fn := fun _ => fun
  | [] => { results := [.lit (.bool true)], args := [] }
  | _ => none }
def codeKnownRow : OpenClaim := { program := "ytnejnoiogojplaa", sum := "51c51ad53c7c0d68f15e5d5fdacc1f485c9b79679c95317ec83d4332b31f9a3a", func := "blackboard/blackboardlaw4.CodeKnown", spec := "codeKnown", unfollowed := true, recurses := true, apart := false }
def CodeKnownSaid : Prop := codeKnownRow.holds Try.pinned (OpenSpec.ofChange codeKnownSpec)

/-- ITS FALSE NEIGHBOUR: 'it returns false'. Refute it at one input. -/
def codeKnownWrong : ChangeSpec := { name := "codeKnown", fn := fun _ => fun
  | [] => { results := [.lit (.bool false)], args := [] }
  | _ => none }
def CodeKnownWrongFalsely : Prop := codeKnownRow.holds Try.pinned (OpenSpec.ofChange codeKnownWrong)

/-- 'blackboardlaw4.CodeSums': WHATEVER THE INPUT: true; the input reads as it did. -/
def codeSumsSpec : ChangeSpec := { name := "codeSums", fn := fun _ => fun
  | [d1, d2, d3] => { results := [.lit (.bool true)], args := [d1, d2, d3] }
  | _ => none }
def codeSumsRow : OpenClaim := { program := "ytnejnoiogojplaa", sum := "51c51ad53c7c0d68f15e5d5fdacc1f485c9b79679c95317ec83d4332b31f9a3a", func := "blackboard/blackboardlaw4.CodeSums", spec := "codeSums", unfollowed := true, recurses := true, apart := false }
def CodeSumsSaid : Prop := codeSumsRow.holds Try.pinned (OpenSpec.ofChange codeSumsSpec)

/-- ITS FALSE NEIGHBOUR: 'it returns false'. Refute it at one input. -/
def codeSumsWrong : ChangeSpec := { name := "codeSums", fn := fun _ => fun
  | [d1, d2, d3] => { results := [.lit (.bool false)], args := [d1, d2, d3] }
  | _ => none }
def CodeSumsWrongFalsely : Prop := codeSumsRow.holds Try.pinned (OpenSpec.ofChange codeSumsWrong)

/-- 'blackboardlaw4.CodeShort': WHATEVER THE INPUT: true; the input reads as it did. -/
def codeShortSpec : ChangeSpec := { name := "codeShort", fn := fun _ => fun
  | [d1, d2, d3] => { results := [.lit (.bool true)], args := [d1, d2, d3] }
  | _ => none }
def codeShortRow : OpenClaim := { program := "ytnejnoiogojplaa", sum := "51c51ad53c7c0d68f15e5d5fdacc1f485c9b79679c95317ec83d4332b31f9a3a", func := "blackboard/blackboardlaw4.CodeShort", spec := "codeShort", unfollowed := true, recurses := true, apart := false }
def CodeShortSaid : Prop := codeShortRow.holds Try.pinned (OpenSpec.ofChange codeShortSpec)

/-- ITS FALSE NEIGHBOUR: 'it returns false'. Refute it at one input. -/
def codeShortWrong : ChangeSpec := { name := "codeShort", fn := fun _ => fun
  | [d1, d2, d3] => { results := [.lit (.bool false)], args := [d1, d2, d3] }
  | _ => none }
def CodeShortWrongFalsely : Prop := codeShortRow.holds Try.pinned (OpenSpec.ofChange codeShortWrong)

/-- 'blackboardlaw4.CodeFar': WHATEVER THE INPUT: true; the input reads as it did. -/
def codeFarSpec : ChangeSpec := { name := "codeFar", fn := fun _ => fun
  | [d1, d2, d3] => { results := [.lit (.bool true)], args := [d1, d2, d3] }
  | _ => none }
def codeFarRow : OpenClaim := { program := "ytnejnoiogojplaa", sum := "51c51ad53c7c0d68f15e5d5fdacc1f485c9b79679c95317ec83d4332b31f9a3a", func := "blackboard/blackboardlaw4.CodeFar", spec := "codeFar", unfollowed := true, recurses := true, apart := false }
def CodeFarSaid : Prop := codeFarRow.holds Try.pinned (OpenSpec.ofChange codeFarSpec)

/-- ITS FALSE NEIGHBOUR: 'it returns false'. Refute it at one input. -/
def codeFarWrong : ChangeSpec := { name := "codeFar", fn := fun _ => fun
  | [d1, d2, d3] => { results := [.lit (.bool false)], args := [d1, d2, d3] }
  | _ => none }
def CodeFarWrongFalsely : Prop := codeFarRow.holds Try.pinned (OpenSpec.ofChange codeFarWrong)

/-- 'blackboardlaw4.CodeBursts': WHATEVER THE INPUT: true; the input reads as it did. -/
def codeBurstsSpec : ChangeSpec := { name := "codeBursts", fn := fun _ => fun
  | [d1, d2, d3] => { results := [.lit (.bool true)], args := [d1, d2, d3] }
  | _ => none }
def codeBurstsRow : OpenClaim := { program := "ytnejnoiogojplaa", sum := "51c51ad53c7c0d68f15e5d5fdacc1f485c9b79679c95317ec83d4332b31f9a3a", func := "blackboard/blackboardlaw4.CodeBursts", spec := "codeBursts", unfollowed := true, recurses := true, apart := false }
def CodeBurstsSaid : Prop := codeBurstsRow.holds Try.pinned (OpenSpec.ofChange codeBurstsSpec)

/-- ITS FALSE NEIGHBOUR: 'it returns false'. Refute it at one input. -/
def codeBurstsWrong : ChangeSpec := { name := "codeBursts", fn := fun _ => fun
  | [d1, d2, d3] => { results := [.lit (.bool false)], args := [d1, d2, d3] }
  | _ => none }
def CodeBurstsWrongFalsely : Prop := codeBurstsRow.holds Try.pinned (OpenSpec.ofChange codeBurstsWrong)

/- THE SECOND FORM. 'bulk': how many values and letters a reading holds, each counted each time it is reached (what is shared counts as often as it is met; a slice's spare places count too). A statement '..UptoSaid' is the law's where the arguments, and the package variables that the reading takes, are together of bulk at most 1048576: NARROWER than '..Said'. Prove '..Said' where nothing that the law and all that it calls make is longer than what came in: it says more and counts as full. Else prove '..UptoSaid'. A law counts once. -/
mutual
def uptoBulk {H : Type} : DataW H → Nat
  | .lit (.string bytes) => bytes.length + 1
  | .lit _ => 1
  | .nil => 1
  | .ptr d => uptoBulk d + 1
  | .slice elems spare => uptoBulkAll elems + uptoBulkAll spare + 1
  | .agg parts => uptoBulkAll parts + 1
  | .iface _ d => uptoBulk d + 1
  | .map entries => uptoBulkEntries entries + 1
  | .held _ => 1
def uptoBulkAll {H : Type} : List (DataW H) → Nat
  | [] => 0
  | d :: r => uptoBulk d + uptoBulkAll r
def uptoBulkEntries {H : Type} : List (Lit × DataW H) → Nat
  | [] => 0
  | x :: r => uptoBulkEntry x + uptoBulkEntries r
def uptoBulkEntry {H : Type} : Lit × DataW H → Nat
  | (.string bytes, d) => bytes.length + uptoBulk d + 1
  | (_, d) => uptoBulk d + 1
 end
def uptoSmall : (H : Type) → List (DataW H) → Bool := fun _ ds => decide (uptoBulkAll ds ≤ 1048576)
def OpenSpec.upto (s : _root_.Go.ChangeSpec) : _root_.Go.OpenSpec := { _root_.Go.OpenSpec.ofChange s with cond := some uptoSmall }

/-- 'blackboardlaw4.CodeEncodes', WHERE WHAT IT READS IS OF BULK AT MOST 1048576: true; the input reads as it did. -/
def codeEncodesUptoRow : OpenClaim := { program := "ytnejnoiogojplaa", sum := "51c51ad53c7c0d68f15e5d5fdacc1f485c9b79679c95317ec83d4332b31f9a3a", func := "blackboard/blackboardlaw4.CodeEncodes", spec := "codeEncodes", unfollowed := true, recurses := true, apart := false, narrowed := true }
def CodeEncodesUptoSaid : Prop := codeEncodesUptoRow.holds Try.pinned (OpenSpec.upto codeEncodesSpec)

/-- 'blackboardlaw4.CodeDecodes', WHERE WHAT IT READS IS OF BULK AT MOST 1048576: true; the input reads as it did. -/
def codeDecodesUptoRow : OpenClaim := { program := "ytnejnoiogojplaa", sum := "51c51ad53c7c0d68f15e5d5fdacc1f485c9b79679c95317ec83d4332b31f9a3a", func := "blackboard/blackboardlaw4.CodeDecodes", spec := "codeDecodes", unfollowed := true, recurses := true, apart := false, narrowed := true }
def CodeDecodesUptoSaid : Prop := codeDecodesUptoRow.holds Try.pinned (OpenSpec.upto codeDecodesSpec)

/-- 'blackboardlaw4.CodeMends', WHERE WHAT IT READS IS OF BULK AT MOST 1048576: true; the input reads as it did. -/
def codeMendsUptoRow : OpenClaim := { program := "ytnejnoiogojplaa", sum := "51c51ad53c7c0d68f15e5d5fdacc1f485c9b79679c95317ec83d4332b31f9a3a", func := "blackboard/blackboardlaw4.CodeMends", spec := "codeMends", unfollowed := true, recurses := true, apart := false, narrowed := true }
def CodeMendsUptoSaid : Prop := codeMendsUptoRow.holds Try.pinned (OpenSpec.upto codeMendsSpec)

/-- 'blackboardlaw4.CodeKnown', WHERE WHAT IT READS IS OF BULK AT MOST 1048576: true; the input reads as it did. -/
def codeKnownUptoRow : OpenClaim := { program := "ytnejnoiogojplaa", sum := "51c51ad53c7c0d68f15e5d5fdacc1f485c9b79679c95317ec83d4332b31f9a3a", func := "blackboard/blackboardlaw4.CodeKnown", spec := "codeKnown", unfollowed := true, recurses := true, apart := false, narrowed := true }
def CodeKnownUptoSaid : Prop := codeKnownUptoRow.holds Try.pinned (OpenSpec.upto codeKnownSpec)

/-- 'blackboardlaw4.CodeSums', WHERE WHAT IT READS IS OF BULK AT MOST 1048576: true; the input reads as it did. -/
def codeSumsUptoRow : OpenClaim := { program := "ytnejnoiogojplaa", sum := "51c51ad53c7c0d68f15e5d5fdacc1f485c9b79679c95317ec83d4332b31f9a3a", func := "blackboard/blackboardlaw4.CodeSums", spec := "codeSums", unfollowed := true, recurses := true, apart := false, narrowed := true }
def CodeSumsUptoSaid : Prop := codeSumsUptoRow.holds Try.pinned (OpenSpec.upto codeSumsSpec)

/-- 'blackboardlaw4.CodeShort', WHERE WHAT IT READS IS OF BULK AT MOST 1048576: true; the input reads as it did. -/
def codeShortUptoRow : OpenClaim := { program := "ytnejnoiogojplaa", sum := "51c51ad53c7c0d68f15e5d5fdacc1f485c9b79679c95317ec83d4332b31f9a3a", func := "blackboard/blackboardlaw4.CodeShort", spec := "codeShort", unfollowed := true, recurses := true, apart := false, narrowed := true }
def CodeShortUptoSaid : Prop := codeShortUptoRow.holds Try.pinned (OpenSpec.upto codeShortSpec)

/-- 'blackboardlaw4.CodeFar', WHERE WHAT IT READS IS OF BULK AT MOST 1048576: true; the input reads as it did. -/
def codeFarUptoRow : OpenClaim := { program := "ytnejnoiogojplaa", sum := "51c51ad53c7c0d68f15e5d5fdacc1f485c9b79679c95317ec83d4332b31f9a3a", func := "blackboard/blackboardlaw4.CodeFar", spec := "codeFar", unfollowed := true, recurses := true, apart := false, narrowed := true }
def CodeFarUptoSaid : Prop := codeFarUptoRow.holds Try.pinned (OpenSpec.upto codeFarSpec)

/-- 'blackboardlaw4.CodeBursts', WHERE WHAT IT READS IS OF BULK AT MOST 1048576: true; the input reads as it did. -/
def codeBurstsUptoRow : OpenClaim := { program := "ytnejnoiogojplaa", sum := "51c51ad53c7c0d68f15e5d5fdacc1f485c9b79679c95317ec83d4332b31f9a3a", func := "blackboard/blackboardlaw4.CodeBursts", spec := "codeBursts", unfollowed := true, recurses := true, apart := false, narrowed := true }
def CodeBurstsUptoSaid : Prop := codeBurstsUptoRow.holds Try.pinned (OpenSpec.upto codeBurstsSpec)

end Rows
end Go.Proofs.Ytnejnoiogojplaa
