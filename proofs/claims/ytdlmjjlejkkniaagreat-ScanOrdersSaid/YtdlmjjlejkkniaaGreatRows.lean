/-
  No cell of these rows narrows 'for every input' (looked for: loops, veiled, ifaces, maps, wideKeys, modest, calm, conditions, laid).
  DERIVED. THE GIVEN ROWS OF THIS SEAT. 5 by the template 'for every input the law returns true; each argument reads behind the call as it read before'; 0 by the template 'total and deterministic' (their statements: YtdlmjjlejkkniaaGreatTotals.lean).
  GIVEN WITH THE SEED: the statements are not yours to turn. If you find one false, say at which input.
  Laid BY PROGRAM, IN A SANDBOX (cutbox-rows.mjs): the forced cells as the released guide's own fill.sh prints them over the translation e5321dac6b127bb6… (all of the seat's roots in one cut). By AI agents, Wed Nov 11 2026. No macro, syntax, notation, axiom, sorry.
-/
import Derived.Test.YtdlmjjlejkkniaaGreatChecked
import GoSem.Claim
import GoSem.ClaimJoined
import GoSem.ClaimMapViews
import Derived.JoinedTies
import Derived.KernelRfl
namespace Go.Proofs.YtdlmjjlejkkniaaGreat
/- THE CELL 'sum', in the pinned program and in every row, IS THE sha256 OF THE DUMP (.gsa) THAT YtdlmjjlejkkniaaGreatProg.lean LOADS. Nothing in Lean hashes anything: it is a label: what it is worth is what the hold of that sum in a sandbox is worth. -/
noncomputable def Tryz.pinned : Pinned := { name := "ytdlmjjlejkkniaagreat", sum := "e5321dac6b127bb6301510ecf0beca3beda5d8c5aa71ab1cc853c6526a1e67c5", checked := Tryz.checked }
namespace Rows
def none {H : Type} : Left H := { results := [], args := [] }

/-- 'blackboardlaw18.ScanTorn': WHATEVER THE INPUT: true; the input reads as it did. -/
def scanTornSpec : ChangeSpec := { name := "scanTorn", fn := fun _ => fun
  | [d1, d2, d3] => { results := [.lit (.bool true)], args := [d1, d2, d3] }
  | _ => none }
def scanTornRow : OpenClaim := { program := "ytdlmjjlejkkniaagreat", sum := "e5321dac6b127bb6301510ecf0beca3beda5d8c5aa71ab1cc853c6526a1e67c5", func := "blackboard/blackboardlaw18.ScanTorn", spec := "scanTorn", inPlace := ["math.archFloor", "math.Float64bits", "math.Float64frombits", "math.archTrunc"], unfollowed := true, recurses := true, apart := false }
def ScanTornSaid : Prop := scanTornRow.holds Tryz.pinned (OpenSpec.ofChange scanTornSpec)

/-- ITS FALSE NEIGHBOUR: 'it returns false'. Refute it at one input. -/
def scanTornWrong : ChangeSpec := { name := "scanTorn", fn := fun _ => fun
  | [d1, d2, d3] => { results := [.lit (.bool false)], args := [d1, d2, d3] }
  | _ => none }
def ScanTornWrongFalsely : Prop := scanTornRow.holds Tryz.pinned (OpenSpec.ofChange scanTornWrong)

/-- 'blackboardlaw18.ScanBlank': WHATEVER THE INPUT: true; the input reads as it did. -/
def scanBlankSpec : ChangeSpec := { name := "scanBlank", fn := fun _ => fun
  | [d1, d2, d3] => { results := [.lit (.bool true)], args := [d1, d2, d3] }
  | _ => none }
def scanBlankRow : OpenClaim := { program := "ytdlmjjlejkkniaagreat", sum := "e5321dac6b127bb6301510ecf0beca3beda5d8c5aa71ab1cc853c6526a1e67c5", func := "blackboard/blackboardlaw18.ScanBlank", spec := "scanBlank", inPlace := ["math.archFloor", "math.Float64bits", "math.Float64frombits", "math.archTrunc"], unfollowed := true, recurses := true, apart := false }
def ScanBlankSaid : Prop := scanBlankRow.holds Tryz.pinned (OpenSpec.ofChange scanBlankSpec)

/-- ITS FALSE NEIGHBOUR: 'it returns false'. Refute it at one input. -/
def scanBlankWrong : ChangeSpec := { name := "scanBlank", fn := fun _ => fun
  | [d1, d2, d3] => { results := [.lit (.bool false)], args := [d1, d2, d3] }
  | _ => none }
def ScanBlankWrongFalsely : Prop := scanBlankRow.holds Tryz.pinned (OpenSpec.ofChange scanBlankWrong)

/-- 'blackboardlaw18.ScanLatest': WHATEVER THE INPUT: true; the input reads as it did. -/
def scanLatestSpec : ChangeSpec := { name := "scanLatest", fn := fun _ => fun
  | [d] => { results := [.lit (.bool true)], args := [d] }
  | _ => none }
def scanLatestRow : OpenClaim := { program := "ytdlmjjlejkkniaagreat", sum := "e5321dac6b127bb6301510ecf0beca3beda5d8c5aa71ab1cc853c6526a1e67c5", func := "blackboard/blackboardlaw18.ScanLatest", spec := "scanLatest", inPlace := ["math.archFloor", "math.Float64bits", "math.Float64frombits", "math.archTrunc"], unfollowed := true, recurses := true, apart := false }
def ScanLatestSaid : Prop := scanLatestRow.holds Tryz.pinned (OpenSpec.ofChange scanLatestSpec)

/-- ITS FALSE NEIGHBOUR: 'it returns false'. Refute it at one input. -/
def scanLatestWrong : ChangeSpec := { name := "scanLatest", fn := fun _ => fun
  | [d] => { results := [.lit (.bool false)], args := [d] }
  | _ => none }
def ScanLatestWrongFalsely : Prop := scanLatestRow.holds Tryz.pinned (OpenSpec.ofChange scanLatestWrong)

/-- 'blackboardlaw18.ScanTies': WHATEVER THE INPUT: true; the input reads as it did. -/
def scanTiesSpec : ChangeSpec := { name := "scanTies", fn := fun _ => fun
  | [] => { results := [.lit (.bool true)], args := [] }
  | _ => none }
def scanTiesRow : OpenClaim := { program := "ytdlmjjlejkkniaagreat", sum := "e5321dac6b127bb6301510ecf0beca3beda5d8c5aa71ab1cc853c6526a1e67c5", func := "blackboard/blackboardlaw18.ScanTies", spec := "scanTies", inPlace := ["math.archFloor", "math.Float64bits", "math.Float64frombits", "math.archTrunc"], unfollowed := true, recurses := true, apart := false }
def ScanTiesSaid : Prop := scanTiesRow.holds Tryz.pinned (OpenSpec.ofChange scanTiesSpec)

/-- ITS FALSE NEIGHBOUR: 'it returns false'. Refute it at one input. -/
def scanTiesWrong : ChangeSpec := { name := "scanTies", fn := fun _ => fun
  | [] => { results := [.lit (.bool false)], args := [] }
  | _ => none }
def ScanTiesWrongFalsely : Prop := scanTiesRow.holds Tryz.pinned (OpenSpec.ofChange scanTiesWrong)

/-- 'blackboardlaw18.ScanOrders': WHATEVER THE INPUT: true; the input reads as it did. -/
def scanOrdersSpec : ChangeSpec := { name := "scanOrders", fn := fun _ => fun
  | [d1, d2] => { results := [.lit (.bool true)], args := [d1, d2] }
  | _ => none }
def scanOrdersRow : OpenClaim := { program := "ytdlmjjlejkkniaagreat", sum := "e5321dac6b127bb6301510ecf0beca3beda5d8c5aa71ab1cc853c6526a1e67c5", func := "blackboard/blackboardlaw18.ScanOrders", spec := "scanOrders", inPlace := ["math.archFloor", "math.Float64bits", "math.Float64frombits", "math.archTrunc"], unfollowed := true, recurses := true, apart := false }
def ScanOrdersSaid : Prop := scanOrdersRow.holds Tryz.pinned (OpenSpec.ofChange scanOrdersSpec)

/-- ITS FALSE NEIGHBOUR: 'it returns false'. Refute it at one input. -/
def scanOrdersWrong : ChangeSpec := { name := "scanOrders", fn := fun _ => fun
  | [d1, d2] => { results := [.lit (.bool false)], args := [d1, d2] }
  | _ => none }
def ScanOrdersWrongFalsely : Prop := scanOrdersRow.holds Tryz.pinned (OpenSpec.ofChange scanOrdersWrong)

/- THE SECOND FORM. 'bulk': how many values and letters a reading holds, each counted each time it is reached (what is shared counts as often as it is met; a slice's spare places count too). A statement '..UptoSaid' is the law's where the arguments, and the package variables that the reading takes, are together of bulk at most 1048576: NARROWER than '..Said'. Prove '..Said' where nothing that the law and all that it calls make is longer than what came in: it says more and counts as full. Else prove '..UptoSaid'. A law counts once. -/
mutual
def uptoBulk {H : Type} : DataW H → Nat
  | .lit (.string bytes) => bytes.length + 1
  | .lit _ => 1
  | .nil => 1
  | .ptr d => uptoBulk d + 1
  | .slice elems spare => uptoBulkAll elems + uptoBulkAll spare + 1
  | .agg parts => uptoBulkAll parts + 1
  | .iface _ d => uptoBulk d + 1
  | .map entries => uptoBulkEntries entries + 1
  | .held _ => 1
def uptoBulkAll {H : Type} : List (DataW H) → Nat
  | [] => 0
  | d :: r => uptoBulk d + uptoBulkAll r
def uptoBulkEntries {H : Type} : List (Lit × DataW H) → Nat
  | [] => 0
  | x :: r => uptoBulkEntry x + uptoBulkEntries r
def uptoBulkEntry {H : Type} : Lit × DataW H → Nat
  | (.string bytes, d) => bytes.length + uptoBulk d + 1
  | (_, d) => uptoBulk d + 1
 end
def uptoSmall : (H : Type) → List (DataW H) → Bool := fun _ ds => decide (uptoBulkAll ds ≤ 1048576)
def OpenSpec.upto (s : _root_.Go.ChangeSpec) : _root_.Go.OpenSpec := { _root_.Go.OpenSpec.ofChange s with cond := some uptoSmall }

/-- 'blackboardlaw18.ScanTorn', WHERE WHAT IT READS IS OF BULK AT MOST 1048576: true; the input reads as it did. -/
def scanTornUptoRow : OpenClaim := { program := "ytdlmjjlejkkniaagreat", sum := "e5321dac6b127bb6301510ecf0beca3beda5d8c5aa71ab1cc853c6526a1e67c5", func := "blackboard/blackboardlaw18.ScanTorn", spec := "scanTorn", inPlace := ["math.archFloor", "math.Float64bits", "math.Float64frombits", "math.archTrunc"], unfollowed := true, recurses := true, apart := false, narrowed := true }
def ScanTornUptoSaid : Prop := scanTornUptoRow.holds Tryz.pinned (OpenSpec.upto scanTornSpec)

/-- 'blackboardlaw18.ScanBlank', WHERE WHAT IT READS IS OF BULK AT MOST 1048576: true; the input reads as it did. -/
def scanBlankUptoRow : OpenClaim := { program := "ytdlmjjlejkkniaagreat", sum := "e5321dac6b127bb6301510ecf0beca3beda5d8c5aa71ab1cc853c6526a1e67c5", func := "blackboard/blackboardlaw18.ScanBlank", spec := "scanBlank", inPlace := ["math.archFloor", "math.Float64bits", "math.Float64frombits", "math.archTrunc"], unfollowed := true, recurses := true, apart := false, narrowed := true }
def ScanBlankUptoSaid : Prop := scanBlankUptoRow.holds Tryz.pinned (OpenSpec.upto scanBlankSpec)

/-- 'blackboardlaw18.ScanLatest', WHERE WHAT IT READS IS OF BULK AT MOST 1048576: true; the input reads as it did. -/
def scanLatestUptoRow : OpenClaim := { program := "ytdlmjjlejkkniaagreat", sum := "e5321dac6b127bb6301510ecf0beca3beda5d8c5aa71ab1cc853c6526a1e67c5", func := "blackboard/blackboardlaw18.ScanLatest", spec := "scanLatest", inPlace := ["math.archFloor", "math.Float64bits", "math.Float64frombits", "math.archTrunc"], unfollowed := true, recurses := true, apart := false, narrowed := true }
def ScanLatestUptoSaid : Prop := scanLatestUptoRow.holds Tryz.pinned (OpenSpec.upto scanLatestSpec)

/-- 'blackboardlaw18.ScanTies', WHERE WHAT IT READS IS OF BULK AT MOST 1048576: true; the input reads as it did. -/
def scanTiesUptoRow : OpenClaim := { program := "ytdlmjjlejkkniaagreat", sum := "e5321dac6b127bb6301510ecf0beca3beda5d8c5aa71ab1cc853c6526a1e67c5", func := "blackboard/blackboardlaw18.ScanTies", spec := "scanTies", inPlace := ["math.archFloor", "math.Float64bits", "math.Float64frombits", "math.archTrunc"], unfollowed := true, recurses := true, apart := false, narrowed := true }
def ScanTiesUptoSaid : Prop := scanTiesUptoRow.holds Tryz.pinned (OpenSpec.upto scanTiesSpec)

/-- 'blackboardlaw18.ScanOrders', WHERE WHAT IT READS IS OF BULK AT MOST 1048576: true; the input reads as it did. -/
def scanOrdersUptoRow : OpenClaim := { program := "ytdlmjjlejkkniaagreat", sum := "e5321dac6b127bb6301510ecf0beca3beda5d8c5aa71ab1cc853c6526a1e67c5", func := "blackboard/blackboardlaw18.ScanOrders", spec := "scanOrders", inPlace := ["math.archFloor", "math.Float64bits", "math.Float64frombits", "math.archTrunc"], unfollowed := true, recurses := true, apart := false, narrowed := true }
def ScanOrdersUptoSaid : Prop := scanOrdersUptoRow.holds Tryz.pinned (OpenSpec.upto scanOrdersSpec)

end Rows
end Go.Proofs.YtdlmjjlejkkniaaGreat
