/-
  No cell of these rows narrows 'for every input' (looked for: loops, veiled, ifaces, maps, wideKeys, modest, calm, conditions, laid).
  DERIVED. THE GIVEN ROWS OF THIS SEAT. 4 by the template 'for every input the law returns true; each argument reads behind the call as it read before'; 0 by the template 'total and deterministic' (their statements: YtdjgjffgheocfaaGreatTotals.lean).
  GIVEN WITH THE SEED: the statements are not yours to turn. If you find one false, say at which input.
  Laid BY PROGRAM, IN A SANDBOX (cutbox-rows.mjs): the forced cells as the released guide's own fill.sh prints them over the translation 848cf463fbe51fac… (all of the seat's roots in one cut). By AI agents, Wed Nov 11 2026. No macro, syntax, notation, axiom, sorry.
-/
import Derived.Test.YtdjgjffgheocfaaGreatChecked
import GoSem.Claim
import GoSem.ClaimJoined
import GoSem.ClaimMapViews
import Derived.JoinedTies
import Derived.KernelRfl
namespace Go.Proofs.YtdjgjffgheocfaaGreat
/- THE CELL 'sum', in the pinned program and in every row, IS THE sha256 OF THE DUMP (.gsa) THAT YtdjgjffgheocfaaGreatProg.lean LOADS. Nothing in Lean hashes anything: it is a label: what it is worth is what the hold of that sum in a sandbox is worth. -/
noncomputable def Tryz.pinned : Pinned := { name := "ytdjgjffgheocfaagreat", sum := "848cf463fbe51facb20ed0f54c61ae91d352bc70f002659528f6aaea1114dcf8", checked := Tryz.checked }
namespace Rows
def none {H : Type} : Left H := { results := [], args := [] }

/-- 'blackboardlaw25.GaugeTurns': WHATEVER THE INPUT: true; the input reads as it did. -/
def gaugeTurnsSpec : ChangeSpec := { name := "gaugeTurns", fn := fun _ => fun
  | [d1, d2] => { results := [.lit (.bool true)], args := [d1, d2] }
  | _ => none }
def gaugeTurnsRow : OpenClaim := { program := "ytdjgjffgheocfaagreat", sum := "848cf463fbe51facb20ed0f54c61ae91d352bc70f002659528f6aaea1114dcf8", func := "blackboard/blackboardlaw25.GaugeTurns", spec := "gaugeTurns", inPlace := ["math.archFloor", "math.Float64bits", "math.Float64frombits", "math.archTrunc"], unfollowed := true, recurses := true, apart := false }
def GaugeTurnsSaid : Prop := gaugeTurnsRow.holds Tryz.pinned (OpenSpec.ofChange gaugeTurnsSpec)

/-- ITS FALSE NEIGHBOUR: 'it returns false'. Refute it at one input. -/
def gaugeTurnsWrong : ChangeSpec := { name := "gaugeTurns", fn := fun _ => fun
  | [d1, d2] => { results := [.lit (.bool false)], args := [d1, d2] }
  | _ => none }
def GaugeTurnsWrongFalsely : Prop := gaugeTurnsRow.holds Tryz.pinned (OpenSpec.ofChange gaugeTurnsWrong)

/-- 'blackboardlaw25.GaugeKnown': WHATEVER THE INPUT: true; the input reads as it did. -/
def gaugeKnownSpec : ChangeSpec := { name := "gaugeKnown", fn := fun _ => fun
  | [] => { results := [.lit (.bool true)], args := [] }
  | _ => none }
def gaugeKnownRow : OpenClaim := { program := "ytdjgjffgheocfaagreat", sum := "848cf463fbe51facb20ed0f54c61ae91d352bc70f002659528f6aaea1114dcf8", func := "blackboard/blackboardlaw25.GaugeKnown", spec := "gaugeKnown", inPlace := ["math.archFloor", "math.Float64bits", "math.Float64frombits", "math.archTrunc"], unfollowed := true, recurses := true, apart := false }
def GaugeKnownSaid : Prop := gaugeKnownRow.holds Tryz.pinned (OpenSpec.ofChange gaugeKnownSpec)

/-- ITS FALSE NEIGHBOUR: 'it returns false'. Refute it at one input. -/
def gaugeKnownWrong : ChangeSpec := { name := "gaugeKnown", fn := fun _ => fun
  | [] => { results := [.lit (.bool false)], args := [] }
  | _ => none }
def GaugeKnownWrongFalsely : Prop := gaugeKnownRow.holds Tryz.pinned (OpenSpec.ofChange gaugeKnownWrong)

/-- 'blackboardlaw25.GaugeWhole': WHATEVER THE INPUT: true; the input reads as it did. -/
def gaugeWholeSpec : ChangeSpec := { name := "gaugeWhole", fn := fun _ => fun
  | [d] => { results := [.lit (.bool true)], args := [d] }
  | _ => none }
def gaugeWholeRow : OpenClaim := { program := "ytdjgjffgheocfaagreat", sum := "848cf463fbe51facb20ed0f54c61ae91d352bc70f002659528f6aaea1114dcf8", func := "blackboard/blackboardlaw25.GaugeWhole", spec := "gaugeWhole", inPlace := ["math.archFloor", "math.Float64bits", "math.Float64frombits", "math.archTrunc"], unfollowed := true, recurses := true, apart := false }
def GaugeWholeSaid : Prop := gaugeWholeRow.holds Tryz.pinned (OpenSpec.ofChange gaugeWholeSpec)

/-- ITS FALSE NEIGHBOUR: 'it returns false'. Refute it at one input. -/
def gaugeWholeWrong : ChangeSpec := { name := "gaugeWhole", fn := fun _ => fun
  | [d] => { results := [.lit (.bool false)], args := [d] }
  | _ => none }
def GaugeWholeWrongFalsely : Prop := gaugeWholeRow.holds Tryz.pinned (OpenSpec.ofChange gaugeWholeWrong)

/-- 'blackboardlaw25.GaugeMeans': WHATEVER THE INPUT: true; the input reads as it did. -/
def gaugeMeansSpec : ChangeSpec := { name := "gaugeMeans", fn := fun _ => fun
  | [d1, d2] => { results := [.lit (.bool true)], args := [d1, d2] }
  | _ => none }
def gaugeMeansRow : OpenClaim := { program := "ytdjgjffgheocfaagreat", sum := "848cf463fbe51facb20ed0f54c61ae91d352bc70f002659528f6aaea1114dcf8", func := "blackboard/blackboardlaw25.GaugeMeans", spec := "gaugeMeans", inPlace := ["math.archFloor", "math.Float64bits", "math.Float64frombits", "math.archTrunc"], unfollowed := true, recurses := true, apart := false }
def GaugeMeansSaid : Prop := gaugeMeansRow.holds Tryz.pinned (OpenSpec.ofChange gaugeMeansSpec)

/-- ITS FALSE NEIGHBOUR: 'it returns false'. Refute it at one input. -/
def gaugeMeansWrong : ChangeSpec := { name := "gaugeMeans", fn := fun _ => fun
  | [d1, d2] => { results := [.lit (.bool false)], args := [d1, d2] }
  | _ => none }
def GaugeMeansWrongFalsely : Prop := gaugeMeansRow.holds Tryz.pinned (OpenSpec.ofChange gaugeMeansWrong)

/- THE SECOND FORM. 'bulk': how many values and letters a reading holds, each counted each time it is reached (what is shared counts as often as it is met; a slice's spare places count too). A statement '..UptoSaid' is the law's where the arguments, and the package variables that the reading takes, are together of bulk at most 1048576: NARROWER than '..Said'. Prove '..Said' where nothing that the law and all that it calls make is longer than what came in: it says more and counts as full. Else prove '..UptoSaid'. A law counts once. -/
mutual
def uptoBulk {H : Type} : DataW H → Nat
  | .lit (.string bytes) => bytes.length + 1
  | .lit _ => 1
  | .nil => 1
  | .ptr d => uptoBulk d + 1
  | .slice elems spare => uptoBulkAll elems + uptoBulkAll spare + 1
  | .agg parts => uptoBulkAll parts + 1
  | .iface _ d => uptoBulk d + 1
  | .map entries => uptoBulkEntries entries + 1
  | .held _ => 1
def uptoBulkAll {H : Type} : List (DataW H) → Nat
  | [] => 0
  | d :: r => uptoBulk d + uptoBulkAll r
def uptoBulkEntries {H : Type} : List (Lit × DataW H) → Nat
  | [] => 0
  | x :: r => uptoBulkEntry x + uptoBulkEntries r
def uptoBulkEntry {H : Type} : Lit × DataW H → Nat
  | (.string bytes, d) => bytes.length + uptoBulk d + 1
  | (_, d) => uptoBulk d + 1
 end
def uptoSmall : (H : Type) → List (DataW H) → Bool := fun _ ds => decide (uptoBulkAll ds ≤ 1048576)
def OpenSpec.upto (s : _root_.Go.ChangeSpec) : _root_.Go.OpenSpec := { _root_.Go.OpenSpec.ofChange s with cond := some uptoSmall }

/-- 'blackboardlaw25.GaugeTurns', WHERE WHAT IT READS IS OF BULK AT MOST 1048576: true; the input reads as it did. -/
def gaugeTurnsUptoRow : OpenClaim := { program := "ytdjgjffgheocfaagreat", sum := "848cf463fbe51facb20ed0f54c61ae91d352bc70f002659528f6aaea1114dcf8", func := "blackboard/blackboardlaw25.GaugeTurns", spec := "gaugeTurns", inPlace := ["math.archFloor", "math.Float64bits", "math.Float64frombits", "math.archTrunc"], unfollowed := true, recurses := true, apart := false, narrowed := true }
def GaugeTurnsUptoSaid : Prop := gaugeTurnsUptoRow.holds Tryz.pinned (OpenSpec.upto gaugeTurnsSpec)

/-- 'blackboardlaw25.GaugeKnown', WHERE WHAT IT READS IS OF BULK AT MOST 1048576: true; the input reads as it did. -/
def gaugeKnownUptoRow : OpenClaim := { program := "ytdjgjffgheocfaagreat", sum := "848cf463fbe51facb20ed0f54c61ae91d352bc70f002659528f6aaea1114dcf8", func := "blackboard/blackboardlaw25.GaugeKnown", spec := "gaugeKnown", inPlace := ["math.archFloor", "math.Float64bits", "math.Float64frombits", "math.archTrunc"], unfollowed := true, recurses := true, apart := false, narrowed := true }
def GaugeKnownUptoSaid : Prop := gaugeKnownUptoRow.holds Tryz.pinned (OpenSpec.upto gaugeKnownSpec)

/-- 'blackboardlaw25.GaugeWhole', WHERE WHAT IT READS IS OF BULK AT MOST 1048576: true; the input reads as it did. -/
def gaugeWholeUptoRow : OpenClaim := { program := "ytdjgjffgheocfaagreat", sum := "848cf463fbe51facb20ed0f54c61ae91d352bc70f002659528f6aaea1114dcf8", func := "blackboard/blackboardlaw25.GaugeWhole", spec := "gaugeWhole", inPlace := ["math.archFloor", "math.Float64bits", "math.Float64frombits", "math.archTrunc"], unfollowed := true, recurses := true, apart := false, narrowed := true }
def GaugeWholeUptoSaid : Prop := gaugeWholeUptoRow.holds Tryz.pinned (OpenSpec.upto gaugeWholeSpec)

/-- 'blackboardlaw25.GaugeMeans', WHERE WHAT IT READS IS OF BULK AT MOST 1048576: true; the input reads as it did. -/
def gaugeMeansUptoRow : OpenClaim := { program := "ytdjgjffgheocfaagreat", sum := "848cf463fbe51facb20ed0f54c61ae91d352bc70f002659528f6aaea1114dcf8", func := "blackboard/blackboardlaw25.GaugeMeans", spec := "gaugeMeans", inPlace := ["math.archFloor", "math.Float64bits", "math.Float64frombits", "math.archTrunc"], unfollowed := true, recurses := true, apart := false, narrowed := true }
def GaugeMeansUptoSaid : Prop := gaugeMeansUptoRow.holds Tryz.pinned (OpenSpec.upto gaugeMeansSpec)

end Rows
end Go.Proofs.YtdjgjffgheocfaaGreat
