/-
  No cell of these rows narrows 'for every input' (looked for: loops, veiled, ifaces, maps, wideKeys, modest, calm, conditions, laid).
  DERIVED. THE GIVEN ROWS OF THIS SEAT. 11 by the template 'for every input the law returns true; each argument reads behind the call as it read before'; 0 by the template 'total and deterministic' (their statements: YtdlmjjlejkkniaaTotals.lean).
  GIVEN WITH THE SEED: the statements are not yours to turn. If you find one false, say at which input.
  Laid BY PROGRAM, IN A SANDBOX (cutbox-rows.mjs): the forced cells as the released guide's own fill.sh prints them over the translation 24eaab18bb884a80… (all of the seat's roots in one cut). By AI agents, Wed Nov 11 2026. No macro, syntax, notation, axiom, sorry.
-/
import Derived.Test.YtdlmjjlejkkniaaChecked
import GoSem.Claim
import GoSem.ClaimJoined
import GoSem.ClaimMapViews
import Derived.JoinedTies
import Derived.KernelRfl
namespace Go.Proofs.Ytdlmjjlejkkniaa
/- THE CELL 'sum', in the pinned program and in every row, IS THE sha256 OF THE DUMP (.gsa) THAT YtdlmjjlejkkniaaProg.lean LOADS. Nothing in Lean hashes anything: it is a label: what it is worth is what the hold of that sum in a sandbox is worth. -/
noncomputable def Try.pinned : Pinned := { name := "ytdlmjjlejkkniaa", sum := "24eaab18bb884a808f5ee428a05d3740bb6a320b06ecf090fe7711a730ff94b7", checked := Try.checked }
namespace Rows
def none {H : Type} : Left H := { results := [], args := [] }

/-- 'blackboardlaw11.FrameMakes': WHATEVER THE INPUT: true; the input reads as it did. -/
def frameMakesSpec : ChangeSpec := { name := "frameMakes", fn := fun _ => fun
  | [d1, d2, d3] => { results := [.lit (.bool true)], args := [d1, d2, d3] }
  | _ => none }
def frameMakesRow : OpenClaim := { program := "ytdlmjjlejkkniaa", sum := "24eaab18bb884a808f5ee428a05d3740bb6a320b06ecf090fe7711a730ff94b7", func := "blackboard/blackboardlaw11.FrameMakes", spec := "frameMakes", inPlace := ["math.archFloor", "math.Float64bits", "math.Float64frombits", "math.archTrunc"], unfollowed := true, recurses := true, apart := false }
def FrameMakesSaid : Prop := frameMakesRow.holds Try.pinned (OpenSpec.ofChange frameMakesSpec)

/-- ITS FALSE NEIGHBOUR: 'it returns false'. Refute it at one input. -/
def frameMakesWrong : ChangeSpec := { name := "frameMakes", fn := fun _ => fun
  | [d1, d2, d3] => { results := [.lit (.bool false)], args := [d1, d2, d3] }
  | _ => none }
def FrameMakesWrongFalsely : Prop := frameMakesRow.holds Try.pinned (OpenSpec.ofChange frameMakesWrong)

/-- 'blackboardlaw11.FrameTorn': WHATEVER THE INPUT: true; the input reads as it did. -/
def frameTornSpec : ChangeSpec := { name := "frameTorn", fn := fun _ => fun
  | [d1, d2, d3] => { results := [.lit (.bool true)], args := [d1, d2, d3] }
  | _ => none }
def frameTornRow : OpenClaim := { program := "ytdlmjjlejkkniaa", sum := "24eaab18bb884a808f5ee428a05d3740bb6a320b06ecf090fe7711a730ff94b7", func := "blackboard/blackboardlaw11.FrameTorn", spec := "frameTorn", inPlace := ["math.archFloor", "math.Float64bits", "math.Float64frombits", "math.archTrunc"], unfollowed := true, recurses := true, apart := false }
def FrameTornSaid : Prop := frameTornRow.holds Try.pinned (OpenSpec.ofChange frameTornSpec)

/-- ITS FALSE NEIGHBOUR: 'it returns false'. Refute it at one input. -/
def frameTornWrong : ChangeSpec := { name := "frameTorn", fn := fun _ => fun
  | [d1, d2, d3] => { results := [.lit (.bool false)], args := [d1, d2, d3] }
  | _ => none }
def FrameTornWrongFalsely : Prop := frameTornRow.holds Try.pinned (OpenSpec.ofChange frameTornWrong)

/-- 'blackboardlaw11.FrameKnown': WHATEVER THE INPUT: true; the input reads as it did. -/
def frameKnownSpec : ChangeSpec := { name := "frameKnown", fn := fun _ => fun
  | [] => { results := [.lit (.bool true)], args := [] }
  | _ => none }
def frameKnownRow : OpenClaim := { program := "ytdlmjjlejkkniaa", sum := "24eaab18bb884a808f5ee428a05d3740bb6a320b06ecf090fe7711a730ff94b7", func := "blackboard/blackboardlaw11.FrameKnown", spec := "frameKnown", inPlace := ["math.archFloor", "math.Float64bits", "math.Float64frombits", "math.archTrunc"], unfollowed := true, recurses := true, apart := false }
def FrameKnownSaid : Prop := frameKnownRow.holds Try.pinned (OpenSpec.ofChange frameKnownSpec)

/-- ITS FALSE NEIGHBOUR: 'it returns false'. Refute it at one input. -/
def frameKnownWrong : ChangeSpec := { name := "frameKnown", fn := fun _ => fun
  | [] => { results := [.lit (.bool false)], args := [] }
  | _ => none }
def FrameKnownWrongFalsely : Prop := frameKnownRow.holds Try.pinned (OpenSpec.ofChange frameKnownWrong)

/-- 'blackboardlaw11.FrameMoves': WHATEVER THE INPUT: true; the input reads as it did. -/
def frameMovesSpec : ChangeSpec := { name := "frameMoves", fn := fun _ => fun
  | [d1, d2, d3] => { results := [.lit (.bool true)], args := [d1, d2, d3] }
  | _ => none }
def frameMovesRow : OpenClaim := { program := "ytdlmjjlejkkniaa", sum := "24eaab18bb884a808f5ee428a05d3740bb6a320b06ecf090fe7711a730ff94b7", func := "blackboard/blackboardlaw11.FrameMoves", spec := "frameMoves", inPlace := ["math.archFloor", "math.Float64bits", "math.Float64frombits", "math.archTrunc"], unfollowed := true, recurses := true, apart := false }
def FrameMovesSaid : Prop := frameMovesRow.holds Try.pinned (OpenSpec.ofChange frameMovesSpec)

/-- ITS FALSE NEIGHBOUR: 'it returns false'. Refute it at one input. -/
def frameMovesWrong : ChangeSpec := { name := "frameMoves", fn := fun _ => fun
  | [d1, d2, d3] => { results := [.lit (.bool false)], args := [d1, d2, d3] }
  | _ => none }
def FrameMovesWrongFalsely : Prop := frameMovesRow.holds Try.pinned (OpenSpec.ofChange frameMovesWrong)

/-- 'blackboardlaw11.FrameApart': WHATEVER THE INPUT: true; the input reads as it did. -/
def frameApartSpec : ChangeSpec := { name := "frameApart", fn := fun _ => fun
  | [d1, d2, d3] => { results := [.lit (.bool true)], args := [d1, d2, d3] }
  | _ => none }
def frameApartRow : OpenClaim := { program := "ytdlmjjlejkkniaa", sum := "24eaab18bb884a808f5ee428a05d3740bb6a320b06ecf090fe7711a730ff94b7", func := "blackboard/blackboardlaw11.FrameApart", spec := "frameApart", inPlace := ["math.archFloor", "math.Float64bits", "math.Float64frombits", "math.archTrunc"], unfollowed := true, recurses := true, apart := false }
def FrameApartSaid : Prop := frameApartRow.holds Try.pinned (OpenSpec.ofChange frameApartSpec)

/-- ITS FALSE NEIGHBOUR: 'it returns false'. Refute it at one input. -/
def frameApartWrong : ChangeSpec := { name := "frameApart", fn := fun _ => fun
  | [d1, d2, d3] => { results := [.lit (.bool false)], args := [d1, d2, d3] }
  | _ => none }
def FrameApartWrongFalsely : Prop := frameApartRow.holds Try.pinned (OpenSpec.ofChange frameApartWrong)

/-- 'blackboardlaw11.FrameHeads': WHATEVER THE INPUT: true; the input reads as it did. -/
def frameHeadsSpec : ChangeSpec := { name := "frameHeads", fn := fun _ => fun
  | [d1, d2] => { results := [.lit (.bool true)], args := [d1, d2] }
  | _ => none }
def frameHeadsRow : OpenClaim := { program := "ytdlmjjlejkkniaa", sum := "24eaab18bb884a808f5ee428a05d3740bb6a320b06ecf090fe7711a730ff94b7", func := "blackboard/blackboardlaw11.FrameHeads", spec := "frameHeads", inPlace := ["math.archFloor", "math.Float64bits", "math.Float64frombits", "math.archTrunc"], unfollowed := true, recurses := true, apart := false }
def FrameHeadsSaid : Prop := frameHeadsRow.holds Try.pinned (OpenSpec.ofChange frameHeadsSpec)

/-- ITS FALSE NEIGHBOUR: 'it returns false'. Refute it at one input. -/
def frameHeadsWrong : ChangeSpec := { name := "frameHeads", fn := fun _ => fun
  | [d1, d2] => { results := [.lit (.bool false)], args := [d1, d2] }
  | _ => none }
def FrameHeadsWrongFalsely : Prop := frameHeadsRow.holds Try.pinned (OpenSpec.ofChange frameHeadsWrong)

/-- 'blackboardlaw11.FrameAgain': WHATEVER THE INPUT: true; the input reads as it did. -/
def frameAgainSpec : ChangeSpec := { name := "frameAgain", fn := fun _ => fun
  | [d1, d2, d3] => { results := [.lit (.bool true)], args := [d1, d2, d3] }
  | _ => none }
def frameAgainRow : OpenClaim := { program := "ytdlmjjlejkkniaa", sum := "24eaab18bb884a808f5ee428a05d3740bb6a320b06ecf090fe7711a730ff94b7", func := "blackboard/blackboardlaw11.FrameAgain", spec := "frameAgain", inPlace := ["math.archFloor", "math.Float64bits", "math.Float64frombits", "math.archTrunc"], unfollowed := true, recurses := true, apart := false }
def FrameAgainSaid : Prop := frameAgainRow.holds Try.pinned (OpenSpec.ofChange frameAgainSpec)

/-- ITS FALSE NEIGHBOUR: 'it returns false'. Refute it at one input. -/
def frameAgainWrong : ChangeSpec := { name := "frameAgain", fn := fun _ => fun
  | [d1, d2, d3] => { results := [.lit (.bool false)], args := [d1, d2, d3] }
  | _ => none }
def FrameAgainWrongFalsely : Prop := frameAgainRow.holds Try.pinned (OpenSpec.ofChange frameAgainWrong)

/-- 'blackboardlaw12.CensusMargins': WHATEVER THE INPUT: true; the input reads as it did. -/
def censusMarginsSpec : ChangeSpec := { name := "censusMargins", fn := fun _ => fun
  | [d] => { results := [.lit (.bool true)], args := [d] }
  | _ => none }
def censusMarginsRow : OpenClaim := { program := "ytdlmjjlejkkniaa", sum := "24eaab18bb884a808f5ee428a05d3740bb6a320b06ecf090fe7711a730ff94b7", func := "blackboard/blackboardlaw12.CensusMargins", spec := "censusMargins", inPlace := ["math.archFloor", "math.Float64bits", "math.Float64frombits", "math.archTrunc"], unfollowed := true, recurses := true, apart := false }
def CensusMarginsSaid : Prop := censusMarginsRow.holds Try.pinned (OpenSpec.ofChange censusMarginsSpec)

/-- ITS FALSE NEIGHBOUR: 'it returns false'. Refute it at one input. -/
def censusMarginsWrong : ChangeSpec := { name := "censusMargins", fn := fun _ => fun
  | [d] => { results := [.lit (.bool false)], args := [d] }
  | _ => none }
def CensusMarginsWrongFalsely : Prop := censusMarginsRow.holds Try.pinned (OpenSpec.ofChange censusMarginsWrong)

/-- 'blackboardlaw12.CensusShifts': WHATEVER THE INPUT: true; the input reads as it did. -/
def censusShiftsSpec : ChangeSpec := { name := "censusShifts", fn := fun _ => fun
  | [d1, d2, d3] => { results := [.lit (.bool true)], args := [d1, d2, d3] }
  | _ => none }
def censusShiftsRow : OpenClaim := { program := "ytdlmjjlejkkniaa", sum := "24eaab18bb884a808f5ee428a05d3740bb6a320b06ecf090fe7711a730ff94b7", func := "blackboard/blackboardlaw12.CensusShifts", spec := "censusShifts", inPlace := ["math.archFloor", "math.Float64bits", "math.Float64frombits", "math.archTrunc"], unfollowed := true, recurses := true, apart := false }
def CensusShiftsSaid : Prop := censusShiftsRow.holds Try.pinned (OpenSpec.ofChange censusShiftsSpec)

/-- ITS FALSE NEIGHBOUR: 'it returns false'. Refute it at one input. -/
def censusShiftsWrong : ChangeSpec := { name := "censusShifts", fn := fun _ => fun
  | [d1, d2, d3] => { results := [.lit (.bool false)], args := [d1, d2, d3] }
  | _ => none }
def CensusShiftsWrongFalsely : Prop := censusShiftsRow.holds Try.pinned (OpenSpec.ofChange censusShiftsWrong)

/-- 'blackboardlaw12.CensusKnown': WHATEVER THE INPUT: true; the input reads as it did. -/
def censusKnownSpec : ChangeSpec := { name := "censusKnown", fn := fun _ => fun
  | [] => { results := [.lit (.bool true)], args := [] }
  | _ => none }
def censusKnownRow : OpenClaim := { program := "ytdlmjjlejkkniaa", sum := "24eaab18bb884a808f5ee428a05d3740bb6a320b06ecf090fe7711a730ff94b7", func := "blackboard/blackboardlaw12.CensusKnown", spec := "censusKnown", inPlace := ["math.archFloor", "math.Float64bits", "math.Float64frombits", "math.archTrunc"], unfollowed := true, recurses := true, apart := false }
def CensusKnownSaid : Prop := censusKnownRow.holds Try.pinned (OpenSpec.ofChange censusKnownSpec)

/-- ITS FALSE NEIGHBOUR: 'it returns false'. Refute it at one input. -/
def censusKnownWrong : ChangeSpec := { name := "censusKnown", fn := fun _ => fun
  | [] => { results := [.lit (.bool false)], args := [] }
  | _ => none }
def CensusKnownWrongFalsely : Prop := censusKnownRow.holds Try.pinned (OpenSpec.ofChange censusKnownWrong)

/-- 'blackboardlaw12.CensusCounts': WHATEVER THE INPUT: true; the input reads as it did. -/
def censusCountsSpec : ChangeSpec := { name := "censusCounts", fn := fun _ => fun
  | [d1, d2] => { results := [.lit (.bool true)], args := [d1, d2] }
  | _ => none }
def censusCountsRow : OpenClaim := { program := "ytdlmjjlejkkniaa", sum := "24eaab18bb884a808f5ee428a05d3740bb6a320b06ecf090fe7711a730ff94b7", func := "blackboard/blackboardlaw12.CensusCounts", spec := "censusCounts", inPlace := ["math.archFloor", "math.Float64bits", "math.Float64frombits", "math.archTrunc"], unfollowed := true, recurses := true, apart := false }
def CensusCountsSaid : Prop := censusCountsRow.holds Try.pinned (OpenSpec.ofChange censusCountsSpec)

/-- ITS FALSE NEIGHBOUR: 'it returns false'. Refute it at one input. -/
def censusCountsWrong : ChangeSpec := { name := "censusCounts", fn := fun _ => fun
  | [d1, d2] => { results := [.lit (.bool false)], args := [d1, d2] }
  | _ => none }
def CensusCountsWrongFalsely : Prop := censusCountsRow.holds Try.pinned (OpenSpec.ofChange censusCountsWrong)

/- THE SECOND FORM. 'bulk': how many values and letters a reading holds, each counted each time it is reached (what is shared counts as often as it is met; a slice's spare places count too). A statement '..UptoSaid' is the law's where the arguments, and the package variables that the reading takes, are together of bulk at most 1048576: NARROWER than '..Said'. Prove '..Said' where nothing that the law and all that it calls make is longer than what came in: it says more and counts as full. Else prove '..UptoSaid'. A law counts once. -/
mutual
def uptoBulk {H : Type} : DataW H → Nat
  | .lit (.string bytes) => bytes.length + 1
  | .lit _ => 1
  | .nil => 1
  | .ptr d => uptoBulk d + 1
  | .slice elems spare => uptoBulkAll elems + uptoBulkAll spare + 1
  | .agg parts => uptoBulkAll parts + 1
  | .iface _ d => uptoBulk d + 1
  | .map entries => uptoBulkEntries entries + 1
  | .held _ => 1
def uptoBulkAll {H : Type} : List (DataW H) → Nat
  | [] => 0
  | d :: r => uptoBulk d + uptoBulkAll r
def uptoBulkEntries {H : Type} : List (Lit × DataW H) → Nat
  | [] => 0
  | x :: r => uptoBulkEntry x + uptoBulkEntries r
def uptoBulkEntry {H : Type} : Lit × DataW H → Nat
  | (.string bytes, d) => bytes.length + uptoBulk d + 1
  | (_, d) => uptoBulk d + 1
 end
def uptoSmall : (H : Type) → List (DataW H) → Bool := fun _ ds => decide (uptoBulkAll ds ≤ 1048576)
def OpenSpec.upto (s : _root_.Go.ChangeSpec) : _root_.Go.OpenSpec := { _root_.Go.OpenSpec.ofChange s with cond := some uptoSmall }

/-- 'blackboardlaw11.FrameMakes', WHERE WHAT IT READS IS OF BULK AT MOST 1048576: true; the input reads as it did. -/
def frameMakesUptoRow : OpenClaim := { program := "ytdlmjjlejkkniaa", sum := "24eaab18bb884a808f5ee428a05d3740bb6a320b06ecf090fe7711a730ff94b7", func := "blackboard/blackboardlaw11.FrameMakes", spec := "frameMakes", inPlace := ["math.archFloor", "math.Float64bits", "math.Float64frombits", "math.archTrunc"], unfollowed := true, recurses := true, apart := false, narrowed := true }
def FrameMakesUptoSaid : Prop := frameMakesUptoRow.holds Try.pinned (OpenSpec.upto frameMakesSpec)

/-- 'blackboardlaw11.FrameTorn', WHERE WHAT IT READS IS OF BULK AT MOST 1048576: true; the input reads as it did. -/
def frameTornUptoRow : OpenClaim := { program := "ytdlmjjlejkkniaa", sum := "24eaab18bb884a808f5ee428a05d3740bb6a320b06ecf090fe7711a730ff94b7", func := "blackboard/blackboardlaw11.FrameTorn", spec := "frameTorn", inPlace := ["math.archFloor", "math.Float64bits", "math.Float64frombits", "math.archTrunc"], unfollowed := true, recurses := true, apart := false, narrowed := true }
def FrameTornUptoSaid : Prop := frameTornUptoRow.holds Try.pinned (OpenSpec.upto frameTornSpec)

/-- 'blackboardlaw11.FrameKnown', WHERE WHAT IT READS IS OF BULK AT MOST 1048576: true; the input reads as it did. -/
def frameKnownUptoRow : OpenClaim := { program := "ytdlmjjlejkkniaa", sum := "24eaab18bb884a808f5ee428a05d3740bb6a320b06ecf090fe7711a730ff94b7", func := "blackboard/blackboardlaw11.FrameKnown", spec := "frameKnown", inPlace := ["math.archFloor", "math.Float64bits", "math.Float64frombits", "math.archTrunc"], unfollowed := true, recurses := true, apart := false, narrowed := true }
def FrameKnownUptoSaid : Prop := frameKnownUptoRow.holds Try.pinned (OpenSpec.upto frameKnownSpec)

/-- 'blackboardlaw11.FrameMoves', WHERE WHAT IT READS IS OF BULK AT MOST 1048576: true; the input reads as it did. -/
def frameMovesUptoRow : OpenClaim := { program := "ytdlmjjlejkkniaa", sum := "24eaab18bb884a808f5ee428a05d3740bb6a320b06ecf090fe7711a730ff94b7", func := "blackboard/blackboardlaw11.FrameMoves", spec := "frameMoves", inPlace := ["math.archFloor", "math.Float64bits", "math.Float64frombits", "math.archTrunc"], unfollowed := true, recurses := true, apart := false, narrowed := true }
def FrameMovesUptoSaid : Prop := frameMovesUptoRow.holds Try.pinned (OpenSpec.upto frameMovesSpec)

/-- 'blackboardlaw11.FrameApart', WHERE WHAT IT READS IS OF BULK AT MOST 1048576: true; the input reads as it did. -/
def frameApartUptoRow : OpenClaim := { program := "ytdlmjjlejkkniaa", sum := "24eaab18bb884a808f5ee428a05d3740bb6a320b06ecf090fe7711a730ff94b7", func := "blackboard/blackboardlaw11.FrameApart", spec := "frameApart", inPlace := ["math.archFloor", "math.Float64bits", "math.Float64frombits", "math.archTrunc"], unfollowed := true, recurses := true, apart := false, narrowed := true }
def FrameApartUptoSaid : Prop := frameApartUptoRow.holds Try.pinned (OpenSpec.upto frameApartSpec)

/-- 'blackboardlaw11.FrameHeads', WHERE WHAT IT READS IS OF BULK AT MOST 1048576: true; the input reads as it did. -/
def frameHeadsUptoRow : OpenClaim := { program := "ytdlmjjlejkkniaa", sum := "24eaab18bb884a808f5ee428a05d3740bb6a320b06ecf090fe7711a730ff94b7", func := "blackboard/blackboardlaw11.FrameHeads", spec := "frameHeads", inPlace := ["math.archFloor", "math.Float64bits", "math.Float64frombits", "math.archTrunc"], unfollowed := true, recurses := true, apart := false, narrowed := true }
def FrameHeadsUptoSaid : Prop := frameHeadsUptoRow.holds Try.pinned (OpenSpec.upto frameHeadsSpec)

/-- 'blackboardlaw11.FrameAgain', WHERE WHAT IT READS IS OF BULK AT MOST 1048576: true; the input reads as it did. -/
def frameAgainUptoRow : OpenClaim := { program := "ytdlmjjlejkkniaa", sum := "24eaab18bb884a808f5ee428a05d3740bb6a320b06ecf090fe7711a730ff94b7", func := "blackboard/blackboardlaw11.FrameAgain", spec := "frameAgain", inPlace := ["math.archFloor", "math.Float64bits", "math.Float64frombits", "math.archTrunc"], unfollowed := true, recurses := true, apart := false, narrowed := true }
def FrameAgainUptoSaid : Prop := frameAgainUptoRow.holds Try.pinned (OpenSpec.upto frameAgainSpec)

/-- 'blackboardlaw12.CensusMargins', WHERE WHAT IT READS IS OF BULK AT MOST 1048576: true; the input reads as it did. -/
def censusMarginsUptoRow : OpenClaim := { program := "ytdlmjjlejkkniaa", sum := "24eaab18bb884a808f5ee428a05d3740bb6a320b06ecf090fe7711a730ff94b7", func := "blackboard/blackboardlaw12.CensusMargins", spec := "censusMargins", inPlace := ["math.archFloor", "math.Float64bits", "math.Float64frombits", "math.archTrunc"], unfollowed := true, recurses := true, apart := false, narrowed := true }
def CensusMarginsUptoSaid : Prop := censusMarginsUptoRow.holds Try.pinned (OpenSpec.upto censusMarginsSpec)

/-- 'blackboardlaw12.CensusShifts', WHERE WHAT IT READS IS OF BULK AT MOST 1048576: true; the input reads as it did. -/
def censusShiftsUptoRow : OpenClaim := { program := "ytdlmjjlejkkniaa", sum := "24eaab18bb884a808f5ee428a05d3740bb6a320b06ecf090fe7711a730ff94b7", func := "blackboard/blackboardlaw12.CensusShifts", spec := "censusShifts", inPlace := ["math.archFloor", "math.Float64bits", "math.Float64frombits", "math.archTrunc"], unfollowed := true, recurses := true, apart := false, narrowed := true }
def CensusShiftsUptoSaid : Prop := censusShiftsUptoRow.holds Try.pinned (OpenSpec.upto censusShiftsSpec)

/-- 'blackboardlaw12.CensusKnown', WHERE WHAT IT READS IS OF BULK AT MOST 1048576: true; the input reads as it did. -/
def censusKnownUptoRow : OpenClaim := { program := "ytdlmjjlejkkniaa", sum := "24eaab18bb884a808f5ee428a05d3740bb6a320b06ecf090fe7711a730ff94b7", func := "blackboard/blackboardlaw12.CensusKnown", spec := "censusKnown", inPlace := ["math.archFloor", "math.Float64bits", "math.Float64frombits", "math.archTrunc"], unfollowed := true, recurses := true, apart := false, narrowed := true }
def CensusKnownUptoSaid : Prop := censusKnownUptoRow.holds Try.pinned (OpenSpec.upto censusKnownSpec)

/-- 'blackboardlaw12.CensusCounts', WHERE WHAT IT READS IS OF BULK AT MOST 1048576: true; the input reads as it did. -/
def censusCountsUptoRow : OpenClaim := { program := "ytdlmjjlejkkniaa", sum := "24eaab18bb884a808f5ee428a05d3740bb6a320b06ecf090fe7711a730ff94b7", func := "blackboard/blackboardlaw12.CensusCounts", spec := "censusCounts", inPlace := ["math.archFloor", "math.Float64bits", "math.Float64frombits", "math.archTrunc"], unfollowed := true, recurses := true, apart := false, narrowed := true }
def CensusCountsUptoSaid : Prop := censusCountsUptoRow.holds Try.pinned (OpenSpec.upto censusCountsSpec)

end Rows
end Go.Proofs.Ytdlmjjlejkkniaa
