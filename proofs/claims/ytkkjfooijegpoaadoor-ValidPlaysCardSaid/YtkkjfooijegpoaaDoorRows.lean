/-
  NARROWER THAN 'FOR EVERY INPUT', by the rows' own cells (each row's printed sentence says how): ValidPlays: laid · ValidWalks: laid · ValidSums: laid · ValidKnown: laid.
  DERIVED. THE GIVEN ROWS OF THIS SEAT. 4 by the template 'for every input the law returns true; each argument reads behind the call as it read before'; 0 by the template 'total and deterministic' (their statements: YtkkjfooijegpoaaDoorTotals.lean).
  GIVEN WITH THE SEED: the statements are not yours to turn. If you find one false, say at which input.
  Laid BY PROGRAM, IN A SANDBOX (cutbox-rows.mjs): the forced cells as the released guide's own fill.sh prints them over the translation 50f838773e0faa98… (all of the seat's roots in one cut). By AI agents, Wed Nov 11 2026. No macro, syntax, notation, axiom, sorry.
-/
import Derived.Test.YtkkjfooijegpoaaDoorChecked
import GoSem.Claim
import GoSem.ClaimJoined
import GoSem.ClaimMapViews
import Derived.JoinedTies
import Derived.KernelRfl
namespace Go.Proofs.YtkkjfooijegpoaaDoor
/- THE CELL 'sum', in the pinned program and in every row, IS THE sha256 OF THE DUMP (.gsa) THAT YtkkjfooijegpoaaDoorProg.lean LOADS. Nothing in Lean hashes anything: it is a label: what it is worth is what the hold of that sum in a sandbox is worth. -/
noncomputable def Tryd.pinned : Pinned := { name := "ytkkjfooijegpoaadoor", sum := "50f838773e0faa9822c56fe36257e17dea9c8ad95268edada29b79a6df5f1d49", checked := Tryd.checked }
namespace Rows
def none {H : Type} : Left H := { results := [], args := [] }

/- WHAT THE LISTED PACKAGE-LEVEL VARIABLES READ AS WHEN THE CALL BEGINS. Each datum BY PROGRAM (the guide's laid-datum.mjs) off the statement by which the dump's own 'gosem.cut.vars' lays the variable. In a bare row this is a premise. The card (YtkkjfooijegpoaaDoorCards.lean) ties it to the program's text. -/
def laid_math_bits_deBruijn64tab {H : Type} : DataW H := .agg [.lit (.int .u8 0), .lit (.int .u8 1), .lit (.int .u8 56), .lit (.int .u8 2), .lit (.int .u8 57), .lit (.int .u8 49), .lit (.int .u8 28), .lit (.int .u8 3), .lit (.int .u8 61), .lit (.int .u8 58), .lit (.int .u8 42), .lit (.int .u8 50), .lit (.int .u8 38), .lit (.int .u8 29), .lit (.int .u8 17), .lit (.int .u8 4), .lit (.int .u8 62), .lit (.int .u8 47), .lit (.int .u8 59), .lit (.int .u8 36), .lit (.int .u8 45), .lit (.int .u8 43), .lit (.int .u8 51), .lit (.int .u8 22), .lit (.int .u8 53), .lit (.int .u8 39), .lit (.int .u8 33), .lit (.int .u8 30), .lit (.int .u8 24), .lit (.int .u8 18), .lit (.int .u8 12), .lit (.int .u8 5), .lit (.int .u8 63), .lit (.int .u8 55), .lit (.int .u8 48), .lit (.int .u8 27), .lit (.int .u8 60), .lit (.int .u8 41), .lit (.int .u8 37), .lit (.int .u8 16), .lit (.int .u8 46), .lit (.int .u8 35), .lit (.int .u8 44), .lit (.int .u8 21), .lit (.int .u8 52), .lit (.int .u8 32), .lit (.int .u8 23), .lit (.int .u8 11), .lit (.int .u8 54), .lit (.int .u8 26), .lit (.int .u8 40), .lit (.int .u8 15), .lit (.int .u8 34), .lit (.int .u8 20), .lit (.int .u8 31), .lit (.int .u8 10), .lit (.int .u8 25), .lit (.int .u8 14), .lit (.int .u8 19), .lit (.int .u8 9), .lit (.int .u8 13), .lit (.int .u8 8), .lit (.int .u8 7), .lit (.int .u8 6)]

/-- 'blackboardlaw14.ValidPlays': WHATEVER THE INPUT: true; the input reads as it did. -/
def validPlaysSpec : ChangeSpec := { name := "validPlays", fn := fun _ => fun
  | [d1, d2] => { results := [.lit (.bool true)], args := [d1, d2] }
  | _ => none }
def validPlaysRow : OpenClaim := { program := "ytkkjfooijegpoaadoor", sum := "50f838773e0faa9822c56fe36257e17dea9c8ad95268edada29b79a6df5f1d49", func := "blackboard/blackboardlaw14.ValidPlays", spec := "validPlays", named := ["math/bits.deBruijn64tab"], apart := false, laid := [("math/bits.deBruijn64tab", laid_math_bits_deBruijn64tab)] }
def ValidPlaysSaid : Prop := validPlaysRow.holds Tryd.pinned (OpenSpec.ofChange validPlaysSpec)

/-- ITS FALSE NEIGHBOUR: 'it returns false'. Refute it at one input. -/
def validPlaysWrong : ChangeSpec := { name := "validPlays", fn := fun _ => fun
  | [d1, d2] => { results := [.lit (.bool false)], args := [d1, d2] }
  | _ => none }
def ValidPlaysWrongFalsely : Prop := validPlaysRow.holds Tryd.pinned (OpenSpec.ofChange validPlaysWrong)

/-- 'blackboardlaw14.ValidWalks': WHATEVER THE INPUT: true; the input reads as it did. -/
def validWalksSpec : ChangeSpec := { name := "validWalks", fn := fun _ => fun
  | [d1, d2] => { results := [.lit (.bool true)], args := [d1, d2] }
  | _ => none }
def validWalksRow : OpenClaim := { program := "ytkkjfooijegpoaadoor", sum := "50f838773e0faa9822c56fe36257e17dea9c8ad95268edada29b79a6df5f1d49", func := "blackboard/blackboardlaw14.ValidWalks", spec := "validWalks", named := ["math/bits.deBruijn64tab"], apart := false, laid := [("math/bits.deBruijn64tab", laid_math_bits_deBruijn64tab)] }
def ValidWalksSaid : Prop := validWalksRow.holds Tryd.pinned (OpenSpec.ofChange validWalksSpec)

/-- ITS FALSE NEIGHBOUR: 'it returns false'. Refute it at one input. -/
def validWalksWrong : ChangeSpec := { name := "validWalks", fn := fun _ => fun
  | [d1, d2] => { results := [.lit (.bool false)], args := [d1, d2] }
  | _ => none }
def ValidWalksWrongFalsely : Prop := validWalksRow.holds Tryd.pinned (OpenSpec.ofChange validWalksWrong)

/-- 'blackboardlaw14.ValidSums': WHATEVER THE INPUT: true; the input reads as it did. -/
def validSumsSpec : ChangeSpec := { name := "validSums", fn := fun _ => fun
  | [d1, d2, d3] => { results := [.lit (.bool true)], args := [d1, d2, d3] }
  | _ => none }
def validSumsRow : OpenClaim := { program := "ytkkjfooijegpoaadoor", sum := "50f838773e0faa9822c56fe36257e17dea9c8ad95268edada29b79a6df5f1d49", func := "blackboard/blackboardlaw14.ValidSums", spec := "validSums", named := ["math/bits.deBruijn64tab"], apart := false, laid := [("math/bits.deBruijn64tab", laid_math_bits_deBruijn64tab)] }
def ValidSumsSaid : Prop := validSumsRow.holds Tryd.pinned (OpenSpec.ofChange validSumsSpec)

/-- ITS FALSE NEIGHBOUR: 'it returns false'. Refute it at one input. -/
def validSumsWrong : ChangeSpec := { name := "validSums", fn := fun _ => fun
  | [d1, d2, d3] => { results := [.lit (.bool false)], args := [d1, d2, d3] }
  | _ => none }
def ValidSumsWrongFalsely : Prop := validSumsRow.holds Tryd.pinned (OpenSpec.ofChange validSumsWrong)

/-- 'blackboardlaw14.ValidKnown': WHATEVER THE INPUT: true; the input reads as it did. -/
def validKnownSpec : ChangeSpec := { name := "validKnown", fn := fun _ => fun
  | [] => { results := [.lit (.bool true)], args := [] }
  | _ => none }
def validKnownRow : OpenClaim := { program := "ytkkjfooijegpoaadoor", sum := "50f838773e0faa9822c56fe36257e17dea9c8ad95268edada29b79a6df5f1d49", func := "blackboard/blackboardlaw14.ValidKnown", spec := "validKnown", named := ["math/bits.deBruijn64tab"], apart := false, laid := [("math/bits.deBruijn64tab", laid_math_bits_deBruijn64tab)] }
def ValidKnownSaid : Prop := validKnownRow.holds Tryd.pinned (OpenSpec.ofChange validKnownSpec)

/-- ITS FALSE NEIGHBOUR: 'it returns false'. Refute it at one input. -/
def validKnownWrong : ChangeSpec := { name := "validKnown", fn := fun _ => fun
  | [] => { results := [.lit (.bool false)], args := [] }
  | _ => none }
def ValidKnownWrongFalsely : Prop := validKnownRow.holds Tryd.pinned (OpenSpec.ofChange validKnownWrong)

/- THE SECOND FORM. 'bulk': how many values and letters a reading holds, each counted each time it is reached (what is shared counts as often as it is met; a slice's spare places count too). A statement '..UptoSaid' is the law's where the arguments, and the package variables that the reading takes, are together of bulk at most 1048576: NARROWER than '..Said'. Prove '..Said' where nothing that the law and all that it calls make is longer than what came in: it says more and counts as full. Else prove '..UptoSaid'. A law counts once. -/
mutual
def uptoBulk {H : Type} : DataW H → Nat
  | .lit (.string bytes) => bytes.length + 1
  | .lit _ => 1
  | .nil => 1
  | .ptr d => uptoBulk d + 1
  | .slice elems spare => uptoBulkAll elems + uptoBulkAll spare + 1
  | .agg parts => uptoBulkAll parts + 1
  | .iface _ d => uptoBulk d + 1
  | .map entries => uptoBulkEntries entries + 1
  | .held _ => 1
def uptoBulkAll {H : Type} : List (DataW H) → Nat
  | [] => 0
  | d :: r => uptoBulk d + uptoBulkAll r
def uptoBulkEntries {H : Type} : List (Lit × DataW H) → Nat
  | [] => 0
  | x :: r => uptoBulkEntry x + uptoBulkEntries r
def uptoBulkEntry {H : Type} : Lit × DataW H → Nat
  | (.string bytes, d) => bytes.length + uptoBulk d + 1
  | (_, d) => uptoBulk d + 1
 end
def uptoSmall : (H : Type) → List (DataW H) → Bool := fun _ ds => decide (uptoBulkAll ds ≤ 1048576)
def OpenSpec.upto (s : _root_.Go.ChangeSpec) : _root_.Go.OpenSpec := { _root_.Go.OpenSpec.ofChange s with cond := some uptoSmall }

/-- 'blackboardlaw14.ValidPlays', WHERE WHAT IT READS IS OF BULK AT MOST 1048576: true; the input reads as it did. -/
def validPlaysUptoRow : OpenClaim := { program := "ytkkjfooijegpoaadoor", sum := "50f838773e0faa9822c56fe36257e17dea9c8ad95268edada29b79a6df5f1d49", func := "blackboard/blackboardlaw14.ValidPlays", spec := "validPlays", named := ["math/bits.deBruijn64tab"], apart := false, laid := [("math/bits.deBruijn64tab", laid_math_bits_deBruijn64tab)], narrowed := true }
def ValidPlaysUptoSaid : Prop := validPlaysUptoRow.holds Tryd.pinned (OpenSpec.upto validPlaysSpec)

/-- 'blackboardlaw14.ValidWalks', WHERE WHAT IT READS IS OF BULK AT MOST 1048576: true; the input reads as it did. -/
def validWalksUptoRow : OpenClaim := { program := "ytkkjfooijegpoaadoor", sum := "50f838773e0faa9822c56fe36257e17dea9c8ad95268edada29b79a6df5f1d49", func := "blackboard/blackboardlaw14.ValidWalks", spec := "validWalks", named := ["math/bits.deBruijn64tab"], apart := false, laid := [("math/bits.deBruijn64tab", laid_math_bits_deBruijn64tab)], narrowed := true }
def ValidWalksUptoSaid : Prop := validWalksUptoRow.holds Tryd.pinned (OpenSpec.upto validWalksSpec)

/-- 'blackboardlaw14.ValidSums', WHERE WHAT IT READS IS OF BULK AT MOST 1048576: true; the input reads as it did. -/
def validSumsUptoRow : OpenClaim := { program := "ytkkjfooijegpoaadoor", sum := "50f838773e0faa9822c56fe36257e17dea9c8ad95268edada29b79a6df5f1d49", func := "blackboard/blackboardlaw14.ValidSums", spec := "validSums", named := ["math/bits.deBruijn64tab"], apart := false, laid := [("math/bits.deBruijn64tab", laid_math_bits_deBruijn64tab)], narrowed := true }
def ValidSumsUptoSaid : Prop := validSumsUptoRow.holds Tryd.pinned (OpenSpec.upto validSumsSpec)

/-- 'blackboardlaw14.ValidKnown', WHERE WHAT IT READS IS OF BULK AT MOST 1048576: true; the input reads as it did. -/
def validKnownUptoRow : OpenClaim := { program := "ytkkjfooijegpoaadoor", sum := "50f838773e0faa9822c56fe36257e17dea9c8ad95268edada29b79a6df5f1d49", func := "blackboard/blackboardlaw14.ValidKnown", spec := "validKnown", named := ["math/bits.deBruijn64tab"], apart := false, laid := [("math/bits.deBruijn64tab", laid_math_bits_deBruijn64tab)], narrowed := true }
def ValidKnownUptoSaid : Prop := validKnownUptoRow.holds Tryd.pinned (OpenSpec.upto validKnownSpec)

end Rows
end Go.Proofs.YtkkjfooijegpoaaDoor
