/-
  DERIVED. GIVEN WITH THE SEED: THE CARDS: each row of YtipfpcfepfkehaaDoorRows.lean that lists a variable, with what it lists TIED to the program's text (the seventh form; the later family's looks); each row that meets fmt, with fmt's text TOLD by the authors' own Lean function (tested against real Go, not proved from fmt's source: count such statements apart). THE CARD IS WHAT COUNTS. Prove the row's statement (the work); the ties are given (YtipfpcfepfkehaaDoorTie.lean); close each card by the builder's one call (the guide's Derived/Test/ToyasCard.lean, 'card_holds'). Laid BY PROGRAM, IN A SANDBOX (cutbox-door.mjs). By AI agents, Wed Nov 11 2026. No macro, syntax, notation, axiom, sorry.
-/
import Derived.Test.YtipfpcfepfkehaaDoorRows
import GoSem.ClaimSeven
namespace Go.Proofs.YtipfpcfepfkehaaDoor
namespace Rows

/-- THE TIED CARD OF 'blackboardlaw15.LmapPlays'. -/
def lmapPlaysCard : Claim7 := { stood := { row := lmapPlaysRow, standIns := [], harness := (true, "a6a4ff59a02f3dffaf7640dd68c950569d669a46e1272d9c6e7bd0cbcd09a781"), looks := false }, kinds := [], alts := [], laidByText := true, laidKinds := [.data], laidTests := true, laidLooks := .later }
def LmapPlaysCardSaid : Prop := Claim7.holds Tryd.pinned (.plain (OpenSpec.ofChange lmapPlaysSpec)) lmapPlaysCard

/-- THE TIED CARD OF 'blackboardlaw15.LmapWays'. -/
def lmapWaysCard : Claim7 := { stood := { row := lmapWaysRow, standIns := [], harness := (true, "a6a4ff59a02f3dffaf7640dd68c950569d669a46e1272d9c6e7bd0cbcd09a781"), looks := false }, kinds := [], alts := [], laidByText := true, laidKinds := [.data], laidTests := true, laidLooks := .later }
def LmapWaysCardSaid : Prop := Claim7.holds Tryd.pinned (.plain (OpenSpec.ofChange lmapWaysSpec)) lmapWaysCard

/-- THE TIED CARD OF 'blackboardlaw15.LmapKnown'. -/
def lmapKnownCard : Claim7 := { stood := { row := lmapKnownRow, standIns := [], harness := (true, "a6a4ff59a02f3dffaf7640dd68c950569d669a46e1272d9c6e7bd0cbcd09a781"), looks := false }, kinds := [], alts := [], laidByText := true, laidKinds := [.data], laidTests := true, laidLooks := .later }
def LmapKnownCardSaid : Prop := Claim7.holds Tryd.pinned (.plain (OpenSpec.ofChange lmapKnownSpec)) lmapKnownCard

/-- THE SECOND FORM's CARD OF 'blackboardlaw15.LmapPlays'. -/
def lmapPlaysUptoCard : Claim7 := { stood := { row := lmapPlaysUptoRow, standIns := [], harness := (true, "a6a4ff59a02f3dffaf7640dd68c950569d669a46e1272d9c6e7bd0cbcd09a781"), looks := false }, kinds := [], alts := [], laidByText := true, laidKinds := [.data], laidTests := true, laidLooks := .later }
def LmapPlaysUptoCardSaid : Prop := Claim7.holds Tryd.pinned (.plain (OpenSpec.upto lmapPlaysSpec)) lmapPlaysUptoCard

/-- THE SECOND FORM's CARD OF 'blackboardlaw15.LmapWays'. -/
def lmapWaysUptoCard : Claim7 := { stood := { row := lmapWaysUptoRow, standIns := [], harness := (true, "a6a4ff59a02f3dffaf7640dd68c950569d669a46e1272d9c6e7bd0cbcd09a781"), looks := false }, kinds := [], alts := [], laidByText := true, laidKinds := [.data], laidTests := true, laidLooks := .later }
def LmapWaysUptoCardSaid : Prop := Claim7.holds Tryd.pinned (.plain (OpenSpec.upto lmapWaysSpec)) lmapWaysUptoCard

/-- THE SECOND FORM's CARD OF 'blackboardlaw15.LmapKnown'. -/
def lmapKnownUptoCard : Claim7 := { stood := { row := lmapKnownUptoRow, standIns := [], harness := (true, "a6a4ff59a02f3dffaf7640dd68c950569d669a46e1272d9c6e7bd0cbcd09a781"), looks := false }, kinds := [], alts := [], laidByText := true, laidKinds := [.data], laidTests := true, laidLooks := .later }
def LmapKnownUptoCardSaid : Prop := Claim7.holds Tryd.pinned (.plain (OpenSpec.upto lmapKnownSpec)) lmapKnownUptoCard
end Rows
end Go.Proofs.YtipfpcfepfkehaaDoor
