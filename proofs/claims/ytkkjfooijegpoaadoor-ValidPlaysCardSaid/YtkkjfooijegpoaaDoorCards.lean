/-
  DERIVED. GIVEN WITH THE SEED: THE CARDS: each row of YtkkjfooijegpoaaDoorRows.lean that lists a variable, with what it lists TIED to the program's text (the seventh form; the later family's looks); each row that meets fmt, with fmt's text TOLD by the authors' own Lean function (tested against real Go, not proved from fmt's source: count such statements apart). THE CARD IS WHAT COUNTS. Prove the row's statement (the work); the ties are given (YtkkjfooijegpoaaDoorTie.lean); close each card by the builder's one call (the guide's Derived/Test/ToyasCard.lean, 'card_holds'). Laid BY PROGRAM, IN A SANDBOX (cutbox-door.mjs). By AI agents, Wed Nov 11 2026. No macro, syntax, notation, axiom, sorry.
-/
import Derived.Test.YtkkjfooijegpoaaDoorRows
import GoSem.ClaimSeven
namespace Go.Proofs.YtkkjfooijegpoaaDoor
namespace Rows

/-- THE TIED CARD OF 'blackboardlaw14.ValidPlays'. -/
def validPlaysCard : Claim7 := { stood := { row := validPlaysRow, standIns := [], harness := (true, "720f905313f34f49115395e0b3803214f601294f7c2dfe11de2bf8227e95d1cf"), looks := false }, kinds := [], alts := [], laidByText := true, laidKinds := [.data], laidTests := true, laidLooks := .later }
def ValidPlaysCardSaid : Prop := Claim7.holds Tryd.pinned (.plain (OpenSpec.ofChange validPlaysSpec)) validPlaysCard

/-- THE TIED CARD OF 'blackboardlaw14.ValidWalks'. -/
def validWalksCard : Claim7 := { stood := { row := validWalksRow, standIns := [], harness := (true, "720f905313f34f49115395e0b3803214f601294f7c2dfe11de2bf8227e95d1cf"), looks := false }, kinds := [], alts := [], laidByText := true, laidKinds := [.data], laidTests := true, laidLooks := .later }
def ValidWalksCardSaid : Prop := Claim7.holds Tryd.pinned (.plain (OpenSpec.ofChange validWalksSpec)) validWalksCard

/-- THE TIED CARD OF 'blackboardlaw14.ValidSums'. -/
def validSumsCard : Claim7 := { stood := { row := validSumsRow, standIns := [], harness := (true, "720f905313f34f49115395e0b3803214f601294f7c2dfe11de2bf8227e95d1cf"), looks := false }, kinds := [], alts := [], laidByText := true, laidKinds := [.data], laidTests := true, laidLooks := .later }
def ValidSumsCardSaid : Prop := Claim7.holds Tryd.pinned (.plain (OpenSpec.ofChange validSumsSpec)) validSumsCard

/-- THE TIED CARD OF 'blackboardlaw14.ValidKnown'. -/
def validKnownCard : Claim7 := { stood := { row := validKnownRow, standIns := [], harness := (true, "720f905313f34f49115395e0b3803214f601294f7c2dfe11de2bf8227e95d1cf"), looks := false }, kinds := [], alts := [], laidByText := true, laidKinds := [.data], laidTests := true, laidLooks := .later }
def ValidKnownCardSaid : Prop := Claim7.holds Tryd.pinned (.plain (OpenSpec.ofChange validKnownSpec)) validKnownCard

/-- THE SECOND FORM's CARD OF 'blackboardlaw14.ValidPlays'. -/
def validPlaysUptoCard : Claim7 := { stood := { row := validPlaysUptoRow, standIns := [], harness := (true, "720f905313f34f49115395e0b3803214f601294f7c2dfe11de2bf8227e95d1cf"), looks := false }, kinds := [], alts := [], laidByText := true, laidKinds := [.data], laidTests := true, laidLooks := .later }
def ValidPlaysUptoCardSaid : Prop := Claim7.holds Tryd.pinned (.plain (OpenSpec.upto validPlaysSpec)) validPlaysUptoCard

/-- THE SECOND FORM's CARD OF 'blackboardlaw14.ValidWalks'. -/
def validWalksUptoCard : Claim7 := { stood := { row := validWalksUptoRow, standIns := [], harness := (true, "720f905313f34f49115395e0b3803214f601294f7c2dfe11de2bf8227e95d1cf"), looks := false }, kinds := [], alts := [], laidByText := true, laidKinds := [.data], laidTests := true, laidLooks := .later }
def ValidWalksUptoCardSaid : Prop := Claim7.holds Tryd.pinned (.plain (OpenSpec.upto validWalksSpec)) validWalksUptoCard

/-- THE SECOND FORM's CARD OF 'blackboardlaw14.ValidSums'. -/
def validSumsUptoCard : Claim7 := { stood := { row := validSumsUptoRow, standIns := [], harness := (true, "720f905313f34f49115395e0b3803214f601294f7c2dfe11de2bf8227e95d1cf"), looks := false }, kinds := [], alts := [], laidByText := true, laidKinds := [.data], laidTests := true, laidLooks := .later }
def ValidSumsUptoCardSaid : Prop := Claim7.holds Tryd.pinned (.plain (OpenSpec.upto validSumsSpec)) validSumsUptoCard

/-- THE SECOND FORM's CARD OF 'blackboardlaw14.ValidKnown'. -/
def validKnownUptoCard : Claim7 := { stood := { row := validKnownUptoRow, standIns := [], harness := (true, "720f905313f34f49115395e0b3803214f601294f7c2dfe11de2bf8227e95d1cf"), looks := false }, kinds := [], alts := [], laidByText := true, laidKinds := [.data], laidTests := true, laidLooks := .later }
def ValidKnownUptoCardSaid : Prop := Claim7.holds Tryd.pinned (.plain (OpenSpec.upto validKnownSpec)) validKnownUptoCard
end Rows
end Go.Proofs.YtkkjfooijegpoaaDoor
