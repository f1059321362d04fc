/- What the rows of this seat share: the table of math/bits that they list. -/
import Derived.Test.YtipfpcfepfkehaaDoorCards
import Derived.Test.YtipfpcfepfkehaaDoorTie
import Derived.Test.YtipfpcfepfkehaaDoorLcount
import Derived.Test.YtipfpcfepfkehaaDoorLaw
import Derived.WalkKit
import Derived.ProofKit
import Derived.OpenShut
import Derived.Deep.DeepHandedRow
import Derived.Lib.LaidTab
namespace Go.Proofs.YtipfpcfepfkehaaDoor
open Go.ChangeShapes Go.WideShapes Go.ChangeAt Go.RowKit

theorem own : ownKnob Tryd.prog.godebug = none := by kernel_rfl
theorem laidOut : laidOutB Tryd.prog = true := by kernel_rfl
theorem gTab : Tryd.prog.globalNamed "math/bits.deBruijn64tab" = some 0 := by kernel_rfl
theorem gTabType : (Tryd.prog.globals[0]?).map (·.type) = some 59 := by kernel_rfl
theorem cellsTab : Tryd.prog.cellsOf 59 = 64 := by kernel_rfl
theorem cellsU8 : Tryd.prog.cellsOf 5 = 1 := by kernel_rfl
def tabInts : List Int := List.map Int.ofNat Lib.deBruijn64tab

/-- What the rows' list gives: the table's cells hold its numbers. -/
theorem tabAt {W : World} (h : laidMetH Tryd.prog [("math/bits.deBruijn64tab", Rows.laid_math_bits_deBruijn64tab)] W) : TabAt 0 Lib.deBruijn64tab W := by
  have h1 : Lib.TabIs Tryd.prog W "math/bits.deBruijn64tab" .u8 tabInts :=
    Lib.tabIs_of_head (rest := []) gTab gTabType Tryd.underlying59 Tryd.underlying5 cellsU8 cellsTab h
  intro j hj
  have h2 := h1.cell gTab j (by simpa [tabInts] using hj)
  rw [h2]
  simp [tabInts, List.getD, hj]

/-- A world for the witness: the settled one, the table holding what its initialiser lays. -/
noncomputable def laidWorld (os : Os) : World :=
  { World.holding Tryd.prog os ⟨#[], #[], []⟩ with heap := (World.holding Tryd.prog os ⟨#[], #[], []⟩).heap.modify 0 fun
      | .cells _ t frozen => .cells (tabInts.map fun n => Value.int .u8 n).toArray t frozen
      | o => o }
end Go.Proofs.YtipfpcfepfkehaaDoor
