/- Contract of package lmap: Count; the table of math/bits in a later world. -/
import Derived.Test.YtipfpcfepfkehaaDoorLm4
import Derived.Test.YtipfpcfepfkehaaDoorVcount
namespace Go.Proofs.YtipfpcfepfkehaaDoor
open Go.RowKit

theorem tab_lt {w : World} (h : TabAt 0 Lib.deBruijn64tab w) : 0 < w.heap.size := World.block_lt_of_cell? w ⟨0, 0, none⟩ (h 0 (by decide))
theorem tab_keep {S : Nat → Prop} {w w' : World} (h : TabAt 0 Lib.deBruijn64tab w) (hk : Keep S w w') (hn : ¬ S 0) : TabAt 0 Lib.deBruijn64tab w' :=
  fun j hj => (hk.cell (p := ⟨0, j, none⟩) (tab_lt h) hn).trans (h j hj)

theorem lcount_any (m : LM) (A O : Nat → Option Nat) (a b : Int) (w : World) (h : IsMap m A O w) (hT : TabAt 0 Lib.deBruijn64tab w) :
    Calls Tryd.prog 16 #[.pointer (some ⟨m.mb, 0, none⟩), .int .i64 a, .int .i64 b] w fun e w' => e = .returned (.int .i64 (countN m.P (fun p => (O p).isSome) a b)) ∧ w = w' := by
  have c2 := h.raw.c2
  go_enter Tryd.func16, Tryd.ntmps16
  go_wp2_with fail
  refine (count_any _ _ _ _ _ _ _ h.raw.hb hT).mono ?_
  rintro e w' ⟨rfl, rfl⟩
  go_wp2_with fail
  go_ret
  exact ⟨rfl, rfl⟩
end Go.Proofs.YtipfpcfepfkehaaDoor
