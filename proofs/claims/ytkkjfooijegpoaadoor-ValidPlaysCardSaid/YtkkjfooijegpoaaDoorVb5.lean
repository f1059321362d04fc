/- awake of blackboardlaw14 answers true. -/
import Derived.Test.YtkkjfooijegpoaaDoorVb4
namespace Go.Proofs.YtkkjfooijegpoaaDoor
open Go.RowKit

theorem tab_lt {w : World} (h : TabAt 0 Lib.deBruijn64tab w) : 0 < w.heap.size := World.block_lt_of_cell? w ⟨0, 0, none⟩ (h 0 (by decide))
theorem tab_keep {S : Nat → Prop} {w w' : World} (h : TabAt 0 Lib.deBruijn64tab w) (hk : Keep S w w') (hn : ¬ S 0) : TabAt 0 Lib.deBruijn64tab w' :=
  fun j hj => (hk.cell (p := ⟨0, j, none⟩) (tab_lt h) hn).trans (h j hj)

theorem awake_true (w : World) (hT : TabAt 0 Lib.deBruijn64tab w) :
    Calls Tryd.prog 7 #[] w fun e w' => e = .returned (.bool true) ∧ Keep (fun _ => False) w w' := by
  have hlt := tab_lt hT
  go_enter Tryd.func7, Tryd.ntmps7
  go_wp2_with fail
  refine (new_any 9 9 w (.inr (.inl ⟨rfl, by decide⟩))).mono ?_
  rintro e w1 ⟨rfl, h1, k1⟩
  have hT1 := tab_keep hT k1 (by simp)
  go_wp2_with fail
  refine (set_flip _ _ 9 _ 3 true w1 h1 (by decide) (by decide)).mono ?_
  rintro e w2 ⟨rfl, h2, k2⟩
  have hT2 := tab_keep hT1 k2 (by omega)
  go_wp2_with fail
  refine (next_yes _ _ 9 _ 0 3 w2 h2 hT2 (Lib.hid (by decide))).mono ?_
  rintro e w' ⟨rfl, rfl⟩
  have hc : countN 9 (setF 9 (fun _ => false) (3 : Nat) true) 0 9 = 1 := by decide
  have hb : hasB 9 (setF 9 (fun _ => false) (3 : Nat) true) 3 = true := by decide
  go_wp2_with (first | (go_at_call 11; refine (count_any _ _ 9 _ 0 9 w2 h2 hT2).mono ?_; rintro e w' ⟨rfl, rfl⟩) | (go_at_call 10; refine (has_any _ _ 9 _ 3 w2 h2).mono ?_; rintro e w' ⟨rfl, rfl⟩) | (go_at_call 13; refine (len_any _ _ 9 _ w2 h2).mono ?_; rintro e w' ⟨rfl, rfl⟩))
  go_ret
  exact ⟨rfl, k1.trans k2 (fun i hi => .inr (by omega))⟩
end Go.Proofs.YtkkjfooijegpoaaDoor
