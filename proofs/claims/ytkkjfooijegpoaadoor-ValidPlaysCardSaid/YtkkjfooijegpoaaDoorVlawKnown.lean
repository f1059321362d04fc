/- The walk of blackboardlaw14.ValidKnown: it answers true, and leaves alone what was there. -/
import Derived.Test.YtkkjfooijegpoaaDoorVb5
namespace Go.Proofs.YtkkjfooijegpoaaDoor
open Go.RowKit

theorem IsBits.keep {S : Nat → Prop} {w w' : World} {pb sb n : Nat} {f : Nat → Bool} (h : IsBits w pb sb n f) (hk : Keep S w w') (hp : ¬ S pb) (hs : ¬ S sb) : IsBits w' pb sb n f :=
  ⟨h.hn, h.hp.keep hk hp, h.hs.keep hk hs, h.hf⟩

theorem known_true (w : World) (hT : TabAt 0 Lib.deBruijn64tab w) :
    Calls Tryd.prog 6 #[] w fun e w' => e = .returned (.bool true) ∧ Keep (fun _ => False) w w' := by
  have hlt := tab_lt hT
  go_enter Tryd.func6, Tryd.ntmps6
  go_wp2_with fail
  refine (awake_true w hT).mono ?_
  rintro e w0 ⟨rfl, k0⟩
  have hT0 := tab_keep hT k0 (by simp)
  have z0 := k0.size
  go_wp2_with fail
  refine (new_any 130 130 w0 (.inr (.inl ⟨rfl, by decide⟩))).mono ?_
  rintro e w1 ⟨rfl, b1, k1⟩
  have hT1 := tab_keep hT0 k1 (by simp)
  have z1 := b1.hp.lt
  go_wp2_with fail
  refine (new_any (-5) 0 w1 (.inl ⟨by decide, rfl⟩)).mono ?_
  rintro e w2 ⟨rfl, c2, k2⟩
  have b2 := b1.keep k2 (by simp) (by simp)
  have hT2 := tab_keep hT1 k2 (by simp)
  have z2 := c2.hp.lt
  go_wp2_with fail
  refine (set_flip _ _ 130 _ 63 true w2 b2 (by decide) (by decide)).mono ?_
  rintro e w3 ⟨rfl, b3, k3⟩
  have c3 := c2.keep k3 (by omega) (by omega)
  have hT3 := tab_keep hT2 k3 (by omega)
  go_wp2_with fail
  refine (set_flip _ _ 130 _ 64 true w3 b3 (by decide) (by decide)).mono ?_
  rintro e w4 ⟨rfl, b4, k4⟩
  have c4 := c3.keep k4 (by omega) (by omega)
  have hT4 := tab_keep hT3 k4 (by omega)
  go_wp2_with fail
  refine (set_flip _ _ 130 _ 129 true w4 b4 (by decide) (by decide)).mono ?_
  rintro e w5 ⟨rfl, b5, k5⟩
  have c5 := c4.keep k5 (by omega) (by omega)
  have hT5 := tab_keep hT4 k5 (by omega)
  go_wp2_with fail
  refine (set_not _ _ 130 _ 130 true w5 b5 (by decide)).mono ?_
  rintro e w' ⟨rfl, rfl⟩
  go_wp2_with fail
  refine (set_not _ _ 130 _ (-1) true w5 b5 (by decide)).mono ?_
  rintro e w' ⟨rfl, rfl⟩
  go_wp2_with fail
  refine (set_not _ _ 130 _ 64 true w5 b5 (by decide)).mono ?_
  rintro e w' ⟨rfl, rfl⟩
  go_wp2_with fail
  refine (next_yes _ _ 130 _ 65 129 w5 b5 hT5 (Lib.hid (by decide +kernel))).mono ?_
  rintro e w' ⟨rfl, rfl⟩
  go_wp2_with fail
  refine (next_no _ _ 130 _ 130 w5 b5 hT5 (Lib.hid (by decide +kernel))).mono ?_
  rintro e w' ⟨rfl, rfl⟩
  go_wp2_with fail
  refine (next_yes _ _ 130 _ (-9) 63 w5 b5 hT5 (Lib.hid (by decide +kernel))).mono ?_
  rintro e w' ⟨rfl, rfl⟩
  go_wp2_with fail
  refine (count_any _ _ 130 _ 63 65 w5 b5 hT5).mono ?_
  rintro e w' ⟨rfl, rfl⟩
  rw [show ((countN 130 (setF 130 (setF 130 (setF 130 (fun _ => false) (63 : Nat) true) (64 : Nat) true) (129 : Nat) true) 63 65 : Nat) : Int) = 2 by decide +kernel]
  go_wp2_with fail
  refine (count_any _ _ 130 _ (-5) 1000 w5 b5 hT5).mono ?_
  rintro e w' ⟨rfl, rfl⟩
  rw [show ((countN 130 (setF 130 (setF 130 (setF 130 (fun _ => false) (63 : Nat) true) (64 : Nat) true) (129 : Nat) true) (-5) 1000 : Nat) : Int) = 3 by decide +kernel]
  go_wp2_with fail
  refine (count_any _ _ 130 _ 64 64 w5 b5 hT5).mono ?_
  rintro e w' ⟨rfl, rfl⟩
  rw [show ((countN 130 (setF 130 (setF 130 (setF 130 (fun _ => false) (63 : Nat) true) (64 : Nat) true) (129 : Nat) true) 64 64 : Nat) : Int) = 0 by decide +kernel]
  go_wp2_with fail
  refine (len_any _ _ 0 _ w5 c5).mono ?_
  rintro e w' ⟨rfl, rfl⟩
  go_wp2_with fail
  refine (set_not _ _ 0 _ 0 true w5 c5 (by decide)).mono ?_
  rintro e w' ⟨rfl, rfl⟩
  go_wp2_with fail
  refine (new_any 1048583 1048576 w5 (.inr (.inr ⟨by decide, rfl⟩))).mono ?_
  rintro e w6 ⟨rfl, d6, k6⟩
  go_wp2_with fail
  refine (len_any _ _ 1048576 _ w6 d6).mono ?_
  rintro e w' ⟨rfl, rfl⟩
  go_wp2_with fail
  go_ret
  have e2 := (k0.trans k1 (fun i hi => .inl hi)).trans k2 (fun i hi => .inl hi)
  have e3 := (((e2.trans k3 (fun i hi => .inr (by omega))).trans k4 (fun i hi => .inr (by omega))).trans k5 (fun i hi => .inr (by omega))).trans k6 (fun i hi => .inl hi)
  exact ⟨rfl, e3⟩
end Go.Proofs.YtkkjfooijegpoaaDoor
