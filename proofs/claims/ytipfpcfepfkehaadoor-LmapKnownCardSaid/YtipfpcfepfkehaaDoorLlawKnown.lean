/- The walk of blackboardlaw15.LmapKnown: it answers true, and leaves alone what was there. -/
import Derived.Test.YtipfpcfepfkehaaDoorLcount
namespace Go.Proofs.YtipfpcfepfkehaaDoor
open Go.RowKit

theorem mny_ext {A B : Nat → Option Nat} (n : Nat) (h : ∀ i, i < n → (A i).isSome = (B i).isSome) : mny A n = mny B n := by
  induction n with
  | zero => rfl
  | succ n ih =>
    unfold mny
    rw [ih (fun i hi => h i (by omega)), h n (by omega)]

set_option maxHeartbeats 2000000 in
theorem lknown_true (w : World) (hT : TabAt 0 Lib.deBruijn64tab w) :
    Calls Tryd.prog 5 #[] w fun e w' => e = .returned (.bool true) ∧ Keep (fun _ => False) w w' := by
  go_enter Tryd.func5, Tryd.ntmps5
  go_wp2_with fail
  refine (lawake_true w).mono ?_
  rintro e w0 ⟨rfl, k0⟩
  go_wp2_with fail
  refine (new_map 3 4 (by decide) (by decide) w0).mono ?_
  rintro e w1 ⟨m, rfl, h1, k1, hL, hP, hn⟩
  have z0 := k0.size
  have hnew : NewLM w m := by
    obtain ⟨n1, n2, n3, n4, n5⟩ := hn
    exact ⟨by omega, by omega, by omega, by omega, by omega⟩
  have e1 := k0.trans k1 (fun i hi => .inl hi)
  go_wp2_with fail
  refine (put_free m _ _ 0 2 w1 h1 (by omega) (by omega) (Lib.hid rfl)).mono ?_
  rintro e w2 ⟨rfl, ⟨O2, h2⟩, k2⟩
  have e2 := NewLM.trans hnew e1 k2
  rw [show optI ((fun _ => none : Nat → Option Nat) 0) = -1 from rfl]
  go_wp2_with fail
  refine (put_same m _ _ 0 2 w2 h2 (Lib.hid rfl)).mono ?_
  rintro e w' ⟨rfl, rfl⟩
  have HO2 : Hid (O2 2 = some 0) := Lib.hid ((h2.con 0 2).1 rfl)
  go_wp2_with fail
  refine (put_other m _ _ 1 2 0 w2 h2 (by omega) (by omega) HO2 (by omega)).mono ?_
  rintro e w' ⟨rfl, rfl⟩
  have HO3 : Hid (O2 3 = none) := Lib.hid (own_none h2.con (fun l => by unfold updO; split <;> simp))
  go_wp2_with fail
  refine (put_free m _ _ 1 3 w2 h2 (by omega) (by omega) HO3).mono ?_
  rintro e w3 ⟨rfl, ⟨O3, h3⟩, k3⟩
  have e3 := NewLM.trans hnew e2 k3
  rw [show optI (updO (fun _ => none) 0 (some 2) 1) = -1 from rfl]
  go_wp2_with fail
  refine (drop_yes m _ _ 0 2 w3 h3 (Lib.hid rfl)).mono ?_
  rintro e w4 ⟨rfl, h4, k4⟩
  have e4 := NewLM.trans hnew e3 k4
  have HO5 : Hid (updO O3 2 none 2 = none) := Lib.hid rfl
  go_wp2_with fail
  refine (put_free m _ _ 1 2 w4 h4 (by omega) (by omega) HO5).mono ?_
  rintro e w5 ⟨rfl, ⟨O5, h5⟩, k5⟩
  have e5 := NewLM.trans hnew e4 k5
  rw [show optI (updO (updO (updO (fun _ => none) 0 (some 2)) 1 (some 3)) 0 none 1) = 3 from rfl]
  have hT5 := tab_keep hT e5 (by simp)
  go_wp2_with fail
  refine (drop_no m _ _ 0 w5 h5 (.inr (.inr (Lib.hid rfl)))).mono ?_
  rintro e w' ⟨rfl, rfl⟩
  have hA : ∀ i, updO (updO (updO (updO (fun _ => none) 0 (some 2)) 1 (some 3)) 0 none) 1 (some 2) i = if i = 1 then some 2 else none := by
    intro i
    by_cases h1 : i = 1 <;> by_cases h0 : i = 0 <;> simp [updO, h1, h0]
  have hO : ∀ p, (O5 p).isSome = (p == 2) := by
    intro p
    by_cases hp : p = 2
    · subst hp
      rw [(h5.con 1 2).1 rfl]
      rfl
    · rw [own_none h5.con (p := p) (fun l => by
        rw [hA l]
        split
        · intro e; exact hp (Option.some.inj e).symm
        · simp)]
      simp [hp]
  have HO6 : Hid (O5 (3 : Int).toNat = none) := Lib.hid (own_none h5.con (fun l => by
    rw [hA l]
    split <;> simp))
  have hcnt : ∀ a b, countN m.P (fun p => (O5 p).isSome) a b = countN 4 (fun p => p == 2) a b := fun a b => by
    rw [hP]
    congr 1
    funext p
    exact hO p
  have hmn : (mny (updO (updO (updO (updO (fun _ => none) 0 (some 2)) 1 (some 3)) 0 none) 1 (some 2)) m.L : Int) = 1 := by rw [hL]; rfl
  have HC := Lib.hid hcnt
  have HM := Lib.hid hmn
  clear hA hO hcnt hmn
  go_wp2_with fail
  refine (owner_no m _ _ 3 w5 h5 (.inr (.inr HO6))).mono ?_
  rintro e w' ⟨rfl, rfl⟩
  go_wp2_with fail
  refine (many_any m _ _ w5 h5).mono ?_
  rintro e w' ⟨rfl, rfl⟩
  rw [HM.out]
  go_wp2_with fail
  refine (lcount_any m _ _ 0 4 w5 h5 hT5).mono ?_
  rintro e w' ⟨rfl, rfl⟩
  rw [HC.out, show ((countN 4 (fun p => p == 2) 0 4 : Nat) : Int) = 1 by decide]
  go_wp2_with fail
  refine (lcount_any m _ _ 3 4 w5 h5 hT5).mono ?_
  rintro e w' ⟨rfl, rfl⟩
  rw [HC.out, show ((countN 4 (fun p => p == 2) 3 4 : Nat) : Int) = 0 by decide]
  go_wp2_with fail
  go_ret
  exact ⟨rfl, e5⟩
end Go.Proofs.YtipfpcfepfkehaaDoor
