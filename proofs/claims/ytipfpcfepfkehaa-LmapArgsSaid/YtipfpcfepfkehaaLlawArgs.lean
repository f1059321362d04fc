/- The walk of blackboardlaw15.LmapArgs: it answers true, and leaves alone what was there. -/
import Derived.Test.YtipfpcfepfkehaaLm4
namespace Go.Proofs.Ytipfpcfepfkehaa
open Go.RowKit

theorem new_bad (l p : Int) (w : World) (h : l < 0 ∨ 1048576 < l ∨ (0 ≤ l ∧ l ≤ 1048576 ∧ (p < 0 ∨ 1048576 < p))) :
    Calls Try.prog 6 #[.int .i64 l, .int .i64 p] w fun e w' => e = .returned (.tuple #[.pointer none, .int .i64 1]) ∧ w = w' := by
  rcases h with h | h | ⟨h1, h2, h | h⟩
  all_goals
    go_enter Try.func6, Try.ntmps6
    go_wp2
    go_ret2
    exact ⟨rfl, rfl⟩

set_option maxHeartbeats 2000000 in
theorem args_true (l p : Int) (w : World) :
    Calls Try.prog 3 #[.int .i64 l, .int .i64 p] w fun e w' => e = .returned (.bool true) ∧ Keep (fun _ => False) w w' := by
  rcases (show (2000 < l ∧ l ≤ 1048576) ∨ (l < 0 ∨ (0 ≤ l ∧ l ≤ 2000) ∨ 1048576 < l) by omega) with ⟨h1, h2⟩ | hl
  · go_enter Try.func3, Try.ntmps3
    go_wp2_with fail
    refine (lawake_true w).mono ?_
    rintro e w0 ⟨rfl, k0⟩
    go_wp2_with fail
    go_ret
    exact ⟨rfl, k0⟩
  rcases (show (2000 < p ∧ p ≤ 1048576) ∨ (p < 0 ∨ (0 ≤ p ∧ p ≤ 2000) ∨ 1048576 < p) by omega) with ⟨h1, h2⟩ | hp
  · rcases hl with hl | ⟨hl, hl2⟩ | hl
    all_goals
      go_enter Try.func3, Try.ntmps3
      go_wp2_with fail
      refine (lawake_true w).mono ?_
      rintro e w0 ⟨rfl, k0⟩
      go_wp2_with fail
      go_ret
      exact ⟨rfl, k0⟩
  by_cases hg : (0 ≤ l ∧ l ≤ 2000) ∧ (0 ≤ p ∧ p ≤ 2000)
  · obtain ⟨⟨a1, a2⟩, a3, a4⟩ := hg
    clear hl hp
    obtain ⟨L, rfl⟩ := Int.eq_ofNat_of_zero_le a1
    obtain ⟨P, rfl⟩ := Int.eq_ofNat_of_zero_le a3
    have b1 : decide ((L : Int) < 0) = false := by simp
    have b2 : decide ((P : Int) < 0) = false := by simp
    go_enter Try.func3, Try.ntmps3
    go_wp2_with fail
    refine (lawake_true w).mono ?_
    rintro e w0 ⟨rfl, k0⟩
    go_wp2_with fail
    refine (new_map L P (by omega) (by omega) w0).mono ?_
    rintro e w1 ⟨m, rfl, h1, k1, hL, hP, hnew⟩
    have kk := k0.trans k1 (fun i hi => .inl hi)
    go_wp2_with fail
    refine (put_range m _ _ L 0 w1 h1 (.inr (.inl (by omega)))).mono ?_
    rintro e w' ⟨rfl, rfl⟩
    go_wp2_with fail
    refine (put_range m _ _ 0 P w1 h1 (.inr (.inr (.inr (by omega))))).mono ?_
    rintro e w' ⟨rfl, rfl⟩
    go_wp2_with fail
    refine (get_no m _ _ L w1 h1 (.inr (.inl (by omega)))).mono ?_
    rintro e w' ⟨rfl, rfl⟩
    have e0 : (mny (fun _ => none) L : Int) = 0 := by
      have hh : ∀ n, mny (fun _ => none) n = 0 := fun n => by
        induction n with
        | zero => rfl
        | succ n ih => simp [mny, ih]
      rw [hh]; rfl
    go_wp2_with fail
    refine (many_any m _ _ w1 h1).mono ?_
    rintro e w' ⟨rfl, rfl⟩
    go_wp2_with fail
    go_ret
    exact ⟨rfl, kk⟩
  · have hb : l < 0 ∨ 1048576 < l ∨ (0 ≤ l ∧ l ≤ 1048576 ∧ (p < 0 ∨ 1048576 < p)) := by omega
    have HB := Lib.hid hb
    clear hb
    rcases hl with hl | ⟨hl, hl2⟩ | hl
    · rcases hp with hp | ⟨hp, hp2⟩ | hp
      all_goals
        clear hg
        go_enter Try.func3, Try.ntmps3
        go_wp2_with fail
        refine (lawake_true w).mono ?_
        rintro e w0 ⟨rfl, k0⟩
        go_wp2_with fail
        refine (new_bad l p w0 HB.out).mono ?_
        rintro e w' ⟨rfl, rfl⟩
        go_wp2_with fail
        go_ret
        exact ⟨rfl, k0⟩
    · rcases (show p < 0 ∨ 1048576 < p by omega) with hp | hp
      all_goals
        clear hg
        go_enter Try.func3, Try.ntmps3
        go_wp2_with fail
        refine (lawake_true w).mono ?_
        rintro e w0 ⟨rfl, k0⟩
        go_wp2_with fail
        refine (new_bad l p w0 HB.out).mono ?_
        rintro e w' ⟨rfl, rfl⟩
        go_wp2_with fail
        go_ret
        exact ⟨rfl, k0⟩
    · rcases hp with hp | ⟨hp, hp2⟩ | hp
      all_goals
        clear hg
        go_enter Try.func3, Try.ntmps3
        go_wp2_with fail
        refine (lawake_true w).mono ?_
        rintro e w0 ⟨rfl, k0⟩
        go_wp2_with fail
        refine (new_bad l p w0 HB.out).mono ?_
        rintro e w' ⟨rfl, rfl⟩
        go_wp2_with fail
        go_ret
        exact ⟨rfl, k0⟩
end Go.Proofs.Ytipfpcfepfkehaa
