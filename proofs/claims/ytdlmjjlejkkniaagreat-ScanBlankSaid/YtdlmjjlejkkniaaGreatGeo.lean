/- The functions of geo. -/
import Derived.Test.YtdlmjjlejkkniaaGreatBase
import Derived.Deep.QuietTactic
namespace Go.Proofs.YtdlmjjlejkkniaaGreat
open Go.RowKit

/-- Which geometries may be. -/
structure GeoOk (B P W K : Int) : Prop where
  b0 : 4 ≤ B
  b1 : B ≤ 64
  p0 : 2 ≤ P
  p1 : P ≤ 32
  w0 : 1 ≤ W
  w1 : W ≤ 4
  k0 : 1 ≤ K
  k1 : K ≤ 64
  wk : 8 < W * K
abbrev geoV (B P W K : Int) : Value := .agg #[.int .i64 B, .int .i64 P, .int .i64 W, .int .i64 K]
instance (B P W K : Int) : Decidable (GeoOk B P W K) :=
  decidable_of_iff (4 ≤ B ∧ B ≤ 64 ∧ 2 ≤ P ∧ P ≤ 32 ∧ 1 ≤ W ∧ W ≤ 4 ∧ 1 ≤ K ∧ K ≤ 64 ∧ 8 < W * K)
    ⟨fun ⟨a, b, c, d, e, f, g, h, i⟩ => ⟨a, b, c, d, e, f, g, h, i⟩, fun ⟨a, b, c, d, e, f, g, h, i⟩ => ⟨a, b, c, d, e, f, g, h, i⟩⟩

theorem mul_small {W K : Int} (w0 : 1 ≤ W) (w1 : W ≤ 4) (k0 : 1 ≤ K) (k1 : K ≤ 64) : 1 ≤ W * K ∧ W * K ≤ 256 := by
  obtain rfl | rfl | rfl | rfl : W = 1 ∨ W = 2 ∨ W = 3 ∨ W = 4 := by omega
  all_goals omega

set_option maxHeartbeats 400000 in
theorem within_yes (n l m : Int) (w : World) (h0 : l ≤ n) (h1 : n ≤ m) :
    Calls Tryz.prog 58 #[.int .i64 n, .int .i64 l, .int .i64 m] w fun e w' => e = .returned (.bool true) ∧ w = w' := by
  go_enter Tryz.func58, Tryz.ntmps58
  go_wp2
  go_ret
  exact ⟨rfl, rfl⟩
set_option maxHeartbeats 400000 in
theorem within_no (n l m : Int) (w : World) (h : n < l ∨ m < n) :
    Calls Tryz.prog 58 #[.int .i64 n, .int .i64 l, .int .i64 m] w fun e w' => e = .returned (.bool false) ∧ w = w' := by
  by_cases h0 : l ≤ n
  · have h1 : decide (n ≤ m) = false := by simp; omega
    go_enter Tryz.func58, Tryz.ntmps58
    go_wp2
    go_ret
    exact ⟨rfl, rfl⟩
  · have h1 : decide (l ≤ n) = false := by simpa using h0
    go_enter Tryz.func58, Tryz.ntmps58
    go_wp2
    go_ret
    exact ⟨rfl, rfl⟩

set_option maxHeartbeats 1000000 in
theorem may_yes (B P W K : Int) (w : World) (h : GeoOk B P W K) :
    Calls Tryz.prog 29 #[geoV B P W K] w fun e w' => e = .returned (.bool true) ∧ Keep (fun _ => False) w w' := by
  obtain ⟨b0, b1, p0, p1, w0, w1, k0, k1, wk⟩ := h
  obtain ⟨m0, m1⟩ := mul_small w0 w1 k0 k1
  go_enter Tryz.func29, Tryz.ntmps29
  go_wp2_with fail
  refine (within_yes _ _ _ _ b0 b1).mono ?_
  rintro e wx ⟨rfl, rfl⟩
  go_wp2_with fail
  refine (within_yes _ _ _ _ p0 p1).mono ?_
  rintro e wx ⟨rfl, rfl⟩
  go_wp2_with fail
  refine (within_yes _ _ _ _ w0 w1).mono ?_
  rintro e wx ⟨rfl, rfl⟩
  go_wp2_with fail
  refine (within_yes _ _ _ _ k0 k1).mono ?_
  rintro e wx ⟨rfl, rfl⟩
  go_wp2_with fail
  go_ret
  exact ⟨rfl, (Keep.refl _ w).alloc _⟩

set_option maxHeartbeats 1000000 in
theorem may_no (B P W K : Int) (w : World) (h : ¬ GeoOk B P W K) :
    Calls Tryz.prog 29 #[geoV B P W K] w fun e w' => e = .returned (.bool false) ∧ Keep (fun _ => False) w w' := by
  by_cases hB : 4 ≤ B ∧ B ≤ 64
  · obtain ⟨b0, b1⟩ := hB
    by_cases hP : 2 ≤ P ∧ P ≤ 32
    · obtain ⟨p0, p1⟩ := hP
      by_cases hW : 1 ≤ W ∧ W ≤ 4
      · obtain ⟨w0, w1⟩ := hW
        by_cases hK : 1 ≤ K ∧ K ≤ 64
        · obtain ⟨k0, k1⟩ := hK
          obtain ⟨m0, m1⟩ := mul_small w0 w1 k0 k1
          have hn : ¬ 8 < W * K := fun wk => h ⟨b0, b1, p0, p1, w0, w1, k0, k1, wk⟩
          have hd : decide (8 < W * K) = false := by simpa using hn
          go_enter Tryz.func29, Tryz.ntmps29
          go_wp2_with fail
          refine (within_yes _ _ _ _ b0 b1).mono ?_
          rintro e wx ⟨rfl, rfl⟩
          go_wp2_with fail
          refine (within_yes _ _ _ _ p0 p1).mono ?_
          rintro e wx ⟨rfl, rfl⟩
          go_wp2_with fail
          refine (within_yes _ _ _ _ w0 w1).mono ?_
          rintro e wx ⟨rfl, rfl⟩
          go_wp2_with fail
          refine (within_yes _ _ _ _ k0 k1).mono ?_
          rintro e wx ⟨rfl, rfl⟩
          go_wp2_with fail
          go_ret
          exact ⟨rfl, (Keep.refl _ w).alloc _⟩
        · go_enter Tryz.func29, Tryz.ntmps29
          go_wp2_with fail
          refine (within_yes _ _ _ _ b0 b1).mono ?_
          rintro e wx ⟨rfl, rfl⟩
          go_wp2_with fail
          refine (within_yes _ _ _ _ p0 p1).mono ?_
          rintro e wx ⟨rfl, rfl⟩
          go_wp2_with fail
          refine (within_yes _ _ _ _ w0 w1).mono ?_
          rintro e wx ⟨rfl, rfl⟩
          go_wp2_with fail
          refine (within_no _ _ _ _ (by omega)).mono ?_
          rintro e wx ⟨rfl, rfl⟩
          go_wp2_with fail
          go_ret
          exact ⟨rfl, (Keep.refl _ w).alloc _⟩
      · go_enter Tryz.func29, Tryz.ntmps29
        go_wp2_with fail
        refine (within_yes _ _ _ _ b0 b1).mono ?_
        rintro e wx ⟨rfl, rfl⟩
        go_wp2_with fail
        refine (within_yes _ _ _ _ p0 p1).mono ?_
        rintro e wx ⟨rfl, rfl⟩
        go_wp2_with fail
        refine (within_no _ _ _ _ (by omega)).mono ?_
        rintro e wx ⟨rfl, rfl⟩
        go_wp2_with fail
        go_ret
        exact ⟨rfl, (Keep.refl _ w).alloc _⟩
    · go_enter Tryz.func29, Tryz.ntmps29
      go_wp2_with fail
      refine (within_yes _ _ _ _ b0 b1).mono ?_
      rintro e wx ⟨rfl, rfl⟩
      go_wp2_with fail
      refine (within_no _ _ _ _ (by omega)).mono ?_
      rintro e wx ⟨rfl, rfl⟩
      go_wp2_with fail
      go_ret
      exact ⟨rfl, (Keep.refl _ w).alloc _⟩
  · go_enter Tryz.func29, Tryz.ntmps29
    go_wp2_with fail
    refine (within_no _ _ _ _ (by omega)).mono ?_
    rintro e wx ⟨rfl, rfl⟩
    go_wp2_with fail
    go_ret
    exact ⟨rfl, (Keep.refl _ w).alloc _⟩
end Go.Proofs.YtdlmjjlejkkniaaGreat
