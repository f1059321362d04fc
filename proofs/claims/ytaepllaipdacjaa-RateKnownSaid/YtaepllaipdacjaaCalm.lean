/- rate.Calm, and slices.ContainsFunc at it. -/
import Derived.Test.YtaepllaipdacjaaRate
namespace Go.Proofs.Ytaepllaipdacjaa
open Go.RowKit

set_option maxHeartbeats 400000 in
theorem is_remount (d : Int) (v1 v2 v3 v4 v5 : Value) (b : Bool) (hb : decide (d = 7) = b) (w : World) :
    Calls Try.prog 16 #[.agg #[.int .i64 d, v1, v2, v3, v4, v5]] w fun e w' => e = .returned (.bool b) ∧ Keep (fun _ => False) w w' := by
  subst hb
  go_enter Try.func16, Try.ntmps16
  go_wp2_with fail
  go_ret
  exact ⟨rfl, (Keep.refl _ w).alloc _⟩

set_option maxHeartbeats 1000000 in
theorem index_none (w : World) (al : Option Addr) (len cap : Nat) (D G C : Nat → Int) (ha : ArgEvents w al len D G C) (hD : ∀ i, i < len → D i ≠ 7) :
    Calls Try.prog 21 #[.slice al len cap, .func (.func 16) #[] #[]] w fun e w' => e = .returned (.int .i64 (-1)) ∧ Keep (fun _ => False) w w' := by
  have hsm := ha.small
  unfold maxLen at hsm
  go_enter Try.func21, Try.ntmps21
  go_wp2_with fail
  go_loopw [8] (fun i wr => ∃ j : Nat, j ≤ len ∧ i = .int .i64 j ∧ Keep (fun _ => False) w wr) (fun i _ => len - (intOf i).toNat)
  case atStart => exact ⟨0, Nat.zero_le _, rfl, Keep.refl _ w⟩
  case round =>
    obtain ⟨j, hj, rfl, kr⟩ := hrel
    by_cases hjl : j < len
    · obtain ⟨b, off, rfl, hbs, hc⟩ := ha.at_ (by omega)
      obtain ⟨l, re, im, q, yl, yc, c0, c1, c2, c3, c4, c5⟩ := hc j hjl
      have hd := hD j hjl
      generalize D j = d at c0 hd
      generalize G j = g at c2
      generalize C j = c at c3
      rw [← kr.cell (p := ⟨b, off + j * 6, none⟩) hbs (by simp)] at c0
      rw [← kr.cell (p := ⟨b, off + j * 6 + 1, none⟩) hbs (by simp)] at c1
      rw [← kr.cell (p := ⟨b, off + j * 6 + 2, none⟩) hbs (by simp)] at c2
      rw [← kr.cell (p := ⟨b, off + j * 6 + 3, none⟩) hbs (by simp)] at c3
      rw [← kr.cell (p := ⟨b, off + j * 6 + 4, none⟩) hbs (by simp)] at c4
      rw [← kr.cell (p := ⟨b, off + j * 6 + 5, none⟩) hbs (by simp)] at c5
      have hjl' : (j : Int) < (len : Int) := by omega
      clear hc hbs
      go_wp2_with fail
      refine (is_remount d _ _ _ _ _ false (by simpa using hd) _).mono ?_
      rintro e w3 ⟨rfl, k3⟩
      have k4 := kr.trans k3 (fun _ hi => .inl hi)
      go_wp2_with fail
      go_roundw
      case rel => exact ⟨j + 1, by omega, by go_num, k4⟩
      case measure => simp [intOf]; omega
    · have hje : j = len := by omega
      subst hje
      go_wp2_with fail
      go_ret
      exact ⟨rfl, kr⟩

set_option maxHeartbeats 1000000 in
theorem index_first (w : World) (al : Option Addr) (len cap : Nat) (D G C : Nat → Int) (ha : ArgEvents w al len D G C) (h0 : 0 < len) (hD : D 0 = 7) :
    Calls Try.prog 21 #[.slice al len cap, .func (.func 16) #[] #[]] w fun e w' => e = .returned (.int .i64 0) ∧ Keep (fun _ => False) w w' := by
  have hsm := ha.small
  unfold maxLen at hsm
  obtain ⟨b, off, rfl, hbs, hc⟩ := ha.at_ h0
  obtain ⟨l, re, im, q, yl, yc, c0, c1, c2, c3, c4, c5⟩ := hc 0 h0
  rw [hD] at c0
  simp only [Nat.zero_mul, Nat.add_zero] at c0 c1 c2 c3 c4 c5
  have hl : (0 : Int) < (len : Int) := by omega
  clear hD hc hbs
  go_enter Try.func21, Try.ntmps21
  go_wp2_with fail
  go_loopw [8] (fun i wr => i = .int .i64 0 ∧ wr = w) (fun i _ => len - (intOf i).toNat)
  case atStart => exact ⟨rfl, rfl⟩
  case round =>
    obtain ⟨rfl, rfl⟩ := hrel
    go_wp2_with fail
    refine (is_remount 7 _ _ _ _ _ true rfl _).mono ?_
    rintro e w3 ⟨rfl, k3⟩
    go_wp2_with fail
    go_ret
    exact ⟨rfl, k3⟩

set_option maxHeartbeats 400000 in
theorem contains_none (w : World) (al : Option Addr) (len cap : Nat) (D G C : Nat → Int) (ha : ArgEvents w al len D G C) (hD : ∀ i, i < len → D i ≠ 7) :
    Calls Try.prog 15 #[.slice al len cap, .func (.func 16) #[] #[]] w fun e w' => e = .returned (.bool false) ∧ Keep (fun _ => False) w w' := by
  go_enter Try.func15, Try.ntmps15
  go_wp2_with fail
  refine (index_none w al len cap D G C ha hD).mono ?_
  rintro e w3 ⟨rfl, k3⟩
  go_wp2_with fail
  go_ret
  exact ⟨rfl, k3⟩
set_option maxHeartbeats 400000 in
theorem contains_first (w : World) (al : Option Addr) (len cap : Nat) (D G C : Nat → Int) (ha : ArgEvents w al len D G C) (h0 : 0 < len) (hD : D 0 = 7) :
    Calls Try.prog 15 #[.slice al len cap, .func (.func 16) #[] #[]] w fun e w' => e = .returned (.bool true) ∧ Keep (fun _ => False) w w' := by
  go_enter Try.func15, Try.ntmps15
  go_wp2_with fail
  refine (index_first w al len cap D G C ha h0 hD).mono ?_
  rintro e w3 ⟨rfl, k3⟩
  go_wp2_with fail
  go_ret
  exact ⟨rfl, k3⟩
end Go.Proofs.Ytaepllaipdacjaa
