/- code.over, slices.ContainsFunc, code.none, code.Distance. -/
import Derived.Test.YtnejnoiogojplaaOwn
namespace Go.Proofs.Ytnejnoiogojplaa
open Go.RowKit

def overB (x : Nat) : Bool := decide (1024 ≤ x)
def isnotB (x : Nat) : Bool := !decide (x = 0)
set_option maxHeartbeats 400000 in
theorem over_any (x : Nat) (w : World) : Calls Try.prog 25 #[.int .u16 x] w fun e w' => e = .returned (.bool (overB x)) ∧ Keep (fun _ => False) w w' := by
  have h : decide (1024 ≤ (x : Int)) = overB x := by
    unfold overB
    rw [decide_eq_decide]
    omega
  go_enter Try.func25, Try.ntmps25
  go_wp2_with fail
  go_ret
  exact ⟨by rw [← h]; rfl, Keep.refl _ _⟩
set_option maxHeartbeats 400000 in
theorem isnot_any (x : Nat) (w : World) : Calls Try.prog 54 #[.int .u16 x] w fun e w' => e = .returned (.bool (isnotB x)) ∧ Keep (fun _ => False) w w' := by
  have h : (((x : Nat) : Int) != 0) = isnotB x := by
    unfold isnotB
    rw [Bool.eq_iff_iff]
    simp
  have H := Lib.hid h
  clear h
  go_enter Try.func54, Try.ntmps54
  go_wp2_with fail
  go_ret
  exact ⟨by rw [← H.out]; rfl, Keep.refl _ _⟩

/-- What IndexFunc finds. -/
def FirstU (B : Nat → Bool) (p : Nat → Nat) (n : Nat) (z : Int) : Prop := (z = -1 ∧ ∀ i, i < n → B (p i) = false) ∨ ∃ j : Nat, z = j ∧ j < n ∧ B (p j) = true
set_option maxHeartbeats 1000000 in
theorem index_over (a : Option Addr) (n c : Nat) (p : Nat → Nat) (w : World) (ha : ArgU w a n p) :
    Calls Try.prog 48 #[.slice a n c, .func (.func 25) #[] #[]] w fun e w' => ∃ z, e = .returned (.int .i64 z) ∧ FirstU overB p n z ∧ Keep (fun _ => False) w w' := by
  have HA := Lib.hid ha
  have hsm := ha.small
  clear ha
  go_enter Try.func48, Try.ntmps48
  go_wp2_with fail
  go_loopw [8] (fun i wr => ∃ j : Nat, j ≤ n ∧ i = .int .i64 j ∧ Hid (∀ i, i < j → overB (p i) = false) ∧ Keep (fun _ => False) w wr) (fun i _ => n - (intOf i).toNat)
  case atStart => exact ⟨0, Nat.zero_le _, rfl, Lib.hid (fun i hi => by omega), Keep.refl _ w⟩
  case round =>
    obtain ⟨j, hj, rfl, HZ, kr⟩ := hrel
    by_cases hjl : j < n
    · obtain ⟨b, off, rfl, hbs, hc⟩ := HA.out.at_ (by omega)
      have c0 := (kr.cell (p := ⟨b, off + j, none⟩) hbs (by simp)).trans (hc j hjl)
      have hjl' : (j : Int) < (n : Int) := by omega
      clear hc
      go_wp2_with fail
      refine (over_any (p j) _).mono ?_
      rintro e w3 ⟨rfl, k3⟩
      have k4 := kr.trans k3 (fun _ hi => .inl hi)
      cases hB : overB (p j) with
      | false =>
        have HN := Lib.hid (show ∀ i, i < j + 1 → overB (p i) = false from fun i hi => by
          by_cases e : i = j
          · rw [e]; exact hB
          · exact HZ.out i (by omega))
        clear hB
        go_wp2_with fail
        go_roundw
        case rel => exact ⟨j + 1, by omega, by go_num, HN, k4⟩
        case measure => simp [intOf]; omega
      | true =>
        have HB := Lib.hid hB
        clear hB
        go_wp2_with fail
        go_ret
        exact ⟨j, rfl, .inr ⟨j, rfl, hjl, HB.out⟩, k4⟩
    · have hje : j = n := by omega
      subst hje
      go_wp2_with fail
      go_ret
      exact ⟨-1, rfl, .inl ⟨rfl, HZ.out⟩, kr⟩
set_option maxHeartbeats 400000 in
theorem contains_over0 (a : Option Addr) (n c : Nat) (p : Nat → Nat) (w : World) (ha : ArgU w a n p) :
    Calls Try.prog 24 #[.slice a n c, .func (.func 25) #[] #[]] w fun e w' => ∃ b, e = .returned (.bool b) ∧ (b = true ↔ ∃ i, i < n ∧ overB (p i) = true) ∧ Keep (fun _ => False) w w' := by
  go_enter Try.func24, Try.ntmps24
  go_wp2_with fail
  refine (index_over a n c p w ha).mono ?_
  rintro e w3 ⟨z, rfl, hz, k3⟩
  go_wp2_with fail
  go_ret
  refine ⟨_, rfl, ?_, k3⟩
  rw [decide_eq_true_iff]
  rcases hz with ⟨rfl, h⟩ | ⟨j, rfl, hj, h⟩
  · constructor
    · intro h0
      omega
    · rintro ⟨i, hi, h1⟩
      rw [h i hi] at h1
      cases h1
  · exact ⟨fun _ => ⟨j, hj, h⟩, fun _ => by omega⟩
set_option maxHeartbeats 1000000 in
theorem index_isnot (a : Option Addr) (n c : Nat) (p : Nat → Nat) (w : World) (ha : ArgU w a n p) :
    Calls Try.prog 48 #[.slice a n c, .func (.func 54) #[] #[]] w fun e w' => ∃ z, e = .returned (.int .i64 z) ∧ FirstU isnotB p n z ∧ Keep (fun _ => False) w w' := by
  have HA := Lib.hid ha
  have hsm := ha.small
  clear ha
  go_enter Try.func48, Try.ntmps48
  go_wp2_with fail
  go_loopw [8] (fun i wr => ∃ j : Nat, j ≤ n ∧ i = .int .i64 j ∧ Hid (∀ i, i < j → isnotB (p i) = false) ∧ Keep (fun _ => False) w wr) (fun i _ => n - (intOf i).toNat)
  case atStart => exact ⟨0, Nat.zero_le _, rfl, Lib.hid (fun i hi => by omega), Keep.refl _ w⟩
  case round =>
    obtain ⟨j, hj, rfl, HZ, kr⟩ := hrel
    by_cases hjl : j < n
    · obtain ⟨b, off, rfl, hbs, hc⟩ := HA.out.at_ (by omega)
      have c0 := (kr.cell (p := ⟨b, off + j, none⟩) hbs (by simp)).trans (hc j hjl)
      have hjl' : (j : Int) < (n : Int) := by omega
      clear hc
      go_wp2_with fail
      refine (isnot_any (p j) _).mono ?_
      rintro e w3 ⟨rfl, k3⟩
      have k4 := kr.trans k3 (fun _ hi => .inl hi)
      cases hB : isnotB (p j) with
      | false =>
        have HN := Lib.hid (show ∀ i, i < j + 1 → isnotB (p i) = false from fun i hi => by
          by_cases e : i = j
          · rw [e]; exact hB
          · exact HZ.out i (by omega))
        clear hB
        go_wp2_with fail
        go_roundw
        case rel => exact ⟨j + 1, by omega, by go_num, HN, k4⟩
        case measure => simp [intOf]; omega
      | true =>
        have HB := Lib.hid hB
        clear hB
        go_wp2_with fail
        go_ret
        exact ⟨j, rfl, .inr ⟨j, rfl, hjl, HB.out⟩, k4⟩
    · have hje : j = n := by omega
      subst hje
      go_wp2_with fail
      go_ret
      exact ⟨-1, rfl, .inl ⟨rfl, HZ.out⟩, kr⟩
set_option maxHeartbeats 400000 in
theorem contains_isnot0 (a : Option Addr) (n c : Nat) (p : Nat → Nat) (w : World) (ha : ArgU w a n p) :
    Calls Try.prog 24 #[.slice a n c, .func (.func 54) #[] #[]] w fun e w' => ∃ b, e = .returned (.bool b) ∧ (b = true ↔ ∃ i, i < n ∧ isnotB (p i) = true) ∧ Keep (fun _ => False) w w' := by
  go_enter Try.func24, Try.ntmps24
  go_wp2_with fail
  refine (index_isnot a n c p w ha).mono ?_
  rintro e w3 ⟨z, rfl, hz, k3⟩
  go_wp2_with fail
  go_ret
  refine ⟨_, rfl, ?_, k3⟩
  rw [decide_eq_true_iff]
  rcases hz with ⟨rfl, h⟩ | ⟨j, rfl, hj, h⟩
  · constructor
    · intro h0
      omega
    · rintro ⟨i, hi, h1⟩
      rw [h i hi] at h1
      cases h1
  · exact ⟨fun _ => ⟨j, hj, h⟩, fun _ => by omega⟩
theorem contains_over (a : Option Addr) (n c : Nat) (p : Nat → Nat) (w : World) (ha : ArgU w a n p) :
    Calls Try.prog 24 #[.slice a n c, .func (.func 25) #[] #[]] w fun e w' => ∃ b, e = .returned (.bool b) ∧ (b = true ↔ ∃ i, i < n ∧ 1024 ≤ p i) ∧ Keep (fun _ => False) w w' :=
  (contains_over0 a n c p w ha).mono fun _ _ ⟨b, h1, h2, h3⟩ => ⟨b, h1, by simpa [overB] using h2, h3⟩
set_option maxHeartbeats 400000 in
theorem none_any (a : Option Addr) (n c : Nat) (p : Nat → Nat) (w : World) (ha : ArgU w a n p) :
    Calls Try.prog 36 #[.slice a n c] w fun e w' => ∃ b, e = .returned (.bool b) ∧ (b = true ↔ ∀ i, i < n → p i = 0) ∧ Keep (fun _ => False) w w' := by
  go_enter Try.func36, Try.ntmps36
  go_wp2_with fail
  refine (contains_isnot0 a n c p w ha).mono ?_
  rintro e w3 ⟨b, rfl, hb, k3⟩
  go_wp2_with fail
  go_ret
  refine ⟨_, rfl, ?_, k3⟩
  simp only [isnotB, Bool.not_eq_true', decide_eq_false_iff_not] at hb
  cases b with
  | true =>
    obtain ⟨i, hi, h0⟩ := hb.1 rfl
    simp only [Bool.not_true, Bool.false_eq_true, false_iff]
    exact fun h => h0 (h i hi)
  | false =>
    simp only [Bool.not_false, true_iff]
    intro i hi
    by_cases h0 : p i = 0
    · exact h0
    · exact absurd (hb.2 ⟨i, hi, h0⟩) (by simp)

set_option maxHeartbeats 2000000 in
set_option maxRecDepth 100000 in
theorem dist_any (a b : Option Addr) (na nb ca cb : Nat) (p q : Nat → Nat) (w : World) (ha : ArgU w a na p) (hb : ArgU w b nb q) (hna : na ≤ 1000000) (hnb : nb ≤ 1000000) :
    Calls Try.prog 19 #[.slice a na ca, .slice b nb cb] w fun e w' => e = .returned (.int .i64 (max na nb - min na nb + cntNe p q (min na nb) : Nat)) ∧ Keep (fun _ => False) w w' := by
  have HA := Lib.hid ha
  have HB := Lib.hid hb
  obtain ⟨m, hm⟩ : ∃ m, m = max na nb := ⟨_, rfl⟩
  obtain ⟨l, hl⟩ : ∃ l, l = min na nb := ⟨_, rfl⟩
  have hml : m ≤ 1000000 := by omega
  have hlm : l ≤ m := by omega
  have hla : l ≤ na := by omega
  have hlb : l ≤ nb := by omega
  have hmx : (if na < nb then (nb : Int) else (na : Int)) = (m : Int) := by split <;> omega
  have hmn : (if nb < na then (nb : Int) else (na : Int)) = (l : Int) := by split <;> omega
  rw [← hm, ← hl]
  clear ha hb hm hl
  go_enter Try.func19, Try.ntmps19
  go_wp2_with fail
  clear hmx hmn
  go_loopw [5, 23] (fun v5 v6 wr => ∃ j : Nat, j ≤ l ∧ v6 = .int .i64 j ∧ v5 = .int .i64 (m - l + cntNe p q j : Nat) ∧ Keep (fun _ => False) w wr) (fun _ v6 _ => l - (intOf v6).toNat)
  case atStart => exact ⟨0, by omega, rfl, by simp [cntNe]; omega, Keep.refl _ _⟩
  case round =>
    obtain ⟨j, hj, rfl, rfl, hk⟩ := hrel
    by_cases hjl : j < l
    · obtain ⟨bA, oA, rfl, hbA, hcA⟩ := HA.out.at_ (by omega)
      obtain ⟨bB, oB, rfl, hbB, hcB⟩ := HB.out.at_ (by omega)
      have c1 := (hk.cell (p := ⟨bA, oA + j, none⟩) hbA (by simp)).trans (hcA j (by omega))
      have c2 := (hk.cell (p := ⟨bB, oB + j, none⟩) hbB (by simp)).trans (hcB j (by omega))
      have h1 : (j : Int) < (na : Int) := by omega
      have h2 : (j : Int) < (nb : Int) := by omega
      have h3 : (j : Int) < (l : Int) := by omega
      have hcj := cntNe_le p q j
      clear hcA hcB
      by_cases hpq : p j = q j
      · have HN := Lib.hid (show cntNe p q (j + 1) = cntNe p q j by simp [cntNe, hpq])
        have e1 : (((p j : Nat) : Int) != ((q j : Nat) : Int)) = false := by simp [hpq]
        rw [hpq] at c1 e1
        clear hpq
        go_wp2_with fail
        go_quiet (fail)
        go_wp2_with fail
        go_roundw
        case rel => exact ⟨j + 1, by omega, by go_num, by rw [HN.out], hk.drewN _⟩
        case measure => simp [intOf]; omega
      · have HN := Lib.hid (show cntNe p q (j + 1) = cntNe p q j + 1 by simp [cntNe, hpq])
        have e1 : (((p j : Nat) : Int) != ((q j : Nat) : Int)) = true := by simp; omega
        have e2 : ¬ ((p j : Nat) : Int) = ((q j : Nat) : Int) := by omega
        go_wp2_with fail
        go_quiet (fail)
        go_wp2_with fail
        go_roundw
        case rel => exact ⟨j + 1, by omega, by go_num, by rw [HN.out]; go_num, hk.drewN _⟩
        case measure => simp [intOf]; omega
    · obtain rfl : j = l := by omega
      have h3 : ¬ (j : Int) < (j : Int) := by omega
      go_wp2_with fail
      go_ret
      exact ⟨rfl, hk⟩
end Go.Proofs.Ytnejnoiogojplaa
