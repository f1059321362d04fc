/- frame.Blank, and slices.ContainsFunc at it; the reference's Blank. -/
import Derived.Test.YtdlmjjlejkkniaaGreatPts
namespace Go.Proofs.YtdlmjjlejkkniaaGreat
open Go.RowKit

/-- Is one of the first n so? -/
def anyB (b : Nat → Bool) : Nat → Bool
  | 0 => false
  | n + 1 => anyB b n || b n
theorem anyB_true {b : Nat → Bool} {j : Nat} (h : b j = true) : ∀ {n}, j < n → anyB b n = true
  | n + 1, hj => by
    unfold anyB
    by_cases e : j = n
    · rw [← e, h, Bool.or_true]
    · rw [anyB_true h (by omega), Bool.true_or]
theorem anyB_false {b : Nat → Bool} : ∀ {n}, (∀ i, i < n → b i = false) → anyB b n = false
  | 0, _ => rfl
  | n + 1, h => by
    unfold anyB
    rw [anyB_false (fun i hi => h i (by omega)), h n (by omega)]
    rfl
/-- Is a point not nought? -/
def offB (a b : Int) : Bool := !(decide (a = 0) && decide (b = 0))
theorem order_zero {a : Int} (h : Pm a) : (FloatKind.f64.format.order (fx (2 * a)) 0 == some .eq) = decide (a = 0) := by
  unfold Pm at h
  have h1 := fl_eq (a := 2 * a) (b := 0) (by unfold Sm; omega) (by unfold Sm; decide)
  rw [fx_zero] at h1
  rw [h1]
  by_cases e : a = 0
  · rw [decide_eq_true e, decide_eq_true (by omega)]
  · rw [decide_eq_false e, decide_eq_false (by omega)]
set_option maxRecDepth 100000 in
theorem isoff_any (a b : Int) (ha : Pm a) (hb : Pm b) (w : World) :
    Calls Tryz.prog 70 #[ptv a b] w fun e w' => e = .returned (.bool (offB a b)) ∧ w = w' := by
  have h1 := order_zero ha
  have h2 := order_zero hb
  unfold ptv offB
  generalize fx (2 * a) = X at *
  generalize fx (2 * b) = Y at *
  generalize decide (a = 0) = A at *
  generalize decide (b = 0) = B at *
  rw [Bool.not_and]
  go_enter Tryz.func70, Tryz.ntmps70
  go_wp2_with fail
  go_ret
  exact ⟨rfl, rfl⟩
set_option maxRecDepth 100000 in
set_option maxHeartbeats 1000000 in
theorem indexoff_any (a : Option Addr) (n c : Nat) (x y : Nat → Int) (w : World) (ha : ArgV w a n (ptsV x y)) (hx : ∀ i, i < n → Pm (x i) ∧ Pm (y i)) :
    Calls Tryz.prog 89 #[.slice a n c, .func (.func 70) #[] #[]] w fun e w' => (∃ z, e = .returned (.int .i64 z) ∧ ((z = -1 ∧ anyB (fun i => offB (x i) (y i)) n = false) ∨ (0 ≤ z ∧ anyB (fun i => offB (x i) (y i)) n = true))) ∧ w = w' := by
  have HA := Lib.hid ha
  have hsm := ha.small
  clear ha
  go_enter Tryz.func89, Tryz.ntmps89
  go_wp2_with fail
  go_loopw [8] (fun v wr => ∃ j : Nat, j ≤ n ∧ v = .int .i64 j ∧ Hid (∀ i, i < j → offB (x i) (y i) = false) ∧ wr = w) (fun v _ => n - (intOf v).toNat)
  case atStart => exact ⟨0, by omega, rfl, Lib.hid (fun i hi => by omega), rfl⟩
  case round =>
    obtain ⟨j, hj, rfl, HF, rfl⟩ := hrel
    by_cases hjn : j < n
    · have hjn' : (j : Int) < (n : Int) := by omega
      obtain ⟨bA, oA, rfl, hbA, hcA⟩ := HA.out.at_ (by omega)
      have c0 := hcA j hjn
      rw [show ptsV x y j = ptv (x j) (y j) from rfl] at c0
      have h1 := Lib.hid (fun w => isoff_any (x j) (y j) (hx j hjn).1 (hx j hjn).2 w)
      obtain ⟨b, hb⟩ : ∃ b, b = offB (x j) (y j) := ⟨_, rfl⟩
      rw [← hb] at h1
      have HB := Lib.hid hb
      clear hcA hb
      unfold ptv at c0 h1
      go_wp2_with fail
      refine (h1.out _).mono ?_
      rintro e w1 ⟨rfl, rfl⟩
      cases b with
      | true =>
        have HT := Lib.hid (anyB_true (b := fun i => offB (x i) (y i)) (j := j) HB.out.symm hjn)
        go_wp2_with fail
        go_ret
        exact ⟨⟨j, rfl, .inr ⟨by omega, HT.out⟩⟩, rfl⟩
      | false =>
        have HF2 := Lib.hid (show ∀ i, i < j + 1 → offB (x i) (y i) = false from fun i hi => by
          by_cases e : i = j
          · rw [e]; exact HB.out.symm
          · exact HF.out i (by omega))
        go_wp2_with fail
        exact ⟨⟨j + 1, by omega, by go_num, HF2, trivial⟩, by simp [intOf]; omega⟩
    · obtain rfl : j = n := by omega
      have hjn' : ¬ (j : Int) < (j : Int) := by omega
      have HT := Lib.hid (anyB_false (b := fun i => offB (x i) (y i)) (n := j) HF.out)
      go_wp2_with fail
      go_ret
      exact ⟨⟨-1, rfl, .inl ⟨rfl, HT.out⟩⟩, rfl⟩
set_option maxRecDepth 100000 in
theorem blank_any (a : Option Addr) (n c : Nat) (x y : Nat → Int) (w : World) (ha : ArgV w a n (ptsV x y)) (hx : ∀ i, i < n → Pm (x i) ∧ Pm (y i)) :
    Calls Tryz.prog 41 #[.slice a n c] w fun e w' => e = .returned (.bool (!anyB (fun i => offB (x i) (y i)) n)) ∧ w = w' := by
  have HI := Lib.hid (fun w ha => indexoff_any a n c x y w ha hx)
  have HA := Lib.hid ha
  clear ha
  generalize anyB (fun i => offB (x i) (y i)) n = b at *
  have HC := Lib.hid (show ∀ w, ArgV w a n (ptsV x y) → Calls Tryz.prog 69 #[.slice a n c, .func (.func 70) #[] #[]] w fun e w' => e = .returned (.bool b) ∧ w = w' from by
    intro w ha
    have HA := Lib.hid ha
    clear ha
    go_enter Tryz.func69, Tryz.ntmps69
    go_wp2_with fail
    refine (HI.out _ HA.out).mono ?_
    rintro e w1 ⟨⟨z, rfl, hz⟩, rfl⟩
    rcases hz with ⟨rfl, rfl⟩ | ⟨h0, rfl⟩
    · go_wp2_with fail
      go_ret
      exact ⟨rfl, rfl⟩
    · go_wp2_with fail
      go_ret
      exact ⟨rfl, rfl⟩)
  go_enter Tryz.func41, Tryz.ntmps41
  go_wp2_with fail
  refine (HC.out _ HA.out).mono ?_
  rintro e w1 ⟨rfl, rfl⟩
  go_wp2_with fail
  go_ret
  exact ⟨rfl, rfl⟩
end Go.Proofs.YtdlmjjlejkkniaaGreat
