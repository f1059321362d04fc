/- Sums of points, and what a quarter turn makes of them. No program in sight. -/
import Derived.Test.YtdjgjffgheocfaaGreatFp
namespace Go.Proofs.YtdjgjffgheocfaaGreat
open Go.RowKit

/-- The sum of the first n. -/
def sumI (f : Nat → Int) : Nat → Int
  | 0 => 0
  | n + 1 => sumI f n + f n
theorem sumI_zero (f : Nat → Int) : sumI f 0 = 0 := rfl
theorem sumI_succ (f : Nat → Int) (n : Nat) : sumI f (n + 1) = sumI f n + f n := rfl
theorem sumI_le {f : Nat → Int} {M : Nat} {n : Nat} (h : ∀ i, i < n → (f i).natAbs ≤ M) : (sumI f n).natAbs ≤ n * M := by
  induction n with
  | zero => simp [sumI]
  | succ n ih =>
    have h1 := ih (fun i hi => h i (by omega))
    have h2 := h n (by omega)
    rw [sumI_succ, Nat.succ_mul]
    omega
theorem sumI_sm {f : Nat → Int} {n : Nat} (hn : n ≤ 1000) (h : ∀ i, i < n → (f i).natAbs ≤ 1048576) : (sumI f n).natAbs ≤ 1048576000 := by
  have := sumI_le h
  have : n * 1048576 ≤ 1000 * 1048576 := Nat.mul_le_mul_right _ hn
  omega
theorem sumI_congr {f g : Nat → Int} {n : Nat} (h : ∀ i, i < n → f i = g i) : sumI f n = sumI g n := by
  induction n with
  | zero => rfl
  | succ n ih => rw [sumI_succ, sumI_succ, ih (fun i hi => h i (by omega)), h n (by omega)]
theorem sumI_add (f g : Nat → Int) (n : Nat) : sumI (fun i => f i + g i) n = sumI f n + sumI g n := by
  induction n with
  | zero => rfl
  | succ n ih => rw [sumI_succ, sumI_succ, sumI_succ, ih]; omega
theorem sumI_const (d : Int) (n : Nat) : sumI (fun _ => d) n = d * (n : Int) := by
  induction n with
  | zero => simp [sumI]
  | succ n ih => rw [sumI_succ, ih, Int.natCast_succ, Int.mul_add, Int.mul_one]
/-- A point, t quarters on. -/
def qU (t : Nat) (u v : Int) : Int := if t % 4 = 0 then u else if t % 4 = 1 then -v else if t % 4 = 2 then -u else v
def qV (t : Nat) (u v : Int) : Int := if t % 4 = 0 then v else if t % 4 = 1 then u else if t % 4 = 2 then -v else -u
theorem q_zero (u v : Int) : qU 0 u v = u ∧ qV 0 u v = v := ⟨rfl, rfl⟩
theorem qU_succ (t : Nat) (u v : Int) : qU (t + 1) u v = -(qV t u v) := by
  unfold qU qV
  split <;> rename_i h <;> split <;> rename_i h1 <;> first | (exfalso; omega) | (split <;> rename_i h2 <;> first | (exfalso; omega) | (split <;> rename_i h3 <;> first | (exfalso; omega) | omega) | omega) | omega
theorem qV_succ (t : Nat) (u v : Int) : qV (t + 1) u v = qU t u v := by
  unfold qU qV
  split <;> rename_i h <;> split <;> rename_i h1 <;> first | (exfalso; omega) | (split <;> rename_i h2 <;> first | (exfalso; omega) | (split <;> rename_i h3 <;> first | (exfalso; omega) | omega) | omega) | omega
theorem q_abs (t : Nat) {u v : Int} {M : Nat} (hu : u.natAbs ≤ M) (hv : v.natAbs ≤ M) : (qU t u v).natAbs ≤ M ∧ (qV t u v).natAbs ≤ M := by
  unfold qU qV
  split
  · exact ⟨hu, hv⟩
  · split
    · exact ⟨by omega, by omega⟩
    · split
      · exact ⟨by omega, by omega⟩
      · exact ⟨by omega, by omega⟩
/-- Quarters, of a number that may be below nought. -/
def qk (k : Int) : Nat := ((k.tmod 4 + 4).tmod 4).toNat
theorem qk_eq (k : Int) : (k.tmod 4 + 4).tmod 4 = (qk k : Nat) := by
  unfold qk
  have h1 := Int.tmod_lt_of_pos k (show (0 : Int) < 4 by omega)
  have h2 : -4 < k.tmod 4 := by
    have := Int.neg_tmod k 4
    have := Int.tmod_lt_of_pos (-k) (show (0 : Int) < 4 by omega)
    omega
  rw [Int.tmod_eq_emod_of_nonneg (by omega)]
  omega
theorem qk_lt (k : Int) : qk k < 4 := by
  have h := qk_eq k
  have := Int.tmod_lt_of_pos (k.tmod 4 + 4) (show (0 : Int) < 4 by omega)
  omega
theorem qk_bound (k : Int) : -4 < k.tmod 4 ∧ k.tmod 4 < 4 := by
  have h1 := Int.tmod_lt_of_pos k (show (0 : Int) < 4 by omega)
  have := Int.neg_tmod k 4
  have := Int.tmod_lt_of_pos (-k) (show (0 : Int) < 4 by omega)
  omega
theorem q_mod (q j : Nat) : q * (j % 4) % 4 = q * j % 4 := by
  rw [Nat.mul_mod q (j % 4), Nat.mod_mod, ← Nat.mul_mod]
theorem qU_mod (t : Nat) (u v : Int) : qU (t % 4) u v = qU t u v := by unfold qU; rw [Nat.mod_mod]
theorem qV_mod (t : Nat) (u v : Int) : qV (t % 4) u v = qV t u v := by unfold qV; rw [Nat.mod_mod]
/-- The four turns of one point. -/
theorem q_four (j : Nat) (u v : Int) : qU (0 * j) u v + qU (1 * j) u v + qU (2 * j) u v + qU (3 * j) u v = (if j % 4 = 0 then 4 * u else 0) ∧ qV (0 * j) u v + qV (1 * j) u v + qV (2 * j) u v + qV (3 * j) u v = (if j % 4 = 0 then 4 * v else 0) := by
  have h4 : j % 4 < 4 := Nat.mod_lt _ (by omega)
  have key : ∀ q, qU (q * j) u v = qU (q * (j % 4)) u v ∧ qV (q * j) u v = qV (q * (j % 4)) u v := fun q => by
    rw [← qU_mod, ← qV_mod, ← q_mod, qU_mod, qV_mod]
    exact ⟨rfl, rfl⟩
  rw [(key 0).1, (key 1).1, (key 2).1, (key 3).1, (key 0).2, (key 1).2, (key 2).2, (key 3).2]
  generalize j % 4 = i at *
  clear key
  have hi : i = 0 ∨ i = 1 ∨ i = 2 ∨ i = 3 := by omega
  rcases hi with rfl | rfl | rfl | rfl <;> simp [qU, qV] <;> omega
theorem sum_four (u v : Nat → Int) (n : Nat) :
    sumI (fun j => qU (0 * j) (u j) (v j)) n + sumI (fun j => qU (1 * j) (u j) (v j)) n + sumI (fun j => qU (2 * j) (u j) (v j)) n + sumI (fun j => qU (3 * j) (u j) (v j)) n = sumI (fun j => if j % 4 = 0 then 4 * u j else 0) n ∧
    sumI (fun j => qV (0 * j) (u j) (v j)) n + sumI (fun j => qV (1 * j) (u j) (v j)) n + sumI (fun j => qV (2 * j) (u j) (v j)) n + sumI (fun j => qV (3 * j) (u j) (v j)) n = sumI (fun j => if j % 4 = 0 then 4 * v j else 0) n := by
  induction n with
  | zero => exact ⟨rfl, rfl⟩
  | succ n ih =>
    simp only [sumI_succ]
    have h := q_four n (u n) (v n)
    exact ⟨by rw [← ih.1, ← h.1]; omega, by rw [← ih.2, ← h.2]; omega⟩
end Go.Proofs.YtdjgjffgheocfaaGreat
