/- The plain law of RateTicks: two Drifts of one cell and so many Ticks between. No program in sight. -/
import Derived.Test.YtaepllaipdacjaaRate
namespace Go.Proofs.Ytaepllaipdacjaa
open Go.RowKit

/-- Whether page p was visited by the first k Ticks. -/
def seenBy (N p : Nat) : Nat → Bool
  | 0 => false
  | k + 1 => seenBy N p k || decide (k % N = p)

structure TwoDrifts (p c T : Nat) (D G C : Nat → Int) : Prop where
  d0 : D 0 = 6
  g0 : G 0 = p
  c0 : C 0 = c
  dT : ∀ i, 0 < i → i ≤ T → D i = 5
  d1 : D (T + 1) = 6
  g1 : G (T + 1) = p
  c1 : C (T + 1) = c

theorem ticks_at {N m L p c T : Nat} {D G C : Nat → Int} (hp : p < N) (hc : c < L) (h : TwoDrifts p c T D G C) : ∀ k, k ≤ T →
    (rateAt N m L D G C (k + 1)).t = k ∧ (rateAt N m L D G C (k + 1)).worst = 1 ∧ (rateAt N m L D G C (k + 1)).C p (c % m) = if seenBy N p k then 0 else 1 := by
  have hh : Hits N L (p : Int) (c : Int) := ⟨by omega, by omega, by omega, by omega⟩
  intro k
  induction k with
  | zero =>
    intro _
    have e : rateAt N m L D G C 1 = RSt.start.drift p (c % m) := by
      show RSt.step RSt.start N m L (D 0) (G 0) (C 0) = _
      rw [h.d0, h.g0, h.c0, step_drift _ _ _ _ _ _ hh]
      rfl
    rw [e]
    exact ⟨rfl, rfl, by simp [RSt.drift, RSt.start, seenBy]⟩
  | succ k ih =>
    intro hk
    obtain ⟨i1, i2, i3⟩ := ih (by omega)
    have e : rateAt N m L D G C (k + 1 + 1) = (rateAt N m L D G C (k + 1)).tick N := by
      show RSt.step (rateAt N m L D G C (k + 1)) N m L (D (k + 1)) (G (k + 1)) (C (k + 1)) = _
      rw [h.dT (k + 1) (by omega) hk, step_tick]
    rw [e]
    refine ⟨by show (rateAt N m L D G C (k + 1)).t + 1 = _; rw [i1], i2, ?_⟩
    show (if p = (rateAt N m L D G C (k + 1)).t % N then 0 else (rateAt N m L D G C (k + 1)).C p (c % m)) = _
    rw [i1, i3]
    by_cases e2 : k % N = p
    · simp [seenBy, e2]
    · have e3 : ¬ p = k % N := fun e => e2 e.symm
      simp [seenBy, e2, e3]

theorem ticks_worst {N m L p c T : Nat} {D G C : Nat → Int} (hp : p < N) (hc : c < L) (h : TwoDrifts p c T D G C) :
    (rateAt N m L D G C (T + 2)).worst = if seenBy N p T then 1 else 2 := by
  have hh : Hits N L (p : Int) (c : Int) := ⟨by omega, by omega, by omega, by omega⟩
  obtain ⟨i1, i2, i3⟩ := ticks_at (m := m) hp hc h T (Nat.le_refl _)
  have e : rateAt N m L D G C (T + 2) = (rateAt N m L D G C (T + 1)).drift p (c % m) := by
    show RSt.step (rateAt N m L D G C (T + 1)) N m L (D (T + 1)) (G (T + 1)) (C (T + 1)) = _
    rw [h.d1, h.g1, h.c1, step_drift _ _ _ _ _ _ hh]
    rfl
  rw [e]
  show Nat.max (rateAt N m L D G C (T + 1)).worst ((rateAt N m L D G C (T + 1)).C p (c % m) + 1) = _
  rw [i2, i3]
  split <;> rfl
end Go.Proofs.Ytaepllaipdacjaa
