/- The script of RateTicks in memory: a Drift, Ticks, a Drift. -/
import Derived.Test.YtaepllaipdacjaaLawTicks
import Derived.OwnWalk
namespace Go.Proofs.Ytaepllaipdacjaa
open Go.RowKit

def driftCells (p c : Nat) : List Value := [.int .i64 6, .int .i64 0, .int .i64 p, .int .i64 c, .complex .f64 4611686018427387904 0, .slice none 0 0]
def tickCells : List Value := [.int .i64 5, .int .i64 0, .int .i64 0, .int .i64 0, .complex .f64 0 0, .slice none 0 0]
/-- The script so far: the Drift, and k Ticks. -/
def scriptCells (p c : Nat) : Nat → List Value
  | 0 => driftCells p c
  | k + 1 => scriptCells p c k ++ tickCells
theorem script_len (p c k : Nat) : (scriptCells p c k).length = (k + 1) * 6 := by
  induction k with
  | zero => rfl
  | succ k ih => simp only [scriptCells, List.length_append, ih]; show _ + 6 = _; omega
theorem script_get (p c : Nat) : ∀ k i r, i ≤ k → r < 6 → (scriptCells p c k)[i * 6 + r]? = (if i = 0 then driftCells p c else tickCells)[r]? := by
  intro k
  induction k with
  | zero =>
    intro i r hi hr
    obtain rfl : i = 0 := by omega
    simp [scriptCells]
  | succ k ih =>
    intro i r hi hr
    have hl := script_len p c k
    by_cases h : i ≤ k
    · rw [scriptCells, List.getElem?_append_left (by omega)]
      exact ih i r h hr
    · obtain rfl : i = k + 1 := by omega
      rw [scriptCells, List.getElem?_append_right (by omega), hl]
      have e : (k + 1) * 6 + r - (k + 1) * 6 = r := by omega
      rw [e]
      simp
theorem script_all (p c T i r : Nat) (hi : i ≤ T + 1) (hr : r < 6) : (scriptCells p c T ++ driftCells p c)[i * 6 + r]? = (if i = 0 ∨ i = T + 1 then driftCells p c else tickCells)[r]? := by
  have hl := script_len p c T
  by_cases h : i ≤ T
  · rw [List.getElem?_append_left (by omega), script_get p c T i r h hr]
    have e : ¬ i = T + 1 := by omega
    simp [e]
  · obtain rfl : i = T + 1 := by omega
    rw [List.getElem?_append_right (by omega), hl]
    have e : (T + 1) * 6 + r - (T + 1) * 6 = r := by omega
    rw [e]
    simp
def scD (T i : Nat) : Int := if i = 0 ∨ i = T + 1 then 6 else 5
def scG (p T i : Nat) : Int := if i = 0 ∨ i = T + 1 then p else 0
theorem two_drifts (p c T : Nat) : TwoDrifts p c T (scD T) (scG p T) (scG c T) := by
  refine ⟨by simp [scD], by simp [scG], by simp [scG], fun i h0 h1 => ?_, by simp [scD], by simp [scG], by simp [scG]⟩
  have e1 : ¬ i = 0 := by omega
  have e2 : ¬ i = T + 1 := by omega
  simp [scD, e1, e2]
theorem script_events {w : World} {base g cap p c T : Nat} {e : TypeId} (hT : T < 256) (h : w.ownsRow base e 6 (.slice (some ⟨g, 0, none⟩) (T + 2) cap) (T + 2) (scriptCells p c T ++ driftCells p c)) (hg : g < w.heap.size) :
    ArgEvents w (some ⟨g, 0, none⟩) (T + 2) (scD T) (scG p T) (scG c T) := by
  refine ⟨fun _ => ⟨g, 0, rfl, hg, fun i hi => ?_⟩, by unfold maxLen; omega⟩
  have hc : ∀ r, r < 6 → w.cell? ⟨g, 0 + i * 6 + r, none⟩ = (if i = 0 ∨ i = T + 1 then driftCells p c else tickCells)[r]? := by
    intro r hr
    rw [Nat.zero_add, h.cellAt _ (by omega), script_all p c T i r (by omega) hr]
  by_cases e : i = 0 ∨ i = T + 1
  · simp only [e, if_true] at hc
    simp only [scD, scG, e, if_true]
    exact ⟨_, _, _, _, _, _, hc 0 (by omega), hc 1 (by omega), hc 2 (by omega), hc 3 (by omega), hc 4 (by omega), hc 5 (by omega)⟩
  · simp only [e, if_false] at hc
    simp only [scD, scG, e, if_false]
    exact ⟨_, _, _, _, _, _, hc 0 (by omega), hc 1 (by omega), hc 2 (by omega), hc 3 (by omega), hc 4 (by omega), hc 5 (by omega)⟩
end Go.Proofs.Ytaepllaipdacjaa
