/- The key equation: plain. -/
import Derived.Test.YtnejnoiogojplaaBm
namespace Go.Proofs.Ytnejnoiogojplaa

/-- The wrong at places i (below n), as a sequence: the syndromes. -/
def syn (c : Nat → Nat) (n : Nat) : Nat → Nat := fun j => xs n (fun i => gm (c i) (ex (i * (j + 1))))
theorem syn_lt {c : Nat → Nat} (hc : ∀ i, c i < 1024) (n j : Nat) : syn c n j < 1024 := xs_lt _ fun i _ => gm_lt (hc i) _
/-- A polynomial's disc against the syndromes of c: each place counts by the polynomial's value at its inverse power. -/
theorem disc_syn {c f : Nat → Nat} {n L j : Nat} (hc : ∀ i, c i < 1024) (hf : ∀ i, f i < 1024) :
    disc f (syn c n) L j = xs n (fun i => gm (c i) (xs (L + 1) (fun k => gm (f k) (ex (i * (j - k + 1)))))) := by
  have e1 : ∀ k, k < L + 1 → gm (f k) (syn c n (j - k)) = xs n (fun i => gm (c i) (gm (f k) (ex (i * (j - k + 1))))) := fun k _ => by
    unfold syn
    rw [gm_xs]
    exact xs_congr n fun i _ => by
      show gm (f k) (gm (c i) (ex (i * (j - k + 1)))) = gm (c i) (gm (f k) (ex (i * (j - k + 1))))
      rw [← gm_assoc (hf _) (hc _) (ex_lt _), gm_comm (hf _) (hc _), gm_assoc (hc _) (hf _) (ex_lt _)]
  unfold disc
  rw [xs_congr _ e1, xs_swap]
  exact xs_congr n fun i _ => (gm_xs _ _).symm
/-- Powers of y. -/
def yp (y : Nat) : Nat → Nat
  | 0 => 1
  | k + 1 => gm (yp y k) y
theorem yp_lt {y : Nat} (hy : y < 1024) : ∀ k, yp y k < 1024
  | 0 => by show 1 < 1024; omega
  | k + 1 => gm_lt (yp_lt hy k) _
theorem yp_down {i y : Nat} (hy : y < 1024) (hi : gm (ex i) y = 1) : ∀ m n, m ≤ n → gm (ex (i * n)) (yp y m) = ex (i * (n - m))
  | 0, n, _ => gm_one_right _
  | m + 1, n, h => by
    show gm (ex (i * n)) (gm (yp y m) y) = ex (i * (n - (m + 1)))
    rw [← gm_assoc (ex_lt _) (yp_lt hy _) hy, yp_down hy hi m n (by omega), show n - m = (n - (m + 1)) + 1 by omega, Nat.mul_add, Nat.mul_one, ← ex_add, gm_assoc (ex_lt _) (ex_lt _) hy, hi, gm_one_right]
/-- The power i * (j - k + 1) by the inverse of the place. -/
theorem place_sum {f : Nat → Nat} {L j i y : Nat} (hf : ∀ k, f k < 1024) (hL : L ≤ j) (hy : y < 1024) (hi : gm (ex i) y = 1) :
    ∀ m, m ≤ L + 1 → xs m (fun k => gm (f k) (ex (i * (j - k + 1)))) = gm (ex (i * (j + 1))) (xs m (fun k => gm (f k) (yp y k)))
  | 0, _ => (gm_zero_right _).symm
  | m + 1, h => by
    rw [xs, place_sum hf hL hy hi m (by omega), xs, gm_add_right]
    congr 1
    show gm (f m) (ex (i * (j - m + 1))) = gm (ex (i * (j + 1))) (gm (f m) (yp y m))
    have e : gm (ex (i * (j + 1))) (yp y m) = ex (i * (j - m + 1)) := by rw [yp_down hy hi m (j + 1) (by omega), show j + 1 - m = j - m + 1 by omega]
    rw [← e, ← gm_assoc (hf _) (ex_lt _) (yp_lt hy _), gm_comm (hf _) (ex_lt _), gm_assoc (ex_lt _) (hf _) (yp_lt hy _)]

/-- F at y, L + 1 coefficients. -/
def val (f : Nat → Nat) (L y : Nat) : Nat := xs (L + 1) (fun k => gm (f k) (yp y k))
theorem val_lt {f : Nat → Nat} (hf : ∀ k, f k < 1024) (L y : Nat) : val f L y < 1024 := xs_lt _ fun k _ => gm_lt (hf k) _
/-- The inverse of place i's power. -/
noncomputable def inv (i : Nat) : Nat := gi (ex i)
theorem inv_mul (i : Nat) : gm (ex i) (inv i) = 1 := gi_mul (ex_lt i) (ex_pos i)
theorem inv_lt (i : Nat) : inv i < 1024 := gi_lt _
theorem disc_places {c f : Nat → Nat} {n L j : Nat} (hc : ∀ i, c i < 1024) (hf : ∀ i, f i < 1024) (hL : L ≤ j) :
    disc f (syn c n) L j = xs n (fun i => gm (gm (c i) (val f L (inv i))) (ex (i * (j + 1)))) := by
  rw [disc_syn hc hf]
  exact xs_congr n fun i _ => by
    show gm (c i) (xs (L + 1) (fun k => gm (f k) (ex (i * (j - k + 1))))) = gm (gm (c i) (val f L (inv i))) (ex (i * (j + 1)))
    rw [place_sum hf hL (inv_lt i) (inv_mul i) (L + 1) (Nat.le_refl _), gm_assoc (hc _) (val_lt hf _ _) (ex_lt _), gm_comm (val_lt hf _ _) (ex_lt _)]
    rfl
/-- What is nought at each wrong place's inverse generates the syndromes. -/
theorem gen_of_roots {c f : Nat → Nat} {n L N : Nat} (hc : ∀ i, c i < 1024) (hf : ∀ i, f i < 1024) (h1 : f 0 = 1) (hz : ∀ i, L < i → f i = 0) (hr : ∀ i, i < n → c i ≠ 0 → val f L (inv i) = 0) : Gen f L (syn c n) N :=
  ⟨hf, h1, hz, fun j hj _ => by
    rw [disc_places hc hf hj]
    exact xs_zero n fun i hi => by
      show gm (gm (c i) (val f L (inv i))) _ = 0
      by_cases h : c i = 0
      · rw [h, gm_zero_left, gm_zero_left]
      · rw [hr i hi h, gm_zero_right, gm_zero_left]⟩
/-- What generates the syndromes of few wrong places is nought at each one's inverse. -/
theorem roots_of_gen {c f : Nat → Nat} {n L N : Nat} (hn : n ≤ 1023) (hc : ∀ i, c i < 1024) (hg : Gen f L (syn c n) N) (l : List Nat) (hl : L + l.length ≤ N) (hs : ∀ i, i < n → c i ≠ 0 → i ∈ l) : ∀ i, i < n → c i ≠ 0 → val f L (inv i) = 0 := by
  have hw : IsWord (fun i => gm (gm (c i) (val f L (inv i))) (ex (i * L))) n (N - L) := fun j hj => by
    have := hg.gen (L + j) (by omega) (by omega)
    rw [disc_places hc hg.lt (by omega)] at this
    rw [← this]
    exact xs_congr n fun i _ => by
      show gm (gm (gm (c i) (val f L (inv i))) (ex (i * L))) (ex (i * (j + 1))) = gm (gm (c i) (val f L (inv i))) (ex (i * (L + j + 1)))
      rw [gm_assoc (gm_lt (hc i) _) (ex_lt _) (ex_lt _), ex_add, ← Nat.mul_add, Nat.add_assoc]
  intro i hi h0
  have hz := word_light hn (fun i => gm_lt (gm_lt (hc i) _) _) hw l (by omega) (fun i hi hne => hs i hi (fun h => hne (by
    show gm (gm (c i) _) _ = 0
    rw [h, gm_zero_left, gm_zero_left]))) i hi
  by_cases hv : val f L (inv i) = 0
  · exact hv
  · exact absurd hz (gm_ne_zero (gm_lt (hc i) _) (ex_lt _) (gm_ne_zero (hc i) (val_lt hg.lt _ _) h0 hv) (ex_pos _))
end Go.Proofs.Ytnejnoiogojplaa
