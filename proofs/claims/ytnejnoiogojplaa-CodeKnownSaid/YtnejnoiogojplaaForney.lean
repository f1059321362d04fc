/- What was added at a wrong place, by the evaluator and the slope of the locator: plain. -/
import Derived.Test.YtnejnoiogojplaaFound
namespace Go.Proofs.Ytnejnoiogojplaa

/-- A partial value by X: R j = f 0 X^j + .. + f j. -/
def run (f : Nat → Nat) (X : Nat) : Nat → Nat
  | 0 => f 0
  | j + 1 => gm (run f X j) X ^^^ f (j + 1)
theorem run_lt {f : Nat → Nat} (hf : ∀ i, f i < 1024) (X : Nat) : ∀ j, run f X j < 1024
  | 0 => hf 0
  | j + 1 => xor_lt (gm_lt (run_lt hf X j) X) (hf _)
/-- (1 + X y) (R 0 + R 1 y + .. + R (N - 1) y^(N-1)) = f 0 + .. + f (N-1) y^(N-1) + y^N X R (N - 1). -/
theorem run_sum {f : Nat → Nat} {X y : Nat} (hf : ∀ i, f i < 1024) (hX : X < 1024) (hy : y < 1024) : ∀ N,
    gm (xs (N + 1) (fun j => gm (run f X j) (yp y j))) (1 ^^^ gm X y) = xs (N + 1) (fun j => gm (f j) (yp y j)) ^^^ gm (gm (run f X N) X) (yp y (N + 1))
  | 0 => by
    show gm (0 ^^^ gm (f 0) 1) (1 ^^^ gm X y) = (0 ^^^ gm (f 0) 1) ^^^ gm (gm (f 0) X) (gm 1 y)
    rw [Nat.zero_xor, gm_one_right, gm_add_right, gm_one_right, gm_one_left hy, gm_assoc (hf 0) hX hy]
  | N + 1 => by
    have hr := run_lt hf X N
    have hr1 := run_lt hf X (N + 1)
    have hp := yp_lt hy (N + 1)
    rw [show xs (N + 1 + 1) (fun j => gm (run f X j) (yp y j)) = xs (N + 1) (fun j => gm (run f X j) (yp y j)) ^^^ gm (run f X (N + 1)) (yp y (N + 1)) from rfl, gm_add_left (xs_lt _ (fun i _ => gm_lt (run_lt hf X i) _)) (gm_lt hr1 _), run_sum hf hX hy N, gm_add_right (gm _ _) 1, gm_one_right, show xs (N + 1 + 1) (fun j => gm (f j) (yp y j)) = xs (N + 1) (fun j => gm (f j) (yp y j)) ^^^ gm (f (N + 1)) (yp y (N + 1)) from rfl]
    have e1 : gm (run f X (N + 1)) (yp y (N + 1)) = gm (gm (run f X N) X) (yp y (N + 1)) ^^^ gm (f (N + 1)) (yp y (N + 1)) := gm_add_left (gm_lt hr _) (hf _) _
    have e2 : gm (gm (run f X (N + 1)) (yp y (N + 1))) (gm X y) = gm (gm (run f X (N + 1)) X) (yp y (N + 1 + 1)) := by
      show _ = gm (gm (run f X (N + 1)) X) (gm (yp y (N + 1)) y)
      rw [gm_assoc hr1 hp (gm_lt hX _), gm_assoc hr1 hX (gm_lt hp _), ← gm_assoc hp hX hy, gm_comm hp hX, gm_assoc hX hp hy]
    rw [e2, e1]
    generalize xs (N + 1) (fun j => gm (f j) (yp y j)) = A
    generalize gm (gm (run f X N) X) (yp y (N + 1)) = B
    generalize gm (f (N + 1)) (yp y (N + 1)) = C
    generalize gm (gm (run f X (N + 1)) X) (yp y (N + 1 + 1)) = D
    rw [Nat.xor_assoc A B, ← Nat.xor_assoc B _ D, ← Nat.xor_assoc B B C, Nat.xor_self, Nat.zero_xor, Nat.xor_assoc A C D]
/-- At y = 1 / X the run is the value so far. -/
theorem run_inv {f : Nat → Nat} {i y : Nat} (hf : ∀ i, f i < 1024) (hy : y < 1024) (hi : gm (ex i) y = 1) : ∀ j, gm (run f (ex i) j) (yp y j) = xs (j + 1) (fun k => gm (f k) (yp y k))
  | 0 => by
    show gm (f 0) 1 = 0 ^^^ gm (f 0) 1
    rw [Nat.zero_xor]
  | j + 1 => by
    have hr := run_lt hf (ex i) j
    rw [xs, ← run_inv hf hy hi j]
    show gm (gm (run f (ex i) j) (ex i) ^^^ f (j + 1)) (gm (yp y j) y) = _
    rw [gm_add_left (gm_lt hr _) (hf _)]
    congr 1
    rw [gm_assoc hr (ex_lt i) (gm_lt (yp_lt hy j) _), ← gm_assoc (ex_lt i) (yp_lt hy j) hy, gm_comm (ex_lt i) (yp_lt hy j), gm_assoc (yp_lt hy j) (ex_lt i) hy, hi, gm_one_right]
/-- The sums so far, two by two: what is left are the odd ones. -/
theorem pair_sum (h : Nat → Nat) : ∀ N, xs (2 * N) (fun j => xs (j + 1) h) = xs N (fun a => h (2 * a + 1))
  | 0 => rfl
  | N + 1 => by
    show xs (2 * N) _ ^^^ xs (2 * N + 1) h ^^^ xs (2 * N + 1 + 1) h = xs N _ ^^^ h (2 * N + 1)
    rw [pair_sum h N, show xs (2 * N + 1 + 1) h = xs (2 * N + 1) h ^^^ h (2 * N + 1) from rfl, Nat.xor_assoc, xor_cancel]
/-- The slope at y, by its odd coefficients. -/
theorem slope_val {f : Nat → Nat} {y : Nat} : ∀ N, xs (2 * N) (fun k => gm (pslope f k) (yp y k)) = xs N (fun a => gm (f (2 * a + 1)) (yp y (2 * a)))
  | 0 => rfl
  | N + 1 => by
    show xs (2 * N) _ ^^^ gm (pslope f (2 * N)) (yp y (2 * N)) ^^^ gm (pslope f (2 * N + 1)) (yp y (2 * N + 1)) = _ ^^^ gm (f (2 * N + 1)) (yp y (2 * N))
    rw [slope_val N, show pslope f (2 * N) = f (2 * N + 1) from if_pos (by omega), show pslope f (2 * N + 1) = 0 from if_neg (by omega), gm_zero_left, Nat.xor_zero]

/-- The product's coefficient, place by place. -/
theorem pmul_syn {c f : Nat → Nat} {n : Nat} (hc : ∀ i, c i < 1024) (hf : ∀ i, f i < 1024) (j : Nat) :
    pmul f (syn c n) j = xs n (fun i => gm (c i) (gm (ex i) (run f (ex i) j))) := by
  have e1 : ∀ k, k < j + 1 → gm (f k) (syn c n (j - k)) = xs n (fun i => gm (c i) (gm (f k) (ex (i * (j - k + 1))))) := fun k _ => by
    unfold syn
    rw [gm_xs]
    exact xs_congr n fun i _ => by
      show gm (f k) (gm (c i) (ex (i * (j - k + 1)))) = gm (c i) (gm (f k) (ex (i * (j - k + 1))))
      rw [← gm_assoc (hf _) (hc _) (ex_lt _), gm_comm (hf _) (hc _), gm_assoc (hc _) (hf _) (ex_lt _)]
  have e2 : ∀ i j, xs (j + 1) (fun k => gm (f k) (ex (i * (j - k + 1)))) = gm (ex i) (run f (ex i) j) := fun i j => by
    induction j with
    | zero =>
      show 0 ^^^ gm (f 0) (ex (i * 1)) = gm (ex i) (f 0)
      rw [Nat.zero_xor, Nat.mul_one, gm_comm (hf 0) (ex_lt i)]
    | succ j ih =>
      have e3 : xs (j + 1) (fun k => gm (f k) (ex (i * (j + 1 - k + 1)))) = gm (ex i) (xs (j + 1) (fun k => gm (f k) (ex (i * (j - k + 1))))) := by
        rw [gm_xs]
        exact xs_congr (j + 1) fun k hk => by
          show gm (f k) (ex (i * (j + 1 - k + 1))) = gm (ex i) (gm (f k) (ex (i * (j - k + 1))))
          rw [← gm_assoc (ex_lt i) (hf _) (ex_lt _), gm_comm (ex_lt i) (hf _), gm_assoc (hf _) (ex_lt i) (ex_lt _), ex_add, show j + 1 - k + 1 = 1 + (j - k + 1) by omega, Nat.mul_add i 1, Nat.mul_one]
      rw [xs, e3, ih, show j + 1 - (j + 1) + 1 = 1 by omega, Nat.mul_one]
      show gm (ex i) (gm (ex i) (run f (ex i) j)) ^^^ gm (f (j + 1)) (ex i) = gm (ex i) (gm (run f (ex i) j) (ex i) ^^^ f (j + 1))
      rw [gm_add_right, gm_comm (ex_lt i) (run_lt hf _ _), gm_comm (hf _) (ex_lt i)]
  unfold pmul
  rw [xs_congr _ e1, xs_swap]
  exact xs_congr n fun i _ => by
    show xs (j + 1) (fun k => gm (c i) (gm (f k) (ex (i * (j - k + 1))))) = _
    rw [← gm_xs, e2]
theorem disc_pmul {f S : Nat → Nat} {L n : Nat} (hz : ∀ i, L < i → f i = 0) (h : L ≤ n) : disc f S L n = pmul f S n :=
  (xs_more (L + 1) (n + 1) (by omega) (fun i h1 _ => by
    show gm (f i) _ = 0
    rw [hz i (by omega), gm_zero_left])).symm
/-- Forney: f is nought at each wrong place and at the place k: the evaluator there is what is wrong, times the slope. -/
theorem forney {c f : Nat → Nat} {n L k : Nat} (hn : n ≤ 1023) (hc : ∀ i, c i < 1024) (hf : ∀ i, f i < 1024) (hz : ∀ i, L < i → f i = 0) (hL : L ≤ 15) (hk : k < n)
    (hr : ∀ i, i < n → c i ≠ 0 → val f L (inv i) = 0) (hrk : val f L (inv k) = 0) :
    xs 16 (fun j => gm (pmul f (syn c n) j) (yp (inv k) j)) = gm (c k) (xs 16 (fun j => gm (pslope f j) (yp (inv k) j))) := by
  have hy := inv_lt k
  have hval : ∀ i, val f L (inv i) = xs 16 (fun k => gm (f k) (yp (inv i) k)) := fun i =>
    (xs_more (L + 1) 16 (by omega) (fun m h1 _ => by
      show gm (f m) _ = 0
      rw [hz m (by omega), gm_zero_left])).symm
  have hG : ∀ i j, gm (c i) (gm (ex i) (run f (ex i) j)) < 1024 := fun i j => gm_lt (hc i) _
  have e1 : ∀ j, j < 16 → gm (pmul f (syn c n) j) (yp (inv k) j) = xs n (fun i => gm (gm (c i) (ex i)) (gm (run f (ex i) j) (yp (inv k) j))) := fun j _ => by
    rw [pmul_syn hc hf, xs_gm (hG · j)]
    exact xs_congr n fun i _ => by
      have hrn := run_lt hf (ex i) j
      show gm (gm (c i) (gm (ex i) (run f (ex i) j))) (yp (inv k) j) = gm (gm (c i) (ex i)) (gm (run f (ex i) j) (yp (inv k) j))
      rw [← gm_assoc (hc i) (ex_lt i) hrn, gm_assoc (gm_lt (hc i) _) hrn (yp_lt hy j)]
  rw [xs_congr 16 e1, xs_swap]
  have e2 : ∀ i, xs 16 (fun j => gm (gm (c i) (ex i)) (gm (run f (ex i) j) (yp (inv k) j))) = gm (gm (c i) (ex i)) (xs 16 (fun j => gm (run f (ex i) j) (yp (inv k) j))) := fun i => (gm_xs _ _).symm
  rw [xs_one n k hk (fun i hi hik => ?_)]
  · show xs 16 (fun j => gm (gm (c k) (ex k)) (gm (run f (ex k) j) (yp (inv k) j))) = _
    rw [e2, xs_congr 16 (fun j _ => run_inv hf hy (inv_mul k) j), pair_sum _ 8, slope_val 8, gm_assoc (hc k) (ex_lt k) (xs_lt _ (fun a _ => gm_lt (hf _) _)), gm_xs]
    congr 1
    exact xs_congr 8 fun a _ => by
      have hp := yp_lt hy (2 * a)
      show gm (ex k) (gm (f (2 * a + 1)) (gm (yp (inv k) (2 * a)) (inv k))) = gm (f (2 * a + 1)) (yp (inv k) (2 * a))
      rw [← gm_assoc (ex_lt k) (hf _) (gm_lt hp _), gm_comm (ex_lt k) (hf _), gm_assoc (hf _) (ex_lt k) (gm_lt hp _), ← gm_assoc (ex_lt k) hp hy, gm_comm (ex_lt k) hp, gm_assoc hp (ex_lt k) hy, inv_mul, gm_one_right]
  · rw [e2]
    by_cases h0 : c i = 0
    · rw [h0, gm_zero_left, gm_zero_left]
    · have hs := run_sum hf (ex_lt i) hy 15
      have hri := hr i hi h0
      rw [hval] at hri hrk
      have hend : run f (ex i) 15 = 0 := by
        have := run_inv hf (inv_lt i) (inv_mul i) 15
        rw [hri] at this
        by_cases h : run f (ex i) 15 = 0
        · exact h
        · refine absurd this (gm_ne_zero (run_lt hf _ _) (yp_lt (inv_lt i) _) h ?_)
          have : ∀ m, yp (inv i) m ≠ 0 := fun m => by
            induction m with
            | zero => show 1 ≠ 0; omega
            | succ m ih => exact gm_ne_zero (yp_lt (inv_lt i) _) (inv_lt i) ih (inv_ne i)
          exact this 15
      rw [hend, gm_zero_left, gm_zero_left, Nat.xor_zero, hrk] at hs
      have hne : 1 ^^^ gm (ex i) (inv k) ≠ 0 := fun e => by
        have e3 : gm (ex i) (inv k) = 1 := (xor_eq_zero e).symm
        refine hik (ex_inj (by omega) (by omega) (gm_cancel (inv_lt k) (ex_lt i) (ex_lt k) (inv_ne k) ?_))
        rw [gm_comm (inv_lt k) (ex_lt i), e3, gm_comm (inv_lt k) (ex_lt k), inv_mul]
      by_cases hx : xs 16 (fun j => gm (run f (ex i) j) (yp (inv k) j)) = 0
      · rw [hx, gm_zero_right]
      · exact absurd hs (gm_ne_zero (xs_lt _ (fun j _ => gm_lt (run_lt hf _ _) _)) (xor_lt (by omega) (gm_lt (ex_lt i) _)) hx hne)
/-- A polynomial of a degree not above the number of its roots in l has a slope there that is not nought. -/
theorem slope_ne {f : Nat → Nat} {d : Nat} (hf : ∀ i, f i < 1024) (hz : ∀ i, d < i → f i = 0) (h1 : ∃ i, f i ≠ 0) (l : List Nat) (hn : l.Nodup) (hl : l.length = d) (hr : ∀ r ∈ l, r < 1024 ∧ hor f r 0 (d + 1) = 0) (r : Nat) (hrl : r ∈ l) :
    hor (pslope f) r 0 (d + 1) ≠ 0 := by
  have h0 := hr r hrl
  obtain ⟨d, rfl⟩ : ∃ k, d = k + 1 := ⟨d - 1, by have := List.length_pos_of_mem hrl; omega⟩
  have hs := qr_split hf hz h0.1 h0.2
  have hq := qr_lt hf r (d + 1)
  have hqz : ∀ i, d < i → qr f r (d + 1) i = 0 := fun i hi => by
    unfold qr
    exact hor_zero _ _ (fun k hk => hz k (by omega))
  have hval : ∀ x, x < 1024 → hor f x 0 (d + 1 + 1) = gm (hor (qr f r (d + 1)) x 0 (d + 1)) (x ^^^ r) := fun x hx => by
    have e : hor f x 0 (d + 1 + 1) = hor (padd (mulx (qr f r (d + 1))) (scl r (qr f r (d + 1)))) x 0 (d + 1 + 1) := by rw [← hs]
    rw [e, hor_padd (mulx_lt hq) (scl_lt h0.1), hor_mulx, hor_scl hq h0.1 hx, hor_more 0 (d + 1) (d + 1 + 1) (by omega) (fun i hi => hqz i (by omega)), gm_comm h0.1 (hor_lt hq _ _), ← gm_add_right]
  have hsl : hor (pslope f) r 0 (d + 1 + 1) = hor (qr f r (d + 1)) r 0 (d + 1) := by
    have e : pslope f = padd (padd (qr f r (d + 1)) (mulx (pslope (qr f r (d + 1))))) (scl r (pslope (qr f r (d + 1)))) := by
      rw [← slope_mulx, ← slope_scl, ← slope_padd, ← hs]
    have hsq := slope_lt hq
    have hsz : ∀ i, d + 1 ≤ i → pslope (qr f r (d + 1)) i = 0 := fun i hi => by
      unfold pslope
      split
      · exact hqz _ (by omega)
      · rfl
    rw [e, hor_padd (padd_lt hq (mulx_lt hsq)) (scl_lt h0.1), hor_padd hq (mulx_lt hsq), hor_mulx, hor_scl hsq h0.1 h0.1, hor_more 0 (d + 1) (d + 1 + 1) (by omega) (fun i hi => hqz i (by omega)), hor_more 0 (d + 1) (d + 1 + 1) (by omega) (fun i hi => hsz i (by omega)), gm_comm h0.1 (hor_lt hsq _ _), Nat.xor_assoc, Nat.xor_self, Nat.xor_zero]
  rw [hsl]
  intro hq0
  have hall := few_roots d (qr f r (d + 1)) l hq hqz hn (fun x hx => by
    have hxx := hr x hx
    refine ⟨hxx.1, ?_⟩
    by_cases hxr : x = r
    · rw [hxr]; exact hq0
    · have e := hxx.2
      rw [hval x hxx.1] at e
      by_cases hv : hor (qr f r (d + 1)) x 0 (d + 1) = 0
      · exact hv
      · exact absurd e (gm_ne_zero (hor_lt hq _ _) (xor_lt hxx.1 h0.1) hv (fun h => hxr (xor_eq_zero h)))) (by omega)
  obtain ⟨i, hi⟩ := h1
  refine hi ?_
  rw [hs]
  show mulx (qr f r (d + 1)) i ^^^ gm r (qr f r (d + 1) i) = 0
  rw [hall i, gm_zero_right, Nat.xor_zero]
  unfold mulx
  split
  · rfl
  · exact hall _
end Go.Proofs.Ytnejnoiogojplaa
