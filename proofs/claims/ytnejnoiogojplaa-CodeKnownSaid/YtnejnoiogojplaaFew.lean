/- A polynomial has no more roots than its degree: plain. -/
import Derived.Test.YtnejnoiogojplaaLoc
namespace Go.Proofs.Ytnejnoiogojplaa

/-- The quotient by x + r. -/
def qr (f : Nat → Nat) (r d : Nat) : Nat → Nat := fun j => hor f r (j + 1) (d - j)
theorem qr_lt {f : Nat → Nat} (hf : ∀ i, f i < 1024) (r d j : Nat) : qr f r d j < 1024 := hor_lt hf _ _
theorem qr_split {f : Nat → Nat} {r d : Nat} (hf : ∀ i, f i < 1024) (hz : ∀ i, d < i → f i = 0) (hr : r < 1024) (h0 : hor f r 0 (d + 1) = 0) : f = padd (mulx (qr f r d)) (scl r (qr f r d)) := funext fun j => by
  show f j = mulx (qr f r d) j ^^^ gm r (qr f r d j)
  have hH : ∀ j, j ≤ d → hor f r j (d + 1 - j) = gm (qr f r d j) r ^^^ f j := fun j hj => by
    rw [show d + 1 - j = (d - j) + 1 by omega, hor]
    rfl
  rw [gm_comm hr (qr_lt hf _ _ _)]
  rcases Nat.lt_or_ge d j with h | h
  · rw [hz j h]
    have e1 : qr f r d j = 0 := by
      unfold qr
      rw [show d - j = 0 by omega]
      rfl
    have e2 : mulx (qr f r d) j = 0 := by
      unfold mulx
      rw [if_neg (by omega)]
      exact hor_zero _ _ (fun i hi => hz i (by omega))
    rw [e1, e2, gm_zero_left]
    rfl
  · have e := hH j h
    rcases j with _ | j
    · rw [show d + 1 - 0 = d + 1 by omega, h0] at e
      rw [show mulx (qr f r d) 0 = 0 from rfl, Nat.zero_xor]
      exact (xor_eq_zero e.symm).symm
    · have e2 : mulx (qr f r d) (j + 1) = hor f r (j + 1) (d + 1 - (j + 1)) := by
        unfold mulx qr
        rw [if_neg (by omega), Nat.add_sub_cancel, show d + 1 - (j + 1) = d - j by omega]
      rw [e2, e, Nat.xor_comm (gm _ _), xor_cancel_right]
theorem few_roots : ∀ (d : Nat) (f : Nat → Nat) (l : List Nat), (∀ i, f i < 1024) → (∀ i, d < i → f i = 0) → l.Nodup → (∀ r ∈ l, r < 1024 ∧ hor f r 0 (d + 1) = 0) → d < l.length → ∀ i, f i = 0
  | d, f, [], _, _, _, _, hl => by simp at hl
  | 0, f, r :: l, hf, hz, _, hr, _ => fun i => by
    rcases i with _ | i
    · have := (hr r (List.mem_cons_self ..)).2
      rw [show hor f r 0 (0 + 1) = gm 0 r ^^^ f 0 from rfl, gm_zero_left, Nat.zero_xor] at this
      exact this
    · exact hz _ (by omega)
  | d + 1, f, r :: l, hf, hz, hn, hr, hl => by
    have h0 := hr r (List.mem_cons_self ..)
    have hs := qr_split hf hz h0.1 h0.2
    have hq := qr_lt hf r (d + 1)
    have hqz : ∀ i, d < i → qr f r (d + 1) i = 0 := fun i hi => by
      unfold qr
      exact hor_zero _ _ (fun k hk => hz k (by omega))
    have hq0 := few_roots d (qr f r (d + 1)) l hq hqz (List.nodup_cons.1 hn).2 (fun x hx => by
      have hxx := hr x (List.mem_cons_of_mem _ hx)
      refine ⟨hxx.1, ?_⟩
      have e := hxx.2
      rw [hs, hor_padd (mulx_lt hq) (scl_lt h0.1), hor_mulx, hor_scl hq h0.1 hxx.1, hor_more 0 (d + 1) (d + 1 + 1) (by omega) (fun i hi => hqz i (by omega)), gm_comm h0.1 (hor_lt hq _ _), ← gm_add_right] at e
      by_cases hv : hor (qr f r (d + 1)) x 0 (d + 1) = 0
      · exact hv
      · have hne : x ^^^ r ≠ 0 := fun h => (List.nodup_cons.1 hn).1 (xor_eq_zero h ▸ hx)
        exact absurd e (gm_ne_zero (hor_lt hq _ _) (xor_lt hxx.1 h0.1) hv hne)) (by simpa using hl)
    intro i
    rw [hs]
    show mulx (qr f r (d + 1)) i ^^^ gm r (qr f r (d + 1) i) = 0
    rw [hq0 i, gm_zero_right, Nat.xor_zero]
    unfold mulx
    split
    · rfl
    · exact hq0 _
end Go.Proofs.Ytnejnoiogojplaa
