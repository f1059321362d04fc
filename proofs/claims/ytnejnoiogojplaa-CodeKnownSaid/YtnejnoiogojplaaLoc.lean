/- The locator of some places: plain. -/
import Derived.Test.YtnejnoiogojplaaKey
namespace Go.Proofs.Ytnejnoiogojplaa

theorem hor_val {f : Nat → Nat} {y : Nat} (hf : ∀ i, f i < 1024) (hy : y < 1024) : ∀ m s, hor f y s m = xs m (fun k => gm (f (s + k)) (yp y k))
  | 0, s => rfl
  | m + 1, s => by
    rw [hor, hor_val hf hy m (s + 1), xs_head, xs_gm (fun k => gm_lt (hf _) _), Nat.xor_comm]
    congr 1
    · exact (gm_one_right _).symm
    · exact xs_congr m fun k _ => by
        show gm (gm (f (s + 1 + k)) (yp y k)) y = gm (f (s + (k + 1))) (gm (yp y k) y)
        rw [gm_assoc (hf _) (yp_lt hy _) hy, show s + 1 + k = s + (k + 1) by omega]
theorem val_hor {f : Nat → Nat} {L y : Nat} (hf : ∀ i, f i < 1024) (hy : y < 1024) : val f L y = hor f y 0 (L + 1) := by
  rw [hor_val hf hy]
  exact xs_congr (L + 1) fun k _ => by
    show gm (f k) (yp y k) = gm (f (0 + k)) (yp y k)
    rw [Nat.zero_add]
/-- The locator of the places l. -/
noncomputable def locOf (l : List Nat) : Nat → Nat := scl (gi (prodL (l.map inv) 0)) (prodL (l.map inv))
theorem prodL_zero : ∀ (l : List Nat), (∀ r ∈ l, r < 1024 ∧ r ≠ 0) → prodL l 0 ≠ 0
  | [], _ => by
    show (if 0 = 0 then 1 else 0) ≠ 0
    rw [if_pos rfl]
    omega
  | r :: l, h => by
    have hr := h r (List.mem_cons_self ..)
    have hp := prodL_pol l (fun x hx => (h x (List.mem_cons_of_mem _ hx)).1)
    have ih := prodL_zero l (fun x hx => h x (List.mem_cons_of_mem _ hx))
    have e : prodL (r :: l) 0 = gm (prodL l 0) r := by
      show pmul (prodL l) (linR r) 0 = gm (prodL l 0) r
      show 0 ^^^ gm (prodL l 0) (linR r (0 - 0)) = gm (prodL l 0) r
      rw [Nat.zero_xor]
      rfl
    rw [e]
    exact gm_ne_zero (hp.lt 0) hr.1 ih hr.2
theorem inv_ne (i : Nat) : inv i ≠ 0 := gi_ne_zero (ex_pos i)
theorem inv_all (l : List Nat) : ∀ r ∈ l.map inv, r < 1024 ∧ r ≠ 0 := fun r hr => by
  obtain ⟨i, _, rfl⟩ := List.mem_map.1 hr
  exact ⟨inv_lt i, inv_ne i⟩
/-- The locator generates the syndromes of a word that is wrong at its places alone. -/
theorem gen_locOf {c : Nat → Nat} {n N : Nat} (hc : ∀ i, c i < 1024) (l : List Nat) (hs : ∀ i, i < n → c i ≠ 0 → i ∈ l) : Gen (locOf l) l.length (syn c n) N := by
  have ha := inv_all l
  have hp := prodL_pol (l.map inv) (fun r hr => (ha r hr).1)
  have h0 := prodL_zero (l.map inv) ha
  rw [List.length_map] at hp
  refine gen_of_roots hc (fun i => gm_lt (gi_lt _) _) ?_ (fun i hi => ?_) (fun i hi hci => ?_)
  · show gm (gi (prodL (l.map inv) 0)) (prodL (l.map inv) 0) = 1
    rw [gm_comm (gi_lt _) (hp.lt 0), gi_mul (hp.lt 0) h0]
  · show gm _ (prodL (l.map inv) i) = 0
    rw [hp.zero i (by omega), gm_zero_right]
  · rw [val_hor (f := locOf l) (fun i => gm_lt (gi_lt _) _) (inv_lt i)]
    show hor (scl _ (prodL (l.map inv))) (inv i) 0 (l.length + 1) = 0
    rw [hor_scl hp.lt (gi_lt _) (inv_lt i)]
    have := (prodL_root (inv_lt i) (l.map inv) (fun r hr => (ha r hr).1)).2 (List.mem_map.2 ⟨i, hs i hi hci, rfl⟩)
    rw [List.length_map] at this
    rw [this, gm_zero_right]
end Go.Proofs.Ytnejnoiogojplaa
