/- What the divisions of Euclid find: plain. -/
import Derived.Test.YtnejnoiogojplaaForney
namespace Go.Proofs.Ytnejnoiogojplaa

theorem pmul_scl (c : Nat) {f g : Nat → Nat} (hc : c < 1024) (hf : ∀ i, f i < 1024) (hg : ∀ i, g i < 1024) : pmul (scl c f) g = scl c (pmul f g) := funext fun k => by
  show xs (k + 1) (fun i => gm (gm c (f i)) (g (k - i))) = gm c (xs (k + 1) fun i => gm (f i) (g (k - i)))
  rw [gm_xs]
  exact xs_congr (k + 1) fun i _ => gm_assoc hc (hf i) (hg _)
theorem pmul_assoc {g h : Nat → Nat} (hg : ∀ i, g i < 1024) (hh : ∀ i, h i < 1024) : ∀ (n : Nat) (f : Nat → Nat), (∀ i, f i < 1024) → (∀ i, n ≤ i → f i = 0) → pmul (pmul f g) h = pmul f (pmul g h)
  | 0, f, hf, hz => by
    rw [show f = fun _ => 0 from funext fun i => hz i (by omega), pmul_nil_left, pmul_nil_left, pmul_nil_left]
  | n + 1, f, hf, hz => by
    have ih := pmul_assoc hg hh n (shf f) (shf_lt hf) (fun i hi => hz _ (by omega))
    rw [pmul_step f g, pmul_add_left (scl_lt (hf 0)) (mulx_lt (pmul_lt (shf_lt hf))), pmul_scl _ (hf 0) hg hh, pmul_mulx, ih, ← pmul_step f (pmul g h)]
/-- Below 16 a product hangs on what is below 16. -/
theorem pmul_low {f g h : Nat → Nat} {j : Nat} (hj : j < 16) (e : ∀ i, i < 16 → g i = h i) : pmul f g j = pmul f h j :=
  xs_congr (j + 1) fun i hi => by rw [e (j - i) (by omega)]

/-- What the loop of divisions holds. -/
structure Euc (S a b u v : Nat → Nat) (la lb lu lv : Nat) : Prop where
  pa : IsPol a la
  pb : IsPol b lb
  pu : IsPol u lu
  pv : IsPol v lv
  down : lb < la
  v0 : lu < lv
  sum : lv + la = 18
  av : ∀ j, j < 16 → pmul v S j = b j
  au : ∀ j, j < 16 → pmul u S j = a j
  big : 9 ≤ la
theorem IsPol.ne {f : Nat → Nat} {n : Nat} (h : IsPol f n) (h0 : 0 < n) : ∃ i, f i ≠ 0 := ⟨n - 1, h.lead h0⟩

theorem roots_of_gen' {c f : Nat → Nat} {n L N : Nat} (hn : n ≤ 1023) (hc : ∀ i, c i < 1024) (hf : ∀ i, f i < 1024) (hg : ∀ j, L ≤ j → j < N → disc f (syn c n) L j = 0) (l : List Nat) (hl : L + l.length ≤ N) (hs : ∀ i, i < n → c i ≠ 0 → i ∈ l) : ∀ i, i < n → c i ≠ 0 → val f L (inv i) = 0 := by
  have hw : IsWord (fun i => gm (gm (c i) (val f L (inv i))) (ex (i * L))) n (N - L) := fun j hj => by
    have := hg (L + j) (by omega) (by omega)
    rw [disc_places hc hf (by omega)] at this
    rw [← this]
    exact xs_congr n fun i _ => by
      show gm (gm (gm (c i) (val f L (inv i))) (ex (i * L))) (ex (i * (j + 1))) = gm (gm (c i) (val f L (inv i))) (ex (i * (L + j + 1)))
      rw [gm_assoc (gm_lt (hc i) _) (ex_lt _) (ex_lt _), ex_add, ← Nat.mul_add, Nat.add_assoc]
  intro i hi h0
  have hz := word_light hn (fun i => gm_lt (gm_lt (hc i) _) _) hw l (by omega) (fun i hi hne => hs i hi (fun h => hne (by
    show gm (gm (c i) _) _ = 0
    rw [h, gm_zero_left, gm_zero_left]))) i hi
  by_cases hv : val f L (inv i) = 0
  · exact hv
  · exact absurd hz (gm_ne_zero (gm_lt (hc i) _) (ex_lt _) (gm_ne_zero (hc i) (val_lt hf _ _) h0 hv) (ex_pos _))
theorem val_more {f : Nat → Nat} {L M y : Nat} (hz : ∀ i, L < i → f i = 0) (h : L ≤ M) : val f M y = val f L y :=
  xs_more (L + 1) (M + 1) (by omega) (fun i h1 _ => by
    show gm (f i) _ = 0
    rw [hz i (by omega), gm_zero_left])
theorem gen_of_roots' {c f : Nat → Nat} {n L j : Nat} (hc : ∀ i, c i < 1024) (hf : ∀ i, f i < 1024) (hr : ∀ i, i < n → c i ≠ 0 → val f L (inv i) = 0) (hj : L ≤ j) : disc f (syn c n) L j = 0 := by
  rw [disc_places hc hf hj]
  exact xs_zero n fun i hi => by
    show gm (gm (c i) (val f L (inv i))) _ = 0
    by_cases h : c i = 0
    · rw [h, gm_zero_left, gm_zero_left]
    · rw [hr i hi h, gm_zero_right, gm_zero_left]

/-- At most eight wrong places, l: the last divisor has just these as its roots, and no more. -/
theorem euc_found {c a b u v : Nat → Nat} {n la lb lu lv : Nat} (hn : n ≤ 1023) (hc : ∀ i, c i < 1024) (l : List Nat) (hd : l.Nodup) (hl8 : l.length ≤ 8) (hl : ∀ i, i ∈ l ↔ i < n ∧ c i ≠ 0) (h : Euc (syn c n) a b u v la lb lu lv) (hb : lb ≤ 8) :
    lv = l.length + 1 ∧ ∀ i, i < n → (val v (lv - 1) (inv i) = 0 ↔ i ∈ l) := by
  have hsum := h.sum
  have hbig := h.big
  have hv0 := h.v0
  have hls : ∀ i, i < n → c i ≠ 0 → i ∈ l := fun i hi h0 => (hl i).2 ⟨hi, h0⟩
  have hvz : ∀ i, lv - 1 < i → v i = 0 := fun i hi => h.pv.zero i (by omega)
  have hr : ∀ i, i ∈ l → val v (lv - 1) (inv i) = 0 := fun i hi => by
    rw [← val_more (M := 8) hvz (by omega)]
    exact roots_of_gen' (N := 16) hn hc h.pv.lt (fun j h1 h2 => by
      rw [disc_pmul (fun i hi => h.pv.zero i (by omega)) h1, h.av j h2]
      exact h.pb.zero j (by omega)) l (by omega) hls i ((hl i).1 hi).1 ((hl i).1 hi).2
  have few : ∀ m : List Nat, m.Nodup → (∀ i ∈ m, i < 1023 ∧ val v (lv - 1) (inv i) = 0) → m.length ≤ lv - 1 := fun m hm hv => by
    rcases Nat.lt_or_ge (lv - 1) m.length with hlt | hge
    · exfalso
      have := few_roots (lv - 1) v (m.map inv) h.pv.lt hvz (inv_nodup hm (fun i hi => (hv i hi).1)) (fun r hr => by
        obtain ⟨i, hi, rfl⟩ := List.mem_map.1 hr
        exact ⟨inv_lt i, by rw [← val_hor h.pv.lt (inv_lt i)]; exact (hv i hi).2⟩) (by rw [List.length_map]; exact hlt) (lv - 1)
      exact h.pv.lead (by omega) this
    · exact hge
  have h2 := few l hd (fun i hi => ⟨by have := ((hl i).1 hi).1; omega, hr i hi⟩)
  have h3 : lv - 1 ≤ l.length := by
    rcases Nat.lt_or_ge l.length (lv - 1) with hlt | hge
    · exfalso
      have hla : la + l.length ≤ 16 := by omega
      have hau : ∀ j, j < 16 → pmul u (syn c n) j = a j := h.au
      have huz : ∀ i, lu - 1 < i → u i = 0 := fun i hi => h.pu.zero i (by omega)
      have hru := roots_of_gen' (L := la) (N := 16) hn hc h.pu.lt (fun j h1 h2 => by
        rw [disc_pmul (fun i hi => h.pu.zero i (by omega)) h1, hau j h2]
        exact h.pa.zero j (by omega)) l (by omega) hls
      have hz := gen_of_roots' (L := lu - 1) (j := la - 1) hc h.pu.lt (fun i hi h0 => by
        rw [← val_more (M := la) huz (by omega)]
        exact hru i hi h0) (by omega)
      rw [disc_pmul huz (by omega), hau _ (by omega)] at hz
      exact h.pa.lead (by omega) hz
    · exact hge
  refine ⟨by omega, fun i hi => ⟨fun hv => ?_, hr i⟩⟩
  by_cases hil : i ∈ l
  · exact hil
  · have := few (i :: l) (List.nodup_cons.2 ⟨hil, hd⟩) (fun j hj => by
      rcases List.mem_cons.1 hj with rfl | hj
      · exact ⟨by omega, hv⟩
      · exact ⟨by have := ((hl j).1 hj).1; omega, hr j hj⟩)
    rw [List.length_cons] at this
    omega
/-- One more division. -/
theorem Euc.step {S a b u v q r u2 : Nat → Nat} {la lb lu lv lr lu2 : Nat} (hS : ∀ i, S i < 1024) (h : Euc S a b u v la lb lu lv) (h9 : 9 ≤ lb) (hq : IsPol q (la - lb + 1)) (hr : IsPol r lr) (hlr : lr < lb)
    (hsum : padd (pmul q b) r = a) (hu2 : IsPol u2 lu2) (e2 : u2 = padd u (pmul q v)) : Euc S b r v u2 lb lr lv lu2 := by
  have hdown := h.down
  have hv0 := h.v0
  have hs := h.sum
  have hqv := pmul_pol hq h.pv (by omega) (by omega)
  obtain rfl : lu2 = la - lb + 1 + lv - 1 := by
    rw [e2] at hu2
    have := padd_len_ne h.pu hqv hu2 (by omega)
    omega
  refine ⟨h.pb, hr, h.pv, hu2, hlr, by omega, by omega, fun j hj => ?_, h.av, h9⟩
  rw [e2, pmul_add_left h.pu.lt (pmul_lt hq.lt)]
  show pmul u S j ^^^ pmul (pmul q v) S j = r j
  rw [pmul_assoc h.pv.lt hS _ q hq.lt hq.zero, pmul_low hj h.av]
  have hj2 : pmul u S j = a j := h.au j hj
  have := congrFun hsum j
  rw [hj2, ← this]
  show pmul q b j ^^^ r j ^^^ pmul q b j = r j
  rw [Nat.xor_comm (pmul q b j), xor_cancel_right]
end Go.Proofs.Ytnejnoiogojplaa
