/- The laws of polynomials, with no program in sight. -/
import Derived.Test.YtnejnoiogojplaaDiv
namespace Go.Proofs.Ytnejnoiogojplaa

theorem xs_one {h : Nat → Nat} (n j : Nat) (hj : j < n) (e : ∀ i, i < n → i ≠ j → h i = 0) : xs n h = h j := by
  rw [xs_more (j + 1) n (by omega) (fun i h0 h1 => e i h1 (by omega))]
  rw [xs, xs_zero j (fun i hi => e i (by omega) (by omega)), Nat.zero_xor]

theorem pmul_lead {f g : Nat → Nat} {la lb : Nat} (hf : IsPol f la) (hg : IsPol g lb) (ha : 0 < la) (hb : 0 < lb) : pmul f g (la + lb - 2) = gm (f (la - 1)) (g (lb - 1)) := by
  have h := xs_one (h := fun i => gm (f i) (g (la + lb - 2 - i))) (la + lb - 2 + 1) (la - 1) (by omega) (fun i hi hn => by
    show gm (f i) (g (la + lb - 2 - i)) = 0
    rcases Nat.lt_or_ge i (la - 1) with h | h
    · rw [hg.zero _ (by omega), gm_zero_right]
    · rw [hf.zero _ (by omega), gm_zero_left])
  rw [show pmul f g (la + lb - 2) = xs (la + lb - 2 + 1) fun i => gm (f i) (g (la + lb - 2 - i)) from rfl, h, show la + lb - 2 - (la - 1) = lb - 1 by omega]
theorem pmul_pol {f g : Nat → Nat} {la lb : Nat} (hf : IsPol f la) (hg : IsPol g lb) (ha : 0 < la) (hb : 0 < lb) : IsPol (pmul f g) (la + lb - 1) :=
  ⟨pmul_lt hf.lt, fun i hi => pmul_zero hf.zero hg.zero (by omega), fun _ => by
    rw [show la + lb - 1 - 1 = la + lb - 2 by omega, pmul_lead hf hg ha hb]
    exact gm_ne_zero (hf.lt _) (hg.lt _) (hf.lead ha) (hg.lead hb)⟩
theorem IsPol.none {f : Nat → Nat} (h : IsPol f 0) : f = fun _ => 0 := funext fun i => h.zero i (by omega)
theorem pmulM_eq {f g : Nat → Nat} {la lb : Nat} (hf : IsPol f la) (hg : IsPol g lb) (h : la + lb ≤ 4097) : pmulM f la g lb = pmul f g := by
  unfold pmulM
  split
  · rename_i hc
    rcases hc with rfl | rfl | hc
    · rw [hf.none, pmul_nil_left]
    · rw [hg.none, pmul_nil_right]
    · omega
  · rfl
theorem pmulM_len {f g : Nat → Nat} {la lb m : Nat} (hf : IsPol f la) (hg : IsPol g lb) (h : la + lb ≤ 4097) (hm : IsPol (pmulM f la g lb) m) : m = if la = 0 ∨ lb = 0 then 0 else la + lb - 1 := by
  rw [pmulM_eq hf hg h] at hm
  split
  · rename_i hc
    rcases hc with rfl | rfl
    · rw [hf.none, pmul_nil_left] at hm
      exact hm.uniq pol_none
    · rw [hg.none, pmul_nil_right] at hm
      exact hm.uniq pol_none
  · exact hm.uniq (pmul_pol hf hg (by omega) (by omega))

theorem padd_len {f g : Nat → Nat} {la lb m : Nat} (hf : IsPol f la) (hg : IsPol g lb) (hm : IsPol (padd f g) m) : m ≤ max la lb := by
  rcases Nat.lt_or_ge (max la lb) m with h | h
  · refine absurd ?_ (hm.lead (by omega))
    show f (m - 1) ^^^ g (m - 1) = 0
    rw [hf.zero _ (by omega), hg.zero _ (by omega)]
    rfl
  · exact h
theorem padd_len_ne {f g : Nat → Nat} {la lb m : Nat} (hf : IsPol f la) (hg : IsPol g lb) (hm : IsPol (padd f g) m) (hn : la ≠ lb) : m = max la lb := by
  refine hm.uniq ⟨padd_lt hf.lt hg.lt, fun i hi => ?_, fun h0 => ?_⟩
  · show f i ^^^ g i = 0
    rw [hf.zero _ (by omega), hg.zero _ (by omega)]
    rfl
  · show f (max la lb - 1) ^^^ g (max la lb - 1) ≠ 0
    rcases Nat.lt_or_ge la lb with h | h
    · rw [show max la lb - 1 = lb - 1 by omega, hf.zero _ (by omega), Nat.zero_xor]
      exact hg.lead (by omega)
    · rw [show max la lb - 1 = la - 1 by omega, hg.zero _ (by omega), Nat.xor_zero]
      exact hf.lead (by omega)

/-- What one step of the division, and all of them, leave. -/
theorem divC_lt {g : Nat → Nat} {lb : Nat} {R : Nat → Nat} (hR : ∀ i, R i < 1024) (k : Nat) : divC g lb R k < 1024 := gm_lt (hR _) _
theorem divC_lead {g : Nat → Nat} {lb : Nat} (hg : IsPol g lb) (hb : 0 < lb) {R : Nat → Nat} (hR : ∀ i, R i < 1024) (k : Nat) : gm (divC g lb R k) (g (lb - 1)) = R (k + lb - 1) := by
  unfold divC
  rw [gm_assoc (hR _) (gi_lt _) (hg.lt _), gm_comm (gi_lt _) (hg.lt _), gi_mul (hg.lt _) (hg.lead hb), gm_one_right]
theorem divR_rest {g : Nat → Nat} {lb : Nat} (hg : IsPol g lb) (hb : 0 < lb) {R : Nat → Nat} (hR : ∀ i, R i < 1024) {k : Nat} (hz : ∀ i, k + lb ≤ i → R i = 0) (i : Nat) (hi : k + lb - 1 ≤ i) : divR g k (divC g lb R k) lb R i = 0 := by
  unfold divR
  by_cases h : k ≤ i ∧ i < k + lb
  · obtain rfl : i = k + lb - 1 := by omega
    rw [if_pos h, show k + lb - 1 - k = lb - 1 by omega, divC_lead hg hb hR, Nat.xor_self]
  · rw [if_neg h]
    exact hz i (by omega)
theorem divRun_rest {g : Nat → Nat} {lb : Nat} (hg : IsPol g lb) (hb : 0 < lb) : ∀ (k : Nat) (R Q : Nat → Nat), (∀ i, R i < 1024) → (∀ i, k + lb - 1 ≤ i → R i = 0) →
    ∀ i, lb - 1 ≤ i → (divRun g lb k (R, Q)).1 i = 0
  | 0, R, Q, _, hz, i, hi => hz i (by omega)
  | k + 1, R, Q, hR, hz, i, hi => by
    rw [divRun]
    exact divRun_rest hg hb k _ _ (divR_lt (divC_lt hR k) hR) (divR_rest hg hb hR (fun i hi => hz i (by omega))) i hi
theorem divRun_high {g : Nat → Nat} {lb : Nat} : ∀ (k : Nat) (R Q : Nat → Nat) (i : Nat), k ≤ i → (divRun g lb k (R, Q)).2 i = Q i
  | 0, R, Q, i, _ => rfl
  | k + 1, R, Q, i, hi => by
    rw [divRun, divRun_high k _ _ i (by omega)]
    exact if_neg (by omega)
theorem divRun_lt {g : Nat → Nat} {lb : Nat} : ∀ (k : Nat) (R Q : Nat → Nat), (∀ i, R i < 1024) → (∀ i, Q i < 1024) → (∀ i, (divRun g lb k (R, Q)).1 i < 1024) ∧ ∀ i, (divRun g lb k (R, Q)).2 i < 1024
  | 0, R, Q, hR, hQ => ⟨hR, hQ⟩
  | k + 1, R, Q, hR, hQ => by
    rw [divRun]
    refine divRun_lt k _ _ (divR_lt (divC_lt hR k) hR) (fun i => ?_)
    show (if i = k then _ else Q i) < 1024
    split
    · exact divC_lt hR k
    · exact hQ i
theorem rst_len {f g : Nat → Nat} {la lb m : Nat} (hf : IsPol f la) (hg : IsPol g lb) (hb : 0 < lb) (hm : IsPol (rst f la g lb) m) : m < lb := by
  rcases Nat.lt_or_ge m lb with h | h
  · exact h
  · refine absurd ?_ (hm.lead (by omega))
    unfold rst
    rw [if_neg (by omega)]
    rcases Nat.lt_or_ge la lb with h2 | h2
    · rw [show quoN la lb = 0 by unfold quoN; omega]
      exact hf.zero _ (by omega)
    · exact divRun_rest hg hb _ _ _ hf.lt (fun i hi => hf.zero i (by unfold quoN at hi; omega)) _ (by omega)
theorem quo_pol {f g : Nat → Nat} {la lb : Nat} (hf : IsPol f la) (hg : IsPol g lb) (hb : 0 < lb) : IsPol (quo f la g lb) (quoN la lb) := by
  unfold quo
  rw [if_neg (by omega)]
  refine ⟨(divRun_lt _ _ _ hf.lt (fun _ => by show 0 < 1024; omega)).2, fun i hi => divRun_high _ _ _ i hi, fun h0 => ?_⟩
  obtain ⟨k, hk⟩ : ∃ k, quoN la lb = k + 1 := ⟨quoN la lb - 1, by omega⟩
  rw [hk, divRun, divRun_high k _ _ (k + 1 - 1) (by omega), if_pos (by omega)]
  unfold divC
  have e : k + lb - 1 = la - 1 := by unfold quoN at hk; omega
  rw [e]
  exact gm_ne_zero (hf.lt _) (gi_lt _) (hf.lead (by unfold quoN at hk; omega)) (gi_ne_zero (hg.lead hb))
end Go.Proofs.Ytnejnoiogojplaa
