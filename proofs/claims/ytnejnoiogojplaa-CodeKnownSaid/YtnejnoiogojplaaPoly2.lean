/- The laws of polynomials: values, products, slopes, the division. -/
import Derived.Test.YtnejnoiogojplaaPoly
namespace Go.Proofs.Ytnejnoiogojplaa

def shf (f : Nat → Nat) : Nat → Nat := fun i => f (i + 1)
def mulx (f : Nat → Nat) : Nat → Nat := fun i => if i = 0 then 0 else f (i - 1)
def scl (c : Nat) (f : Nat → Nat) : Nat → Nat := fun i => gm c (f i)
theorem shf_mulx (f : Nat → Nat) : shf (mulx f) = f := funext fun i => by
  show (if i + 1 = 0 then 0 else f (i + 1 - 1)) = f i
  rw [if_neg (by omega), Nat.add_sub_cancel]
theorem mulx_padd (f g : Nat → Nat) (i : Nat) : mulx (padd f g) i = mulx f i ^^^ mulx g i := by
  unfold mulx
  split
  · rfl
  · rfl
theorem xs_head (h : Nat → Nat) (n : Nat) : xs (n + 1) h = h 0 ^^^ xs n (fun i => h (i + 1)) := by
  induction n with
  | zero => simp [xs]
  | succ n ih => rw [xs, ih, xs, Nat.xor_assoc]
theorem xs_rev (h : Nat → Nat) (n : Nat) : xs (n + 1) h = xs (n + 1) (fun i => h (n - i)) := by
  induction n generalizing h with
  | zero => rfl
  | succ n ih =>
    rw [xs_head, ih (fun i => h (i + 1)), show xs (n + 1 + 1) (fun i => h (n + 1 - i)) = xs (n + 1) (fun i => h (n + 1 - i)) ^^^ h (n + 1 - (n + 1)) from rfl, Nat.sub_self, Nat.xor_comm]
    congr 1
    exact xs_congr (n + 1) fun i hi => by
      show h (n - i + 1) = h (n + 1 - i)
      rw [show n - i + 1 = n + 1 - i by omega]
theorem pmul_comm {f g : Nat → Nat} (hf : ∀ i, f i < 1024) (hg : ∀ i, g i < 1024) : pmul f g = pmul g f := funext fun k => by
  unfold pmul
  rw [xs_rev]
  exact xs_congr (k + 1) fun i hi => by
    show gm (f (k - i)) (g (k - (k - i))) = gm (g i) (f (k - i))
    rw [show k - (k - i) = i by omega, gm_comm (hf _) (hg _)]
theorem pmul_add_left {f g h : Nat → Nat} (hf : ∀ i, f i < 1024) (hg : ∀ i, g i < 1024) : pmul (padd f g) h = padd (pmul f h) (pmul g h) := funext fun k => by
  show pmul (padd f g) h k = pmul f h k ^^^ pmul g h k
  unfold pmul
  rw [← xs_add]
  exact xs_congr _ fun i _ => gm_add_left (hf i) (hg i) _
theorem pmul_add_right (f g h : Nat → Nat) : pmul f (padd g h) = padd (pmul f g) (pmul f h) := funext fun k => by
  show pmul f (padd g h) k = pmul f g k ^^^ pmul f h k
  unfold pmul
  rw [← xs_add]
  exact xs_congr _ fun i _ => gm_add_right _ _ _
theorem pmul_step (f g : Nat → Nat) : pmul f g = padd (scl (f 0) g) (mulx (pmul (shf f) g)) := funext fun k => by
  show pmul f g k = gm (f 0) (g k) ^^^ mulx (pmul (shf f) g) k
  rcases k with _ | k
  · simp [pmul, xs, mulx]
  · unfold pmul
    rw [xs_head]
    show gm (f 0) (g (k + 1 - 0)) ^^^ xs (k + 1) (fun i => gm (f (i + 1)) (g (k + 1 - (i + 1)))) = gm (f 0) (g (k + 1)) ^^^ (if k + 1 = 0 then 0 else xs (k + 1 - 1 + 1) fun i => gm (shf f i) (g (k + 1 - 1 - i)))
    rw [if_neg (by omega), Nat.add_sub_cancel, Nat.sub_zero]
    congr 1
    exact xs_congr _ fun i _ => by
      show gm (f (i + 1)) (g (k + 1 - (i + 1))) = gm (f (i + 1)) (g (k - i))
      rw [show k + 1 - (i + 1) = k - i by omega]
theorem pmul_mulx (h g : Nat → Nat) : pmul (mulx h) g = mulx (pmul h g) := funext fun k => by
  rw [pmul_step, shf_mulx]
  show gm (mulx h 0) (g k) ^^^ mulx (pmul h g) k = mulx (pmul h g) k
  rw [show mulx h 0 = 0 from rfl, gm_zero_left, Nat.zero_xor]
theorem shf_lt {f : Nat → Nat} (hf : ∀ i, f i < 1024) (i : Nat) : shf f i < 1024 := hf _
theorem scl_lt {f : Nat → Nat} {c : Nat} (hc : c < 1024) (i : Nat) : scl c f i < 1024 := gm_lt hc _
theorem mulx_lt {f : Nat → Nat} (hf : ∀ i, f i < 1024) (i : Nat) : mulx f i < 1024 := by
  unfold mulx
  split
  · omega
  · exact hf _

/-! Values. -/
theorem hor_shf (f : Nat → Nat) (x j m : Nat) : hor f x (j + 1) m = hor (shf f) x j m := by
  induction m generalizing j with
  | zero => rfl
  | succ m ih => rw [hor, hor, ih (j + 1)]; rfl
theorem hor_mulx (f : Nat → Nat) (x n : Nat) : hor (mulx f) x 0 (n + 1) = gm (hor f x 0 n) x := by
  rw [hor, hor_shf, shf_mulx, show mulx f 0 = 0 from rfl, Nat.xor_zero]
theorem hor_padd {f g : Nat → Nat} (hf : ∀ i, f i < 1024) (hg : ∀ i, g i < 1024) (x j m : Nat) : hor (padd f g) x j m = hor f x j m ^^^ hor g x j m := by
  induction m generalizing j with
  | zero => simp [hor]
  | succ m ih =>
    rw [hor, hor, hor, ih (j + 1), gm_add_left (hor_lt hf _ _) (hor_lt hg _ _)]
    exact xor_four _ _ _ _
theorem hor_scl {g : Nat → Nat} {c x : Nat} (hg : ∀ i, g i < 1024) (hc : c < 1024) (hx : x < 1024) (j m : Nat) : hor (scl c g) x j m = gm c (hor g x j m) := by
  induction m generalizing j with
  | zero => exact (gm_zero_right c).symm
  | succ m ih =>
    rw [hor, hor, ih (j + 1), gm_assoc hc (hor_lt hg _ _) hx, gm_add_right]
    rfl
theorem hor_pmul {g : Nat → Nat} {m x : Nat} (hg : ∀ i, g i < 1024) (hgz : ∀ i, m ≤ i → g i = 0) (hx : x < 1024) : ∀ (n : Nat) (f : Nat → Nat), (∀ i, f i < 1024) → (∀ i, n ≤ i → f i = 0) → ∀ N, n + m ≤ N + 1 →
    hor (pmul f g) x 0 N = gm (hor f x 0 n) (hor g x 0 m)
  | 0, f, hf, hz, N, hN => by
    rw [show f = fun _ => 0 from funext fun i => hz i (by omega), pmul_nil_left, hor_zero 0 N (fun _ _ => rfl)]
    exact (gm_zero_left _).symm
  | n + 1, f, hf, hz, N, hN => by
    rcases N with _ | N
    · obtain rfl : n = 0 := by omega
      obtain rfl : m = 0 := by omega
      exact (gm_zero_right _).symm
    · have ih := hor_pmul hg hgz hx n (shf f) (shf_lt hf) (fun i hi => hz (i + 1) (by omega)) N (by omega)
      have e : hor g x 0 (N + 1) = hor g x 0 m := hor_more 0 m (N + 1) (by omega) (fun i hi => hgz i (by omega))
      have lh := hor_lt (shf_lt hf) (x := x) 0 n
      have lg := hor_lt hg (x := x) 0 m
      rw [pmul_step, hor_padd (scl_lt (hf 0)) (mulx_lt (pmul_lt (shf_lt hf))), hor_scl hg (hf 0) hx, hor_mulx, ih, e, hor, hor_shf, gm_add_left (gm_lt lh _) (hf 0), gm_assoc lh lg hx, gm_comm lg hx, ← gm_assoc lh hx lg, Nat.xor_comm]

/-! Slopes. -/
theorem slope_padd (f g : Nat → Nat) : pslope (padd f g) = padd (pslope f) (pslope g) := funext fun i => by
  show (if i % 2 = 0 then padd f g (i + 1) else 0) = (if i % 2 = 0 then f (i + 1) else 0) ^^^ (if i % 2 = 0 then g (i + 1) else 0)
  split <;> rfl
theorem slope_scl (c : Nat) (f : Nat → Nat) : pslope (scl c f) = scl c (pslope f) := funext fun i => by
  show (if i % 2 = 0 then gm c (f (i + 1)) else 0) = gm c (if i % 2 = 0 then f (i + 1) else 0)
  split
  · rfl
  · exact (gm_zero_right c).symm
theorem slope_mulx (h : Nat → Nat) : pslope (mulx h) = padd h (mulx (pslope h)) := funext fun i => by
  show (if i % 2 = 0 then mulx h (i + 1) else 0) = h i ^^^ (if i = 0 then 0 else if (i - 1) % 2 = 0 then h (i - 1 + 1) else 0)
  rcases i with _ | i
  · simp [mulx]
  · rw [if_neg (show ¬ i + 1 = 0 by omega), Nat.add_sub_cancel]
    by_cases e : i % 2 = 0
    · rw [if_neg (by omega), if_pos e, Nat.xor_self]
    · rw [if_pos (by omega), if_neg e, Nat.xor_zero]
      show (if i + 1 + 1 = 0 then 0 else h (i + 1 + 1 - 1)) = h (i + 1)
      rw [if_neg (by omega), Nat.add_sub_cancel]
theorem slope_step (f : Nat → Nat) : pslope f = padd (shf f) (mulx (pslope (shf f))) := funext fun i => by
  show (if i % 2 = 0 then f (i + 1) else 0) = f (i + 1) ^^^ (if i = 0 then 0 else if (i - 1) % 2 = 0 then f (i - 1 + 1 + 1) else 0)
  rcases i with _ | i
  · simp
  · rw [if_neg (show ¬ i + 1 = 0 by omega), Nat.add_sub_cancel]
    by_cases e : i % 2 = 0
    · rw [if_neg (by omega), if_pos e, Nat.xor_self]
    · rw [if_pos (by omega), if_neg e, Nat.xor_zero]
theorem slope_lt {f : Nat → Nat} (hf : ∀ i, f i < 1024) (i : Nat) : pslope f i < 1024 := by
  unfold pslope
  split
  · exact hf _
  · omega
theorem slope_nil : pslope (fun _ => 0) = fun _ => 0 := funext fun i => by simp [pslope]
theorem slope_pmul (g : Nat → Nat) : ∀ (n : Nat) (f : Nat → Nat), (∀ i, f i < 1024) → (∀ i, n ≤ i → f i = 0) → pslope (pmul f g) = padd (pmul (pslope f) g) (pmul f (pslope g))
  | 0, f, hf, hz => by
    rw [show f = fun _ => 0 from funext fun i => hz i (by omega), pmul_nil_left, slope_nil, pmul_nil_left, pmul_nil_left]
    funext i
    exact (Nat.xor_self 0).symm
  | n + 1, f, hf, hz => by
    have ih := slope_pmul g n (shf f) (shf_lt hf) (fun i hi => hz (i + 1) (by omega))
    funext k
    rw [pmul_step f g, slope_padd, slope_scl, slope_mulx, ih, slope_step f, pmul_add_left (shf_lt hf) (mulx_lt (slope_lt (shf_lt hf))), pmul_mulx, pmul_step f (pslope g)]
    show scl (f 0) (pslope g) k ^^^ (pmul (shf f) g k ^^^ mulx (padd (pmul (pslope (shf f)) g) (pmul (shf f) (pslope g))) k) = (pmul (shf f) g k ^^^ mulx (pmul (pslope (shf f)) g) k) ^^^ (scl (f 0) (pslope g) k ^^^ mulx (pmul (shf f) (pslope g)) k)
    rw [mulx_padd]
    generalize scl (f 0) (pslope g) k = a
    generalize pmul (shf f) g k = b
    generalize mulx (pmul (pslope (shf f)) g) k = c
    generalize mulx (pmul (shf f) (pslope g)) k = d
    rw [← Nat.xor_assoc b c d, ← Nat.xor_assoc a (b ^^^ c) d, Nat.xor_comm a (b ^^^ c), Nat.xor_assoc]

/-! The division. -/
def mono (k c : Nat) : Nat → Nat := fun t => if t = k then c else 0
theorem pmul_mono (k c : Nat) (g : Nat → Nat) (t : Nat) : pmul (mono k c) g t = if k ≤ t then gm c (g (t - k)) else 0 := by
  split
  · rename_i h
    have := xs_one (h := fun i => gm (mono k c i) (g (t - i))) (t + 1) k (by omega) (fun i _ hn => by
      show gm (if i = k then c else 0) _ = 0
      rw [if_neg hn, gm_zero_left])
    rw [show pmul (mono k c) g t = xs (t + 1) fun i => gm (mono k c i) (g (t - i)) from rfl, this, show mono k c k = c from if_pos rfl]
  · rename_i h
    exact xs_zero _ fun i hi => by
      show gm (if i = k then c else 0) _ = 0
      rw [if_neg (by omega), gm_zero_left]
theorem divRun_sum {g : Nat → Nat} {lb : Nat} (hgz : ∀ i, lb ≤ i → g i = 0) : ∀ (k : Nat) (R Q : Nat → Nat), (∀ i, R i < 1024) → (∀ i, Q i < 1024) → (∀ i, i < k → Q i = 0) →
    padd (pmul (divRun g lb k (R, Q)).2 g) (divRun g lb k (R, Q)).1 = padd (pmul Q g) R
  | 0, R, Q, _, _, _ => rfl
  | k + 1, R, Q, hR, hQ, hz => by
    have hc := divC_lt (g := g) (lb := lb) hR k
    rw [divRun]
    rw [divRun_sum hgz k _ _ (divR_lt hc hR) (fun i => by
      show (if i = k then _ else Q i) < 1024
      split
      · exact hc
      · exact hQ i) (fun i hi => by
      show (if i = k then _ else Q i) = 0
      rw [if_neg (by omega)]
      exact hz i (by omega))]
    show padd (pmul (fun t => if t = k then divC g lb R k else Q t) g) (divR g k (divC g lb R k) lb R) = padd (pmul Q g) R
    generalize divC g lb R k = c at hc ⊢
    have e1 : (fun t => if t = k then c else Q t) = padd Q (mono k c) := funext fun t => by
      show (if t = k then c else Q t) = Q t ^^^ (if t = k then c else 0)
      split
      · rename_i h
        rw [h, hz k (by omega), Nat.zero_xor]
      · rw [Nat.xor_zero]
    have hm : ∀ i, mono k c i < 1024 := fun i => by
      show (if i = k then c else 0) < 1024
      split <;> omega
    rw [e1, pmul_add_left hQ hm]
    funext t
    show (pmul Q g t ^^^ pmul (mono k c) g t) ^^^ divR g k c lb R t = pmul Q g t ^^^ R t
    have e2 : divR g k c lb R t = R t ^^^ pmul (mono k c) g t := by
      rw [pmul_mono]
      unfold divR
      by_cases h : k ≤ t
      · rw [if_pos h]
        by_cases h2 : t < k + lb
        · rw [if_pos ⟨h, h2⟩]
        · rw [if_neg (by omega), hgz _ (by omega), gm_zero_right, Nat.xor_zero]
      · rw [if_neg (by omega), if_neg h, Nat.xor_zero]
    rw [e2, xor_four, Nat.xor_assoc, ← Nat.xor_assoc (pmul Q g t) (R t), Nat.xor_assoc, Nat.xor_self, Nat.xor_zero]
theorem div_sum {f g : Nat → Nat} {la lb : Nat} (hf : IsPol f la) (hg : IsPol g lb) (hb : 0 < lb) : padd (pmul (quo f la g lb) g) (rst f la g lb) = f := by
  unfold quo rst
  rw [if_neg (by omega), if_neg (by omega), divRun_sum hg.zero _ _ _ hf.lt (fun _ => by show 0 < 1024; omega) (fun _ _ => rfl), pmul_nil_left]
  funext t
  exact Nat.zero_xor _
end Go.Proofs.Ytnejnoiogojplaa
