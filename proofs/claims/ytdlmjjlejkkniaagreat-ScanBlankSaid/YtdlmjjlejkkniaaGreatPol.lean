/- Polynomials over the field, in plain numbers: sums, products, values, slopes. No program in sight. -/
import Derived.Test.YtdlmjjlejkkniaaGreatU
import Derived.Test.YtdlmjjlejkkniaaGreatGf
namespace Go.Proofs.YtdlmjjlejkkniaaGreat

def padd (f g : Nat → Nat) : Nat → Nat := fun i => f i ^^^ g i
theorem padd_lt {f g : Nat → Nat} (hf : ∀ i, f i < 1024) (hg : ∀ i, g i < 1024) (i : Nat) : padd f g i < 1024 := xor_lt (hf i) (hg i)
/-- The sum of the first n. -/
def xs : Nat → (Nat → Nat) → Nat
  | 0, _ => 0
  | n + 1, h => xs n h ^^^ h n
theorem xs_lt {h : Nat → Nat} (n : Nat) (hh : ∀ i, i < n → h i < 1024) : xs n h < 1024 := by
  induction n with
  | zero => simp [xs]
  | succ n ih => exact xor_lt (ih fun i hi => hh i (by omega)) (hh n (by omega))
theorem xs_congr {h k : Nat → Nat} (n : Nat) (e : ∀ i, i < n → h i = k i) : xs n h = xs n k := by
  induction n with
  | zero => rfl
  | succ n ih => rw [xs, xs, ih fun i hi => e i (by omega), e n (by omega)]
theorem xs_zero {h : Nat → Nat} (n : Nat) (e : ∀ i, i < n → h i = 0) : xs n h = 0 := by
  induction n with
  | zero => rfl
  | succ n ih => rw [xs, ih fun i hi => e i (by omega), e n (by omega)]; rfl
theorem xs_more {h : Nat → Nat} (n m : Nat) (hm : n ≤ m) (e : ∀ i, n ≤ i → i < m → h i = 0) : xs m h = xs n h := by
  induction m with
  | zero =>
    obtain rfl : n = 0 := by omega
    rfl
  | succ m ih =>
    by_cases hn : n = m + 1
    · rw [hn]
    · rw [xs, ih (by omega) (fun i h0 h1 => e i h0 (by omega)), e m (by omega) (by omega), Nat.xor_zero]
theorem xs_add (h k : Nat → Nat) (n : Nat) : xs n (fun i => h i ^^^ k i) = xs n h ^^^ xs n k := by
  induction n with
  | zero => simp [xs]
  | succ n ih => rw [xs, xs, xs, ih, xor_four]
/-- The product: coefficient k. -/
def pmul (f g : Nat → Nat) : Nat → Nat := fun k => xs (k + 1) fun i => gm (f i) (g (k - i))
theorem pmul_lt {f g : Nat → Nat} (hf : ∀ i, f i < 1024) (k : Nat) : pmul f g k < 1024 := xs_lt _ fun i _ => gm_lt (hf i) _
/-- The product, of the first n rows. -/
def pacc (f g : Nat → Nat) (n k : Nat) : Nat := xs n fun i => if i ≤ k then gm (f i) (g (k - i)) else 0
theorem pacc_lt {f g : Nat → Nat} (hf : ∀ i, f i < 1024) (n k : Nat) : pacc f g n k < 1024 := xs_lt _ fun i _ => by
  split
  · exact gm_lt (hf i) _
  · omega
theorem pacc_full {f g : Nat → Nat} {n : Nat} (hz : ∀ i, n ≤ i → f i = 0) (k : Nat) : pacc f g n k = pmul f g k := by
  unfold pacc pmul
  have e1 : xs (k + 1) (fun i => gm (f i) (g (k - i))) = xs (k + 1) (fun i => if i ≤ k then gm (f i) (g (k - i)) else 0) := xs_congr _ fun i hi => by rw [if_pos (by omega)]
  rw [e1]
  rcases Nat.le_total n (k + 1) with h | h
  · exact (xs_more n (k + 1) h fun i h0 _ => by rw [hz i h0, gm_zero_left]; simp).symm
  · exact xs_more (k + 1) n h fun i h0 _ => by rw [if_neg (by omega)]
theorem pmul_zero {f g : Nat → Nat} {n m k : Nat} (hf : ∀ i, n ≤ i → f i = 0) (hg : ∀ i, m ≤ i → g i = 0) (hk : n + m ≤ k + 1) : pmul f g k = 0 := xs_zero _ fun i hi => by
  by_cases h : n ≤ i
  · rw [hf i h, gm_zero_left]
  · rw [hg (k - i) (by omega), gm_zero_right]
theorem pmul_nil_left (g : Nat → Nat) : pmul (fun _ => 0) g = fun _ => 0 := by
  funext k
  exact xs_zero _ fun i _ => gm_zero_left _
theorem pmul_nil_right (f : Nat → Nat) : pmul f (fun _ => 0) = fun _ => 0 := by
  funext k
  exact xs_zero _ fun i _ => gm_zero_right _
/-- The value at a place: m coefficients from j on, by Horner. -/
def hor (f : Nat → Nat) (x j : Nat) : Nat → Nat
  | 0 => 0
  | m + 1 => gm (hor f x (j + 1) m) x ^^^ f j
theorem hor_lt {f : Nat → Nat} (hf : ∀ i, f i < 1024) {x : Nat} (j m : Nat) : hor f x j m < 1024 := by
  induction m generalizing j with
  | zero => simp [hor]
  | succ m ih => exact xor_lt (gm_lt (ih (j + 1)) x) (hf j)
theorem hor_congr {f g : Nat → Nat} {x : Nat} (j m : Nat) (h : ∀ i, j ≤ i → i < j + m → f i = g i) : hor f x j m = hor g x j m := by
  induction m generalizing j with
  | zero => rfl
  | succ m ih => rw [hor, hor, ih (j + 1) (fun i h0 h1 => h i (by omega) (by omega)), h j (by omega) (by omega)]
theorem hor_zero {f : Nat → Nat} {x : Nat} (j m : Nat) (h : ∀ i, j ≤ i → f i = 0) : hor f x j m = 0 := by
  induction m generalizing j with
  | zero => rfl
  | succ m ih => rw [hor, ih (j + 1) (fun i h0 => h i (by omega)), h j (by omega), gm_zero_left]; rfl
theorem hor_more {f : Nat → Nat} {x : Nat} (j n m : Nat) (hm : n ≤ m) (h : ∀ i, j + n ≤ i → f i = 0) : hor f x j m = hor f x j n := by
  induction n generalizing j m with
  | zero => exact hor_zero j m h
  | succ n ih =>
    obtain ⟨m, rfl⟩ : ∃ k, m = k + 1 := ⟨m - 1, by omega⟩
    rw [hor, hor, ih (j + 1) m (by omega) (fun i hi => h i (by omega))]
def pslope (f : Nat → Nat) : Nat → Nat := fun i => if i % 2 = 0 then f (i + 1) else 0
/-- In how many of the first n places two are unlike. -/
def cntNe (p q : Nat → Nat) : Nat → Nat
  | 0 => 0
  | n + 1 => cntNe p q n + if p n = q n then 0 else 1
theorem cntNe_le (p q : Nat → Nat) (n : Nat) : cntNe p q n ≤ n := by
  induction n with
  | zero => simp [cntNe]
  | succ n ih => unfold cntNe; split <;> omega
theorem cntNe_congr {p q p' q' : Nat → Nat} : ∀ (n : Nat), (∀ i, i < n → p i = p' i) → (∀ i, i < n → q i = q' i) → cntNe p q n = cntNe p' q' n
  | 0, _, _ => rfl
  | n + 1, h, k => by rw [cntNe, cntNe, cntNe_congr n (fun i hi => h i (by omega)) (fun i hi => k i (by omega)), h n (by omega), k n (by omega)]
theorem cntNe_comm (p q : Nat → Nat) : ∀ n, cntNe p q n = cntNe q p n
  | 0 => rfl
  | n + 1 => by
    rw [cntNe, cntNe, cntNe_comm p q n]
    congr 1
    by_cases h : p n = q n
    · rw [if_pos h, if_pos h.symm]
    · rw [if_neg h, if_neg (fun e => h e.symm)]
theorem cntNe_zero {p q : Nat → Nat} {n : Nat} : cntNe p q n = 0 ↔ ∀ i, i < n → p i = q i := by
  induction n with
  | zero => simp [cntNe]
  | succ n ih =>
    unfold cntNe
    constructor
    · intro h i hi
      have h1 : cntNe p q n = 0 := by omega
      by_cases e : i = n
      · subst e
        by_cases h2 : p i = q i
        · exact h2
        · simp [h2] at h
      · exact ih.1 h1 i (by omega)
    · intro h
      rw [ih.2 (fun i hi => h i (by omega)), if_pos (h n (by omega))]
end Go.Proofs.YtdlmjjlejkkniaaGreat
