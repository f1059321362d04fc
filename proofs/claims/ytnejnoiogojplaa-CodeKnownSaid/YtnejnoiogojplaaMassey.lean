/- Massey's lemma: plain. -/
import Derived.Test.YtnejnoiogojplaaDist
namespace Go.Proofs.Ytnejnoiogojplaa

/-- What the polynomial f, said to be L long, says wrongly of the sequence S at n. -/
def disc (f S : Nat → Nat) (L n : Nat) : Nat := xs (L + 1) (fun i => gm (f i) (S (n - i)))
/-- f, said to be L long, generates S up to n. -/
structure Gen (f : Nat → Nat) (L : Nat) (S : Nat → Nat) (n : Nat) : Prop where
  lt : ∀ i, f i < 1024
  one : f 0 = 1
  zero : ∀ i, L < i → f i = 0
  gen : ∀ j, L ≤ j → j < n → disc f S L j = 0
theorem Gen.less {f S : Nat → Nat} {L n m : Nat} (h : Gen f L S n) (hm : m ≤ n) : Gen f L S m := ⟨h.lt, h.one, h.zero, fun j h1 h2 => h.gen j h1 (by omega)⟩
theorem disc_lt {f S : Nat → Nat} (hf : ∀ i, f i < 1024) (L n : Nat) : disc f S L n < 1024 := xs_lt _ fun i _ => gm_lt (hf i) _
/-- If f fails at n, whatever generates S up to n is long. -/
theorem massey {f g S : Nat → Nat} {L M n : Nat} (hS : ∀ i, S i < 1024) (hf : Gen f L S n) (hg : Gen g M S (n + 1)) (hd : disc f S L n ≠ 0) : n + 1 ≤ L + M := by
  rcases Nat.lt_or_ge n (L + M) with h | h
  · omega
  · exfalso
    refine hd ?_
    have t1 : xs (L + 1) (fun i => gm (f i) (disc g S M (n - i))) = 0 := xs_zero _ fun i hi => by
      show gm (f i) (disc g S M (n - i)) = 0
      rw [hg.gen (n - i) (by omega) (by omega), gm_zero_right]
    have t2 : xs (L + 1) (fun i => gm (f i) (disc g S M (n - i))) = xs (M + 1) (fun k => gm (g k) (disc f S L (n - k))) := by
      have e1 : ∀ i, i < L + 1 → gm (f i) (disc g S M (n - i)) = xs (M + 1) (fun k => gm (f i) (gm (g k) (S (n - i - k)))) := fun i _ => gm_xs _ _
      have e2 : ∀ k, k < M + 1 → gm (g k) (disc f S L (n - k)) = xs (L + 1) (fun i => gm (f i) (gm (g k) (S (n - i - k)))) := fun k _ => by
        unfold disc
        rw [gm_xs]
        exact xs_congr (L + 1) fun i _ => by
          show gm (g k) (gm (f i) (S (n - k - i))) = gm (f i) (gm (g k) (S (n - i - k)))
          rw [show n - k - i = n - i - k by omega, ← gm_assoc (hg.lt _) (hf.lt _) (hS _), gm_comm (hg.lt _) (hf.lt _), gm_assoc (hf.lt _) (hg.lt _) (hS _)]
      rw [xs_congr _ e1, xs_congr _ e2, xs_swap]
    rw [t2, xs_head] at t1
    rw [xs_zero M (fun k hk => by
      show gm (g (k + 1)) (disc f S L (n - (k + 1))) = 0
      rw [hf.gen _ (by omega) (by omega), gm_zero_right]), Nat.xor_zero, hg.one, gm_one_left (disc_lt hf.lt _ _)] at t1
    exact t1

theorem xs_skip {h : Nat → Nat} (b n : Nat) (hz : ∀ i, i < b → h i = 0) : xs (b + n) h = xs n (fun i => h (b + i)) := by
  induction n with
  | zero => exact xs_zero b hz
  | succ n ih => rw [← Nat.add_assoc, xs, ih, xs]
theorem disc_more {f S : Nat → Nat} {L L2 n : Nat} (hz : ∀ i, L < i → f i = 0) (h : L ≤ L2) : disc f S L2 n = disc f S L n :=
  xs_more (L + 1) (L2 + 1) (by omega) (fun i h1 _ => by
    show gm (f i) _ = 0
    rw [hz i (by omega), gm_zero_left])
/-- c x^b f. -/
def shx (b c : Nat) (f : Nat → Nat) : Nat → Nat := fun i => if i < b then 0 else gm c (f (i - b))
theorem shx_lt {b c : Nat} {f : Nat → Nat} (hc : c < 1024) (i : Nat) : shx b c f i < 1024 := by
  unfold shx
  split
  · omega
  · exact gm_lt hc _
theorem disc_shx {f S : Nat → Nat} {b c M n : Nat} (hf : ∀ i, f i < 1024) (hS : ∀ i, S i < 1024) (hc : c < 1024) : disc (shx b c f) S (b + M) n = gm c (disc f S M (n - b)) := by
  unfold disc
  rw [gm_xs, Nat.add_assoc, xs_skip b (M + 1) (fun i hi => by
    show gm (shx b c f i) _ = 0
    unfold shx
    rw [if_pos hi, gm_zero_left])]
  exact xs_congr (M + 1) fun i _ => by
    show gm (shx b c f (b + i)) (S (n - (b + i))) = gm c (gm (f i) (S (n - b - i)))
    unfold shx
    rw [if_neg (by omega), Nat.add_sub_cancel_left, gm_assoc hc (hf _) (hS _), show n - (b + i) = n - b - i by omega]
theorem disc_padd {f g S : Nat → Nat} {L n : Nat} (hf : ∀ i, f i < 1024) (hg : ∀ i, g i < 1024) : disc (padd f g) S L n = disc f S L n ^^^ disc g S L n := by
  unfold disc
  rw [← xs_add]
  exact xs_congr (L + 1) fun i _ => gm_add_left (hf i) (hg i) _
/-- One step of Berlekamp and Massey. -/
theorem gen_step {f g S : Nat → Nat} {L M n m b c L2 : Nat} (hS : ∀ i, S i < 1024) (hf : Gen f L S n) (hg : Gen g M S m) (hb : b + m = n) (hb0 : 0 < b) (hc : c < 1024)
    (hd : gm c (disc g S M m) = disc f S L n) (h1 : L ≤ L2) (h2 : b + M ≤ L2) : Gen (padd f (shx b c g)) L2 S (n + 1) := by
  have hsz : ∀ i, b + M < i → shx b c g i = 0 := fun i hi => by
    unfold shx
    rw [if_neg (by omega), hg.zero _ (by omega), gm_zero_right]
  refine ⟨padd_lt hf.lt (shx_lt hc), ?_, fun i hi => ?_, fun j h3 h4 => ?_⟩
  · show f 0 ^^^ shx b c g 0 = 1
    unfold shx
    rw [if_pos hb0, Nat.xor_zero, hf.one]
  · show f i ^^^ shx b c g i = 0
    rw [hf.zero _ (by omega), hsz _ (by omega)]
    rfl
  · rw [disc_padd hf.lt (shx_lt hc), disc_more hf.zero h1, disc_more hsz h2, disc_shx hg.lt hS hc]
    rcases Nat.lt_or_ge j n with h | h
    · rw [hf.gen j (by omega) h, hg.gen (j - b) (by omega) (by omega), gm_zero_right]
      rfl
    · obtain rfl : j = n := by omega
      rw [show j - b = m by omega, hd, Nat.xor_self]
end Go.Proofs.Ytnejnoiogojplaa
