/- Bytes as symbols of ten bits, and back. Plain. -/
import Derived.Test.YtdlmjjlejkkniaaGreatBase
namespace Go.Proofs.YtdlmjjlejkkniaaGreat

/-- The number whose bit k, of the first n, is f k. -/
def mkB (f : Nat → Bool) : Nat → Nat
  | 0 => 0
  | n + 1 => mkB f n + if f n = true then 2 ^ n else 0
theorem mkB_lt (f : Nat → Bool) : ∀ n, mkB f n < 2 ^ n
  | 0 => by simp [mkB]
  | n + 1 => by
    have := mkB_lt f n
    unfold mkB
    rw [Nat.pow_succ]
    split <;> omega
theorem mkB_bit (f : Nat → Bool) : ∀ n k, (mkB f n).testBit k = (decide (k < n) && f k)
  | 0, k => by simp [mkB]
  | n + 1, k => by
    have hl := mkB_lt f n
    unfold mkB
    by_cases h : f n = true
    · rw [if_pos h, Nat.add_comm]
      by_cases hk : k = n
      · subst hk
        rw [Nat.testBit_two_pow_add_eq, Nat.testBit_lt_two_pow hl, h]
        simp
      · by_cases hk2 : k < n
        · rw [Nat.testBit_two_pow_add_gt hk2, mkB_bit f n k]
          simp [hk2, show k < n + 1 by omega]
        · have h2 : 2 ^ n + mkB f n < 2 ^ k := by
            have : 2 ^ (n + 1) ≤ 2 ^ k := Nat.pow_le_pow_right (by omega) (by omega)
            rw [Nat.pow_succ] at this
            omega
          rw [Nat.testBit_lt_two_pow h2]
          simp [show ¬ k < n + 1 by omega]
    · rw [if_neg h, Nat.add_zero, mkB_bit f n k]
      by_cases hk : k = n
      · subst hk
        simp [h]
      · by_cases hk2 : k < n
        · simp [hk2, show k < n + 1 by omega]
        · simp [hk2, show ¬ k < n + 1 by omega]
theorem bits_eq {x y : Nat} (n : Nat) (hx : x < 2 ^ n) (hy : y < 2 ^ n) (h : ∀ k, k < n → x.testBit k = y.testBit k) : x = y := by
  apply Nat.eq_of_testBit_eq
  intro k
  by_cases hk : k < n
  · exact h k hk
  · have : 2 ^ n ≤ 2 ^ k := Nat.pow_le_pow_right (by omega) (by omega)
    rw [Nat.testBit_lt_two_pow (Nat.lt_of_lt_of_le hx this), Nat.testBit_lt_two_pow (Nat.lt_of_lt_of_le hy this)]
/-- Bit i of bytes, the first one's highest first. -/
def bitB (d : Nat → Nat) (i : Nat) : Bool := (d (i / 8)).testBit (7 - i % 8)
/-- Bit i of symbols. -/
def bitS (s : Nat → Nat) (i : Nat) : Bool := (s (i / 10)).testBit (9 - i % 10)
/-- n bytes as symbols. -/
def pkS (d : Nat → Nat) (n : Nat) : Nat → Nat := fun j => mkB (fun k => decide (10 * j + 9 - k < 8 * n) && bitB d (10 * j + 9 - k)) 10
theorem pkS_lt (d : Nat → Nat) (n j : Nat) : pkS d n j < 1024 := mkB_lt _ 10
theorem pkS_bit (d : Nat → Nat) (n j k : Nat) (hk : k < 10) : (pkS d n j).testBit k = (decide (10 * j + 9 - k < 8 * n) && bitB d (10 * j + 9 - k)) := by
  unfold pkS
  rw [mkB_bit, decide_eq_true hk, Bool.true_and]
/-- Symbols as bytes. -/
def upB (s : Nat → Nat) : Nat → Nat := fun j => mkB (fun k => bitS s (8 * j + 7 - k)) 8
theorem upB_lt (s : Nat → Nat) (j : Nat) : upB s j < 256 := mkB_lt _ 8
theorem upB_bit (s : Nat → Nat) (j k : Nat) (hk : k < 8) : (upB s j).testBit k = bitS s (8 * j + 7 - k) := by
  unfold upB
  rw [mkB_bit, decide_eq_true hk, Bool.true_and]
theorem bitS_pk (d : Nat → Nat) (n i : Nat) : bitS (pkS d n) i = (decide (i < 8 * n) && bitB d i) := by
  unfold bitS
  rw [pkS_bit _ _ _ _ (by omega), show 10 * (i / 10) + 9 - (9 - i % 10) = i by omega]
/-- What was packed is unpacked. -/
theorem up_pk {d : Nat → Nat} {n j : Nat} (hj : j < n) (hd : d j < 256) : upB (pkS d n) j = d j := by
  refine bits_eq 8 (upB_lt _ _) hd fun k hk => ?_
  rw [upB_bit _ _ _ hk, bitS_pk, decide_eq_true (by omega), Bool.true_and]
  unfold bitB
  rw [show (8 * j + 7 - k) / 8 = j by omega, show 7 - (8 * j + 7 - k) % 8 = k by omega]
theorem pkS_congr {d e : Nat → Nat} {n : Nat} (h : ∀ j, j < n → d j = e j) (j : Nat) : pkS d n j = pkS e n j := by
  refine bits_eq 10 (pkS_lt _ _ _) (pkS_lt _ _ _) fun k hk => ?_
  rw [pkS_bit _ _ _ _ hk, pkS_bit _ _ _ _ hk]
  by_cases hb : 10 * j + 9 - k < 8 * n
  · unfold bitB
    rw [h _ (by omega)]
  · rw [decide_eq_false hb, Bool.false_and, Bool.false_and]
theorem upB_congr {s t : Nat → Nat} {m : Nat} (h : ∀ j, j < m → s j = t j) {j : Nat} (hj : 8 * j + 8 ≤ 10 * m) : upB s j = upB t j := by
  refine bits_eq 8 (upB_lt _ _) (upB_lt _ _) fun k hk => ?_
  rw [upB_bit _ _ _ hk, upB_bit _ _ _ hk]
  unfold bitS
  rw [h _ (by omega)]
/-- How many symbols n bytes take. -/
def pkN (n : Nat) : Nat := (8 * n + 9) / 10

/-- The pack's sum behind i bytes: the bits that are in no symbol yet. -/
def pSum (d : Nat → Nat) (i : Nat) : Nat := mkB (fun k => bitB d (8 * i - 1 - k)) (8 * i % 10)
theorem pSum_lt (d : Nat → Nat) (i : Nat) : pSum d i < 2 ^ (8 * i % 10) := mkB_lt _ _
theorem pSum_lt9 (d : Nat → Nat) (i : Nat) : pSum d i < 1024 := Nat.lt_of_lt_of_le (pSum_lt d i) (show 2 ^ (8 * i % 10) ≤ 2 ^ 10 from Nat.pow_le_pow_right (by omega) (by omega))
/-- One byte more. -/
def pAcc (d : Nat → Nat) (i : Nat) : Nat := pSum d i * 256 + d i
theorem pAcc_lt {d : Nat → Nat} {i : Nat} (hd : d i < 256) : pAcc d i < 262144 := by
  have := pSum_lt9 d i
  unfold pAcc
  omega
theorem pAcc_bit {d : Nat → Nat} {i : Nat} (hd : d i < 256) (k : Nat) : (pAcc d i).testBit k = (decide (k < 8 * i % 10 + 8) && bitB d (8 * i + 7 - k)) := by
  unfold pAcc
  rw [show pSum d i * 256 + d i = 2 ^ 8 * pSum d i + d i by omega, Nat.testBit_two_pow_mul_add _ (show d i < 2 ^ 8 from hd)]
  by_cases hk : k < 8
  · rw [if_pos hk, decide_eq_true (by omega), Bool.true_and]
    unfold bitB
    rw [show (8 * i + 7 - k) / 8 = i by omega, show 7 - (8 * i + 7 - k) % 8 = k by omega]
  · rw [if_neg hk]
    unfold pSum
    rw [mkB_bit, show 8 * i - 1 - (k - 8) = 8 * i + 7 - k by omega]
    by_cases h2 : k < 8 * i % 10 + 8
    · rw [decide_eq_true h2, decide_eq_true (by omega)]
    · rw [decide_eq_false h2, decide_eq_false (by omega)]
theorem pAcc_few {d : Nat → Nat} {i : Nat} (hd : d i < 256) (h : 8 * i % 10 + 8 < 10) : pAcc d i = pSum d (i + 1) := by
  apply Nat.eq_of_testBit_eq
  intro k
  rw [pAcc_bit hd]
  unfold pSum
  rw [mkB_bit, show 8 * (i + 1) % 10 = 8 * i % 10 + 8 by omega, show 8 * (i + 1) - 1 - k = 8 * i + 7 - k by omega]
/-- A symbol that is full. -/
theorem pAcc_out {d : Nat → Nat} {i n : Nat} (hd : d i < 256) (hi : i < n) (h : 10 ≤ 8 * i % 10 + 8) : pAcc d i / 2 ^ (8 * i % 10 + 8 - 10) = pkS d n (8 * i / 10) := by
  apply Nat.eq_of_testBit_eq
  intro k
  rw [Nat.testBit_div_two_pow, pAcc_bit hd]
  by_cases hk : k < 10
  · rw [pkS_bit _ _ _ _ hk, decide_eq_true (by omega), decide_eq_true (by omega), show 8 * i + 7 - (k + (8 * i % 10 + 8 - 10)) = 10 * (8 * i / 10) + 9 - k by omega]
  · rw [decide_eq_false (by omega), Bool.false_and, Nat.testBit_lt_two_pow (Nat.lt_of_lt_of_le (pkS_lt d n _) (show 2 ^ 10 ≤ 2 ^ k from Nat.pow_le_pow_right (by omega) (by omega)))]
theorem pAcc_left {d : Nat → Nat} {i : Nat} (hd : d i < 256) (h : 10 ≤ 8 * i % 10 + 8) : pAcc d i % 2 ^ (8 * i % 10 + 8 - 10) = pSum d (i + 1) := by
  apply Nat.eq_of_testBit_eq
  intro k
  rw [Nat.testBit_mod_two_pow, pAcc_bit hd]
  unfold pSum
  rw [mkB_bit, show 8 * (i + 1) % 10 = 8 * i % 10 + 8 - 10 by omega, show 8 * (i + 1) - 1 - k = 8 * i + 7 - k by omega]
  by_cases hk : k < 8 * i % 10 + 8 - 10
  · rw [decide_eq_true hk, decide_eq_true (by omega)]
    rfl
  · rw [decide_eq_false hk, Bool.false_and, Bool.false_and]
/-- The last symbol, that is not full. -/
theorem pSum_end {d : Nat → Nat} {n : Nat} (h : 0 < 8 * n % 10) : pSum d n * 2 ^ (10 - 8 * n % 10) = pkS d n (8 * n / 10) := by
  refine bits_eq 10 ?_ (pkS_lt _ _ _) fun k hk => ?_
  · have h1 := pSum_lt d n
    calc pSum d n * 2 ^ (10 - 8 * n % 10) < 2 ^ (8 * n % 10) * 2 ^ (10 - 8 * n % 10) := Nat.mul_lt_mul_of_pos_right h1 (Nat.two_pow_pos _)
      _ = 2 ^ 10 := by rw [← Nat.pow_add]; congr 1; omega
  · rw [Nat.testBit_mul_two_pow, pkS_bit _ _ _ _ hk]
    unfold pSum
    rw [mkB_bit]
    by_cases h2 : 10 - 8 * n % 10 ≤ k
    · rw [decide_eq_true h2, Bool.true_and, decide_eq_true (by omega), decide_eq_true (by omega), show 8 * n - 1 - (k - (10 - 8 * n % 10)) = 10 * (8 * n / 10) + 9 - k by omega]
    · rw [decide_eq_false h2, Bool.false_and, decide_eq_false (by omega), Bool.false_and]

/-- The reference's symbols behind i bits. -/
def rK (d : Nat → Nat) (i : Nat) : Nat → Nat := fun j => mkB (fun k => decide (10 * j + 9 - k < i) && bitB d (10 * j + 9 - k)) 10
theorem rK_lt (d : Nat → Nat) (i j : Nat) : rK d i j < 1024 := mkB_lt _ 10
theorem rK_bit (d : Nat → Nat) (i j k : Nat) (hk : k < 10) : (rK d i j).testBit k = (decide (10 * j + 9 - k < i) && bitB d (10 * j + 9 - k)) := by
  unfold rK
  rw [mkB_bit, decide_eq_true hk, Bool.true_and]
theorem rK_end (d : Nat → Nat) (n : Nat) : rK d (8 * n) = pkS d n := rfl
theorem rK_zero (d : Nat → Nat) (j : Nat) : rK d 0 j = 0 := by
  refine bits_eq 10 (rK_lt _ _ _) (by decide) fun k hk => ?_
  rw [rK_bit _ _ _ _ hk, decide_eq_false (by omega), Bool.false_and, Nat.zero_testBit]
theorem rK_no {d : Nat → Nat} {i : Nat} (h : bitB d i = false) : rK d (i + 1) = rK d i := by
  funext j
  refine bits_eq 10 (rK_lt _ _ _) (rK_lt _ _ _) fun k hk => ?_
  rw [rK_bit _ _ _ _ hk, rK_bit _ _ _ _ hk]
  by_cases e : 10 * j + 9 - k = i
  · rw [e, h, Bool.and_false, Bool.and_false]
  · by_cases e2 : 10 * j + 9 - k < i
    · rw [decide_eq_true e2, decide_eq_true (by omega)]
    · rw [decide_eq_false e2, decide_eq_false (by omega)]
theorem rK_yes {d : Nat → Nat} {i : Nat} (h : bitB d i = true) (j : Nat) : rK d (i + 1) j = if j = i / 10 then rK d i (i / 10) ||| 2 ^ (9 - i % 10) else rK d i j := by
  split
  · rename_i hj
    subst hj
    refine bits_eq 10 (rK_lt _ _ _) (Nat.or_lt_two_pow (rK_lt _ _ _) (Nat.pow_lt_pow_right (by omega) (by omega))) fun k hk => ?_
    rw [Nat.testBit_or, rK_bit _ _ _ _ hk, rK_bit _ _ _ _ hk, Nat.testBit_two_pow]
    by_cases e : 9 - i % 10 = k
    · rw [decide_eq_true e, Bool.or_true, show 10 * (i / 10) + 9 - k = i by omega, h, decide_eq_true (by omega)]
      rfl
    · rw [decide_eq_false e, Bool.or_false]
      by_cases e2 : 10 * (i / 10) + 9 - k < i
      · rw [decide_eq_true e2, decide_eq_true (by omega)]
      · rw [decide_eq_false e2, decide_eq_false (by omega)]
  · rename_i hj
    refine bits_eq 10 (rK_lt _ _ _) (rK_lt _ _ _) fun k hk => ?_
    rw [rK_bit _ _ _ _ hk, rK_bit _ _ _ _ hk]
    by_cases e2 : 10 * j + 9 - k < i
    · rw [decide_eq_true e2, decide_eq_true (by omega)]
    · rw [decide_eq_false e2, decide_eq_false (by omega)]
/-- Bit i as the reference looks at it. -/
theorem bitB_num (d : Nat → Nat) (i : Nat) : d (i / 8) / 2 ^ (7 - i % 8) % 2 = if bitB d i = true then 1 else 0 := by
  unfold bitB
  rw [Nat.testBit_eq_decide_div_mod_eq]
  split
  · rename_i h
    exact of_decide_eq_true h
  · rename_i h
    have := of_decide_eq_false (Bool.eq_false_iff.2 h)
    omega
end Go.Proofs.YtdlmjjlejkkniaaGreat
