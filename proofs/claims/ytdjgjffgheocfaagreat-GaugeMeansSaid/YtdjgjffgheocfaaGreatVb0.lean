/- Bits by words: plain law, no program. -/
import Derived.Laws.BitsAllLaws
import Derived.Laws.Bits64b
import Derived.WalkKit
import Derived.Lib.TrailingZeros
namespace Go.Proofs.YtdjgjffgheocfaaGreat
open Go.RowKit

theorem bit_and_one (x r : Nat) (hx : x < 18446744073709551616) : (bits BinOp.and IntKind.u64 ((x : Int) / 2 ^ r) 1 == 1) = x.testBit r := by
  have e : ((x : Int) / 2 ^ r) = ((x / 2 ^ r : Nat) : Int) := by simp
  have h1 : x / 2 ^ r < 18446744073709551616 := Nat.lt_of_le_of_lt (Nat.div_le_self _ _) hx
  have h2 : bits BinOp.and IntKind.u64 ((x / 2 ^ r : Nat) : Int) ((1 : Nat) : Int) = ((x / 2 ^ r &&& 1 : Nat) : Int) := bits_and_u64_nat _ _ h1 (by omega)
  rw [e]
  rw [show (1 : Int) = ((1 : Nat) : Int) from rfl, h2]
  rw [Nat.and_one_is_mod, Nat.testBit_eq_decide_div_mod_eq, Bool.eq_iff_iff]
  simp only [beq_iff_eq, decide_eq_true_eq]
  omega

/-- Word j of bits f. -/
def wordN (f : Nat → Bool) : Nat → Nat
  | 0 => 0
  | k + 1 => wordN f k + if f k then 2 ^ k else 0
def wordOf (f : Nat → Bool) (j : Nat) : Nat := wordN (fun k => f (64 * j + k)) 64

theorem wordN_lt (f : Nat → Bool) (k : Nat) : wordN f k < 2 ^ k := by
  induction k with
  | zero => simp [wordN]
  | succ k ih => unfold wordN; rw [Nat.pow_succ]; split <;> omega
theorem wordOf_lt (f : Nat → Bool) (j : Nat) : wordOf f j < 18446744073709551616 := wordN_lt _ 64
theorem wordN_testBit (f : Nat → Bool) (n k : Nat) : (wordN f n).testBit k = (decide (k < n) && f k) := by
  induction n with
  | zero => simp [wordN]
  | succ n ih =>
    unfold wordN
    have hl := wordN_lt f n
    by_cases hf : f n
    · simp only [hf, if_true]
      rw [Nat.add_comm]
      by_cases hk : k = n
      · subst hk
        rw [Nat.testBit_two_pow_add_eq, ih]
        simp [hf]
      · by_cases hk2 : k < n
        · rw [Nat.testBit_two_pow_add_gt (by omega), ih]
          simp [hk2, show k < n + 1 by omega]
        · have : 2 ^ n + wordN f n < 2 ^ k := by
            have : 2 ^ (n + 1) ≤ 2 ^ k := Nat.pow_le_pow_right (by omega) (by omega)
            rw [Nat.pow_succ] at this
            omega
          rw [Nat.testBit_lt_two_pow this]
          simp [show ¬ k < n + 1 by omega]
    · simp only [hf]
      simp only [Bool.false_eq_true, if_false, Nat.add_zero]
      rw [ih]
      by_cases hk : k = n
      · subst hk; simp [hf]
      · simp [show (k < n + 1) = (k < n) from by apply propext; omega]
theorem wordOf_testBit (f : Nat → Bool) (j k : Nat) : (wordOf f j).testBit k = (decide (k < 64) && f (64 * j + k)) := wordN_testBit _ _ _

theorem bit_read (f : Nat → Bool) (i : Nat) : (bits BinOp.and IntKind.u64 ((wordOf f (i / 64) : Int) / 2 ^ (i % 64)) 1 == 1) = f i := by
  rw [bit_and_one _ _ (wordOf_lt _ _), wordOf_testBit]
  rw [show 64 * (i / 64) + i % 64 = i by omega]
  simp [Nat.mod_lt]

theorem wordOf_ext {f g : Nat → Bool} (j : Nat) (h : ∀ k, k < 64 → f (64 * j + k) = g (64 * j + k)) : wordOf f j = wordOf g j := by
  apply Nat.eq_of_testBit_eq
  intro k
  rw [wordOf_testBit, wordOf_testBit]
  by_cases hk : k < 64
  · simp [hk, h k hk]
  · simp [hk]
theorem wordOf_zero (f : Nat → Bool) (j : Nat) : wordOf f j = 0 ↔ ∀ k, k < 64 → f (64 * j + k) = false := by
  constructor
  · intro h k hk
    have := wordOf_testBit f j k
    rw [h] at this
    simpa [hk] using this.symm
  · intro h
    have : wordOf f j = wordOf (fun _ => false) j := wordOf_ext j h
    rw [this]
    apply Nat.eq_of_testBit_eq
    intro k
    rw [wordOf_testBit]
    simp

theorem xor_word (f : Nat → Bool) (j : Nat) (on : Bool) (h : (f j == on) = false) :
    bits BinOp.xor IntKind.u64 (wordOf f (j / 64) : Int) (IntKind.u64.wrap (2 ^ (j % 64))) = (wordOf (fun k => if k = j then on else f k) (j / 64) : Int) := by
  have hr : j % 64 < 64 := Nat.mod_lt _ (by omega)
  have hp : 2 ^ (j % 64) < 18446744073709551616 := by
    have : 2 ^ (j % 64) < 2 ^ 64 := Nat.pow_lt_pow_right (by omega) hr
    omega
  have e : IntKind.u64.wrap (2 ^ (j % 64)) = ((2 ^ (j % 64) : Nat) : Int) := by
    generalize hq : 2 ^ (j % 64) = q at hp
    rw [IntKind.wrap_u64, show ((2 : Int) ^ (j % 64)) = (q : Int) by rw [← hq]; simp]
    omega
  rw [e, bits_xor_u64_nat _ _ (wordOf_lt _ _) hp]
  congr 1
  apply Nat.eq_of_testBit_eq
  intro k
  rw [Nat.testBit_xor, wordOf_testBit, wordOf_testBit, Nat.testBit_two_pow]
  by_cases hk : k < 64
  · by_cases hkj : j % 64 = k
    · have : 64 * (j / 64) + k = j := by omega
      rw [this]
      simp only [hk, hkj]
      cases hfj : f j <;> cases on <;> simp_all
    · have : 64 * (j / 64) + k ≠ j := by omega
      simp [hk, hkj, this]
  · simp [hk, show j % 64 ≠ k by omega]

def maskF (a : Nat) (f : Nat → Bool) : Nat → Bool := fun k => decide (a ≤ k) && f k
theorem mask_word (f : Nat → Bool) (a : Nat) :
    IntKind.u64.wrap ((wordOf f (a / 64) : Int) / 2 ^ (a % 64) * 2 ^ (a % 64)) = (wordOf (maskF a f) (a / 64) : Int) := by
  have hr : a % 64 < 64 := Nat.mod_lt _ (by omega)
  have hl := wordOf_lt f (a / 64)
  have hle : wordOf f (a / 64) / 2 ^ (a % 64) * 2 ^ (a % 64) ≤ wordOf f (a / 64) := Nat.div_mul_le_self _ _
  have e : ((wordOf f (a / 64) : Int) / 2 ^ (a % 64) * 2 ^ (a % 64)) = ((wordOf f (a / 64) / 2 ^ (a % 64) * 2 ^ (a % 64) : Nat) : Int) := by simp
  rw [e, IntKind.wrap_u64]
  have : ((wordOf f (a / 64) / 2 ^ (a % 64) * 2 ^ (a % 64) : Nat) : Int) % 18446744073709551616 = ((wordOf f (a / 64) / 2 ^ (a % 64) * 2 ^ (a % 64) : Nat) : Int) := by omega
  rw [this]
  congr 1
  apply Nat.eq_of_testBit_eq
  intro k
  rw [Nat.mul_comm, Nat.testBit_two_pow_mul, Nat.testBit_div_two_pow, wordOf_testBit, wordOf_testBit]
  unfold maskF
  by_cases hk : a % 64 ≤ k
  · rw [show k - a % 64 + a % 64 = k by omega]
    have : a ≤ 64 * (a / 64) + k := by omega
    simp [hk, this]
  · have : ¬ a ≤ 64 * (a / 64) + k := by omega
    simp [hk, this]
theorem mask_next (f : Nat → Bool) (a j : Nat) (h : a ≤ 64 * j) : wordOf (maskF a f) j = wordOf f j :=
  wordOf_ext j fun k _ => by simp [maskF, show a ≤ 64 * j + k by omega]

theorem ctz_bits (x : Nat) (h0 : x ≠ 0) (hx : x < 18446744073709551616) : Lib.ctz 64 x < 64 ∧ x.testBit (Lib.ctz 64 x) = true ∧ ∀ k, k < Lib.ctz 64 x → x.testBit k = false := by
  obtain ⟨m, hm, hk⟩ := Lib.ctzFrom_spec 64 x (by omega) hx
  have e : Lib.ctz 64 x = Lib.ctzFrom 64 x := by simp [Lib.ctz, h0]
  rw [e]
  generalize Lib.ctzFrom 64 x = r at *
  subst hm
  refine ⟨hk, ?_, ?_⟩
  · rw [Nat.testBit_two_pow_mul]
    simp
  · intro k hlt
    rw [Nat.testBit_two_pow_mul]
    simp [show ¬ r ≤ k by omega]
/-- The lowest bit of a word that is not 0. -/
theorem ctz_word (f : Nat → Bool) (j : Nat) (h0 : wordOf f j ≠ 0) : Lib.ctz 64 (wordOf f j) < 64 ∧ f (64 * j + Lib.ctz 64 (wordOf f j)) = true ∧ ∀ k, k < Lib.ctz 64 (wordOf f j) → f (64 * j + k) = false := by
  obtain ⟨h1, h2, h3⟩ := ctz_bits _ h0 (wordOf_lt f j)
  refine ⟨h1, ?_, fun k hk => ?_⟩
  · rw [wordOf_testBit] at h2
    simpa [h1] using h2
  · have := h3 k hk
    rw [wordOf_testBit] at this
    simpa [show k < 64 by omega] using this
end Go.Proofs.YtdjgjffgheocfaaGreat
