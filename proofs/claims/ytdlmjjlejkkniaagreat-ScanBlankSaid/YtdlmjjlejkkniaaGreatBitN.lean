/- The model's bit operations at plain numbers. -/
import Derived.Test.YtdlmjjlejkkniaaGreatBase
import Derived.Laws.BitsLemmas
namespace Go.Proofs.YtdlmjjlejkkniaaGreat
open Go.RowKit

theorem bits_and_or_xor (k : IntKind) (j : Nat) (hj : j ≤ k.bits) (hk : ∀ n : Int, 0 ≤ n → n < 2 ^ j → k.wrap n = n) (a b : Nat) (ha : a < 2 ^ j) (hb : b < 2 ^ j) : bits .xor k a b = ((a ^^^ b : Nat) : Int) := by
  have hp : 2 ^ j ≤ 2 ^ k.bits := Nat.pow_le_pow_right (by decide) hj
  have ha' : a % 2 ^ k.bits = a := Nat.mod_eq_of_lt (Nat.lt_of_lt_of_le ha hp)
  have hb' : b % 2 ^ k.bits = b := Nat.mod_eq_of_lt (Nat.lt_of_lt_of_le hb hp)
  have cast : ∀ n : Nat, n < 2 ^ j → ((n : Nat) : Int) < 2 ^ j := fun n h => by exact_mod_cast h
  simp only [bits, BitVec.ofInt_natCast, BitVec.toNat_xor, BitVec.toNat_ofNat, ha', hb']
  exact hk _ (Int.natCast_nonneg _) (cast _ (Nat.xor_lt_two_pow ha hb))
theorem wrap_u16 (n : Int) : IntKind.u16.wrap n = n % 65536 := by simp [IntKind.wrap, IntKind.bits, IntKind.signed]
theorem wraps_u16 (n : Int) (h₀ : 0 ≤ n) (h₁ : n < 2 ^ 16) : IntKind.u16.wrap n = n := by rw [wrap_u16]; omega
theorem wraps_i64 (n : Int) (h₀ : 0 ≤ n) (h₁ : n < 2 ^ 62) : IntKind.i64.wrap n = n := by rw [IntKind.wrap_i64]; omega
theorem xor_u16 {a b : Nat} (ha : a < 65536) (hb : b < 65536) : bits .xor .u16 (a : Int) (b : Int) = ((a ^^^ b : Nat) : Int) := bits_and_or_xor .u16 16 (by decide) wraps_u16 a b ha hb
theorem xor_i64 {a b : Nat} (ha : a < 4294967296) (hb : b < 4294967296) : bits .xor .i64 (a : Int) (b : Int) = ((a ^^^ b : Nat) : Int) :=
  bits_and_or_xor .i64 62 (by decide) wraps_i64 a b (by omega) (by omega)
theorem and_u16 {a b : Nat} (ha : a < 65536) (hb : b < 65536) : bits .and .u16 (a : Int) (b : Int) = ((a &&& b : Nat) : Int) := (bits_nat .u16 16 (by decide) wraps_u16 a b ha hb).1
theorem or_u16 {a b : Nat} (ha : a < 65536) (hb : b < 65536) : bits .or .u16 (a : Int) (b : Int) = ((a ||| b : Nat) : Int) := (bits_nat .u16 16 (by decide) wraps_u16 a b ha hb).2
theorem and_i64 {a b : Nat} (ha : a < 4294967296) (hb : b < 4294967296) : bits .and .i64 (a : Int) (b : Int) = ((a &&& b : Nat) : Int) := (bits_nat .i64 62 (by decide) wraps_i64 a b (by omega) (by omega)).1
theorem or_i64 {a b : Nat} (ha : a < 4294967296) (hb : b < 4294967296) : bits .or .i64 (a : Int) (b : Int) = ((a ||| b : Nat) : Int) := (bits_nat .i64 62 (by decide) wraps_i64 a b (by omega) (by omega)).2
/-- The low ten bits. -/
theorem and_1023 {a : Nat} (ha : a < 65536) : bits .and .u16 (a : Int) 1023 = ((a % 1024 : Nat) : Int) := by
  have := and_u16 ha (b := 1023) (by omega)
  rwa [show a &&& 1023 = a % 1024 from Nat.and_two_pow_sub_one_eq_mod a 10] at this
theorem and_one {a : Nat} (ha : a < 4294967296) : bits .and .i64 (a : Int) 1 = ((a % 2 : Nat) : Int) := by
  have := and_i64 ha (b := 1) (by omega)
  rwa [show a &&& 1 = a % 2 from Nat.and_two_pow_sub_one_eq_mod a 1] at this
theorem xor_mod (a b : Nat) : (a ^^^ b) % 1024 = (a % 1024) ^^^ (b % 1024) := Nat.xor_mod_two_pow (n := 10)
theorem xor_lt16 {a b : Nat} (ha : a < 65536) (hb : b < 65536) : a ^^^ b < 65536 := Nat.xor_lt_two_pow (n := 16) ha hb
end Go.Proofs.YtdlmjjlejkkniaaGreat
