/- Heads and packed symbols. -/
import Derived.Test.YtdlmjjlejkkniaaGreatBase
import Derived.Test.YtdlmjjlejkkniaaGreatRowV
import Derived.Test.YtdlmjjlejkkniaaGreatPolAll
import Derived.Deep.AppendLies
namespace Go.Proofs.YtdlmjjlejkkniaaGreat

/-- The number whose bit k, of the first n, is f k. -/
def mkB (f : Nat → Bool) : Nat → Nat
  | 0 => 0
  | n + 1 => mkB f n + if f n = true then 2 ^ n else 0
theorem mkB_lt (f : Nat → Bool) : ∀ n, mkB f n < 2 ^ n
  | 0 => by simp [mkB]
  | n + 1 => by
    have := mkB_lt f n
    unfold mkB
    rw [Nat.pow_succ]
    split <;> omega
theorem mkB_bit (f : Nat → Bool) : ∀ n k, (mkB f n).testBit k = (decide (k < n) && f k)
  | 0, k => by simp [mkB]
  | n + 1, k => by
    have hl := mkB_lt f n
    unfold mkB
    by_cases h : f n = true
    · rw [if_pos h, Nat.add_comm]
      by_cases hk : k = n
      · subst hk
        rw [Nat.testBit_two_pow_add_eq, Nat.testBit_lt_two_pow hl, h]
        simp
      · by_cases hk2 : k < n
        · rw [Nat.testBit_two_pow_add_gt hk2, mkB_bit f n k]
          simp [hk2, show k < n + 1 by omega]
        · have h2 : 2 ^ n + mkB f n < 2 ^ k := by
            have : 2 ^ (n + 1) ≤ 2 ^ k := Nat.pow_le_pow_right (by omega) (by omega)
            rw [Nat.pow_succ] at this
            omega
          rw [Nat.testBit_lt_two_pow h2]
          simp [show ¬ k < n + 1 by omega]
    · rw [if_neg h, Nat.add_zero, mkB_bit f n k]
      by_cases hk : k = n
      · subst hk
        simp [h]
      · by_cases hk2 : k < n
        · simp [hk2, show k < n + 1 by omega]
        · simp [hk2, show ¬ k < n + 1 by omega]
theorem bits_eq {x y : Nat} (n : Nat) (hx : x < 2 ^ n) (hy : y < 2 ^ n) (h : ∀ k, k < n → x.testBit k = y.testBit k) : x = y := by
  apply Nat.eq_of_testBit_eq
  intro k
  by_cases hk : k < n
  · exact h k hk
  · have : 2 ^ n ≤ 2 ^ k := Nat.pow_le_pow_right (by omega) (by omega)
    rw [Nat.testBit_lt_two_pow (Nat.lt_of_lt_of_le hx this), Nat.testBit_lt_two_pow (Nat.lt_of_lt_of_le hy this)]
/-- Bit i of bytes, the first one's highest first. -/
def bitB (d : Nat → Nat) (i : Nat) : Bool := (d (i / 8)).testBit (7 - i % 8)
/-- Bit i of symbols. -/
def bitS (s : Nat → Nat) (i : Nat) : Bool := (s (i / 10)).testBit (9 - i % 10)
/-- n bytes as symbols. -/
def pkS (d : Nat → Nat) (n : Nat) : Nat → Nat := fun j => mkB (fun k => decide (10 * j + 9 - k < 8 * n) && bitB d (10 * j + 9 - k)) 10
theorem pkS_lt (d : Nat → Nat) (n j : Nat) : pkS d n j < 1024 := mkB_lt _ 10
theorem pkS_bit (d : Nat → Nat) (n j k : Nat) (hk : k < 10) : (pkS d n j).testBit k = (decide (10 * j + 9 - k < 8 * n) && bitB d (10 * j + 9 - k)) := by
  unfold pkS
  rw [mkB_bit, decide_eq_true hk, Bool.true_and]
/-- Symbols as bytes. -/
def upB (s : Nat → Nat) : Nat → Nat := fun j => mkB (fun k => bitS s (8 * j + 7 - k)) 8
theorem upB_lt (s : Nat → Nat) (j : Nat) : upB s j < 256 := mkB_lt _ 8
theorem upB_bit (s : Nat → Nat) (j k : Nat) (hk : k < 8) : (upB s j).testBit k = bitS s (8 * j + 7 - k) := by
  unfold upB
  rw [mkB_bit, decide_eq_true hk, Bool.true_and]
theorem bitS_pk (d : Nat → Nat) (n i : Nat) : bitS (pkS d n) i = (decide (i < 8 * n) && bitB d i) := by
  unfold bitS
  rw [pkS_bit _ _ _ _ (by omega), show 10 * (i / 10) + 9 - (9 - i % 10) = i by omega]
/-- What was packed is unpacked. -/
theorem up_pk {d : Nat → Nat} {n j : Nat} (hj : j < n) (hd : d j < 256) : upB (pkS d n) j = d j := by
  refine bits_eq 8 (upB_lt _ _) hd fun k hk => ?_
  rw [upB_bit _ _ _ hk, bitS_pk, decide_eq_true (by omega), Bool.true_and]
  unfold bitB
  rw [show (8 * j + 7 - k) / 8 = j by omega, show 7 - (8 * j + 7 - k) % 8 = k by omega]
theorem pkS_congr {d e : Nat → Nat} {n : Nat} (h : ∀ j, j < n → d j = e j) (j : Nat) : pkS d n j = pkS e n j := by
  refine bits_eq 10 (pkS_lt _ _ _) (pkS_lt _ _ _) fun k hk => ?_
  rw [pkS_bit _ _ _ _ hk, pkS_bit _ _ _ _ hk]
  by_cases hb : 10 * j + 9 - k < 8 * n
  · unfold bitB
    rw [h _ (by omega)]
  · rw [decide_eq_false hb, Bool.false_and, Bool.false_and]
theorem upB_congr {s t : Nat → Nat} {m : Nat} (h : ∀ j, j < m → s j = t j) {j : Nat} (hj : 8 * j + 8 ≤ 10 * m) : upB s j = upB t j := by
  refine bits_eq 8 (upB_lt _ _) (upB_lt _ _) fun k hk => ?_
  rw [upB_bit _ _ _ hk, upB_bit _ _ _ hk]
  unfold bitS
  rw [h _ (by omega)]
/-- How many symbols n bytes take. -/
def pkN (n : Nat) : Nat := (8 * n + 9) / 10

/-- The pack's sum behind i bytes: the bits that are in no symbol yet. -/
def pSum (d : Nat → Nat) (i : Nat) : Nat := mkB (fun k => bitB d (8 * i - 1 - k)) (8 * i % 10)
theorem pSum_lt (d : Nat → Nat) (i : Nat) : pSum d i < 2 ^ (8 * i % 10) := mkB_lt _ _
theorem pSum_lt9 (d : Nat → Nat) (i : Nat) : pSum d i < 1024 := Nat.lt_of_lt_of_le (pSum_lt d i) (show 2 ^ (8 * i % 10) ≤ 2 ^ 10 from Nat.pow_le_pow_right (by omega) (by omega))
/-- One byte more. -/
def pAcc (d : Nat → Nat) (i : Nat) : Nat := pSum d i * 256 + d i
theorem pAcc_lt {d : Nat → Nat} {i : Nat} (hd : d i < 256) : pAcc d i < 262144 := by
  have := pSum_lt9 d i
  unfold pAcc
  omega
theorem pAcc_bit {d : Nat → Nat} {i : Nat} (hd : d i < 256) (k : Nat) : (pAcc d i).testBit k = (decide (k < 8 * i % 10 + 8) && bitB d (8 * i + 7 - k)) := by
  unfold pAcc
  rw [show pSum d i * 256 + d i = 2 ^ 8 * pSum d i + d i by omega, Nat.testBit_two_pow_mul_add _ (show d i < 2 ^ 8 from hd)]
  by_cases hk : k < 8
  · rw [if_pos hk, decide_eq_true (by omega), Bool.true_and]
    unfold bitB
    rw [show (8 * i + 7 - k) / 8 = i by omega, show 7 - (8 * i + 7 - k) % 8 = k by omega]
  · rw [if_neg hk]
    unfold pSum
    rw [mkB_bit, show 8 * i - 1 - (k - 8) = 8 * i + 7 - k by omega]
    by_cases h2 : k < 8 * i % 10 + 8
    · rw [decide_eq_true h2, decide_eq_true (by omega)]
    · rw [decide_eq_false h2, decide_eq_false (by omega)]
theorem pAcc_few {d : Nat → Nat} {i : Nat} (hd : d i < 256) (h : 8 * i % 10 + 8 < 10) : pAcc d i = pSum d (i + 1) := by
  apply Nat.eq_of_testBit_eq
  intro k
  rw [pAcc_bit hd]
  unfold pSum
  rw [mkB_bit, show 8 * (i + 1) % 10 = 8 * i % 10 + 8 by omega, show 8 * (i + 1) - 1 - k = 8 * i + 7 - k by omega]
/-- A symbol that is full. -/
theorem pAcc_out {d : Nat → Nat} {i n : Nat} (hd : d i < 256) (hi : i < n) (h : 10 ≤ 8 * i % 10 + 8) : pAcc d i / 2 ^ (8 * i % 10 + 8 - 10) = pkS d n (8 * i / 10) := by
  apply Nat.eq_of_testBit_eq
  intro k
  rw [Nat.testBit_div_two_pow, pAcc_bit hd]
  by_cases hk : k < 10
  · rw [pkS_bit _ _ _ _ hk, decide_eq_true (by omega), decide_eq_true (by omega), show 8 * i + 7 - (k + (8 * i % 10 + 8 - 10)) = 10 * (8 * i / 10) + 9 - k by omega]
  · rw [decide_eq_false (by omega), Bool.false_and, Nat.testBit_lt_two_pow (Nat.lt_of_lt_of_le (pkS_lt d n _) (show 2 ^ 10 ≤ 2 ^ k from Nat.pow_le_pow_right (by omega) (by omega)))]
theorem pAcc_left {d : Nat → Nat} {i : Nat} (hd : d i < 256) (h : 10 ≤ 8 * i % 10 + 8) : pAcc d i % 2 ^ (8 * i % 10 + 8 - 10) = pSum d (i + 1) := by
  apply Nat.eq_of_testBit_eq
  intro k
  rw [Nat.testBit_mod_two_pow, pAcc_bit hd]
  unfold pSum
  rw [mkB_bit, show 8 * (i + 1) % 10 = 8 * i % 10 + 8 - 10 by omega, show 8 * (i + 1) - 1 - k = 8 * i + 7 - k by omega]
  by_cases hk : k < 8 * i % 10 + 8 - 10
  · rw [decide_eq_true hk, decide_eq_true (by omega)]
    rfl
  · rw [decide_eq_false hk, Bool.false_and, Bool.false_and]
/-- The last symbol, that is not full. -/
theorem pSum_end {d : Nat → Nat} {n : Nat} (h : 0 < 8 * n % 10) : pSum d n * 2 ^ (10 - 8 * n % 10) = pkS d n (8 * n / 10) := by
  refine bits_eq 10 ?_ (pkS_lt _ _ _) fun k hk => ?_
  · have h1 := pSum_lt d n
    calc pSum d n * 2 ^ (10 - 8 * n % 10) < 2 ^ (8 * n % 10) * 2 ^ (10 - 8 * n % 10) := Nat.mul_lt_mul_of_pos_right h1 (Nat.two_pow_pos _)
      _ = 2 ^ 10 := by rw [← Nat.pow_add]; congr 1; omega
  · rw [Nat.testBit_mul_two_pow, pkS_bit _ _ _ _ hk]
    unfold pSum
    rw [mkB_bit]
    by_cases h2 : 10 - 8 * n % 10 ≤ k
    · rw [decide_eq_true h2, Bool.true_and, decide_eq_true (by omega), decide_eq_true (by omega), show 8 * n - 1 - (k - (10 - 8 * n % 10)) = 10 * (8 * n / 10) + 9 - k by omega]
    · rw [decide_eq_false h2, Bool.false_and, decide_eq_false (by omega), Bool.false_and]

/-- The reference's symbols behind i bits. -/
def rK (d : Nat → Nat) (i : Nat) : Nat → Nat := fun j => mkB (fun k => decide (10 * j + 9 - k < i) && bitB d (10 * j + 9 - k)) 10
theorem rK_lt (d : Nat → Nat) (i j : Nat) : rK d i j < 1024 := mkB_lt _ 10
theorem rK_bit (d : Nat → Nat) (i j k : Nat) (hk : k < 10) : (rK d i j).testBit k = (decide (10 * j + 9 - k < i) && bitB d (10 * j + 9 - k)) := by
  unfold rK
  rw [mkB_bit, decide_eq_true hk, Bool.true_and]
theorem rK_end (d : Nat → Nat) (n : Nat) : rK d (8 * n) = pkS d n := rfl
theorem rK_zero (d : Nat → Nat) (j : Nat) : rK d 0 j = 0 := by
  refine bits_eq 10 (rK_lt _ _ _) (by decide) fun k hk => ?_
  rw [rK_bit _ _ _ _ hk, decide_eq_false (by omega), Bool.false_and, Nat.zero_testBit]
theorem rK_no {d : Nat → Nat} {i : Nat} (h : bitB d i = false) : rK d (i + 1) = rK d i := by
  funext j
  refine bits_eq 10 (rK_lt _ _ _) (rK_lt _ _ _) fun k hk => ?_
  rw [rK_bit _ _ _ _ hk, rK_bit _ _ _ _ hk]
  by_cases e : 10 * j + 9 - k = i
  · rw [e, h, Bool.and_false, Bool.and_false]
  · by_cases e2 : 10 * j + 9 - k < i
    · rw [decide_eq_true e2, decide_eq_true (by omega)]
    · rw [decide_eq_false e2, decide_eq_false (by omega)]
theorem rK_yes {d : Nat → Nat} {i : Nat} (h : bitB d i = true) (j : Nat) : rK d (i + 1) j = if j = i / 10 then rK d i (i / 10) ||| 2 ^ (9 - i % 10) else rK d i j := by
  split
  · rename_i hj
    subst hj
    refine bits_eq 10 (rK_lt _ _ _) (Nat.or_lt_two_pow (rK_lt _ _ _) (Nat.pow_lt_pow_right (by omega) (by omega))) fun k hk => ?_
    rw [Nat.testBit_or, rK_bit _ _ _ _ hk, rK_bit _ _ _ _ hk, Nat.testBit_two_pow]
    by_cases e : 9 - i % 10 = k
    · rw [decide_eq_true e, Bool.or_true, show 10 * (i / 10) + 9 - k = i by omega, h, decide_eq_true (by omega)]
      rfl
    · rw [decide_eq_false e, Bool.or_false]
      by_cases e2 : 10 * (i / 10) + 9 - k < i
      · rw [decide_eq_true e2, decide_eq_true (by omega)]
      · rw [decide_eq_false e2, decide_eq_false (by omega)]
  · rename_i hj
    refine bits_eq 10 (rK_lt _ _ _) (rK_lt _ _ _) fun k hk => ?_
    rw [rK_bit _ _ _ _ hk, rK_bit _ _ _ _ hk]
    by_cases e2 : 10 * j + 9 - k < i
    · rw [decide_eq_true e2, decide_eq_true (by omega)]
    · rw [decide_eq_false e2, decide_eq_false (by omega)]
/-- Bit i as the reference looks at it. -/
theorem bitB_num (d : Nat → Nat) (i : Nat) : d (i / 8) / 2 ^ (7 - i % 8) % 2 = if bitB d i = true then 1 else 0 := by
  unfold bitB
  rw [Nat.testBit_eq_decide_div_mod_eq]
  split
  · rename_i h
    exact of_decide_eq_true h
  · rename_i h
    have := of_decide_eq_false (Bool.eq_false_iff.2 h)
    omega
end Go.Proofs.YtdlmjjlejkkniaaGreat

namespace Go.Proofs.YtdlmjjlejkkniaaGreat
open Go.RowKit

set_option maxRecDepth 100000 in
set_option maxHeartbeats 1000000 in
theorem rsymbols_any (n : Nat) (hn : n ≤ 1000000) (w : World) :
    Calls Tryz.prog 55 #[.int .i64 n] w fun e w' => e = .returned (.int .i64 (pkN n : Nat)) ∧ w = w' := by
  have hd : (8 * (n : Int) + 9).tdiv 10 = ((pkN n : Nat) : Int) := by
    rw [Int.tdiv_eq_ediv_of_nonneg (by omega)]
    unfold pkN
    omega
  have hpk : pkN n ≤ 1000000 := by unfold pkN; omega
  have h1 : ¬ (n : Int) < 0 := by omega
  have h2 : (if (n : Int) < 0 then 0 else (n : Int)) = (n : Int) := by rw [if_neg h1]
  go_enter Tryz.func55, Tryz.ntmps55
  go_wp2_with fail
  go_ret
  exact ⟨rfl, rfl⟩
theorem shr_u8 {x r : Nat} : ((x : Int) / 2 ^ r) = ((x / 2 ^ r : Nat) : Int) := by
  rw [Int.natCast_ediv]; rfl

set_option maxRecDepth 100000 in
set_option maxHeartbeats 2000000 in
theorem rpack_any (a : Option Addr) (n c : Nat) (d : Nat → Nat) (w : World) (ha : ArgV w a n (fun i => .int .u8 (d i : Nat))) (hd : ∀ i, i < n → d i < 256) (hn : n ≤ 100000) :
    Calls Tryz.prog 25 #[.slice a n c] w fun e w' => ∃ g, e = .returned (.slice (some ⟨g, 0, none⟩) (pkN n) (pkN n)) ∧ w.heap.size ≤ g ∧ Blk w' g 25 (uArr (pkS d n) (pkN n)) ∧ Keep (fun _ => False) w w' := by
  have HA := Lib.hid ha
  have HD := Lib.hid hd
  have HS := Lib.hid (rsymbols_any n (by omega))
  have hpn : pkN n ≤ 100000 := by unfold pkN; omega
  have hmk := make_u (pkN n) (pkN n) rfl (by omega)
  have HPN := Lib.hid (show ∀ i, i < 8 * n → i / 10 < pkN n from fun i hi => by unfold pkN; omega)
  have b0 := Blk.new w 25 (uArr (fun _ => 0) (pkN n))
  have k0 := (Keep.refl (fun _ => False) w).alloc (.cells (uArr (fun _ => 0) (pkN n)) 25)
  clear ha hd
  generalize hM : pkN n = M at *
  clear hM
  go_enter Tryz.func25, Tryz.ntmps25
  go_wp2_with fail
  refine (HS.out _).mono ?_
  rintro e w1 ⟨rfl, rfl⟩
  go_wp2_with fail
  go_loopw [4] (fun v4 wr => ∃ i : Nat, i ≤ 8 * n ∧ v4 = .int .i64 i ∧ Blk wr w.heap.size 25 (uArr (rK d i) M) ∧ Keep (fun _ => False) w wr) (fun v _ => 8 * n - (intOf v).toNat)
  case atStart => exact ⟨0, by omega, rfl, by rwa [uArr_congr (g := fun _ => 0) (fun i _ => rK_zero d i)], k0⟩
  case round =>
    clear b0 k0
    obtain ⟨i, hi, rfl, bk, kk⟩ := hrel
    by_cases hin : i < 8 * n
    · have hin' : (i : Int) < 8 * (n : Int) := by omega
      obtain ⟨bA, oA, rfl, hbA, hcA⟩ := HA.out.at_ (by omega)
      have c0 := (kk.cell (p := ⟨bA, oA + i / 8, none⟩) hbA (by simp)).trans (hcA (i / 8) (by omega))
      have c1 := bk.val (HPN.out i hin)
      have hd8 := HD.out (i / 8) (by omega)
      have hb := bitB_num d i
      have hY := Lib.hid (rK_yes (d := d) (i := i))
      have hN := Lib.hid (rK_no (d := d) (i := i))
      have hrl := rK_lt d i (i / 10)
      have hfz := bk.frozen (i / 10)
      have hbit : (bits .and .u8 ((d (i / 8) : Int) / 2 ^ (7 - i % 8)) 1 == 1) = bitB d i := by
        have h1 := bits_nat .u8 8 (by decide) (fun n h0 h1 => by rw [show IntKind.u8.wrap n = n % 256 by simp [IntKind.wrap, IntKind.bits, IntKind.signed]]; omega) (d (i / 8) / 2 ^ (7 - i % 8)) 1 (Nat.lt_of_le_of_lt (Nat.div_le_self _ _) hd8) (by omega)
        have h2 := h1.1
        rw [Nat.and_one_is_mod, hb] at h2
        rw [shr_u8]
        rw [show (1 : Int) = ((1 : Nat) : Int) from rfl, h2]
        cases bitB d i <;> rfl
      have hwp : IntKind.u16.wrap (2 ^ (9 - i % 10)) = ((2 ^ (9 - i % 10) : Nat) : Int) := by
        have : 2 ^ (9 - i % 10) < 2 ^ 16 := Nat.pow_lt_pow_right (by omega) (by omega)
        rw [show (2 : Int) ^ (9 - i % 10) = ((2 ^ (9 - i % 10) : Nat) : Int) by exact_mod_cast rfl]
        generalize 2 ^ (9 - i % 10) = z at *
        exact wraps_u16 _ (by omega) (by omega)
      have hor := or_u16 (a := rK d i (i / 10)) (b := 2 ^ (9 - i % 10)) (by omega) (show 2 ^ (9 - i % 10) < 2 ^ 16 from Nat.pow_lt_pow_right (by omega) (by omega))
      have e1 : (i : Int).tdiv 8 = ((i / 8 : Nat) : Int) := by rw [Int.tdiv_eq_ediv_of_nonneg (by omega)]; rfl
      have e2 : (i : Int).tmod 8 = ((i % 8 : Nat) : Int) := by rw [Int.tmod_eq_emod_of_nonneg (by omega)]; rfl
      have e3 : (i : Int).tdiv 10 = ((i / 10 : Nat) : Int) := by rw [Int.tdiv_eq_ediv_of_nonneg (by omega)]; rfl
      have e4 : (i : Int).tmod 10 = ((i % 10 : Nat) : Int) := by rw [Int.tmod_eq_emod_of_nonneg (by omega)]; rfl
      have e5 : 7 - ((i % 8 : Nat) : Int) = ((7 - i % 8 : Nat) : Int) := by omega
      have e6 : 9 - ((i % 10 : Nat) : Int) = ((9 - i % 10 : Nat) : Int) := by omega
      have h7 : 7 - i % 8 ≤ 7 := by omega
      have h9 : 9 - i % 10 ≤ 9 := by omega
      have h8n : i / 8 < n := by omega
      have h10n := HPN.out i hin
      clear hcA
      generalize 7 - i % 8 = r8 at *
      generalize 9 - i % 10 = r10 at *
      generalize i % 8 = m8 at *
      generalize i % 10 = m10 at *
      generalize i / 8 = q8 at *
      generalize i / 10 = q10 at *
      generalize d q8 = x at *
      generalize rK d i q10 = y at *
      rw [← hwp] at hor
      have hY' := hY.out
      have hN' := hN.out
      clear hwp hb hN hY
      cases hB : bitB d i with
      | true =>
        rw [hB] at hbit
        have HB := Lib.hid (bk.storeU q10 (y ||| 2 ^ r10) (f' := rK d (i + 1)) (fun j _ => by rw [hY' hB j]))
        have HK := Lib.hid (kk.setCell (p := ⟨w.heap.size, q10, none⟩) (.inr (Nat.le_refl _)) (.int .u16 (y ||| 2 ^ r10 : Nat)))
        clear bk hB
        generalize y ||| 2 ^ r10 = z at *
        go_wp2_with (simp only [hor])
        exact ⟨⟨i + 1, by omega, by go_num, HB.out, HK.out⟩, by simp [intOf]; omega⟩
      | false =>
        rw [hB] at hbit
        have HE := Lib.hid (hN' hB)
        have HB := Lib.hid bk
        clear bk hB
        go_wp2_with fail
        exact ⟨⟨i + 1, by omega, by go_num, by rw [HE.out]; exact HB.out, kk⟩, by simp [intOf]; omega⟩
    · obtain rfl : i = 8 * n := by omega
      have hin' : ¬ ((8 * n : Nat) : Int) < 8 * (n : Int) := by omega
      go_wp2_with fail
      go_ret
      exact ⟨_, rfl, Nat.le_refl _, bk, kk⟩
end Go.Proofs.YtdlmjjlejkkniaaGreat

namespace Go.Proofs.YtdlmjjlejkkniaaGreat
open Go.RowKit

/-- A head. -/
def markV (k l s : Int) : Value := .agg #[.int .i64 k, .int .i64 l, .int .i64 s]
/-- A head that may be. -/
structure MarkOk (k l s : Nat) : Prop where
  k1 : 1 ≤ k
  k2 : k ≤ 1023
  l : l / 1024 ≤ 1023
  s : s / 1024 / 1024 / 1024 ≤ 1023
/-- Its symbols. -/
def hdS (k l s : Nat) : Nat → Nat := lst [k, l / 1024, l % 1024, s / 1024 / 1024 / 1024 % 1024, s / 1024 / 1024 % 1024, s / 1024 % 1024, s % 1024, 0]
theorem hdS_lt {k l s : Nat} (h : MarkOk k l s) (i : Nat) : hdS k l s i < 1024 := by
  have := h.k2
  have := h.l
  match i with
  | 0 => show k < 1024; omega
  | 1 => show l / 1024 < 1024; omega
  | 2 => show l % 1024 < 1024; omega
  | 3 => show s / 1024 / 1024 / 1024 % 1024 < 1024; omega
  | 4 => show s / 1024 / 1024 % 1024 < 1024; omega
  | 5 => show s / 1024 % 1024 < 1024; omega
  | 6 => show s % 1024 < 1024; omega
  | 7 => show 0 < 1024; omega
  | n + 8 => show (0 : Nat) < 1024; omega
theorem shr3 (s : Nat) : (s : Int) / 1073741824 = ((s / 1024 / 1024 / 1024 : Nat) : Int) := by omega
theorem shr2 (s : Nat) : (s : Int) / 1048576 = ((s / 1024 / 1024 : Nat) : Int) := by omega
theorem shr1 (s : Nat) : (s : Int) / 1024 = ((s / 1024 : Nat) : Int) := by omega
theorem andI_1023 {x : Nat} (h : x < 2 ^ 60) : bits .and .i64 (x : Int) 1023 = ((x % 1024 : Nat) : Int) := by
  have h1 := (bits_nat .i64 62 (by decide) wraps_i64 x 1023 (by omega) (by omega)).1
  rwa [show x &&& 1023 = x % 1024 from Nat.and_two_pow_sub_one_eq_mod x 10] at h1

set_option maxRecDepth 100000 in
set_option maxHeartbeats 2000000 in
theorem rhead_any (k l s : Nat) (h : MarkOk k l s) (w : World) :
    Calls Tryz.prog 24 #[markV k l s] w fun e w' => e = .returned (.slice (some ⟨w.heap.size + 1, 0, none⟩) 8 8) ∧ w.heap.size + 1 < w'.heap.size ∧ Blk w' (w.heap.size + 1) 25 (uArr (hdS k l s) 8) ∧ Keep (fun _ => False) w w' := by
  have hk := h.k2
  have hl := h.l
  have hs := h.s
  have e1 := shr1 l
  have e2 := andI_1023 (x := l) (by omega)
  have e3 := shr3 s
  have e4 := shr2 s
  have e5 := shr1 s
  have e6 := andI_1023 (x := s / 1024 / 1024 / 1024) (by omega)
  have e7 := andI_1023 (x := s / 1024 / 1024) (by omega)
  have e8 := andI_1023 (x := s / 1024) (by omega)
  have e9 := andI_1023 (x := s) (by omega)
  have hv : uArr (hdS k l s) 8 = #[.int .u16 k, .int .u16 (l / 1024 : Nat), .int .u16 (l % 1024 : Nat), .int .u16 (s / 1024 / 1024 / 1024 % 1024 : Nat), .int .u16 (s / 1024 / 1024 % 1024 : Nat), .int .u16 (s / 1024 % 1024 : Nat), .int .u16 (s % 1024 : Nat), .int .u16 (0 : Nat)] := rfl
  have b1 : l % 1024 ≤ 1023 := by omega
  have b2 : s / 1024 / 1024 / 1024 % 1024 ≤ 1023 := by omega
  have b3 : s / 1024 / 1024 % 1024 ≤ 1023 := by omega
  have b4 : s / 1024 % 1024 ≤ 1023 := by omega
  have b5 : s % 1024 ≤ 1023 := by omega
  have k1 := ((Keep.refl (fun _ => False) w).alloc (.cells #[.int .i64 k, .int .i64 l, .int .i64 s] 30)).alloc (.cells (uArr (hdS k l s) 8) 25)
  have k2 := Blk.here (w.alloc (.cells #[.int .i64 k, .int .i64 l, .int .i64 s] 30)) 25 (uArr (hdS k l s) 8) (w.heap.size + 1) (by simp)
  rw [hv] at k1 k2 ⊢
  clear hv h hs
  generalize s / 1024 / 1024 / 1024 % 1024 = s3 at *
  generalize s / 1024 / 1024 % 1024 = s2 at *
  generalize s / 1024 % 1024 = s1 at *
  generalize s / 1024 / 1024 / 1024 = t3 at *
  generalize s / 1024 / 1024 = t2 at *
  generalize s / 1024 = t1 at *
  generalize s % 1024 = s0 at *
  generalize l / 1024 = l1 at *
  generalize l % 1024 = l0 at *
  unfold markV
  go_enter Tryz.func24, Tryz.ntmps24
  go_wp2_with (simp only [e3, e4, e5])
  go_ret
  exact ⟨rfl, k2.lt, k2, k1⟩
end Go.Proofs.YtdlmjjlejkkniaaGreat

namespace Go.Proofs.YtdlmjjlejkkniaaGreat
open Go.RowKit

/-- W rows of the call's own, no two of them one. -/
structure Fam (w : World) (N W : Nat) (A : Nat → Option Addr) (L C : Nat → Nat) (p : Nat → Nat → Nat) : Prop where
  own : ∀ i, i < W → OwnU w N (A i) (L i) (C i) (p i)
  ne : ∀ i j, i < W → j < W → i ≠ j → A i = A j → A i = none
def famV (A : Nat → Option Addr) (L C : Nat → Nat) : Nat → Value := fun i => .slice (A i) (L i) (C i)
def updF {α : Type} (f : Nat → α) (i : Nat) (v : α) : Nat → α := fun k => if k = i then v else f k
theorem updF_at {α : Type} (f : Nat → α) (i : Nat) (v : α) : updF f i v i = v := if_pos rfl
theorem updF_ne {α : Type} (f : Nat → α) {i k : Nat} (v : α) (h : k ≠ i) : updF f i v k = f k := if_neg h
section
variable {w w' : World} {N W : Nat} {A : Nat → Option Addr} {L C : Nat → Nat} {p : Nat → Nat → Nat}
theorem Fam.keep (h : Fam w N W A L C p) (hk : Keep (fun _ => False) w w') : Fam w' N W A L C p := ⟨fun i hi => (h.own i hi).keep hk, h.ne⟩
theorem Fam.more {M : Nat} (h : Fam w N W A L C p) (hM : M ≤ N) : Fam w M W A L C p := ⟨fun _ hi => (h.own _ hi).more hM, h.ne⟩
theorem Fam.congr {A' : Nat → Option Addr} {L' C' : Nat → Nat} {p' : Nat → Nat → Nat} (h : Fam w N W A L C p) (e1 : ∀ i, i < W → A' i = A i) (e2 : ∀ i, i < W → L' i = L i) (e3 : ∀ i, i < W → C' i = C i) (e4 : ∀ i, i < W → ∀ j, j < L i → p i j = p' i j) : Fam w N W A' L' C' p' :=
  ⟨fun i hi => by rw [e1 i hi, e2 i hi, e3 i hi]; exact (h.own i hi).congr (e4 i hi), fun i j hi hj hij h2 => by rw [e1 _ hi] at h2 ⊢; rw [e1 j hj] at h2; exact h.ne i j hi hj hij h2⟩
theorem Fam.nil (w : World) (N W : Nat) (p : Nat → Nat → Nat) : Fam w N W (fun _ => none) (fun _ => 0) (fun _ => 0) p := ⟨fun _ _ => OwnV.nil _ _ _ _, fun _ _ _ _ _ _ => rfl⟩
theorem OwnU.blk {a : Option Addr} {n c : Nat} {f : Nat → Nat} (h : OwnU w N a n c f) : (a = none ∧ n = 0) ∨ ∃ g, a = some ⟨g, 0, none⟩ ∧ N ≤ g ∧ g < w.heap.size := by
  rcases h.2 with ⟨e, e0⟩ | ⟨g, cap, cs, e, hN, hb, _⟩
  · injection e with e1 e2 e3
    exact .inl ⟨e1, e0⟩
  · injection e with e1 e2 e3
    exact .inr ⟨g, e1, hN, Blk.lt (t := 25) (cs := cs) hb⟩
theorem OwnU.grown {a : Option Addr} {n c : Nat} {f : Nat → Nat} (h : OwnU w N a n c f) {row : Option Nat} (hg : w.grownBy w' row) (hr : ∀ g, a = some ⟨g, 0, none⟩ → row ≠ some g) : OwnU w' N a n c f := by
  refine ⟨h.1, ?_⟩
  rcases h.2 with e | ⟨g, cap, cs, e, hN, hb, hr'⟩
  · exact .inl e
  · injection e with e1 e2 e3
    exact .inr ⟨g, cap, cs, by rw [e1, e2, e3], hN, (hg.block g (Blk.lt (t := 25) (cs := cs) hb) (fun e => hr g e1 e.symm)).trans hb, hr'⟩
theorem ownBlock_row {a : Option Addr} {n c : Nat} {f : Nat → Nat} (h : OwnU w N a n c f) {k : Nat} (hk : (Value.slice a n c).ownBlock = some k) : a = some ⟨k, 0, none⟩ := by
  rcases h.blk with ⟨rfl, rfl⟩ | ⟨g, rfl, _⟩
  · cases hk
  · have : some g = some k := hk
    cases this
    rfl
theorem OwnU.row_ge {a : Option Addr} {n c : Nat} {f : Nat → Nat} (h : OwnU w N a n c f) {k : Nat} (hk : (Value.slice a n c).ownBlock = some k) : N ≤ k := by
  have h1 := ownBlock_row h hk
  rcases h.blk with ⟨e, _⟩ | ⟨g, e, h2, _⟩
  · rw [h1] at e
    cases e
  · rw [h1] at e
    cases e
    exact h2
/-- One of them has grown. -/
theorem Fam.grow (h : Fam w N W A L C p) {r : Nat} (hr : r < W) {g n' c' : Nat} {q : Nat → Nat} (hq : OwnU w' N (some ⟨g, 0, none⟩) n' c' q) (hg : w.grownBy w' (Value.slice (A r) (L r) (C r)).ownBlock) (hl : (Value.slice (A r) (L r) (C r)).ownBlock = some g ∨ g = w.heap.size) :
    Fam w' N W (updF A r (some ⟨g, 0, none⟩)) (updF L r n') (updF C r c') (updF p r q) := by
  have key : ∀ j, j < W → j ≠ r → A j = some ⟨g, 0, none⟩ → False := fun j hj hjr e => by
    rcases hl with hl | hl
    · have h1 := ownBlock_row (h.own r hr) hl
      have h2 := h.ne j r hj hr hjr (e.trans h1.symm)
      rw [e] at h2
      cases h2
    · rcases (h.own j hj).blk with ⟨e1, _⟩ | ⟨g2, e1, _, h2⟩
      · rw [e] at e1
        cases e1
      · rw [e] at e1
        cases e1
        omega
  refine ⟨fun i hi => ?_, fun i j hi hj hij e => ?_⟩
  · by_cases hir : i = r
    · subst hir
      simp only [updF_at]
      exact hq
    · simp only [updF_ne _ _ hir]
      refine (h.own i hi).grown hg fun g2 e1 e2 => ?_
      have h1 := ownBlock_row (h.own r hr) e2
      have h2 := h.ne i r hi hr hir (e1.trans h1.symm)
      rw [e1] at h2
      cases h2
  · by_cases hir : i = r
    · subst hir
      rw [updF_at, updF_ne _ _ (fun e => hij e.symm)] at e
      exact (key j hj (fun e => hij e.symm) e.symm).elim
    · rw [updF_ne _ _ hir] at e ⊢
      by_cases hjr : j = r
      · subst hjr
        rw [updF_at] at e
        exact (key i hi hir e).elim
      · rw [updF_ne _ _ hjr] at e
        exact h.ne i j hi hj hij e
end
theorem famV_upd (A : Nat → Option Addr) (L C : Nat → Nat) (r : Nat) (a : Option Addr) (n c k : Nat) : famV (updF A r a) (updF L r n) (updF C r c) k = if k = r then .slice a n c else famV A L C k := by
  unfold famV updF
  by_cases h : k = r
  · simp [h]
  · simp [h]
theorem Tryz.info_row : (Tryz.prog.info? 31).map (fun i => (i.zero, i.size, i.bytes)) = some (some (.slice none 0 0), 1, 24) := by kernel_rfl
theorem make_rows (x : Int) (m : Nat) (hx : x = m) (hm : m ≤ 1000000) (w : World) :
    (Instr.makeSlice 69 (.int .i64 x) (.int .i64 x)).run Tryz.prog w = .ok (.slice (some ⟨w.heap.size, 0, none⟩) m m) (w.alloc (.cells (valsArr (fun _ => .slice none 0 0) m) 31)) :=
  make_vals (P := Tryz.prog) Tryz.underlying69 Tryz.info_row rfl x m hx (by omega) (by omega) w
/-- append of one symbol, just laid, in a region that draws its order: where the row lies behind it. -/
theorem step_append_u1 {w : World} {ops : Array Oper} {o : Oper} {a : Act} {K : Act → World → Prop} {Q : Exit → Act → World → Prop} {E : Prop} (hgd : o.guard = none) (s x : Operand)
    (ho : o.op = .call { callee := .builtin .append, args := #[s, x], argTypes := #[31, 31] })
    (N : Nat) (ao : Option Addr) (n co : Nat) (f : Nat → Nat) (hs : a.eval s = .slice ao n co) (hown : OwnU w N ao n co f) (g v : Nat) (hx : a.eval x = .slice (some ⟨g, 0, none⟩) 1 1) (hp : Blk w g 25 #[.int .u16 v])
    (hn : n ≤ 100000) (hN : N ≤ w.heap.size) (H : Nat) (hH : w.heap.size = H)
    (h : ∀ g' c' w', OwnU w' N (some ⟨g', 0, none⟩) (n + 1) c' (fun i => if i < n then f i else v) → w.grownBy w' (Value.slice ao n co).ownBlock → ((Value.slice ao n co).ownBlock = some g' ∨ g' = H) → g' < w'.heap.size → K (a.put o.dst (.slice (some ⟨g', 0, none⟩) (n + 1) c')) w') :
    if Region.wanted o (yielded ops a.tmps) = true then Oper.wp Tryz.prog o a w K Q else E := by
  obtain ⟨i, hi, hz, hsz, hby⟩ := Tryz.info_u16'
  refine step_append_lies w hgd s x 31 ho N 25 i _ 1 2 Tryz.underlying31 hi hz hsz hby rfl (by omega) (.slice ao n co) n (uList f n) hs hown ⟨g, 0, none⟩ 1 1 [.int .u16 v] hx rfl (World.news_of_block (cs := #[.int .u16 v]) hp) ?_ (by omega) (by unfold maxLen; omega) (by omega) hN H hH ?_
  · intro u hu
    simp only [List.mem_cons, List.not_mem_nil, or_false] at hu
    subst hu
    rfl
  · intro g' c' w' h1 h2 h3 h4
    refine h g' c' w' ?_ h2 h3 h4
    have e : uList (fun i => if i < n then f i else v) (n + 1) = uList f n ++ [.int .u16 v] := List.ext_getElem? fun i => by
      have hl : (uList f n).length = n := by simp [uList]
      have hg : ∀ (f : Nat → Nat) n j, (uList f n)[j]? = if j < n then some (.int .u16 (f j)) else none := fun f n j => by
        unfold uList
        by_cases h : j < n
        · rw [if_pos h, List.getElem?_map, List.getElem?_range h]
          rfl
        · rw [if_neg h, List.getElem?_eq_none]
          simp
          omega
      rw [hg]
      by_cases h1 : i < n
      · rw [List.getElem?_append_left (by omega), hg, if_pos h1, if_pos (by omega), if_pos h1]
      · rw [List.getElem?_append_right (by omega), hl]
        by_cases h2 : i = n
        · subst h2
          simp
        · rw [if_neg (by omega), List.getElem?_eq_none]
          simp
          omega
    unfold OwnU
    rw [e]
    exact h1
theorem div_row {W q r : Nat} (hr : r < W) : (q * W + r) % W = r := by rw [Nat.mul_comm, Nat.mul_add_mod, Nat.mod_eq_of_lt hr]
/-- W rows of K symbols each, in a row of rows. -/
def RowsAt (w : World) (N g W K : Nat) (p : Nat → Nat → Nat) : Prop := ∃ A C, Blk w g 31 (valsArr (famV A (fun _ => K) C) W) ∧ Fam w N W A (fun _ => K) C p
/-- How long the rows are, dealt out to row r of round q. -/
def lenF (q r : Nat) : Nat → Nat := fun i => if i < r then q + 1 else q
theorem Fam.far {w : World} {N W : Nat} {A : Nat → Option Addr} {L C : Nat → Nat} {p : Nat → Nat → Nat} (h : Fam w N W A L C p) {x : Addr} (hx : x.block < N) (u : Value) : Fam (w.setCell x u) N W A L C p := ⟨fun i hi => (h.own i hi).far hx u, h.ne⟩
/-- One symbol more has been dealt out. -/
theorem in_next {wA w5 : World} {g0 W q r g5 c5 pm cR : Nat} {aR : Option Addr} {A : Nat → Option Addr} {C p : Nat → Nat} (hF : Fam wA (g0 + 1) W A (lenF q r) C (fun i j => p (j * W + i))) (hb : Blk w5 g0 31 (valsArr (famV A (lenF q r) C) W)) (hr : r < W)
    (hV : some (famV A (lenF q r) C r) = some (.slice aR q cR)) (ho : OwnU w5 (g0 + 1) (some ⟨g5, 0, none⟩) (q + 1) c5 (fun i => if i < q then p (i * W + r) else pm)) (hg : wA.grownBy w5 (Value.slice aR q cR).ownBlock) (hl : (Value.slice aR q cR).ownBlock = some g5 ∨ g5 = wA.heap.size) (hpm : pm = p (q * W + r)) :
    ∃ q' r' A' C', r' < W ∧ q' * W + r' = q * W + r + 1 ∧ Blk (w5.setCell ⟨g0, r, none⟩ (.slice (some ⟨g5, 0, none⟩) (q + 1) c5)) g0 31 (valsArr (famV A' (lenF q' r') C') W) ∧
      Fam (w5.setCell ⟨g0, r, none⟩ (.slice (some ⟨g5, 0, none⟩) (q + 1) c5)) (g0 + 1) W A' (lenF q' r') C' (fun i j => p (j * W + i)) := by
  have hV' : Value.slice (A r) (lenF q r r) (C r) = .slice aR q cR := Option.some.inj hV
  have h1 := hF.grow hr ho (by rw [hV']; exact hg) (by rw [hV']; exact hl)
  have h2 := h1.far (x := ⟨g0, r, none⟩) (Nat.lt_succ_self g0) (.slice (some ⟨g5, 0, none⟩) (q + 1) c5)
  have b2 := hb.store r (.slice (some ⟨g5, 0, none⟩) (q + 1) c5)
  have fin : ∀ q' r', (∀ i, i < W → lenF q' r' i = updF (lenF q r) r (q + 1) i) → Blk (w5.setCell ⟨g0, r, none⟩ (.slice (some ⟨g5, 0, none⟩) (q + 1) c5)) g0 31 (valsArr (famV (updF A r (some ⟨g5, 0, none⟩)) (lenF q' r') (updF C r c5)) W) ∧
      Fam (w5.setCell ⟨g0, r, none⟩ (.slice (some ⟨g5, 0, none⟩) (q + 1) c5)) (g0 + 1) W (updF A r (some ⟨g5, 0, none⟩)) (lenF q' r') (updF C r c5) (fun i j => p (j * W + i)) := fun q' r' e => by
    refine ⟨?_, h2.congr (fun _ _ => rfl) e (fun _ _ => rfl) ?_⟩
    · rwa [valsArr_congr (h := famV (updF A r (some ⟨g5, 0, none⟩)) (lenF q' r') (updF C r c5)) (fun k hk => by
        rw [← famV_upd A (lenF q r) C r (some ⟨g5, 0, none⟩) (q + 1) c5 k]
        unfold famV
        rw [e k hk])] at b2
    · intro i hi j hj
      by_cases hir : i = r
      · subst hir
        rw [updF_at] at hj ⊢
        split
        · rfl
        · rw [hpm, show j = q by omega]
      · rw [updF_ne _ _ hir]
  by_cases hrW : r + 1 < W
  · obtain ⟨f1, f2⟩ := fin q (r + 1) (fun i _ => by
      unfold lenF updF
      by_cases h : i = r
      · rw [if_pos h, if_pos (by omega)]
      · rw [if_neg h]
        dsimp only
        by_cases h2 : i < r
        · rw [if_pos h2, if_pos (by omega)]
        · rw [if_neg h2, if_neg (by omega)])
    exact ⟨q, r + 1, _, _, hrW, by omega, f1, f2⟩
  · obtain ⟨f1, f2⟩ := fin (q + 1) 0 (fun i hi => by
      unfold lenF updF
      rw [if_neg (Nat.not_lt_zero i)]
      by_cases h : i = r
      · rw [if_pos h]
      · rw [if_neg h]
        dsimp only
        rw [if_pos (by omega)])
    exact ⟨q + 1, 0, _, _, by omega, by rw [Nat.succ_mul]; omega, f1, f2⟩
set_option maxRecDepth 100000 in
set_option maxHeartbeats 4000000 in
theorem rin_any (W K n : Nat) (a : Option Addr) (c : Nat) (p : Nat → Nat) (w : World) (ha : ArgU w a n p) (hW : 1 ≤ W) (hW4 : W ≤ 4) (hK : 1 ≤ K) (hK2 : K ≤ 10000) (hn : n = W * K) :
    Calls Tryz.prog 26 #[.int .i64 W, .slice a n c] w fun e w' => ∃ g, e = .returned (.tuple #[.slice (some ⟨g, 0, none⟩) W W, .int .i64 0]) ∧ w.heap.size ≤ g ∧ RowsAt w' w.heap.size g W K (fun i j => p (j * W + i)) ∧ Keep (fun _ => False) w w' := by
  have HA := Lib.hid ha
  have hn0 : ¬ n = 0 := by rw [hn]; exact Nat.mul_ne_zero (by omega) (by omega)
  have hn1 : n ≤ 40000 := by rw [hn]; exact Nat.mul_le_mul hW4 hK2
  have hW0 : ¬ W = 0 := by omega
  have hmod : ((n : Int)).tmod (W : Int) = 0 := by
    rw [Int.tmod_eq_emod_of_nonneg (by omega)]
    have : n % W = 0 := by rw [hn, Nat.mul_mod_right]
    omega
  have e0 : ((n : Int) == 0) = false := by simp; omega
  have hmk := make_rows W W rfl (by omega)
  have b0 := Blk.new w 31 (valsArr (fun _ => .slice none 0 0) W)
  have k0 := (Keep.refl (fun _ => False) w).alloc (.cells (valsArr (fun _ => .slice none 0 0) W) 31)
  have HN := Lib.hid hn
  clear ha hn
  go_enter Tryz.func26, Tryz.ntmps26
  go_wp2_with fail
  clear hmod e0
  go_loopw [7] (fun v wr => ∃ q r A C, r < W ∧ q * W + r ≤ n ∧ v = .int .i64 (q * W + r : Nat) ∧ Hid (Blk wr w.heap.size 31 (valsArr (famV A (lenF q r) C) W)) ∧ Hid (Fam wr (w.heap.size + 1) W A (lenF q r) C (fun i j => p (j * W + i))) ∧ Keep (fun _ => False) w wr) (fun v _ => n - (intOf v).toNat)
  case atStart => exact ⟨0, 0, fun _ => none, fun _ => 0, by omega, by omega, by rw [Nat.zero_mul]; rfl, Lib.hid b0, Lib.hid ((Fam.nil _ _ _ _).congr (fun _ _ => rfl) (fun i _ => by unfold lenF; simp) (fun _ _ => rfl) (fun _ _ _ _ => rfl)), k0⟩
  case round =>
    clear b0 k0
    obtain ⟨q, r, A, C, hr, hqr, rfl, HB, HF, kk⟩ := hrel
    obtain ⟨m, hm⟩ : ∃ m, m = q * W + r := ⟨_, rfl⟩
    have HM := Lib.hid hm
    rw [← hm] at hqr
    rw [← HM.out]
    clear hm
    by_cases hmn : m < n
    · have hmn' : (m : Int) < (n : Int) := by omega
      have hmd : ((m : Int)).tmod (W : Int) = (r : Int) := by
        rw [Int.tmod_eq_emod_of_nonneg (by omega)]
        have : m % W = r := by rw [HM.out, div_row hr]
        omega
      obtain ⟨bA, oA, rfl, hbA, hcA⟩ := HA.out.at_ (by omega)
      have hqn : q ≤ 100000 := by
        have h1 := HM.out
        have h2 : q * 1 ≤ q * W := Nat.mul_le_mul_left q hW
        omega
      have kd := kk.drew
      have c0 := (kd.cell (p := ⟨bA, oA + m, none⟩) hbA (by simp)).trans (hcA m hmn)
      have bd := HB.out.drew
      have c1 := bd.val hr
      have hfz := bd.frozen r
      rw [show famV A (lenF q r) C r = .slice (A r) q (C r) by unfold famV lenF; rw [if_neg (Nat.lt_irrefl r)]] at c1
      have OR := Lib.hid (show OwnU wr.drew (w.heap.size + 1) (A r) q (C r) (fun j => p (j * W + r)) from by
        have := (HF.out.keep ((Keep.refl _ wr).drew)).own r hr
        rwa [show lenF q r r = q by unfold lenF; rw [if_neg (Nat.lt_irrefl r)]] at this)
      have hszd := bd.lt
      have hpm := Lib.hid (show p m = p (q * W + r) by rw [HM.out])
      have hpl := HA.out.lt m hmn
      have bd2 : Blk (wr.alloc (.cells #[.int .u16 (p m : Nat)] 25)).drew w.heap.size 31 (valsArr (famV A (lenF q r) C) W) := (HB.out.alloc _).drew
      have kd2 : Keep (fun _ => False) w (wr.alloc (.cells #[.int .u16 (p m : Nat)] 25)).drew := (kk.alloc _).drew
      have d0 := (kd2.cell (p := ⟨bA, oA + m, none⟩) hbA (by simp)).trans (hcA m hmn)
      have d1 := bd2.val hr
      rw [show famV A (lenF q r) C r = .slice (A r) q (C r) by unfold famV lenF; rw [if_neg (Nat.lt_irrefl r)]] at d1
      have bL : Blk (wr.alloc (.cells #[.int .u16 (p m : Nat)] 25)).drew wr.heap.size 25 #[.int .u16 (p m : Nat)] := (Blk.new wr _ _).drew
      have OA := Lib.hid (show OwnU (wr.alloc (.cells #[.int .u16 (p m : Nat)] 25)).drew (w.heap.size + 1) (A r) q (C r) (fun j => p (j * W + r)) from OR.out.keep (show Keep (fun _ => False) wr.drew (wr.alloc (.cells #[.int .u16 (p m : Nat)] 25)).drew from (Keep.refl _ wr.drew).alloc _))
      have hszA := bd2.lt
      generalize hAr : A r = aR at *
      generalize hCr : C r = cR at *
      have HC := Lib.hid (hcA m hmn)
      generalize p m = pm at *
      have Har := Lib.hid hAr
      have Hcr := Lib.hid hCr
      have HV := Lib.hid (show some (famV A (lenF q r) C r) = some (.slice aR q cR) by unfold famV lenF; rw [if_neg (Nat.lt_irrefl r), hAr, hCr])
      clear hcA hAr hCr
      go_wp2_with fail
      clear hmn'
      go_region_law
        (first
          | (refine step_append_u1 rfl _ _ rfl (w.heap.size + 1) aR q cR (fun j => p (j * W + r)) rfl OA.out wr.heap.size pm rfl bL (by omega) hszA _ rfl ?_; intro g5 c5 w5 o5 gr5 hl5 hlt5; have b5 : Blk w5 w.heap.size 31 (valsArr (famV A (lenF q r) C) W) := (gr5.block w.heap.size bd2.lt (fun e => by have := OR.out.row_ge e.symm; omega)).trans bd2; have K5 : Keep (fun _ => False) w w5 := kd2.grown gr5 (fun k e => .inr (by have := OR.out.row_ge e; omega)); have f1 := (b5.val hr).trans HV.out; have f0 := (K5.cell (p := ⟨bA, oA + m, none⟩) hbA (by simp)).trans HC.out; have f2 := b5.frozen r; have K6 : Keep (fun _ => False) w (w5.setCell ⟨w.heap.size, r, none⟩ (.slice (some ⟨g5, 0, none⟩) (q + 1) c5)) := K5.setCell (.inr (Nat.le_refl _)) _; have f3 := (K6.cell (p := ⟨bA, oA + m, none⟩) hbA (by simp)).trans HC.out))
      all_goals
        (obtain ⟨q', r', A', C', hr', he, hbn, hfn⟩ := in_next (HF.out.keep (show Keep (fun _ => False) wr (wr.alloc (.cells #[.int .u16 (pm : Nat)] 25)).drew from ((Keep.refl _ wr).alloc _).drew)) b5 hr HV.out o5 gr5 hl5 hpm.out
         have HB' := Lib.hid hbn
         have HF' := Lib.hid hfn
         have HE := Lib.hid (show q' * W + r' = m + 1 by rw [he, HM.out])
         clear hbn hfn he c0 c1 d0 d1 f0 f1 f2 f3 hmd
         go_wp2_with fail
         exact ⟨⟨q', r', A', C', hr', by rw [HE.out]; omega, by rw [HE.out]; go_num, HB', HF', K6⟩, by simp [intOf]; omega⟩)
    · obtain rfl : m = n := by omega
      have hmn' : ¬ (m : Int) < (m : Int) := by omega
      obtain ⟨hq, rfl⟩ : q = K ∧ r = 0 := by
        have h1 := HM.out
        have h2 := HN.out
        rw [Nat.mul_comm W K] at h2
        have h3 : r = 0 := by
          have := div_row (q := q) hr
          rw [← h1, h2, Nat.mul_mod_left] at this
          exact this.symm
        subst h3
        rw [h2, Nat.add_zero] at h1
        exact ⟨(Nat.eq_of_mul_eq_mul_right (by omega) h1).symm, rfl⟩
      have HB' := Lib.hid (show Blk wr w.heap.size 31 (valsArr (famV A (fun _ => K) C) W) from by
        have := HB.out
        rwa [valsArr_congr (h := famV A (fun _ => K) C) (fun k _ => by unfold famV lenF; rw [if_neg (Nat.not_lt_zero k), hq])] at this)
      have HF' := Lib.hid (show Fam wr w.heap.size W A (fun _ => K) C (fun i j => p (j * W + i)) from (HF.out.more (by omega)).congr (fun _ _ => rfl) (fun i _ => by unfold lenF; rw [if_neg (Nat.not_lt_zero i), hq]) (fun _ _ => rfl) (fun _ _ _ _ => rfl))
      clear hq
      go_wp2_with fail
      go_ret2
      exact ⟨w.heap.size, rfl, Nat.le_refl _, ⟨A, C, HB'.out, HF'.out⟩, kk⟩
end Go.Proofs.YtdlmjjlejkkniaaGreat

namespace Go.Proofs.YtdlmjjlejkkniaaGreat
open Go.RowKit

/-- W rows of K symbols each, that came in. -/
structure ArgRows' (w : World) (a : Option Addr) (W K : Nat) (A : Nat → Option Addr) (C : Nat → Nat) (p : Nat → Nat → Nat) : Prop where
  v : ArgV w a W (famV A (fun _ => K) C)
  u : ∀ i, i < W → ArgU w (A i) K (p i)
def ArgRows (w : World) (a : Option Addr) (W K : Nat) (p : Nat → Nat → Nat) : Prop := ∃ A C, ArgRows' w a W K A C p
theorem ArgRows'.keep {w w' : World} {a : Option Addr} {W K : Nat} {A : Nat → Option Addr} {C : Nat → Nat} {p : Nat → Nat → Nat} (h : ArgRows' w a W K A C p) (hk : Keep (fun _ => False) w w') : ArgRows' w' a W K A C p := ⟨h.v.keep hk, fun i hi => (h.u i hi).keep hk⟩
theorem RowsAt.arg {w : World} {N g W K : Nat} {p : Nat → Nat → Nat} (h : RowsAt w N g W K p) (hW : W ≤ 1000000) (hK : K ≤ 1000000) (hp : ∀ i, i < W → ∀ j, j < K → p i j < 65536) : ArgRows w (some ⟨g, 0, none⟩) W K p := by
  obtain ⟨A, C, hb, hf⟩ := h
  exact ⟨A, C, ⟨by omega, fun _ => ⟨g, 0, rfl, hb.lt, fun i hi => by rw [Nat.zero_add]; exact hb.val hi⟩⟩, fun i hi => (hf.own i hi).arg (by omega) (hp i hi)⟩
theorem woven_idx {W k i : Nat} (hi : i < W) : (k * W + i) % W = i ∧ (k * W + i) / W = k := by
  rw [Nat.mul_comm k W, Nat.mul_add_mod, Nat.mod_eq_of_lt hi, Nat.mul_add_div (by omega), Nat.div_eq_of_lt hi, Nat.add_zero]
  exact ⟨rfl, rfl⟩
/-- Rows, woven. -/
def wovS (W : Nat) (p : Nat → Nat → Nat) : Nat → Nat := fun i => p (i % W) (i / W)
set_option maxRecDepth 100000 in
set_option maxHeartbeats 4000000 in
theorem rout_any (W K : Nat) (a : Option Addr) (c : Nat) (p : Nat → Nat → Nat) (w : World) (ha : ArgRows w a W K p) (hW : 1 ≤ W) (hW4 : W ≤ 4) (hK : 1 ≤ K) (hK2 : K ≤ 10000) :
    Calls Tryz.prog 28 #[.int .i64 W, .slice a W c] w fun e w' => ∃ a' c', e = .returned (.tuple #[.slice a' (W * K) c', .int .i64 0]) ∧ OwnU w' w.heap.size a' (W * K) c' (wovS W p) ∧ Keep (fun _ => False) w w' := by
  obtain ⟨A, C, ha⟩ := ha
  have HA := Lib.hid ha
  have hWne : ¬ W = 0 := by omega
  have e0 : ((K : Int) == 0) = false := by simp; omega
  obtain ⟨bA, oA, rfl, hbA, hcA⟩ := ha.v.at_ (by omega)
  have HC := Lib.hid hcA
  have c00 := hcA 0 (by omega)
  unfold famV at c00
  rw [Nat.add_zero] at c00
  have hW0' : (0 : Int) < (W : Int) := by omega
  have hl4 : W * K ≤ 40000 := Nat.mul_le_mul hW4 hK2
  clear ha hcA
  go_enter Tryz.func28, Tryz.ntmps28
  go_wp2_with fail
  clear c00
  go_loopw [7] (fun v wr => ∃ i : Nat, i ≤ W ∧ v = .int .i64 i ∧ w = wr) (fun v _ => W - (intOf v).toNat)
  case atStart => exact ⟨0, by omega, rfl, rfl⟩
  case round =>
    obtain ⟨i, hi, rfl, rfl⟩ := hrel
    by_cases hiW : i < W
    · have hiW' : (i : Int) < (W : Int) := by omega
      have c0 := HC.out i hiW
      unfold famV at c0
      go_wp2_with fail
      exact ⟨⟨i + 1, by omega, by go_num, trivial⟩, by simp [intOf]; omega⟩
    · obtain rfl : i = W := by omega
      have hiW' : ¬ (i : Int) < (i : Int) := by omega
      clear e0
      go_wp2_with fail
      clear hiW'
      go_loopw [8, 9] (fun v3 v4 wr => ∃ (k : Nat) (ao : Option Addr) (co : Nat), k ≤ K ∧ v3 = .slice ao (k * i) co ∧ v4 = .int .i64 k ∧ Hid (OwnU wr w.heap.size ao (k * i) co (wovS i p)) ∧ Keep (fun _ => False) w wr) (fun _ v _ => K - (intOf v).toNat)
      case atStart => exact ⟨0, none, 0, by omega, by rw [Nat.zero_mul], rfl, Lib.hid (by rw [Nat.zero_mul]; exact OwnV.nil _ _ _ _), Keep.refl _ _⟩
      case round =>
        obtain ⟨k, ao, co, hk, rfl, rfl, HO, kk⟩ := hrel
        obtain ⟨m, hm⟩ : ∃ m, m = k * i := ⟨_, rfl⟩
        have HM := Lib.hid hm
        rw [← hm] at HO ⊢
        clear hm
        by_cases hkK : k < K
        · have hkK' : (k : Int) < (K : Int) := by omega
          have hm4 := Lib.hid (show m + i ≤ i * K from by
            have := Nat.mul_le_mul_left i (show k + 1 ≤ K from hkK)
            rw [Nat.mul_add, Nat.mul_one, Nat.mul_comm i k, ← HM.out] at this
            exact this)
          go_wp2_with fail
          go_loopw [8, 10] (fun v3 v4 wr => ∃ (j : Nat) (ao : Option Addr) (co : Nat), j ≤ i ∧ v3 = .slice ao (m + j) co ∧ v4 = .int .i64 j ∧ Hid (OwnU wr w.heap.size ao (m + j) co (wovS i p)) ∧ Keep (fun _ => False) w wr) (fun _ v _ => i - (intOf v).toNat)
          case atStart => exact ⟨0, ao, co, by omega, rfl, rfl, HO, kk⟩
          case round =>
            clear HO kk
            obtain ⟨j, ao, co, hj, rfl, rfl, HO, kk⟩ := hrel
            by_cases hji : j < i
            · have hji' : (j : Int) < (i : Int) := by omega
              have hml : m + j ≤ 40000 := by have := hm4.out; omega
              have c0 := (kk.cell (p := ⟨bA, oA + j, none⟩) hbA (by simp)).trans (HC.out j hji)
              unfold famV at c0
              obtain ⟨bR, oR, hR, hbR, hcR⟩ := (HA.out.u j hji).at_ (by omega)
              rw [hR] at c0
              have c1 := (kk.cell (p := ⟨bR, oR + k, none⟩) hbR (by simp)).trans (hcR k hkK)
              have hpl := (HA.out.u j hji).lt k hkK
              have HV := Lib.hid (show wovS i p (m + j) = p j k by unfold wovS; rw [HM.out, (woven_idx hji).1, (woven_idx hji).2])
              have kL := kk.alloc (.cells #[.int .u16 (p j k : Nat)] 25)
              have OL := Lib.hid (HO.out.ownV.keep ((Keep.refl _ wr).alloc (.cells #[.int .u16 (p j k : Nat)] 25)))
              have BL := Lib.hid (Blk.new wr 25 #[.int .u16 (p j k : Nat)])
              have hsL := kL.size
              clear hcR hR HO kk
              generalize p j k = x at *
              generalize C j = cj at *
              go_wp2_with (refine wpList_append_1 ty_u rfl (.tmp 53) (.tmp 61) rfl w.heap.size ao (m + j) co (fun t => .int .u16 (wovS i p t : Nat)) rfl OL.out wr.heap.size _ rfl BL.out rfl (by omega) hsL ?_)
              intro a3 c3 w6 o6 g6
              have O6 := Lib.hid (OwnV.ownU (o6.congr (f' := fun t => .int .u16 (wovS i p t : Nat)) (fun t ht => by
                by_cases h : t < m + j
                · rw [if_pos h]
                · rw [if_neg h, show t = m + j by omega, HV.out])))
              have K6 := kL.grown g6 (fun t ht => .inr (OL.out.lt t ht).1)
              clear o6 g6 kL OL BL hsL c0 c1
              go_wp2_with fail
              exact ⟨⟨j + 1, a3, c3, by omega, rfl, by go_num, O6, K6⟩, by simp [intOf]; omega⟩
            · obtain rfl : j = i := by omega
              have hji' : ¬ (j : Int) < (j : Int) := by omega
              have HE := Lib.hid (show (k + 1) * j = m + j by rw [Nat.succ_mul, HM.out])
              go_wp2_with fail
              exact ⟨⟨k + 1, ao, co, by omega, by rw [HE.out], by go_num, by rw [HE.out]; exact HO, kk⟩, by simp [intOf]; omega⟩
        · obtain rfl : k = K := by omega
          have hkK' : ¬ (k : Int) < (k : Int) := by omega
          have HE := Lib.hid (show m = i * k by rw [HM.out, Nat.mul_comm])
          go_wp2_with fail
          go_ret2
          rw [← HE.out]
          exact ⟨ao, co, rfl, HO.out, kk⟩
end Go.Proofs.YtdlmjjlejkkniaaGreat
