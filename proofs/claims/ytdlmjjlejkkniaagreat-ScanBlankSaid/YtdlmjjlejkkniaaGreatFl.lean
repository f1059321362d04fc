/- Numbers in steps of a sixteenth as float64: exact sums, differences, halves, floors. Plain. -/
import Derived.Laws.FloatArith
import Derived.Laws.ComplexArith
namespace Go.Proofs.YtdlmjjlejkkniaaGreat
open Ieee

theorem log2_shift {m : Nat} (hm : m ≠ 0) (j : Nat) : (m * 2 ^ j).log2 = m.log2 + j := by
  refine (Nat.log2_eq_iff (Nat.mul_ne_zero hm (by exact Nat.ne_of_gt (Nat.two_pow_pos j)))).2 ⟨?_, ?_⟩
  · rw [Nat.pow_add]
    exact Nat.mul_le_mul_right _ (Nat.log2_self_le hm)
  · rw [show m.log2 + j + 1 = (m.log2 + 1) + j by omega, Nat.pow_add]
    exact Nat.mul_lt_mul_of_pos_right Nat.lt_log2_self (Nat.two_pow_pos j)
theorem log2_lt' {m : Nat} (hm : m ≠ 0) {k : Nat} (h : m < 2 ^ k) : m.log2 < k := (Nat.log2_lt hm).2 h
theorem le_log2' {m : Nat} (hm : m ≠ 0) {k : Nat} (h : 2 ^ k ≤ m) : k ≤ m.log2 := (Nat.le_log2 hm).2 h

theorem cutD_even {s : Bool} {x : Nat} (hx : x ≠ 0) (k : Nat) : Toward.even.cut s (x * 2 ^ k) k = x := by
  unfold Toward.cut
  have hl := log2_shift hx k
  have hg : (1 : Nat) <<< min k ((x * 2 ^ k).log2 + 2) = 2 ^ k := by
    rw [hl, Nat.min_eq_left (by omega), Nat.shiftLeft_eq, Nat.one_mul]
  simp only [hg]
  rw [Nat.mul_div_cancel _ (Nat.two_pow_pos k), Nat.mul_mod_left]
  have h2 : ((2 ^ k == 2 * 0) : Bool) = false := beq_eq_false_iff_ne.2 (Nat.ne_of_gt (Nat.two_pow_pos k))
  have h3 : decide (2 ^ k < 2 * 0) = false := decide_eq_false (Nat.not_lt_zero _)
  rw [h2, h3]
  rfl
/-- A number that is shifted is written alike. -/
theorem nearest_up (s : Bool) {m : Nat} (hm : m < 2 ^ 53) (p : Int) (hp : -900 ≤ p) (j : Nat) : double.nearest s (m * 2 ^ j) (p - j) = double.nearest s m p := by
  by_cases h0 : m = 0
  · subst h0
    rw [Nat.zero_mul]
    unfold Format.nearest
    rw [if_pos rfl, if_pos rfl]
  have hL := log2_lt' h0 hm
  have key : ∀ (i : Nat), double.nearest s (m * 2 ^ i) (p - i) = double.word s (min ((max (p + m.log2 - 52) (-1074) - (-1074)).toNat * 2 ^ 52 + m * 2 ^ (52 - m.log2)) double.infRung) := by
    intro i
    unfold Format.nearest
    have hne : m * 2 ^ i ≠ 0 := Nat.mul_ne_zero h0 (Nat.ne_of_gt (Nat.two_pow_pos i))
    rw [if_neg hne, log2_shift h0]
    have e1 : (p - (i : Int) + ((m.log2 + i : Nat) : Int) - ((52 : Nat) : Int)) = p + m.log2 - 52 := by omega
    have e2 : double.leastPlace = -1074 := by decide
    have e3 : double.fractionBits = 52 := rfl
    have e4 : double.binade = 2 ^ 52 := rfl
    simp only [e2, e3, e4]
    rw [e1]
    have hl : max (p + (m.log2 : Int) - 52) (-1074) = p + m.log2 - 52 := by omega
    rw [hl]
    have kept : Toward.even.cut s ((m * 2 ^ i) <<< (p - (i : Int) - (p + m.log2 - 52)).toNat) (p + (m.log2 : Int) - 52 - (p - i)).toNat = m * 2 ^ (52 - m.log2) := by
      rcases Nat.le_total i (52 - m.log2) with h | h
      · have a1 : (p - (i : Int) - (p + m.log2 - 52)).toNat = 52 - m.log2 - i := by omega
        have a2 : (p + (m.log2 : Int) - 52 - (p - i)).toNat = 0 := by omega
        rw [a1, a2, Nat.shiftLeft_eq, Nat.mul_assoc, ← Nat.pow_add, show i + (52 - m.log2 - i) = 52 - m.log2 by omega]
        have := cutD_even (s := s) (x := m * 2 ^ (52 - m.log2)) (Nat.mul_ne_zero h0 (Nat.ne_of_gt (Nat.two_pow_pos _))) 0
        rwa [Nat.pow_zero, Nat.mul_one] at this
      · have a1 : (p - (i : Int) - (p + m.log2 - 52)).toNat = 0 := by omega
        have a2 : (p + (m.log2 : Int) - 52 - (p - i)).toNat = i - (52 - m.log2) := by omega
        rw [a1, a2, Nat.shiftLeft_eq, Nat.pow_zero, Nat.mul_one]
        have := cutD_even (s := s) (x := m * 2 ^ (52 - m.log2)) (Nat.mul_ne_zero h0 (Nat.ne_of_gt (Nat.two_pow_pos _))) (i - (52 - m.log2))
        rwa [Nat.mul_assoc, ← Nat.pow_add, show 52 - m.log2 + (i - (52 - m.log2)) = i by omega] at this
    rw [kept]
  rw [key j]
  have := key 0
  rw [Nat.pow_zero, Nat.mul_one] at this
  rw [← this]
  congr 1
  omega
theorem read_word (s : Bool) (R M : Nat) (hR : R ≤ 2000) (h1 : 4503599627370496 ≤ M) (h2 : M < 9007199254740992) : double.read (double.word s (R * 4503599627370496 + M)) = .number s M (-1074 + (R : Int)) := by
  unfold Format.read
  have e1 : double.signWeight = 9223372036854775808 := by decide
  have e2 : double.binade = 4503599627370496 := by decide
  have e3 : double.infRung = 9218868437227405312 := by decide
  have e4 : double.leastPlace = -1074 := by decide
  rw [e1, e2, e3, e4]
  have hneg : (double.word s (R * 4503599627370496 + M) / 9223372036854775808 % 2 == 1) = s := by
    unfold Format.word
    rw [e1]
    cases s
    · rw [if_neg (by simp), beq_eq_false_iff_ne]
      omega
    · rw [if_pos rfl, beq_iff_eq]
      omega
  have hrung : double.word s (R * 4503599627370496 + M) % 9223372036854775808 = R * 4503599627370496 + M := by
    unfold Format.word
    rw [e1]
    cases s
    · rw [if_neg (by simp)]
      omega
    · rw [if_pos rfl]
      omega
  have g1 : ¬ R * 4503599627370496 + M < 4503599627370496 := by omega
  have g2 : R * 4503599627370496 + M < 9218868437227405312 := by omega
  have d1 : (R * 4503599627370496 + M) / 4503599627370496 - 1 = R := by omega
  have d2 : 4503599627370496 + (R * 4503599627370496 + M) % 4503599627370496 = M := by omega
  simp only [hneg, hrung]
  rw [if_neg g1, if_pos g2, d1, d2]
theorem sig_lt {m : Nat} (hL : m.log2 < 53) : m * 2 ^ (52 - m.log2) < 9007199254740992 := by
  have h1 : m * 2 ^ (52 - m.log2) < 2 ^ (m.log2 + 1) * 2 ^ (52 - m.log2) := Nat.mul_lt_mul_of_pos_right Nat.lt_log2_self (Nat.two_pow_pos _)
  rwa [← Nat.pow_add, show m.log2 + 1 + (52 - m.log2) = 53 by omega] at h1
theorem sig_ge {m : Nat} (h0 : m ≠ 0) (hL : m.log2 < 53) : 4503599627370496 ≤ m * 2 ^ (52 - m.log2) := by
  have h1 : 2 ^ m.log2 * 2 ^ (52 - m.log2) ≤ m * 2 ^ (52 - m.log2) := Nat.mul_le_mul_right _ (Nat.log2_self_le h0)
  rwa [← Nat.pow_add, show m.log2 + (52 - m.log2) = 52 by omega] at h1
/-- The word, its rung told. -/
theorem nearest_word (s : Bool) {m : Nat} (h0 : m ≠ 0) (hL : m.log2 < 53) (p : Int) (hp : -900 ≤ p) (hq : p ≤ 900) :
    double.nearest s m p = double.word s ((p + m.log2 - 52 + 1074).toNat * 4503599627370496 + m * 2 ^ (52 - m.log2)) := by
  have hlt := sig_lt hL
  unfold Format.nearest
  rw [if_neg h0]
  have e2 : double.leastPlace = -1074 := by decide
  have e3 : double.fractionBits = 52 := rfl
  have e4 : double.binade = 4503599627370496 := by decide
  have hi : double.infRung = 9218868437227405312 := by decide
  simp only [e2, e3, e4, hi]
  have hl : max (p + (m.log2 : Int) - ((52 : Nat) : Int)) (-1074) = p + m.log2 - 52 := by omega
  rw [hl]
  have a1 : (p - (p + (m.log2 : Int) - 52)).toNat = 52 - m.log2 := by omega
  have a2 : (p + (m.log2 : Int) - 52 - p).toNat = 0 := by omega
  have a3 : (p + (m.log2 : Int) - 52 - -1074) = p + m.log2 - 52 + 1074 := by omega
  have hc := cutD_even (s := s) (x := m * 2 ^ (52 - m.log2)) (Nat.mul_ne_zero h0 (Nat.ne_of_gt (Nat.two_pow_pos _))) 0
  rw [Nat.pow_zero, Nat.mul_one] at hc
  rw [a1, a2, a3, Nat.shiftLeft_eq, hc]
  have hr : (p + (m.log2 : Int) - 52 + 1074).toNat ≤ 2000 := by omega
  rw [Nat.min_eq_left]
  clear hc a1 a2 a3 hl e2 e3 e4 hi
  generalize (p + (m.log2 : Int) - 52 + 1074).toNat = R at *
  generalize m * 2 ^ (52 - m.log2) = M at *
  clear hL h0 hp hq
  omega
/-- What is written is read. -/
theorem read_nearest (s : Bool) {m : Nat} (h0 : m ≠ 0) (hL : m.log2 < 53) (p : Int) (hp : -900 ≤ p) (hq : p ≤ 900) :
    double.read (double.nearest s m p) = .number s (m * 2 ^ (52 - m.log2)) (p - (52 - m.log2 : Nat)) := by
  rw [nearest_word s h0 hL p hp hq, read_word s _ _ (by omega) (sig_ge h0 hL) (sig_lt hL)]
  congr 1
  omega
/-- The word of n sixteenths. -/
def fx (n : Int) : Nat := double.nearest (decide (n < 0)) n.natAbs (-4)
/-- A datum that is n sixteenths; a nought has no sign. -/
def Rd (d : Datum) (n : Int) : Prop := ∃ e : Nat, d = .number (decide (n < 0)) (n.natAbs * 2 ^ e) (-4 - (e : Int))
/-- What is reckoned with. -/
def Sm (n : Int) : Prop := n.natAbs < 281474976710656
theorem Sm.log {n : Int} (h : Sm n) (h0 : n.natAbs ≠ 0) : n.natAbs.log2 < 48 := log2_lt' h0 (k := 48) h
theorem fx_zero : fx 0 = 0 := by decide
theorem fx_read {n : Int} (h : Sm n) : Rd (double.read (fx n)) n := by
  by_cases h0 : n.natAbs = 0
  · obtain rfl : n = 0 := by omega
    obtain ⟨e, he⟩ : ∃ e : Nat, e = 1070 := ⟨_, rfl⟩
    refine ⟨e, ?_⟩
    rw [fx_zero, show Int.natAbs 0 = 0 from rfl, Nat.zero_mul, he]
    decide
  · have hL := h.log h0
    refine ⟨52 - n.natAbs.log2, ?_⟩
    unfold fx
    rw [read_nearest _ h0 (by omega) _ (by omega) (by omega)]
theorem Rd.write {d : Datum} {n : Int} (h : Rd d n) (hn : Sm n) : double.write d = fx n := by
  obtain ⟨e, rfl⟩ := h
  exact nearest_up _ (Nat.lt_trans hn (by decide)) _ (by omega) e
theorem signed_rd {s : Bool} {n : Int} (h : n ≠ 0 → s = decide (n < 0)) (e k : Nat) : signed s (n.natAbs * 2 ^ e) k = n * 2 ^ (e + k) := by
  unfold signed
  rw [Nat.shiftLeft_eq, Nat.mul_assoc, ← Nat.pow_add]
  by_cases h0 : n = 0
  · subst h0
    cases s <;> simp
  · rw [h h0]
    by_cases hn : n < 0
    · rw [decide_eq_true hn, if_pos rfl]
      have : n = -(n.natAbs : Int) := by omega
      conv => rhs; rw [this]
      rw [Int.natCast_mul, Int.neg_mul]
      simp
    · rw [decide_eq_false hn, if_neg (by simp)]
      have : n = (n.natAbs : Int) := by omega
      conv => rhs; rw [this]
      rw [Int.natCast_mul]
      simp
theorem sum_rd {s t : Bool} {a b : Int} {e f : Nat} (ha : a ≠ 0 → s = decide (a < 0)) (hb : b ≠ 0 → t = decide (b < 0)) (hz : a + b = 0 → (s && t) = false) :
    ∃ d, Datum.sum (.number s (a.natAbs * 2 ^ e) (-4 - (e : Int))) (.number t (b.natAbs * 2 ^ f) (-4 - (f : Int))) = some d ∧ Rd d (a + b) := by
  have hE : min (-4 - (e : Int)) (-4 - (f : Int)) = -4 - ((max e f : Nat) : Int) := by omega
  have h1 : signed s (a.natAbs * 2 ^ e) (-4 - (e : Int) - (-4 - ((max e f : Nat) : Int))).toNat = a * 2 ^ max e f := by
    rw [signed_rd ha, show e + (-4 - (e : Int) - (-4 - ((max e f : Nat) : Int))).toNat = max e f by omega]
  have h2 : signed t (b.natAbs * 2 ^ f) (-4 - (f : Int) - (-4 - ((max e f : Nat) : Int))).toNat = b * 2 ^ max e f := by
    rw [signed_rd hb, show f + (-4 - (f : Int) - (-4 - ((max e f : Nat) : Int))).toNat = max e f by omega]
  refine ⟨_, rfl, max e f, ?_⟩
  simp only [hE, h1, h2]
  rw [← Int.add_mul]
  have hp : (0 : Int) < 2 ^ max e f := by
    have := Nat.two_pow_pos (max e f)
    exact_mod_cast this
  have hs : (if (a + b) * 2 ^ max e f = 0 then (s && t) else decide ((a + b) * 2 ^ max e f < 0)) = decide (a + b < 0) := by
    by_cases h0 : a + b = 0
    · rw [h0, Int.zero_mul, if_pos rfl, hz h0]
      rfl
    · rw [if_neg (fun h => h0 ((Int.mul_eq_zero.1 h).resolve_right (Int.ne_of_gt hp)))]
      by_cases hn : a + b < 0
      · rw [decide_eq_true hn, decide_eq_true (Int.mul_neg_of_neg_of_pos hn hp)]
      · rw [decide_eq_false hn, decide_eq_false]
        have := Int.mul_nonneg (Int.not_lt.1 hn) (Int.le_of_lt hp)
        omega
  have hm : ((a + b) * 2 ^ max e f).natAbs = (a + b).natAbs * 2 ^ max e f := by
    rw [Int.natAbs_mul, Int.natAbs_pow]
    rfl
  rw [hs, hm]
theorem fx_add {a b : Int} (ha : Sm a) (hb : Sm b) (h : Sm (a + b)) : double.add (fx a) (fx b) = some (fx (a + b)) := by
  obtain ⟨e, he⟩ := fx_read ha
  obtain ⟨f, hf⟩ := fx_read hb
  unfold Format.add
  rw [he, hf]
  obtain ⟨d, h1, h2⟩ := sum_rd (e := e) (f := f) (s := decide (a < 0)) (t := decide (b < 0)) (fun _ => rfl) (fun _ => rfl) (fun h => by
    by_cases ha : a < 0
    · rw [decide_eq_false (show ¬ b < 0 by omega), Bool.and_false]
    · rw [decide_eq_false ha, Bool.false_and])
  rw [h1, Option.map_some, h2.write h]
theorem fx_sub {a b : Int} (ha : Sm a) (hb : Sm b) (h : Sm (a - b)) : double.sub (fx a) (fx b) = some (fx (a - b)) := by
  obtain ⟨e, he⟩ := fx_read ha
  obtain ⟨f, hf⟩ := fx_read hb
  unfold Format.sub
  rw [he, hf]
  unfold Datum.opposite
  obtain ⟨d, h1, h2⟩ := sum_rd (e := e) (f := f) (s := decide (a < 0)) (t := !decide (b < 0)) (a := a) (b := -b) (fun _ => rfl) (fun h0 => by
    by_cases hb : b < 0
    · rw [decide_eq_true hb, decide_eq_false (by omega)]; rfl
    · rw [decide_eq_false hb, decide_eq_true (by omega)]; rfl) (fun h => by
    by_cases hb : b < 0
    · rw [decide_eq_true hb, Bool.not_true, Bool.and_false]
    · rw [decide_eq_false (show ¬ a < 0 by omega), Bool.false_and])
  rw [Int.natAbs_neg] at h1
  rw [h1, Option.map_some, h2.write h]
  rfl
theorem fx_order {a b : Int} (ha : Sm a) (hb : Sm b) : double.order (fx a) (fx b) = some (compare a b) := by
  obtain ⟨e, he⟩ := fx_read ha
  obtain ⟨f, hf⟩ := fx_read hb
  unfold Format.order
  rw [he, hf]
  unfold Datum.order
  have hE : min (-4 - (e : Int)) (-4 - (f : Int)) = -4 - ((max e f : Nat) : Int) := by omega
  have h1 : signed (decide (a < 0)) (a.natAbs * 2 ^ e) (-4 - (e : Int) - (-4 - ((max e f : Nat) : Int))).toNat = a * 2 ^ max e f := by
    rw [signed_rd (fun _ => rfl), show e + (-4 - (e : Int) - (-4 - ((max e f : Nat) : Int))).toNat = max e f by omega]
  have h2 : signed (decide (b < 0)) (b.natAbs * 2 ^ f) (-4 - (f : Int) - (-4 - ((max e f : Nat) : Int))).toNat = b * 2 ^ max e f := by
    rw [signed_rd (fun _ => rfl), show f + (-4 - (f : Int) - (-4 - ((max e f : Nat) : Int))).toNat = max e f by omega]
  simp only [hE, h1, h2]
  have hp : (0 : Int) < 2 ^ max e f := by
    have := Nat.two_pow_pos (max e f)
    exact_mod_cast this
  generalize (2 : Int) ^ max e f = X at *
  congr 1
  unfold compare instOrdInt compareOfLessAndEq
  have l : a * X < b * X ↔ a < b := ⟨fun h => Int.lt_of_mul_lt_mul_right h (Int.le_of_lt hp), fun h => Int.mul_lt_mul_of_pos_right h hp⟩
  have q : a * X = b * X ↔ a = b := ⟨fun h => Int.eq_of_mul_eq_mul_right (Int.ne_of_gt hp) h, fun h => by rw [h]⟩
  simp only [l, q]
theorem cutD_down {s : Bool} (n k : Nat) : Toward.down.cut s n k = n / 2 ^ k + (s && n % 2 ^ k != 0).toNat := by
  unfold Toward.cut
  rcases Nat.le_total k (n.log2 + 2) with h | h
  · have hg : (1 : Nat) <<< min k (n.log2 + 2) = 2 ^ k := by rw [Nat.min_eq_left h, Nat.shiftLeft_eq, Nat.one_mul]
    simp only [hg]
  · have hg : (1 : Nat) <<< min k (n.log2 + 2) = 2 ^ (n.log2 + 2) := by rw [Nat.min_eq_right h, Nat.shiftLeft_eq, Nat.one_mul]
    have h1 : n < 2 ^ (n.log2 + 2) := Nat.lt_trans Nat.lt_log2_self (Nat.pow_lt_pow_right (by omega) (by omega))
    have h2 : n < 2 ^ k := Nat.lt_of_lt_of_le h1 (Nat.pow_le_pow_right (by omega) h)
    simp only [hg, Nat.div_eq_of_lt h1, Nat.div_eq_of_lt h2, Nat.mod_eq_of_lt h1, Nat.mod_eq_of_lt h2]
theorem cutD_zero {s : Bool} (n k : Nat) : Toward.zero.cut s n k = n / 2 ^ k := by
  unfold Toward.cut
  rcases Nat.le_total k (n.log2 + 2) with h | h
  · have hg : (1 : Nat) <<< min k (n.log2 + 2) = 2 ^ k := by rw [Nat.min_eq_left h, Nat.shiftLeft_eq, Nat.one_mul]
    simp only [hg]
    rfl
  · have hg : (1 : Nat) <<< min k (n.log2 + 2) = 2 ^ (n.log2 + 2) := by rw [Nat.min_eq_right h, Nat.shiftLeft_eq, Nat.one_mul]
    have h1 : n < 2 ^ (n.log2 + 2) := Nat.lt_trans Nat.lt_log2_self (Nat.pow_lt_pow_right (by omega) (by omega))
    have h2 : n < 2 ^ k := Nat.lt_of_lt_of_le h1 (Nat.pow_le_pow_right (by omega) h)
    simp only [hg, Nat.div_eq_of_lt h1, Nat.div_eq_of_lt h2]
    rfl
/-- A whole number's word. -/
theorem fx_whole (s : Bool) {z : Int} (hz : z.natAbs < 9007199254740992) (hs : s = decide (z < 0)) : double.nearest s z.natAbs 0 = fx (16 * z) := by
  unfold fx
  have e : (16 * z).natAbs = z.natAbs * 2 ^ 4 := by omega
  have d : decide (16 * z < 0) = decide (z < 0) := by
    by_cases h : z < 0
    · rw [decide_eq_true h, decide_eq_true (by omega)]
    · rw [decide_eq_false h, decide_eq_false (by omega)]
  rw [e, d, hs]
  exact (nearest_up _ (m := z.natAbs) (by omega) 0 (by omega) 4).symm
theorem div_shift (m e : Nat) : m * 2 ^ e / 2 ^ (4 + e) = m / 16 := by
  rw [Nat.pow_add, Nat.mul_comm (2 ^ 4), Nat.mul_comm m, Nat.mul_div_mul_left _ _ (Nat.two_pow_pos e)]
theorem mod_shift (m e : Nat) : (m * 2 ^ e % 2 ^ (4 + e) != 0) = (m % 16 != 0) := by
  rw [Nat.pow_add, Nat.mul_comm (2 ^ 4), Nat.mul_comm m, Nat.mul_mod_mul_left]
  by_cases h : m % 16 = 0
  · rw [show (2 : Nat) ^ 4 = 16 from rfl, h]; rfl
  · have := Nat.mul_ne_zero (Nat.ne_of_gt (Nat.two_pow_pos e)) h
    rw [show (2 : Nat) ^ 4 = 16 from rfl, bne_iff_ne.2 this, bne_iff_ne.2 h]
/-- math.Floor. -/
theorem fx_floor {n : Int} (h : Sm n) : double.write ((double.read (fx n)).integral .down) = fx (16 * (n / 16)) := by
  obtain ⟨e, he⟩ := fx_read h
  rw [he]
  unfold Datum.integral
  have a1 : (-4 - (e : Int)).toNat = 0 := by omega
  have a2 : (-(-4 - (e : Int))).toNat = 4 + e := by omega
  show double.write (.number _ (Toward.down.cut _ ((n.natAbs * 2 ^ e) <<< (-4 - (e : Int)).toNat) (-(-4 - (e : Int))).toNat) 0) = _
  rw [a1, a2, Nat.shiftLeft_eq, Nat.pow_zero, Nat.mul_one, cutD_down, div_shift, mod_shift]
  have hv : n.natAbs / 16 + (decide (n < 0) && n.natAbs % 16 != 0).toNat = (n / 16).natAbs := by
    by_cases hn : n < 0
    · rw [decide_eq_true hn, Bool.true_and]
      by_cases hm : n.natAbs % 16 = 0
      · rw [show (n.natAbs % 16 != 0) = false by rw [hm]; rfl, Bool.toNat_false]
        omega
      · rw [show (n.natAbs % 16 != 0) = true by simp [hm], Bool.toNat_true]
        omega
    · rw [decide_eq_false hn, Bool.false_and, Bool.toNat_false]
      omega
  rw [hv]
  unfold Sm at h
  refine fx_whole _ (by omega) ?_
  by_cases hn : n < 0
  · rw [decide_eq_true hn, decide_eq_true (by omega)]
  · rw [decide_eq_false hn, decide_eq_false (by omega)]
/-- The integer of a whole number's word. -/
theorem fx_int {z : Int} (h : Sm (16 * z)) : (double.read (fx (16 * z))).toInt .zero = some z := by
  obtain ⟨e, he⟩ := fx_read h
  rw [he]
  unfold Datum.toInt Datum.integral
  have a1 : (-4 - (e : Int)).toNat = 0 := by omega
  have a2 : (-(-4 - (e : Int))).toNat = 4 + e := by omega
  simp only [a1, a2, Nat.shiftLeft_eq, Nat.pow_zero, Nat.mul_one, cutD_zero, div_shift]
  unfold signed
  rw [Nat.shiftLeft_eq, Nat.pow_zero, Nat.mul_one]
  by_cases hn : z < 0
  · rw [decide_eq_true (show 16 * z < 0 by omega), if_pos rfl]
    congr 1
    omega
  · rw [decide_eq_false (show ¬ 16 * z < 0 by omega), if_neg (by simp)]
    congr 1
    omega
/-- A half. -/
theorem quot_gen (D : Nat) (s : Bool) (M N : Nat) (i j : Int) (h : N ≠ 0) : Datum.quotient D (.number s M i) (.number false N j) =
    some (.number (s ^^ false) (2 * (M <<< (D + N.log2 - M.log2) / N) + (M <<< (D + N.log2 - M.log2) % N != 0).toNat) (i - j - (D + N.log2 - M.log2 : Nat) - 1)) := by
  unfold Datum.quotient
  exact if_neg h
theorem quot_two (s : Bool) (M : Nat) (i : Int) (hL : M.log2 = 52) (N : Nat) (h0 : N ≠ 0) (hN : N.log2 = 52) (h4 : (2 : Nat) ^ 54 = N * 4) : Datum.quotient 54 (.number s M i) (.number false N (-51)) = some (.number s (8 * M) (i - 4)) := by
  have hd : M <<< (54 + 52 - 52) = N * (M * 4) := by
    rw [Nat.shiftLeft_eq, show 54 + 52 - 52 = 54 from rfl, h4, Nat.mul_comm, Nat.mul_assoc, Nat.mul_comm 4 M]
  rw [quot_gen _ _ _ _ _ _ h0, hL, hN, hd, Nat.mul_div_cancel_left _ (Nat.pos_of_ne_zero h0), Nat.mul_mod_right, Bool.xor_false, show ((0 : Nat) != 0).toNat = 0 from rfl, Nat.add_zero, show 2 * (M * 4) = 8 * M by omega,
    show i - -51 - ((54 + 52 - 52 : Nat) : Int) - 1 = i - 4 by omega]
theorem fx_half {n : Int} (h : Sm (2 * n)) : double.div (fx (2 * n)) (fx 32) = some (fx n) := by
  have hs : Sm n := by unfold Sm at *; omega
  have h2 : double.read (fx 32) = .number false 4503599627370496 (-51) := by decide
  unfold Format.div
  rw [h2]
  by_cases h0 : n = 0
  · subst h0
    decide
  · have hne : (2 * n).natAbs ≠ 0 := by omega
    have hL := h.log hne
    have hr := read_nearest (decide (2 * n < 0)) hne (by omega) (-4) (by omega) (by omega)
    rw [show double.read (fx (2 * n)) = _ from hr]
    have hlg : ((2 * n).natAbs * 2 ^ (52 - (2 * n).natAbs.log2)).log2 = 52 := by
      rw [log2_shift hne]
      omega
    rw [show double.fractionBits + 2 = 54 from rfl, quot_two _ _ _ hlg _ (by decide) (by decide) (by decide), Option.map_some]
    congr 1
    refine Rd.write ⟨52 - (2 * n).natAbs.log2 + 4, ?_⟩ hs
    congr 1
    · by_cases hn : n < 0
      · rw [decide_eq_true hn, decide_eq_true (by omega)]
      · rw [decide_eq_false hn, decide_eq_false (by omega)]
    · rw [Nat.pow_add, ← Nat.mul_assoc, show (2 * n).natAbs = 2 * n.natAbs by omega, ← Nat.mul_assoc, ← Nat.mul_assoc, Nat.mul_comm _ (2 ^ 4), ← Nat.mul_assoc]
    · omega
end Go.Proofs.YtdlmjjlejkkniaaGreat
