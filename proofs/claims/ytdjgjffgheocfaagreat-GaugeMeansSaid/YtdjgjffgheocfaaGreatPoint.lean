/- Floats in sixteenths, points in eighths. -/
import Derived.Laws.FloatArith
import Derived.Laws.ComplexArith
import Derived.Test.YtdjgjffgheocfaaGreatBase
import Derived.WalkLawsBesides
import Derived.Laws.Externs
namespace Go.Proofs.YtdjgjffgheocfaaGreat
open Ieee

theorem log2_shift {m : Nat} (hm : m ≠ 0) (j : Nat) : (m * 2 ^ j).log2 = m.log2 + j := by
  refine (Nat.log2_eq_iff (Nat.mul_ne_zero hm (by exact Nat.ne_of_gt (Nat.two_pow_pos j)))).2 ⟨?_, ?_⟩
  · rw [Nat.pow_add]
    exact Nat.mul_le_mul_right _ (Nat.log2_self_le hm)
  · rw [show m.log2 + j + 1 = (m.log2 + 1) + j by omega, Nat.pow_add]
    exact Nat.mul_lt_mul_of_pos_right Nat.lt_log2_self (Nat.two_pow_pos j)
theorem log2_lt' {m : Nat} (hm : m ≠ 0) {k : Nat} (h : m < 2 ^ k) : m.log2 < k := (Nat.log2_lt hm).2 h
theorem le_log2' {m : Nat} (hm : m ≠ 0) {k : Nat} (h : 2 ^ k ≤ m) : k ≤ m.log2 := (Nat.le_log2 hm).2 h

theorem cutD_even {s : Bool} {x : Nat} (hx : x ≠ 0) (k : Nat) : Toward.even.cut s (x * 2 ^ k) k = x := by
  unfold Toward.cut
  have hl := log2_shift hx k
  have hg : (1 : Nat) <<< min k ((x * 2 ^ k).log2 + 2) = 2 ^ k := by
    rw [hl, Nat.min_eq_left (by omega), Nat.shiftLeft_eq, Nat.one_mul]
  simp only [hg]
  rw [Nat.mul_div_cancel _ (Nat.two_pow_pos k), Nat.mul_mod_left]
  have h2 : ((2 ^ k == 2 * 0) : Bool) = false := beq_eq_false_iff_ne.2 (Nat.ne_of_gt (Nat.two_pow_pos k))
  have h3 : decide (2 ^ k < 2 * 0) = false := decide_eq_false (Nat.not_lt_zero _)
  rw [h2, h3]
  rfl
/-- A number that is shifted is written alike. -/
theorem nearest_up (s : Bool) {m : Nat} (hm : m < 2 ^ 53) (p : Int) (hp : -900 ≤ p) (j : Nat) : double.nearest s (m * 2 ^ j) (p - j) = double.nearest s m p := by
  by_cases h0 : m = 0
  · subst h0
    rw [Nat.zero_mul]
    unfold Format.nearest
    rw [if_pos rfl, if_pos rfl]
  have hL := log2_lt' h0 hm
  have key : ∀ (i : Nat), double.nearest s (m * 2 ^ i) (p - i) = double.word s (min ((max (p + m.log2 - 52) (-1074) - (-1074)).toNat * 2 ^ 52 + m * 2 ^ (52 - m.log2)) double.infRung) := by
    intro i
    unfold Format.nearest
    have hne : m * 2 ^ i ≠ 0 := Nat.mul_ne_zero h0 (Nat.ne_of_gt (Nat.two_pow_pos i))
    rw [if_neg hne, log2_shift h0]
    have e1 : (p - (i : Int) + ((m.log2 + i : Nat) : Int) - ((52 : Nat) : Int)) = p + m.log2 - 52 := by omega
    have e2 : double.leastPlace = -1074 := by decide
    have e3 : double.fractionBits = 52 := rfl
    have e4 : double.binade = 2 ^ 52 := rfl
    simp only [e2, e3, e4]
    rw [e1]
    have hl : max (p + (m.log2 : Int) - 52) (-1074) = p + m.log2 - 52 := by omega
    rw [hl]
    have kept : Toward.even.cut s ((m * 2 ^ i) <<< (p - (i : Int) - (p + m.log2 - 52)).toNat) (p + (m.log2 : Int) - 52 - (p - i)).toNat = m * 2 ^ (52 - m.log2) := by
      rcases Nat.le_total i (52 - m.log2) with h | h
      · have a1 : (p - (i : Int) - (p + m.log2 - 52)).toNat = 52 - m.log2 - i := by omega
        have a2 : (p + (m.log2 : Int) - 52 - (p - i)).toNat = 0 := by omega
        rw [a1, a2, Nat.shiftLeft_eq, Nat.mul_assoc, ← Nat.pow_add, show i + (52 - m.log2 - i) = 52 - m.log2 by omega]
        have := cutD_even (s := s) (x := m * 2 ^ (52 - m.log2)) (Nat.mul_ne_zero h0 (Nat.ne_of_gt (Nat.two_pow_pos _))) 0
        rwa [Nat.pow_zero, Nat.mul_one] at this
      · have a1 : (p - (i : Int) - (p + m.log2 - 52)).toNat = 0 := by omega
        have a2 : (p + (m.log2 : Int) - 52 - (p - i)).toNat = i - (52 - m.log2) := by omega
        rw [a1, a2, Nat.shiftLeft_eq, Nat.pow_zero, Nat.mul_one]
        have := cutD_even (s := s) (x := m * 2 ^ (52 - m.log2)) (Nat.mul_ne_zero h0 (Nat.ne_of_gt (Nat.two_pow_pos _))) (i - (52 - m.log2))
        rwa [Nat.mul_assoc, ← Nat.pow_add, show 52 - m.log2 + (i - (52 - m.log2)) = i by omega] at this
    rw [kept]
  rw [key j]
  have := key 0
  rw [Nat.pow_zero, Nat.mul_one] at this
  rw [← this]
  congr 1
  omega
theorem read_word (s : Bool) (R M : Nat) (hR : R ≤ 2000) (h1 : 4503599627370496 ≤ M) (h2 : M < 9007199254740992) : double.read (double.word s (R * 4503599627370496 + M)) = .number s M (-1074 + (R : Int)) := by
  unfold Format.read
  have e1 : double.signWeight = 9223372036854775808 := by decide
  have e2 : double.binade = 4503599627370496 := by decide
  have e3 : double.infRung = 9218868437227405312 := by decide
  have e4 : double.leastPlace = -1074 := by decide
  rw [e1, e2, e3, e4]
  have hneg : (double.word s (R * 4503599627370496 + M) / 9223372036854775808 % 2 == 1) = s := by
    unfold Format.word
    rw [e1]
    cases s
    · rw [if_neg (by simp), beq_eq_false_iff_ne]
      omega
    · rw [if_pos rfl, beq_iff_eq]
      omega
  have hrung : double.word s (R * 4503599627370496 + M) % 9223372036854775808 = R * 4503599627370496 + M := by
    unfold Format.word
    rw [e1]
    cases s
    · rw [if_neg (by simp)]
      omega
    · rw [if_pos rfl]
      omega
  have g1 : ¬ R * 4503599627370496 + M < 4503599627370496 := by omega
  have g2 : R * 4503599627370496 + M < 9218868437227405312 := by omega
  have d1 : (R * 4503599627370496 + M) / 4503599627370496 - 1 = R := by omega
  have d2 : 4503599627370496 + (R * 4503599627370496 + M) % 4503599627370496 = M := by omega
  simp only [hneg, hrung]
  rw [if_neg g1, if_pos g2, d1, d2]
theorem sig_lt {m : Nat} (hL : m.log2 < 53) : m * 2 ^ (52 - m.log2) < 9007199254740992 := by
  have h1 : m * 2 ^ (52 - m.log2) < 2 ^ (m.log2 + 1) * 2 ^ (52 - m.log2) := Nat.mul_lt_mul_of_pos_right Nat.lt_log2_self (Nat.two_pow_pos _)
  rwa [← Nat.pow_add, show m.log2 + 1 + (52 - m.log2) = 53 by omega] at h1
theorem sig_ge {m : Nat} (h0 : m ≠ 0) (hL : m.log2 < 53) : 4503599627370496 ≤ m * 2 ^ (52 - m.log2) := by
  have h1 : 2 ^ m.log2 * 2 ^ (52 - m.log2) ≤ m * 2 ^ (52 - m.log2) := Nat.mul_le_mul_right _ (Nat.log2_self_le h0)
  rwa [← Nat.pow_add, show m.log2 + (52 - m.log2) = 52 by omega] at h1
/-- The word, its rung told. -/
theorem nearest_word (s : Bool) {m : Nat} (h0 : m ≠ 0) (hL : m.log2 < 53) (p : Int) (hp : -900 ≤ p) (hq : p ≤ 900) :
    double.nearest s m p = double.word s ((p + m.log2 - 52 + 1074).toNat * 4503599627370496 + m * 2 ^ (52 - m.log2)) := by
  have hlt := sig_lt hL
  unfold Format.nearest
  rw [if_neg h0]
  have e2 : double.leastPlace = -1074 := by decide
  have e3 : double.fractionBits = 52 := rfl
  have e4 : double.binade = 4503599627370496 := by decide
  have hi : double.infRung = 9218868437227405312 := by decide
  simp only [e2, e3, e4, hi]
  have hl : max (p + (m.log2 : Int) - ((52 : Nat) : Int)) (-1074) = p + m.log2 - 52 := by omega
  rw [hl]
  have a1 : (p - (p + (m.log2 : Int) - 52)).toNat = 52 - m.log2 := by omega
  have a2 : (p + (m.log2 : Int) - 52 - p).toNat = 0 := by omega
  have a3 : (p + (m.log2 : Int) - 52 - -1074) = p + m.log2 - 52 + 1074 := by omega
  have hc := cutD_even (s := s) (x := m * 2 ^ (52 - m.log2)) (Nat.mul_ne_zero h0 (Nat.ne_of_gt (Nat.two_pow_pos _))) 0
  rw [Nat.pow_zero, Nat.mul_one] at hc
  rw [a1, a2, a3, Nat.shiftLeft_eq, hc]
  have hr : (p + (m.log2 : Int) - 52 + 1074).toNat ≤ 2000 := by omega
  rw [Nat.min_eq_left]
  clear hc a1 a2 a3 hl e2 e3 e4 hi
  generalize (p + (m.log2 : Int) - 52 + 1074).toNat = R at *
  generalize m * 2 ^ (52 - m.log2) = M at *
  clear hL h0 hp hq
  omega
/-- What is written is read. -/
theorem read_nearest (s : Bool) {m : Nat} (h0 : m ≠ 0) (hL : m.log2 < 53) (p : Int) (hp : -900 ≤ p) (hq : p ≤ 900) :
    double.read (double.nearest s m p) = .number s (m * 2 ^ (52 - m.log2)) (p - (52 - m.log2 : Nat)) := by
  rw [nearest_word s h0 hL p hp hq, read_word s _ _ (by omega) (sig_ge h0 hL) (sig_lt hL)]
  congr 1
  omega
/-- The word of n sixteenths. -/
def fx (n : Int) : Nat := double.nearest (decide (n < 0)) n.natAbs (-4)
/-- A datum that is n sixteenths; a nought has no sign. -/
def Rd (d : Datum) (n : Int) : Prop := ∃ e : Nat, d = .number (decide (n < 0)) (n.natAbs * 2 ^ e) (-4 - (e : Int))
/-- What is reckoned with. -/
def Sm (n : Int) : Prop := n.natAbs < 281474976710656
theorem Sm.log {n : Int} (h : Sm n) (h0 : n.natAbs ≠ 0) : n.natAbs.log2 < 48 := log2_lt' h0 (k := 48) h
theorem fx_zero : fx 0 = 0 := by decide
theorem fx_read {n : Int} (h : Sm n) : Rd (double.read (fx n)) n := by
  by_cases h0 : n.natAbs = 0
  · obtain rfl : n = 0 := by omega
    obtain ⟨e, he⟩ : ∃ e : Nat, e = 1070 := ⟨_, rfl⟩
    refine ⟨e, ?_⟩
    rw [fx_zero, show Int.natAbs 0 = 0 from rfl, Nat.zero_mul, he]
    decide
  · have hL := h.log h0
    refine ⟨52 - n.natAbs.log2, ?_⟩
    unfold fx
    rw [read_nearest _ h0 (by omega) _ (by omega) (by omega)]
theorem Rd.write {d : Datum} {n : Int} (h : Rd d n) (hn : Sm n) : double.write d = fx n := by
  obtain ⟨e, rfl⟩ := h
  exact nearest_up _ (Nat.lt_trans hn (by decide)) _ (by omega) e
theorem signed_rd {s : Bool} {n : Int} (h : n ≠ 0 → s = decide (n < 0)) (e k : Nat) : signed s (n.natAbs * 2 ^ e) k = n * 2 ^ (e + k) := by
  unfold signed
  rw [Nat.shiftLeft_eq, Nat.mul_assoc, ← Nat.pow_add]
  by_cases h0 : n = 0
  · subst h0
    cases s <;> simp
  · rw [h h0]
    by_cases hn : n < 0
    · rw [decide_eq_true hn, if_pos rfl]
      have : n = -(n.natAbs : Int) := by omega
      conv => rhs; rw [this]
      rw [Int.natCast_mul, Int.neg_mul]
      simp
    · rw [decide_eq_false hn, if_neg (by simp)]
      have : n = (n.natAbs : Int) := by omega
      conv => rhs; rw [this]
      rw [Int.natCast_mul]
      simp
theorem sum_rd {s t : Bool} {a b : Int} {e f : Nat} (ha : a ≠ 0 → s = decide (a < 0)) (hb : b ≠ 0 → t = decide (b < 0)) (hz : a + b = 0 → (s && t) = false) :
    ∃ d, Datum.sum (.number s (a.natAbs * 2 ^ e) (-4 - (e : Int))) (.number t (b.natAbs * 2 ^ f) (-4 - (f : Int))) = some d ∧ Rd d (a + b) := by
  have hE : min (-4 - (e : Int)) (-4 - (f : Int)) = -4 - ((max e f : Nat) : Int) := by omega
  have h1 : signed s (a.natAbs * 2 ^ e) (-4 - (e : Int) - (-4 - ((max e f : Nat) : Int))).toNat = a * 2 ^ max e f := by
    rw [signed_rd ha, show e + (-4 - (e : Int) - (-4 - ((max e f : Nat) : Int))).toNat = max e f by omega]
  have h2 : signed t (b.natAbs * 2 ^ f) (-4 - (f : Int) - (-4 - ((max e f : Nat) : Int))).toNat = b * 2 ^ max e f := by
    rw [signed_rd hb, show f + (-4 - (f : Int) - (-4 - ((max e f : Nat) : Int))).toNat = max e f by omega]
  refine ⟨_, rfl, max e f, ?_⟩
  simp only [hE, h1, h2]
  rw [← Int.add_mul]
  have hp : (0 : Int) < 2 ^ max e f := by
    have := Nat.two_pow_pos (max e f)
    exact_mod_cast this
  have hs : (if (a + b) * 2 ^ max e f = 0 then (s && t) else decide ((a + b) * 2 ^ max e f < 0)) = decide (a + b < 0) := by
    by_cases h0 : a + b = 0
    · rw [h0, Int.zero_mul, if_pos rfl, hz h0]
      rfl
    · rw [if_neg (fun h => h0 ((Int.mul_eq_zero.1 h).resolve_right (Int.ne_of_gt hp)))]
      by_cases hn : a + b < 0
      · rw [decide_eq_true hn, decide_eq_true (Int.mul_neg_of_neg_of_pos hn hp)]
      · rw [decide_eq_false hn, decide_eq_false]
        have := Int.mul_nonneg (Int.not_lt.1 hn) (Int.le_of_lt hp)
        omega
  have hm : ((a + b) * 2 ^ max e f).natAbs = (a + b).natAbs * 2 ^ max e f := by
    rw [Int.natAbs_mul, Int.natAbs_pow]
    rfl
  rw [hs, hm]
theorem fx_add {a b : Int} (ha : Sm a) (hb : Sm b) (h : Sm (a + b)) : double.add (fx a) (fx b) = some (fx (a + b)) := by
  obtain ⟨e, he⟩ := fx_read ha
  obtain ⟨f, hf⟩ := fx_read hb
  unfold Format.add
  rw [he, hf]
  obtain ⟨d, h1, h2⟩ := sum_rd (e := e) (f := f) (s := decide (a < 0)) (t := decide (b < 0)) (fun _ => rfl) (fun _ => rfl) (fun h => by
    by_cases ha : a < 0
    · rw [decide_eq_false (show ¬ b < 0 by omega), Bool.and_false]
    · rw [decide_eq_false ha, Bool.false_and])
  rw [h1, Option.map_some, h2.write h]
theorem fx_sub {a b : Int} (ha : Sm a) (hb : Sm b) (h : Sm (a - b)) : double.sub (fx a) (fx b) = some (fx (a - b)) := by
  obtain ⟨e, he⟩ := fx_read ha
  obtain ⟨f, hf⟩ := fx_read hb
  unfold Format.sub
  rw [he, hf]
  unfold Datum.opposite
  obtain ⟨d, h1, h2⟩ := sum_rd (e := e) (f := f) (s := decide (a < 0)) (t := !decide (b < 0)) (a := a) (b := -b) (fun _ => rfl) (fun h0 => by
    by_cases hb : b < 0
    · rw [decide_eq_true hb, decide_eq_false (by omega)]; rfl
    · rw [decide_eq_false hb, decide_eq_true (by omega)]; rfl) (fun h => by
    by_cases hb : b < 0
    · rw [decide_eq_true hb, Bool.not_true, Bool.and_false]
    · rw [decide_eq_false (show ¬ a < 0 by omega), Bool.false_and])
  rw [Int.natAbs_neg] at h1
  rw [h1, Option.map_some, h2.write h]
  rfl
theorem fx_order {a b : Int} (ha : Sm a) (hb : Sm b) : double.order (fx a) (fx b) = some (compare a b) := by
  obtain ⟨e, he⟩ := fx_read ha
  obtain ⟨f, hf⟩ := fx_read hb
  unfold Format.order
  rw [he, hf]
  unfold Datum.order
  have hE : min (-4 - (e : Int)) (-4 - (f : Int)) = -4 - ((max e f : Nat) : Int) := by omega
  have h1 : signed (decide (a < 0)) (a.natAbs * 2 ^ e) (-4 - (e : Int) - (-4 - ((max e f : Nat) : Int))).toNat = a * 2 ^ max e f := by
    rw [signed_rd (fun _ => rfl), show e + (-4 - (e : Int) - (-4 - ((max e f : Nat) : Int))).toNat = max e f by omega]
  have h2 : signed (decide (b < 0)) (b.natAbs * 2 ^ f) (-4 - (f : Int) - (-4 - ((max e f : Nat) : Int))).toNat = b * 2 ^ max e f := by
    rw [signed_rd (fun _ => rfl), show f + (-4 - (f : Int) - (-4 - ((max e f : Nat) : Int))).toNat = max e f by omega]
  simp only [hE, h1, h2]
  have hp : (0 : Int) < 2 ^ max e f := by
    have := Nat.two_pow_pos (max e f)
    exact_mod_cast this
  generalize (2 : Int) ^ max e f = X at *
  congr 1
  unfold compare instOrdInt compareOfLessAndEq
  have l : a * X < b * X ↔ a < b := ⟨fun h => Int.lt_of_mul_lt_mul_right h (Int.le_of_lt hp), fun h => Int.mul_lt_mul_of_pos_right h hp⟩
  have q : a * X = b * X ↔ a = b := ⟨fun h => Int.eq_of_mul_eq_mul_right (Int.ne_of_gt hp) h, fun h => by rw [h]⟩
  simp only [l, q]
theorem cutD_down {s : Bool} (n k : Nat) : Toward.down.cut s n k = n / 2 ^ k + (s && n % 2 ^ k != 0).toNat := by
  unfold Toward.cut
  rcases Nat.le_total k (n.log2 + 2) with h | h
  · have hg : (1 : Nat) <<< min k (n.log2 + 2) = 2 ^ k := by rw [Nat.min_eq_left h, Nat.shiftLeft_eq, Nat.one_mul]
    simp only [hg]
  · have hg : (1 : Nat) <<< min k (n.log2 + 2) = 2 ^ (n.log2 + 2) := by rw [Nat.min_eq_right h, Nat.shiftLeft_eq, Nat.one_mul]
    have h1 : n < 2 ^ (n.log2 + 2) := Nat.lt_trans Nat.lt_log2_self (Nat.pow_lt_pow_right (by omega) (by omega))
    have h2 : n < 2 ^ k := Nat.lt_of_lt_of_le h1 (Nat.pow_le_pow_right (by omega) h)
    simp only [hg, Nat.div_eq_of_lt h1, Nat.div_eq_of_lt h2, Nat.mod_eq_of_lt h1, Nat.mod_eq_of_lt h2]
theorem cutD_zero {s : Bool} (n k : Nat) : Toward.zero.cut s n k = n / 2 ^ k := by
  unfold Toward.cut
  rcases Nat.le_total k (n.log2 + 2) with h | h
  · have hg : (1 : Nat) <<< min k (n.log2 + 2) = 2 ^ k := by rw [Nat.min_eq_left h, Nat.shiftLeft_eq, Nat.one_mul]
    simp only [hg]
    rfl
  · have hg : (1 : Nat) <<< min k (n.log2 + 2) = 2 ^ (n.log2 + 2) := by rw [Nat.min_eq_right h, Nat.shiftLeft_eq, Nat.one_mul]
    have h1 : n < 2 ^ (n.log2 + 2) := Nat.lt_trans Nat.lt_log2_self (Nat.pow_lt_pow_right (by omega) (by omega))
    have h2 : n < 2 ^ k := Nat.lt_of_lt_of_le h1 (Nat.pow_le_pow_right (by omega) h)
    simp only [hg, Nat.div_eq_of_lt h1, Nat.div_eq_of_lt h2]
    rfl
/-- A whole number's word. -/
theorem fx_whole (s : Bool) {z : Int} (hz : z.natAbs < 9007199254740992) (hs : s = decide (z < 0)) : double.nearest s z.natAbs 0 = fx (16 * z) := by
  unfold fx
  have e : (16 * z).natAbs = z.natAbs * 2 ^ 4 := by omega
  have d : decide (16 * z < 0) = decide (z < 0) := by
    by_cases h : z < 0
    · rw [decide_eq_true h, decide_eq_true (by omega)]
    · rw [decide_eq_false h, decide_eq_false (by omega)]
  rw [e, d, hs]
  exact (nearest_up _ (m := z.natAbs) (by omega) 0 (by omega) 4).symm
theorem div_shift (m e : Nat) : m * 2 ^ e / 2 ^ (4 + e) = m / 16 := by
  rw [Nat.pow_add, Nat.mul_comm (2 ^ 4), Nat.mul_comm m, Nat.mul_div_mul_left _ _ (Nat.two_pow_pos e)]
theorem mod_shift (m e : Nat) : (m * 2 ^ e % 2 ^ (4 + e) != 0) = (m % 16 != 0) := by
  rw [Nat.pow_add, Nat.mul_comm (2 ^ 4), Nat.mul_comm m, Nat.mul_mod_mul_left]
  by_cases h : m % 16 = 0
  · rw [show (2 : Nat) ^ 4 = 16 from rfl, h]; rfl
  · have := Nat.mul_ne_zero (Nat.ne_of_gt (Nat.two_pow_pos e)) h
    rw [show (2 : Nat) ^ 4 = 16 from rfl, bne_iff_ne.2 this, bne_iff_ne.2 h]
/-- math.Floor. -/
theorem fx_floor {n : Int} (h : Sm n) : double.write ((double.read (fx n)).integral .down) = fx (16 * (n / 16)) := by
  obtain ⟨e, he⟩ := fx_read h
  rw [he]
  unfold Datum.integral
  have a1 : (-4 - (e : Int)).toNat = 0 := by omega
  have a2 : (-(-4 - (e : Int))).toNat = 4 + e := by omega
  show double.write (.number _ (Toward.down.cut _ ((n.natAbs * 2 ^ e) <<< (-4 - (e : Int)).toNat) (-(-4 - (e : Int))).toNat) 0) = _
  rw [a1, a2, Nat.shiftLeft_eq, Nat.pow_zero, Nat.mul_one, cutD_down, div_shift, mod_shift]
  have hv : n.natAbs / 16 + (decide (n < 0) && n.natAbs % 16 != 0).toNat = (n / 16).natAbs := by
    by_cases hn : n < 0
    · rw [decide_eq_true hn, Bool.true_and]
      by_cases hm : n.natAbs % 16 = 0
      · rw [show (n.natAbs % 16 != 0) = false by rw [hm]; rfl, Bool.toNat_false]
        omega
      · rw [show (n.natAbs % 16 != 0) = true by simp [hm], Bool.toNat_true]
        omega
    · rw [decide_eq_false hn, Bool.false_and, Bool.toNat_false]
      omega
  rw [hv]
  unfold Sm at h
  refine fx_whole _ (by omega) ?_
  by_cases hn : n < 0
  · rw [decide_eq_true hn, decide_eq_true (by omega)]
  · rw [decide_eq_false hn, decide_eq_false (by omega)]
/-- The integer of a whole number's word. -/
theorem fx_int {z : Int} (h : Sm (16 * z)) : (double.read (fx (16 * z))).toInt .zero = some z := by
  obtain ⟨e, he⟩ := fx_read h
  rw [he]
  unfold Datum.toInt Datum.integral
  have a1 : (-4 - (e : Int)).toNat = 0 := by omega
  have a2 : (-(-4 - (e : Int))).toNat = 4 + e := by omega
  simp only [a1, a2, Nat.shiftLeft_eq, Nat.pow_zero, Nat.mul_one, cutD_zero, div_shift]
  unfold signed
  rw [Nat.shiftLeft_eq, Nat.pow_zero, Nat.mul_one]
  by_cases hn : z < 0
  · rw [decide_eq_true (show 16 * z < 0 by omega), if_pos rfl]
    congr 1
    omega
  · rw [decide_eq_false (show ¬ 16 * z < 0 by omega), if_neg (by simp)]
    congr 1
    omega
/-- A half. -/
theorem quot_gen (D : Nat) (s : Bool) (M N : Nat) (i j : Int) (h : N ≠ 0) : Datum.quotient D (.number s M i) (.number false N j) =
    some (.number (s ^^ false) (2 * (M <<< (D + N.log2 - M.log2) / N) + (M <<< (D + N.log2 - M.log2) % N != 0).toNat) (i - j - (D + N.log2 - M.log2 : Nat) - 1)) := by
  unfold Datum.quotient
  exact if_neg h
theorem quot_two (s : Bool) (M : Nat) (i : Int) (hL : M.log2 = 52) (N : Nat) (h0 : N ≠ 0) (hN : N.log2 = 52) (h4 : (2 : Nat) ^ 54 = N * 4) : Datum.quotient 54 (.number s M i) (.number false N (-51)) = some (.number s (8 * M) (i - 4)) := by
  have hd : M <<< (54 + 52 - 52) = N * (M * 4) := by
    rw [Nat.shiftLeft_eq, show 54 + 52 - 52 = 54 from rfl, h4, Nat.mul_comm, Nat.mul_assoc, Nat.mul_comm 4 M]
  rw [quot_gen _ _ _ _ _ _ h0, hL, hN, hd, Nat.mul_div_cancel_left _ (Nat.pos_of_ne_zero h0), Nat.mul_mod_right, Bool.xor_false, show ((0 : Nat) != 0).toNat = 0 from rfl, Nat.add_zero, show 2 * (M * 4) = 8 * M by omega,
    show i - -51 - ((54 + 52 - 52 : Nat) : Int) - 1 = i - 4 by omega]
theorem fx_half {n : Int} (h : Sm (2 * n)) : double.div (fx (2 * n)) (fx 32) = some (fx n) := by
  have hs : Sm n := by unfold Sm at *; omega
  have h2 : double.read (fx 32) = .number false 4503599627370496 (-51) := by decide
  unfold Format.div
  rw [h2]
  by_cases h0 : n = 0
  · subst h0
    decide
  · have hne : (2 * n).natAbs ≠ 0 := by omega
    have hL := h.log hne
    have hr := read_nearest (decide (2 * n < 0)) hne (by omega) (-4) (by omega) (by omega)
    rw [show double.read (fx (2 * n)) = _ from hr]
    have hlg : ((2 * n).natAbs * 2 ^ (52 - (2 * n).natAbs.log2)).log2 = 52 := by
      rw [log2_shift hne]
      omega
    rw [show double.fractionBits + 2 = 54 from rfl, quot_two _ _ _ hlg _ (by decide) (by decide) (by decide), Option.map_some]
    congr 1
    refine Rd.write ⟨52 - (2 * n).natAbs.log2 + 4, ?_⟩ hs
    congr 1
    · by_cases hn : n < 0
      · rw [decide_eq_true hn, decide_eq_true (by omega)]
      · rw [decide_eq_false hn, decide_eq_false (by omega)]
    · rw [Nat.pow_add, ← Nat.mul_assoc, show (2 * n).natAbs = 2 * n.natAbs by omega, ← Nat.mul_assoc, ← Nat.mul_assoc, Nat.mul_comm _ (2 ^ 4), ← Nat.mul_assoc]
    · omega
end Go.Proofs.YtdjgjffgheocfaaGreat

namespace Go.Proofs.YtdjgjffgheocfaaGreat
open Go.RowKit

theorem fx_lit0 : fx 0 = 0 := fx_zero
theorem fx_lit1 : fx 16 = 4607182418800017408 := by decide
theorem fx_lit2 : fx 32 = 4611686018427387904 := by decide
theorem fx_lit16 : fx 256 = 4625196817309499392 := by decide
theorem fx_lit31 : fx 496 = 4629418941960159232 := by decide

set_option maxRecDepth 100000 in
/-- math.Floor. -/
theorem floor_word {x y : Nat} (hx : (Ieee.double.read x).isNaN = false) (hy : Ieee.double.write ((Ieee.double.read x).integral .down) = y) (w : World) :
    Calls Tryz.prog 129 #[.float .f64 x] w fun e w' => e = .returned (.float .f64 y) ∧ w = w' := by
  have hrun : ∀ w, (Extern.MathFloor.toIntegral "math.archFloor" .down #[.float .f64 x]).run Tryz.prog w = .ok (.float .f64 y) w := by
    intro w
    change Sem.run Tryz.prog (Extern.MathFloor.toIntegral.match_1 (motive := fun _ => Sem Value) (Ieee.double.read x) _ _) w = _
    generalize Ieee.double.read x = d at hx hy
    cases d with
    | nan s t => cases hx
    | number s m i => rw [← hy]; rfl
    | infinity s => rw [← hy]; rfl
  go_enter Tryz.func129, Tryz.ntmps129
  go_wp2
  rw [run_callFunc_extern Tryz.func141 (by kernel_rfl) (by kernel_rfl) (by kernel_rfl) (e := Extern.MathFloor.toIntegral "math.archFloor" .down) (by kernel_rfl), hrun]
  simp only [Result.andThen]
  rw [Oper.upon_value]
  go_wp2
  go_ret
  exact ⟨rfl, rfl⟩
theorem floor_any {n : Int} (h : Sm n) (w : World) :
    Calls Tryz.prog 129 #[.float .f64 (fx n)] w fun e w' => e = .returned (.float .f64 (fx (16 * (n / 16)))) ∧ w = w' := by
  refine floor_word ?_ (fx_floor h) w
  obtain ⟨e, he⟩ := fx_read h
  rw [he]
  rfl
theorem fl_gt {a b : Int} (ha : Sm a) (hb : Sm b) : (FloatKind.f64.format.order (fx a) (fx b) == some .gt) = decide (b < a) := by
  rw [show FloatKind.f64.format.order (fx a) (fx b) = _ from fx_order ha hb]
  by_cases h : b < a
  · rw [decide_eq_true h, Int.compare_eq_gt.2 h]; rfl
  · rw [decide_eq_false h]
    rcases Int.lt_or_eq_of_le (Int.not_lt.1 h) with h | h
    · rw [Int.compare_eq_lt.2 h]; rfl
    · rw [Int.compare_eq_eq.2 h]; rfl
theorem fl_lt {a b : Int} (ha : Sm a) (hb : Sm b) : (FloatKind.f64.format.order (fx a) (fx b) == some .lt) = decide (a < b) := by
  rw [show FloatKind.f64.format.order (fx a) (fx b) = _ from fx_order ha hb]
  by_cases h : a < b
  · rw [decide_eq_true h, Int.compare_eq_lt.2 h]; rfl
  · rw [decide_eq_false h]
    rcases Int.lt_or_eq_of_le (Int.not_lt.1 h) with h | h
    · rw [Int.compare_eq_gt.2 h]; rfl
    · rw [Int.compare_eq_eq.2 h.symm]; rfl
theorem fl_eq {a b : Int} (ha : Sm a) (hb : Sm b) : (FloatKind.f64.format.order (fx a) (fx b) == some .eq) = decide (a = b) := by
  rw [show FloatKind.f64.format.order (fx a) (fx b) = _ from fx_order ha hb]
  by_cases h : a = b
  · rw [decide_eq_true h, Int.compare_eq_eq.2 h]; rfl
  · rw [decide_eq_false h]
    rcases Int.lt_or_gt_of_ne h with h | h
    · rw [Int.compare_eq_lt.2 h]; rfl
    · rw [Int.compare_eq_gt.2 h]; rfl
/-- Which five bits a coordinate of 2 a sixteenths is nearest. -/
def levI (a : Int) : Int := min 31 (max 0 ((256 + a) / 16))
theorem levI_of (a : Int) : levI a = if 31 < (256 + a) / 16 then 31 else if 0 < (256 + a) / 16 then (256 + a) / 16 else 0 := by
  unfold levI
  omega
def levN (a : Int) : Nat := (levI a).toNat
theorem levN_le (a : Int) : levN a ≤ 31 := by
  unfold levN levI
  omega
theorem levN_eq (a : Int) : ((levN a : Nat) : Int) = levI a := by
  unfold levN levI
  omega
theorem fl_u16 {k : Int} (h0 : 0 ≤ k) (h1 : k ≤ 65535) : floatToIntVal .f64 (fx (16 * k)) .u16 = some k := by
  have hs : Sm (16 * k) := by unfold Sm; omega
  unfold floatToIntVal
  rw [show (FloatKind.f64.decode (fx (16 * k))).toInt .zero = some k from fx_int hs]
  exact if_pos ⟨h0, h1⟩

set_option maxRecDepth 100000 in
set_option maxHeartbeats 1000000 in
theorem level_any (a : Int) (ha : a.natAbs < 1099511627776) (w : World) :
    Calls Tryz.prog 111 #[.float .f64 (fx (2 * a))] w fun e w' => e = .returned (.int .u16 (levN a : Nat)) ∧ w = w' := by
  rw [levN_eq]
  have s1 : Sm (256 + a) := by unfold Sm; omega
  have hop1 : ∀ t w, (binOp .quo t (.float .f64 (fx (2 * a))) (.float .f64 4611686018427387904)).run Tryz.prog w = .ok (.float .f64 (fx a)) w := fun t w => run_float_arith w .quo t .f64 _ _ _ (fx_lit2 ▸ fx_half (by unfold Sm; omega))
  have hop2 : ∀ t w, (binOp .add t (.float .f64 4625196817309499392) (.float .f64 (fx a))).run Tryz.prog w = .ok (.float .f64 (fx (256 + a))) w := fun t w => run_float_arith w .add t .f64 _ _ _ (fx_lit16 ▸ fx_add (by unfold Sm; decide) (by unfold Sm; omega) s1)
  have hfl := fun w => floor_any s1 w
  have hg1 := fl_gt (a := 16 * ((256 + a) / 16)) (b := 496) (by unfold Sm; omega) (by unfold Sm; decide)
  have hg2 := fl_gt (a := 16 * ((256 + a) / 16)) (b := 0) (by unfold Sm; omega) (by unfold Sm; decide)
  rw [fx_lit31] at hg1
  rw [fx_zero] at hg2
  have hcv : 0 ≤ (256 + a) / 16 → (256 + a) / 16 ≤ 31 → ∀ w, (convert 28 148 (.float .f64 (fx (16 * ((256 + a) / 16))))).run Tryz.prog w = .ok (.int .u16 ((256 + a) / 16)) w := fun h0 h1 w =>
    run_convert_float_int w 28 148 .f64 .u16 _ _ (by rw [Tryz.underlying28]; rfl) Tryz.underlying148 (fl_u16 h0 (by omega))
  rw [levI_of]
  have e1 : decide ((496 : Int) < 16 * ((256 + a) / 16)) = decide (31 < (256 + a) / 16) := by
    by_cases h : 31 < (256 + a) / 16
    · rw [decide_eq_true h, decide_eq_true (by omega)]
    · rw [decide_eq_false h, decide_eq_false (by omega)]
  have e2 : decide ((0 : Int) < 16 * ((256 + a) / 16)) = decide (0 < (256 + a) / 16) := by
    by_cases h : 0 < (256 + a) / 16
    · rw [decide_eq_true h, decide_eq_true (by omega)]
    · rw [decide_eq_false h, decide_eq_false (by omega)]
  rw [e1] at hg1
  rw [e2] at hg2
  clear e1 e2 s1 ha
  generalize fx (16 * ((256 + a) / 16)) = V at *
  generalize fx (256 + a) = Z at *
  generalize (256 + a) / 16 = k at *
  generalize fx (2 * a) = X at *
  generalize fx a = Y at *
  go_enter Tryz.func111, Tryz.ntmps111
  go_wp2_with (simp only [hop1, hop2])
  refine (hfl _).mono ?_
  rintro e w1 ⟨rfl, rfl⟩
  clear hop1 hop2 hfl
  by_cases h31 : 31 < k
  · rw [decide_eq_true h31] at hg1
    clear hg2 hcv
    go_wp2_with fail
    go_ret
    exact ⟨rfl, rfl⟩
  · rw [decide_eq_false h31] at hg1
    by_cases h0 : 0 < k
    · rw [decide_eq_true h0] at hg2
      have hc := hcv (by omega) (by omega)
      clear hcv
      go_wp2_with fail
      go_ret
      exact ⟨rfl, rfl⟩
    · rw [decide_eq_false h0] at hg2
      clear hcv
      go_wp2_with fail
      go_ret
      exact ⟨rfl, rfl⟩
/-- A point, in eighths. -/
def ptv (a b : Int) : Value := .complex .f64 (fx (2 * a)) (fx (2 * b))
/-- What is reckoned with. -/
def Pm (a : Int) : Prop := a.natAbs < 1099511627776
/-- The symbol that a point is nearest. -/
def sl (a b : Int) : Nat := levN a * 32 + levN b
theorem sl_lt (a b : Int) : sl a b < 1024 := by
  have := levN_le a
  have := levN_le b
  unfold sl
  omega
theorem or_levels {x y : Nat} (hy : y ≤ 31) (hx : x ≤ 31) : bits .or .u16 ((x : Int) * 32) (y : Int) = ((x * 32 + y : Nat) : Int) := by
  have h := or_u16 (a := x * 32) (b := y) (by omega) (by omega)
  have e : x * 32 ||| y = x * 32 + y := by
    have := nat_join 5 (x * 32) y (by omega) (by omega)
    exact this
  rw [e] at h
  rwa [Int.natCast_mul] at h

set_option maxRecDepth 100000 in
set_option maxHeartbeats 1000000 in
theorem slice_any (a b : Int) (ha : Pm a) (hb : Pm b) (w : World) :
    Calls Tryz.prog 97 #[ptv a b] w fun e w' => e = .returned (.int .u16 (sl a b : Nat)) ∧ w = w' := by
  have h1 := fun w => level_any a ha w
  have h2 := fun w => level_any b hb w
  have hor := or_levels (levN_le b) (levN_le a)
  have hx := levN_le a
  unfold ptv sl
  generalize levN a = x at *
  generalize levN b = y at *
  generalize fx (2 * a) = X at *
  generalize fx (2 * b) = Y at *
  clear ha hb
  go_enter Tryz.func97, Tryz.ntmps97
  go_wp2_with fail
  refine (h1 _).mono ?_
  rintro e w1 ⟨rfl, rfl⟩
  go_wp2_with fail
  refine (h2 _).mono ?_
  rintro e w1 ⟨rfl, rfl⟩
  go_wp2_with fail
  go_ret
  exact ⟨rfl, rfl⟩
theorem fl_ne {a b : Int} (ha : Sm a) (hb : Sm b) : (FloatKind.f64.format.order (fx a) (fx b) != some .eq) = !decide (a = b) := by
  rw [bne, fl_eq ha hb]
/-- A symbol's five bits as a coordinate, in eighths. -/
def co (n : Nat) : Int := 8 * (2 * (n : Int) - 31)
theorem co_float (n : Nat) (hn : n ≤ 31) : floatOfInt .f64 (2 * (n : Int) - 31) = fx (2 * co n) := by
  have h := fx_whole (decide (2 * (n : Int) - 31 < 0)) (z := 2 * (n : Int) - 31) (by omega) rfl
  have e : 2 * co n = 16 * (2 * (n : Int) - 31) := by unfold co; omega
  rw [e]
  exact h
theorem lev_co {n : Nat} (h : n ≤ 31) : levN (co n) = n := by
  unfold levN levI co
  omega
theorem shr_five {s : Nat} : ((s : Int) / 32) = ((s / 32 : Nat) : Int) := by omega
theorem and_31 {s : Nat} (h : s < 65536) : bits .and .u16 (s : Int) 31 = ((s % 32 : Nat) : Int) := by
  have h := and_u16 (a := s) (b := 31) h (by omega)
  rw [show s &&& 31 = s % 32 from Nat.and_two_pow_sub_one_eq_mod s 5] at h
  exact h
/-- A symbol's point. -/
def reS (s : Nat) : Int := co (s % 1024 / 32)
def imS (s : Nat) : Int := co (s % 32)
theorem Pm_co {n : Nat} (h : n ≤ 31) : Pm (co n) := by
  unfold Pm co
  omega
theorem Pm_re (s : Nat) : Pm (reS s) := Pm_co (by omega)
theorem Pm_im (s : Nat) : Pm (imS s) := Pm_co (by omega)
theorem sl_sym {s : Nat} (h : s < 1024) : sl (reS s) (imS s) = s := by
  unfold sl reS imS
  rw [lev_co (by omega), lev_co (by omega)]
  omega
theorem c_add {a b c d : Int} (ha : Pm a) (hb : Pm b) (hc : Pm c) (hd : Pm d) : cSumBits .add .f64 (fx (2 * a)) (fx (2 * b)) (fx (2 * c)) (fx (2 * d)) = some (fx (2 * (a + c)), fx (2 * (b + d))) := by
  unfold Pm at *
  unfold cSumBits
  rw [show floatBits .add .f64 (fx (2 * a)) (fx (2 * c)) = some (fx (2 * a + 2 * c)) from fx_add (by unfold Sm; omega) (by unfold Sm; omega) (by unfold Sm; omega),
    show floatBits .add .f64 (fx (2 * b)) (fx (2 * d)) = some (fx (2 * b + 2 * d)) from fx_add (by unfold Sm; omega) (by unfold Sm; omega) (by unfold Sm; omega), Int.mul_add, Int.mul_add]
  rfl
theorem c_sub {a b c d : Int} (ha : Pm a) (hb : Pm b) (hc : Pm c) (hd : Pm d) : cSumBits .sub .f64 (fx (2 * a)) (fx (2 * b)) (fx (2 * c)) (fx (2 * d)) = some (fx (2 * (a - c)), fx (2 * (b - d))) := by
  unfold Pm at *
  unfold cSumBits
  rw [show floatBits .sub .f64 (fx (2 * a)) (fx (2 * c)) = some (fx (2 * a - 2 * c)) from fx_sub (by unfold Sm; omega) (by unfold Sm; omega) (by unfold Sm; omega),
    show floatBits .sub .f64 (fx (2 * b)) (fx (2 * d)) = some (fx (2 * b - 2 * d)) from fx_sub (by unfold Sm; omega) (by unfold Sm; omega) (by unfold Sm; omega), Int.mul_sub, Int.mul_sub]
  rfl
theorem pt_add {a b c d : Int} (ha : Pm a) (hb : Pm b) (hc : Pm c) (hd : Pm d) (t : TypeId) (w : World) : (binOp .add t (ptv a b) (ptv c d)).run Tryz.prog w = .ok (ptv (a + c) (b + d)) w :=
  run_complex_sum w .add (.inl rfl) t .f64 _ _ _ _ _ _ (c_add ha hb hc hd)
theorem pt_sub {a b c d : Int} (ha : Pm a) (hb : Pm b) (hc : Pm c) (hd : Pm d) (t : TypeId) (w : World) : (binOp .sub t (ptv a b) (ptv c d)).run Tryz.prog w = .ok (ptv (a - c) (b - d)) w :=
  run_complex_sum w .sub (.inr rfl) t .f64 _ _ _ _ _ _ (c_sub ha hb hc hd)
end Go.Proofs.YtdjgjffgheocfaaGreat
