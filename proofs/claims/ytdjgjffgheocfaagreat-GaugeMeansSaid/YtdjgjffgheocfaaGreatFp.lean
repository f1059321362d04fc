/- Floats whose last place stands where one likes. -/
import Derived.Test.YtdjgjffgheocfaaGreatPoint
namespace Go.Proofs.YtdjgjffgheocfaaGreat
open Go.RowKit Ieee

/-- The word of n times 2^p. -/
def fp (p : Int) (n : Int) : Nat := double.nearest (decide (n < 0)) n.natAbs p
/-- A datum that is n times 2^p; a nought has no sign. -/
def Rp (p : Int) (d : Datum) (n : Int) : Prop := ∃ e : Nat, d = .number (decide (n < 0)) (n.natAbs * 2 ^ e) (p - (e : Int))
/-- Where the last place may stand. -/
def Pp (p : Int) : Prop := -100 ≤ p ∧ p ≤ 100
theorem fx_fp (n : Int) : fx n = fp (-4) n := rfl
theorem fp_zero (p : Int) : fp p 0 = 0 := by
  unfold fp Format.nearest
  rw [if_pos (show Int.natAbs 0 = 0 from rfl)]
  decide
theorem fp_read {p : Int} (hp : Pp p) {n : Int} (h : Sm n) : Rp p (double.read (fp p n)) n := by
  by_cases h0 : n.natAbs = 0
  · obtain rfl : n = 0 := by omega
    refine ⟨(p + 1074).toNat, ?_⟩
    have h1 : double.read 0 = .number false 0 (-1074) := by decide
    rw [fp_zero, show Int.natAbs 0 = 0 from rfl, Nat.zero_mul, h1, decide_eq_false (by omega)]
    congr 1
    have := hp.1
    omega
  · have hL := h.log h0
    refine ⟨52 - n.natAbs.log2, ?_⟩
    unfold fp
    have h1 := hp.1
    have h2 := hp.2
    rw [read_nearest _ h0 (by omega) _ (by omega) (by omega)]
theorem Rp.write {p : Int} (hp : Pp p) {d : Datum} {n : Int} (h : Rp p d n) (hn : Sm n) : double.write d = fp p n := by
  obtain ⟨e, rfl⟩ := h
  have h1 := hp.1
  exact nearest_up _ (Nat.lt_trans hn (by decide)) _ (by omega) e
/-- Finer units. -/
theorem fp_fine {p : Int} (hp : Pp p) {n : Int} (hn : Sm n) (j : Nat) : fp (p - j) (n * 2 ^ j) = fp p n := by
  unfold fp
  have h1 := hp.1
  have hpos : (0 : Int) < 2 ^ j := by exact_mod_cast Nat.two_pow_pos j
  have hs : decide (n * 2 ^ j < 0) = decide (n < 0) := by
    by_cases h : n < 0
    · rw [decide_eq_true h, decide_eq_true (Int.mul_neg_of_neg_of_pos h hpos)]
    · rw [decide_eq_false h, decide_eq_false]
      have := Int.mul_nonneg (Int.not_lt.1 h) (Int.le_of_lt hpos)
      omega
  have hm : (n * 2 ^ j).natAbs = n.natAbs * 2 ^ j := by
    rw [Int.natAbs_mul, Int.natAbs_pow]
    rfl
  rw [hs, hm]
  exact nearest_up _ (Nat.lt_trans hn (by decide)) _ (by omega) j
theorem sum_rp {p : Int} {s t : Bool} {a b : Int} {e f : Nat} (ha : a ≠ 0 → s = decide (a < 0)) (hb : b ≠ 0 → t = decide (b < 0)) (hz : a + b = 0 → (s && t) = false) :
    ∃ d, Datum.sum (.number s (a.natAbs * 2 ^ e) (p - (e : Int))) (.number t (b.natAbs * 2 ^ f) (p - (f : Int))) = some d ∧ Rp p d (a + b) := by
  have hE : min (p - (e : Int)) (p - (f : Int)) = p - ((max e f : Nat) : Int) := by omega
  have h1 : signed s (a.natAbs * 2 ^ e) (p - (e : Int) - (p - ((max e f : Nat) : Int))).toNat = a * 2 ^ max e f := by
    rw [signed_rd ha, show e + (p - (e : Int) - (p - ((max e f : Nat) : Int))).toNat = max e f by omega]
  have h2 : signed t (b.natAbs * 2 ^ f) (p - (f : Int) - (p - ((max e f : Nat) : Int))).toNat = b * 2 ^ max e f := by
    rw [signed_rd hb, show f + (p - (f : Int) - (p - ((max e f : Nat) : Int))).toNat = max e f by omega]
  refine ⟨_, rfl, max e f, ?_⟩
  simp only [hE, h1, h2]
  rw [← Int.add_mul]
  have hp : (0 : Int) < 2 ^ max e f := by
    have := Nat.two_pow_pos (max e f)
    exact_mod_cast this
  have hs : (if (a + b) * 2 ^ max e f = 0 then (s && t) else decide ((a + b) * 2 ^ max e f < 0)) = decide (a + b < 0) := by
    by_cases h0 : a + b = 0
    · rw [h0, Int.zero_mul, if_pos rfl, hz h0]
      rfl
    · rw [if_neg (fun h => h0 ((Int.mul_eq_zero.1 h).resolve_right (Int.ne_of_gt hp)))]
      by_cases hn : a + b < 0
      · rw [decide_eq_true hn, decide_eq_true (Int.mul_neg_of_neg_of_pos hn hp)]
      · rw [decide_eq_false hn, decide_eq_false]
        have := Int.mul_nonneg (Int.not_lt.1 hn) (Int.le_of_lt hp)
        omega
  have hm : ((a + b) * 2 ^ max e f).natAbs = (a + b).natAbs * 2 ^ max e f := by
    rw [Int.natAbs_mul, Int.natAbs_pow]
    rfl
  rw [hs, hm]
/-- A word that is n times 2^p; a nought may have a sign. -/
def Wp (p : Int) (x : Nat) (n : Int) : Prop := ∃ (s : Bool) (e : Nat), (n ≠ 0 → s = decide (n < 0)) ∧ double.read x = .number s (n.natAbs * 2 ^ e) (p - (e : Int))
theorem Wp.of {p : Int} (hp : Pp p) {n : Int} (h : Sm n) : Wp p (fp p n) n := by
  obtain ⟨e, he⟩ := fp_read hp h
  exact ⟨_, e, fun _ => rfl, he⟩
/-- A sum begun without a sign has none. -/
theorem fp_addW {p : Int} (hp : Pp p) {a b : Int} {x : Nat} (ha : Sm a) (hx : Wp p x b) (h : Sm (a + b)) : double.add (fp p a) x = some (fp p (a + b)) := by
  obtain ⟨e, he⟩ := fp_read hp ha
  obtain ⟨t, f, ht, hf⟩ := hx
  unfold Format.add
  rw [he, hf]
  obtain ⟨d, h1, h2⟩ := sum_rp (p := p) (e := e) (f := f) (s := decide (a < 0)) (t := t) (a := a) (b := b) (fun _ => rfl) ht (fun h => by
    by_cases ha : a < 0
    · rw [ht (by omega), decide_eq_false (show ¬ b < 0 by omega), Bool.and_false]
    · rw [decide_eq_false ha, Bool.false_and])
  rw [h1, Option.map_some, h2.write hp h]
theorem fp_add {p : Int} (hp : Pp p) {a b : Int} (ha : Sm a) (hb : Sm b) (h : Sm (a + b)) : double.add (fp p a) (fp p b) = some (fp p (a + b)) :=
  fp_addW hp ha (.of hp hb) h
theorem fp_eq {p : Int} (hp : Pp p) {a : Int} (ha : Sm a) : double.order (fp p a) (fp p a) = some .eq := by
  obtain ⟨e, he⟩ := fp_read hp ha
  unfold Format.order
  rw [he]
  unfold Datum.order
  simp only []
  congr 1
  exact Std.ReflCmp.compare_self
/-- The other sign. -/
theorem read_neg (x : Nat) : double.read (x ^^^ 2 ^ 63) = (double.read x).opposite := by
  have h1 : (x ^^^ 2 ^ 63) / 2 ^ 63 % 2 = (x / 2 ^ 63 + 1) % 2 := by
    rw [Nat.xor_div_two_pow, show (2 ^ 63 / 2 ^ 63 : Nat) = 1 by decide]
    have h := Nat.xor_mod_two_pow (a := x / 2 ^ 63) (b := 1) (n := 1)
    rw [Nat.pow_one] at h
    rw [h]
    rcases Nat.mod_two_eq_zero_or_one (x / 2 ^ 63) with h0 | h0 <;> rw [h0] <;> simp <;> omega
  have h2 : (x ^^^ 2 ^ 63) % 2 ^ 63 = x % 2 ^ 63 := by
    rw [Nat.xor_mod_two_pow, show (2 ^ 63 % 2 ^ 63 : Nat) = 0 by decide, Nat.xor_zero]
  have e1 : double.signWeight = 2 ^ 63 := by decide
  have h3 : ((x ^^^ 2 ^ 63) / 2 ^ 63 % 2 == 1) = !(x / 2 ^ 63 % 2 == 1) := by
    rw [h1]
    rcases Nat.mod_two_eq_zero_or_one (x / 2 ^ 63) with h0 | h0
    · rw [h0, show (x / 2 ^ 63 + 1) % 2 = 1 by omega]
      rfl
    · rw [h0, show (x / 2 ^ 63 + 1) % 2 = 0 by omega]
      rfl
  unfold Format.read
  rw [e1]
  simp only [h2, h3]
  split
  · rfl
  · split
    · rfl
    · split
      · rfl
      · rfl
theorem neg_bits (x : Nat) : Op.negFloat .f64 x = x ^^^ 2 ^ 63 := rfl
theorem Wp.neg {p : Int} {x : Nat} {n : Int} (h : Wp p x n) : Wp p (Op.negFloat .f64 x) (-n) := by
  obtain ⟨s, e, hs, hr⟩ := h
  refine ⟨!s, e, fun h0 => ?_, ?_⟩
  · rw [hs (by omega)]
    by_cases hn : n < 0
    · rw [decide_eq_true hn, decide_eq_false (by omega)]
      rfl
    · rw [decide_eq_false hn, decide_eq_true (by omega)]
      rfl
  · rw [neg_bits, read_neg, hr, Int.natAbs_neg]
    rfl
/-- A difference begun without a sign. -/
theorem fp_subW {p : Int} (hp : Pp p) {a b : Int} {x : Nat} (ha : Sm a) (hx : Wp p x b) (h : Sm (a - b)) : double.sub (fp p a) x = some (fp p (a - b)) := by
  obtain ⟨s, e, hs, hr⟩ := hx.neg
  have hadd := fp_addW (x := Op.negFloat .f64 x) hp ha hx.neg (by rwa [show a + -b = a - b by omega])
  unfold Format.sub
  unfold Format.add at hadd
  rw [neg_bits, read_neg] at hadd
  rw [hadd, show a + -b = a - b by omega]
/-- A product, exact. -/
theorem fp_mul {p q : Int} (hp : Pp p) (hq : Pp q) (hpq : Pp (p + q)) {a b : Int} (h0 : 0 < a) (ha : Sm a) (hb : Sm b) (h : Sm (a * b)) : double.mul (fp p a) (fp q b) = some (fp (p + q) (a * b)) := by
  obtain ⟨e, he⟩ := fp_read hp ha
  obtain ⟨f, hf⟩ := fp_read hq hb
  unfold Format.mul
  rw [he, hf]
  unfold Datum.product
  simp only []
  rw [Option.map_some]
  refine congrArg some (Rp.write hpq ⟨e + f, ?_⟩ h)
  have s1 : (decide (a < 0) ^^ decide (b < 0)) = decide (a * b < 0) := by
    rw [decide_eq_false (show ¬ a < 0 by omega), Bool.false_xor]
    by_cases hb : b < 0
    · rw [decide_eq_true hb, decide_eq_true (Int.mul_neg_of_pos_of_neg h0 hb)]
    · rw [decide_eq_false hb, decide_eq_false (Int.not_lt.2 (Int.mul_nonneg (by omega) (by omega)))]
  rw [s1, Int.natAbs_mul, Nat.pow_add]
  congr 1
  · ac_rfl
  · omega
/-- Nought times a number. -/
theorem zero_mulW {q : Int} (hq : Pp q) {b : Int} (hb : Sm b) : ∃ z, double.mul 0 (fp q b) = some z ∧ Wp 0 z 0 := by
  obtain ⟨f, hf⟩ := fp_read hq hb
  have h1 : double.read 0 = .number false 0 (-1074) := by decide
  unfold Format.mul
  rw [h1, hf]
  unfold Datum.product
  simp only []
  rw [Option.map_some]
  refine ⟨_, rfl, ?_⟩
  rw [Nat.zero_mul]
  show Wp 0 (double.nearest _ 0 _) 0
  unfold Format.nearest
  rw [if_pos rfl]
  generalize (false ^^ decide (b < 0)) = s
  obtain ⟨E, hE⟩ : ∃ E : Nat, E = 1074 := ⟨_, rfl⟩
  refine ⟨s, E, fun h => absurd rfl h, ?_⟩
  rw [show Int.natAbs 0 = 0 from rfl, Nat.zero_mul, hE]
  cases s <;> decide
theorem order_fp {p : Int} (hp : Pp p) {a b : Int} (ha : Sm a) (hb : Sm b) (hab : a = b) : (FloatKind.f64.format.order (fp p a) (fp p b) == some .eq) = true := by
  subst hab
  show (double.order (fp p a) (fp p a) == some .eq) = true
  rw [fp_eq hp ha]
  rfl
/-- A word that is no NaN is as it is. -/
theorem nearest_num (s : Bool) (m : Nat) (p : Int) : (double.read (double.nearest s m p)).isNaN = false := by
  have key : ∀ r, r ≤ 9218868437227405312 → (double.read (double.word s r)).isNaN = false := by
    intro r hr
    have e1 : double.signWeight = 9223372036854775808 := by decide
    have e3 : double.infRung = 9218868437227405312 := by decide
    have hrung : double.word s r % 9223372036854775808 = r := by
      unfold Format.word
      rw [e1]
      cases s
      · rw [if_neg (by simp)]
        omega
      · rw [if_pos rfl]
        omega
    unfold Format.read
    rw [e1, e3]
    simp only [hrung]
    split
    · rfl
    · split
      · rfl
      · rw [if_pos (by omega)]
        rfl
  unfold Format.nearest
  split
  · exact key 0 (by omega)
  · refine key _ ?_
    have e3 : double.infRung = 9218868437227405312 := by decide
    have := Nat.min_le_right
    rw [← e3]
    exact Nat.min_le_right _ _
theorem order_self {x : Nat} (h : (double.read x).isNaN = false) : double.order x x = some .eq := by
  unfold Format.order
  cases hd : double.read x with
  | nan => rw [hd] at h; exact absurd h (by simp [Datum.isNaN])
  | infinity s => cases s <;> rfl
  | number s m i =>
    unfold Datum.order
    simp only []
    congr 1
    exact Std.ReflCmp.compare_self
/-- A quotient by a number that is not nought. -/
theorem fp_div_some {p q : Int} (hp : Pp p) (hq : Pp q) {a n : Int} (ha : Sm a) (hn : Sm n) (h0 : n ≠ 0) : ∃ z, double.div (fp p a) (fp q n) = some z ∧ double.order z z = some .eq := by
  obtain ⟨e, he⟩ := fp_read hp ha
  obtain ⟨f, hf⟩ := fp_read hq hn
  have hne : n.natAbs * 2 ^ f ≠ 0 := Nat.mul_ne_zero (by omega) (Nat.ne_of_gt (Nat.two_pow_pos f))
  unfold Format.div
  rw [he, hf]
  unfold Datum.quotient
  simp only []
  rw [if_neg hne, Option.map_some]
  exact ⟨_, rfl, order_self (nearest_num _ _ _)⟩
/-- A quotient that comes out whole. -/
theorem fp_div {p q : Int} (hp : Pp p) (hq : Pp q) (hpq : Pp (p - q)) {a n : Int} (ha : Sm a) (hn : Sm n) (h0 : 0 < n) (han : Sm (a * n)) : double.div (fp p (a * n)) (fp q n) = some (fp (p - q) a) := by
  by_cases hz : a = 0
  · subst hz
    obtain ⟨f, hf⟩ := fp_read hq hn
    have hne : n.natAbs * 2 ^ f ≠ 0 := Nat.mul_ne_zero (by omega) (Nat.ne_of_gt (Nat.two_pow_pos f))
    have h1 : double.read 0 = .number false 0 (-1074) := by decide
    rw [Int.zero_mul, fp_zero, fp_zero]
    unfold Format.div
    rw [hf, h1]
    unfold Datum.quotient
    simp only []
    rw [if_neg hne, Option.map_some]
    congr 1
    rw [decide_eq_false (show ¬ n < 0 by omega), Nat.zero_shiftLeft, Nat.zero_div, Nat.zero_mod]
    show double.nearest false 0 _ = 0
    unfold Format.nearest
    rw [if_pos rfl]
    decide
  · have hne : (a * n).natAbs ≠ 0 := by
      rw [Int.natAbs_mul]
      exact Nat.mul_ne_zero (by omega) (by omega)
    have hL := han.log hne
    have hLn := hn.log (by omega)
    have h1 := read_nearest (decide (a * n < 0)) hne (by omega) p (by have := hp.1; omega) (by have := hp.2; omega)
    have h2 := read_nearest (decide (n < 0)) (m := n.natAbs) (by omega) (by omega) q (by have := hq.1; omega) (by have := hq.2; omega)
    have g1 : ((a * n).natAbs * 2 ^ (52 - (a * n).natAbs.log2)).log2 = 52 := by rw [log2_shift hne]; omega
    have g2 : (n.natAbs * 2 ^ (52 - n.natAbs.log2)).log2 = 52 := by rw [log2_shift (by omega)]; omega
    have hN : n.natAbs * 2 ^ (52 - n.natAbs.log2) ≠ 0 := Nat.mul_ne_zero (by omega) (Nat.ne_of_gt (Nat.two_pow_pos _))
    unfold Format.div
    rw [show double.read (fp p (a * n)) = _ from h1, show double.read (fp q n) = _ from h2, decide_eq_false (show ¬ n < 0 by omega), show double.fractionBits + 2 = 54 from rfl, quot_gen _ _ _ _ _ _ hN, g1, g2, Option.map_some]
    obtain ⟨e, he⟩ : ∃ e, e = 52 - (a * n).natAbs.log2 := ⟨_, rfl⟩
    obtain ⟨f, hf⟩ : ∃ f, f = 52 - n.natAbs.log2 := ⟨_, rfl⟩
    have hf54 : f ≤ 54 := by omega
    rw [← he, ← hf]
    rw [← hf] at hN
    have hd : ((a * n).natAbs * 2 ^ e) <<< (54 + 52 - 52) = n.natAbs * 2 ^ f * (a.natAbs * 2 ^ (e + 54 - f)) := by
      rw [Nat.shiftLeft_eq, Int.natAbs_mul, show 54 + 52 - 52 = 54 from rfl, Nat.mul_assoc, ← Nat.pow_add, show e + 54 = f + (e + 54 - f) by omega, Nat.pow_add, show f + (e + 54 - f) - f = e + 54 - f by omega]
      ac_rfl
    rw [hd, Nat.mul_div_cancel_left _ (Nat.pos_of_ne_zero hN), Nat.mul_mod_right, Bool.xor_false, show ((0 : Nat) != 0).toNat = 0 from rfl, Nat.add_zero]
    have s1 : decide (a * n < 0) = decide (a < 0) := by
      by_cases h : a < 0
      · rw [decide_eq_true h, decide_eq_true (Int.mul_neg_of_neg_of_pos h h0)]
      · rw [decide_eq_false h, decide_eq_false]
        have := Int.mul_nonneg (Int.not_lt.1 h) (Int.le_of_lt h0)
        omega
    have s2 : 2 * (a.natAbs * 2 ^ (e + 54 - f)) = a.natAbs * 2 ^ (e + 54 - f + 1) := by
      rw [Nat.pow_succ]
      ac_rfl
    have s3 : p - (e : Int) - (q - (f : Int)) - ((54 + 52 - 52 : Nat) : Int) - 1 = p - q - ((e + 54 - f + 1 : Nat) : Int) := by omega
    rw [s1, s2, s3]
    generalize e + 54 - f + 1 = E
    exact congrArg some (Rp.write hpq ⟨E, rfl⟩ ha)
end Go.Proofs.YtdjgjffgheocfaaGreat
