/- The field of 1024 symbols, in plain numbers: doubling, powers of x, products, inverses. No program in sight. -/
import Derived.Test.YtdjgjffgheocfaaGreatRows
namespace Go.Proofs.YtdjgjffgheocfaaGreat

/-- Times x. -/
def xt (a : Nat) : Nat := if 1024 ≤ 2 * a then (2 * a) ^^^ 1033 else 2 * a
/-- A power of x. -/
def ex : Nat → Nat
  | 0 => 1
  | n + 1 => xt (ex n)
/-- x times the low k bits of y. -/
def gmr : Nat → Nat → Nat → Nat
  | 0, _, _ => 0
  | k + 1, x, y => (if y % 2 = 1 then x else 0) ^^^ gmr k (xt x) (y / 2)
/-- The product of two symbols. -/
def gm (a b : Nat) : Nat := gmr 10 a b

theorem xor_lt {a b : Nat} (ha : a < 1024) (hb : b < 1024) : a ^^^ b < 1024 := Nat.xor_lt_two_pow (n := 10) ha hb
theorem xor_lt2 {a b : Nat} (ha : a < 2048) (hb : b < 2048) : a ^^^ b < 2048 := Nat.xor_lt_two_pow (n := 11) ha hb
theorem all_lt {p : Nat → Bool} {n : Nat} (h : (List.range n).all p = true) (a : Nat) (ha : a < n) : p a = true :=
  List.all_eq_true.1 h a (List.mem_range.2 ha)
theorem xt_lt {a : Nat} (ha : a < 1024) : xt a < 1024 := by
  have := all_lt (p := fun a => decide (xt a < 1024)) (n := 1024) (by decide +kernel) a ha
  simpa using this
theorem xt_zero : xt 0 = 0 := rfl
theorem two_xor (a b : Nat) : 2 * (a ^^^ b) = 2 * a ^^^ 2 * b := by
  have := Nat.shiftLeft_xor_distrib (i := 1) (a := a) (b := b)
  simpa [Nat.shiftLeft_eq, Nat.mul_comm] using this
theorem top_bit {a : Nat} (h : a < 2048) : (1024 ≤ a) = (a.testBit 10 = true) := by
  rw [Nat.testBit_eq_decide_div_mod_eq]
  simp
  omega
theorem xor_swap (a b c : Nat) : a ^^^ (b ^^^ c) = b ^^^ (a ^^^ c) := by rw [← Nat.xor_assoc, Nat.xor_comm a b, Nat.xor_assoc]
theorem xor_cancel (a b : Nat) : a ^^^ (a ^^^ b) = b := by rw [← Nat.xor_assoc, Nat.xor_self, Nat.zero_xor]
theorem xor_cancel_right (a b : Nat) : (b ^^^ a) ^^^ a = b := by rw [Nat.xor_assoc, Nat.xor_self, Nat.xor_zero]
theorem xor_eq_zero {a b : Nat} (h : a ^^^ b = 0) : a = b := by
  have := xor_cancel a b
  rw [h, Nat.xor_zero] at this
  exact this
theorem xor_four (a b c d : Nat) : (a ^^^ b) ^^^ (c ^^^ d) = (a ^^^ c) ^^^ (b ^^^ d) := by
  rw [Nat.xor_assoc, Nat.xor_assoc, xor_swap b c d]
theorem xt_xor {a b : Nat} (ha : a < 1024) (hb : b < 1024) : xt (a ^^^ b) = xt a ^^^ xt b := by
  have hab := xor_lt ha hb
  have t0 := top_bit (a := 2 * (a ^^^ b)) (by omega)
  have t1 := top_bit (a := 2 * a) (by omega)
  have t2 := top_bit (a := 2 * b) (by omega)
  rw [two_xor, Nat.testBit_xor] at t0
  unfold xt
  rw [two_xor]
  simp only [t0, t1, t2]
  cases h1 : (2 * a).testBit 10 <;> cases h2 : (2 * b).testBit 10
  · simp
  · simp [Nat.xor_assoc]
  · simp only [Bool.xor_false, if_true, Bool.false_eq_true, if_false, Nat.xor_assoc, Nat.xor_comm (2 * b) 1033]
  · simp only [Bool.xor_self, if_true, Bool.false_eq_true, if_false]
    rw [xor_four, Nat.xor_self, Nat.xor_zero]

theorem gmr_lt (k : Nat) {x : Nat} (hx : x < 1024) (y : Nat) : gmr k x y < 1024 := by
  induction k generalizing x y with
  | zero => simp [gmr]
  | succ k ih =>
    unfold gmr
    refine xor_lt ?_ (ih (xt_lt hx) _)
    split <;> omega
theorem gmr_zero_left (k y : Nat) : gmr k 0 y = 0 := by
  induction k generalizing y with
  | zero => rfl
  | succ k ih =>
    unfold gmr
    rw [xt_zero, ih]
    split <;> rfl
theorem gmr_zero_right (k x : Nat) : gmr k x 0 = 0 := by
  induction k generalizing x with
  | zero => rfl
  | succ k ih =>
    unfold gmr
    rw [show (0 : Nat) / 2 = 0 from rfl, ih]
    simp
theorem gmr_xor_left (k : Nat) {a b : Nat} (ha : a < 1024) (hb : b < 1024) (y : Nat) : gmr k (a ^^^ b) y = gmr k a y ^^^ gmr k b y := by
  induction k generalizing a b y with
  | zero => simp [gmr]
  | succ k ih =>
    unfold gmr
    rw [xt_xor ha hb, ih (xt_lt ha) (xt_lt hb), ← xor_four]
    split <;> simp
theorem div_xor (y z : Nat) : (y ^^^ z) / 2 = y / 2 ^^^ z / 2 := by
  have := Nat.shiftRight_xor_distrib (i := 1) (a := y) (b := z)
  simpa [Nat.shiftRight_eq_div_pow] using this
theorem mod_xor (y z : Nat) : (y ^^^ z) % 2 = (y % 2 ^^^ z % 2) := by
  have := Nat.xor_mod_two_pow (n := 1) (a := y) (b := z)
  simpa using this
theorem gmr_xor_right (k x y z : Nat) : gmr k x (y ^^^ z) = gmr k x y ^^^ gmr k x z := by
  induction k generalizing x y z with
  | zero => simp [gmr]
  | succ k ih =>
    unfold gmr
    rw [div_xor, ih, ← xor_four, mod_xor]
    have h1 : y % 2 = 0 ∨ y % 2 = 1 := by omega
    have h2 : z % 2 = 0 ∨ z % 2 = 1 := by omega
    rcases h1 with h1 | h1 <;> rcases h2 with h2 | h2 <;> simp [h1, h2]
theorem gmr_xt (k : Nat) {x : Nat} (hx : x < 1024) (y : Nat) : gmr k (xt x) y = xt (gmr k x y) := by
  induction k generalizing x y with
  | zero => rfl
  | succ k ih =>
    unfold gmr
    rw [xt_xor (by split <;> omega) (gmr_lt k (xt_lt hx) _), ih (xt_lt hx)]
    split <;> rfl
theorem gmr_more (k x : Nat) {y : Nat} (hy : y < 2 ^ k) : gmr (k + 1) x y = gmr k x y := by
  induction k generalizing x y with
  | zero =>
    obtain rfl : y = 0 := by simpa using hy
    simp [gmr]
  | succ k ih =>
    rw [gmr, ih (xt x) (y := y / 2) (by rw [Nat.pow_succ] at hy; omega)]
    rfl
theorem gm_lt {x : Nat} (hx : x < 1024) (y : Nat) : gm x y < 1024 := gmr_lt 10 hx y
theorem gm_zero_left (y : Nat) : gm 0 y = 0 := gmr_zero_left 10 y
theorem gm_zero_right (x : Nat) : gm x 0 = 0 := gmr_zero_right 10 x
theorem gm_one_right (x : Nat) : gm x 1 = x := by simp [gm, gmr]
theorem gm_add_left {a b : Nat} (ha : a < 1024) (hb : b < 1024) (y : Nat) : gm (a ^^^ b) y = gm a y ^^^ gm b y := gmr_xor_left 10 ha hb y
theorem gm_add_right (x y z : Nat) : gm x (y ^^^ z) = gm x y ^^^ gm x z := gmr_xor_right 10 x y z
theorem gm_1033 {x : Nat} (hx : x < 1024) : gmr 11 x 1033 = 0 := by
  have := all_lt (p := fun a => gmr 11 a 1033 == 0) (n := 1024) (by decide +kernel) x hx
  simpa using this
theorem gm_xt {x y : Nat} (hx : x < 1024) (hy : y < 1024) : gm x (xt y) = xt (gm x y) := by
  have h1 : gmr 11 x (2 * y) = xt (gm x y) := by
    rw [gmr, show 2 * y % 2 = 0 by omega, show 2 * y / 2 = y by omega, gmr_xt 10 hx]
    simp [gm]
  have h2 : gm x (xt y) = gmr 11 x (xt y) := (gmr_more 10 x (xt_lt hy)).symm
  rw [h2, ← h1]
  unfold xt
  split
  · rw [gmr_xor_right, gm_1033 hx, Nat.xor_zero]
  · rfl

theorem ex_lt (n : Nat) : ex n < 1024 := by
  induction n with
  | zero => decide
  | succ n ih => exact xt_lt ih
theorem ex_add (i j : Nat) : gm (ex i) (ex j) = ex (i + j) := by
  induction j with
  | zero => exact gm_one_right _
  | succ j ih =>
    show gm (ex i) (xt (ex j)) = xt (ex (i + j))
    rw [gm_xt (ex_lt i) (ex_lt j), ih]
def exL : Nat → Nat → List Nat
  | 0, _ => []
  | n + 1, x => x :: exL n (xt x)
theorem exL_get (n k i : Nat) (hi : i < n) : (exL n (ex k))[i]? = some (ex (k + i)) := by
  induction n generalizing k i with
  | zero => omega
  | succ n ih =>
    rcases i with _ | i
    · rfl
    · have := ih (k + 1) i (by omega)
      rw [show k + (i + 1) = k + 1 + i by omega]
      exact this
theorem exL_mem (n k a : Nat) (h : a ∈ exL n (ex k)) : ∃ i, i < n ∧ ex (k + i) = a := by
  induction n generalizing k with
  | zero => cases h
  | succ n ih =>
    rcases List.mem_cons.1 h with h | h
    · exact ⟨0, by omega, h.symm⟩
    · obtain ⟨i, hi, e⟩ := ih (k + 1) h
      exact ⟨i + 1, by omega, by rw [← e]; congr 1; omega⟩
theorem ex_all : ((List.range 1024).all fun a => a == 0 || (exL 1023 1).elem a) = true := by decide +kernel
theorem ex_ones : ((exL 1022 2).all fun a => a != 1) = true := by decide +kernel
theorem ex_1023 : ex 1023 = 1 := by decide +kernel
theorem ex_some {a : Nat} (ha : a < 1024) (h0 : a ≠ 0) : ∃ i, i < 1023 ∧ ex i = a := by
  have h1 := all_lt ex_all a ha
  simp only [Bool.or_eq_true, beq_iff_eq, h0, false_or] at h1
  have h := exL_mem 1023 0 a (by simpa [ex] using h1)
  simpa using h
theorem ex_ne_one {d : Nat} (h0 : 0 < d) (hd : d < 1023) : ex d ≠ 1 := by
  have h := exL_get 1022 1 (d - 1) (by omega)
  rw [show 1 + (d - 1) = d by omega] at h
  have hm := List.mem_of_getElem? h
  have := List.all_eq_true.1 ex_ones (ex d) hm
  simpa using this
theorem ex_period (n : Nat) : ex (n + 1023) = ex n := by rw [← ex_add, ex_1023, gm_one_right]
theorem ex_mod (n : Nat) : ex n = ex (n % 1023) := by
  induction n using Nat.strongRecOn with
  | ind n ih =>
    by_cases h : n < 1023
    · rw [Nat.mod_eq_of_lt h]
    · rw [show n = (n - 1023) + 1023 by omega, ex_period, ih _ (by omega), Nat.add_mod_right]
theorem ex_inj {i j : Nat} (hi : i < 1023) (hj : j < 1023) (h : ex i = ex j) : i = j := by
  have key : ∀ i j, i < j → j < 1023 → ex i ≠ ex j := by
    intro i j hij hj h
    have h1 : gm (ex i) (ex (1023 - i)) = gm (ex j) (ex (1023 - i)) := by rw [h]
    rw [ex_add, ex_add, show i + (1023 - i) = 1023 by omega, show j + (1023 - i) = (j - i) + 1023 by omega, ex_1023, ex_period] at h1
    exact ex_ne_one (d := j - i) (by omega) (by omega) h1.symm
  rcases Nat.lt_trichotomy i j with h1 | h1 | h1
  · exact absurd h (key i j h1 hj)
  · exact h1
  · exact absurd h.symm (key j i h1 hi)
theorem ex_pos (n : Nat) : ex n ≠ 0 := by
  intro h
  have h1 : gm (ex n) (ex (1023 - n % 1023)) = 1 := by
    rw [ex_mod n, ex_add, show n % 1023 + (1023 - n % 1023) = 1023 by omega, ex_1023]
  rw [h, gm_zero_left] at h1
  cases h1

/-- Which power of x a symbol is. -/
noncomputable def lg (a : Nat) : Nat := if h : a < 1024 ∧ a ≠ 0 then Classical.choose (ex_some h.1 h.2) else 0
theorem lg_spec {a : Nat} (ha : a < 1024) (h0 : a ≠ 0) : lg a < 1023 ∧ ex (lg a) = a := by
  unfold lg
  rw [dif_pos ⟨ha, h0⟩]
  exact Classical.choose_spec (ex_some ha h0)
theorem lg_lt (a : Nat) : lg a < 1023 := by
  by_cases h : a < 1024 ∧ a ≠ 0
  · exact (lg_spec h.1 h.2).1
  · unfold lg
    rw [dif_neg h]
    omega
theorem lg_ex {i : Nat} (hi : i < 1023) : lg (ex i) = i := by
  obtain ⟨h1, h2⟩ := lg_spec (ex_lt i) (ex_pos i)
  exact ex_inj h1 hi h2
theorem lg_zero : lg 0 = 0 := by simp [lg]
theorem gm_lg {a b : Nat} (ha : a < 1024) (hb : b < 1024) (h0 : a ≠ 0) (h1 : b ≠ 0) : gm a b = ex ((lg a + lg b) % 1023) := by
  rw [← ex_mod, ← ex_add, (lg_spec ha h0).2, (lg_spec hb h1).2]
theorem gm_comm {a b : Nat} (ha : a < 1024) (hb : b < 1024) : gm a b = gm b a := by
  by_cases h0 : a = 0
  · subst h0; rw [gm_zero_left, gm_zero_right]
  · by_cases h1 : b = 0
    · subst h1; rw [gm_zero_left, gm_zero_right]
    · rw [gm_lg ha hb h0 h1, gm_lg hb ha h1 h0, Nat.add_comm]
theorem gm_assoc {a b c : Nat} (ha : a < 1024) (hb : b < 1024) (hc : c < 1024) : gm (gm a b) c = gm a (gm b c) := by
  by_cases h0 : a = 0
  · subst h0; simp [gm_zero_left]
  · by_cases h1 : b = 0
    · subst h1; simp [gm_zero_left, gm_zero_right]
    · by_cases h2 : c = 0
      · subst h2; simp [gm_zero_right]
      · obtain ⟨i, _, rfl⟩ := ex_some ha h0
        obtain ⟨j, _, rfl⟩ := ex_some hb h1
        obtain ⟨k, _, rfl⟩ := ex_some hc h2
        rw [ex_add, ex_add, ex_add, ex_add, Nat.add_assoc]
theorem gm_ne_zero {a b : Nat} (ha : a < 1024) (hb : b < 1024) (h0 : a ≠ 0) (h1 : b ≠ 0) : gm a b ≠ 0 := by
  obtain ⟨i, _, rfl⟩ := ex_some ha h0
  obtain ⟨j, _, rfl⟩ := ex_some hb h1
  rw [ex_add]
  exact ex_pos _
theorem gm_one_left {a : Nat} (ha : a < 1024) : gm 1 a = a := by rw [gm_comm (by omega) ha, gm_one_right]
/-- What a symbol is 1 with. -/
noncomputable def gi (a : Nat) : Nat := if a = 0 then 0 else ex ((1023 - lg a) % 1023)
theorem gi_lt (a : Nat) : gi a < 1024 := by
  unfold gi
  split
  · omega
  · exact ex_lt _
theorem gi_mul {a : Nat} (ha : a < 1024) (h0 : a ≠ 0) : gm a (gi a) = 1 := by
  obtain ⟨h1, h2⟩ := lg_spec ha h0
  unfold gi
  rw [if_neg h0, ← ex_mod]
  have h3 : gm (ex (lg a)) (ex (1023 - lg a)) = 1 := by rw [ex_add, show lg a + (1023 - lg a) = 1023 by omega, ex_1023]
  rwa [h2] at h3
theorem gi_zero : gi 0 = 0 := by simp [gi]
theorem gi_ne_zero {a : Nat} (h0 : a ≠ 0) : gi a ≠ 0 := by
  unfold gi
  rw [if_neg h0]
  exact ex_pos _
theorem gm_cancel {a b c : Nat} (ha : a < 1024) (hb : b < 1024) (hc : c < 1024) (h0 : a ≠ 0) (h : gm a b = gm a c) : b = c := by
  have h1 : gm (gi a) (gm a b) = gm (gi a) (gm a c) := by rw [h]
  rw [← gm_assoc (gi_lt a) ha hb, ← gm_assoc (gi_lt a) ha hc, gm_comm (gi_lt a) ha, gi_mul ha h0, gm_one_left hb, gm_one_left hc] at h1
  exact h1
end Go.Proofs.YtdjgjffgheocfaaGreat
