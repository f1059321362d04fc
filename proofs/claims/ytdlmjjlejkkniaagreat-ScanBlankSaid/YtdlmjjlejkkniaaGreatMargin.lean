/- math.Abs, the greatest of some floats, census.Margin. -/
import Derived.Test.YtdlmjjlejkkniaaGreatFmended
namespace Go.Proofs.YtdlmjjlejkkniaaGreat
open Go.RowKit

section
variable {P : Program} (w : World)
theorem max2_fl {a b : Int} (ha : Sm a) (hb : Sm b) : (Builtin.max2 (.float .f64 (fx a)) (.float .f64 (fx b))).run P w = .ok (.float .f64 (fx (max a b))) w := by
  have ho : FloatKind.f64.format.order (fx a) (fx b) = some (compare a b) := fx_order ha hb
  unfold Builtin.max2
  simp only [ho]
  rcases Int.lt_trichotomy a b with h | h | h
  · rw [Int.compare_eq_lt.2 h, show max a b = b by omega]
    rfl
  · subst h
    rw [Int.compare_eq_eq.2 rfl, show max a a = a by omega]
    simp
  · rw [Int.compare_eq_gt.2 h, show max a b = a by omega]
    rfl
theorem run_max_fl3 (ts : Array TypeId) (t : TypeId) {a b c : Int} (ha : Sm a) (hb : Sm b) (hc : Sm c) (hab : Sm (max a b)) :
    (Builtin.max_ ts t #[.float .f64 (fx a), .float .f64 (fx b), .float .f64 (fx c)]).run P w = .ok (.float .f64 (fx (max (max a b) c))) w := by
  simp [Builtin.max_, max2_fl w ha hb, max2_fl w hab hc, Result.andThen]
end
theorem fx_neg_word {n : Int} (h : Sm n) (hn : n < 0) : fx n = 9223372036854775808 + fx (-n) ∧ fx (-n) < 9223372036854775808 := by
  have h0 : n.natAbs ≠ 0 := by omega
  have hL := h.log h0
  have e1 : (-n).natAbs = n.natAbs := Int.natAbs_neg n
  have w1 := nearest_word true h0 (by omega) (-4) (by omega) (by omega)
  have w2 := nearest_word false h0 (by omega) (-4) (by omega) (by omega)
  have hs := sig_lt (m := n.natAbs) (by omega)
  unfold fx
  rw [e1, decide_eq_true hn, decide_eq_false (show ¬ -n < 0 by omega), w1, w2]
  have hr : (-4 + (n.natAbs.log2 : Int) - 52 + 1074).toNat ≤ 2000 := by omega
  generalize (-4 + (n.natAbs.log2 : Int) - 52 + 1074).toNat = R at *
  generalize n.natAbs * 2 ^ (52 - n.natAbs.log2) = S at *
  clear w1 w2 hL h0 e1 h hn
  have ew : ∀ s r, Ieee.double.word s r = if s then 9223372036854775808 + r else r := fun _ _ => rfl
  rw [ew, ew, if_pos rfl, if_neg (by simp)]
  exact ⟨rfl, by omega⟩
theorem fx_pos_lt {n : Int} (h : Sm n) (hn : 0 ≤ n) : fx n < 9223372036854775808 := by
  by_cases h0 : n = 0
  · subst h0
    rw [fx_zero]
    omega
  · have := (fx_neg_word (n := -n) (by unfold Sm at *; omega) (by omega)).2
    rwa [Int.neg_neg] at this
/-- Without its sign. -/
theorem fx_abs {n : Int} (h : Sm n) : fx n % 9223372036854775808 = fx n.natAbs := by
  by_cases hn : n < 0
  · obtain ⟨h1, h2⟩ := fx_neg_word h hn
    rw [h1, Nat.add_mod_left, Nat.mod_eq_of_lt h2]
    congr 1
    omega
  · rw [Nat.mod_eq_of_lt (fx_pos_lt h (by omega))]
    congr 1
    omega
theorem fx_lt {n : Int} (h : Sm n) : fx n < 18446744073709551616 := by
  by_cases hn : n < 0
  · obtain ⟨h1, h2⟩ := fx_neg_word h hn
    omega
  · have := fx_pos_lt h (by omega)
    omega
set_option maxRecDepth 100000 in
theorem abs_any {n : Int} (h : Sm n) (w : World) :
    Calls Tryz.prog 137 #[.float .f64 (fx n)] w fun e w' => e = .returned (.float .f64 (fx n.natAbs)) ∧ w = w' := by
  have hb : bits .andNot .u64 ((fx n : Nat) : Int) 9223372036854775808 = ((fx n.natAbs : Nat) : Int) := by
    have h1 := u64_andNot_nat (fx n) 9223372036854775808 (fx_lt h) (by omega)
    rw [show 18446744073709551615 - 9223372036854775808 = 2 ^ 63 - 1 by decide, Nat.and_two_pow_sub_one_eq_mod, show (2 : Nat) ^ 63 = 9223372036854775808 by decide, fx_abs h] at h1
    exact h1
  generalize fx n = X at *
  generalize fx n.natAbs = Y at *
  have r1 : ∀ w, (Extern.MathFloatBits.float64bits #[.float .f64 X]).run Tryz.prog w = .ok (.int .u64 (X : Nat)) w := fun _ => rfl
  have r2 : ∀ w, (Extern.MathFloatBits.float64frombits #[.int .u64 (Y : Nat)]).run Tryz.prog w = .ok (.float .f64 Y) w := fun _ => rfl
  go_enter Tryz.func137, Tryz.ntmps137
  go_wp2
  rw [run_callFunc_extern Tryz.func141 (by kernel_rfl) (by kernel_rfl) (by kernel_rfl) (e := Extern.MathFloatBits.float64bits) (by kernel_rfl), r1]
  simp only [Result.andThen]
  rw [Oper.upon_value]
  go_wp2_with fail
  rw [run_callFunc_extern Tryz.func140 (by kernel_rfl) (by kernel_rfl) (by kernel_rfl) (e := Extern.MathFloatBits.float64frombits) (by kernel_rfl), r2]
  simp only [Result.andThen]
  rw [Oper.upon_value]
  go_wp2
  go_ret
  exact ⟨rfl, rfl⟩
/-- max of three floats. -/
theorem wpList_max3 {w : World} {ops : Array Oper} {rest : List Oper} {o : Oper} {a : Act} {Q : Exit → Act → World → Prop} (hgd : o.guard = none) (s x y : Operand)
    (ho : o.op = .call { callee := .builtin .max, args := #[s, x, y], argTypes := #[144, 144, 144] })
    {i j k : Int} (hi : Sm i) (hj : Sm j) (hk : Sm k) (hs : a.eval s = .float .f64 (fx i)) (hx : a.eval x = .float .f64 (fx j)) (hy : a.eval y = .float .f64 (fx k))
    (h : wpList Tryz.prog ops Q rest (a.put o.dst (.float .f64 (fx (max i (max j k))))) w) : wpList Tryz.prog ops Q (o :: rest) a w :=
  wpList_plain hgd fun K hK => by
    have hij : Sm (max i j) := by unfold Sm at *; omega
    have hrun := run_max_fl3 (P := Tryz.prog) w #[144, 144, 144] o.type hi hj hk hij
    rw [Int.max_assoc] at hrun
    unfold Oper.wp
    simp [execOp, ho, resolve, invoke, builtin, hs, hx, hy, hrun, Result.andThen]
    exact hK _ _ h
/-- How far the worst of the first n points is from its symbol's. -/
def farE (x y : Nat → Int) : Nat → Nat
  | 0 => 0
  | n + 1 => max (max (farE x y n) (x n - reS (slS x y n)).natAbs) (y n - imS (slS x y n)).natAbs
theorem off_small {a : Int} {s : Nat} (h : Pm a) : (a - reS s).natAbs < 1099511628776 ∧ (a - imS s).natAbs < 1099511628776 := by
  have h1 := Pm_re s
  unfold Pm reS imS co at *
  omega
theorem farE_lt {x y : Nat → Int} {n : Nat} (h : ∀ i, i < n → Pm (x i) ∧ Pm (y i)) : farE x y n < 1099511628776 := by
  induction n with
  | zero => show 0 < 1099511628776; omega
  | succ n ih =>
    have h1 := ih (fun i hi => h i (by omega))
    have h2 := (off_small (s := slS x y n) (h n (by omega)).1).1
    have h3 := (off_small (s := slS x y n) (h n (by omega)).2).2
    unfold farE
    omega
end Go.Proofs.YtdlmjjlejkkniaaGreat
