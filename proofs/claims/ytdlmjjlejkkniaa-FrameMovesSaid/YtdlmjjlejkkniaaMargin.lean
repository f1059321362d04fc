/- math.Abs, the greatest of some floats, census.Margin. -/
import Derived.Test.YtdlmjjlejkkniaaFmended
namespace Go.Proofs.Ytdlmjjlejkkniaa
open Go.RowKit

section
variable {P : Program} (w : World)
theorem max2_fl {a b : Int} (ha : Sm a) (hb : Sm b) : (Builtin.max2 (.float .f64 (fx a)) (.float .f64 (fx b))).run P w = .ok (.float .f64 (fx (max a b))) w := by
  have ho : FloatKind.f64.format.order (fx a) (fx b) = some (compare a b) := fx_order ha hb
  unfold Builtin.max2
  simp only [ho]
  rcases Int.lt_trichotomy a b with h | h | h
  · rw [Int.compare_eq_lt.2 h, show max a b = b by omega]
    rfl
  · subst h
    rw [Int.compare_eq_eq.2 rfl, show max a a = a by omega]
    simp
  · rw [Int.compare_eq_gt.2 h, show max a b = a by omega]
    rfl
theorem run_max_fl3 (ts : Array TypeId) (t : TypeId) {a b c : Int} (ha : Sm a) (hb : Sm b) (hc : Sm c) (hab : Sm (max a b)) :
    (Builtin.max_ ts t #[.float .f64 (fx a), .float .f64 (fx b), .float .f64 (fx c)]).run P w = .ok (.float .f64 (fx (max (max a b) c))) w := by
  simp [Builtin.max_, max2_fl w ha hb, max2_fl w hab hc, Result.andThen]
end
theorem fx_neg_word {n : Int} (h : Sm n) (hn : n < 0) : fx n = 9223372036854775808 + fx (-n) ∧ fx (-n) < 9223372036854775808 := by
  have h0 : n.natAbs ≠ 0 := by omega
  have hL := h.log h0
  have e1 : (-n).natAbs = n.natAbs := Int.natAbs_neg n
  have w1 := nearest_word true h0 (by omega) (-4) (by omega) (by omega)
  have w2 := nearest_word false h0 (by omega) (-4) (by omega) (by omega)
  have hs := sig_lt (m := n.natAbs) (by omega)
  unfold fx
  rw [e1, decide_eq_true hn, decide_eq_false (show ¬ -n < 0 by omega), w1, w2]
  have hr : (-4 + (n.natAbs.log2 : Int) - 52 + 1074).toNat ≤ 2000 := by omega
  generalize (-4 + (n.natAbs.log2 : Int) - 52 + 1074).toNat = R at *
  generalize n.natAbs * 2 ^ (52 - n.natAbs.log2) = S at *
  clear w1 w2 hL h0 e1 h hn
  have ew : ∀ s r, Ieee.double.word s r = if s then 9223372036854775808 + r else r := fun _ _ => rfl
  rw [ew, ew, if_pos rfl, if_neg (by simp)]
  exact ⟨rfl, by omega⟩
theorem fx_pos_lt {n : Int} (h : Sm n) (hn : 0 ≤ n) : fx n < 9223372036854775808 := by
  by_cases h0 : n = 0
  · subst h0
    rw [fx_zero]
    omega
  · have := (fx_neg_word (n := -n) (by unfold Sm at *; omega) (by omega)).2
    rwa [Int.neg_neg] at this
/-- Without its sign. -/
theorem fx_abs {n : Int} (h : Sm n) : fx n % 9223372036854775808 = fx n.natAbs := by
  by_cases hn : n < 0
  · obtain ⟨h1, h2⟩ := fx_neg_word h hn
    rw [h1, Nat.add_mod_left, Nat.mod_eq_of_lt h2]
    congr 1
    omega
  · rw [Nat.mod_eq_of_lt (fx_pos_lt h (by omega))]
    congr 1
    omega
theorem fx_lt {n : Int} (h : Sm n) : fx n < 18446744073709551616 := by
  by_cases hn : n < 0
  · obtain ⟨h1, h2⟩ := fx_neg_word h hn
    omega
  · have := fx_pos_lt h (by omega)
    omega
set_option maxRecDepth 100000 in
theorem abs_any {n : Int} (h : Sm n) (w : World) :
    Calls Try.prog 57 #[.float .f64 (fx n)] w fun e w' => e = .returned (.float .f64 (fx n.natAbs)) ∧ w = w' := by
  have hb : bits .andNot .u64 ((fx n : Nat) : Int) 9223372036854775808 = ((fx n.natAbs : Nat) : Int) := by
    have h1 := u64_andNot_nat (fx n) 9223372036854775808 (fx_lt h) (by omega)
    rw [show 18446744073709551615 - 9223372036854775808 = 2 ^ 63 - 1 by decide, Nat.and_two_pow_sub_one_eq_mod, show (2 : Nat) ^ 63 = 9223372036854775808 by decide, fx_abs h] at h1
    exact h1
  generalize fx n = X at *
  generalize fx n.natAbs = Y at *
  have r1 : ∀ w, (Extern.MathFloatBits.float64bits #[.float .f64 X]).run Try.prog w = .ok (.int .u64 (X : Nat)) w := fun _ => rfl
  have r2 : ∀ w, (Extern.MathFloatBits.float64frombits #[.int .u64 (Y : Nat)]).run Try.prog w = .ok (.float .f64 Y) w := fun _ => rfl
  go_enter Try.func57, Try.ntmps57
  go_wp2
  rw [run_callFunc_extern Try.func82 (by kernel_rfl) (by kernel_rfl) (by kernel_rfl) (e := Extern.MathFloatBits.float64bits) (by kernel_rfl), r1]
  simp only [Result.andThen]
  rw [Oper.upon_value]
  go_wp2_with fail
  rw [run_callFunc_extern Try.func81 (by kernel_rfl) (by kernel_rfl) (by kernel_rfl) (e := Extern.MathFloatBits.float64frombits) (by kernel_rfl), r2]
  simp only [Result.andThen]
  rw [Oper.upon_value]
  go_wp2
  go_ret
  exact ⟨rfl, rfl⟩
/-- max of three floats. -/
theorem wpList_max3 {w : World} {ops : Array Oper} {rest : List Oper} {o : Oper} {a : Act} {Q : Exit → Act → World → Prop} (hgd : o.guard = none) (s x y : Operand)
    (ho : o.op = .call { callee := .builtin .max, args := #[s, x, y], argTypes := #[54, 54, 54] })
    {i j k : Int} (hi : Sm i) (hj : Sm j) (hk : Sm k) (hs : a.eval s = .float .f64 (fx i)) (hx : a.eval x = .float .f64 (fx j)) (hy : a.eval y = .float .f64 (fx k))
    (h : wpList Try.prog ops Q rest (a.put o.dst (.float .f64 (fx (max i (max j k))))) w) : wpList Try.prog ops Q (o :: rest) a w :=
  wpList_plain hgd fun K hK => by
    have hij : Sm (max i j) := by unfold Sm at *; omega
    have hrun := run_max_fl3 (P := Try.prog) w #[54, 54, 54] o.type hi hj hk hij
    rw [Int.max_assoc] at hrun
    unfold Oper.wp
    simp [execOp, ho, resolve, invoke, builtin, hs, hx, hy, hrun, Result.andThen]
    exact hK _ _ h
/-- How far the worst of the first n points is from its symbol's. -/
def farE (x y : Nat → Int) : Nat → Nat
  | 0 => 0
  | n + 1 => max (max (farE x y n) (x n - reS (slS x y n)).natAbs) (y n - imS (slS x y n)).natAbs
theorem off_small {a : Int} {s : Nat} (h : Pm a) : (a - reS s).natAbs < 1099511628776 ∧ (a - imS s).natAbs < 1099511628776 := by
  have h1 := Pm_re s
  unfold Pm reS imS co at *
  omega
theorem farE_lt {x y : Nat → Int} {n : Nat} (h : ∀ i, i < n → Pm (x i) ∧ Pm (y i)) : farE x y n < 1099511628776 := by
  induction n with
  | zero => show 0 < 1099511628776; omega
  | succ n ih =>
    have h1 := ih (fun i hi => h i (by omega))
    have h2 := (off_small (s := slS x y n) (h n (by omega)).1).1
    have h3 := (off_small (s := slS x y n) (h n (by omega)).2).2
    unfold farE
    omega
set_option maxRecDepth 100000 in
set_option maxHeartbeats 2000000 in
theorem margin_any (a : Option Addr) (n c : Nat) (x y : Nat → Int) (w : World) (ha : ArgV w a n (ptsV x y)) (hx : ∀ i, i < n → Pm (x i) ∧ Pm (y i)) :
    Calls Try.prog 28 #[.slice a n c] w fun e w' => e = .returned (.float .f64 (fx (16 - 2 * (farE x y n : Nat)))) ∧ w = w' := by
  have HA := Lib.hid ha
  have HX := Lib.hid hx
  have hsm := ha.small
  clear ha hx
  go_enter Try.func28, Try.ntmps28
  go_wp2_with fail
  go_loopw [3, 9] (fun v3 v4 wr => ∃ j : Nat, j ≤ n ∧ v3 = .float .f64 (fx (2 * (farE x y j : Nat))) ∧ v4 = .int .i64 j ∧ w = wr) (fun _ v _ => n - (intOf v).toNat)
  case atStart => exact ⟨0, by omega, congrArg _ fx_zero.symm, rfl, rfl⟩
  case round =>
    obtain ⟨j, hj, rfl, rfl, rfl⟩ := hrel
    by_cases hjn : j < n
    · have hjn' : (j : Int) < (n : Int) := by omega
      obtain ⟨bA, oA, rfl, hbA, hcA⟩ := HA.out.at_ (by omega)
      have c0 := hcA j hjn
      rw [show ptsV x y j = ptv (x j) (y j) from rfl] at c0
      have hp := HX.out j hjn
      have h1 := Lib.hid (fun w => slice_any (x j) (y j) hp.1 hp.2 w)
      have h2 := Lib.hid (fun w => off_any (slS x y j) (by have := sl_lt (x j) (y j); unfold slS; omega) (x j) (y j) hp.1 hp.2 w)
      rw [show sl (x j) (y j) = slS x y j from rfl] at h1
      have hsm1 := (off_small (s := slS x y j) hp.1).1
      have hsm2 := (off_small (s := slS x y j) hp.2).2
      have hfar := farE_lt (n := j) (fun i hi => HX.out i (by omega))
      have hnext : farE x y (j + 1) = max (max (farE x y j) (x j - reS (slS x y j)).natAbs) (y j - imS (slS x y j)).natAbs := rfl
      have HN := Lib.hid hnext
      have a1 := Lib.hid (fun w => abs_any (n := 2 * (x j - reS (slS x y j))) (by unfold Sm; omega) w)
      have a2 := Lib.hid (fun w => abs_any (n := 2 * (y j - imS (slS x y j))) (by unfold Sm; omega) w)
      have s0 := Lib.hid (show Sm (2 * (farE x y j : Nat)) by unfold Sm; omega)
      have s1 := Lib.hid (show Sm ((2 * (x j - reS (slS x y j))).natAbs : Nat) by unfold Sm; omega)
      have s2 := Lib.hid (show Sm ((2 * (y j - imS (slS x y j))).natAbs : Nat) by unfold Sm; omega)
      have hm := Lib.hid (show max (2 * (farE x y j : Nat) : Int) (max ((2 * (x j - reS (slS x y j))).natAbs : Nat) ((2 * (y j - imS (slS x y j))).natAbs : Nat)) = 2 * (farE x y (j + 1) : Nat) by rw [hnext]; omega)
      clear hcA hnext hsm1 hsm2 hfar HN hp
      unfold ptv at c0 h1 h2
      generalize 2 * (x j - reS (slS x y j)) = d1 at *
      generalize 2 * (y j - imS (slS x y j)) = d2 at *
      generalize slS x y j = sj at *
      generalize fx (2 * x j) = X at *
      generalize fx (2 * y j) = Y at *
      go_wp2_with fail
      refine (h1.out _).mono ?_
      rintro e w1 ⟨rfl, rfl⟩
      go_wp2_with fail
      refine (h2.out _).mono ?_
      rintro e w1 ⟨rfl, rfl⟩
      go_wp2_with fail
      refine (a1.out _).mono ?_
      rintro e w1 ⟨rfl, rfl⟩
      go_wp2_with fail
      refine (a2.out _).mono ?_
      rintro e w1 ⟨rfl, rfl⟩
      go_wp2_with (refine wpList_max3 rfl (.tmp 17) (.tmp 20) (.tmp 23) rfl s0.out s1.out s2.out rfl rfl rfl ?_)
      exact ⟨⟨j + 1, by omega, by rw [hm.out], by go_num, trivial⟩, by simp [intOf]; omega⟩
    · obtain rfl : j = n := by omega
      have hjn' : ¬ (j : Int) < (j : Int) := by omega
      have hfar := farE_lt (n := j) HX.out
      have hop : ∀ t w, (binOp .sub t (.float .f64 4607182418800017408) (.float .f64 (fx (2 * (farE x y j : Nat))))).run Try.prog w = .ok (.float .f64 (fx (16 - 2 * (farE x y j : Nat)))) w := fun t w => run_float_arith w .sub t .f64 _ _ _ (fx_lit1 ▸ fx_sub (by unfold Sm; decide) (by unfold Sm; omega) (by unfold Sm; omega))
      clear hfar
      generalize 16 - 2 * (farE x y j : Nat) = G at *
      go_wp2_with (simp only [hop])
      go_ret
      exact ⟨rfl, rfl⟩
end Go.Proofs.Ytdlmjjlejkkniaa
