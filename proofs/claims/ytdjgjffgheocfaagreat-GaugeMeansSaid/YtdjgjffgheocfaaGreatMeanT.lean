/- gauge.Mean and gauge.Turn of whole points. -/
import Derived.Test.YtdjgjffgheocfaaGreatTurnP
import Derived.Test.YtdjgjffgheocfaaGreatRowV
namespace Go.Proofs.YtdjgjffgheocfaaGreat
open Go.RowKit Ieee

/-- Whole points. -/
def wpV (u v : Nat → Int) : Nat → Value := fun i => .complex .f64 (fp 0 (u i)) (fp 0 (v i))
theorem pp0 : Pp 0 := ⟨by omega, by omega⟩
theorem c_addW {a b c d : Int} {x y : Nat} (ha : Sm a) (hb : Sm b) (hx : Wp 0 x c) (hy : Wp 0 y d) (h1 : Sm (a + c)) (h2 : Sm (b + d)) (t : TypeId) (w : World) :
    (binOp .add t (.complex .f64 (fp 0 a) (fp 0 b)) (.complex .f64 x y)).run Tryz.prog w = .ok (.complex .f64 (fp 0 (a + c)) (fp 0 (b + d))) w :=
  run_complex_sum w .add (.inl rfl) t .f64 _ _ _ _ _ _ (by
    unfold cSumBits
    rw [show floatBits .add .f64 (fp 0 a) x = some (fp 0 (a + c)) from fp_addW pp0 ha hx h1, show floatBits .add .f64 (fp 0 b) y = some (fp 0 (b + d)) from fp_addW pp0 hb hy h2]
    rfl)
/-- What is summed up. -/
def Bd (n : Nat) (u : Nat → Int) : Prop := ∀ i, i < n → (u i).natAbs ≤ 1048576
theorem Bd.sm {n : Nat} {u : Nat → Int} (h : Bd n u) (hn : n ≤ 1000) {j : Nat} (hj : j ≤ n) : Sm (sumI u j) := by
  have := sumI_sm (f := u) (n := j) (by omega) (fun i hi => h i (by omega))
  unfold Sm
  omega
theorem Bd.el {n : Nat} {u : Nat → Int} (h : Bd n u) {j : Nat} (hj : j < n) : Sm (u j) := by
  have := h j hj
  unfold Sm
  omega
theorem mean_nil (a : Option Addr) (c : Nat) (w : World) :
    Calls Tryz.prog 8 #[.slice a 0 c] w fun e w' => e = .returned (.complex .f64 0 0) ∧ w = w' := by
  go_enter Tryz.func8, Tryz.ntmps8
  go_wp2_with fail
  go_ret
  exact ⟨rfl, rfl⟩
set_option maxHeartbeats 1000000 in
theorem mean_any (a : Option Addr) (n c : Nat) (u v : Nat → Int) (w : World) (ha : ArgV w a n (wpV u v)) (h0 : 0 < n) (hn : n ≤ 1000) (hu : Bd n u) (hv : Bd n v) (x y : Nat)
    (hx : double.div (fp 0 (sumI u n)) (fp 0 (n : Nat)) = some x) (hy : double.div (fp 0 (sumI v n)) (fp 0 (n : Nat)) = some y) :
    Calls Tryz.prog 8 #[.slice a n c] w fun e w' => e = .returned (.complex .f64 x y) ∧ w = w' := by
  have HA := Lib.hid ha
  have HU := Lib.hid (And.intro hu hv)
  have HQ := Lib.hid (And.intro hx hy)
  have HN := Lib.hid (And.intro h0 hn)
  have hz : ((n : Int) == 0) = false := by simp; omega
  clear ha hu hv hx hy
  go_enter Tryz.func8, Tryz.ntmps8
  go_wp2_with fail
  go_loopw [3, 12] (fun v3 v4 wr => ∃ j : Nat, j ≤ n ∧ v3 = .complex .f64 (fp 0 (sumI u j)) (fp 0 (sumI v j)) ∧ v4 = .int .i64 j ∧ w = wr) (fun _ v _ => n - (intOf v).toNat)
  case atStart => exact ⟨0, by omega, by rw [sumI_zero, sumI_zero, fp_zero], rfl, rfl⟩
  case round =>
    obtain ⟨j, hj, rfl, rfl, rfl⟩ := hrel
    by_cases hjn : j < n
    · have hjn' : (j : Int) < (n : Int) := by omega
      obtain ⟨bA, oA, rfl, hbA, hcA⟩ := HA.out.at_ (by omega)
      have c0 := hcA j hjn
      rw [show wpV u v j = .complex .f64 (fp 0 (u j)) (fp 0 (v j)) from rfl] at c0
      have hop : ∀ t w, (binOp .add t (.complex .f64 (fp 0 (sumI u j)) (fp 0 (sumI v j))) (.complex .f64 (fp 0 (u j)) (fp 0 (v j)))).run Tryz.prog w = .ok (.complex .f64 (fp 0 (sumI u (j + 1))) (fp 0 (sumI v (j + 1)))) w := fun t w =>
        c_addW (HU.out.1.sm HN.out.2 hj) (HU.out.2.sm HN.out.2 hj) (Wp.of pp0 (HU.out.1.el hjn)) (Wp.of pp0 (HU.out.2.el hjn)) (HU.out.1.sm HN.out.2 (j := j + 1) hjn) (HU.out.2.sm HN.out.2 (j := j + 1) hjn) t w
      obtain ⟨X1, hX1⟩ : ∃ X, X = fp 0 (sumI u (j + 1)) := ⟨_, rfl⟩
      obtain ⟨Y1, hY1⟩ : ∃ X, X = fp 0 (sumI v (j + 1)) := ⟨_, rfl⟩
      rw [← hX1, ← hY1] at hop
      have HX := Lib.hid (And.intro hX1 hY1)
      clear hcA hX1 hY1
      generalize fp 0 (sumI u j) = X at *
      generalize fp 0 (sumI v j) = Y at *
      generalize fp 0 (u j) = P at *
      generalize fp 0 (v j) = Q at *
      go_wp2_with fail
      exact ⟨⟨j + 1, by omega, by rw [HX.out.1, HX.out.2], by go_num, trivial⟩, by simp [intOf]; omega⟩
    · obtain rfl : j = n := by omega
      have hjn' : ¬ (j : Int) < (j : Int) := by omega
      have hcv : floatOfInt .f64 (j : Int) = fp 0 (j : Nat) := rfl
      have hq1 : ∀ t w, (binOp .quo t (.float .f64 (fp 0 (sumI u j))) (.float .f64 (fp 0 (j : Nat)))).run Tryz.prog w = .ok (.float .f64 x) w := fun t w => run_float_arith w .quo t .f64 _ _ _ HQ.out.1
      have hq2 : ∀ t w, (binOp .quo t (.float .f64 (fp 0 (sumI v j))) (.float .f64 (fp 0 (j : Nat)))).run Tryz.prog w = .ok (.float .f64 y) w := fun t w => run_float_arith w .quo t .f64 _ _ _ HQ.out.2
      clear HQ
      generalize fp 0 (sumI u j) = X at *
      generalize fp 0 (sumI v j) = Y at *
      generalize fp 0 (j : Nat) = Z at *
      go_wp2_with fail
      go_ret
      exact ⟨rfl, rfl⟩
/-- What is summed up: the turned points. -/
def tuF (k : Nat) (u v : Nat → Int) : Nat → Int := fun j => qU (k * j) (u j) (v j)
def tvF (k : Nat) (u v : Nat → Int) : Nat → Int := fun j => qV (k * j) (u j) (v j)
theorem bd_tu {n : Nat} {u v : Nat → Int} (k : Nat) (hu : Bd n u) (hv : Bd n v) : Bd n (tuF k u v) ∧ Bd n (tvF k u v) :=
  ⟨fun i hi => (q_abs (k * i) (hu i hi) (hv i hi)).1, fun i hi => (q_abs (k * i) (hu i hi) (hv i hi)).2⟩
set_option maxHeartbeats 2000000 in
theorem turn_any (a : Option Addr) (n c : Nat) (u v : Nat → Int) (k : Int) (w : World) (ha : ArgV w a n (wpV u v)) (hn : n ≤ 1000) (hu : Bd n u) (hv : Bd n v) :
    Calls Tryz.prog 9 #[.slice a n c, .int .i64 k] w fun e w' => e = .returned (.complex .f64 (fp 0 (sumI (tuF (qk k) u v) n)) (fp 0 (sumI (tvF (qk k) u v) n))) ∧ w = w' := by
  have HA := Lib.hid ha
  obtain ⟨t, ht⟩ : ∃ t, t = qk k := ⟨_, rfl⟩
  have ht4 : t < 4 := by rw [ht]; exact qk_lt k
  have e1 := qk_eq k
  have e2 := qk_bound k
  have e3 : IntKind.i64.wrap (k.tmod 4 + 4) = k.tmod 4 + 4 := wraps_i64 _ (by omega) (by omega)
  rw [← ht] at e1 ⊢
  have HU := Lib.hid (bd_tu t hu hv)
  have HV := Lib.hid (And.intro hu hv)
  generalize hkm : k.tmod 4 = km at *
  clear ha hu hv ht
  go_enter Tryz.func9, Tryz.ntmps9
  go_wp2_with fail
  clear hkm e2 e3
  go_loopw [5, 14] (fun v5 v14 wr => ∃ j : Nat, j ≤ n ∧ v5 = .complex .f64 (fp 0 (sumI (tuF t u v) j)) (fp 0 (sumI (tvF t u v) j)) ∧ v14 = .int .i64 j ∧ w = wr) (fun _ v _ => n - (intOf v).toNat)
  case atStart => exact ⟨0, by omega, by rw [sumI_zero, sumI_zero, fp_zero], rfl, rfl⟩
  case round =>
    obtain ⟨j, hj, rfl, rfl, rfl⟩ := hrel
    by_cases hjn : j < n
    · have hjn' : (j : Int) < (n : Int) := by omega
      obtain ⟨bA, oA, rfl, hbA, hcA⟩ := HA.out.at_ (by omega)
      have c0 := hcA j hjn
      rw [show wpV u v j = .complex .f64 (fp 0 (u j)) (fp 0 (v j)) from rfl] at c0
      obtain ⟨m, hm⟩ : ∃ m, m = j % 4 := ⟨_, rfl⟩
      obtain ⟨z, hz⟩ : ∃ z, z = t * m := ⟨_, rfl⟩
      obtain ⟨q, hq⟩ : ∃ q, q = z % 4 := ⟨_, rfl⟩
      have e5 : (j : Int).tmod 4 = (m : Int) := by rw [Int.tmod_eq_emod_of_nonneg (by omega)]; omega
      have e5' : (j : Int) % 4 = (m : Int) := by omega
      have hm4 : m < 4 := by omega
      have e6 : (t : Int) * (m : Int) = (z : Int) := by rw [hz]; exact (Int.natCast_mul t m).symm
      have hz9 : z ≤ 9 := by rw [hz]; exact Nat.mul_le_mul (show t ≤ 3 by omega) (show m ≤ 3 by omega)
      have e7 : (z : Int).tmod 4 = (q : Int) := by rw [Int.tmod_eq_emod_of_nonneg (by omega)]; omega
      have e7' : (z : Int) % 4 = (q : Int) := by omega
      have hq4 : q < 4 := by omega
      have HQ := Lib.hid (show (qU q (u j) (v j) = tuF t u v j) ∧ (qV q (u j) (v j) = tvF t u v j) from by
        unfold tuF tvF
        rw [hq, hz, hm, qU_mod, qV_mod, ← qU_mod (t * (j % 4)), ← qV_mod (t * (j % 4)), q_mod, qU_mod, qV_mod]
        exact ⟨rfl, rfl⟩)
      have HS := Lib.hid (And.intro (HU.out.1.sm hn hj) (And.intro (HU.out.2.sm hn hj) (And.intro (HU.out.1.sm hn (j := j + 1) hjn) (HU.out.2.sm hn (j := j + 1) hjn))))
      have HW := Lib.hid (And.intro (Wp.of pp0 (HV.out.1.el hjn)) (Wp.of pp0 (HV.out.2.el hjn)))
      obtain ⟨X, hX⟩ : ∃ X, X = fp 0 (u j) := ⟨_, rfl⟩
      obtain ⟨Y, hY⟩ : ∃ Y, Y = fp 0 (v j) := ⟨_, rfl⟩
      rw [← hX, ← hY] at c0 HW
      have HXY := Lib.hid (And.intro hX hY)
      clear hcA hm hz hq hX hY
      go_wp2_with fail
      clear c0 e1 e5 e5' e6 e7 e7'
      go_loopw [7, 24] (fun v7 v24 wr => ∃ (i x y : Nat), i ≤ q ∧ v7 = .complex .f64 x y ∧ Hid (Wp 0 x (qU i (u j) (v j)) ∧ Wp 0 y (qV i (u j) (v j))) ∧ v24 = .int .i64 i ∧ w = wr) (fun _ v _ => q - (intOf v).toNat)
      case atStart => exact ⟨0, X, Y, by omega, rfl, HW, rfl, rfl⟩
      case round =>
        obtain ⟨i, x, y, hi, rfl, HXW, rfl, rfl⟩ := hrel
        by_cases hiq : i < q
        · have hiq' : (i : Int) < (q : Int) := by omega
          have HN := Lib.hid (show Wp 0 (Op.negFloat .f64 y) (qU (i + 1) (u j) (v j)) ∧ Wp 0 x (qV (i + 1) (u j) (v j)) from by
            rw [qU_succ, qV_succ]
            exact ⟨HXW.out.2.neg, HXW.out.1⟩)
          generalize hY : Op.negFloat .f64 y = ny at *
          have hneg : ∀ w : World, (Op.unary .neg (.float .f64 y)).run Tryz.prog w = .ok (.float .f64 ny) w := fun w => by rw [← hY]; rfl
          clear hY
          go_wp2_with fail
          exact ⟨⟨i + 1, _, _, by omega, rfl, HN, by go_num, trivial⟩, by simp [intOf]; omega⟩
        · obtain rfl : i = q := by omega
          have hop : ∀ t' w, (binOp .add t' (.complex .f64 (fp 0 (sumI (tuF t u v) j)) (fp 0 (sumI (tvF t u v) j))) (.complex .f64 x y)).run Tryz.prog w = .ok (.complex .f64 (fp 0 (sumI (tuF t u v) (j + 1))) (fp 0 (sumI (tvF t u v) (j + 1)))) w := fun t' w => by
            obtain ⟨s1, s2, s3, s4⟩ := HS.out
            rw [sumI_succ, ← HQ.out.1] at s3
            rw [sumI_succ, ← HQ.out.2] at s4
            rw [sumI_succ, sumI_succ, ← HQ.out.1, ← HQ.out.2]
            exact c_addW s1 s2 HXW.out.1 HXW.out.2 s3 s4 t' w
          generalize fp 0 (sumI (tuF t u v) j) = SX at *
          generalize fp 0 (sumI (tvF t u v) j) = SY at *
          have hiq' : ¬ (i : Int) < (i : Int) := by omega
          obtain ⟨X1, hX1⟩ : ∃ X, X = fp 0 (sumI (tuF t u v) (j + 1)) := ⟨_, rfl⟩
          obtain ⟨Y1, hY1⟩ : ∃ X, X = fp 0 (sumI (tvF t u v) (j + 1)) := ⟨_, rfl⟩
          rw [← hX1, ← hY1] at hop
          have HX := Lib.hid (And.intro hX1 hY1)
          clear hX1 hY1
          go_wp2_with fail
          exact ⟨⟨j + 1, by omega, by rw [HX.out.1, HX.out.2], by go_num, trivial⟩, by simp [intOf]; omega⟩
    · obtain rfl : j = n := by omega
      have hjn' : ¬ (j : Int) < (j : Int) := by omega
      go_wp2_with fail
      go_ret
      exact ⟨rfl, rfl⟩
end Go.Proofs.YtdjgjffgheocfaaGreat
