/- blackboardlaw25.GaugeTurns: whole points' mean, their sums by quarter turns. -/
import Derived.Test.YtdjgjffgheocfaaGreatMeanT
import Derived.Test.YtdjgjffgheocfaaGreatPairs
import Derived.Deep.QuietTactic
import Derived.BigQuiet
namespace Go.Proofs.YtdjgjffgheocfaaGreat
open Go.RowKit Ieee

theorem i16_of {n : Int} (h : (Lit.int .i16 n).wf = true) : -32768 ≤ n ∧ n < 32768 := by
  have := Go.bounds_i16 h
  omega
theorem wrapI {n : Int} (h0 : -4611686018427387904 ≤ n) (h1 : n ≤ 4611686018427387904) : IntKind.i64.wrap n = n := by rw [IntKind.wrap_i64]; omega
theorem fl_order {x y : Nat} (h : x = y) (hx : double.order x x = some .eq) : (FloatKind.f64.format.order x y == some .eq) = true := by
  subst h
  show (double.order x x == some .eq) = true
  rw [hx]
  rfl
/-- The points of pairs: what the law has summed up behind j of them. -/
def TrnS (X Y : Nat → Int) (t j : Nat) (a b x y : Int) : Prop := a = sumI X j ∧ b = sumI Y j ∧ x = sumI (tuF t X Y) j ∧ y = sumI (tvF t X Y) j
set_option maxRecDepth 100000 in
set_option maxHeartbeats 4000000 in
theorem turns25_true (HAw : ∀ w, Calls Tryz.prog 7 #[] w fun e w' => e = .returned (.bool true) ∧ Keep (fun _ => False) w w') (w : World) (a : Option Addr) (n c : Nat) (X Y : Nat → Int) (k : Int) (ha : ArgPairs .i16 w a n X Y) :
    Calls Tryz.prog 3 #[.slice a n c, .int .i64 k] w fun e w' => e = .returned (.bool true) ∧ Keep (fun _ => False) w w' := by
  have hsm : n ≤ maxLen := ha.small
  have HB := Lib.hid (show ∀ i, i < n → (-32768 ≤ X i ∧ X i < 32768) ∧ (-32768 ≤ Y i ∧ Y i < 32768) from fun i hi => ⟨i16_of (ha.wf i hi).1, i16_of (ha.wf i hi).2⟩)
  have HA := Lib.hid ha
  have HAW := Lib.hid HAw
  clear ha HAw
  go_enter Tryz.func3, Tryz.ntmps3
  go_wp2_with fail
  refine (HAW.out _).mono ?_
  rintro e w1 ⟨rfl, k1⟩
  by_cases hn : 300 < n
  · have hn' : (300 : Int) < (n : Int) := by omega
    go_wp2_with fail
    go_ret
    exact ⟨rfl, k1⟩
  have hn' : ¬ (300 : Int) < (n : Int) := by omega
  have hn3 : n ≤ 300 := by omega
  have hbu : Bd n X := fun i hi => by have := HB.out i hi; omega
  have hbv : Bd n Y := fun i hi => by have := HB.out i hi; omega
  have HBD := Lib.hid (And.intro hbu hbv)
  obtain ⟨t, ht⟩ : ∃ t, t = qk k := ⟨_, rfl⟩
  have ht4 : t < 4 := by rw [ht]; exact qk_lt k
  have e1 := qk_eq k
  have e2 := qk_bound k
  have e3 : IntKind.i64.wrap (k.tmod 4 + 4) = k.tmod 4 + 4 := wraps_i64 _ (by omega) (by omega)
  rw [← ht] at e1
  have HT := Lib.hid ht
  have HTD := Lib.hid (bd_tu t hbu hbv)
  generalize hkm : k.tmod 4 = km at *
  clear ht hbu hbv
  go_wp2_with fail
  clear hkm e1 e2 e3
  go_loopw [5, 6, 7, 8, 9, 11] (fun v5 v6 v7 v8 v9 v11 wr => ∃ (j : Nat) (ao : Option Addr) (co : Nat) (a b x y : Int), j ≤ n ∧ v5 = .slice ao j co ∧ v6 = .int .i64 a ∧ v7 = .int .i64 b ∧ v8 = .int .i64 x ∧ v9 = .int .i64 y ∧ v11 = .int .i64 j ∧ Hid (TrnS X Y t j a b x y) ∧ Hid (OwnV wr 27 w1.heap.size ao j co (wpV X Y)) ∧ Keep (fun _ => False) w1 wr) (fun _ _ _ _ _ v _ => n - (intOf v).toNat)
  case atStart => exact ⟨0, none, 0, 0, 0, 0, 0, by omega, rfl, rfl, rfl, rfl, rfl, rfl, Lib.hid ⟨rfl, rfl, rfl, rfl⟩, Lib.hid (OwnV.nil _ _ _ _), Keep.refl _ _⟩
  case round =>
    obtain ⟨j, ao, co, a', b', x', y', hj, rfl, rfl, rfl, rfl, rfl, rfl, HTS, HO, kk⟩ := hrel
    by_cases hjn : j < n
    · have hjn' : (j : Int) < (n : Int) := by omega
      obtain ⟨bA, oA, rfl, hbA, hcA⟩ := HA.out.at_ (by omega)
      have kd := k1.comp kk
      have c0 := (kd.cell (p := ⟨bA, oA + j * 2, none⟩) hbA (by simp)).trans (hcA j hjn).1
      have c1 := (kd.cell (p := ⟨bA, oA + j * 2 + 1, none⟩) hbA (by simp)).trans (hcA j hjn).2
      have hXY := HB.out j hjn
      have w0 : IntKind.i64.wrap (X j) = X j := wrapI (by omega) (by omega)
      have w1' : IntKind.i64.wrap (Y j) = Y j := wrapI (by omega) (by omega)
      have f0 : floatOfInt .f64 (X j) = fp 0 (X j) := rfl
      have f1 : floatOfInt .f64 (Y j) = fp 0 (Y j) := rfl
      obtain ⟨q1, q2, q3, q4⟩ := HTS.out
      have r1 := (HBD.out.1.sm (by omega) hj : Sm (sumI X j))
      have r2 := (HBD.out.2.sm (by omega) hj : Sm (sumI Y j))
      have r3 := (HTD.out.1.sm (by omega) hj : Sm (sumI (tuF t X Y) j))
      have r4 := (HTD.out.2.sm (by omega) hj : Sm (sumI (tvF t X Y) j))
      rw [← q1] at r1
      rw [← q2] at r2
      rw [← q3] at r3
      rw [← q4] at r4
      unfold Sm at r1 r2 r3 r4
      have HV := Lib.hid (show wpV X Y j = .complex .f64 (fp 0 (X j)) (fp 0 (Y j)) from rfl)
      have HNX := Lib.hid (show sumI X (j + 1) = a' + X j ∧ sumI Y (j + 1) = b' + Y j ∧ sumI (tuF t X Y) (j + 1) = x' + qU (t * j) (X j) (Y j) ∧ sumI (tvF t X Y) (j + 1) = y' + qV (t * j) (X j) (Y j) from by
        rw [sumI_succ, sumI_succ, sumI_succ, sumI_succ, q1, q2, q3, q4]
        exact ⟨rfl, rfl, rfl, rfl⟩)
      obtain ⟨z, hz⟩ : ∃ z, z = t * j := ⟨_, rfl⟩
      obtain ⟨q, hq⟩ : ∃ q, q = z % 4 := ⟨_, rfl⟩
      have e6 : (t : Int) * (j : Int) = (z : Int) := by rw [hz]; exact (Int.natCast_mul t j).symm
      have hz9 : z ≤ 900 := by rw [hz]; exact Nat.mul_le_mul (show t ≤ 3 by omega) (show j ≤ 300 by omega)
      have e7 : (z : Int).tmod 4 = (q : Int) := by rw [Int.tmod_eq_emod_of_nonneg (by omega)]; omega
      have e7' : (z : Int) % 4 = (q : Int) := by omega
      have hq4 : q < 4 := by omega
      have HQ := Lib.hid (show qU (t * j) (X j) (Y j) = qU q (X j) (Y j) ∧ qV (t * j) (X j) (Y j) = qV q (X j) (Y j) from by
        rw [hq, hz, qU_mod, qV_mod]
        exact ⟨rfl, rfl⟩)
      generalize hFX : fp 0 (X j) = FX at *
      generalize hFY : fp 0 (Y j) = FY at *
      generalize X j = u at *
      generalize Y j = v at *
      have HKK := Lib.hid kk
      clear hcA kk HTS q1 q2 q3 q4 hz hq hFX hFY
      go_wp2_with fail
      go_quiet (fail)
      have kL := (HKK.out.drewN nq).alloc (.cells #[.complex .f64 FX FY] 27)
      have OL := Lib.hid (HO.out.keep (((Keep.refl (fun _ => False) wr).drewN nq).alloc (.cells #[.complex .f64 FX FY] 27)))
      have BL := Lib.hid (Blk.new (wr.drewN nq) 27 #[.complex .f64 FX FY])
      have hsL := kL.size
      clear c0 c1
      go_wp2_with (refine wpList_append_1 ty_c rfl (.tmp 42) (.tmp 48) rfl w1.heap.size ao j co (wpV X Y) rfl OL.out (wr.drewN nq).heap.size _ rfl BL.out rfl (by omega) hsL ?_)
      intro a2 c2 w6 o6 g6
      have O6 := Lib.hid (o6.congr (f' := wpV X Y) (fun i hi => by
        by_cases h : i < j
        · rw [if_pos h]
        · rw [if_neg h, show i = j by omega, HV.out]))
      have K6 := Lib.hid (kL.grown g6 (fun t ht => .inr (OL.out.lt t ht).1))
      clear o6 g6 kL OL BL hsL
      have HSUM := Lib.hid (show TrnS X Y t (j + 1) (a' + u) (b' + v) (x' + qU q u v) (y' + qV q u v) from by
        obtain ⟨s1, s2, s3, s4⟩ := HNX.out
        refine ⟨s1.symm, s2.symm, ?_, ?_⟩
        · rw [s3, HQ.out.1]
        · rw [s4, HQ.out.2])
      have hq4' : q = 0 ∨ q = 1 ∨ q = 2 ∨ q = 3 := by omega
      clear hq4
      have g1 : IntKind.i64.wrap (a' + u) = a' + u := wrapI (by omega) (by omega)
      have g2 : IntKind.i64.wrap (b' + v) = b' + v := wrapI (by omega) (by omega)
      have g3 : IntKind.i64.wrap (x' + u) = x' + u := wrapI (by omega) (by omega)
      have g4 : IntKind.i64.wrap (y' + v) = y' + v := wrapI (by omega) (by omega)
      have g5 : IntKind.i64.wrap (x' - v) = x' - v := wrapI (by omega) (by omega)
      have g6 : IntKind.i64.wrap (y' + u) = y' + u := wrapI (by omega) (by omega)
      have g7 : IntKind.i64.wrap (x' - u) = x' - u := wrapI (by omega) (by omega)
      have g8 : IntKind.i64.wrap (y' - v) = y' - v := wrapI (by omega) (by omega)
      have g9 : IntKind.i64.wrap (x' + v) = x' + v := wrapI (by omega) (by omega)
      have g10 : IntKind.i64.wrap (y' - u) = y' - u := wrapI (by omega) (by omega)
      clear w0 w1' f0 f1
      rcases hq4' with rfl | rfl | rfl | rfl
      all_goals
        go_wp2_with fail
        go_roundw
        case rel => exact ⟨j + 1, a2, c2, _, _, _, _, by omega, rfl, rfl, rfl, rfl, rfl, by go_num, HSUM, O6, K6.out⟩
        case measure => simp [intOf]; omega
    · obtain rfl : j = n := by omega
      have hjn' : ¬ (j : Int) < (j : Int) := by omega
      obtain ⟨q1, q2, q3, q4⟩ := HTS.out
      have hav := HO.out.arg (by omega)
      have r3 := (HTD.out.1.sm (by omega) hj : Sm (sumI (tuF t X Y) j))
      have r4 := (HTD.out.2.sm (by omega) hj : Sm (sumI (tvF t X Y) j))
      have HTU := Lib.hid (fun w hav => turn_any ao j co X Y k w hav (by omega) HBD.out.1 HBD.out.2)
      rw [← HT.out, ← q3, ← q4] at HTU
      rw [← q3] at r3
      rw [← q4] at r4
      have f0 : floatOfInt .f64 x' = fp 0 x' := rfl
      have f1 : floatOfInt .f64 y' = fp 0 y' := rfl
      have f2 : floatOfInt .f64 a' = fp 0 a' := rfl
      have f3 : floatOfInt .f64 b' = fp 0 b' := rfl
      have f4 : floatOfInt .f64 (j : Int) = fp 0 (j : Nat) := rfl
      have o1 := order_fp pp0 r3 r3 rfl
      have o2 := order_fp pp0 r4 r4 rfl
      have KE := Lib.hid (k1.comp kk)
      have HAV := Lib.hid hav
      by_cases h0 : j = 0
      · subst h0
        clear hav HO HTS q1 q2 q3 q4 kk r3 r4
        generalize fp 0 x' = FX at *
        generalize fp 0 y' = FY at *
        go_wp2_with fail
        refine (mean_nil ao co _).mono ?_
        rintro e w2 ⟨rfl, rfl⟩
        go_wp2_with fail
        refine (HTU.out _ HAV.out).mono ?_
        rintro e w2 ⟨rfl, rfl⟩
        have o3 : (FloatKind.f64.format.order 0 0 == some .eq) = true := by decide
        go_wp2_with fail
        go_ret
        exact ⟨rfl, KE.out⟩
      · have h0' : ¬ (j : Int) = 0 := by omega
        have h0b : ((j : Int) == 0) = false := by simp; omega
        have r1 := (HBD.out.1.sm (by omega) hj : Sm (sumI X j))
        have r2 := (HBD.out.2.sm (by omega) hj : Sm (sumI Y j))
        obtain ⟨zx, hzx, oz1⟩ := fp_div_some pp0 pp0 r1 (show Sm (j : Nat) by unfold Sm; omega) h0'
        obtain ⟨zy, hzy, oz2⟩ := fp_div_some pp0 pp0 r2 (show Sm (j : Nat) by unfold Sm; omega) h0'
        have HMN := Lib.hid (fun w hav => mean_any ao j co X Y w hav (by omega) (by omega) HBD.out.1 HBD.out.2 zx zy hzx hzy)
        rw [← q1] at hzx
        rw [← q2] at hzy
        have d1 : ∀ t' w, (binOp .quo t' (.float .f64 (fp 0 a')) (.float .f64 (fp 0 (j : Nat)))).run Tryz.prog w = .ok (.float .f64 zx) w := fun t' w => run_float_arith w .quo t' .f64 _ _ _ hzx
        have d2 : ∀ t' w, (binOp .quo t' (.float .f64 (fp 0 b')) (.float .f64 (fp 0 (j : Nat)))).run Tryz.prog w = .ok (.float .f64 zy) w := fun t' w => run_float_arith w .quo t' .f64 _ _ _ hzy
        have o3 := fl_order (x := zx) rfl oz1
        have o4 := fl_order (x := zy) rfl oz2
        clear hav HO HTS q1 q2 q3 q4 kk r1 r2 r3 r4 hzx hzy oz1 oz2
        generalize fp 0 x' = FX at *
        generalize fp 0 y' = FY at *
        generalize fp 0 a' = FA at *
        generalize fp 0 b' = FB at *
        generalize fp 0 (j : Nat) = FJ at *
        go_wp2_with fail
        refine (HMN.out _ HAV.out).mono ?_
        rintro e w2 ⟨rfl, rfl⟩
        go_wp2_with fail
        refine (HTU.out _ HAV.out).mono ?_
        rintro e w2 ⟨rfl, rfl⟩
        go_wp2_with fail
        go_ret
        exact ⟨rfl, KE.out⟩
end Go.Proofs.YtdjgjffgheocfaaGreat

namespace Go.Proofs.YtdjgjffgheocfaaGreat
open Go.ChangeShapes Go.WideShapes Go.ChangeAt Go.RowKit
theorem turns25_of (HAw : ∀ w, Calls Tryz.prog 7 #[] w fun e w' => e = .returned (.bool true) ∧ Keep (fun _ => False) w w') {H : Type} {enc : TypeId × Value → H} {base : Nat} {a : Option Addr} {len cap : Nat} {d : DataW H} {ps : List MemPlace} {sp : Nat → Bool} (w : World) (k : Int)
    (h : DataW.Trod enc Tryz.prog w base sp true 22 (.slice a len cap) d ps) :
    Calls Tryz.prog 3 #[.slice a len cap, .int .i64 k] w fun e w' => e = .returned (.bool true) ∧ Keep (fun _ => False) w w' := by
  obtain ⟨X, Y, hz⟩ := pairs_of Tryz.underlying22 Tryz.underlying26 Tryz.underlying25 (by kernel_rfl) (by kernel_rfl) h
  exact turns25_true HAw w a len cap X Y k hz
end Go.Proofs.YtdjgjffgheocfaaGreat
