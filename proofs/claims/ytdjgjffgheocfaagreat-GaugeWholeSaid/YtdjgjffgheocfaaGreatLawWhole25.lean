/- blackboardlaw25.GaugeWhole: the four sums by quarter turns, added up. -/
import Derived.Test.YtdjgjffgheocfaaGreatLawTurns25
namespace Go.Proofs.YtdjgjffgheocfaaGreat
open Go.RowKit Ieee

theorem c_mul4 {x y : Int} (hx : Sm x) (hy : Sm y) (hx4 : Sm (4 * x)) (hy4 : Sm (4 * y)) (t : TypeId) (w : World) :
    (binOp .mul t (.complex .f64 4616189618054758400 0) (.complex .f64 (fp 0 x) (fp 0 y))).run Tryz.prog w = .ok (.complex .f64 (fp 0 (4 * x)) (fp 0 (4 * y))) w := by
  have e4 : fp 0 4 = 4616189618054758400 := by decide
  have s4 : Sm 4 := by unfold Sm; decide
  obtain ⟨z, hz, wz⟩ := zero_mulW pp0 hy
  obtain ⟨z', hz', wz'⟩ := zero_mulW pp0 hx
  have h1 : floatBits .mul .f64 4616189618054758400 (fp 0 x) = some (fp 0 (4 * x)) := by
    rw [← e4]
    exact fp_mul pp0 pp0 pp0 (by omega) s4 hx hx4
  have h2 : floatBits .mul .f64 4616189618054758400 (fp 0 y) = some (fp 0 (4 * y)) := by
    rw [← e4]
    exact fp_mul pp0 pp0 pp0 (by omega) s4 hy hy4
  have h3 : floatBits .mul .f64 0 (fp 0 y) = some z := hz
  have h4 : floatBits .mul .f64 0 (fp 0 x) = some z' := hz'
  have h5 : floatBits .sub .f64 (fp 0 (4 * x)) z = some (fp 0 (4 * x)) := by
    have := fp_subW pp0 hx4 wz (by rwa [Int.sub_zero])
    rw [Int.sub_zero] at this
    exact this
  have h6 : floatBits .add .f64 (fp 0 (4 * y)) z' = some (fp 0 (4 * y)) := by
    have := fp_addW pp0 hy4 wz' (by rwa [Int.add_zero])
    rw [Int.add_zero] at this
    exact this
  refine run_complex_mul w t _ _ _ _ _ _ ?_
  unfold cMulBits
  rw [h1, h2, h3, h4]
  show ((floatBits .sub .f64 (fp 0 (4 * x)) z).bind _ : Option (Nat × Nat)) = _
  rw [h5]
  show ((floatBits .add .f64 (fp 0 (4 * y)) z').bind _ : Option (Nat × Nat)) = _
  rw [h6]
  rfl
/-- What is wanted, behind j points. -/
def wnF (X : Nat → Int) : Nat → Int := fun j => if j % 4 = 0 then 4 * X j else 0
theorem wn_bd {n : Nat} {X : Nat → Int} (h : ∀ i, i < n → -32768 ≤ X i ∧ X i < 32768) : Bd n (wnF X) := fun i hi => by
  have := h i hi
  unfold wnF
  split <;> omega
theorem qk_0 : qk 0 = 0 := by decide
theorem qk_1 : qk 1 = 1 := by decide
theorem qk_2 : qk 2 = 2 := by decide
theorem qk_3 : qk 3 = 3 := by decide
set_option maxRecDepth 100000 in
set_option maxHeartbeats 4000000 in
theorem whole25_true (HAw : ∀ w, Calls Tryz.prog 7 #[] w fun e w' => e = .returned (.bool true) ∧ Keep (fun _ => False) w w') (w : World) (a : Option Addr) (n c : Nat) (X Y : Nat → Int) (ha : ArgPairs .i16 w a n X Y) :
    Calls Tryz.prog 5 #[.slice a n c] w fun e w' => e = .returned (.bool true) ∧ Keep (fun _ => False) w w' := by
  have hsm : n ≤ maxLen := ha.small
  have HB := Lib.hid (show ∀ i, i < n → (-32768 ≤ X i ∧ X i < 32768) ∧ (-32768 ≤ Y i ∧ Y i < 32768) from fun i hi => ⟨i16_of (ha.wf i hi).1, i16_of (ha.wf i hi).2⟩)
  have HA := Lib.hid ha
  have HAW := Lib.hid HAw
  clear ha HAw
  go_enter Tryz.func5, Tryz.ntmps5
  go_wp2_with fail
  refine (HAW.out _).mono ?_
  rintro e w1 ⟨rfl, k1⟩
  by_cases hn : 300 < n
  · have hn' : (300 : Int) < (n : Int) := by omega
    go_wp2_with fail
    go_ret
    exact ⟨rfl, k1⟩
  have hn' : ¬ (300 : Int) < (n : Int) := by omega
  have hn3 : n ≤ 300 := by omega
  have hbu : Bd n X := fun i hi => by have := HB.out i hi; omega
  have hbv : Bd n Y := fun i hi => by have := HB.out i hi; omega
  have HBD := Lib.hid (And.intro hbu hbv)
  have HWD := Lib.hid (And.intro (wn_bd (fun i hi => (HB.out i hi).1)) (wn_bd (fun i hi => (HB.out i hi).2)))
  clear hbu hbv
  go_wp2_with fail
  go_loopw [3, 4, 5] (fun v3 v4 v5 wr => ∃ (j : Nat) (ao : Option Addr) (co : Nat), j ≤ n ∧ v3 = .slice ao j co ∧ v4 = .complex .f64 (fp 0 (sumI (wnF X) j)) (fp 0 (sumI (wnF Y) j)) ∧ v5 = .int .i64 j ∧ Hid (OwnV wr 27 w1.heap.size ao j co (wpV X Y)) ∧ Keep (fun _ => False) w1 wr) (fun _ _ v _ => n - (intOf v).toNat)
  case atStart => exact ⟨0, none, 0, by omega, rfl, by rw [sumI_zero, sumI_zero, fp_zero], rfl, Lib.hid (OwnV.nil _ _ _ _), Keep.refl _ _⟩
  case round =>
    obtain ⟨j, ao, co, hj, rfl, rfl, rfl, HO, kk⟩ := hrel
    by_cases hjn : j < n
    · have hjn' : (j : Int) < (n : Int) := by omega
      obtain ⟨bA, oA, rfl, hbA, hcA⟩ := HA.out.at_ (by omega)
      have kd := k1.comp kk
      have c0 := (kd.cell (p := ⟨bA, oA + j * 2, none⟩) hbA (by simp)).trans (hcA j hjn).1
      have c1 := (kd.cell (p := ⟨bA, oA + j * 2 + 1, none⟩) hbA (by simp)).trans (hcA j hjn).2
      have hXY := HB.out j hjn
      have f0 : floatOfInt .f64 (X j) = fp 0 (X j) := rfl
      have f1 : floatOfInt .f64 (Y j) = fp 0 (Y j) := rfl
      have HV := Lib.hid (show wpV X Y j = .complex .f64 (fp 0 (X j)) (fp 0 (Y j)) from rfl)
      have HM := Lib.hid (fun t w => c_mul4 (HBD.out.1.el hjn) (HBD.out.2.el hjn) (show Sm (4 * X j) by unfold Sm; omega) (show Sm (4 * Y j) by unfold Sm; omega) t w)
      have hm4 : (4 * X j).natAbs ≤ 1048576 ∧ (4 * Y j).natAbs ≤ 1048576 := by omega
      have HS1 := Lib.hid (show j % 4 = 0 → ∀ t w, (binOp .add t (.complex .f64 (fp 0 (sumI (wnF X) j)) (fp 0 (sumI (wnF Y) j))) (.complex .f64 (fp 0 (4 * X j)) (fp 0 (4 * Y j)))).run Tryz.prog w = .ok (.complex .f64 (fp 0 (sumI (wnF X) (j + 1))) (fp 0 (sumI (wnF Y) (j + 1)))) w from fun e t w => by
        have s1 := HWD.out.1.sm (j := j + 1) (show n ≤ 1000 by omega) hjn
        have s2 := HWD.out.2.sm (j := j + 1) (show n ≤ 1000 by omega) hjn
        have e1 : wnF X j = 4 * X j := if_pos e
        have e2 : wnF Y j = 4 * Y j := if_pos e
        rw [sumI_succ, e1] at s1
        rw [sumI_succ, e2] at s2
        have := c_addW (HWD.out.1.sm (show n ≤ 1000 by omega) hj) (HWD.out.2.sm (show n ≤ 1000 by omega) hj) (Wp.of pp0 (show Sm (4 * X j) by unfold Sm; omega)) (Wp.of pp0 (show Sm (4 * Y j) by unfold Sm; omega)) s1 s2 t w
        rw [← e1, ← e2, ← sumI_succ, ← sumI_succ, e1, e2] at this
        exact this)
      have HS0 := Lib.hid (show j % 4 ≠ 0 → sumI (wnF X) (j + 1) = sumI (wnF X) j ∧ sumI (wnF Y) (j + 1) = sumI (wnF Y) j from fun e => by
        rw [sumI_succ, sumI_succ, show wnF X j = 0 from if_neg e, show wnF Y j = 0 from if_neg e]
        omega)
      generalize hFX : fp 0 (X j) = FX at *
      generalize hFY : fp 0 (Y j) = FY at *
      obtain ⟨q, hq⟩ : ∃ q, q = j % 4 := ⟨_, rfl⟩
      have e7 : (j : Int).tmod 4 = (q : Int) := by rw [Int.tmod_eq_emod_of_nonneg (by omega)]; omega
      have e7' : (j : Int) % 4 = (q : Int) := by omega
      rw [← hq] at HS1 HS0
      have HKK := Lib.hid kk
      obtain ⟨x, hx⟩ : ∃ x, x = X j := ⟨_, rfl⟩
      obtain ⟨y, hy⟩ : ∃ y, y = Y j := ⟨_, rfl⟩
      rw [← hx] at c0 f0 hXY
      rw [← hy] at c1 f1 hXY
      clear hcA kk hFX hFY hq hm4 hx hy
      go_wp2_with fail
      go_quiet (fail)
      have kL := (HKK.out.drewN nq).alloc (.cells #[.complex .f64 FX FY] 27)
      have OL := Lib.hid (HO.out.keep (((Keep.refl (fun _ => False) wr).drewN nq).alloc (.cells #[.complex .f64 FX FY] 27)))
      have BL := Lib.hid (Blk.new (wr.drewN nq) 27 #[.complex .f64 FX FY])
      have hsL := kL.size
      clear c0 c1
      go_wp2_with (refine wpList_append_1 ty_c rfl (.tmp 32) (.tmp 34) rfl w1.heap.size ao j co (wpV X Y) rfl OL.out (wr.drewN nq).heap.size _ rfl BL.out rfl (by omega) hsL ?_)
      intro a2 c2 w6 o6 g6
      have O6 := Lib.hid (o6.congr (f' := wpV X Y) (fun i hi => by
        by_cases h : i < j
        · rw [if_pos h]
        · rw [if_neg h, show i = j by omega, HV.out]))
      have K6 := Lib.hid (kL.grown g6 (fun t ht => .inr (OL.out.lt t ht).1))
      clear o6 g6 kL OL BL hsL
      by_cases hq0 : q = 0
      · subst hq0
        have hm := HM.out
        have hs := HS1.out rfl
        obtain ⟨P1, hP1⟩ : ∃ P, P = fp 0 (sumI (wnF X) (j + 1)) := ⟨_, rfl⟩
        obtain ⟨P2, hP2⟩ : ∃ P, P = fp 0 (sumI (wnF Y) (j + 1)) := ⟨_, rfl⟩
        rw [← hP1, ← hP2] at hs
        have HP := Lib.hid (And.intro hP1 hP2)
        clear HM HS1 HS0 hP1 hP2
        generalize fp 0 (sumI (wnF X) j) = A at *
        generalize fp 0 (sumI (wnF Y) j) = B at *
        generalize fp 0 (4 * X j) = A4 at *
        generalize fp 0 (4 * Y j) = B4 at *
        go_wp2_with fail
        go_roundw
        case rel => exact ⟨j + 1, a2, c2, by omega, rfl, by rw [HP.out.1, HP.out.2], by go_num, O6, K6.out⟩
        case measure => simp [intOf]; omega
      · have hq0' : ¬ (q : Int) = 0 := by omega
        have hq0b : ((q : Int) == 0) = false := by simp; omega
        have HE := HS0.out hq0
        rw [← HE.1, ← HE.2]
        have HP := Lib.hid HE
        clear HM HS1 HS0 HE
        go_wp2_with fail
        go_roundw
        case rel => exact ⟨j + 1, a2, c2, by omega, rfl, rfl, by go_num, O6, K6.out⟩
        case measure => simp [intOf]; omega
    · obtain rfl : j = n := by omega
      have hjn' : ¬ (j : Int) < (j : Int) := by omega
      have hav := HO.out.arg (by omega)
      have h3 : j ≤ 1000 := by omega
      have HTU := Lib.hid (fun k w hav => turn_any ao j co X Y k w hav h3 HBD.out.1 HBD.out.2)
      have HS := Lib.hid (fun k => bd_tu k HBD.out.1 HBD.out.2)
      have hsum := sum_four X Y j
      have b0 := fun k => sumI_sm h3 (HS.out k).1
      have b1 := fun k => sumI_sm h3 (HS.out k).2
      have e0 : ∀ k, sumI (fun i => qU (k * i) (X i) (Y i)) j = sumI (tuF k X Y) j := fun k => rfl
      have e1 : ∀ k, sumI (fun i => qV (k * i) (X i) (Y i)) j = sumI (tvF k X Y) j := fun k => rfl
      rw [e0, e0, e0, e0, e1, e1, e1, e1] at hsum
      have hw1 : sumI (fun i => if i % 4 = 0 then 4 * X i else 0) j = sumI (wnF X) j := rfl
      have hw2 : sumI (fun i => if i % 4 = 0 then 4 * Y i else 0) j = sumI (wnF Y) j := rfl
      rw [hw1, hw2] at hsum
      have t0 := HTU.out 0
      have t1 := HTU.out 1
      have t2 := HTU.out 2
      have t3 := HTU.out 3
      rw [qk_0] at t0
      rw [qk_1] at t1
      rw [qk_2] at t2
      rw [qk_3] at t3
      have m0 := b0 0
      have m1 := b0 1
      have m2 := b0 2
      have m3 := b0 3
      have n0 := b1 0
      have n1 := b1 1
      have n2 := b1 2
      have n3 := b1 3
      obtain ⟨hs1, hs2⟩ := hsum
      generalize sumI (wnF X) j = SX at *
      generalize sumI (wnF Y) j = SY at *
      generalize sumI (tuF 0 X Y) j = U0 at *
      generalize sumI (tuF 1 X Y) j = U1 at *
      generalize sumI (tuF 2 X Y) j = U2 at *
      generalize sumI (tuF 3 X Y) j = U3 at *
      generalize sumI (tvF 0 X Y) j = V0 at *
      generalize sumI (tvF 1 X Y) j = V1 at *
      generalize sumI (tvF 2 X Y) j = V2 at *
      generalize sumI (tvF 3 X Y) j = V3 at *
      have s : ∀ a : Int, a.natAbs ≤ 10000000000 → Sm a := fun a h => by unfold Sm; omega
      have a1 := fun t w => c_addW (s U0 (by omega)) (s V0 (by omega)) (Wp.of pp0 (s U1 (by omega))) (Wp.of pp0 (s V1 (by omega))) (s _ (by omega)) (s _ (by omega)) t w
      have a2 := fun t w => c_addW (s (U0 + U1) (by omega)) (s (V0 + V1) (by omega)) (Wp.of pp0 (s U2 (by omega))) (Wp.of pp0 (s V2 (by omega))) (s _ (by omega)) (s _ (by omega)) t w
      have a3 := fun t w => c_addW (s (U0 + U1 + U2) (by omega)) (s (V0 + V1 + V2) (by omega)) (Wp.of pp0 (s U3 (by omega))) (Wp.of pp0 (s V3 (by omega))) (s _ (by omega)) (s _ (by omega)) t w
      have o1 := order_fp pp0 (s (U0 + U1 + U2 + U3) (by omega)) (s SX (by omega)) hs1
      have o2 := order_fp pp0 (s (V0 + V1 + V2 + V3) (by omega)) (s SY (by omega)) hs2
      have KE := Lib.hid (k1.comp kk)
      have HAV := Lib.hid hav
      have T0 := Lib.hid t0
      have T1 := Lib.hid t1
      have T2 := Lib.hid t2
      have T3 := Lib.hid t3
      clear m0 m1 m2 m3 n0 n1 n2 n3 b0 b1 e0 e1 hw1 hw2 hs1 hs2 t0 t1 t2 t3 hav HTU HS s kk HO
      generalize fp 0 U0 = FU0 at *
      generalize fp 0 V0 = FV0 at *
      generalize fp 0 U1 = FU1 at *
      generalize fp 0 V1 = FV1 at *
      generalize fp 0 U2 = FU2 at *
      generalize fp 0 V2 = FV2 at *
      generalize fp 0 U3 = FU3 at *
      generalize fp 0 V3 = FV3 at *
      generalize fp 0 (U0 + U1) = GU1 at *
      generalize fp 0 (V0 + V1) = GV1 at *
      generalize fp 0 (U0 + U1 + U2) = GU2 at *
      generalize fp 0 (V0 + V1 + V2) = GV2 at *
      generalize fp 0 (U0 + U1 + U2 + U3) = GU3 at *
      generalize fp 0 (V0 + V1 + V2 + V3) = GV3 at *
      generalize fp 0 SX = GX at *
      generalize fp 0 SY = GY at *
      go_wp2_with fail
      refine (T0.out _ HAV.out).mono ?_
      rintro e w2 ⟨rfl, rfl⟩
      go_wp2_with fail
      refine (T1.out _ HAV.out).mono ?_
      rintro e w2 ⟨rfl, rfl⟩
      go_wp2_with fail
      refine (T2.out _ HAV.out).mono ?_
      rintro e w2 ⟨rfl, rfl⟩
      go_wp2_with fail
      refine (T3.out _ HAV.out).mono ?_
      rintro e w2 ⟨rfl, rfl⟩
      go_wp2_with fail
      go_ret
      exact ⟨rfl, KE.out⟩
theorem whole25_of (HAw : ∀ w, Calls Tryz.prog 7 #[] w fun e w' => e = .returned (.bool true) ∧ Keep (fun _ => False) w w') {H : Type} {enc : TypeId × Value → H} {base : Nat} {a : Option Addr} {len cap : Nat} {d : DataW H} {ps : List MemPlace} {sp : Nat → Bool} (w : World)
    (h : DataW.Trod enc Tryz.prog w base sp true 22 (.slice a len cap) d ps) :
    Calls Tryz.prog 5 #[.slice a len cap] w fun e w' => e = .returned (.bool true) ∧ Keep (fun _ => False) w w' := by
  obtain ⟨X, Y, hz⟩ := pairs_of Tryz.underlying22 Tryz.underlying26 Tryz.underlying25 (by kernel_rfl) (by kernel_rfl) h
  exact whole25_true HAw w a len cap X Y hz
end Go.Proofs.YtdjgjffgheocfaaGreat
