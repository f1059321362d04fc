/- blackboardlaw25.GaugeKnown: sums by hand. -/
import Derived.Test.YtdjgjffgheocfaaGreatAwake25
namespace Go.Proofs.YtdjgjffgheocfaaGreat
open Go.RowKit Ieee

def knU : Nat → Int := fun i => if i = 0 then 1 else if i = 2 then -3 else if i = 4 then 5 else 0
def knV : Nat → Int := fun i => if i = 1 then 2 else if i = 3 then -4 else 0
theorem kn_bd : Bd 5 knU ∧ Bd 5 knV :=
  ⟨bd_small fun i hi => by
    obtain rfl | rfl | rfl | rfl | rfl : i = 0 ∨ i = 1 ∨ i = 2 ∨ i = 3 ∨ i = 4 := by omega
    all_goals decide, bd_small fun i hi => by
    obtain rfl | rfl | rfl | rfl | rfl : i = 0 ∨ i = 1 ∨ i = 2 ∨ i = 3 ∨ i = 4 := by omega
    all_goals decide⟩
theorem kn_row {w : World} {g : Nat} (h : Blk w g 27 #[.complex .f64 4607182418800017408 0, .complex .f64 0 4611686018427387904, .complex .f64 13837309855095848960 0, .complex .f64 0 13839561654909534208, .complex .f64 4617315517961601024 0]) : ArgV w (some ⟨g, 0, none⟩) 5 (wpV knU knV) :=
  laid_c h (by omega) (fun i hi => by
    have e0 : fp 0 0 = 0 := fp_zero 0
    have e1 : fp 0 1 = 4607182418800017408 := by decide
    have e2 : fp 0 2 = 4611686018427387904 := by decide
    have e3 : fp 0 (-3) = 13837309855095848960 := by decide
    have e4 : fp 0 (-4) = 13839561654909534208 := by decide
    have e5 : fp 0 5 = 4617315517961601024 := by decide
    obtain rfl | rfl | rfl | rfl | rfl : i = 0 ∨ i = 1 ∨ i = 2 ∨ i = 3 ∨ i = 4 := by omega
    · show some (Value.complex .f64 4607182418800017408 0) = some (.complex .f64 (fp 0 1) (fp 0 0))
      rw [e0, e1]
    · show some (Value.complex .f64 0 4611686018427387904) = some (.complex .f64 (fp 0 0) (fp 0 2))
      rw [e0, e2]
    · show some (Value.complex .f64 13837309855095848960 0) = some (.complex .f64 (fp 0 (-3)) (fp 0 0))
      rw [e0, e3]
    · show some (Value.complex .f64 0 13839561654909534208) = some (.complex .f64 (fp 0 0) (fp 0 (-4)))
      rw [e0, e4]
    · show some (Value.complex .f64 4617315517961601024 0) = some (.complex .f64 (fp 0 5) (fp 0 0))
      rw [e0, e5])
/-- The five points, turned: x and y are the words of the sums. -/
theorem kn_turn (w : World) (g : Nat) (k x y : Int) (X Y : Nat) (h : Blk w g 27 #[.complex .f64 4607182418800017408 0, .complex .f64 0 4611686018427387904, .complex .f64 13837309855095848960 0, .complex .f64 0 13839561654909534208, .complex .f64 4617315517961601024 0])
    (e1 : sumI (tuF (qk k) knU knV) 5 = x) (e2 : sumI (tvF (qk k) knU knV) 5 = y) (e3 : fp 0 x = X) (e4 : fp 0 y = Y) :
    Calls Tryz.prog 9 #[.slice (some ⟨g, 0, none⟩) 5 5, .int .i64 k] w fun e w' => e = .returned (.complex .f64 X Y) ∧ w = w' := by
  have := turn_any (some ⟨g, 0, none⟩) 5 5 knU knV k w (kn_row h) (by omega) kn_bd.1 kn_bd.2
  rw [e1, e2, e3, e4] at this
  exact this
theorem kn_mean (w : World) (g : Nat) (h : Blk w g 27 #[.complex .f64 4607182418800017408 0, .complex .f64 0 4611686018427387904, .complex .f64 13837309855095848960 0, .complex .f64 0 13839561654909534208, .complex .f64 4617315517961601024 0]) :
    Calls Tryz.prog 8 #[.slice (some ⟨g, 0, none⟩) 5 5] w fun e w' => e = .returned (.complex .f64 4603579539098121011 13824249416176474522) ∧ w = w' :=
  mean_any (some ⟨g, 0, none⟩) 5 5 knU knV w (kn_row h) (by omega) (by omega) kn_bd.1 kn_bd.2 _ _ (by decide) (by decide)
theorem nil_turn (w : World) (k : Int) : Calls Tryz.prog 9 #[.slice none 0 0, .int .i64 k] w fun e w' => e = .returned (.complex .f64 0 0) ∧ w = w' := by
  have := turn_any none 0 0 knU knV k w (ArgV.nil _ _) (by omega) (fun i hi => by omega) (fun i hi => by omega)
  rw [sumI_zero, sumI_zero, fp_zero] at this
  exact this
set_option maxRecDepth 100000 in
set_option maxHeartbeats 4000000 in
theorem known25_true (w : World) : Calls Tryz.prog 4 #[] w fun e w' => e = .returned (.bool true) ∧ Keep (fun _ => False) w w' := by
  go_enter Tryz.func4, Tryz.ntmps4
  go_wp2_with fail
  refine (awake25_true _).mono ?_
  rintro e w1 ⟨rfl, k1⟩
  have K1 := Lib.hid k1
  have HB := Lib.hid (Blk.new w1 27 #[.complex .f64 4607182418800017408 0, .complex .f64 0 4611686018427387904, .complex .f64 13837309855095848960 0, .complex .f64 0 13839561654909534208, .complex .f64 4617315517961601024 0])
  have K2 := Lib.hid (k1.alloc (.cells #[.complex .f64 4607182418800017408 0, .complex .f64 0 4611686018427387904, .complex .f64 13837309855095848960 0, .complex .f64 0 13839561654909534208, .complex .f64 4617315517961601024 0] 27))
  have T0 := Lib.hid (kn_turn _ _ 0 3 (-2) 4613937818241073152 13835058055282163712 HB.out (by decide) (by decide) (by decide) (by decide))
  have T1 := Lib.hid (kn_turn _ _ 1 3 0 4613937818241073152 0 HB.out (by decide) (by decide) (by decide) (by decide))
  have T2 := Lib.hid (kn_turn _ _ 2 3 2 4613937818241073152 4611686018427387904 HB.out (by decide) (by decide) (by decide) (by decide))
  have T3 := Lib.hid (kn_turn _ _ 3 15 0 4624633867356078080 0 HB.out (by decide) (by decide) (by decide) (by decide))
  have T4 := Lib.hid (kn_turn _ _ (-1) 15 0 4624633867356078080 0 HB.out (by decide) (by decide) (by decide) (by decide))
  have T5 := Lib.hid (kn_turn _ _ 1099511627776 3 (-2) 4613937818241073152 13835058055282163712 HB.out (by decide) (by decide) (by decide) (by decide))
  have TM := Lib.hid (kn_mean _ _ HB.out)
  have o0 : (FloatKind.f64.format.order 0 0 == some .eq) = true := by decide
  have o1 : (FloatKind.f64.format.order 4613937818241073152 4613937818241073152 == some .eq) = true := by decide
  have o2 : (FloatKind.f64.format.order 13835058055282163712 13835058055282163712 == some .eq) = true := by decide
  have o3 : (FloatKind.f64.format.order 4611686018427387904 4611686018427387904 == some .eq) = true := by decide
  have o4 : (FloatKind.f64.format.order 4624633867356078080 4624633867356078080 == some .eq) = true := by decide
  have o5 : (FloatKind.f64.format.order 4603579539098121011 4603579539098121011 == some .eq) = true := by decide
  have o6 : (FloatKind.f64.format.order 13824249416176474522 13824249416176474522 == some .eq) = true := by decide
  clear k1 HB
  go_wp2_with fail
  refine T0.out.mono ?_
  rintro e w2 ⟨rfl, rfl⟩
  go_wp2_with fail
  refine T1.out.mono ?_
  rintro e w2 ⟨rfl, rfl⟩
  go_wp2_with fail
  refine T2.out.mono ?_
  rintro e w2 ⟨rfl, rfl⟩
  go_wp2_with fail
  refine T3.out.mono ?_
  rintro e w2 ⟨rfl, rfl⟩
  go_wp2_with fail
  refine T4.out.mono ?_
  rintro e w2 ⟨rfl, rfl⟩
  go_wp2_with fail
  refine T3.out.mono ?_
  rintro e w2 ⟨rfl, rfl⟩
  go_wp2_with fail
  refine T5.out.mono ?_
  rintro e w2 ⟨rfl, rfl⟩
  go_wp2_with fail
  refine T0.out.mono ?_
  rintro e w2 ⟨rfl, rfl⟩
  go_wp2_with fail
  refine (nil_turn _ _).mono ?_
  rintro e w2 ⟨rfl, rfl⟩
  go_wp2_with fail
  refine (mean_nil none 0 _).mono ?_
  rintro e w2 ⟨rfl, rfl⟩
  go_wp2_with fail
  refine TM.out.mono ?_
  rintro e w2 ⟨rfl, rfl⟩
  go_wp2_with fail
  go_ret
  exact ⟨rfl, K2.out⟩
end Go.Proofs.YtdjgjffgheocfaaGreat
