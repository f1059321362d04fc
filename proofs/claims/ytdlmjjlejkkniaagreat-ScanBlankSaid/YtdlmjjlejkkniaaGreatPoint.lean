/- Points: a symbol's, and the symbol that one is nearest. -/
import Derived.Test.YtdlmjjlejkkniaaGreatFl
import Derived.Test.YtdlmjjlejkkniaaGreatU
import Derived.Test.YtdlmjjlejkkniaaGreatBitN
import Derived.WalkLawsBesides
import Derived.Laws.Externs
namespace Go.Proofs.YtdlmjjlejkkniaaGreat
open Go.RowKit

theorem fx_lit0 : fx 0 = 0 := fx_zero
theorem fx_lit1 : fx 16 = 4607182418800017408 := by decide
theorem fx_lit2 : fx 32 = 4611686018427387904 := by decide
theorem fx_lit16 : fx 256 = 4625196817309499392 := by decide
theorem fx_lit31 : fx 496 = 4629418941960159232 := by decide

set_option maxRecDepth 100000 in
/-- math.Floor. -/
theorem floor_word {x y : Nat} (hx : (Ieee.double.read x).isNaN = false) (hy : Ieee.double.write ((Ieee.double.read x).integral .down) = y) (w : World) :
    Calls Tryz.prog 112 #[.float .f64 x] w fun e w' => e = .returned (.float .f64 y) ∧ w = w' := by
  have hrun : ∀ w, (Extern.MathFloor.toIntegral "math.archFloor" .down #[.float .f64 x]).run Tryz.prog w = .ok (.float .f64 y) w := by
    intro w
    change Sem.run Tryz.prog (Extern.MathFloor.toIntegral.match_1 (motive := fun _ => Sem Value) (Ieee.double.read x) _ _) w = _
    generalize Ieee.double.read x = d at hx hy
    cases d with
    | nan s t => cases hx
    | number s m i => rw [← hy]; rfl
    | infinity s => rw [← hy]; rfl
  go_enter Tryz.func112, Tryz.ntmps112
  go_wp2
  rw [run_callFunc_extern Tryz.func126 (by kernel_rfl) (by kernel_rfl) (by kernel_rfl) (e := Extern.MathFloor.toIntegral "math.archFloor" .down) (by kernel_rfl), hrun]
  simp only [Result.andThen]
  rw [Oper.upon_value]
  go_wp2
  go_ret
  exact ⟨rfl, rfl⟩
theorem floor_any {n : Int} (h : Sm n) (w : World) :
    Calls Tryz.prog 112 #[.float .f64 (fx n)] w fun e w' => e = .returned (.float .f64 (fx (16 * (n / 16)))) ∧ w = w' := by
  refine floor_word ?_ (fx_floor h) w
  obtain ⟨e, he⟩ := fx_read h
  rw [he]
  rfl
theorem fl_gt {a b : Int} (ha : Sm a) (hb : Sm b) : (FloatKind.f64.format.order (fx a) (fx b) == some .gt) = decide (b < a) := by
  rw [show FloatKind.f64.format.order (fx a) (fx b) = _ from fx_order ha hb]
  by_cases h : b < a
  · rw [decide_eq_true h, Int.compare_eq_gt.2 h]; rfl
  · rw [decide_eq_false h]
    rcases Int.lt_or_eq_of_le (Int.not_lt.1 h) with h | h
    · rw [Int.compare_eq_lt.2 h]; rfl
    · rw [Int.compare_eq_eq.2 h]; rfl
theorem fl_lt {a b : Int} (ha : Sm a) (hb : Sm b) : (FloatKind.f64.format.order (fx a) (fx b) == some .lt) = decide (a < b) := by
  rw [show FloatKind.f64.format.order (fx a) (fx b) = _ from fx_order ha hb]
  by_cases h : a < b
  · rw [decide_eq_true h, Int.compare_eq_lt.2 h]; rfl
  · rw [decide_eq_false h]
    rcases Int.lt_or_eq_of_le (Int.not_lt.1 h) with h | h
    · rw [Int.compare_eq_gt.2 h]; rfl
    · rw [Int.compare_eq_eq.2 h.symm]; rfl
theorem fl_eq {a b : Int} (ha : Sm a) (hb : Sm b) : (FloatKind.f64.format.order (fx a) (fx b) == some .eq) = decide (a = b) := by
  rw [show FloatKind.f64.format.order (fx a) (fx b) = _ from fx_order ha hb]
  by_cases h : a = b
  · rw [decide_eq_true h, Int.compare_eq_eq.2 h]; rfl
  · rw [decide_eq_false h]
    rcases Int.lt_or_gt_of_ne h with h | h
    · rw [Int.compare_eq_lt.2 h]; rfl
    · rw [Int.compare_eq_gt.2 h]; rfl
/-- Which five bits a coordinate of 2 a sixteenths is nearest. -/
def levI (a : Int) : Int := min 31 (max 0 ((256 + a) / 16))
theorem levI_of (a : Int) : levI a = if 31 < (256 + a) / 16 then 31 else if 0 < (256 + a) / 16 then (256 + a) / 16 else 0 := by
  unfold levI
  omega
def levN (a : Int) : Nat := (levI a).toNat
theorem levN_le (a : Int) : levN a ≤ 31 := by
  unfold levN levI
  omega
theorem levN_eq (a : Int) : ((levN a : Nat) : Int) = levI a := by
  unfold levN levI
  omega
theorem fl_u16 {k : Int} (h0 : 0 ≤ k) (h1 : k ≤ 65535) : floatToIntVal .f64 (fx (16 * k)) .u16 = some k := by
  have hs : Sm (16 * k) := by unfold Sm; omega
  unfold floatToIntVal
  rw [show (FloatKind.f64.decode (fx (16 * k))).toInt .zero = some k from fx_int hs]
  exact if_pos ⟨h0, h1⟩

set_option maxRecDepth 100000 in
set_option maxHeartbeats 1000000 in
theorem level_any (a : Int) (ha : a.natAbs < 1099511627776) (w : World) :
    Calls Tryz.prog 102 #[.float .f64 (fx (2 * a))] w fun e w' => e = .returned (.int .u16 (levN a : Nat)) ∧ w = w' := by
  rw [levN_eq]
  have s1 : Sm (256 + a) := by unfold Sm; omega
  have hop1 : ∀ t w, (binOp .quo t (.float .f64 (fx (2 * a))) (.float .f64 4611686018427387904)).run Tryz.prog w = .ok (.float .f64 (fx a)) w := fun t w => run_float_arith w .quo t .f64 _ _ _ (fx_lit2 ▸ fx_half (by unfold Sm; omega))
  have hop2 : ∀ t w, (binOp .add t (.float .f64 4625196817309499392) (.float .f64 (fx a))).run Tryz.prog w = .ok (.float .f64 (fx (256 + a))) w := fun t w => run_float_arith w .add t .f64 _ _ _ (fx_lit16 ▸ fx_add (by unfold Sm; decide) (by unfold Sm; omega) s1)
  have hfl := fun w => floor_any s1 w
  have hg1 := fl_gt (a := 16 * ((256 + a) / 16)) (b := 496) (by unfold Sm; omega) (by unfold Sm; decide)
  have hg2 := fl_gt (a := 16 * ((256 + a) / 16)) (b := 0) (by unfold Sm; omega) (by unfold Sm; decide)
  rw [fx_lit31] at hg1
  rw [fx_zero] at hg2
  have hcv : 0 ≤ (256 + a) / 16 → (256 + a) / 16 ≤ 31 → ∀ w, (convert 144 25 (.float .f64 (fx (16 * ((256 + a) / 16))))).run Tryz.prog w = .ok (.int .u16 ((256 + a) / 16)) w := fun h0 h1 w =>
    run_convert_float_int w 144 25 .f64 .u16 _ _ (by rw [Tryz.underlying144]; rfl) Tryz.underlying25 (fl_u16 h0 (by omega))
  rw [levI_of]
  have e1 : decide ((496 : Int) < 16 * ((256 + a) / 16)) = decide (31 < (256 + a) / 16) := by
    by_cases h : 31 < (256 + a) / 16
    · rw [decide_eq_true h, decide_eq_true (by omega)]
    · rw [decide_eq_false h, decide_eq_false (by omega)]
  have e2 : decide ((0 : Int) < 16 * ((256 + a) / 16)) = decide (0 < (256 + a) / 16) := by
    by_cases h : 0 < (256 + a) / 16
    · rw [decide_eq_true h, decide_eq_true (by omega)]
    · rw [decide_eq_false h, decide_eq_false (by omega)]
  rw [e1] at hg1
  rw [e2] at hg2
  clear e1 e2 s1 ha
  generalize fx (16 * ((256 + a) / 16)) = V at *
  generalize fx (256 + a) = Z at *
  generalize (256 + a) / 16 = k at *
  generalize fx (2 * a) = X at *
  generalize fx a = Y at *
  go_enter Tryz.func102, Tryz.ntmps102
  go_wp2_with (simp only [hop1, hop2])
  refine (hfl _).mono ?_
  rintro e w1 ⟨rfl, rfl⟩
  clear hop1 hop2 hfl
  by_cases h31 : 31 < k
  · rw [decide_eq_true h31] at hg1
    clear hg2 hcv
    go_wp2_with fail
    go_ret
    exact ⟨rfl, rfl⟩
  · rw [decide_eq_false h31] at hg1
    by_cases h0 : 0 < k
    · rw [decide_eq_true h0] at hg2
      have hc := hcv (by omega) (by omega)
      clear hcv
      go_wp2_with fail
      go_ret
      exact ⟨rfl, rfl⟩
    · rw [decide_eq_false h0] at hg2
      clear hcv
      go_wp2_with fail
      go_ret
      exact ⟨rfl, rfl⟩
/-- A point, in eighths. -/
def ptv (a b : Int) : Value := .complex .f64 (fx (2 * a)) (fx (2 * b))
/-- What is reckoned with. -/
def Pm (a : Int) : Prop := a.natAbs < 1099511627776
/-- The symbol that a point is nearest. -/
def sl (a b : Int) : Nat := levN a * 32 + levN b
theorem sl_lt (a b : Int) : sl a b < 1024 := by
  have := levN_le a
  have := levN_le b
  unfold sl
  omega
theorem or_levels {x y : Nat} (hy : y ≤ 31) (hx : x ≤ 31) : bits .or .u16 ((x : Int) * 32) (y : Int) = ((x * 32 + y : Nat) : Int) := by
  have h := or_u16 (a := x * 32) (b := y) (by omega) (by omega)
  have e : x * 32 ||| y = x * 32 + y := by
    have := nat_join 5 (x * 32) y (by omega) (by omega)
    exact this
  rw [e] at h
  rwa [Int.natCast_mul] at h

set_option maxRecDepth 100000 in
set_option maxHeartbeats 1000000 in
theorem slice_any (a b : Int) (ha : Pm a) (hb : Pm b) (w : World) :
    Calls Tryz.prog 90 #[ptv a b] w fun e w' => e = .returned (.int .u16 (sl a b : Nat)) ∧ w = w' := by
  have h1 := fun w => level_any a ha w
  have h2 := fun w => level_any b hb w
  have hor := or_levels (levN_le b) (levN_le a)
  have hx := levN_le a
  unfold ptv sl
  generalize levN a = x at *
  generalize levN b = y at *
  generalize fx (2 * a) = X at *
  generalize fx (2 * b) = Y at *
  clear ha hb
  go_enter Tryz.func90, Tryz.ntmps90
  go_wp2_with fail
  refine (h1 _).mono ?_
  rintro e w1 ⟨rfl, rfl⟩
  go_wp2_with fail
  refine (h2 _).mono ?_
  rintro e w1 ⟨rfl, rfl⟩
  go_wp2_with fail
  go_ret
  exact ⟨rfl, rfl⟩
theorem fl_ne {a b : Int} (ha : Sm a) (hb : Sm b) : (FloatKind.f64.format.order (fx a) (fx b) != some .eq) = !decide (a = b) := by
  rw [bne, fl_eq ha hb]
/-- A symbol's five bits as a coordinate, in eighths. -/
def co (n : Nat) : Int := 8 * (2 * (n : Int) - 31)
theorem co_float (n : Nat) (hn : n ≤ 31) : floatOfInt .f64 (2 * (n : Int) - 31) = fx (2 * co n) := by
  have h := fx_whole (decide (2 * (n : Int) - 31 < 0)) (z := 2 * (n : Int) - 31) (by omega) rfl
  have e : 2 * co n = 16 * (2 * (n : Int) - 31) := by unfold co; omega
  rw [e]
  exact h
theorem lev_co {n : Nat} (h : n ≤ 31) : levN (co n) = n := by
  unfold levN levI co
  omega
theorem shr_five {s : Nat} : ((s : Int) / 32) = ((s / 32 : Nat) : Int) := by omega
theorem and_31 {s : Nat} (h : s < 65536) : bits .and .u16 (s : Int) 31 = ((s % 32 : Nat) : Int) := by
  have h := and_u16 (a := s) (b := 31) h (by omega)
  rw [show s &&& 31 = s % 32 from Nat.and_two_pow_sub_one_eq_mod s 5] at h
  exact h
set_option maxRecDepth 100000 in
theorem coord_any (n : Nat) (hn : n ≤ 31) (w : World) :
    Calls Tryz.prog 86 #[.int .u16 n] w fun e w' => e = .returned (.float .f64 (fx (2 * co n))) ∧ w = w' := by
  rw [← co_float n hn]
  go_enter Tryz.func86, Tryz.ntmps86
  go_wp2_with fail
  go_ret
  exact ⟨rfl, rfl⟩
/-- A symbol's point. -/
def reS (s : Nat) : Int := co (s % 1024 / 32)
def imS (s : Nat) : Int := co (s % 32)
theorem Pm_co {n : Nat} (h : n ≤ 31) : Pm (co n) := by
  unfold Pm co
  omega
theorem Pm_re (s : Nat) : Pm (reS s) := Pm_co (by omega)
theorem Pm_im (s : Nat) : Pm (imS s) := Pm_co (by omega)
theorem sl_sym {s : Nat} (h : s < 1024) : sl (reS s) (imS s) = s := by
  unfold sl reS imS
  rw [lev_co (by omega), lev_co (by omega)]
  omega
set_option maxRecDepth 100000 in
set_option maxHeartbeats 1000000 in
theorem of_any (s : Nat) (hs : s < 65536) (w : World) :
    Calls Tryz.prog 64 #[.int .u16 s] w fun e w' => e = .returned (ptv (reS s) (imS s)) ∧ w = w' := by
  have hm : ((s : Int)).tmod 1024 = ((s % 1024 : Nat) : Int) := by rw [Int.tmod_eq_emod_of_nonneg (by omega)]; omega
  have hr : s % 1024 < 1024 := by omega
  have e2 : s % 32 = s % 1024 % 32 := by omega
  unfold ptv reS imS
  rw [e2]
  have ha := and_31 (s := s % 1024) (by omega)
  have hh := shr_five (s := s % 1024)
  have h1 := fun w => coord_any (s % 1024 / 32) (by omega) w
  have h2 := fun w => coord_any (s % 1024 % 32) (by omega) w
  generalize s % 1024 = r at *
  generalize r / 32 = q at *
  generalize r % 32 = p at *
  generalize fx (2 * co q) = X at *
  generalize fx (2 * co p) = Y at *
  clear e2
  go_enter Tryz.func64, Tryz.ntmps64
  go_wp2_with fail
  refine (h1 _).mono ?_
  rintro e w1 ⟨rfl, rfl⟩
  go_wp2_with fail
  refine (h2 _).mono ?_
  rintro e w1 ⟨rfl, rfl⟩
  go_wp2_with fail
  go_ret
  exact ⟨rfl, rfl⟩
theorem c_add {a b c d : Int} (ha : Pm a) (hb : Pm b) (hc : Pm c) (hd : Pm d) : cSumBits .add .f64 (fx (2 * a)) (fx (2 * b)) (fx (2 * c)) (fx (2 * d)) = some (fx (2 * (a + c)), fx (2 * (b + d))) := by
  unfold Pm at *
  unfold cSumBits
  rw [show floatBits .add .f64 (fx (2 * a)) (fx (2 * c)) = some (fx (2 * a + 2 * c)) from fx_add (by unfold Sm; omega) (by unfold Sm; omega) (by unfold Sm; omega),
    show floatBits .add .f64 (fx (2 * b)) (fx (2 * d)) = some (fx (2 * b + 2 * d)) from fx_add (by unfold Sm; omega) (by unfold Sm; omega) (by unfold Sm; omega), Int.mul_add, Int.mul_add]
  rfl
theorem c_sub {a b c d : Int} (ha : Pm a) (hb : Pm b) (hc : Pm c) (hd : Pm d) : cSumBits .sub .f64 (fx (2 * a)) (fx (2 * b)) (fx (2 * c)) (fx (2 * d)) = some (fx (2 * (a - c)), fx (2 * (b - d))) := by
  unfold Pm at *
  unfold cSumBits
  rw [show floatBits .sub .f64 (fx (2 * a)) (fx (2 * c)) = some (fx (2 * a - 2 * c)) from fx_sub (by unfold Sm; omega) (by unfold Sm; omega) (by unfold Sm; omega),
    show floatBits .sub .f64 (fx (2 * b)) (fx (2 * d)) = some (fx (2 * b - 2 * d)) from fx_sub (by unfold Sm; omega) (by unfold Sm; omega) (by unfold Sm; omega), Int.mul_sub, Int.mul_sub]
  rfl
theorem pt_add {a b c d : Int} (ha : Pm a) (hb : Pm b) (hc : Pm c) (hd : Pm d) (t : TypeId) (w : World) : (binOp .add t (ptv a b) (ptv c d)).run Tryz.prog w = .ok (ptv (a + c) (b + d)) w :=
  run_complex_sum w .add (.inl rfl) t .f64 _ _ _ _ _ _ (c_add ha hb hc hd)
theorem pt_sub {a b c d : Int} (ha : Pm a) (hb : Pm b) (hc : Pm c) (hd : Pm d) (t : TypeId) (w : World) : (binOp .sub t (ptv a b) (ptv c d)).run Tryz.prog w = .ok (ptv (a - c) (b - d)) w :=
  run_complex_sum w .sub (.inr rfl) t .f64 _ _ _ _ _ _ (c_sub ha hb hc hd)
end Go.Proofs.YtdlmjjlejkkniaaGreat
