/- blackboardlaw25.awake: the document's example. -/
import Derived.Test.YtdjgjffgheocfaaGreatGauge
import Derived.Test.YtdjgjffgheocfaaGreatMeanT
namespace Go.Proofs.YtdjgjffgheocfaaGreat
open Go.RowKit Ieee

theorem fp_1 : fp 0 1 = 4607182418800017408 := by decide
theorem fp_2 : fp 0 2 = 4611686018427387904 := by decide
theorem fp_4 : fp 0 4 = 4616189618054758400 := by decide
/-- A row of points just laid. -/
theorem laid_c {w : World} {g n : Nat} {cs : Array Value} {u v : Nat → Int} (h : Blk w g 27 cs) (hn : n ≤ 1000) (hc : ∀ i, i < n → cs[i]? = some (wpV u v i)) : ArgV w (some ⟨g, 0, none⟩) n (wpV u v) :=
  ⟨by omega, fun _ => ⟨g, 0, rfl, h.lt, fun i hi => by rw [Nat.zero_add, h.cell]; exact hc i hi⟩⟩
def awU : Nat → Int := fun i => if i = 0 then 2 else 0
def awV : Nat → Int := fun i => if i = 0 then 0 else 4
theorem bd_small {n : Nat} {u : Nat → Int} (h : ∀ i, i < n → (u i).natAbs ≤ 1000) : Bd n u := fun i hi => by have := h i hi; omega
theorem aw_turn (w : World) (g : Nat) (h : Blk w g 27 #[.complex .f64 4607182418800017408 0, .complex .f64 4607182418800017408 0]) :
    Calls Tryz.prog 9 #[.slice (some ⟨g, 0, none⟩) 2 2, .int .i64 2] w fun e w' => e = .returned (.complex .f64 0 0) ∧ w = w' := by
  have := turn_any (some ⟨g, 0, none⟩) 2 2 (fun _ => 1) (fun _ => 0) 2 w (laid_c h (by omega) (fun i hi => by
    obtain rfl | rfl : i = 0 ∨ i = 1 := by omega
    · show some (Value.complex .f64 4607182418800017408 0) = some (.complex .f64 (fp 0 1) (fp 0 0))
      rw [fp_1, fp_zero]
    · show some (Value.complex .f64 4607182418800017408 0) = some (.complex .f64 (fp 0 1) (fp 0 0))
      rw [fp_1, fp_zero])) (by omega) (bd_small fun i hi => by decide) (bd_small fun i hi => by decide)
  have e1 : sumI (tuF (qk 2) (fun _ => 1) (fun _ => 0)) 2 = 0 := by decide
  have e2 : sumI (tvF (qk 2) (fun _ => 1) (fun _ => 0)) 2 = 0 := by decide
  rw [e1, e2, fp_zero] at this
  exact this
theorem aw_mean (w : World) (g : Nat) (h : Blk w g 27 #[.complex .f64 4611686018427387904 0, .complex .f64 0 4616189618054758400]) :
    Calls Tryz.prog 8 #[.slice (some ⟨g, 0, none⟩) 2 2] w fun e w' => e = .returned (.complex .f64 4607182418800017408 4611686018427387904) ∧ w = w' := by
  refine mean_any (some ⟨g, 0, none⟩) 2 2 awU awV w (laid_c h (by omega) (fun i hi => ?_)) (by omega) (by omega) (bd_small fun i hi => ?_) (bd_small fun i hi => ?_) _ _ (by decide) (by decide)
  · obtain rfl | rfl : i = 0 ∨ i = 1 := by omega
    · show some (Value.complex .f64 4611686018427387904 0) = some (.complex .f64 (fp 0 2) (fp 0 0))
      rw [fp_2, fp_zero]
    · show some (Value.complex .f64 0 4616189618054758400) = some (.complex .f64 (fp 0 0) (fp 0 4))
      rw [fp_4, fp_zero]
  · unfold awU
    split <;> decide
  · unfold awV
    split <;> decide
theorem geo_6 : GeoOk 6 2 (1 : Nat) (12 : Nat) := by decide
set_option maxRecDepth 100000 in
set_option maxHeartbeats 2000000 in
theorem aw_new (w : World) (g : Nat) (h : Blk w g 3 #[.int .i64 2]) :
    Calls Tryz.prog 10 #[geoV 6 2 1 12, .int .i64 1, .slice (some ⟨g, 0, none⟩) 1 1, .slice none 0 0] w fun e w' => ∃ sb, e = .returned (.tuple #[.pointer (some ⟨sb, 0, none⟩), .int .i64 0]) ∧ Keep (fun _ => False) w w' ∧
      Hid (∀ w2, Keep (fun _ => False) w' w2 → Calls Tryz.prog 11 #[.pointer (some ⟨sb, 0, none⟩)] w2 fun e w3 => ∃ wo most least : Int, e = .returned (.tuple #[.agg #[.int .i64 11, .int .i64 0, .int .i64 1, .int .i64 wo, .int .i64 most, .int .i64 least, .bool false, .bool true], .int .i64 0]) ∧ Keep (fun _ => False) w2 w3) := by
  refine (playnew_ok 6 2 1 12 1 (some ⟨g, 0, none⟩) 1 1 (fun _ => 2) w geo_6 (by omega) ⟨by omega, fun _ => ⟨g, 0, rfl, h.lt, fun i hi => ?_⟩⟩ (fun i hi => ⟨by omega, by omega⟩) (by omega) (by decide)).mono ?_
  · obtain rfl : i = 0 := by omega
    rw [Nat.zero_add, h.cell]
    rfl
  · rintro e w' ⟨num, r, sb, pb, ao, co, rb, rfl, hm, hd, hs, hp, hk⟩
    refine ⟨sb, rfl, hk, Lib.hid fun w2 k2 => ?_⟩
    have hB : (fmC (ChipS.new 6 2 1 12 (markF (fun _ => 2) 1) (fun _ => none)) 6).B = 6 := (fmC_same _ _).1
    have hops : (fmC (ChipS.new 6 2 1 12 (markF (fun _ => 2) 1) (fun _ => none)) 6).ops = 11 := by decide
    have hbn : badN (fmC (ChipS.new 6 2 1 12 (markF (fun _ => 2) 1) (fun _ => none)) 6).bad 6 = 1 := by decide
    have hro : (fmD (markF (fun _ => 2) 1) 1 (lpN 6 2 1) 6).ro = false := by decide
    have h1 : ∀ i j, ((fmC (ChipS.new 6 2 1 12 (markF (fun _ => 2) 1) (fun _ => none)) 6).pg i j).st ≠ 1 := fun i j => by
      rw [fmC_blank _ (fun _ _ => rfl)]
      decide
    have hf := fun w' (k : Keep (fun _ => False) w2 w') => fits_none sb pb _ r (num .chip) 6 2 1 12 _ w' ao co rb (Blk.keep hs (k2.comp k) (by simp)) (hd.keepF (k2.comp k)) geo_6 (hp.keepF (k2.comp k)) (by decide) (by decide) rfl (fun i hi => ⟨rfl, rfl⟩)
    generalize hC : fmC (ChipS.new 6 2 1 12 (markF (fun _ => 2) 1) (fun _ => none)) 6 = C at *
    generalize fmD (markF (fun _ => 2) 1) 1 (lpN 6 2 1) 6 = D at *
    have := gof_ok num C r sb pb 2 1 12 _ D w2 (hm.keepF k2) (by rw [hB]; exact Blk.keep hs k2 (by simp)) (by rw [hB]; exact hd.keepF k2) h1 hf
    rw [hB, hops, hbn, hro] at this
    exact this
set_option maxRecDepth 100000 in
set_option maxHeartbeats 2000000 in
theorem awake25_true (w : World) : Calls Tryz.prog 7 #[] w fun e w' => e = .returned (.bool true) ∧ Keep (fun _ => False) w w' := by
  have HB0 := Lib.hid (Blk.new w 3 #[.int .i64 2])
  have K0 := Lib.hid ((Keep.refl (fun _ => False) w).alloc (.cells #[.int .i64 2] 3))
  go_enter Tryz.func7, Tryz.ntmps7
  go_wp2_with fail
  refine (aw_new _ _ HB0.out).mono ?_
  rintro e w1 ⟨sb, rfl, k1, HOF⟩
  have K1 := Lib.hid (K0.out.comp k1)
  clear k1
  go_wp2_with fail
  refine (HOF.out _ (Keep.refl _ _)).mono ?_
  rintro e w2 ⟨wo, mo, le, rfl, k2⟩
  have K2 := Lib.hid (K1.out.comp k2)
  clear k2
  have HB3 := Blk.new w2 45 #[.int .i64 11, .int .i64 0, .int .i64 1, .int .i64 wo, .int .i64 mo, .int .i64 le, .bool false, .bool true]
  have K3 := Lib.hid (K2.out.alloc (.cells #[.int .i64 11, .int .i64 0, .int .i64 1, .int .i64 wo, .int .i64 mo, .int .i64 le, .bool false, .bool true] 45))
  go_upto_region 5 with (fail)
  generalize hgw : w2.heap.size = g at *
  generalize w2.alloc (.cells #[.int .i64 11, .int .i64 0, .int .i64 1, .int .i64 wo, .int .i64 mo, .int .i64 le, .bool false, .bool true] 45) = w3 at *
  have c2 : w3.cell? ⟨g, 2, none⟩ = some (.int .i64 1) := by rw [HB3.cell]; rfl
  have c7 : w3.cell? ⟨g, 7, none⟩ = some (.bool true) := by rw [HB3.cell]; rfl
  have c6 : w3.cell? ⟨g, 6, none⟩ = some (.bool false) := by rw [HB3.cell]; rfl
  have c0 : w3.cell? ⟨g, 0, none⟩ = some (.int .i64 11) := by rw [HB3.cell]; rfl
  have HT := Lib.hid (aw_turn _ _ (Blk.new w3 27 #[.complex .f64 4607182418800017408 0, .complex .f64 4607182418800017408 0]))
  have K4 := Lib.hid (K3.out.alloc (.cells #[.complex .f64 4607182418800017408 0, .complex .f64 4607182418800017408 0] 27))
  have o1 : (FloatKind.f64.format.order 0 0 == some .eq) = true := by decide
  have o2 : (FloatKind.f64.format.order 4607182418800017408 4607182418800017408 == some .eq) = true := by decide
  have o3 : (FloatKind.f64.format.order 4611686018427387904 4611686018427387904 == some .eq) = true := by decide
  clear hgw HB3 HOF
  go_wp2_with fail
  refine HT.out.mono ?_
  rintro e w4 ⟨rfl, rfl⟩
  clear HT c2 c7 c6 c0
  generalize w3.alloc (.cells #[.complex .f64 4607182418800017408 0, .complex .f64 4607182418800017408 0] 27) = w4 at *
  have HM := Lib.hid (aw_mean _ _ (Blk.new w4 27 #[.complex .f64 4611686018427387904 0, .complex .f64 0 4616189618054758400]))
  have K5 := Lib.hid (K4.out.alloc (.cells #[.complex .f64 4611686018427387904 0, .complex .f64 0 4616189618054758400] 27))
  go_wp2_with fail
  refine HM.out.mono ?_
  rintro e w5 ⟨rfl, rfl⟩
  go_wp2_with fail
  go_ret
  exact ⟨rfl, K5.out⟩
end Go.Proofs.YtdjgjffgheocfaaGreat
