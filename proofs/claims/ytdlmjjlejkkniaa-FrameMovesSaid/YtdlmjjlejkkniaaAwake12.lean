/- blackboardlaw12.awake. -/
import Derived.Test.YtdlmjjlejkkniaaPage
namespace Go.Proofs.Ytdlmjjlejkkniaa
open Go.RowKit
attribute [local go_sem] run_store_cx

theorem Try.info_u8 : (Try.prog.info? 5).map (fun i => (i.zero, i.size, i.bytes)) = some (some (.int .u8 0), 1, 1) := by kernel_rfl
/-- make of a row of bytes. -/
theorem make_by (x : Int) (m : Nat) (hx : x = m) (hm : m ≤ 70368744177664) (w : World) :
    (Instr.makeSlice 26 (.int .i64 x) (.int .i64 x)).run Try.prog w = .ok (.slice (some ⟨w.heap.size, 0, none⟩) m m) (w.alloc (.cells (valsArr (fun _ => .int .u8 0) m) 5)) :=
  make_vals (P := Try.prog) Try.underlying26 Try.info_u8 rfl x m hx (by omega) (by omega) w
theorem geo_22 : GeoOk 4 2 (2 : Nat) (12 : Nat) := by decide
theorem mark_1 : MarkOk 1 0 0 := ⟨by omega, by omega, by omega, by omega⟩
theorem zeros_arg (w : World) (m : Nat) (hm : m ≤ 1000000) : ArgV (w.alloc (.cells (valsArr (fun _ => .int .u8 0) m) 5)) (some ⟨w.heap.size, 0, none⟩) m (fun _ => .int .u8 (0 : Nat)) :=
  (RowV.of_blk (Blk.new w 5 _)).arg (by omega)
/-- The fresh page, its first point moved by 3. -/
def awD : Nat → Nat := pgD 1 0 0 (fun _ => 0) 20
def awS : Nat → Nat := pageS 2 12 awD
theorem awD_lt (i : Nat) : awD i < 1024 := pgD_lt mark_1 _ _ i
theorem awS_lt {i : Nat} (hi : i < 56) : awS i < 1024 := pageS_lt awD_lt (by omega) hi
theorem awS_0 : awS 0 = 1 := (word_is (W := 2) (K := 12) awD_lt 0).data 0 (by omega)
def awX (i : Nat) : Int := reS (awS i) + if i = 0 then 24 else 0
def awY (i : Nat) : Int := imS (awS i) + 0
theorem awXY_u (i : Nat) : Pu (awX i) ∧ Pu (awY i) := by
  have h1 := re_le (awS i)
  have h2 := im_le (awS i)
  unfold awX awY Pu
  constructor
  · split <;> omega
  · omega
theorem aw_sl {i : Nat} (hi : i < 56) (h0 : i ≠ 0) : slS awX awY i = awS i := by
  unfold slS awX awY
  rw [if_neg h0, Int.add_zero, Int.add_zero]
  exact sl_sym (awS_lt hi)
theorem aw_on (i : Nat) : onB (awX i) (awY i) = false := by
  unfold onB
  rw [decide_eq_false (show ¬ awY i = 0 by have := co_ne (awS i % 32); unfold awY imS; omega), Bool.and_false]
theorem aw_row0 : wrongN (fun i => onB (awX (0 + i * 2)) (awY (0 + i * 2))) (slS (fun i => awX (0 + i * 2)) (fun i => awY (0 + i * 2))) (wordS 2 12 awD 0) (12 + 16) = 1 := by
  rw [wrongN_one (k := 0) (.inr ?_)]
  · rfl
  · intro i hi h0
    refine ⟨aw_on _, ?_⟩
    rw [← page_at (by omega : 0 < 2), show pageS 2 12 awD = awS from rfl]
    exact (aw_sl (by omega) (by omega)).symm
  · rw [← page_at (by omega : 0 < 2), show pageS 2 12 awD = awS from rfl]
    show awS 0 ≠ sl (reS (awS 0) + 24) (imS (awS 0) + 0)
    rw [awS_0]
    decide
theorem aw_row1 : wrongN (fun i => onB (awX (1 + i * 2)) (awY (1 + i * 2))) (slS (fun i => awX (1 + i * 2)) (fun i => awY (1 + i * 2))) (wordS 2 12 awD 1) (12 + 16) = 0 :=
  wrongN_zero fun i hi => by
    refine ⟨aw_on _, ?_⟩
    rw [← page_at (by omega : 1 < 2), show pageS 2 12 awD = awS from rfl]
    exact (aw_sl (by omega) (by omega)).symm
theorem aw_good0 : GoodRow (fun i => awX (0 + i * 2)) (fun i => awY (0 + i * 2)) (12 + 16) (wordS 2 12 awD 0) := good_of (word_is awD_lt 0) (by rw [aw_row0]; omega)
theorem aw_good1 : GoodRow (fun i => awX (1 + i * 2)) (fun i => awY (1 + i * 2)) (12 + 16) (wordS 2 12 awD 1) := good_of (word_is awD_lt 1) (by rw [aw_row1]; omega)
theorem aw_goods (r : Nat) (hr : r < 2) : GoodRow (fun i => awX (r + i * 2)) (fun i => awY (r + i * 2)) (12 + 16) (wordS 2 12 awD r) := by
  obtain rfl | rfl : r = 0 ∨ r = 1 := by omega
  · exact aw_good0
  · exact aw_good1
theorem aw_sum : offX 2 awX (wordS 2 12 awD) 56 = 24 ∧ offY 2 awY (wordS 2 12 awD) 56 = 0 := by
  constructor
  · rw [offX_one (W := 2) (K := 12) (x := awX) (D := awD) (a := 24) (fun i _ => rfl)]
    rfl
  · rw [offY_same (W := 2) (K := 12) (x := awY) (D := awD) (a := 0) (fun i _ => rfl)]
    rfl
theorem ord_self {n : Int} (h : Sm n) : FloatKind.f64.format.order (fx n) (fx n) = some .eq := by
  rw [show FloatKind.f64.format.order (fx n) (fx n) = _ from fx_order h h, Int.compare_eq_eq.2 rfl]
theorem fx_lit3 : fx 48 = 4613937818241073152 := by decide
theorem pt_3 : Value.complex .f64 4613937818241073152 0 = ptv 24 0 := by
  unfold ptv
  rw [show (2 * (24 : Int)) = 48 from rfl, show (2 * (0 : Int)) = 0 from rfl, fx_lit3, fx_zero]
set_option maxHeartbeats 4000000 in
set_option maxRecDepth 100000 in
theorem awake12_true (w : World) :
    Calls Try.prog 27 #[] w fun e w' => e = .returned (.bool true) ∧ Keep (fun _ => False) w w' := by
  have k0 := (Keep.refl (fun _ => False) w).alloc (.cells #[.int .i64 4, .int .i64 2, .int .i64 2, .int .i64 12] 23)
  have bG0 := Blk.new w 23 #[.int .i64 4, .int .i64 2, .int .i64 2, .int .i64 12]
  go_enter Try.func27, Try.ntmps27
  go_wp2_with fail
  refine (make_any _).mono ?_
  rintro e w1 ⟨g1, g2, rfl, T, _, _, k1⟩
  have bG1 := bG0.keep k1 (by simp)
  obtain ⟨TV, k2⟩ := TVar.new T
  have bG := bG1.keep k2 (by simp)
  have kk := (k0.comp k1).comp k2
  unfold tabV
  clear T k1 k2 bG1 bG0 k0
  go_upto_region 3 with (fail)
  generalize w1.alloc (.cells #[.slice (some ⟨g1, 0, none⟩) 1023 1023, .slice (some ⟨g2, 0, none⟩) 1024 1024] 32) = W at *
  generalize w1.heap.size = gt at *
  have hgW := bG.lt
  have bGd : Blk W.drew w.heap.size 23 #[.int .i64 4, .int .i64 2, .int .i64 2, .int .i64 12] := bG.drew
  obtain ⟨q0, q1, q2, q3⟩ := geo_cells' bGd
  have hmk := make_by ((szB 2 12 : Nat) : Int) 20 (by decide) (by omega)
  go_region_held3 (fun w' => w'.cell? ⟨w.heap.size, 0, none⟩ = some (.int .i64 4) ∧ w'.cell? ⟨w.heap.size, 1, none⟩ = some (.int .i64 2) ∧ w'.cell? ⟨w.heap.size, 2, none⟩ = some (.int .i64 2) ∧ w'.cell? ⟨w.heap.size, 3, none⟩ = some (.int .i64 12))
    (first | exact ⟨q0, q1, q2, q3⟩ | exact geo_cells' b5 | exact geo_cells' (b5.alloc _) | exact geo_cells' b6)
    (first
      | (go_at_call 23; refine (rsize_any 4 2 2 12 _ geo_22).mono ?_; rintro e w5 ⟨rfl, k5⟩; have b5 := bGd.keep k5 (by simp))
      | (go_at_call 18; refine (rmake_yes 4 2 2 12 1 0 0 _ 20 (fun _ => 0) _ geo_22 mark_1 (zeros_arg _ 20 (by omega)) (fun _ _ => by omega)).mono ?_; rintro e w6 ⟨aS, cS, rfl, oS, k6⟩; have b6 := (b5.alloc (.cells (valsArr (fun _ => .int .u8 0) 20) 5)).keep k6 (by simp)))
  have hsp : pgD 1 0 0 (fun _ => 0) (szB 2 12) = awD := rfl
  rw [hsp] at oS
  clear hsp
  have OS := Lib.hid (show OwnU w6 w.heap.size aS 56 cS awS from oS.more (by have := k5.size; have := kk.size; have e : W.drew.heap.size = W.heap.size := rfl; simp; omega))
  have K6' : Keep (fun _ => False) W w6 := (show Keep (fun _ => False) W W.drew from (Keep.refl _ W).drew).comp (k5.comp (((Keep.refl _ w5).alloc _).comp k6))
  have K6 := kk.comp K6'
  have TV6 := TV.keep K6'
  clear oS k5 k6 q0 q1 q2 q3 hmk b5 bGd K6' bG TV kk hgW
  go_wp2_with fail
  refine (points_any _ 56 _ awS _ (OS.out.arg (by omega) (fun i hi => by have := awS_lt hi; omega)) (by omega)).mono ?_
  rintro e w7 ⟨aP, cP, rfl, oP, k7⟩
  obtain ⟨gP, rfl, hgP, _, rP⟩ := oP.row (by omega)
  have c0 := rP.val (show 0 < 56 by omega)
  rw [show symP awS 0 = ptv (reS (awS 0)) (imS (awS 0)) from rfl, awS_0] at c0
  have fz := rP.frozen 0
  have hop : ∀ t w, (binOp .add t (ptv (reS 1) (imS 1)) (.complex .f64 4613937818241073152 0)).run Try.prog w = .ok (ptv (reS 1 + 24) (imS 1 + 0)) w := by
    rw [pt_3]
    exact pt_add (Pm_re 1) (Pm_im 1) (by unfold Pm; decide) (by unfold Pm; decide)
  have kB := k7.setCell (p := ⟨gP, 0, none⟩) (.inr hgP) (ptv (reS 1 + 24) (imS 1 + 0))
  have r2 := rP.store 0 (ptv (reS 1 + 24) (imS 1 + 0)) (f' := ptsV awX awY) (fun k _ => by
    by_cases h : k = 0
    · subst h
      rw [if_pos rfl]
      show ptv (reS (awS 0) + 24) (imS (awS 0) + 0) = _
      rw [awS_0]
    · rw [if_neg h]
      show ptv (awX k) (awY k) = ptv (reS (awS k)) (imS (awS k))
      unfold awX awY
      rw [if_neg h, Int.add_zero, Int.add_zero])
  have HB := Lib.hid (r2.arg (by omega))
  have TV8 := TV6.keep kB
  have b8 := b6.keep kB (by simp)
  have K8 := K6.comp kB
  have OS8 := Lib.hid (OS.out.keep kB)
  obtain ⟨d0, d1⟩ := tab_cells TV8.b
  obtain ⟨q0, q1, q2, q3⟩ := geo_cells' b8
  unfold ptv at c0 hop HB TV8 b8 K8 OS8 d0 d1 q0 q1 q2 q3
  generalize fx (2 * reS 1) = X1 at *
  generalize fx (2 * imS 1) = Y1 at *
  generalize fx (2 * (reS 1 + 24)) = X2 at *
  generalize fx (2 * (imS 1 + 0)) = Y2 at *
  clear oP rP r2 b6 TV6 k7 kB OS K6
  go_wp2_with fail
  clear c0 fz
  refine (cof_any _ 4 2 2 12 56 _ _ awX awY _ geo_22 (by omega) TV8.t.has HB.out (fun i _ => ⟨(awXY_u i).1.pm, (awXY_u i).2.pm⟩)).mono ?_
  rintro e w9 ⟨⟨aL, cL, rfl, hL⟩, k9⟩
  obtain ⟨f, b, oL, hrow⟩ := hL
  have hr0 := (hrow 0 (by omega)).good (by omega) aw_good0
  have hr1 := (hrow 1 (by omega)).good (by omega) aw_good1
  rw [aw_row0] at hr0
  rw [aw_row1] at hr1
  have OL := Lib.hid oL
  have TV9 := TV8.keep k9
  have b9 := b8.keep k9 (by simp)
  have K9 := K8.comp k9
  have OS9 := Lib.hid (OS8.out.keep k9)
  have HB9 := Lib.hid (HB.out.keep k9)
  clear d0 d1 q0 q1 q2 q3 hrow k9 OS8 HB TV8 b8 oL K8
  obtain ⟨d0, d1⟩ := tab_cells TV9.b
  obtain ⟨q0, q1, q2, q3⟩ := geo_cells' b9
  go_wp2_with fail
  refine (shift_any _ 4 2 2 12 56 _ _ awX awY _ geo_22 (by omega) TV9.t.has HB9.out (fun i _ => awXY_u i)).mono ?_
  rintro e w10 ⟨hS, k10⟩
  have hS := hS.yes (D := awD) (by omega) (by omega) (by omega) aw_goods
  rw [aw_sum.1, aw_sum.2, ← pt_3] at hS
  subst hS
  obtain ⟨gL, rfl, _, _, hcl⟩ := (OL.out.keep k10).cells (by omega)
  have l0 := (hcl 0 (by omega)).1
  have l1 := (hcl 0 (by omega)).2
  have l2 := (hcl 1 (by omega)).1
  have l3 := (hcl 1 (by omega)).2
  rw [hr0.2] at l0
  rw [hr0.1] at l1
  rw [hr1.2] at l2
  rw [hr1.1] at l3
  have OS10 := Lib.hid (OS9.out.keep k10)
  have K10 := K9.comp k10
  clear d0 d1 q0 q1 q2 q3 k10 OS9 HB9 TV9 b9 OL hr0 hr1 hcl K9
  have ho0 : FloatKind.f64.format.order 0 0 = some .eq := by
    have := ord_self (n := 0) (by unfold Sm; decide)
    rwa [fx_zero] at this
  have ho1 : FloatKind.f64.format.order 4607182418800017408 4607182418800017408 = some .eq := by
    have := ord_self (n := 16) (by unfold Sm; decide)
    rwa [fx_lit1] at this
  have ho3 : FloatKind.f64.format.order 4613937818241073152 4613937818241073152 = some .eq := by
    have := ord_self (n := 48) (by unfold Sm; decide)
    rwa [fx_lit3] at this
  clear hop hS
  go_wp2_with fail
  clear ho0 ho3 l0 l1 l2 l3
  refine (points_any _ 56 _ awS _ (OS10.out.arg (by omega) (fun i hi => by have := awS_lt hi; omega)) (by omega)).mono ?_
  rintro e w11 ⟨aM, cM, rfl, oM, k11⟩
  have hfar : farE (fun i => reS (awS i)) (fun i => imS (awS i)) 56 = 0 := farE_zero (fun i hi => awS_lt hi)
  go_wp2_with fail
  refine (margin_any aM 56 _ (fun i => reS (awS i)) (fun i => imS (awS i)) _ (oM.arg (by omega)) (fun i _ => ⟨(Pu_re _).pm, (Pu_im _).pm⟩)).mono ?_
  rw [hfar, show fx (16 - 2 * ((0 : Nat) : Int)) = 4607182418800017408 from fx_lit1]
  rintro e w12 ⟨rfl, rfl⟩
  clear oM hfar
  go_wp2_with fail
  go_ret
  exact ⟨rfl, K10.comp k11⟩
end Go.Proofs.Ytdlmjjlejkkniaa
