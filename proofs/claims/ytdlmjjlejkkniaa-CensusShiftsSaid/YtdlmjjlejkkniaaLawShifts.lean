/- blackboardlaw12.CensusShifts: a page whose cells all move by less than half a step. -/
import Derived.Test.YtdlmjjlejkkniaaFlMul
namespace Go.Proofs.Ytdlmjjlejkkniaa
open Go.ChangeShapes Go.WideShapes Go.ChangeAt Go.RowKit
attribute [local go_sem] run_store_cx

theorem lev_co_off {n : Nat} (h : n ≤ 31) {e : Int} (h1 : -8 ≤ e) (h2 : e < 8) : levN (co n + e) = n := by
  unfold levN levI co
  omega
theorem sl_off {s : Nat} (h : s < 1024) {dx dy : Int} (h1 : -8 ≤ dx ∧ dx < 8) (h2 : -8 ≤ dy ∧ dy < 8) : sl (reS s + dx) (imS s + dy) = s := by
  unfold sl reS imS
  rw [lev_co_off (by omega) h1.1 h1.2, lev_co_off (by omega) h2.1 h2.2]
  omega
/-- The first j points of a page moved. -/
def shX (S : Nat → Nat) (dx : Int) (j : Nat) : Nat → Int := fun i => reS (S i) + if i < j then dx else 0
def shY (S : Nat → Nat) (dy : Int) (j : Nat) : Nat → Int := fun i => imS (S i) + if i < j then dy else 0
theorem shX_u {S : Nat → Nat} {dx : Int} (h : -8 ≤ dx ∧ dx < 8) (j i : Nat) : Pu (shX S dx j i) := by
  have := re_le (S i)
  unfold shX Pu
  split <;> omega
theorem shY_u {S : Nat → Nat} {dx : Int} (h : -8 ≤ dx ∧ dx < 8) (j i : Nat) : Pu (shY S dx j i) := by
  have := im_le (S i)
  unfold shY Pu
  split <;> omega
theorem sh_sl {S : Nat → Nat} {dx dy : Int} (h1 : -8 ≤ dx ∧ dx < 8) (h2 : -8 ≤ dy ∧ dy < 8) {n i : Nat} (hi : i < n) (hS : S i < 1024) : slS (shX S dx n) (shY S dy n) i = S i := by
  unfold slS shX shY
  rw [if_pos hi, if_pos hi]
  exact sl_off hS h1 h2
theorem sh_on {S : Nat → Nat} {dx dy : Int} (h1 : -8 < dx ∧ dx < 8) (j i : Nat) : onB (shX S dx j i) (shY S dy j i) = false := by
  unfold onB shX reS co
  rw [decide_eq_false (by split <;> omega)]
  rfl
theorem sh_wrong {W K : Nat} {D : Nat → Nat} (hD : ∀ i, D i < 1024) (hW : 1 ≤ W) {dx dy : Int} (h1 : -8 < dx ∧ dx < 8) (h2 : -8 ≤ dy ∧ dy < 8) {r : Nat} (hr : r < W) :
    wrongN (fun i => onB (shX (pageS W K D) dx (W * (K + 16)) (r + i * W)) (shY (pageS W K D) dy (W * (K + 16)) (r + i * W)))
      (slS (fun i => shX (pageS W K D) dx (W * (K + 16)) (r + i * W)) (fun i => shY (pageS W K D) dy (W * (K + 16)) (r + i * W))) (wordS W K D r) (K + 16) = 0 :=
  wrongN_zero fun i hi => ⟨sh_on h1 _ _, by
    rw [← page_at hr]
    have hlt := (row_lt (r := r) (j := i) (W := W) (N := K + 16) hr).2 hi
    exact (sh_sl ⟨by omega, h1.2⟩ h2 hlt (pageS_lt hD hW hlt)).symm⟩
theorem sh_good {W K : Nat} {D : Nat → Nat} (hD : ∀ i, D i < 1024) (hW : 1 ≤ W) {dx dy : Int} (h1 : -8 < dx ∧ dx < 8) (h2 : -8 ≤ dy ∧ dy < 8) {r : Nat} (hr : r < W) :
    GoodRow (fun i => shX (pageS W K D) dx (W * (K + 16)) (r + i * W)) (fun i => shY (pageS W K D) dy (W * (K + 16)) (r + i * W)) (K + 16) (wordS W K D r) :=
  good_of (word_is hD r) (by rw [sh_wrong hD hW h1 h2 hr]; omega)
theorem sh_far {S : Nat → Nat} {dx dy : Int} (h1 : -8 ≤ dx ∧ dx < 8) (h2 : -8 ≤ dy ∧ dy < 8) {n : Nat} (hS : ∀ i, i < n → S i < 1024) : ∀ m, m ≤ n → farE (shX S dx n) (shY S dy n) m = if 0 < m then max dx.natAbs dy.natAbs else 0
  | 0, _ => rfl
  | m + 1, hm => by
    unfold farE
    rw [sh_far h1 h2 hS m (by omega), sh_sl h1 h2 (by omega) (hS m (by omega)), if_pos (show 0 < m + 1 by omega)]
    have e1 : shX S dx n m - reS (S m) = dx := by unfold shX; rw [if_pos (by omega)]; omega
    have e2 : shY S dy n m - imS (S m) = dy := by unfold shY; rw [if_pos (by omega)]; omega
    rw [e1, e2]
    split <;> omega

theorem lit_refalse : fx 8 = 4602678819172646912 := by decide
theorem lit_imfalse : fx (-4) = 13821547256400052224 := by decide
theorem lit_nrefalse : fx (-8) = 13826050856027422720 := by decide
theorem lit_nimfalse : fx (-(-4)) = 4598175219545276416 := by decide
theorem pt_dfalse : Value.complex .f64 4602678819172646912 13821547256400052224 = ptv 4 (-2) := by
  unfold ptv
  rw [show (2 * (4 : Int)) = 8 from rfl, show (2 * ((-2) : Int)) = (-4) from rfl, lit_refalse, lit_imfalse]
set_option maxRecDepth 100000 in
set_option maxHeartbeats 8000000 in
theorem shifts_false (w : World) (B P W K : Int) (a : Option Addr) (n c : Nat) (d : Nat → Nat) (ha : n ≤ 1000000 → ArgV w a n (fun i => .int .u8 (d i : Nat))) (hd : ∀ i, i < n → d i < 256) :
    Calls Try.prog 11 #[geoV B P W K, .slice a n c, .bool false] w fun e w' => e = .returned (.bool true) ∧ Keep (fun _ => False) w w' := by
  have k0 := (Keep.refl (fun _ => False) w).alloc (.cells #[.int .i64 B, .int .i64 P, .int .i64 W, .int .i64 K] 23)
  have b0 := Blk.new w 23 #[.int .i64 B, .int .i64 P, .int .i64 W, .int .i64 K]
  have HA := Lib.hid ha
  have HD := Lib.hid hd
  clear ha hd
  go_enter Try.func11, Try.ntmps11
  go_wp2_with fail
  refine (awake12_true _).mono ?_
  rintro e w1 ⟨rfl, q1⟩
  have k1 := k0.comp q1
  have b1 := b0.keep q1 (by simp)
  clear b0 k0 q1
  obtain ⟨g0, g1, g2, g3⟩ := geo_cells' b1
  go_wp2_with fail
  by_cases hg : GeoOk B P W K
  rotate_left
  · refine (small_no B P W K _ hg).mono ?_
    rintro e w2 ⟨rfl, q2⟩
    have k2 := k1.comp q2
    have b2 := b1.keep q2 (by simp)
    clear b1 k1 q2 g0 g1 g2 g3
    obtain ⟨g0, g1, g2, g3⟩ := geo_cells' b2
    go_wp2_with fail
    refine (gmay_no B P W K _ hg).mono ?_
    rintro e w3 ⟨rfl, q3⟩
    have k3 := k2.comp q3
    clear b2 k2 q3 g0 g1 g2 g3
    go_wp2_with fail
    go_ret
    exact ⟨rfl, k3⟩
  obtain ⟨Wn, rfl⟩ : ∃ X : Nat, W = X := ⟨W.toNat, by have := hg.w0; omega⟩
  obtain ⟨Kn, rfl⟩ : ∃ X : Nat, K = X := ⟨K.toNat, by have := hg.k0; omega⟩
  obtain ⟨hw0, hw1, hk0, hk1, hwk, hwk2⟩ := geo_nat hg
  refine (small_yes B P Wn Kn _ hg).mono ?_
  rintro e w2 ⟨rfl, q2⟩
  have k2 := k1.comp q2
  have b2 := b1.keep q2 (by simp)
  clear b1 k1 q2 g0 g1 g2 g3
  obtain ⟨g0, g1, g2, g3⟩ := geo_cells b2
  by_cases hs2 : Wn * (Kn + 16) ≤ 200
  rotate_left
  · rw [decide_eq_false hs2]
    go_wp2_with fail
    go_ret
    exact ⟨rfl, k2⟩
  rw [decide_eq_true hs2]
  go_wp2_with fail
  refine (gmay_yes B P Wn Kn _ hg).mono ?_
  rintro e w3 ⟨rfl, q3⟩
  have k3 := k2.comp q3
  have b3 := b2.keep q3 (by simp)
  clear b2 k2 q3 g0 g1 g2 g3
  by_cases hn1 : 1000 < n
  · have hn1' : (1000 : Int) < (n : Int) := by omega
    go_wp2_with fail
    go_ret
    exact ⟨rfl, k3⟩
  have hn1' : ¬ (1000 : Int) < (n : Int) := by omega
  obtain ⟨g0, g1, g2, g3⟩ := geo_cells b3
  go_wp2_with fail
  clear hn1'
  refine (rsize_any B P Wn Kn _ hg).mono ?_
  rintro e w4 ⟨rfl, q4⟩
  have k4 := k3.comp q4
  have b4 := b3.keep q4 (by simp)
  have hz := szB_le hg
  have hmk := make_by (szB Wn Kn : Nat) (szB Wn Kn) rfl (by omega)
  have q5 := (Keep.refl (fun _ => False) w4).alloc (.cells (valsArr (fun _ => .int .u8 0) (szB Wn Kn)) 5)
  have r5 := Blk.new w4 5 (valsArr (fun _ => .int .u8 0) (szB Wn Kn))
  have HA5 := Lib.hid ((HA.out (by omega)).keep (k4.comp q5))
  clear b3 k3 q4 g0 g1 g2 g3
  generalize hzz : szB Wn Kn = z at *
  have HZ := Lib.hid hzz
  clear hzz
  go_wp2_with (with_reducible refine wpList_copy_b rfl (.tmp 40) (.tmp 41) rfl w4.heap.size z _ _ _ rfl rfl _ _ r5 HA5.out (fun _ _ => rfl) w4 q5 (Nat.le_refl _) ?_)
  intro w6 r6 q6
  rw [padB_vals] at r6
  have k6 := k4.comp q6
  have b6 := b4.keep q6 (by simp)
  obtain ⟨g0, g1, g2, g3⟩ := geo_cells b6
  have HB6 := Lib.hid ((RowV.of_blk r6).arg (by omega))
  clear b4 k4 q5 q6 r5 r6 hmk HA5
  go_wp2_with fail
  have HM := Lib.hid (rmake_yes B P Wn Kn 1 0 3 (some ⟨w4.heap.size, 0, none⟩) z (padB d n) w6 hg ⟨by omega, by omega, by omega, by omega⟩ (by rw [HZ.out]; exact HB6.out) (fun i _ => padB_lt HD.out i))
  rw [HZ.out] at HM
  refine HM.out.mono ?_
  rintro e w7 ⟨aS, cS, rfl, oS, q7⟩
  have k7 := k6.comp q7
  have b7 := b6.keep q7 (by simp)
  have HDl := Lib.hid (show ∀ i, pgD 1 0 3 (padB d n) z i < 1024 from pgD_lt ⟨by omega, by omega, by omega, by omega⟩ _ _)
  generalize pgD 1 0 3 (padB d n) z = D at *
  have OS := Lib.hid oS
  clear HM HB6 oS b6 k6 q7 g0 g1 g2 g3 HZ
  have hn3 := hs2
  obtain ⟨m, hm⟩ : ∃ m, m = Wn * (Kn + 16) := ⟨_, rfl⟩
  have HMm := Lib.hid hm
  rw [← hm] at OS hs2 hn3
  rw [← HMm.out]
  clear hm
  have hm17 : 17 ≤ m := by
    have h1 : 1 * (1 + 16) ≤ Wn * (Kn + 16) := Nat.mul_le_mul hw0 (by omega)
    have := HMm.out
    omega
  have HSl := Lib.hid (show ∀ i, i < m → pageS Wn Kn D i < 1024 from fun i hi => pageS_lt HDl.out hw0 (by rw [← HMm.out]; exact hi))
  have HPw := Lib.hid (fun r (hr : r < Wn) => sh_wrong (K := Kn) (D := D) HDl.out hw0 (dx := 4) (dy := (-2)) (by omega) (by omega) hr)
  have HPg := Lib.hid (fun r (hr : r < Wn) => sh_good (K := Kn) (D := D) HDl.out hw0 (dx := 4) (dy := (-2)) (by omega) (by omega) hr)
  rw [← HMm.out] at HPw HPg
  go_wp2_with fail
  obtain ⟨S, hS⟩ : ∃ S, S = pageS Wn Kn D := ⟨_, rfl⟩
  have HSe := Lib.hid hS
  rw [← hS] at OS HSl HPw HPg
  clear hS
  refine (points_any aS m cS S _ (OS.out.arg (by omega) (fun i hi => by have := HSl.out i hi; omega)) (by omega)).mono ?_
  rintro e w8 ⟨aP, cP, rfl, oP, q8⟩
  have k8 := k7.comp q8
  obtain ⟨gP, rfl, hgP, _, rP⟩ := oP.row (by omega)
  have RP := Lib.hid rP
  have H7 := Lib.hid b7
  clear OS oP b7 rP
  go_wp2_with fail
  go_loopw [12] (fun v wr => ∃ j : Nat, j ≤ m ∧ v = .int .i64 j ∧ Hid (RowV wr 47 gP cP m (ptsV (shX S 4 j) (shY S (-2) j))) ∧ Keep (fun _ => False) w7 wr) (fun v _ => m - (intOf v).toNat)
  case atStart => exact ⟨0, by omega, rfl, Lib.hid (RP.out.congr (fun i _ => by unfold ptsV symP shX shY; rw [if_neg (Nat.not_lt_zero i), if_neg (Nat.not_lt_zero i), Int.add_zero, Int.add_zero])), q8⟩
  case round =>
    obtain ⟨j, hj, rfl, HR, kk⟩ := hrel
    by_cases hjm : j < m
    · have hjm' : (j : Int) < (m : Int) := by omega
      have c0 := HR.out.val hjm
      have fz := HR.out.frozen j
      rw [show ptsV (shX S 4 j) (shY S (-2) j) j = ptv (reS (S j)) (imS (S j)) by unfold ptsV shX shY; rw [if_neg (Nat.lt_irrefl j), if_neg (Nat.lt_irrefl j), Int.add_zero, Int.add_zero]] at c0
      have hop : ∀ t w, (binOp .add t (ptv (reS (S j)) (imS (S j))) (.complex .f64 4602678819172646912 13821547256400052224)).run Try.prog w = .ok (ptv (reS (S j) + 4) (imS (S j) + (-2))) w := by
        rw [pt_dfalse]
        exact pt_add (Pm_re _) (Pm_im _) (by unfold Pm; decide) (by unfold Pm; decide)
      have kB := Lib.hid (kk.setCell (p := ⟨gP, j, none⟩) (.inr hgP) (ptv (reS (S j) + 4) (imS (S j) + (-2))))
      have RB := Lib.hid (HR.out.store j (ptv (reS (S j) + 4) (imS (S j) + (-2))) (f' := ptsV (shX S 4 (j + 1)) (shY S (-2) (j + 1))) (fun k _ => by
        by_cases h : k = j
        · subst h
          unfold ptsV shX shY
          rw [if_pos rfl, if_pos (Nat.lt_succ_self k), if_pos (Nat.lt_succ_self k)]
        · unfold ptsV shX shY
          rw [if_neg h]
          by_cases h2 : k < j
          · rw [if_pos h2, if_pos h2, if_pos (by omega), if_pos (by omega)]
          · rw [if_neg h2, if_neg h2, if_neg (by omega), if_neg (by omega)]))
      unfold ptv at c0 hop kB RB
      generalize fx (2 * reS (S j)) = X1 at *
      generalize fx (2 * imS (S j)) = Y1 at *
      generalize fx (2 * (reS (S j) + 4)) = X2 at *
      generalize fx (2 * (imS (S j) + (-2))) = Y2 at *
      clear HR kk
      go_wp2_with fail
      exact ⟨⟨j + 1, by omega, by go_num, RB, kB.out⟩, by simp [intOf]; omega⟩
    · obtain rfl : j = m := by omega
      have hjm' : ¬ (j : Int) < (j : Int) := by omega
      clear RP
      go_wp2_with fail
      clear hjm'
      refine (make_any _).mono ?_
      rintro e w9 ⟨g1, g2, rfl, T, _, _, q9⟩
      unfold tabV
      obtain ⟨TV, q10⟩ := TVar.new T
      have HR10 := Lib.hid (((HR.out.keep q9 (by simp)).keep q10 (by simp)).arg (by omega))
      have k10 := k7.comp (kk.comp (q9.comp q10))
      have b10 := H7.out.keep (kk.comp (q9.comp q10)) (by simp)
      go_upto_region 19 with (fail)
      generalize w9.alloc (.cells #[.slice (some ⟨g1, 0, none⟩) 1023 1023, .slice (some ⟨g2, 0, none⟩) 1024 1024] 32) = w10 at *
      generalize w9.heap.size = gt at *
      obtain ⟨d0, d1⟩ := tab_cells TV.b
      obtain ⟨g0', g1', g2', g3'⟩ := geo_cells b10
      clear q9 q10 T HR kk H7
      go_wp2_with fail
      refine (shift_any _ B P Wn Kn j _ _ (shX S 4 j) (shY S (-2) j) _ hg HMm.out TV.t.has HR10.out (fun i _ => ⟨shX_u (by omega) j i, shY_u (by omega) j i⟩)).mono ?_
      rintro e w11 ⟨hS, q11⟩
      have hS := hS.yes (D := D) HMm.out (by omega) (by omega) HPg.out
      rw [offX_same (K := Kn) (D := D) (a := 4) (fun i hi => by unfold shX; rw [if_pos hi, HSe.out]), offY_same (K := Kn) (D := D) (a := (-2)) (fun i hi => by unfold shY; rw [if_pos hi, HSe.out])] at hS
      subst hS
      have TV11 := TV.keep q11
      have b11 := b10.keep q11 (by simp)
      have k11 := k10.comp q11
      have HR11 := Lib.hid (HR10.out.keep q11)
      clear d0 d1 g0' g1' g2' g3' TV b10 k10 HR10 q11
      obtain ⟨d0, d1⟩ := tab_cells TV11.b
      obtain ⟨g0', g1', g2', g3'⟩ := geo_cells b11
      go_wp2_with fail
      refine (cof_any _ B P Wn Kn j _ _ (shX S 4 j) (shY S (-2) j) _ hg HMm.out TV11.t.has HR11.out (fun i _ => ⟨(shX_u (by omega) j i).pm, (shY_u (by omega) j i).pm⟩)).mono ?_
      rintro e w12 ⟨⟨aL, cL, rfl, hL⟩, q12⟩
      obtain ⟨f, b, oL, hrow⟩ := hL
      have HFB := Lib.hid (show ∀ r, r < Wn → b r = true ∧ f r = 0 from fun r hr => by
        have h1 := (hrow r hr).good (by omega) (HPg.out r hr)
        rw [HPw.out r hr] at h1
        exact h1)
      obtain ⟨gL, rfl, _, _, hcl⟩ := oL.cells (by omega)
      have HCL := Lib.hid hcl
      have k12 := k11.comp q12
      have HR12 := Lib.hid (HR11.out.keep q12)
      clear d0 d1 g0' g1' g2' g3' TV11 b11 k11 HR11 hrow oL hcl q12
      go_wp2_with fail
      go_loopw [18] (fun v wr => ∃ r : Nat, r ≤ Wn ∧ v = .int .i64 r ∧ w12 = wr) (fun v _ => Wn - (intOf v).toNat)
      case atStart => exact ⟨0, by omega, rfl, rfl⟩
      case round =>
        obtain ⟨r, hr, rfl, rfl⟩ := hrel
        by_cases hrW : r < Wn
        · have hrW' : (r : Int) < (Wn : Int) := by omega
          have l0 := (HCL.out r hrW).1
          have l1 := (HCL.out r hrW).2
          rw [(HFB.out r hrW).2] at l0
          rw [(HFB.out r hrW).1] at l1
          go_wp2_with fail
          exact ⟨⟨r + 1, by omega, by go_num, trivial⟩, by simp [intOf]; omega⟩
        · obtain rfl : r = Wn := by omega
          have hrW' : ¬ (r : Int) < (r : Int) := by omega
          have hfj : floatOfInt .f64 (j : Int) = fx (16 * (j : Int)) := fx_whole (decide ((j : Int) < 0)) (by omega) rfl
          have hm1 : ∀ t w, (binOp .mul t (.float .f64 4602678819172646912) (.float .f64 (floatOfInt .f64 (j : Int)))).run Try.prog w = .ok (.float .f64 (fx (2 * (4 * (j : Int))))) w := fun t w => by
            rw [hfj, ← lit_refalse, show 2 * (4 * (j : Int)) = 8 * (j : Int) by omega]
            exact run_float_arith w .mul t .f64 _ _ _ (fx_mul (by unfold Sm; decide) (by unfold Sm; omega) (by unfold Sm; omega) (by decide) (by omega))
          have hm2 : ∀ t w, (binOp .mul t (.float .f64 13821547256400052224) (.float .f64 (floatOfInt .f64 (j : Int)))).run Try.prog w = .ok (.float .f64 (fx (2 * ((-2) * (j : Int))))) w := fun t w => by
            rw [hfj, ← lit_imfalse, show 2 * ((-2) * (j : Int)) = (-4) * (j : Int) by omega]
            exact run_float_arith w .mul t .f64 _ _ _ (fx_mul (by unfold Sm; decide) (by unfold Sm; omega) (by unfold Sm; omega) (by decide) (by omega))
          have hn1 : ∀ w, (Go.Op.unary .neg (.float .f64 4602678819172646912)).run Try.prog w = .ok (.float .f64 13826050856027422720) w := fun _ => rfl
          have hn2 : ∀ w, (Go.Op.unary .neg (.float .f64 13821547256400052224)).run Try.prog w = .ok (.float .f64 4598175219545276416) w := fun _ => rfl
          have o1 := ord_self (n := 2 * (4 * (j : Int))) (by unfold Sm; omega)
          have o2 := ord_self (n := 2 * ((-2) * (j : Int))) (by unfold Sm; omega)
          have o3 := ord_self (n := 8) (by unfold Sm; decide)
          have hsub : ∀ t w, (binOp .sub t (.float .f64 4607182418800017408) (.float .f64 (fx 8))).run Try.prog w = .ok (.float .f64 (fx 8)) w := fun t w => by
            rw [← fx_lit1]
            exact run_float_arith w .sub t .f64 _ _ _ (fx_sub (by unfold Sm; decide) (by unfold Sm; decide) (by unfold Sm; decide))
          have HM := Lib.hid (margin_any (some ⟨gP, 0, none⟩) j cP (shX S 4 j) (shY S (-2) j) w12 HR12.out (fun i _ => ⟨(shX_u (by omega) j i).pm, (shY_u (by omega) j i).pm⟩))
          rw [sh_far (by omega) (by omega) HSl.out j (Nat.le_refl _), if_pos (by omega), show (16 - 2 * ((max (4 : Int).natAbs ((-2) : Int).natAbs : Nat) : Int)) = 8 from rfl] at HM
          clear hS
          unfold ptv
          generalize fx (2 * (4 * (j : Int))) = X1 at *
          generalize fx (2 * ((-2) * (j : Int))) = Y1 at *
          clear hfj
          generalize hfr : fx 8 = FR at *
          go_wp2_with (refine wpList_max4 rfl (.tmp 118) (.tmp 121) (.tmp 123) (.tmp 126) rfl (i := 8) (j := -8) (k := (-4)) (l := -(-4)) (by unfold Sm; decide) (by unfold Sm; decide) (by unfold Sm; decide) (by unfold Sm; decide) (congrArg (Value.float .f64) lit_refalse.symm) (congrArg (Value.float .f64) lit_nrefalse.symm) (congrArg (Value.float .f64) lit_imfalse.symm) (congrArg (Value.float .f64) lit_nimfalse.symm) 8 (by decide) ?_)
          refine HM.out.mono ?_
          rintro e w13 ⟨rfl, rfl⟩
          go_wp2_with fail
          go_ret
          exact ⟨rfl, k12⟩

theorem lit_retrue : fx (-8) = 13826050856027422720 := by decide
theorem lit_imtrue : fx 12 = 4604930618986332160 := by decide
theorem lit_nretrue : fx (-(-8)) = 4602678819172646912 := by decide
theorem lit_nimtrue : fx (-12) = 13828302655841107968 := by decide
theorem pt_dtrue : Value.complex .f64 13826050856027422720 4604930618986332160 = ptv (-4) 6 := by
  unfold ptv
  rw [show (2 * ((-4) : Int)) = (-8) from rfl, show (2 * (6 : Int)) = 12 from rfl, lit_retrue, lit_imtrue]
set_option maxRecDepth 100000 in
set_option maxHeartbeats 8000000 in
theorem shifts_true (w : World) (B P W K : Int) (a : Option Addr) (n c : Nat) (d : Nat → Nat) (ha : n ≤ 1000000 → ArgV w a n (fun i => .int .u8 (d i : Nat))) (hd : ∀ i, i < n → d i < 256) :
    Calls Try.prog 11 #[geoV B P W K, .slice a n c, .bool true] w fun e w' => e = .returned (.bool true) ∧ Keep (fun _ => False) w w' := by
  have k0 := (Keep.refl (fun _ => False) w).alloc (.cells #[.int .i64 B, .int .i64 P, .int .i64 W, .int .i64 K] 23)
  have b0 := Blk.new w 23 #[.int .i64 B, .int .i64 P, .int .i64 W, .int .i64 K]
  have HA := Lib.hid ha
  have HD := Lib.hid hd
  clear ha hd
  go_enter Try.func11, Try.ntmps11
  go_wp2_with fail
  refine (awake12_true _).mono ?_
  rintro e w1 ⟨rfl, q1⟩
  have k1 := k0.comp q1
  have b1 := b0.keep q1 (by simp)
  clear b0 k0 q1
  obtain ⟨g0, g1, g2, g3⟩ := geo_cells' b1
  go_wp2_with fail
  by_cases hg : GeoOk B P W K
  rotate_left
  · refine (small_no B P W K _ hg).mono ?_
    rintro e w2 ⟨rfl, q2⟩
    have k2 := k1.comp q2
    have b2 := b1.keep q2 (by simp)
    clear b1 k1 q2 g0 g1 g2 g3
    obtain ⟨g0, g1, g2, g3⟩ := geo_cells' b2
    go_wp2_with fail
    refine (gmay_no B P W K _ hg).mono ?_
    rintro e w3 ⟨rfl, q3⟩
    have k3 := k2.comp q3
    clear b2 k2 q3 g0 g1 g2 g3
    go_wp2_with fail
    go_ret
    exact ⟨rfl, k3⟩
  obtain ⟨Wn, rfl⟩ : ∃ X : Nat, W = X := ⟨W.toNat, by have := hg.w0; omega⟩
  obtain ⟨Kn, rfl⟩ : ∃ X : Nat, K = X := ⟨K.toNat, by have := hg.k0; omega⟩
  obtain ⟨hw0, hw1, hk0, hk1, hwk, hwk2⟩ := geo_nat hg
  refine (small_yes B P Wn Kn _ hg).mono ?_
  rintro e w2 ⟨rfl, q2⟩
  have k2 := k1.comp q2
  have b2 := b1.keep q2 (by simp)
  clear b1 k1 q2 g0 g1 g2 g3
  obtain ⟨g0, g1, g2, g3⟩ := geo_cells b2
  by_cases hs2 : Wn * (Kn + 16) ≤ 200
  rotate_left
  · rw [decide_eq_false hs2]
    go_wp2_with fail
    go_ret
    exact ⟨rfl, k2⟩
  rw [decide_eq_true hs2]
  go_wp2_with fail
  refine (gmay_yes B P Wn Kn _ hg).mono ?_
  rintro e w3 ⟨rfl, q3⟩
  have k3 := k2.comp q3
  have b3 := b2.keep q3 (by simp)
  clear b2 k2 q3 g0 g1 g2 g3
  by_cases hn1 : 1000 < n
  · have hn1' : (1000 : Int) < (n : Int) := by omega
    go_wp2_with fail
    go_ret
    exact ⟨rfl, k3⟩
  have hn1' : ¬ (1000 : Int) < (n : Int) := by omega
  obtain ⟨g0, g1, g2, g3⟩ := geo_cells b3
  go_wp2_with fail
  clear hn1'
  refine (rsize_any B P Wn Kn _ hg).mono ?_
  rintro e w4 ⟨rfl, q4⟩
  have k4 := k3.comp q4
  have b4 := b3.keep q4 (by simp)
  have hz := szB_le hg
  have hmk := make_by (szB Wn Kn : Nat) (szB Wn Kn) rfl (by omega)
  have q5 := (Keep.refl (fun _ => False) w4).alloc (.cells (valsArr (fun _ => .int .u8 0) (szB Wn Kn)) 5)
  have r5 := Blk.new w4 5 (valsArr (fun _ => .int .u8 0) (szB Wn Kn))
  have HA5 := Lib.hid ((HA.out (by omega)).keep (k4.comp q5))
  clear b3 k3 q4 g0 g1 g2 g3
  generalize hzz : szB Wn Kn = z at *
  have HZ := Lib.hid hzz
  clear hzz
  go_wp2_with (with_reducible refine wpList_copy_b rfl (.tmp 40) (.tmp 41) rfl w4.heap.size z _ _ _ rfl rfl _ _ r5 HA5.out (fun _ _ => rfl) w4 q5 (Nat.le_refl _) ?_)
  intro w6 r6 q6
  rw [padB_vals] at r6
  have k6 := k4.comp q6
  have b6 := b4.keep q6 (by simp)
  obtain ⟨g0, g1, g2, g3⟩ := geo_cells b6
  have HB6 := Lib.hid ((RowV.of_blk r6).arg (by omega))
  clear b4 k4 q5 q6 r5 r6 hmk HA5
  go_wp2_with fail
  have HM := Lib.hid (rmake_yes B P Wn Kn 1 0 3 (some ⟨w4.heap.size, 0, none⟩) z (padB d n) w6 hg ⟨by omega, by omega, by omega, by omega⟩ (by rw [HZ.out]; exact HB6.out) (fun i _ => padB_lt HD.out i))
  rw [HZ.out] at HM
  refine HM.out.mono ?_
  rintro e w7 ⟨aS, cS, rfl, oS, q7⟩
  have k7 := k6.comp q7
  have b7 := b6.keep q7 (by simp)
  have HDl := Lib.hid (show ∀ i, pgD 1 0 3 (padB d n) z i < 1024 from pgD_lt ⟨by omega, by omega, by omega, by omega⟩ _ _)
  generalize pgD 1 0 3 (padB d n) z = D at *
  have OS := Lib.hid oS
  clear HM HB6 oS b6 k6 q7 g0 g1 g2 g3 HZ
  have hn3 := hs2
  obtain ⟨m, hm⟩ : ∃ m, m = Wn * (Kn + 16) := ⟨_, rfl⟩
  have HMm := Lib.hid hm
  rw [← hm] at OS hs2 hn3
  rw [← HMm.out]
  clear hm
  have hm17 : 17 ≤ m := by
    have h1 : 1 * (1 + 16) ≤ Wn * (Kn + 16) := Nat.mul_le_mul hw0 (by omega)
    have := HMm.out
    omega
  have HSl := Lib.hid (show ∀ i, i < m → pageS Wn Kn D i < 1024 from fun i hi => pageS_lt HDl.out hw0 (by rw [← HMm.out]; exact hi))
  have HPw := Lib.hid (fun r (hr : r < Wn) => sh_wrong (K := Kn) (D := D) HDl.out hw0 (dx := (-4)) (dy := 6) (by omega) (by omega) hr)
  have HPg := Lib.hid (fun r (hr : r < Wn) => sh_good (K := Kn) (D := D) HDl.out hw0 (dx := (-4)) (dy := 6) (by omega) (by omega) hr)
  rw [← HMm.out] at HPw HPg
  go_wp2_with fail
  obtain ⟨S, hS⟩ : ∃ S, S = pageS Wn Kn D := ⟨_, rfl⟩
  have HSe := Lib.hid hS
  rw [← hS] at OS HSl HPw HPg
  clear hS
  refine (points_any aS m cS S _ (OS.out.arg (by omega) (fun i hi => by have := HSl.out i hi; omega)) (by omega)).mono ?_
  rintro e w8 ⟨aP, cP, rfl, oP, q8⟩
  have k8 := k7.comp q8
  obtain ⟨gP, rfl, hgP, _, rP⟩ := oP.row (by omega)
  have RP := Lib.hid rP
  have H7 := Lib.hid b7
  clear OS oP b7 rP
  go_wp2_with fail
  go_loopw [12] (fun v wr => ∃ j : Nat, j ≤ m ∧ v = .int .i64 j ∧ Hid (RowV wr 47 gP cP m (ptsV (shX S (-4) j) (shY S 6 j))) ∧ Keep (fun _ => False) w7 wr) (fun v _ => m - (intOf v).toNat)
  case atStart => exact ⟨0, by omega, rfl, Lib.hid (RP.out.congr (fun i _ => by unfold ptsV symP shX shY; rw [if_neg (Nat.not_lt_zero i), if_neg (Nat.not_lt_zero i), Int.add_zero, Int.add_zero])), q8⟩
  case round =>
    obtain ⟨j, hj, rfl, HR, kk⟩ := hrel
    by_cases hjm : j < m
    · have hjm' : (j : Int) < (m : Int) := by omega
      have c0 := HR.out.val hjm
      have fz := HR.out.frozen j
      rw [show ptsV (shX S (-4) j) (shY S 6 j) j = ptv (reS (S j)) (imS (S j)) by unfold ptsV shX shY; rw [if_neg (Nat.lt_irrefl j), if_neg (Nat.lt_irrefl j), Int.add_zero, Int.add_zero]] at c0
      have hop : ∀ t w, (binOp .add t (ptv (reS (S j)) (imS (S j))) (.complex .f64 13826050856027422720 4604930618986332160)).run Try.prog w = .ok (ptv (reS (S j) + (-4)) (imS (S j) + 6)) w := by
        rw [pt_dtrue]
        exact pt_add (Pm_re _) (Pm_im _) (by unfold Pm; decide) (by unfold Pm; decide)
      have kB := Lib.hid (kk.setCell (p := ⟨gP, j, none⟩) (.inr hgP) (ptv (reS (S j) + (-4)) (imS (S j) + 6)))
      have RB := Lib.hid (HR.out.store j (ptv (reS (S j) + (-4)) (imS (S j) + 6)) (f' := ptsV (shX S (-4) (j + 1)) (shY S 6 (j + 1))) (fun k _ => by
        by_cases h : k = j
        · subst h
          unfold ptsV shX shY
          rw [if_pos rfl, if_pos (Nat.lt_succ_self k), if_pos (Nat.lt_succ_self k)]
        · unfold ptsV shX shY
          rw [if_neg h]
          by_cases h2 : k < j
          · rw [if_pos h2, if_pos h2, if_pos (by omega), if_pos (by omega)]
          · rw [if_neg h2, if_neg h2, if_neg (by omega), if_neg (by omega)]))
      unfold ptv at c0 hop kB RB
      generalize fx (2 * reS (S j)) = X1 at *
      generalize fx (2 * imS (S j)) = Y1 at *
      generalize fx (2 * (reS (S j) + (-4))) = X2 at *
      generalize fx (2 * (imS (S j) + 6)) = Y2 at *
      clear HR kk
      go_wp2_with fail
      exact ⟨⟨j + 1, by omega, by go_num, RB, kB.out⟩, by simp [intOf]; omega⟩
    · obtain rfl : j = m := by omega
      have hjm' : ¬ (j : Int) < (j : Int) := by omega
      clear RP
      go_wp2_with fail
      clear hjm'
      refine (make_any _).mono ?_
      rintro e w9 ⟨g1, g2, rfl, T, _, _, q9⟩
      unfold tabV
      obtain ⟨TV, q10⟩ := TVar.new T
      have HR10 := Lib.hid (((HR.out.keep q9 (by simp)).keep q10 (by simp)).arg (by omega))
      have k10 := k7.comp (kk.comp (q9.comp q10))
      have b10 := H7.out.keep (kk.comp (q9.comp q10)) (by simp)
      go_upto_region 19 with (fail)
      generalize w9.alloc (.cells #[.slice (some ⟨g1, 0, none⟩) 1023 1023, .slice (some ⟨g2, 0, none⟩) 1024 1024] 32) = w10 at *
      generalize w9.heap.size = gt at *
      obtain ⟨d0, d1⟩ := tab_cells TV.b
      obtain ⟨g0', g1', g2', g3'⟩ := geo_cells b10
      clear q9 q10 T HR kk H7
      go_wp2_with fail
      refine (shift_any _ B P Wn Kn j _ _ (shX S (-4) j) (shY S 6 j) _ hg HMm.out TV.t.has HR10.out (fun i _ => ⟨shX_u (by omega) j i, shY_u (by omega) j i⟩)).mono ?_
      rintro e w11 ⟨hS, q11⟩
      have hS := hS.yes (D := D) HMm.out (by omega) (by omega) HPg.out
      rw [offX_same (K := Kn) (D := D) (a := (-4)) (fun i hi => by unfold shX; rw [if_pos hi, HSe.out]), offY_same (K := Kn) (D := D) (a := 6) (fun i hi => by unfold shY; rw [if_pos hi, HSe.out])] at hS
      subst hS
      have TV11 := TV.keep q11
      have b11 := b10.keep q11 (by simp)
      have k11 := k10.comp q11
      have HR11 := Lib.hid (HR10.out.keep q11)
      clear d0 d1 g0' g1' g2' g3' TV b10 k10 HR10 q11
      obtain ⟨d0, d1⟩ := tab_cells TV11.b
      obtain ⟨g0', g1', g2', g3'⟩ := geo_cells b11
      go_wp2_with fail
      refine (cof_any _ B P Wn Kn j _ _ (shX S (-4) j) (shY S 6 j) _ hg HMm.out TV11.t.has HR11.out (fun i _ => ⟨(shX_u (by omega) j i).pm, (shY_u (by omega) j i).pm⟩)).mono ?_
      rintro e w12 ⟨⟨aL, cL, rfl, hL⟩, q12⟩
      obtain ⟨f, b, oL, hrow⟩ := hL
      have HFB := Lib.hid (show ∀ r, r < Wn → b r = true ∧ f r = 0 from fun r hr => by
        have h1 := (hrow r hr).good (by omega) (HPg.out r hr)
        rw [HPw.out r hr] at h1
        exact h1)
      obtain ⟨gL, rfl, _, _, hcl⟩ := oL.cells (by omega)
      have HCL := Lib.hid hcl
      have k12 := k11.comp q12
      have HR12 := Lib.hid (HR11.out.keep q12)
      clear d0 d1 g0' g1' g2' g3' TV11 b11 k11 HR11 hrow oL hcl q12
      go_wp2_with fail
      go_loopw [18] (fun v wr => ∃ r : Nat, r ≤ Wn ∧ v = .int .i64 r ∧ w12 = wr) (fun v _ => Wn - (intOf v).toNat)
      case atStart => exact ⟨0, by omega, rfl, rfl⟩
      case round =>
        obtain ⟨r, hr, rfl, rfl⟩ := hrel
        by_cases hrW : r < Wn
        · have hrW' : (r : Int) < (Wn : Int) := by omega
          have l0 := (HCL.out r hrW).1
          have l1 := (HCL.out r hrW).2
          rw [(HFB.out r hrW).2] at l0
          rw [(HFB.out r hrW).1] at l1
          go_wp2_with fail
          exact ⟨⟨r + 1, by omega, by go_num, trivial⟩, by simp [intOf]; omega⟩
        · obtain rfl : r = Wn := by omega
          have hrW' : ¬ (r : Int) < (r : Int) := by omega
          have hfj : floatOfInt .f64 (j : Int) = fx (16 * (j : Int)) := fx_whole (decide ((j : Int) < 0)) (by omega) rfl
          have hm1 : ∀ t w, (binOp .mul t (.float .f64 13826050856027422720) (.float .f64 (floatOfInt .f64 (j : Int)))).run Try.prog w = .ok (.float .f64 (fx (2 * ((-4) * (j : Int))))) w := fun t w => by
            rw [hfj, ← lit_retrue, show 2 * ((-4) * (j : Int)) = (-8) * (j : Int) by omega]
            exact run_float_arith w .mul t .f64 _ _ _ (fx_mul (by unfold Sm; decide) (by unfold Sm; omega) (by unfold Sm; omega) (by decide) (by omega))
          have hm2 : ∀ t w, (binOp .mul t (.float .f64 4604930618986332160) (.float .f64 (floatOfInt .f64 (j : Int)))).run Try.prog w = .ok (.float .f64 (fx (2 * (6 * (j : Int))))) w := fun t w => by
            rw [hfj, ← lit_imtrue, show 2 * (6 * (j : Int)) = 12 * (j : Int) by omega]
            exact run_float_arith w .mul t .f64 _ _ _ (fx_mul (by unfold Sm; decide) (by unfold Sm; omega) (by unfold Sm; omega) (by decide) (by omega))
          have hn1 : ∀ w, (Go.Op.unary .neg (.float .f64 13826050856027422720)).run Try.prog w = .ok (.float .f64 4602678819172646912) w := fun _ => rfl
          have hn2 : ∀ w, (Go.Op.unary .neg (.float .f64 4604930618986332160)).run Try.prog w = .ok (.float .f64 13828302655841107968) w := fun _ => rfl
          have o1 := ord_self (n := 2 * ((-4) * (j : Int))) (by unfold Sm; omega)
          have o2 := ord_self (n := 2 * (6 * (j : Int))) (by unfold Sm; omega)
          have o3 := ord_self (n := 4) (by unfold Sm; decide)
          have hsub : ∀ t w, (binOp .sub t (.float .f64 4607182418800017408) (.float .f64 (fx 12))).run Try.prog w = .ok (.float .f64 (fx 4)) w := fun t w => by
            rw [← fx_lit1]
            exact run_float_arith w .sub t .f64 _ _ _ (fx_sub (by unfold Sm; decide) (by unfold Sm; decide) (by unfold Sm; decide))
          have HM := Lib.hid (margin_any (some ⟨gP, 0, none⟩) j cP (shX S (-4) j) (shY S 6 j) w12 HR12.out (fun i _ => ⟨(shX_u (by omega) j i).pm, (shY_u (by omega) j i).pm⟩))
          rw [sh_far (by omega) (by omega) HSl.out j (Nat.le_refl _), if_pos (by omega), show (16 - 2 * ((max ((-4) : Int).natAbs (6 : Int).natAbs : Nat) : Int)) = 4 from rfl] at HM
          clear hS
          unfold ptv
          generalize fx (2 * ((-4) * (j : Int))) = X1 at *
          generalize fx (2 * (6 * (j : Int))) = Y1 at *
          clear hfj
          generalize hfr : fx 4 = FR at *
          go_wp2_with (refine wpList_max4 rfl (.tmp 118) (.tmp 121) (.tmp 123) (.tmp 126) rfl (i := (-8)) (j := -(-8)) (k := 12) (l := -12) (by unfold Sm; decide) (by unfold Sm; decide) (by unfold Sm; decide) (by unfold Sm; decide) (congrArg (Value.float .f64) lit_retrue.symm) (congrArg (Value.float .f64) lit_nretrue.symm) (congrArg (Value.float .f64) lit_imtrue.symm) (congrArg (Value.float .f64) lit_nimtrue.symm) 12 (by decide) ?_)
          refine HM.out.mono ?_
          rintro e w13 ⟨rfl, rfl⟩
          go_wp2_with fail
          go_ret
          exact ⟨rfl, k12⟩
set_option maxRecDepth 100000 in
theorem shifts_of {H : Type} {enc : TypeId × Value → H} {base b0 : Nat} {d0 d1 : DataW H} {ps0 ps1 : List MemPlace} {sp0 sp1 : Nat → Bool} (w : World) {v : Value} {a : Option Addr} {n c : Nat} (by_ : Bool)
    (hv : Value.okWide Try.prog w .any b0 23 v) (hg : DataW.Trod enc Try.prog w base sp0 true 23 v d0 ps0)
    (h : DataW.Trod enc Try.prog w base sp1 true 26 (.slice a n c) d1 ps1) :
    Calls Try.prog 11 #[v, .slice a n c, .bool by_] w fun e w' => e = .returned (.bool true) ∧ Keep (fun _ => False) w w' := by
  obtain ⟨B, P, W, K, rfl⟩ := geo4_of hv hg
  obtain ⟨d, _, hA, hd⟩ := argB_of h
  cases by_ with
  | false => exact shifts_false w B P W K a n c d hA hd
  | true => exact shifts_true w B P W K a n c d hA hd
end Go.Proofs.Ytdlmjjlejkkniaa
