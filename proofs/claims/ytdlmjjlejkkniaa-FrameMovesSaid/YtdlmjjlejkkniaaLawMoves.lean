/- blackboardlaw11.FrameMoves: whatever cells move, by whatever whole steps. -/
import Derived.Test.YtdlmjjlejkkniaaMovesP
namespace Go.Proofs.Ytdlmjjlejkkniaa
open Go.ChangeShapes Go.WideShapes Go.ChangeAt Go.RowKit
attribute [local go_sem] run_store_cx

set_option maxRecDepth 100000 in
set_option maxHeartbeats 16000000 in
theorem moves_true (w : World) (B P W K : Int) (a : Option Addr) (n c : Nat) (d : Nat → Nat) (am : Option Addr) (nm cm : Nat) (X Y Z : Nat → Int) (hmv : ArgTriples .i16 w am nm X Y Z) (ha : n ≤ 1000000 → ArgV w a n (fun i => .int .u8 (d i : Nat))) (hd : ∀ i, i < n → d i < 256) :
    Calls Try.prog 6 #[geoV B P W K, .slice a n c, .slice am nm cm] w fun e w' => e = .returned (.bool true) ∧ Keep (fun _ => False) w w' := by
  have k0 := (Keep.refl (fun _ => False) w).alloc (.cells #[.int .i64 B, .int .i64 P, .int .i64 W, .int .i64 K] 23)
  have b0 := Blk.new w 23 #[.int .i64 B, .int .i64 P, .int .i64 W, .int .i64 K]
  have HA := Lib.hid ha
  have HD := Lib.hid hd
  have HV := Lib.hid hmv
  clear ha hd hmv
  go_enter Try.func6, Try.ntmps6
  go_wp2_with fail
  refine (awake11_true _).mono ?_
  rintro e w1 ⟨rfl, q1⟩
  have k1 := k0.comp q1
  have b1 := b0.keep q1 (by simp)
  clear b0 k0 q1
  obtain ⟨g0, g1, g2, g3⟩ := geo_cells' b1
  go_wp2_with fail
  by_cases hg : GeoOk B P W K
  rotate_left
  · refine (small_no B P W K _ hg).mono ?_
    rintro e w2 ⟨rfl, q2⟩
    have k2 := k1.comp q2
    have b2 := b1.keep q2 (by simp)
    clear b1 k1 q2 g0 g1 g2 g3
    obtain ⟨g0, g1, g2, g3⟩ := geo_cells' b2
    go_wp2_with fail
    refine (gmay_no B P W K _ hg).mono ?_
    rintro e w3 ⟨rfl, q3⟩
    have k3 := k2.comp q3
    clear b2 k2 q3 g0 g1 g2 g3
    go_wp2_with fail
    go_ret
    exact ⟨rfl, k3⟩
  obtain ⟨Wn, rfl⟩ : ∃ X : Nat, W = X := ⟨W.toNat, by have := hg.w0; omega⟩
  obtain ⟨Kn, rfl⟩ : ∃ X : Nat, K = X := ⟨K.toNat, by have := hg.k0; omega⟩
  obtain ⟨hw0, hw1, hk0, hk1, hwk, hwk2⟩ := geo_nat hg
  refine (small_yes B P Wn Kn _ hg).mono ?_
  rintro e w2 ⟨rfl, q2⟩
  have k2 := k1.comp q2
  have b2 := b1.keep q2 (by simp)
  clear b1 k1 q2 g0 g1 g2 g3
  obtain ⟨g0, g1, g2, g3⟩ := geo_cells b2
  by_cases hs2 : Wn * (Kn + 16) ≤ 200
  rotate_left
  · rw [decide_eq_false hs2]
    go_wp2_with fail
    go_ret
    exact ⟨rfl, k2⟩
  rw [decide_eq_true hs2]
  go_wp2_with fail
  refine (gmay_yes B P Wn Kn _ hg).mono ?_
  rintro e w3 ⟨rfl, q3⟩
  have k3 := k2.comp q3
  have b3 := b2.keep q3 (by simp)
  clear b2 k2 q3 g0 g1 g2 g3
  by_cases hn2 : 200 < nm
  · have hn2' : (200 : Int) < (nm : Int) := by omega
    go_wp2_with fail
    go_ret
    exact ⟨rfl, k3⟩
  have hn2' : ¬ (200 : Int) < (nm : Int) := by omega
  by_cases hn1 : 1000 < n
  · have hn1' : (1000 : Int) < (n : Int) := by omega
    go_wp2_with fail
    go_ret
    exact ⟨rfl, k3⟩
  have hn1' : ¬ (1000 : Int) < (n : Int) := by omega
  obtain ⟨g0, g1, g2, g3⟩ := geo_cells b3
  go_wp2_with fail
  clear hn1' hn2'
  refine (rsize_any B P Wn Kn _ hg).mono ?_
  rintro e w4 ⟨rfl, q4⟩
  have k4 := k3.comp q4
  have b4 := b3.keep q4 (by simp)
  have hz := szB_le hg
  have hz1 := (szB_pk Wn Kn hwk).2
  have hmk := make_by (szB Wn Kn : Nat) (szB Wn Kn) rfl (by omega)
  have q5 := (Keep.refl (fun _ => False) w4).alloc (.cells (valsArr (fun _ => .int .u8 0) (szB Wn Kn)) 5)
  have r5 := Blk.new w4 5 (valsArr (fun _ => .int .u8 0) (szB Wn Kn))
  have HA5 := Lib.hid ((HA.out (by omega)).keep (k4.comp q5))
  clear b3 k3 q4 g0 g1 g2 g3 HA
  have HMK : MarkOk 1 nm 5 := ⟨by omega, by omega, by omega, by omega⟩
  have HDD := Lib.hid (fun i => padB_lt HD.out i)
  have HM := Lib.hid (fun w a c ha => rmake_yes B P Wn Kn 1 nm 5 a c (padB d n) w hg HMK ha (fun i _ => HDD.out i))
  have hD : ∀ i, pgD 1 nm 5 (padB d n) (szB Wn Kn) i < 1024 := pgD_lt HMK _ _
  have HSl := Lib.hid (fun i (hi : i < Wn * (Kn + 16)) => pageS_lt hD hw0 hi)
  have HF1 := Lib.hid (fun x y => moved_says (x := x) (y := y) HMK (fun i (_ : i < szB Wn Kn) => HDD.out i) hw0 hk1 hwk)
  obtain ⟨m, hmm⟩ : ∃ m, m = Wn * (Kn + 16) := ⟨_, rfl⟩
  have HMm := Lib.hid hmm
  have hm17 : 17 ≤ m := by
    have h1 : 1 * (1 + 16) ≤ Wn * (Kn + 16) := Nat.mul_le_mul hw0 (by omega)
    omega
  obtain ⟨S, hSe⟩ : ∃ S, S = pageS Wn Kn (pgD 1 nm 5 (padB d n) (szB Wn Kn)) := ⟨_, rfl⟩
  rw [← hmm] at HSl hs2
  rw [← hSe] at HSl
  have HRm : ∀ w a c, ArgV w a (szB Wn Kn) (fun i => .int .u8 (padB d n i : Nat)) → Calls Try.prog 18 #[geoV B P Wn Kn, markV ((1 : Nat) : Int) nm ((5 : Nat) : Int), .slice a (szB Wn Kn) c] w fun e w' => ∃ a' c', e = .returned (.tuple #[.slice a' m c', .int .i64 0]) ∧ OwnU w' w.heap.size a' m c' S ∧ Keep (fun _ => False) w w' := by
    rw [hmm, hSe]
    exact HM.out
  have HF1m : ∀ x y, mostJ (mvB S x y) Wn m ≤ 8 → ∀ w' N e, ReadR w' N x y Wn Kn e → SaysR w' N e 1 nm 5 (szB Wn Kn) (padB d n) (mostJ (mvB S x y) Wn m : Nat) 0 := by
    rw [hmm, hSe]
    exact HF1.out
  clear HM HF1 hSe hD
  have HM := Lib.hid HRm
  have HF1 := Lib.hid HF1m
  clear HRm HF1m hmm HMK
  generalize hzz : szB Wn Kn = z at *
  clear hzz
  go_wp2_with (with_reducible refine wpList_copy_b rfl (.tmp 44) (.tmp 45) rfl w4.heap.size z _ _ _ rfl rfl _ _ r5 HA5.out (fun _ _ => rfl) w4 q5 (Nat.le_refl _) ?_)
  intro w6 r6 q6
  rw [padB_vals] at r6
  have k6 := k4.comp q6
  have b6 := b4.keep q6 (by simp)
  have HB6 := Lib.hid ((RowV.of_blk r6).arg (by omega))
  generalize padB d n = pd at *
  clear b4 k4 q5 q6 r5 r6 hmk HA5
  generalize w4.heap.size = gB at *
  have q7 := (Keep.refl (fun _ => False) w6).alloc (.cells #[.int .i64 1, .int .i64 nm, .int .i64 5] 25)
  have m7 := Blk.new w6 25 #[.int .i64 1, .int .i64 nm, .int .i64 5]
  have b7 := b6.keep q7 (by simp)
  have k7 := k6.comp q7
  have HB7 := Lib.hid (HB6.out.keep q7)
  clear k6 b6 HB6 q7
  go_upto_region 8 with (fail)
  generalize w6.alloc (.cells #[.int .i64 1, .int .i64 nm, .int .i64 5] 25) = w7 at *
  generalize w6.heap.size = gM at *
  obtain ⟨g0, g1, g2, g3⟩ := geo_cells b7
  obtain ⟨p0, p1, p2⟩ := mark_cells m7
  go_wp2_with fail
  refine (HM.out _ _ _ HB7.out).mono ?_
  rintro e w8 ⟨aS, cS, rfl, oS, q8⟩
  have k8 := k7.comp q8
  have b8 := b7.keep q8 (by simp)
  have m8 := m7.keep q8 (by simp)
  have HB8 := Lib.hid (HB7.out.keep q8)
  have AS8 := Lib.hid (oS.arg (by omega) (fun i hi => by have := HSl.out i hi; omega))
  clear k7 b7 m7 HB7 q8 oS g0 g1 g2 g3 p0 p1 p2 HM
  go_wp2_with fail
  refine ((points_says aS m cS S (by omega)).out _ AS8.out).mono ?_
  rintro e w9 ⟨aP, cP, rfl, oP, q9⟩
  obtain ⟨gP, rfl, hgP, _, rP⟩ := oP.row (by omega)
  have RP := Lib.hid rP
  have hP9 := rP.lt
  have b9 := b8.keep q9 (by simp)
  have R0 := Lib.hid (show RowV w9 47 gP cP m (ptsV (mvX S m X Y 0) (mvY S m X Z 0)) from RP.out)
  have HV8 := Lib.hid (HV.out.keep k8)
  have hm0 : ¬ m = 0 := by omega
  have hm1 : ¬ (m : Int) = -1 := by omega
  clear oP rP HV RP
  go_wp2_with fail
  go_loopw [12] (fun v4 wr => ∃ j : Nat, j ≤ nm ∧ v4 = .int .i64 j ∧ Hid (RowV wr 47 gP cP m (ptsV (mvX S m X Y j) (mvY S m X Z j))) ∧ Keep (fun _ => False) w8 wr) (fun v _ => nm - (intOf v).toNat)
  case atStart => exact ⟨0, by omega, rfl, R0, q9⟩
  case round =>
    clear R0 q9
    obtain ⟨j, hj, rfl, HR, kt⟩ := hrel
    by_cases hjm : j < nm
    · have hjm' : (j : Int) < (nm : Int) := by omega
      obtain ⟨bV, oV, rfl, hbV, hcV⟩ := HV8.out.at_ (by omega)
      obtain ⟨x0, y0, z0⟩ := hcV j hjm
      have x1 := (kt.cell (p := ⟨bV, oV + j * 3, none⟩) hbV (by simp)).trans x0
      have y1 := (kt.cell (p := ⟨bV, oV + j * 3 + 1, none⟩) hbV (by simp)).trans y0
      have z1 := (kt.cell (p := ⟨bV, oV + j * 3 + 2, none⟩) hbV (by simp)).trans z0
      obtain ⟨wx, wy, wz⟩ := HV8.out.wf j hjm
      have bx := Go.bounds_i16 wx
      have by_ := Go.bounds_i16 wy
      have bz := Go.bounds_i16 wz
      obtain ⟨hi1, hi2⟩ := wrap_idx (X j) m (by omega)
      have hu : IntKind.i64.wrap (X j) = X j := by
        simp [IntKind.wrap, IntKind.bits, IntKind.signed]
        omega
      have hw64 : wrap64 ((X j).tmod (m : Int) + (m : Int)) = (X j).tmod (m : Int) + (m : Int) := by
        have h0 := Int.emod_nonneg (X j) (show (m : Int) ≠ 0 by omega)
        have h1 := Int.emod_lt_of_pos (X j) (show (0 : Int) < m by omega)
        have h2 : -(m : Int) ≤ (X j).tmod (m : Int) ∧ (X j).tmod (m : Int) ≤ m := by
          rw [Int.tmod_eq_emod]
          split <;> omega
        unfold wrap64
        omega
      have hnx : ∀ i, mvX S m X Y (j + 1) i = mvX S m X Y j i + if i = (X j % (m : Int)).toNat then 8 * (Y j).tmod 70 else 0 := fun i => rfl
      have hny : ∀ i, mvY S m X Z (j + 1) i = mvY S m X Z j i + if i = (X j % (m : Int)).toNat then 8 * (Z j).tmod 70 else 0 := fun i => rfl
      have hbx := mvX_le (S := S) (m := m) (X := X) (Y := Y) (X j % (m : Int)).toNat j
      have hby := mvY_le (S := S) (m := m) (X := X) (Z := Z) (X j % (m : Int)).toNat j
      have ty := tmod70 (Y j)
      have tz := tmod70 (Z j)
      generalize (X j % (m : Int)).toNat = ix at *
      have c0 := HR.out.val hi2
      have fz := HR.out.frozen ix
      rw [show ptsV (mvX S m X Y j) (mvY S m X Z j) ix = ptv (mvX S m X Y j ix) (mvY S m X Z j ix) from rfl] at c0
      generalize hY : (Y j).tmod 70 = y70 at *
      generalize hZ : (Z j).tmod 70 = z70 at *
      have hop : ∀ t w, (binOp .add t (ptv (mvX S m X Y j ix) (mvY S m X Z j ix)) (.complex .f64 (floatOfInt .f64 y70) (floatOfInt .f64 z70))).run Try.prog w = .ok (ptv (mvX S m X Y j ix + 8 * y70) (mvY S m X Z j ix + 8 * z70)) w := fun t w => by
        have e1 : floatOfInt .f64 y70 = fx (2 * (8 * y70)) := by rw [show 2 * (8 * y70) = 16 * y70 by omega]; exact fx_whole (decide (y70 < 0)) (by omega) rfl
        have e2 : floatOfInt .f64 z70 = fx (2 * (8 * z70)) := by rw [show 2 * (8 * z70) = 16 * z70 by omega]; exact fx_whole (decide (z70 < 0)) (by omega) rfl
        rw [e1, e2]
        exact pt_add (by unfold Pm; omega) (by unfold Pm; omega) (by unfold Pm; omega) (by unfold Pm; omega) t w
      have kB := Lib.hid (kt.setCell (p := ⟨gP, ix, none⟩) (.inr hgP) (ptv (mvX S m X Y j ix + 8 * y70) (mvY S m X Z j ix + 8 * z70)))
      have RB := Lib.hid (HR.out.store ix (ptv (mvX S m X Y j ix + 8 * y70) (mvY S m X Z j ix + 8 * z70)) (f' := ptsV (mvX S m X Y (j + 1)) (mvY S m X Z (j + 1))) (fun t _ => by
        unfold ptsV
        rw [hnx, hny]
        by_cases h : t = ix
        · subst h
          rw [if_pos rfl, if_pos rfl, if_pos rfl]
        · rw [if_neg h, if_neg h, if_neg h, Int.add_zero, Int.add_zero]))
      have hixi : (ix : Int) < (m : Int) := by omega
      unfold ptv at c0 hop kB RB
      clear hnx hny x0 y0 z0
      generalize fx (2 * mvX S m X Y j ix) = P1 at *
      generalize fx (2 * mvY S m X Z j ix) = Q1 at *
      generalize fx (2 * (mvX S m X Y j ix + 8 * y70)) = P2 at *
      generalize fx (2 * (mvY S m X Z j ix + 8 * z70)) = Q2 at *
      clear HR hbx hby
      go_upto_region 16 with (fail)
      go_region
      go_wp2_with fail
      exact ⟨⟨j + 1, by omega, by go_num, RB, kB.out.drew⟩, by simp [intOf]; omega⟩
    · obtain rfl : j = nm := by omega
      have hjm' : ¬ (j : Int) < (j : Int) := by omega
      obtain ⟨x, hx⟩ : ∃ x, x = mvX S m X Y j := ⟨_, rfl⟩
      obtain ⟨y, hy⟩ : ∃ y, y = mvY S m X Z j := ⟨_, rfl⟩
      have HPM := Lib.hid (show ∀ i, Pm (x i) ∧ Pm (y i) from fun i => by
        have h1 := mvX_le (S := S) (m := m) (X := X) (Y := Y) i j
        have h2 := mvY_le (S := S) (m := m) (X := X) (Z := Z) i j
        rw [hx, hy]
        unfold Pm
        omega)
      rw [← hx, ← hy] at HR
      clear hx hy
      have b10 := b8.keep kt (by simp)
      obtain ⟨g0, g1, g2, g3⟩ := geo_cells b10
      have hmk := make_it (Wn : Int) Wn rfl (by omega) wr
      have q10 := (Keep.refl (fun _ => False) wr).alloc (.cells (valsArr (fun _ => .int .i64 0) Wn) 3)
      have r10 := Blk.new wr 3 (valsArr (fun _ => .int .i64 0) Wn)
      have q80 := kt.comp q10
      have hgPN : gP ≠ wr.heap.size := by have := HR.out.lt; omega
      have hgN : w8.heap.size ≤ wr.heap.size := kt.size
      go_upto_region 19 with (fail)
      clear g0 g1 g2 g3 hmk hjm' b10
      have RP10 := Lib.hid (HR.out.keep q10 (by simp))
      generalize wr.alloc (.cells (valsArr (fun _ => .int .i64 0) Wn) 3) = w10 at *
      generalize wr.heap.size = gN at *
      clear HR kt q10
      go_wp2_with fail
      go_loopw [14, 16] (fun v3 v4 wr => ∃ i : Nat, i ≤ m ∧ v3 = .int .i64 (mostJ (mvB S x y) Wn i : Nat) ∧ v4 = .int .i64 i ∧ Hid (RowV wr 47 gP cP m (ptsV x y)) ∧ Hid (Blk wr gN 3 (valsArr (fun r => .int .i64 (cntR (mvB S x y) Wn r i : Nat)) Wn)) ∧ Keep (fun _ => False) w8 wr) (fun _ v _ => m - (intOf v).toNat)
      case atStart => exact ⟨0, by omega, rfl, rfl, RP10, Lib.hid r10, q80⟩
      case round =>
        clear RP10 r10 q80
        obtain ⟨i, hi, rfl, rfl, HR, HN, kt⟩ := hrel
        by_cases him : i < m
        · have him' : (i : Int) < (m : Int) := by omega
          have hbT : mvB S x y i = true ∨ mvB S x y i = false := by cases mvB S x y i <;> simp
          go_wp2_with fail
          go_cut [130] (fun v wc => v = .bool (mvB S x y i) ∧ ∃ n, wc = wr.drewN n)
          case first =>
            have HPi := HPM.out i
            have h1 := order_zero HPi.1
            have h2 := order_zero HPi.2
            have c0 := HR.out.val him
            rw [show ptsV x y i = ptv (x i) (y i) from rfl] at c0
            obtain ⟨bS, oS, rfl, hbS, hcS⟩ := AS8.out.at_ (by omega)
            have c1 := (kt.cell (p := ⟨bS, oS + i, none⟩) hbS (by simp)).trans (hcS i him)
            have rsl := Lib.hid (fun w => (rslice_any (x i) (y i) HPi.1 HPi.2 w).mono fun _ _ ⟨h1, h2⟩ => And.intro h1 h2.symm)
            have hv : mvB S x y i = ((decide (x i = 0) && decide (y i = 0)) || decide (sl (x i) (y i) ≠ S i)) := rfl
            clear hcS HPi
            unfold ptv at c0 rsl
            generalize fx (2 * x i) = X1 at *
            generalize fx (2 * y i) = Y1 at *
            generalize decide (x i = 0) = A0 at *
            generalize decide (y i = 0) = B0 at *
            cases A0 with
            | true =>
              cases B0 with
              | true =>
                go_quiet (fail)
                go_wp2_with fail
                go_meet
                exact ⟨by rw [hv]; rfl, _, rfl⟩
              | false =>
              · by_cases hs : sl (x i) (y i) = S i
                · have hsv : decide (sl (x i) (y i) ≠ S i) = false := by simp [hs]
                  rw [hsv] at hv
                  rw [hs] at rsl
                  have e1 : (((S i : Nat) : Int) != ((S i : Nat) : Int)) = false := by simp
                  clear hs hsv
                  generalize S i = si at *
                  go_quiet (first | (go_at_call 25; refine Calls.quiet_of_same (rsl.out _)))
                  go_wp2_with fail
                  go_meet
                  exact ⟨by rw [hv]; rfl, _, rfl⟩
                · have hsv : decide (sl (x i) (y i) ≠ S i) = true := by simp [hs]
                  rw [hsv] at hv
                  have e1 : (((sl (x i) (y i) : Nat) : Int) != ((S i : Nat) : Int)) = true := by simp; omega
                  have e2 : ¬ ((sl (x i) (y i) : Nat) : Int) = ((S i : Nat) : Int) := by omega
                  clear hs hsv
                  generalize sl (x i) (y i) = sy at *
                  generalize S i = si at *
                  go_quiet (first | (go_at_call 25; refine Calls.quiet_of_same (rsl.out _)))
                  go_wp2_with fail
                  go_meet
                  exact ⟨by rw [hv]; rfl, _, rfl⟩
            | false =>
              by_cases hs : sl (x i) (y i) = S i
              · have hsv : decide (sl (x i) (y i) ≠ S i) = false := by simp [hs]
                rw [hsv] at hv
                rw [hs] at rsl
                have e1 : (((S i : Nat) : Int) != ((S i : Nat) : Int)) = false := by simp
                clear hs hsv
                generalize S i = si at *
                go_quiet (first | (go_at_call 25; refine Calls.quiet_of_same (rsl.out _)))
                go_wp2_with fail
                go_meet
                exact ⟨by rw [hv]; rfl, _, rfl⟩
              · have hsv : decide (sl (x i) (y i) ≠ S i) = true := by simp [hs]
                rw [hsv] at hv
                have e1 : (((sl (x i) (y i) : Nat) : Int) != ((S i : Nat) : Int)) = true := by simp; omega
                have e2 : ¬ ((sl (x i) (y i) : Nat) : Int) = ((S i : Nat) : Int) := by omega
                clear hs hsv
                generalize sl (x i) (y i) = sy at *
                generalize S i = si at *
                go_quiet (first | (go_at_call 25; refine Calls.quiet_of_same (rsl.out _)))
                go_wp2_with fail
                go_meet
                exact ⟨by rw [hv]; rfl, _, rfl⟩
          case rest =>
          obtain ⟨rfl, nq, rfl⟩ := hcut
          have kt2 := kt.drewN nq
          have HR2 : Hid (RowV (wr.drewN nq) 47 gP cP m (ptsV x y)) := Lib.hid HR.out
          have HN2 := Lib.hid (HN.out.drewN nq)
          generalize wr.drewN nq = w2 at *
          clear HR HN kt
          rcases hbT with hbT | hbT
          rotate_left
          · have hms : mostJ (mvB S x y) Wn (i + 1) = mostJ (mvB S x y) Wn i := by
              show (if mvB S x y i = true then _ else _) = _
              rw [if_neg (by rw [hbT]; simp)]
            have HN3 := Lib.hid (show Blk w2 gN 3 (valsArr (fun r => .int .i64 (cntR (mvB S x y) Wn r (i + 1) : Nat)) Wn) from by
              have := HN2.out
              rwa [valsArr_congr (h := fun r => .int .i64 (cntR (mvB S x y) Wn r (i + 1) : Nat)) (fun r _ => by
                have e : cntR (mvB S x y) Wn r (i + 1) = cntR (mvB S x y) Wn r i := by
                  show cntR (mvB S x y) Wn r i + _ = _
                  rw [if_neg (fun h => by rw [hbT] at h; exact absurd h.1 (by simp))]
                  rfl
                rw [e])] at this)
            rw [hbT]
            go_wp2_with fail
            exact ⟨⟨i + 1, by omega, by rw [hms], by go_num, HR2, HN3, kt2⟩, by simp [intOf]; omega⟩
          · have hmr : i % Wn < Wn := Nat.mod_lt _ hw0
            have n0 := HN2.out.val hmr
            have fn := HN2.out.frozen (i % Wn)
            have hWne : ¬ Wn = 0 := by omega
            have hWne1 : ¬ (Wn : Int) = -1 := by omega
            have e1 : (i : Int).tmod (Wn : Int) = ((i % Wn : Nat) : Int) := by rw [Int.tmod_eq_emod_of_nonneg (by omega)]; rfl
            have hcl := cntR_le (b := mvB S x y) (W := Wn) (r := i % Wn) i
            have hcs : cntR (mvB S x y) Wn (i % Wn) (i + 1) = cntR (mvB S x y) Wn (i % Wn) i + 1 := by
              show cntR (mvB S x y) Wn (i % Wn) i + _ = _
              rw [if_pos ⟨hbT, rfl⟩]
            have hms : mostJ (mvB S x y) Wn (i + 1) = max (mostJ (mvB S x y) Wn i) (cntR (mvB S x y) Wn (i % Wn) i + 1) := by
              show (if mvB S x y i = true then _ else _) = _
              rw [if_pos hbT, hcs]
            have hml := mostJ_le (b := mvB S x y) (W := Wn) i
            have g2a := (geo_cells (b8.keep kt2 (by simp))).2.2.1
            have N3 := HN2.out.store (i % Wn) (.int .i64 (cntR (mvB S x y) Wn (i % Wn) i + 1 : Nat))
            have n3 := N3.val hmr
            rw [if_pos rfl] at n3
            have R3 := Lib.hid (HR2.out.far (p := ⟨gN, i % Wn, none⟩) hgPN (.int .i64 (cntR (mvB S x y) Wn (i % Wn) i + 1 : Nat)))
            have HN3 := Lib.hid (show Blk _ gN 3 (valsArr (fun r => .int .i64 (cntR (mvB S x y) Wn r (i + 1) : Nat)) Wn) from by
              rwa [valsArr_congr (h := fun r => .int .i64 (cntR (mvB S x y) Wn r (i + 1) : Nat)) (fun r _ => by
                by_cases h : r = i % Wn
                · rw [if_pos h, h, hcs]
                · have e : cntR (mvB S x y) Wn r (i + 1) = cntR (mvB S x y) Wn r i := by
                    show cntR (mvB S x y) Wn r i + _ = _
                    rw [if_neg (fun h2 => h h2.2.symm)]
                    rfl
                  rw [if_neg h, e])] at N3)
            have k3t := kt2.setCell (p := ⟨gN, i % Wn, none⟩) (.inr hgN) (.int .i64 (cntR (mvB S x y) Wn (i % Wn) i + 1 : Nat))
            have g2c := (geo_cells (b8.keep k3t (by simp))).2.2.1
            clear HR2 HN2 N3 kt2 hcs
            rw [hbT]
            generalize cntR (mvB S x y) Wn (i % Wn) i = cj at *
            generalize hc1 : cj + 1 = c1 at *
            have hci : (cj : Int) + 1 = (c1 : Int) := by omega
            generalize mostJ (mvB S x y) Wn i = mj at *
            generalize i % Wn = jm at *
            by_cases hmc : mj < c1
            · have hmc' : (mj : Int) < (c1 : Int) := by omega
              rw [show max mj c1 = c1 by omega] at hms
              go_wp2_with fail
              exact ⟨⟨i + 1, by omega, by rw [hms], by go_num, R3, HN3, k3t⟩, by simp [intOf]; omega⟩
            · have hmc' : ¬ (mj : Int) < (c1 : Int) := by omega
              rw [show max mj c1 = mj by omega] at hms
              go_wp2_with fail
              exact ⟨⟨i + 1, by omega, by rw [hms], by go_num, R3, HN3, k3t⟩, by simp [intOf]; omega⟩
        · obtain rfl : i = m := by omega
          have him' : ¬ (i : Int) < (i : Int) := by omega
          have HAP := Lib.hid (HR.out.arg (by omega))
          have b11 := b8.keep kt (by simp)
          have m11 := m8.keep kt (by simp)
          have HB11 := Lib.hid (HB8.out.keep kt)
          have k11 := k8.comp kt
          have hml := mostJ_le (b := mvB S x y) (W := Wn) i
          clear HR HN kt b8 m8 HB8 k8
          by_cases h8 : mostJ (mvB S x y) Wn i ≤ 8
          · have h8' : ¬ (8 : Int) < (mostJ (mvB S x y) Wn i : Nat) := by omega
            have HRD := read_says (n := i) hg HMm.out (fun t _ => HPM.out t) (HF1.out x y h8)
            generalize mostJ (mvB S x y) Wn i = mj at *
            clear HF1
            go_upto_region 25 with (fail)
            go_cut [17, 18, 19, 20] (fun v5 v6 v7 v8 wc => ∃ (g5 : Nat) (aD : Option Addr) (cD : Nat), v5 = .pointer (some ⟨g5, 0, none⟩) ∧ v6 = .slice aD z cD ∧ v7 = .int .i64 mj ∧ v8 = .int .i64 0 ∧ Hid (Blk wc g5 25 #[.int .i64 1, .int .i64 j, .int .i64 5]) ∧ Hid (OwnV wc 5 wr.heap.size aD z cD (fun j => .int .u8 (pd j : Nat))) ∧ Keep (fun _ => False) wr wc)
            case first =>
              have kd := (Keep.refl (fun _ => False) wr).drew
              have kz := kd.alloc (.cells #[.int .i64 0, .int .i64 0, .int .i64 0] 25)
              have bz : Blk (wr.drew.alloc (.cells #[.int .i64 0, .int .i64 0, .int .i64 0] 25)) wr.heap.size 25 #[.int .i64 0, .int .i64 0, .int .i64 0] := Blk.new wr.drew _ _
              obtain ⟨q0, q1, q2, q3⟩ := geo_cells (b11.keep kd (by simp))
              go_region_held3 (fun w' => w'.cell? ⟨w.heap.size, 0, none⟩ = some (.int .i64 B) ∧ w'.cell? ⟨w.heap.size, 1, none⟩ = some (.int .i64 P) ∧ w'.cell? ⟨w.heap.size, 2, none⟩ = some (.int .i64 Wn) ∧ w'.cell? ⟨w.heap.size, 3, none⟩ = some (.int .i64 Kn))
                (first | with_reducible exact ⟨q0, q1, q2, q3⟩ | with_reducible exact geo_cells (b11.keep K5 (by simp)) | with_reducible exact geo_cells (b11.keep K6 (by simp)) | exact geo_cells (b11.keep (K6.mark hg5 _ _ _) (by simp)) | exact geo_cells (b11.keep (K6.alloc _) (by simp)) | exact geo_cells (b11.keep (K5.alloc _) (by simp)) | exact geo_cells (b11.keep kz (by simp)))
                (first
                  | (go_at_call 16
                     refine (make_any _).mono ?_
                     rintro e w5 ⟨g1, g2, rfl, T, _, _, k5⟩
                     unfold tabV
                     have K5 : Keep (fun _ => False) wr w5 := by first | exact kd.comp k5 | exact kz.comp k5
                     try (have b5 := bz.keep k5 (by simp); have hg5 := Nat.le_refl wr.heap.size))
                  | (go_at_call 20
                     refine (HRD.out _ _ _ _ ?hT ?hA).mono ?_
                     case hT => first | exact T.has | exact (T.keep ((Keep.refl _ w5).alloc _)).has
                     case hA => first | exact HAP.out.keep K5 | exact HAP.out.keep (K5.alloc _)
                     rintro e w6 ⟨⟨aD, cD, rfl, oD⟩, k6⟩
                     have K6 : Keep (fun _ => False) wr w6 := by first | exact K5.comp k6 | exact (K5.alloc _).comp k6
                     try (have b6 := (Blk.new w5 25 #[.int .i64 0, .int .i64 0, .int .i64 0]).keep k6 (by simp); have hg5 := K5.size; have hl6 := (Blk.new w5 25 #[.int .i64 0, .int .i64 0, .int .i64 0]).lt)
                     try (have b6 := b5.keep k6 (by simp); have hl6 := b5.lt)
                     try (have bX := mark_put b6 (1) (j) (5); obtain ⟨⟨⟨p0, f0⟩, ⟨p1, f1⟩, p2, f2⟩, bF⟩ := bX)))
              all_goals
                go_wp2_with fail
                go_meet
                first
                  | (have bG5 := bF; clear bz; exact ⟨_, aD, cD, rfl, rfl, rfl, rfl, Lib.hid bG5, Lib.hid ((((oD.far (p := ⟨_, 0, none⟩) hl6 _).far (p := ⟨_, 1, none⟩) hl6 _).far (p := ⟨_, 2, none⟩) hl6 _).more (by first | exact K5.size | exact (K5.alloc _).size)), K6.mark hg5 _ _ _⟩)
                  | exact ⟨_, aD, cD, rfl, rfl, rfl, rfl, Lib.hid (Blk.new w6 _ _), Lib.hid ((oD.more K5.size).keep ((Keep.refl _ w6).alloc _)), K6.alloc _⟩
            case rest =>
            obtain ⟨g5, aD, cD, rfl, rfl, rfl, rfl, BM, OD, kc⟩ := hcut
            have m12 := m11.keep kc (by simp)
            obtain ⟨p0, p1, p2⟩ := mark_cells m12
            obtain ⟨r0, r1, r2⟩ := mark_cells BM.out
            have hstr := str_any aD z cD pd _ (OD.out.arg (by omega)) (by omega) (fun i _ => HDD.out i)
            have hstr2 := str_any (some ⟨gB, 0, none⟩) z z pd _ (HB11.out.keep kc) (by omega) (fun i _ => HDD.out i)
            have kf := k11.comp kc
            clear OD BM HB11 b11 m11 kc k11 HRD m12
            generalize strS pd z = str at *
            go_wp2_with fail
            go_ret
            exact ⟨rfl, kf⟩
          · have h8' : (8 : Int) < (mostJ (mvB S x y) Wn i : Nat) := by omega
            obtain ⟨rk, rl, rs, rz, rd, rn, rf, hrf, hrn, hdet⟩ := read_det (x := x) (y := y) hw0 hk1 hwk
            have HRD := read_says (n := i) hg HMm.out (fun t _ => HPM.out t) hdet
            have hrn' : (rn : Int) ≤ 8 := by omega
            generalize mostJ (mvB S x y) Wn i = mj at *
            clear HF1 hdet
            go_upto_region 25 with (fail)
            go_cut [17, 18, 19, 20] (fun v5 v6 v7 v8 wc => ∃ (g5 : Nat) (aD : Option Addr) (cD : Nat), v5 = .pointer (some ⟨g5, 0, none⟩) ∧ v6 = .slice aD rz cD ∧ v7 = .int .i64 rn ∧ v8 = .int .i64 rf ∧ Hid (Blk wc g5 25 #[.int .i64 rk, .int .i64 rl, .int .i64 rs]) ∧ Hid (OwnV wc 5 wr.heap.size aD rz cD (fun j => .int .u8 (rd j : Nat))) ∧ Keep (fun _ => False) wr wc)
            case first =>
              have kd := (Keep.refl (fun _ => False) wr).drew
              have kz := kd.alloc (.cells #[.int .i64 0, .int .i64 0, .int .i64 0] 25)
              have bz : Blk (wr.drew.alloc (.cells #[.int .i64 0, .int .i64 0, .int .i64 0] 25)) wr.heap.size 25 #[.int .i64 0, .int .i64 0, .int .i64 0] := Blk.new wr.drew _ _
              obtain ⟨q0, q1, q2, q3⟩ := geo_cells (b11.keep kd (by simp))
              go_region_held3 (fun w' => w'.cell? ⟨w.heap.size, 0, none⟩ = some (.int .i64 B) ∧ w'.cell? ⟨w.heap.size, 1, none⟩ = some (.int .i64 P) ∧ w'.cell? ⟨w.heap.size, 2, none⟩ = some (.int .i64 Wn) ∧ w'.cell? ⟨w.heap.size, 3, none⟩ = some (.int .i64 Kn))
                (first | with_reducible exact ⟨q0, q1, q2, q3⟩ | with_reducible exact geo_cells (b11.keep K5 (by simp)) | with_reducible exact geo_cells (b11.keep K6 (by simp)) | exact geo_cells (b11.keep (K6.mark hg5 _ _ _) (by simp)) | exact geo_cells (b11.keep (K6.alloc _) (by simp)) | exact geo_cells (b11.keep (K5.alloc _) (by simp)) | exact geo_cells (b11.keep kz (by simp)))
                (first
                  | (go_at_call 16
                     refine (make_any _).mono ?_
                     rintro e w5 ⟨g1, g2, rfl, T, _, _, k5⟩
                     unfold tabV
                     have K5 : Keep (fun _ => False) wr w5 := by first | exact kd.comp k5 | exact kz.comp k5
                     try (have b5 := bz.keep k5 (by simp); have hg5 := Nat.le_refl wr.heap.size))
                  | (go_at_call 20
                     refine (HRD.out _ _ _ _ ?hT ?hA).mono ?_
                     case hT => first | exact T.has | exact (T.keep ((Keep.refl _ w5).alloc _)).has
                     case hA => first | exact HAP.out.keep K5 | exact HAP.out.keep (K5.alloc _)
                     rintro e w6 ⟨⟨aD, cD, rfl, oD⟩, k6⟩
                     have K6 : Keep (fun _ => False) wr w6 := by first | exact K5.comp k6 | exact (K5.alloc _).comp k6
                     try (have b6 := (Blk.new w5 25 #[.int .i64 0, .int .i64 0, .int .i64 0]).keep k6 (by simp); have hg5 := K5.size; have hl6 := (Blk.new w5 25 #[.int .i64 0, .int .i64 0, .int .i64 0]).lt)
                     try (have b6 := b5.keep k6 (by simp); have hl6 := b5.lt)
                     try (have bX := mark_put b6 (rk) (rl) (rs); obtain ⟨⟨⟨p0, f0⟩, ⟨p1, f1⟩, p2, f2⟩, bF⟩ := bX)))
              all_goals
                go_wp2_with fail
                go_meet
                first
                  | (have bG5 := bF; clear bz; exact ⟨_, aD, cD, rfl, rfl, rfl, rfl, Lib.hid bG5, Lib.hid ((((oD.far (p := ⟨_, 0, none⟩) hl6 _).far (p := ⟨_, 1, none⟩) hl6 _).far (p := ⟨_, 2, none⟩) hl6 _).more (by first | exact K5.size | exact (K5.alloc _).size)), K6.mark hg5 _ _ _⟩)
                  | exact ⟨_, aD, cD, rfl, rfl, rfl, rfl, Lib.hid (Blk.new w6 _ _), Lib.hid ((oD.more K5.size).keep ((Keep.refl _ w6).alloc _)), K6.alloc _⟩
            case rest =>
            obtain ⟨g5, aD, cD, rfl, rfl, rfl, rfl, BM, OD, kc⟩ := hcut
            have kf := k11.comp kc
            clear OD BM HB11 b11 m11 kc k11 HRD
            obtain rfl | rfl | rfl | rfl := hrf
            · go_wp2_with fail
              go_ret
              exact ⟨rfl, kf⟩
            · go_wp2_with fail
              go_ret
              exact ⟨rfl, kf⟩
            · go_wp2_with fail
              go_ret
              exact ⟨rfl, kf⟩
            · go_wp2_with fail
              go_ret
              exact ⟨rfl, kf⟩
set_option maxRecDepth 100000 in
theorem moves_of {H : Type} {enc : TypeId × Value → H} {base b0 : Nat} {d0 d1 d2 : DataW H} {ps0 ps1 ps2 : List MemPlace} {sp0 sp1 sp2 : Nat → Bool} (w : World) {v : Value} {a : Option Addr} {n c : Nat} {am : Option Addr} {nm cm : Nat}
    (hv : Value.okWide Try.prog w .any b0 23 v) (hg : DataW.Trod enc Try.prog w base sp0 true 23 v d0 ps0)
    (h : DataW.Trod enc Try.prog w base sp1 true 26 (.slice a n c) d1 ps1) (hm : DataW.Trod enc Try.prog w base sp2 true 51 (.slice am nm cm) d2 ps2) :
    Calls Try.prog 6 #[v, .slice a n c, .slice am nm cm] w fun e w' => e = .returned (.bool true) ∧ Keep (fun _ => False) w w' := by
  obtain ⟨B, P, W, K, rfl⟩ := geo4_of hv hg
  obtain ⟨d, _, hA, hd⟩ := argB_of h
  obtain ⟨X, Y, Z, hV⟩ := triples_of (k := .i16) Try.underlying51 Try.underlying53 Try.underlying52 (by kernel_rfl) (by kernel_rfl) hm
  exact moves_true w B P W K a n c d am nm cm X Y Z hV hA hd
end Go.Proofs.Ytdlmjjlejkkniaa
