/- blackboardlaw12.CensusCounts: one cell more out of its square. -/
import Derived.Test.YtdlmjjlejkkniaaCountsP
import Derived.Test.YtdlmjjlejkkniaaArgsU
namespace Go.Proofs.Ytdlmjjlejkkniaa
open Go.ChangeShapes Go.WideShapes Go.ChangeAt Go.RowKit
attribute [local go_sem] run_store_cx

theorem Try.info_bo : (Try.prog.info? 4).map (fun i => (i.zero, i.size, i.bytes)) = some (some (.bool false), 1, 1) := by kernel_rfl
theorem make_bo (x : Int) (m : Nat) (hx : x = m) (hm : m ≤ 1000000) (w : World) :
    (Instr.makeSlice 74 (.int .i64 x) (.int .i64 x)).run Try.prog w = .ok (.slice (some ⟨w.heap.size, 0, none⟩) m m) (w.alloc (.cells (valsArr (fun _ => .bool false) m) 4)) :=
  make_vals (P := Try.prog) Try.underlying74 Try.info_bo rfl x m hx (by omega) (by omega) w
theorem make_in (x : Int) (m : Nat) (hx : x = m) (hm : m ≤ 1000000) (w : World) :
    (Instr.makeSlice 30 (.int .i64 x) (.int .i64 x)).run Try.prog w = .ok (.slice (some ⟨w.heap.size, 0, none⟩) m m) (w.alloc (.cells (valsArr (fun _ => .int .i64 0) m) 3)) :=
  make_vals (P := Try.prog) Try.underlying30 Try.info_int rfl x m hx (by omega) (by omega) w
theorem pt_p6 : Value.complex .f64 4618441417868443648 0 = ptv 48 0 := by
  unfold ptv
  rw [show fx (2 * 48) = 4618441417868443648 by decide, show (2 * (0 : Int)) = 0 from rfl, fx_zero]
theorem pt_m6 : Value.complex .f64 13841813454723219456 0 = ptv (-48) 0 := by
  unfold ptv
  rw [show fx (2 * (-48)) = 13841813454723219456 by decide, show (2 * (0 : Int)) = 0 from rfl, fx_zero]
theorem re_sign (s : Nat) : (FloatKind.f64.format.order (fx (2 * reS s)) 0 == some .gt) = decide (0 < reS s) := by
  have h := fl_gt (a := 2 * reS s) (b := 0) (by have := re_le s; unfold Sm; omega) (by unfold Sm; decide)
  rw [fx_zero] at h
  rw [h]
  exact decide_eq_decide.2 (by omega)
set_option maxRecDepth 100000 in
set_option maxHeartbeats 8000000 in
theorem counts_true (w : World) (B P W K : Int) (a : Option Addr) (n c : Nat) (p : Nat → Nat) (ha : n ≤ 1000000 → ArgU w a n p) :
    Calls Try.prog 13 #[geoV B P W K, .slice a n c] w fun e w' => e = .returned (.bool true) ∧ Keep (fun _ => False) w w' := by
  have k0 := (Keep.refl (fun _ => False) w).alloc (.cells #[.int .i64 B, .int .i64 P, .int .i64 W, .int .i64 K] 23)
  have b0 := Blk.new w 23 #[.int .i64 B, .int .i64 P, .int .i64 W, .int .i64 K]
  have HA := Lib.hid ha
  clear ha
  go_enter Try.func13, Try.ntmps13
  go_wp2_with fail
  refine (awake12_true _).mono ?_
  rintro e w1 ⟨rfl, q1⟩
  have k1 := k0.comp q1
  have b1 := b0.keep q1 (by simp)
  clear b0 k0 q1
  obtain ⟨g0, g1, g2, g3⟩ := geo_cells' b1
  go_wp2_with fail
  by_cases hg : GeoOk B P W K
  rotate_left
  · refine (small_no B P W K _ hg).mono ?_
    rintro e w2 ⟨rfl, q2⟩
    have k2 := k1.comp q2
    have b2 := b1.keep q2 (by simp)
    clear b1 k1 q2 g0 g1 g2 g3
    obtain ⟨g0, g1, g2, g3⟩ := geo_cells' b2
    go_wp2_with fail
    refine (gmay_no B P W K _ hg).mono ?_
    rintro e w3 ⟨rfl, q3⟩
    have k3 := k2.comp q3
    clear b2 k2 q3 g0 g1 g2 g3
    go_wp2_with fail
    go_ret
    exact ⟨rfl, k3⟩
  obtain ⟨Wn, rfl⟩ : ∃ X : Nat, W = X := ⟨W.toNat, by have := hg.w0; omega⟩
  obtain ⟨Kn, rfl⟩ : ∃ X : Nat, K = X := ⟨K.toNat, by have := hg.k0; omega⟩
  obtain ⟨hw0, hw1, hk0, hk1, hwk, hwk2⟩ := geo_nat hg
  refine (small_yes B P Wn Kn _ hg).mono ?_
  rintro e w2 ⟨rfl, q2⟩
  have k2 := k1.comp q2
  have b2 := b1.keep q2 (by simp)
  clear b1 k1 q2 g0 g1 g2 g3
  obtain ⟨g0, g1, g2, g3⟩ := geo_cells b2
  by_cases hs2 : Wn * (Kn + 16) ≤ 200
  rotate_left
  · rw [decide_eq_false hs2]
    go_wp2_with fail
    go_ret
    exact ⟨rfl, k2⟩
  rw [decide_eq_true hs2]
  go_wp2_with fail
  refine (gmay_yes B P Wn Kn _ hg).mono ?_
  rintro e w3 ⟨rfl, q3⟩
  have k3 := k2.comp q3
  have b3 := b2.keep q3 (by simp)
  clear b2 k2 q3 g0 g1 g2 g3
  by_cases hn1 : 100 < n
  · have hn1' : (100 : Int) < (n : Int) := by omega
    go_wp2_with fail
    go_ret
    exact ⟨rfl, k3⟩
  have hn1' : ¬ (100 : Int) < (n : Int) := by omega
  go_upto_region 5 with (fail)
  clear hn1'
  have hz := szB_le hg
  have bd : Blk w3.drew w.heap.size 23 #[.int .i64 B, .int .i64 P, .int .i64 Wn, .int .i64 Kn] := b3.drew
  have hmk := make_by (szB Wn Kn : Nat) (szB Wn Kn) rfl (by omega)
  have HSz := Lib.hid (fun w => rsize_any B P Wn Kn w hg)
  have HMk := Lib.hid (fun w => rmake_yes B P Wn Kn 1 0 9 (some ⟨w.heap.size, 0, none⟩) (szB Wn Kn) (fun _ => 0) (w.alloc (.cells (valsArr (fun _ => .int .u8 0) (szB Wn Kn)) 5)) hg ⟨by omega, by omega, by omega, by omega⟩ (zeros_arg w _ (by omega)) (fun _ _ => by omega))
  have HDl := Lib.hid (show ∀ i, pgD 1 0 9 (fun _ => 0) (szB Wn Kn) i < 1024 from pgD_lt ⟨by omega, by omega, by omega, by omega⟩ _ _)
  generalize pgD 1 0 9 (fun _ => 0) (szB Wn Kn) = D at *
  generalize szB Wn Kn = z at *
  go_region_held3 (fun w' => w'.cell? ⟨w.heap.size, 0, none⟩ = some (.int .i64 B) ∧ w'.cell? ⟨w.heap.size, 1, none⟩ = some (.int .i64 P) ∧ w'.cell? ⟨w.heap.size, 2, none⟩ = some (.int .i64 Wn) ∧ w'.cell? ⟨w.heap.size, 3, none⟩ = some (.int .i64 Kn))
    (first | exact geo_cells' bd | exact geo_cells' b5 | exact geo_cells' (b5.alloc _) | exact geo_cells' b6)
    (first
      | (go_at_call 23; refine (HSz.out _).mono ?_; rintro e w5 ⟨rfl, k5⟩; have b5 := bd.keep k5 (by simp))
      | (go_at_call 18; refine (HMk.out _).mono ?_; rintro e w6 ⟨aS, cS, rfl, oS, k6⟩; have b6 := (b5.alloc (.cells (valsArr (fun _ => .int .u8 0) z) 5)).keep k6 (by simp)))
  have OS := Lib.hid (show OwnU w6 0 aS (Wn * (Kn + 16)) cS (pageS Wn Kn D) from oS.more (by omega))
  have K6 : Keep (fun _ => False) w w6 := k3.comp ((show Keep (fun _ => False) w3 w3.drew from (Keep.refl _ w3).drew).comp (k5.comp (((Keep.refl _ w5).alloc _).comp k6)))
  clear oS k5 k6 hmk b5 bd b3 k3 HMk HSz hz
  obtain ⟨m, hm⟩ : ∃ m, m = Wn * (Kn + 16) := ⟨_, rfl⟩
  have HMm := Lib.hid hm
  rw [← hm] at OS hs2
  rw [← HMm.out]
  clear hm
  have hm17 : 17 ≤ m := by
    have h1 : 1 * (1 + 16) ≤ Wn * (Kn + 16) := Nat.mul_le_mul hw0 (by omega)
    have := HMm.out
    omega
  have HSl := Lib.hid (show ∀ i, i < m → pageS Wn Kn D i < 1024 from fun i hi => pageS_lt HDl.out hw0 (by rw [← HMm.out]; exact hi))
  go_wp2_with fail
  refine (points_any aS m cS (pageS Wn Kn D) _ (OS.out.arg (by omega) (fun i hi => by have := HSl.out i hi; omega)) (by omega)).mono ?_
  rintro e w7 ⟨aP, cP, rfl, oP, k7⟩
  obtain ⟨gP, rfl, hgP, _, rP⟩ := oP.row (by omega)
  have hP7 := rP.lt
  have RP := Lib.hid rP
  have b7 := b6.keep k7 (by simp)
  have K7 := K6.comp k7
  have hP6 := b6.lt
  clear OS oP rP b6 K6
  go_wp2_with fail
  refine (make_any _).mono ?_
  rintro e w8 ⟨t1, t2, rfl, T, ht1, ht2, k8⟩
  unfold tabV
  obtain ⟨TV, k9⟩ := TVar.new T
  have RP9 := Lib.hid ((RP.out.keep k8 (by simp)).keep k9 (by simp))
  have b9 := (b7.keep k8 (by simp)).keep k9 (by simp)
  have K9 := K7.comp (k8.comp k9)
  have ht0 : gP < w8.heap.size := (RP.out.keep k8 (by simp)).lt
  clear RP b7 K7 k8 k9 T
  go_upto_region 10 with (fail)
  generalize w8.alloc (.cells #[.slice (some ⟨t1, 0, none⟩) 1023 1023, .slice (some ⟨t2, 0, none⟩) 1024 1024] 32) = w9 at *
  have hgt : ¬ w8.heap.size = gP := by omega
  generalize w8.heap.size = gt at *
  obtain ⟨g0, g1, g2, g3⟩ := geo_cells b9
  have hmk1 := make_in (Wn : Int) Wn rfl (by omega)
  have hmk2 := make_bo (m : Int) m rfl (by omega)
  have n1 := Blk.new w9 3 (valsArr (fun _ => .int .i64 0) Wn)
  have n2 := Blk.here (w9.alloc (.cells (valsArr (fun _ => .int .i64 0) Wn) 3)) 4 (valsArr (fun _ => .bool false) m) (w9.heap.size + 1) (by simp)
  have k10 := (((Keep.refl (fun b => b = gP) w9).alloc (.cells (valsArr (fun _ => .int .i64 0) Wn) 3)).alloc (.cells (valsArr (fun _ => .bool false) m) 4))
  have n1' := n1.alloc (.cells (valsArr (fun _ => .bool false) m) 4)
  have hgP9 : gP < w9.heap.size := RP9.out.lt
  have R10 := Lib.hid (show RowV ((w9.alloc (.cells (valsArr (fun _ => .int .i64 0) Wn) 3)).alloc (.cells (valsArr (fun _ => .bool false) m) 4)) 47 gP cP m (ptsV (cnX (pageS Wn Kn D) (fun _ => false)) (cnY (pageS Wn Kn D))) from by
    refine (RP9.out.keep (((Keep.refl (fun _ => False) w9).alloc _).alloc _) (by simp)).congr (fun i _ => ?_)
    show ptv (reS (pageS Wn Kn D i)) (imS (pageS Wn Kn D i)) = ptv (reS (pageS Wn Kn D i) + if false = true then _ else 0) (imS (pageS Wn Kn D i))
    rw [if_neg (by simp), Int.add_zero])
  obtain ⟨w10, hw10⟩ : ∃ X, X = ((w9.alloc (.cells (valsArr (fun _ => .int .i64 0) Wn) 3)).alloc (.cells (valsArr (fun _ => .bool false) m) 4)) := ⟨_, rfl⟩
  have n10 := Lib.hid (show Blk w10 w9.heap.size 3 (valsArr (fun r => .int .i64 (manyN (fun _ => false) Wn (Kn + 16) r : Nat)) Wn) from by
    rw [hw10, valsArr_congr (g := fun r => .int .i64 (manyN (fun _ => false) Wn (Kn + 16) r : Nat)) (h := fun _ => .int .i64 0) (fun r _ => by rw [manyN_zero]; rfl)]
    exact n1')
  have m10 := Lib.hid (show Blk w10 (w9.heap.size + 1) 4 (valsArr (fun _ => .bool false) m) from by rw [hw10]; exact n2)
  rw [← hw10] at R10 k10
  go_wp2_with fail
  rw [← hw10]
  clear hw10 n1 n2 n1' hmk1 hmk2 g0 g1 g2 g3 RP9
  generalize hgN : w9.heap.size = gN at *
  have HgN := Lib.hid hgN
  have hgB : ∃ gB, gB = gN + 1 := ⟨_, rfl⟩
  obtain ⟨gB, hgB⟩ := hgB
  rw [← hgB] at m10 ⊢
  have hgB1 : gN < gB := by omega
  clear hgB
  go_loopw [11] (fun v wr => ∃ (i : Nat) (b : Nat → Bool), i ≤ n ∧ v = .int .i64 i ∧ Hid (RowV wr 47 gP cP m (ptsV (cnX (pageS Wn Kn D) b) (cnY (pageS Wn Kn D)))) ∧ Hid (Blk wr gN 3 (valsArr (fun r => .int .i64 (manyN b Wn (Kn + 16) r : Nat)) Wn)) ∧ Hid (Blk wr gB 4 (valsArr (fun k => .bool (b k)) m)) ∧ Hid (∀ r, r < Wn → manyN b Wn (Kn + 16) r ≤ 8) ∧ Keep (fun b => b = gP) w9 wr) (fun v _ => n - (intOf v).toNat)
  case atStart => exact ⟨0, fun _ => false, by omega, rfl, R10, n10, m10, Lib.hid (fun r _ => by rw [manyN_zero]; omega), k10⟩
  case round =>
    clear R10 n10 m10 k10
    obtain ⟨i, b, hi, rfl, HR, HN, HB, H8, kk⟩ := hrel
    by_cases hin : i < n
    · have hin' : (i : Int) < (n : Int) := by omega
      obtain ⟨bA, oA, hA, hbA, hcA⟩ := ((HA.out (by omega)).at_ (by omega))
      have hlt := (HA.out (by omega)).lt i hin
      subst hA
      have K9s := K9.size
      have c0 := (kk.cell (p := ⟨bA, oA + i, none⟩) (by show bA < _; omega) (by show ¬ bA = gP; omega)).trans ((K9.cell (p := ⟨bA, oA + i, none⟩) hbA (by simp)).trans (hcA i hin))
      obtain ⟨g0, g1, g2, g3⟩ := geo_cells (b9.keep kk (by show ¬ w.heap.size = gP; omega))
      obtain ⟨k, hk⟩ : ∃ k, k = p i % m := ⟨_, rfl⟩
      have hkm : k < m := by rw [hk]; exact Nat.mod_lt _ (by omega)
      have e1 : ((p i : Nat) : Int).tmod (m : Int) = (k : Int) := by rw [Int.tmod_eq_emod_of_nonneg (by omega), hk]; rfl
      have e2 : (k : Int).tmod (Wn : Int) = ((k % Wn : Nat) : Int) := by rw [Int.tmod_eq_emod_of_nonneg (by omega)]; rfl
      have hr : k % Wn < Wn := Nat.mod_lt _ (by omega)
      have cB := HB.out.val hkm
      have cN := HN.out.val hr
      have hm0 : ¬ m = 0 := by omega
      have hW0 : ¬ Wn = 0 := by omega
      have HUp := Lib.hid (fun (hb : b k = false) r (hr : r < Wn) => manyN_upd (b := b) (n := Kn + 16) hw0 (by rw [← HMm.out]; exact hkm) hb hr)
      clear hcA hk
      generalize p i = pi at *
      generalize hrr : k % Wn = r at *
      have HRR := Lib.hid hrr
      clear hrr
      have H8r := H8.out r hr
      cases hbk : b k with
      | true =>
        rw [hbk] at cB
        go_wp2_with fail
        exact ⟨⟨i + 1, b, by omega, by go_num, HR, HN, HB, H8, kk⟩, by simp [intOf]; omega⟩
      | false =>
        rw [hbk] at cB
        have HUp := Lib.hid (HUp.out hbk)
        by_cases h8 : 8 ≤ manyN b Wn (Kn + 16) r
        · have h8' : (8 : Int) ≤ ((manyN b Wn (Kn + 16) r : Nat) : Int) := by omega
          generalize manyN b Wn (Kn + 16) r = mb at *
          go_wp2_with fail
          exact ⟨⟨i + 1, b, by omega, by go_num, HR, HN, HB, H8, kk⟩, by simp [intOf]; omega⟩
        · have h8' : ¬ (8 : Int) ≤ ((manyN b Wn (Kn + 16) r : Nat) : Int) := by omega
          have bgr := b9.keep kk (by show ¬ w.heap.size = gP; omega)
          have fzB := HB.out.frozen k
          have bgB := bgr.far (p := ⟨gB, k, none⟩) (by show w.heap.size ≠ gB; omega) (.bool true)
          have NB := HN.out.far (p := ⟨gB, k, none⟩) (by show gN ≠ gB; omega) (.bool true)
          have BB := HB.out.store k (.bool true)
          have RB := HR.out.far (p := ⟨gB, k, none⟩) (by show gP ≠ gB; omega) (.bool true)
          obtain ⟨h0, h1, h2, h3⟩ := geo_cells bgB
          have cNB := NB.val hr
          have fzN := NB.frozen r
          have V1 : Value := .int .i64 ((manyN b Wn (Kn + 16) r : Nat) + 1)
          have bgN := bgB.far (p := ⟨gN, r, none⟩) (by show w.heap.size ≠ gN; omega) (.int .i64 ((manyN b Wn (Kn + 16) r : Nat) + 1))
          have NN := NB.store r (.int .i64 ((manyN b Wn (Kn + 16) r : Nat) + 1))
          have BN := BB.far (p := ⟨gN, r, none⟩) (by show gB ≠ gN; omega) (.int .i64 ((manyN b Wn (Kn + 16) r : Nat) + 1))
          have RN := RB.far (p := ⟨gN, r, none⟩) (by show gP ≠ gN; omega) (.int .i64 ((manyN b Wn (Kn + 16) r : Nat) + 1))
          have KN := (kk.setCell (p := ⟨gB, k, none⟩) (.inr (by show _ ≤ gB; omega)) (.bool true)).setCell (p := ⟨gN, r, none⟩) (.inr (by show _ ≤ gN; omega)) (.int .i64 ((manyN b Wn (Kn + 16) r : Nat) + 1))
          rw [valsArr_congr (h := fun r' => .int .i64 (manyN (updF b k true) Wn (Kn + 16) r' : Nat)) (fun r' hr' => by
            rw [HUp.out r' hr']
            by_cases h : r' = r
            · subst h
              rw [if_pos rfl, if_pos rfl]
              rfl
            · rw [if_neg h, if_neg h])] at NN
          rw [valsArr_congr (h := fun j => .bool (updF b k true j)) (fun j _ => by
            unfold updF
            split <;> rfl)] at BN
          have H8n := Lib.hid (show ∀ r', r' < Wn → manyN (updF b k true) Wn (Kn + 16) r' ≤ 8 from fun r' hr' => by
            rw [HUp.out r' hr']
            have := H8.out r' hr'
            split
            · rename_i h
              rw [h]
              omega
            · exact this)
          have cP0 := RN.val hkm
          have fP := RN.frozen k
          rw [show ptsV (cnX (pageS Wn Kn D) b) (cnY (pageS Wn Kn D)) k = ptv (reS (pageS Wn Kn D k)) (imS (pageS Wn Kn D k)) by
            show ptv (reS _ + if b k = true then _ else 0) _ = _
            rw [hbk, if_neg (by simp), Int.add_zero]
            rfl] at cP0
          have hsg := re_sign (pageS Wn Kn D k)
          have HNN := Lib.hid NN
          have HBN := Lib.hid BN
          have HRN := Lib.hid RN
          have HKN := Lib.hid KN
          have HBG := Lib.hid bgN
          clear bgr bgB NB BB RB bgN NN BN RN KN HR HN HB H8 kk HUp V1
          generalize manyN b Wn (Kn + 16) r = mb at *
          cases hs : decide (0 < reS (pageS Wn Kn D k)) with
          | false =>
            rw [hs] at hsg
            have hmv : mvI (pageS Wn Kn D) k = 48 := by
              unfold mvI
              first
                | exact if_pos (of_decide_eq_true hs)
                | exact if_neg (of_decide_eq_false hs)
            have hop : ∀ t w, (binOp .add t (ptv (reS (pageS Wn Kn D k)) (imS (pageS Wn Kn D k))) (.complex .f64 4618441417868443648 0)).run Try.prog w = .ok (ptv (reS (pageS Wn Kn D k) + 48) (imS (pageS Wn Kn D k) + 0)) w := by
              rw [pt_p6]
              exact pt_add (Pm_re _) (Pm_im _) (by unfold Pm; decide) (by unfold Pm; decide)
            have RP := Lib.hid (HRN.out.store k (ptv (reS (pageS Wn Kn D k) + 48) (imS (pageS Wn Kn D k) + 0)) (f' := ptsV (cnX (pageS Wn Kn D) (updF b k true)) (cnY (pageS Wn Kn D))) (fun j _ => by
              by_cases h : j = k
              · subst h
                rw [if_pos rfl]
                show ptv (reS _ + if updF b j true j = true then _ else 0) (imS _) = _
                rw [updF_at, if_pos rfl, hmv, Int.add_zero]
              · rw [if_neg h]
                show ptv (reS _ + if updF b k true j = true then _ else 0) (imS _) = ptv (reS _ + if b j = true then _ else 0) (imS _)
                rw [updF_ne _ _ h]))
            have NP := Lib.hid (HNN.out.far (p := ⟨gP, k, none⟩) (by show gN ≠ gP; omega) (ptv (reS (pageS Wn Kn D k) + 48) (imS (pageS Wn Kn D k) + 0)))
            have BP := Lib.hid (HBN.out.far (p := ⟨gP, k, none⟩) (by show gB ≠ gP; omega) (ptv (reS (pageS Wn Kn D k) + 48) (imS (pageS Wn Kn D k) + 0)))
            have KP := HKN.out.setCell (p := ⟨gP, k, none⟩) (.inl rfl) (ptv (reS (pageS Wn Kn D k) + 48) (imS (pageS Wn Kn D k) + 0))
            have TVp := TV.keepS KP (by show ¬ gt = gP; omega) (by show ¬ t1 = gP; omega) (by show ¬ t2 = gP; omega)
            have bgP := b9.keep KP (by show ¬ w.heap.size = gP; omega)
            obtain ⟨d0, d1⟩ := tab_cells TVp.b
            obtain ⟨i0, i1, i2, i3⟩ := geo_cells bgP
            have HKP := Lib.hid KP
            have HTP := Lib.hid TVp
            have HGP := Lib.hid bgP
            clear hmv HRN HNN HBN HKN HBG KP TVp bgP
            unfold ptv at cP0 hop RP NP BP HKP HTP HGP d0 d1 i0 i1 i2 i3
            generalize fx (2 * reS (pageS Wn Kn D k)) = X1 at *
            generalize fx (2 * imS (pageS Wn Kn D k)) = Y1 at *
            generalize fx (2 * (reS (pageS Wn Kn D k) + 48)) = X2 at *
            generalize fx (2 * (imS (pageS Wn Kn D k) + 0)) = Y2 at *
            go_wp2_with fail
            clear cP0 fP hsg hop h0 h1 h2 h3 cNB fzN fzB c0 g0 g1 g2 g3 cB cN e1 e2 i0 i1 i2 i3 d0 d1
            refine (cof_any _ B P Wn Kn m _ _ (cnX (pageS Wn Kn D) (updF b k true)) (cnY (pageS Wn Kn D)) _ hg HMm.out HTP.out.t.has (RP.out.arg (by omega)) (fun i _ => ⟨(cn_u _ _ i).1.pm, (cn_u _ (updF b k true) i).2.pm⟩)).mono ?_
            rintro e w11 ⟨⟨aL, cL, rfl, f, bb, oL, hrow⟩, q⟩
            have HFB := Lib.hid (show ∀ r', r' < Wn → bb r' = true ∧ f r' = manyN (updF b k true) Wn (Kn + 16) r' from fun r' hr' => by
              have h1 := (hrow r' hr').good (by omega) (cn_good HDl.out hw0 _ hr' (H8n.out r' hr'))
              rw [cn_wrong HDl.out hw0 _ hr'] at h1
              exact h1)
            obtain ⟨gL, rfl, _, _, hcl⟩ := oL.cells (by omega)
            have HCL := Lib.hid hcl
            have N11 := Lib.hid (NP.out.keep q (by simp))
            have B11 := Lib.hid (BP.out.keep q (by simp))
            have R11 := Lib.hid (RP.out.keep q (by simp))
            have K11 := Lib.hid (HKP.out.step q)
            have G11 := Lib.hid (HGP.out.keep q (by simp))
            obtain ⟨i0, i1, i2, i3⟩ := geo_cells G11.out
            clear HKP HTP HGP NP BP RP hrow oL hcl q
            generalize updF b k true = bn at *
            go_wp2_with fail
            clear i0 i1 i2 i3
            go_loopw [16] (fun v wt => ∃ r' : Nat, r' ≤ Wn ∧ v = .int .i64 r' ∧ Keep (fun _ => False) w11 wt) (fun v _ => Wn - (intOf v).toNat)
            case atStart => exact ⟨0, by omega, rfl, Keep.refl _ _⟩
            case round =>
              obtain ⟨r', hr', rfl, qt⟩ := hrel
              obtain ⟨i0, i1, i2, i3⟩ := geo_cells (G11.out.keep qt (by simp))
              by_cases hrW : r' < Wn
              · have hrW' : (r' : Int) < (Wn : Int) := by omega
                have l0 := (qt.cell (p := ⟨gL, r' * 2, none⟩) (by show gL < _; assumption) (by simp)).trans (HCL.out r' hrW).1
                have l1 := (qt.cell (p := ⟨gL, r' * 2 + 1, none⟩) (by show gL < _; assumption) (by simp)).trans (HCL.out r' hrW).2
                rw [(HFB.out r' hrW).2] at l0
                rw [(HFB.out r' hrW).1] at l1
                have cN := (N11.out.keep qt (by simp)).val hrW
                generalize manyN bn Wn (Kn + 16) r' = mr at *
                go_wp2_with fail
                go_quiet (fail)
                go_wp2_with fail
                exact ⟨⟨r' + 1, by omega, by go_num, qt.drewN _⟩, by simp [intOf]; omega⟩
              · obtain rfl : r' = Wn := by omega
                have hrW' : ¬ (r' : Int) < (r' : Int) := by omega
                have NF := Lib.hid (N11.out.keep qt (by simp))
                have BF := Lib.hid (B11.out.keep qt (by simp))
                have RF := Lib.hid (R11.out.keep qt (by simp))
                have KF := K11.out.step qt
                clear N11 B11 R11 K11 G11 qt
                go_wp2_with fail
                exact ⟨⟨i + 1, bn, by omega, by go_num, RF, NF, BF, H8n, KF⟩, by simp [intOf]; omega⟩
          | true =>
            rw [hs] at hsg
            have hmv : mvI (pageS Wn Kn D) k = (-48) := by
              unfold mvI
              first
                | exact if_pos (of_decide_eq_true hs)
                | exact if_neg (of_decide_eq_false hs)
            have hop : ∀ t w, (binOp .add t (ptv (reS (pageS Wn Kn D k)) (imS (pageS Wn Kn D k))) (.complex .f64 13841813454723219456 0)).run Try.prog w = .ok (ptv (reS (pageS Wn Kn D k) + (-48)) (imS (pageS Wn Kn D k) + 0)) w := by
              rw [pt_m6]
              exact pt_add (Pm_re _) (Pm_im _) (by unfold Pm; decide) (by unfold Pm; decide)
            have RP := Lib.hid (HRN.out.store k (ptv (reS (pageS Wn Kn D k) + (-48)) (imS (pageS Wn Kn D k) + 0)) (f' := ptsV (cnX (pageS Wn Kn D) (updF b k true)) (cnY (pageS Wn Kn D))) (fun j _ => by
              by_cases h : j = k
              · subst h
                rw [if_pos rfl]
                show ptv (reS _ + if updF b j true j = true then _ else 0) (imS _) = _
                rw [updF_at, if_pos rfl, hmv, Int.add_zero]
              · rw [if_neg h]
                show ptv (reS _ + if updF b k true j = true then _ else 0) (imS _) = ptv (reS _ + if b j = true then _ else 0) (imS _)
                rw [updF_ne _ _ h]))
            have NP := Lib.hid (HNN.out.far (p := ⟨gP, k, none⟩) (by show gN ≠ gP; omega) (ptv (reS (pageS Wn Kn D k) + (-48)) (imS (pageS Wn Kn D k) + 0)))
            have BP := Lib.hid (HBN.out.far (p := ⟨gP, k, none⟩) (by show gB ≠ gP; omega) (ptv (reS (pageS Wn Kn D k) + (-48)) (imS (pageS Wn Kn D k) + 0)))
            have KP := HKN.out.setCell (p := ⟨gP, k, none⟩) (.inl rfl) (ptv (reS (pageS Wn Kn D k) + (-48)) (imS (pageS Wn Kn D k) + 0))
            have TVp := TV.keepS KP (by show ¬ gt = gP; omega) (by show ¬ t1 = gP; omega) (by show ¬ t2 = gP; omega)
            have bgP := b9.keep KP (by show ¬ w.heap.size = gP; omega)
            obtain ⟨d0, d1⟩ := tab_cells TVp.b
            obtain ⟨i0, i1, i2, i3⟩ := geo_cells bgP
            have HKP := Lib.hid KP
            have HTP := Lib.hid TVp
            have HGP := Lib.hid bgP
            clear hmv HRN HNN HBN HKN HBG KP TVp bgP
            unfold ptv at cP0 hop RP NP BP HKP HTP HGP d0 d1 i0 i1 i2 i3
            generalize fx (2 * reS (pageS Wn Kn D k)) = X1 at *
            generalize fx (2 * imS (pageS Wn Kn D k)) = Y1 at *
            generalize fx (2 * (reS (pageS Wn Kn D k) + (-48))) = X2 at *
            generalize fx (2 * (imS (pageS Wn Kn D k) + 0)) = Y2 at *
            go_wp2_with fail
            clear cP0 fP hsg hop h0 h1 h2 h3 cNB fzN fzB c0 g0 g1 g2 g3 cB cN e1 e2 i0 i1 i2 i3 d0 d1
            refine (cof_any _ B P Wn Kn m _ _ (cnX (pageS Wn Kn D) (updF b k true)) (cnY (pageS Wn Kn D)) _ hg HMm.out HTP.out.t.has (RP.out.arg (by omega)) (fun i _ => ⟨(cn_u _ _ i).1.pm, (cn_u _ (updF b k true) i).2.pm⟩)).mono ?_
            rintro e w11 ⟨⟨aL, cL, rfl, f, bb, oL, hrow⟩, q⟩
            have HFB := Lib.hid (show ∀ r', r' < Wn → bb r' = true ∧ f r' = manyN (updF b k true) Wn (Kn + 16) r' from fun r' hr' => by
              have h1 := (hrow r' hr').good (by omega) (cn_good HDl.out hw0 _ hr' (H8n.out r' hr'))
              rw [cn_wrong HDl.out hw0 _ hr'] at h1
              exact h1)
            obtain ⟨gL, rfl, _, _, hcl⟩ := oL.cells (by omega)
            have HCL := Lib.hid hcl
            have N11 := Lib.hid (NP.out.keep q (by simp))
            have B11 := Lib.hid (BP.out.keep q (by simp))
            have R11 := Lib.hid (RP.out.keep q (by simp))
            have K11 := Lib.hid (HKP.out.step q)
            have G11 := Lib.hid (HGP.out.keep q (by simp))
            obtain ⟨i0, i1, i2, i3⟩ := geo_cells G11.out
            clear HKP HTP HGP NP BP RP hrow oL hcl q
            generalize updF b k true = bn at *
            go_wp2_with fail
            clear i0 i1 i2 i3
            go_loopw [16] (fun v wt => ∃ r' : Nat, r' ≤ Wn ∧ v = .int .i64 r' ∧ Keep (fun _ => False) w11 wt) (fun v _ => Wn - (intOf v).toNat)
            case atStart => exact ⟨0, by omega, rfl, Keep.refl _ _⟩
            case round =>
              obtain ⟨r', hr', rfl, qt⟩ := hrel
              obtain ⟨i0, i1, i2, i3⟩ := geo_cells (G11.out.keep qt (by simp))
              by_cases hrW : r' < Wn
              · have hrW' : (r' : Int) < (Wn : Int) := by omega
                have l0 := (qt.cell (p := ⟨gL, r' * 2, none⟩) (by show gL < _; assumption) (by simp)).trans (HCL.out r' hrW).1
                have l1 := (qt.cell (p := ⟨gL, r' * 2 + 1, none⟩) (by show gL < _; assumption) (by simp)).trans (HCL.out r' hrW).2
                rw [(HFB.out r' hrW).2] at l0
                rw [(HFB.out r' hrW).1] at l1
                have cN := (N11.out.keep qt (by simp)).val hrW
                generalize manyN bn Wn (Kn + 16) r' = mr at *
                go_wp2_with fail
                go_quiet (fail)
                go_wp2_with fail
                exact ⟨⟨r' + 1, by omega, by go_num, qt.drewN _⟩, by simp [intOf]; omega⟩
              · obtain rfl : r' = Wn := by omega
                have hrW' : ¬ (r' : Int) < (r' : Int) := by omega
                have NF := Lib.hid (N11.out.keep qt (by simp))
                have BF := Lib.hid (B11.out.keep qt (by simp))
                have RF := Lib.hid (R11.out.keep qt (by simp))
                have KF := K11.out.step qt
                clear N11 B11 R11 K11 G11 qt
                go_wp2_with fail
                exact ⟨⟨i + 1, bn, by omega, by go_num, RF, NF, BF, H8n, KF⟩, by simp [intOf]; omega⟩
    · obtain rfl : i = n := by omega
      have hin' : ¬ (i : Int) < (i : Int) := by omega
      have KF : Keep (fun _ => False) w wr := K9.trans kk (fun x hx => .inr (by
        have h1 : x = gP := hx
        omega))
      go_wp2_with fail
      go_ret
      exact ⟨rfl, KF⟩
set_option maxRecDepth 100000 in
theorem counts_of {H : Type} {enc : TypeId × Value → H} {base b0 : Nat} {d0 d1 : DataW H} {ps0 ps1 : List MemPlace} {sp0 sp1 : Nat → Bool} (w : World) {v : Value} {a : Option Addr} {n c : Nat}
    (hv : Value.okWide Try.prog w .any b0 23 v) (hg : DataW.Trod enc Try.prog w base sp0 true 23 v d0 ps0)
    (h : DataW.Trod enc Try.prog w base sp1 true 29 (.slice a n c) d1 ps1) :
    Calls Try.prog 13 #[v, .slice a n c] w fun e w' => e = .returned (.bool true) ∧ Keep (fun _ => False) w w' := by
  obtain ⟨B, P, W, K, rfl⟩ := geo4_of hv hg
  obtain ⟨p, hA, _⟩ := argU_of h
  exact counts_true w B P W K a n c p hA
end Go.Proofs.Ytdlmjjlejkkniaa
