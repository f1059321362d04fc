/- blackboardlaw11.FrameTorn: a page of which just the first cells were programmed. -/
import Derived.Test.YtdlmjjlejkkniaaTornP
namespace Go.Proofs.Ytdlmjjlejkkniaa
open Go.ChangeShapes Go.WideShapes Go.ChangeAt Go.RowKit
attribute [local go_sem] run_store_cx

set_option maxRecDepth 100000 in
set_option maxHeartbeats 16000000 in
theorem torn_true (w : World) (B P W K : Int) (a : Option Addr) (n c : Nat) (d : Nat → Nat) (kp : Nat) (hkp : kp < 65536) (ha : n ≤ 1000000 → ArgV w a n (fun i => .int .u8 (d i : Nat))) (hd : ∀ i, i < n → d i < 256) :
    Calls Try.prog 4 #[geoV B P W K, .slice a n c, .int .u16 kp] w fun e w' => e = .returned (.bool true) ∧ Keep (fun _ => False) w w' := by
  have k0 := (Keep.refl (fun _ => False) w).alloc (.cells #[.int .i64 B, .int .i64 P, .int .i64 W, .int .i64 K] 23)
  have b0 := Blk.new w 23 #[.int .i64 B, .int .i64 P, .int .i64 W, .int .i64 K]
  have HA := Lib.hid ha
  have HD := Lib.hid hd
  clear ha hd
  go_enter Try.func4, Try.ntmps4
  go_wp2_with fail
  refine (awake11_true _).mono ?_
  rintro e w1 ⟨rfl, q1⟩
  have k1 := k0.comp q1
  have b1 := b0.keep q1 (by simp)
  clear b0 k0 q1
  obtain ⟨g0, g1, g2, g3⟩ := geo_cells' b1
  go_wp2_with fail
  by_cases hg : GeoOk B P W K
  rotate_left
  · refine (small_no B P W K _ hg).mono ?_
    rintro e w2 ⟨rfl, q2⟩
    have k2 := k1.comp q2
    have b2 := b1.keep q2 (by simp)
    clear b1 k1 q2 g0 g1 g2 g3
    obtain ⟨g0, g1, g2, g3⟩ := geo_cells' b2
    go_wp2_with fail
    refine (gmay_no B P W K _ hg).mono ?_
    rintro e w3 ⟨rfl, q3⟩
    have k3 := k2.comp q3
    clear b2 k2 q3 g0 g1 g2 g3
    go_wp2_with fail
    go_ret
    exact ⟨rfl, k3⟩
  obtain ⟨Wn, rfl⟩ : ∃ X : Nat, W = X := ⟨W.toNat, by have := hg.w0; omega⟩
  obtain ⟨Kn, rfl⟩ : ∃ X : Nat, K = X := ⟨K.toNat, by have := hg.k0; omega⟩
  obtain ⟨hw0, hw1, hk0, hk1, hwk, hwk2⟩ := geo_nat hg
  refine (small_yes B P Wn Kn _ hg).mono ?_
  rintro e w2 ⟨rfl, q2⟩
  have k2 := k1.comp q2
  have b2 := b1.keep q2 (by simp)
  clear b1 k1 q2 g0 g1 g2 g3
  obtain ⟨g0, g1, g2, g3⟩ := geo_cells b2
  by_cases hs2 : Wn * (Kn + 16) ≤ 200
  rotate_left
  · rw [decide_eq_false hs2]
    go_wp2_with fail
    go_ret
    exact ⟨rfl, k2⟩
  rw [decide_eq_true hs2]
  go_wp2_with fail
  refine (gmay_yes B P Wn Kn _ hg).mono ?_
  rintro e w3 ⟨rfl, q3⟩
  have k3 := k2.comp q3
  have b3 := b2.keep q3 (by simp)
  clear b2 k2 q3 g0 g1 g2 g3
  by_cases hn1 : 1000 < n
  · have hn1' : (1000 : Int) < (n : Int) := by omega
    go_wp2_with fail
    go_ret
    exact ⟨rfl, k3⟩
  have hn1' : ¬ (1000 : Int) < (n : Int) := by omega
  obtain ⟨g0, g1, g2, g3⟩ := geo_cells b3
  go_wp2_with fail
  clear hn1'
  refine (rsize_any B P Wn Kn _ hg).mono ?_
  rintro e w4 ⟨rfl, q4⟩
  have k4 := k3.comp q4
  have b4 := b3.keep q4 (by simp)
  have hz := szB_le hg
  have hz1 := (szB_pk Wn Kn hwk).2
  have hmk := make_by (szB Wn Kn : Nat) (szB Wn Kn) rfl (by omega)
  have q5 := (Keep.refl (fun _ => False) w4).alloc (.cells (valsArr (fun _ => .int .u8 0) (szB Wn Kn)) 5)
  have r5 := Blk.new w4 5 (valsArr (fun _ => .int .u8 0) (szB Wn Kn))
  have HA5 := Lib.hid ((HA.out (by omega)).keep (k4.comp q5))
  clear b3 k3 q4 g0 g1 g2 g3 HA
  have HMK : MarkOk 2 n kp := ⟨by omega, by omega, by omega, by omega⟩
  have HDD := Lib.hid (fun i => padB_lt HD.out i)
  have HM := Lib.hid (fun w a c ha => rmake_yes B P Wn Kn 2 n kp a c (padB d n) w hg HMK ha (fun i _ => HDD.out i))
  have hD : ∀ i, pgD 2 n kp (padB d n) (szB Wn Kn) i < 1024 := pgD_lt HMK _ _
  have HSl := Lib.hid (fun i (hi : i < Wn * (Kn + 16)) => pageS_lt hD hw0 hi)
  have HF1 := Lib.hid (fun kk => torn_says (kk := kk) HMK (fun i (_ : i < szB Wn Kn) => HDD.out i) hw0 hk1 hwk)
  have HF2 := Lib.hid (fun kk w' N e dd (h : ReadR w' N (tnX (pageS Wn Kn (pgD 2 n kp (padB d n) (szB Wn Kn))) kk) (tnY (pageS Wn Kn (pgD 2 n kp (padB d n) (szB Wn Kn))) kk) Wn Kn e) => fun hk h8 => torn_bad (kk := kk) hw0 hk h8 w' N e dd h)
  obtain ⟨m, hmm⟩ : ∃ m, m = Wn * (Kn + 16) := ⟨_, rfl⟩
  have HMm := Lib.hid hmm
  have hm17 : 17 ≤ m := by
    have h1 : 1 * (1 + 16) ≤ Wn * (Kn + 16) := Nat.mul_le_mul hw0 (by omega)
    omega
  obtain ⟨S, hSe⟩ : ∃ S, S = pageS Wn Kn (pgD 2 n kp (padB d n) (szB Wn Kn)) := ⟨_, rfl⟩
  rw [← hmm] at HSl hs2
  rw [← hSe] at HSl
  have HRm : ∀ w a c, ArgV w a (szB Wn Kn) (fun i => .int .u8 (padB d n i : Nat)) → Calls Try.prog 18 #[geoV B P Wn Kn, markV ((2 : Nat) : Int) n kp, .slice a (szB Wn Kn) c] w fun e w' => ∃ a' c', e = .returned (.tuple #[.slice a' m c', .int .i64 0]) ∧ OwnU w' w.heap.size a' m c' S ∧ Keep (fun _ => False) w w' := by
    rw [hmm, hSe]
    exact HM.out
  have HF1m : ∀ kk, mostJ (tnB kk) Wn m ≤ 8 → ∀ w' N e, ReadR w' N (tnX S kk) (tnY S kk) Wn Kn e → SaysR w' N e 2 n kp (szB Wn Kn) (padB d n) (mostJ (tnB kk) Wn m : Nat) 0 := by
    rw [hmm, hSe]
    exact HF1.out
  have HF2m : ∀ kk, 0 < kk → 8 < mostJ (tnB kk) Wn m → ∀ w' N e, ReadR w' N (tnX S kk) (tnY S kk) Wn Kn e → SaysR w' N e 0 0 0 0 (fun _ => 0) 0 4 := by
    rw [hmm, hSe]
    exact fun kk hk h8 w' N e h => HF2.out kk w' N e (fun _ => 0) h hk h8
  have HF3m : ∀ w' N e, ReadR w' N (tnX S 0) (tnY S 0) Wn Kn e → SaysR w' N e 0 0 0 0 (fun _ => 0) 0 13 := fun w' N e h => SaysR.nothing _ (h.blank tn_none)
  clear HM HF1 HF2 hSe hD
  have HM := Lib.hid HRm
  have HF1 := Lib.hid HF1m
  have HF2 := Lib.hid HF2m
  have HF3 := Lib.hid HF3m
  have HRD := Lib.hid (fun kk k l s z d rn rf (hs : ∀ w' N e, ReadR w' N (tnX S kk) (tnY S kk) Wn Kn e → SaysR w' N e k l s z d rn rf) => read_says (n := m) hg hmm (fun i _ => tn_pm S kk i) hs)
  clear HRm HF1m HF2m HF3m hmm HMK
  generalize hzz : szB Wn Kn = z at *
  clear hzz
  go_wp2_with (with_reducible refine wpList_copy_b rfl (.tmp 38) (.tmp 39) rfl w4.heap.size z _ _ _ rfl rfl _ _ r5 HA5.out (fun _ _ => rfl) w4 q5 (Nat.le_refl _) ?_)
  intro w6 r6 q6
  rw [padB_vals] at r6
  have k6 := k4.comp q6
  have b6 := b4.keep q6 (by simp)
  have HB6 := Lib.hid ((RowV.of_blk r6).arg (by omega))
  generalize padB d n = pd at *
  clear b4 k4 q5 q6 r5 r6 hmk HA5
  generalize w4.heap.size = gB at *
  have f1 : IntKind.i64.wrap (kp : Int) = (kp : Int) := wraps_i64 _ (by omega) (by omega)
  have q7 := (Keep.refl (fun _ => False) w6).alloc (.cells #[.int .i64 2, .int .i64 n, .int .i64 kp] 25)
  have m7 := Blk.new w6 25 #[.int .i64 2, .int .i64 n, .int .i64 kp]
  have b7 := b6.keep q7 (by simp)
  have k7 := k6.comp q7
  have HB7 := Lib.hid (HB6.out.keep q7)
  clear k6 b6 HB6 q7
  go_upto_region 8 with (fail)
  generalize w6.alloc (.cells #[.int .i64 2, .int .i64 n, .int .i64 kp] 25) = w7 at *
  generalize w6.heap.size = gM at *
  obtain ⟨g0, g1, g2, g3⟩ := geo_cells b7
  obtain ⟨p0, p1, p2⟩ := mark_cells m7
  go_wp2_with fail
  refine (HM.out _ _ _ HB7.out).mono ?_
  rintro e w8 ⟨aS, cS, rfl, oS, q8⟩
  have k8 := k7.comp q8
  have b8 := b7.keep q8 (by simp)
  have m8 := m7.keep q8 (by simp)
  have HB8 := Lib.hid (HB7.out.keep q8)
  have AS8 := Lib.hid (oS.arg (by omega) (fun i hi => by have := HSl.out i hi; omega))
  clear k7 b7 m7 HB7 q8 oS g0 g1 g2 g3 p0 p1 p2 HM
  go_wp2_with fail
  refine ((points_says aS m cS S (by omega)).out _ AS8.out).mono ?_
  rintro e w9 ⟨aP, cP, rfl, oP, q9⟩
  obtain ⟨gP, rfl, hgP, _, rP⟩ := oP.row (by omega)
  have RP := Lib.hid rP
  have hP9 := rP.lt
  have hm1 : ¬ (m : Int) + 1 = 0 := by omega
  have hm2 : ¬ (m : Int) + 1 = -1 := by omega
  have hrem : (kp : Int).tmod ((m : Int) + 1) = ((kp % (m + 1) : Nat) : Int) := by rw [Int.tmod_eq_emod_of_nonneg (by omega)]; rfl
  have hk2 : kp % (m + 1) ≤ m := by have := Nat.mod_lt kp (show 0 < m + 1 by omega); omega
  have b9 := b8.keep q9 (by simp)
  obtain ⟨g0, g1, g2, g3⟩ := geo_cells b9
  have hmk := make_it (Wn : Int) Wn rfl (by omega) w9
  have q10 := (Keep.refl (fun _ => False) w9).alloc (.cells (valsArr (fun _ => .int .i64 0) Wn) 3)
  have r10 := Blk.new w9 3 (valsArr (fun _ => .int .i64 0) Wn)
  have q80 := q9.comp q10
  clear oP rP q9 q10 AS8
  generalize hkk : kp % (m + 1) = kk at *
  clear hkk
  go_upto_region 15 with (fail)
  clear g0 g1 g2 g3 hmk hrem hm1 hm2 b9
  have hgPN : gP ≠ w9.heap.size := by omega
  have hgN : w8.heap.size ≤ w9.heap.size := by omega
  have RP10 := Lib.hid (show RowV (w9.alloc (.cells (valsArr (fun _ => .int .i64 0) Wn) 3)) 47 gP cP m (ptsV (tnX2 S kk kk) (tnY2 S kk kk)) from
    (RP.out.keep ((Keep.refl (fun _ => False) w9).alloc _) (by simp)).congr (fun i _ => by unfold ptsV tnX2 tnY2; rw [if_neg (by omega), if_neg (by omega)]))
  generalize w9.alloc (.cells (valsArr (fun _ => .int .i64 0) Wn) 3) = w10 at *
  generalize w9.heap.size = gN at *
  clear RP f1
  go_wp2_with fail
  go_loopw [13, 15] (fun v3 v4 wr => ∃ j : Nat, kk ≤ j ∧ j ≤ m ∧ v3 = .int .i64 (mostJ (tnB kk) Wn j : Nat) ∧ v4 = .int .i64 j ∧ Hid (RowV wr 47 gP cP m (ptsV (tnX2 S kk j) (tnY2 S kk j))) ∧ Hid (Blk wr gN 3 (valsArr (fun r => .int .i64 (cntR (tnB kk) Wn r j : Nat)) Wn)) ∧ Keep (fun _ => False) w8 wr) (fun _ v _ => m - (intOf v).toNat)
  case atStart => exact ⟨kk, by omega, hk2, by rw [tn_start_most (Nat.le_refl _)]; rfl, rfl, RP10, Lib.hid (by rwa [valsArr_congr (h := fun r => .int .i64 (cntR (tnB kk) Wn r kk : Nat)) (fun r _ => by rw [tn_start (Nat.le_refl _)]; rfl)] at r10), q80⟩
  case round =>
    clear RP10 r10
    obtain ⟨j, hkj, hj, rfl, rfl, HR, HN, kt⟩ := hrel
    by_cases hjm : j < m
    · have hjm' : (j : Int) < (m : Int) := by omega
      have c0 := HR.out.val hjm
      have fz := HR.out.frozen j
      have hmr : j % Wn < Wn := Nat.mod_lt _ hw0
      have n0 := HN.out.val hmr
      have fn := HN.out.frozen (j % Wn)
      have hWne : ¬ Wn = 0 := by omega
      have hWne1 : ¬ (Wn : Int) = -1 := by omega
      have e1 : (j : Int).tmod (Wn : Int) = ((j % Wn : Nat) : Int) := by rw [Int.tmod_eq_emod_of_nonneg (by omega)]; rfl
      have hcl := cntR_le (b := tnB kk) (W := Wn) (r := j % Wn) j
      have hcs : cntR (tnB kk) Wn (j % Wn) (j + 1) = cntR (tnB kk) Wn (j % Wn) j + 1 := by
        show cntR (tnB kk) Wn (j % Wn) j + _ = _
        rw [if_pos ⟨by unfold tnB; exact decide_eq_true hkj, rfl⟩]
      have hms : mostJ (tnB kk) Wn (j + 1) = max (mostJ (tnB kk) Wn j) (cntR (tnB kk) Wn (j % Wn) j + 1) := by
        show (if tnB kk j = true then _ else _) = _
        rw [if_pos (by unfold tnB; exact decide_eq_true hkj), hcs]
      have hml := mostJ_le (b := tnB kk) (W := Wn) j
      have hZ : ptsV (tnX2 S kk j) (tnY2 S kk j) j = ptv (reS (S j)) (imS (S j)) := by unfold ptsV tnX2 tnY2; rw [if_neg (by omega), if_neg (by omega)]
      rw [hZ] at c0
      have B1 := kt.cell (p := ⟨w.heap.size, 2, none⟩) (b8.lt) (by simp)
      have g2a : wr.cell? ⟨w.heap.size, 2, none⟩ = some (.int .i64 Wn) := (geo_cells (b8.keep kt (by simp))).2.2.1
      have k1t := kt.setCell (p := ⟨gP, j, none⟩) (.inr hgP) (.complex .f64 0 0)
      have g2b : (wr.setCell ⟨gP, j, none⟩ (.complex .f64 0 0)).cell? ⟨w.heap.size, 2, none⟩ = some (.int .i64 Wn) := (geo_cells (b8.keep k1t (by simp))).2.2.1
      have R1 := HR.out.store j (.complex .f64 0 0) (f' := ptsV (tnX2 S kk (j + 1)) (tnY2 S kk (j + 1))) (fun t _ => by
        by_cases h : t = j
        · subst h
          rw [if_pos rfl]
          unfold ptsV tnX2 tnY2
          rw [if_pos (by omega), if_pos (by omega)]
          exact pt_00.symm
        · unfold ptsV tnX2 tnY2
          rw [if_neg h]
          by_cases h2 : kk ≤ t ∧ t < j
          · rw [if_pos h2, if_pos h2, if_pos (by omega), if_pos (by omega)]
          · rw [if_neg h2, if_neg h2, if_neg (by omega), if_neg (by omega)])
      have N1 := HN.out.far (p := ⟨gP, j, none⟩) (fun e => hgPN e.symm) (.complex .f64 0 0)
      have n1 := N1.val hmr
      have fn1 := N1.frozen (j % Wn)
      have N2 := N1.store (j % Wn) (.int .i64 (cntR (tnB kk) Wn (j % Wn) j + 1 : Nat))
      have n2 := N2.val hmr
      rw [if_pos rfl] at n2
      have R2 := Lib.hid (R1.far (p := ⟨gN, j % Wn, none⟩) hgPN (.int .i64 (cntR (tnB kk) Wn (j % Wn) j + 1 : Nat)))
      have HN2 := Lib.hid (show Blk _ gN 3 (valsArr (fun r => .int .i64 (cntR (tnB kk) Wn r (j + 1) : Nat)) Wn) from by
        rwa [valsArr_congr (h := fun r => .int .i64 (cntR (tnB kk) Wn r (j + 1) : Nat)) (fun r _ => by
          by_cases h : r = j % Wn
          · rw [if_pos h, h, hcs]
          · have e : cntR (tnB kk) Wn r (j + 1) = cntR (tnB kk) Wn r j := by
              show cntR (tnB kk) Wn r j + _ = _
              rw [if_neg (fun h2 => h h2.2.symm)]
              rfl
            rw [if_neg h, e])] at N2)
      have k2t := k1t.setCell (p := ⟨gN, j % Wn, none⟩) (.inr hgN) (.int .i64 (cntR (tnB kk) Wn (j % Wn) j + 1 : Nat))
      have g2c := (geo_cells (b8.keep k2t (by simp))).2.2.1
      clear HR HN R1 N1 N2 kt k1t hZ hcs n0 fn B1
      generalize cntR (tnB kk) Wn (j % Wn) j = cj at *
      generalize hc1 : cj + 1 = c1 at *
      have hci : (cj : Int) + 1 = (c1 : Int) := by omega
      generalize mostJ (tnB kk) Wn j = mj at *
      generalize j % Wn = jm at *
      unfold ptv at c0
      by_cases hmc : mj < c1
      · have hmc' : (mj : Int) < (c1 : Int) := by omega
        rw [show max mj c1 = c1 by omega] at hms
        go_wp2_with fail
        exact ⟨⟨j + 1, by omega, by omega, by rw [hms], by go_num, R2, HN2, k2t⟩, by simp [intOf]; omega⟩
      · have hmc' : ¬ (mj : Int) < (c1 : Int) := by omega
        rw [show max mj c1 = mj by omega] at hms
        go_wp2_with fail
        exact ⟨⟨j + 1, by omega, by omega, by rw [hms], by go_num, R2, HN2, k2t⟩, by simp [intOf]; omega⟩
    · obtain rfl : j = m := by omega
      have hjm' : ¬ (j : Int) < (j : Int) := by omega
      have HAP := Lib.hid ((HR.out.congr (f' := ptsV (tnX S kk) (tnY S kk)) (fun i hi => by
        unfold ptsV tnX2 tnY2 tnX tnY
        by_cases h : i < kk
        · rw [if_neg (by omega), if_neg (by omega), if_pos h, if_pos h]
        · rw [if_pos (by omega), if_pos (by omega), if_neg h, if_neg h])).arg (by omega))
      have b11 := b8.keep kt (by simp)
      have m11 := m8.keep kt (by simp)
      have HB11 := Lib.hid (HB8.out.keep kt)
      have k11 := k8.comp kt
      have hml := mostJ_le (b := tnB kk) (W := Wn) j
      clear HR HN kt b8 m8 HB8 k8 q80
      by_cases hkk0 : kk = 0
      · subst hkk0
        have HRD := HRD.out _ _ _ _ _ _ _ _ HF3.out
        generalize mostJ (tnB 0) Wn j = mj at *
        clear HF1 HF2 HF3
        go_upto_region 21 with (fail)
        go_cut [16, 17, 18, 19] (fun v5 v6 v7 v8 wc => ∃ (g5 : Nat) (aD : Option Addr) (cD : Nat), v5 = .pointer (some ⟨g5, 0, none⟩) ∧ v6 = .slice aD 0 cD ∧ v7 = .int .i64 0 ∧ v8 = .int .i64 13 ∧ Hid (Blk wc g5 25 #[.int .i64 0, .int .i64 0, .int .i64 0]) ∧ Hid (OwnV wc 5 wr.heap.size aD 0 cD (fun j => .int .u8 ((fun _ => 0 : Nat → Nat) j : Nat))) ∧ Keep (fun _ => False) wr wc)
        case first =>
          have kd := (Keep.refl (fun _ => False) wr).drew
          have kz := kd.alloc (.cells #[.int .i64 0, .int .i64 0, .int .i64 0] 25)
          have bz : Blk (wr.drew.alloc (.cells #[.int .i64 0, .int .i64 0, .int .i64 0] 25)) wr.heap.size 25 #[.int .i64 0, .int .i64 0, .int .i64 0] := Blk.new wr.drew _ _
          obtain ⟨q0, q1, q2, q3⟩ := geo_cells (b11.keep kd (by simp))
          go_region_held3 (fun w' => w'.cell? ⟨w.heap.size, 0, none⟩ = some (.int .i64 B) ∧ w'.cell? ⟨w.heap.size, 1, none⟩ = some (.int .i64 P) ∧ w'.cell? ⟨w.heap.size, 2, none⟩ = some (.int .i64 Wn) ∧ w'.cell? ⟨w.heap.size, 3, none⟩ = some (.int .i64 Kn))
            (first | with_reducible exact ⟨q0, q1, q2, q3⟩ | with_reducible exact geo_cells (b11.keep K5 (by simp)) | with_reducible exact geo_cells (b11.keep K6 (by simp)) | exact geo_cells (b11.keep (K6.mark hg5 _ _ _) (by simp)) | exact geo_cells (b11.keep (K6.alloc _) (by simp)) | exact geo_cells (b11.keep (K5.alloc _) (by simp)) | exact geo_cells (b11.keep kz (by simp)))
            (first
              | (go_at_call 16
                 refine (make_any _).mono ?_
                 rintro e w5 ⟨g1, g2, rfl, T, _, _, k5⟩
                 unfold tabV
                 have K5 : Keep (fun _ => False) wr w5 := by first | exact kd.comp k5 | exact kz.comp k5
                 try (have b5 := bz.keep k5 (by simp); have hg5 := Nat.le_refl wr.heap.size))
              | (go_at_call 20
                 refine (HRD.out _ _ _ _ ?hT ?hA).mono ?_
                 case hT => first | exact T.has | exact (T.keep ((Keep.refl _ w5).alloc _)).has
                 case hA => first | exact HAP.out.keep K5 | exact HAP.out.keep (K5.alloc _)
                 rintro e w6 ⟨⟨aD, cD, rfl, oD⟩, k6⟩
                 have K6 : Keep (fun _ => False) wr w6 := by first | exact K5.comp k6 | exact (K5.alloc _).comp k6
                 try (have b6 := (Blk.new w5 25 #[.int .i64 0, .int .i64 0, .int .i64 0]).keep k6 (by simp); have hg5 := K5.size; have hl6 := (Blk.new w5 25 #[.int .i64 0, .int .i64 0, .int .i64 0]).lt)
                 try (have b6 := b5.keep k6 (by simp); have hl6 := b5.lt)
                 try (have bX := mark_put b6 (0) (0) (0); obtain ⟨⟨⟨p0, f0⟩, ⟨p1, f1⟩, p2, f2⟩, bF⟩ := bX)))
          all_goals
            go_wp2_with fail
            go_meet
            first
              | (have bG5 := bF; clear bz; exact ⟨_, aD, cD, rfl, rfl, rfl, rfl, Lib.hid bG5, Lib.hid ((((oD.far (p := ⟨_, 0, none⟩) hl6 _).far (p := ⟨_, 1, none⟩) hl6 _).far (p := ⟨_, 2, none⟩) hl6 _).more (by first | exact K5.size | exact (K5.alloc _).size)), K6.mark hg5 _ _ _⟩)
              | exact ⟨_, aD, cD, rfl, rfl, rfl, rfl, Lib.hid (Blk.new w6 _ _), Lib.hid ((oD.more K5.size).keep ((Keep.refl _ w6).alloc _)), K6.alloc _⟩
        case rest =>
        obtain ⟨g5, aD, cD, rfl, rfl, rfl, rfl, BM, OD, kc⟩ := hcut
        have kf := k11.comp kc
        clear OD BM HB11 b11 m11 kc k11 HRD
        go_wp2_with fail
        go_ret
        exact ⟨rfl, kf⟩
      by_cases h8 : mostJ (tnB kk) Wn j ≤ 8
      · have h8' : ¬ (8 : Int) < (mostJ (tnB kk) Wn j : Nat) := by omega
        have hkk' : ¬ (kk : Int) = 0 := by omega
        have HRD := HRD.out _ _ _ _ _ _ _ _ (HF1.out kk h8)
        generalize mostJ (tnB kk) Wn j = mj at *
        clear HF1 HF2 HF3
        go_upto_region 21 with (fail)
        go_cut [16, 17, 18, 19] (fun v5 v6 v7 v8 wc => ∃ (g5 : Nat) (aD : Option Addr) (cD : Nat), v5 = .pointer (some ⟨g5, 0, none⟩) ∧ v6 = .slice aD z cD ∧ v7 = .int .i64 mj ∧ v8 = .int .i64 0 ∧ Hid (Blk wc g5 25 #[.int .i64 2, .int .i64 n, .int .i64 kp]) ∧ Hid (OwnV wc 5 wr.heap.size aD z cD (fun j => .int .u8 (pd j : Nat))) ∧ Keep (fun _ => False) wr wc)
        case first =>
          have kd := (Keep.refl (fun _ => False) wr).drew
          have kz := kd.alloc (.cells #[.int .i64 0, .int .i64 0, .int .i64 0] 25)
          have bz : Blk (wr.drew.alloc (.cells #[.int .i64 0, .int .i64 0, .int .i64 0] 25)) wr.heap.size 25 #[.int .i64 0, .int .i64 0, .int .i64 0] := Blk.new wr.drew _ _
          obtain ⟨q0, q1, q2, q3⟩ := geo_cells (b11.keep kd (by simp))
          go_region_held3 (fun w' => w'.cell? ⟨w.heap.size, 0, none⟩ = some (.int .i64 B) ∧ w'.cell? ⟨w.heap.size, 1, none⟩ = some (.int .i64 P) ∧ w'.cell? ⟨w.heap.size, 2, none⟩ = some (.int .i64 Wn) ∧ w'.cell? ⟨w.heap.size, 3, none⟩ = some (.int .i64 Kn))
            (first | with_reducible exact ⟨q0, q1, q2, q3⟩ | with_reducible exact geo_cells (b11.keep K5 (by simp)) | with_reducible exact geo_cells (b11.keep K6 (by simp)) | exact geo_cells (b11.keep (K6.mark hg5 _ _ _) (by simp)) | exact geo_cells (b11.keep (K6.alloc _) (by simp)) | exact geo_cells (b11.keep (K5.alloc _) (by simp)) | exact geo_cells (b11.keep kz (by simp)))
            (first
              | (go_at_call 16
                 refine (make_any _).mono ?_
                 rintro e w5 ⟨g1, g2, rfl, T, _, _, k5⟩
                 unfold tabV
                 have K5 : Keep (fun _ => False) wr w5 := by first | exact kd.comp k5 | exact kz.comp k5
                 try (have b5 := bz.keep k5 (by simp); have hg5 := Nat.le_refl wr.heap.size))
              | (go_at_call 20
                 refine (HRD.out _ _ _ _ ?hT ?hA).mono ?_
                 case hT => first | exact T.has | exact (T.keep ((Keep.refl _ w5).alloc _)).has
                 case hA => first | exact HAP.out.keep K5 | exact HAP.out.keep (K5.alloc _)
                 rintro e w6 ⟨⟨aD, cD, rfl, oD⟩, k6⟩
                 have K6 : Keep (fun _ => False) wr w6 := by first | exact K5.comp k6 | exact (K5.alloc _).comp k6
                 try (have b6 := (Blk.new w5 25 #[.int .i64 0, .int .i64 0, .int .i64 0]).keep k6 (by simp); have hg5 := K5.size; have hl6 := (Blk.new w5 25 #[.int .i64 0, .int .i64 0, .int .i64 0]).lt)
                 try (have b6 := b5.keep k6 (by simp); have hl6 := b5.lt)
                 try (have bX := mark_put b6 (2) (n) (kp); obtain ⟨⟨⟨p0, f0⟩, ⟨p1, f1⟩, p2, f2⟩, bF⟩ := bX)))
          all_goals
            go_wp2_with fail
            go_meet
            first
              | (have bG5 := bF; clear bz; exact ⟨_, aD, cD, rfl, rfl, rfl, rfl, Lib.hid bG5, Lib.hid ((((oD.far (p := ⟨_, 0, none⟩) hl6 _).far (p := ⟨_, 1, none⟩) hl6 _).far (p := ⟨_, 2, none⟩) hl6 _).more (by first | exact K5.size | exact (K5.alloc _).size)), K6.mark hg5 _ _ _⟩)
              | exact ⟨_, aD, cD, rfl, rfl, rfl, rfl, Lib.hid (Blk.new w6 _ _), Lib.hid ((oD.more K5.size).keep ((Keep.refl _ w6).alloc _)), K6.alloc _⟩
        case rest =>
        obtain ⟨g5, aD, cD, rfl, rfl, rfl, rfl, BM, OD, kc⟩ := hcut
        have m12 := m11.keep kc (by simp)
        obtain ⟨p0, p1, p2⟩ := mark_cells m12
        obtain ⟨r0, r1, r2⟩ := mark_cells BM.out
        have hstr := str_any aD z cD pd _ (OD.out.arg (by omega)) (by omega) (fun i _ => HDD.out i)
        have hstr2 := str_any (some ⟨gB, 0, none⟩) z z pd _ (HB11.out.keep kc) (by omega) (fun i _ => HDD.out i)
        have kf := k11.comp kc
        clear OD BM HB11 b11 m11 kc k11 HRD m12
        generalize strS pd z = str at *
        go_wp2_with fail
        go_ret
        exact ⟨rfl, kf⟩
      · have h8' : (8 : Int) < (mostJ (tnB kk) Wn j : Nat) := by omega
        have hkk' : ¬ (kk : Int) = 0 := by omega
        have HRD := HRD.out _ _ _ _ _ _ _ _ (HF2.out kk (by omega) (by omega))
        generalize mostJ (tnB kk) Wn j = mj at *
        clear HF1 HF2 HF3
        go_upto_region 21 with (fail)
        go_cut [16, 17, 18, 19] (fun v5 v6 v7 v8 wc => ∃ (g5 : Nat) (aD : Option Addr) (cD : Nat), v5 = .pointer (some ⟨g5, 0, none⟩) ∧ v6 = .slice aD 0 cD ∧ v7 = .int .i64 0 ∧ v8 = .int .i64 4 ∧ Hid (Blk wc g5 25 #[.int .i64 0, .int .i64 0, .int .i64 0]) ∧ Hid (OwnV wc 5 wr.heap.size aD 0 cD (fun j => .int .u8 ((fun _ => 0 : Nat → Nat) j : Nat))) ∧ Keep (fun _ => False) wr wc)
        case first =>
          have kd := (Keep.refl (fun _ => False) wr).drew
          have kz := kd.alloc (.cells #[.int .i64 0, .int .i64 0, .int .i64 0] 25)
          have bz : Blk (wr.drew.alloc (.cells #[.int .i64 0, .int .i64 0, .int .i64 0] 25)) wr.heap.size 25 #[.int .i64 0, .int .i64 0, .int .i64 0] := Blk.new wr.drew _ _
          obtain ⟨q0, q1, q2, q3⟩ := geo_cells (b11.keep kd (by simp))
          go_region_held3 (fun w' => w'.cell? ⟨w.heap.size, 0, none⟩ = some (.int .i64 B) ∧ w'.cell? ⟨w.heap.size, 1, none⟩ = some (.int .i64 P) ∧ w'.cell? ⟨w.heap.size, 2, none⟩ = some (.int .i64 Wn) ∧ w'.cell? ⟨w.heap.size, 3, none⟩ = some (.int .i64 Kn))
            (first | with_reducible exact ⟨q0, q1, q2, q3⟩ | with_reducible exact geo_cells (b11.keep K5 (by simp)) | with_reducible exact geo_cells (b11.keep K6 (by simp)) | exact geo_cells (b11.keep (K6.mark hg5 _ _ _) (by simp)) | exact geo_cells (b11.keep (K6.alloc _) (by simp)) | exact geo_cells (b11.keep (K5.alloc _) (by simp)) | exact geo_cells (b11.keep kz (by simp)))
            (first
              | (go_at_call 16
                 refine (make_any _).mono ?_
                 rintro e w5 ⟨g1, g2, rfl, T, _, _, k5⟩
                 unfold tabV
                 have K5 : Keep (fun _ => False) wr w5 := by first | exact kd.comp k5 | exact kz.comp k5
                 try (have b5 := bz.keep k5 (by simp); have hg5 := Nat.le_refl wr.heap.size))
              | (go_at_call 20
                 refine (HRD.out _ _ _ _ ?hT ?hA).mono ?_
                 case hT => first | exact T.has | exact (T.keep ((Keep.refl _ w5).alloc _)).has
                 case hA => first | exact HAP.out.keep K5 | exact HAP.out.keep (K5.alloc _)
                 rintro e w6 ⟨⟨aD, cD, rfl, oD⟩, k6⟩
                 have K6 : Keep (fun _ => False) wr w6 := by first | exact K5.comp k6 | exact (K5.alloc _).comp k6
                 try (have b6 := (Blk.new w5 25 #[.int .i64 0, .int .i64 0, .int .i64 0]).keep k6 (by simp); have hg5 := K5.size; have hl6 := (Blk.new w5 25 #[.int .i64 0, .int .i64 0, .int .i64 0]).lt)
                 try (have b6 := b5.keep k6 (by simp); have hl6 := b5.lt)
                 try (have bX := mark_put b6 (0) (0) (0); obtain ⟨⟨⟨p0, f0⟩, ⟨p1, f1⟩, p2, f2⟩, bF⟩ := bX)))
          all_goals
            go_wp2_with fail
            go_meet
            first
              | (have bG5 := bF; clear bz; exact ⟨_, aD, cD, rfl, rfl, rfl, rfl, Lib.hid bG5, Lib.hid ((((oD.far (p := ⟨_, 0, none⟩) hl6 _).far (p := ⟨_, 1, none⟩) hl6 _).far (p := ⟨_, 2, none⟩) hl6 _).more (by first | exact K5.size | exact (K5.alloc _).size)), K6.mark hg5 _ _ _⟩)
              | exact ⟨_, aD, cD, rfl, rfl, rfl, rfl, Lib.hid (Blk.new w6 _ _), Lib.hid ((oD.more K5.size).keep ((Keep.refl _ w6).alloc _)), K6.alloc _⟩
        case rest =>
        obtain ⟨g5, aD, cD, rfl, rfl, rfl, rfl, BM, OD, kc⟩ := hcut
        have kf := k11.comp kc
        clear OD BM HB11 b11 m11 kc k11 HRD
        go_wp2_with fail
        go_ret
        exact ⟨rfl, kf⟩
set_option maxRecDepth 100000 in
theorem torn_of {H : Type} {enc : TypeId × Value → H} {base b0 : Nat} {d0 d1 : DataW H} {ps0 ps1 : List MemPlace} {sp0 sp1 : Nat → Bool} (w : World) {v : Value} {a : Option Addr} {n c : Nat} {x : Int} (hx : (Lit.int .u16 x).wf = true)
    (hv : Value.okWide Try.prog w .any b0 23 v) (hg : DataW.Trod enc Try.prog w base sp0 true 23 v d0 ps0)
    (h : DataW.Trod enc Try.prog w base sp1 true 26 (.slice a n c) d1 ps1) :
    Calls Try.prog 4 #[v, .slice a n c, .int .u16 x] w fun e w' => e = .returned (.bool true) ∧ Keep (fun _ => False) w w' := by
  obtain ⟨B, P, W, K, rfl⟩ := geo4_of hv hg
  obtain ⟨d, _, hA, hd⟩ := argB_of h
  have hb := Go.bounds_u16 hx
  obtain ⟨kp, rfl⟩ : ∃ k : Nat, x = k := ⟨x.toNat, by omega⟩
  exact torn_true w B P W K a n c d kp (by omega) hA hd
end Go.Proofs.Ytdlmjjlejkkniaa
