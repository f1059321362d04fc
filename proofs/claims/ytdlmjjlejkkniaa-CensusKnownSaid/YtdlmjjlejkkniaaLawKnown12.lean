/- blackboardlaw12.CensusKnown: pages by hand. -/
import Derived.Test.YtdlmjjlejkkniaaLawHead
namespace Go.Proofs.Ytdlmjjlejkkniaa
open Go.RowKit
attribute [local go_sem] run_store_cx

set_option maxRecDepth 100000 in
set_option maxHeartbeats 1000000 in
theorem fits_arg (B P W K : Int) (v : Value) (w : World) (h : ¬ GeoOk B P W K) :
    Calls Try.prog 58 #[geoV B P W K, v] w fun e w' => e = .returned (.int .i64 1) ∧ Keep (fun _ => False) w w' := by
  have HN := Lib.hid (fun w => may_no B P W K w h)
  have k0 := (Keep.refl (fun _ => False) w).alloc (.cells #[.int .i64 B, .int .i64 P, .int .i64 W, .int .i64 K] 23)
  have b0 := Blk.new w 23 #[.int .i64 B, .int .i64 P, .int .i64 W, .int .i64 K]
  obtain ⟨g0, g1, g2, g3⟩ := geo_cells' b0
  clear h
  go_enter Try.func58, Try.ntmps58
  go_wp2_with fail
  refine (HN.out _).mono ?_
  rintro e w1 ⟨rfl, k1⟩
  have HK := Lib.hid (k0.comp k1)
  clear g0 g1 g2 g3 b0 k0 k1
  go_wp2_with fail
  go_ret
  exact ⟨rfl, HK.out⟩
set_option maxRecDepth 100000 in
set_option maxHeartbeats 1000000 in
theorem fits_size (B P : Int) (W K n : Nat) (a : Option Addr) (c : Nat) (w : World) (h : GeoOk B P W K) (hn : n ≠ W * (K + 16)) :
    Calls Try.prog 58 #[geoV B P W K, .slice a n c] w fun e w' => e = .returned (.int .i64 3) ∧ Keep (fun _ => False) w w' := by
  have HY := Lib.hid (fun w => may_yes B P W K w h)
  have HC := Lib.hid (fun w => cells_any B P W K w h)
  have e1 : ((n : Int) != (W : Int) * ((K : Int) + 16)) = true := by
    rw [show (W : Int) * ((K : Int) + 16) = ((W * (K + 16) : Nat) : Int) by rw [Int.natCast_mul]; rfl]
    exact bne_iff_ne.2 fun h => hn (Int.ofNat.inj h)
  have e2 : ¬ (n : Int) = (W : Int) * ((K : Int) + 16) := by simpa using e1
  have k0 := (Keep.refl (fun _ => False) w).alloc (.cells #[.int .i64 B, .int .i64 P, .int .i64 W, .int .i64 K] 23)
  have b0 := Blk.new w 23 #[.int .i64 B, .int .i64 P, .int .i64 W, .int .i64 K]
  obtain ⟨g0, g1, g2, g3⟩ := geo_cells b0
  clear h hn
  go_enter Try.func58, Try.ntmps58
  go_wp2_with fail
  refine (HY.out _).mono ?_
  rintro e w1 ⟨rfl, k1⟩
  obtain ⟨h0, h1, h2, h3⟩ := geo_cells (b0.keep k1 (by simp))
  clear g0 g1 g2 g3 b0
  go_wp2_with fail
  refine (HC.out _).mono ?_
  rintro e w2 ⟨rfl, k2⟩
  have HK := Lib.hid (k0.comp (k1.comp k2))
  clear h0 h1 h2 h3 k0 k1 k2
  go_wp2_with fail
  go_ret
  exact ⟨rfl, HK.out⟩
/-- Where the points are none of a page Of hands on what fits says. -/
theorem cof_err (V : Value) (B P W K : Int) (a : Option Addr) (n c : Nat) (z : Int) (hz : z ≠ 0) (w : World) (hT : HasT w V)
    (hf : ∀ w, Calls Try.prog 58 #[geoV B P W K, .slice a n c] w fun e w' => e = .returned (.int .i64 z) ∧ Keep (fun _ => False) w w') :
    Calls Try.prog 30 #[V, geoV B P W K, .slice a n c] w fun e w' => e = .returned (.tuple #[.slice none 0 0, .int .i64 z]) ∧ Keep (fun _ => False) w w' := by
  obtain ⟨a1, n1, c1, a2, n2, c2, rfl⟩ := hT.form
  obtain ⟨M, hM⟩ : ∃ M, M = (w.alloc (.cells #[.slice a1 n1 c1, .slice a2 n2 c2] 32)).alloc (.cells #[.int .i64 B, .int .i64 P, .int .i64 W, .int .i64 K] 23) := ⟨_, rfl⟩
  have kw : Keep (fun _ => False) w M := by rw [hM]; exact ((Keep.refl _ w).alloc _).alloc _
  have bG : Blk M (w.heap.size + 1) 23 #[.int .i64 B, .int .i64 P, .int .i64 W, .int .i64 K] := by rw [hM]; exact Blk.here _ _ _ _ (by simp)
  obtain ⟨g0, g1, g2, g3⟩ := geo_cells' bG
  have e1 : (z != 0) = true := by simpa using hz
  have HF := Lib.hid hf
  clear hT hf
  go_enter Try.func30, Try.ntmps30
  go_wp2_with fail
  rw [← hM]
  clear hM
  go_wp2_with fail
  clear g0 g1 g2 g3
  refine (HF.out _).mono ?_
  rintro e w1 ⟨rfl, k1⟩
  go_wp2_with fail
  go_ret2
  exact ⟨rfl, kw.comp k1⟩
theorem Try.info_c : (Try.prog.info? 47).map (fun i => (i.zero, i.size, i.bytes)) = some (some (.complex .f64 0 0), 1, 16) := by kernel_rfl
theorem make_c (x : Int) (m : Nat) (hx : x = m) (hm : m ≤ 1000000) (w : World) :
    (Instr.makeSlice 42 (.int .i64 x) (.int .i64 x)).run Try.prog w = .ok (.slice (some ⟨w.heap.size, 0, none⟩) m m) (w.alloc (.cells (valsArr (fun _ => .complex .f64 0 0) m) 47)) :=
  make_vals (P := Try.prog) Try.underlying42 Try.info_c rfl x m hx (by omega) (by omega) w
/-- Cells put to nought: the even ones below a, the odd ones below b. -/
def knB (a b i : Nat) : Bool := (decide (i % 2 = 0) && decide (i < a)) || (decide (i % 2 = 1) && decide (i < b))
def knX (a b i : Nat) : Int := if knB a b i = true then 0 else reS (awS i)
def knY (a b i : Nat) : Int := if knB a b i = true then 0 else imS (awS i)
theorem kn_u (a b i : Nat) : Pu (knX a b i) ∧ Pu (knY a b i) := by
  have h1 := re_le (awS i)
  have h2 := im_le (awS i)
  unfold knX knY Pu
  constructor
  · split <;> omega
  · split <;> omega
theorem pt_0 : Value.complex .f64 0 0 = ptv 0 0 := by
  unfold ptv
  rw [show (2 * (0 : Int)) = 0 from rfl, fx_zero]
theorem kn_on (a b i : Nat) : onB (knX a b i) (knY a b i) = knB a b i := by
  unfold knX knY
  cases h : knB a b i with
  | true =>
    rw [if_pos rfl, if_pos rfl]
    rfl
  | false =>
    rw [if_neg (by simp), if_neg (by simp)]
    exact onB_sym _
theorem kn_sl {a b i : Nat} (hi : i < 56) (h : knB a b i = false) : slS (knX a b) (knY a b) i = awS i := by
  unfold slS knX knY
  rw [if_neg (by simp [h]), if_neg (by simp [h])]
  exact sl_sym (awS_lt hi)
theorem wrongN_first {z : Nat → Bool} {s q : Nat → Nat} {k : Nat} : ∀ {n}, (∀ i, i < n → z i = decide (i < k)) → (∀ i, i < n → ¬ i < k → q i = s i) → wrongN z s q n = min k n
  | 0, _, _ => by simp [wrongN]
  | n + 1, h1, h2 => by
    unfold wrongN
    rw [wrongN_first (fun i hi => h1 i (by omega)) (fun i hi => h2 i (by omega)), h1 n (by omega)]
    by_cases h : n < k
    · rw [if_pos (.inl (decide_eq_true h))]
      omega
    · rw [if_neg (by simp [h, h2 n (by omega) h])]
      omega
theorem zerosN_first {z : Nat → Bool} {k : Nat} : ∀ {n}, (∀ i, i < n → z i = decide (i < k)) → zerosN z n = min k n
  | 0, _ => by simp [zerosN]
  | n + 1, h1 => by
    unfold zerosN
    rw [zerosN_first (fun i hi => h1 i (by omega)), h1 n (by omega)]
    by_cases h : n < k
    · rw [if_pos (decide_eq_true h)]
      omega
    · rw [if_neg (by simp [h])]
      omega
theorem kn_row0 (b : Nat) : wrongN (fun i => onB (knX 16 b (0 + i * 2)) (knY 16 b (0 + i * 2))) (slS (fun i => knX 16 b (0 + i * 2)) (fun i => knY 16 b (0 + i * 2))) (wordS 2 12 awD 0) (12 + 16) = 8 := by
  have hk : ∀ i, knB 16 b (0 + i * 2) = decide (i < 8) := fun i => by
    unfold knB
    rw [decide_eq_true (show (0 + i * 2) % 2 = 0 by omega), decide_eq_false (show ¬ (0 + i * 2) % 2 = 1 by omega), Bool.false_and, Bool.or_false, Bool.true_and]
    exact decide_eq_decide.2 (by omega)
  rw [wrongN_first (k := 8) (fun i _ => by rw [kn_on, hk]) (fun i hi h => ?_)]
  · rfl
  · rw [← page_at (by omega : 0 < 2), show pageS 2 12 awD = awS from rfl]
    exact (kn_sl (by omega) (by rw [hk]; exact decide_eq_false h)).symm
theorem kn_good0 (b : Nat) : GoodRow (fun i => knX 16 b (0 + i * 2)) (fun i => knY 16 b (0 + i * 2)) (12 + 16) (wordS 2 12 awD 0) := good_of (word_is awD_lt 0) (by rw [kn_row0]; omega)
theorem kn_bad1 (a : Nat) (q : Nat → Nat) : ¬ GoodRow (fun i => knX a 19 (1 + i * 2)) (fun i => knY a 19 (1 + i * 2)) (12 + 16) q := by
  refine zeros_bad ?_ q
  rw [zerosN_first (k := 9) (fun i _ => by
    rw [kn_on]
    unfold knB
    rw [decide_eq_false (show ¬ (1 + i * 2) % 2 = 0 by omega), decide_eq_true (show (1 + i * 2) % 2 = 1 by omega), Bool.false_and, Bool.false_or, Bool.true_and]
    exact decide_eq_decide.2 (by omega))]
  decide
theorem zero_bad (r : Nat) (q : Nat → Nat) : ¬ GoodRow (fun i => (fun _ => (0 : Int)) (r + i * 2)) (fun i => (fun _ => (0 : Int)) (r + i * 2)) (12 + 16) q := by
  refine zeros_bad ?_ q
  rw [zerosN_first (k := 28) (fun i hi => by rw [decide_eq_true hi]; rfl)]
  decide
theorem kn_far1 : farE (fun _ => 272) (fun _ => 8) 1 = 24 := by decide
theorem kn_far2 : farE (fun _ => 0) (fun _ => 0) 1 = 8 := by decide
set_option maxHeartbeats 8000000 in
set_option maxRecDepth 100000 in
theorem known12_true (w : World) :
    Calls Try.prog 12 #[] w fun e w' => e = .returned (.bool true) ∧ Keep (fun _ => False) w w' := by
  go_enter Try.func12, Try.ntmps12
  go_wp2_with fail
  refine (awake12_true _).mono ?_
  rintro e w0 ⟨rfl, kA⟩
  have k0 := (Keep.refl (fun _ => False) w0).alloc (.cells #[.int .i64 4, .int .i64 2, .int .i64 2, .int .i64 12] 23)
  have bG0 := Blk.new w0 23 #[.int .i64 4, .int .i64 2, .int .i64 2, .int .i64 12]
  go_wp2_with fail
  refine (make_any _).mono ?_
  rintro e w1 ⟨g1, g2, rfl, T, _, _, k1⟩
  have bG1 := bG0.keep k1 (by simp)
  obtain ⟨TV, k2⟩ := TVar.new T
  have bG := bG1.keep k2 (by simp)
  have kk := kA.comp ((k0.comp k1).comp k2)
  unfold tabV
  clear T k1 k2 bG1 bG0 k0 kA
  go_upto_region 5 with (fail)
  generalize w1.alloc (.cells #[.slice (some ⟨g1, 0, none⟩) 1023 1023, .slice (some ⟨g2, 0, none⟩) 1024 1024] 32) = W at *
  generalize w1.heap.size = gt at *
  obtain ⟨d0, d1⟩ := tab_cells TV.b
  go_wp2_with fail
  clear d0 d1
  refine (cof_err _ 0 0 0 0 none 0 0 1 (by omega) _ TV.t.has (fun w => fits_arg 0 0 0 0 _ w (by decide))).mono ?_
  rintro e w2 ⟨rfl, q⟩
  have TV2 := TV.keep q
  have bG2 := bG.keep q (by simp)
  have kk2 := kk.comp q
  clear TV bG kk q
  obtain ⟨d0, d1⟩ := tab_cells TV2.b
  obtain ⟨q0, q1, q2, q3⟩ := geo_cells' bG2
  go_wp2_with fail
  clear d0 d1 q0 q1 q2 q3
  refine (cof_err _ 4 2 2 12 none 0 0 3 (by omega) _ TV2.t.has (fun w => fits_size 4 2 2 12 0 none 0 w geo_22 (by decide))).mono ?_
  rintro e w3 ⟨rfl, q⟩
  have TV := TV2.keep q
  have bG := bG2.keep q (by simp)
  have kk := kk2.comp q
  clear TV2 bG2 kk2 q
  go_upto_region 7 with (fail)
  have hgW := bG.lt
  have bGd : Blk w3.drew w0.heap.size 23 #[.int .i64 4, .int .i64 2, .int .i64 2, .int .i64 12] := bG.drew
  obtain ⟨q0, q1, q2, q3⟩ := geo_cells' bGd
  have hmk := make_by ((szB 2 12 : Nat) : Int) 20 (by decide) (by omega)
  go_region_held3 (fun w' => w'.cell? ⟨w0.heap.size, 0, none⟩ = some (.int .i64 4) ∧ w'.cell? ⟨w0.heap.size, 1, none⟩ = some (.int .i64 2) ∧ w'.cell? ⟨w0.heap.size, 2, none⟩ = some (.int .i64 2) ∧ w'.cell? ⟨w0.heap.size, 3, none⟩ = some (.int .i64 12))
    (first | exact ⟨q0, q1, q2, q3⟩ | exact geo_cells' b5 | exact geo_cells' (b5.alloc _) | exact geo_cells' b6)
    (first
      | (go_at_call 23; refine (rsize_any 4 2 2 12 _ geo_22).mono ?_; rintro e w5 ⟨rfl, k5⟩; have b5 := bGd.keep k5 (by simp))
      | (go_at_call 18; refine (rmake_yes 4 2 2 12 1 0 0 _ 20 (fun _ => 0) _ geo_22 mark_1 (zeros_arg _ 20 (by omega)) (fun _ _ => by omega)).mono ?_; rintro e w6 ⟨aS, cS, rfl, oS, k6⟩; have b6 := (b5.alloc (.cells (valsArr (fun _ => .int .u8 0) 20) 5)).keep k6 (by simp)))
  have hsp : pgD 1 0 0 (fun _ => 0) (szB 2 12) = awD := rfl
  rw [hsp] at oS
  clear hsp
  have OS := Lib.hid (show OwnU w6 0 aS 56 cS awS from oS.more (by omega))
  have K6' : Keep (fun _ => False) w3 w6 := (show Keep (fun _ => False) w3 w3.drew from (Keep.refl _ w3).drew).comp (k5.comp (((Keep.refl _ w5).alloc _).comp k6))
  have K6 := kk.comp K6'
  have TV6 := TV.keep K6'
  clear oS k5 k6 q0 q1 q2 q3 hmk b5 bGd K6' bG TV kk hgW
  go_wp2_with fail
  refine (points_any _ 56 _ awS _ (OS.out.arg (by omega) (fun i hi => by have := awS_lt hi; omega)) (by omega)).mono ?_
  rintro e w7 ⟨aP, cP, rfl, oP, k7⟩
  obtain ⟨gP, rfl, hgP, _, rP⟩ := oP.row (by omega)
  have RP := Lib.hid rP
  clear OS oP rP
  go_wp2_with fail
  go_loopw [10] (fun v wr => ∃ j : Nat, j ≤ 8 ∧ v = .int .i64 (2 * j : Nat) ∧ Hid (RowV wr 47 gP cP 56 (ptsV (knX (2 * j) 0) (knY (2 * j) 0))) ∧ Keep (fun _ => False) w6 wr) (fun v _ => 16 - (intOf v).toNat)
  case atStart => exact ⟨0, by omega, rfl, Lib.hid (RP.out.congr (fun i _ => by
    have h : knB 0 0 i = false := by unfold knB; simp
    unfold ptsV symP knX knY
    rw [h, if_neg (by simp), if_neg (by simp)])), k7⟩
  case round =>
    obtain ⟨j, hj, rfl, HR, k8⟩ := hrel
    by_cases hj8 : j < 8
    · have hj8' : 2 * (j : Int) < 16 := by omega
      have c0 := HR.out.val (show 2 * j < 56 by omega)
      have fz := HR.out.frozen (2 * j)
      have kB := Lib.hid (k8.setCell (p := ⟨gP, 2 * j, none⟩) (.inr hgP) (.complex .f64 0 0))
      have RB := Lib.hid (HR.out.store (2 * j) (.complex .f64 0 0) (f' := ptsV (knX (2 * (j + 1)) 0) (knY (2 * (j + 1)) 0)) (fun k _ => by
        unfold ptsV knX knY
        have hb : knB (2 * (j + 1)) 0 k = if k = 2 * j then true else knB (2 * j) 0 k := by
          unfold knB
          by_cases h : k = 2 * j
          · rw [if_pos h, decide_eq_true (show k % 2 = 0 by omega), decide_eq_true (show k < 2 * (j + 1) by omega)]
            rfl
          · rw [if_neg h]
            congr 1
            by_cases h2 : k % 2 = 0
            · congr 1
              exact decide_eq_decide.2 (by omega)
            · rw [decide_eq_false h2, Bool.false_and, Bool.false_and]
        rw [hb]
        by_cases h : k = 2 * j
        · rw [if_pos h, if_pos h, if_pos rfl, if_pos rfl]
          exact pt_0.symm
        · rw [if_neg h, if_neg h]))
      clear HR k8
      generalize ptsV (knX (2 * j) 0) (knY (2 * j) 0) (2 * j) = V0 at *
      go_wp2_with fail
      exact ⟨⟨j + 1, by omega, by go_num, RB, kB.out⟩, by simp [intOf]; omega⟩
    · obtain rfl : j = 8 := by omega
      go_wp2_with fail
      go_loopw [11] (fun v wr => ∃ j : Nat, j ≤ 9 ∧ v = .int .i64 (2 * j + 1 : Nat) ∧ Hid (RowV wr 47 gP cP 56 (ptsV (knX 16 (2 * j + 1)) (knY 16 (2 * j + 1)))) ∧ Keep (fun _ => False) w6 wr) (fun v _ => 19 - (intOf v).toNat)
      case atStart => exact ⟨0, by omega, rfl, Lib.hid (HR.out.congr (fun i _ => by
        have h : knB 16 1 i = knB (2 * 8) 0 i := by
          unfold knB
          congr 1
          by_cases h2 : i % 2 = 1
          · congr 1
            exact decide_eq_decide.2 (by omega)
          · rw [decide_eq_false h2, Bool.false_and, Bool.false_and]
        unfold ptsV knX knY
        rw [h])), k8⟩
      case round =>
        clear HR k8
        obtain ⟨j, hj, rfl, HR, k8⟩ := hrel
        by_cases hj9 : j < 9
        · have hj9' : 2 * (j : Int) + 1 < 19 := by omega
          have c0 := HR.out.val (show 2 * j + 1 < 56 by omega)
          have fz := HR.out.frozen (2 * j + 1)
          have kB := Lib.hid (k8.setCell (p := ⟨gP, 2 * j + 1, none⟩) (.inr hgP) (.complex .f64 0 0))
          have RB := Lib.hid (HR.out.store (2 * j + 1) (.complex .f64 0 0) (f' := ptsV (knX 16 (2 * (j + 1) + 1)) (knY 16 (2 * (j + 1) + 1))) (fun k _ => by
            unfold ptsV knX knY
            have hb : knB 16 (2 * (j + 1) + 1) k = if k = 2 * j + 1 then true else knB 16 (2 * j + 1) k := by
              unfold knB
              by_cases h : k = 2 * j + 1
              · rw [if_pos h, decide_eq_true (show k % 2 = 1 by omega), decide_eq_true (show k < 2 * (j + 1) + 1 by omega), Bool.and_self, Bool.or_true]
              · rw [if_neg h]
                congr 1
                by_cases h2 : k % 2 = 1
                · congr 1
                  exact decide_eq_decide.2 (by omega)
                · rw [decide_eq_false h2, Bool.false_and, Bool.false_and]
            rw [hb]
            by_cases h : k = 2 * j + 1
            · rw [if_pos h, if_pos h, if_pos rfl, if_pos rfl]
              exact pt_0.symm
            · rw [if_neg h, if_neg h]))
          clear HR k8
          generalize ptsV (knX 16 (2 * j + 1)) (knY 16 (2 * j + 1)) (2 * j + 1) = V0 at *
          go_wp2_with fail
          exact ⟨⟨j + 1, by omega, by go_num, RB, kB.out⟩, by simp [intOf]; omega⟩
        · obtain rfl : j = 9 := by omega
          have HP := Lib.hid (HR.out.arg (by omega))
          have TVr := TV6.keep k8
          have bGr := b6.keep k8 (by simp)
          have Kr := K6.comp k8
          clear HR
          obtain ⟨d0, d1⟩ := tab_cells TVr.b
          obtain ⟨q0, q1, q2, q3⟩ := geo_cells' bGr
          go_wp2_with fail
          clear d0 d1 q0 q1 q2 q3
          refine (cof_any _ 4 2 2 12 56 _ _ (knX 16 19) (knY 16 19) _ geo_22 (by omega) TVr.t.has HP.out (fun i _ => ⟨(kn_u 16 19 i).1.pm, (kn_u 16 19 i).2.pm⟩)).mono ?_
          rintro e w9 ⟨⟨aL, cL, rfl, f, b, oL, hrow⟩, k9⟩
          have hr0 := (hrow 0 (by omega)).good (by omega) (kn_good0 19)
          have hr1 := (hrow 1 (by omega)).bad (kn_bad1 16)
          rw [kn_row0] at hr0
          have OL := Lib.hid oL
          have TV9 := TVr.keep k9
          have b9 := bGr.keep k9 (by simp)
          have K9 := Kr.comp k9
          have HP9 := Lib.hid (HP.out.keep k9)
          clear TVr bGr Kr HP k9 oL hrow
          obtain ⟨d0, d1⟩ := tab_cells TV9.b
          obtain ⟨q0, q1, q2, q3⟩ := geo_cells' b9
          go_wp2_with fail
          clear d0 d1 q0 q1 q2 q3
          refine (shift_any _ 4 2 2 12 56 _ _ (knX 16 19) (knY 16 19) _ geo_22 (by omega) TV9.t.has HP9.out (fun i _ => kn_u 16 19 i)).mono ?_
          rintro e w10 ⟨hS, k10⟩
          have hS := hS.no (r := 1) (by omega) (kn_bad1 16)
          subst hS
          have OL10 := Lib.hid (OL.out.keep k10)
          have TV10 := TV9.keep k10
          have b10 := b9.keep k10 (by simp)
          have K10 := K9.comp k10
          clear TV9 b9 K9 k10 OL HP9
          go_upto_region 21 with (fail)
          have TVd := TV10.keep (show Keep (fun _ => False) w10 w10.drew from (Keep.refl _ w10).drew)
          have bd : Blk w10.drew w0.heap.size 23 #[.int .i64 4, .int .i64 2, .int .i64 2, .int .i64 12] := b10.drew
          have TVa : TVar (w10.alloc (.cells (valsArr (fun _ => .complex .f64 0 0) 56) 47)).drew gt g1 g2 := TV10.keep ((Keep.refl (fun _ => False) w10).alloc _).drew
          have ba : Blk (w10.alloc (.cells (valsArr (fun _ => .complex .f64 0 0) 56) 47)).drew w0.heap.size 23 #[.int .i64 4, .int .i64 2, .int .i64 2, .int .i64 12] := (b10.alloc _).drew
          have HZ0 := Lib.hid (show ArgV (w10.alloc (.cells (valsArr (fun _ => .complex .f64 0 0) 56) 47)).drew (some ⟨w10.heap.size, 0, none⟩) 56 (ptsV (fun _ => 0) (fun _ => 0)) from
            ArgV.keep (w := w10.alloc (.cells (valsArr (fun _ => .complex .f64 0 0) 56) 47)) (((RowV.of_blk (n := 56) (Blk.new w10 47 _)).congr (f' := ptsV (fun _ => 0) (fun _ => 0)) (fun _ _ => pt_0)).arg (by omega)) (Keep.refl _ _).drew)
          have hmk := make_c 56 56 rfl (by omega)
          go_region_held3 (fun w' => (w'.cell? ⟨gt, 0, none⟩ = some (.slice (some ⟨g1, 0, none⟩) 1023 1023) ∧ w'.cell? ⟨gt, 1, none⟩ = some (.slice (some ⟨g2, 0, none⟩) 1024 1024)) ∧ w'.cell? ⟨w0.heap.size, 0, none⟩ = some (.int .i64 4) ∧ w'.cell? ⟨w0.heap.size, 1, none⟩ = some (.int .i64 2) ∧ w'.cell? ⟨w0.heap.size, 2, none⟩ = some (.int .i64 2) ∧ w'.cell? ⟨w0.heap.size, 3, none⟩ = some (.int .i64 12))
            (first | exact ⟨tab_cells TVd.b, geo_cells' bd⟩ | exact ⟨tab_cells TVa.b, geo_cells' ba⟩ | exact ⟨tab_cells TVe.b, geo_cells' be⟩)
            (first
              | (go_at_call 30; refine (cof_any _ 4 2 2 12 56 _ _ (fun _ => 0) (fun _ => 0) _ geo_22 (by omega) TVa.t.has HZ0.out (fun _ _ => ⟨by unfold Pm; decide, by unfold Pm; decide⟩)).mono ?_; rintro e w11 ⟨⟨aM, cM, rfl, f2, b2, oM, hrow2⟩, k11⟩; have TVe := TVa.keep k11; have be := ba.keep k11 (by simp)))
          have hz0 := ((hrow2 0 (by omega)).bad (zero_bad 0)).1
          have K11 : Keep (fun _ => False) w w11 := K10.comp ((show Keep (fun _ => False) w10 (w10.alloc (.cells (valsArr (fun _ => .complex .f64 0 0) 56) 47)).drew from ((Keep.refl _ w10).alloc _).drew).comp k11)
          have OL11 := OL10.out.keep ((show Keep (fun _ => False) w10 (w10.alloc (.cells (valsArr (fun _ => .complex .f64 0 0) 56) 47)).drew from ((Keep.refl _ w10).alloc _).drew).comp k11)
          obtain ⟨gL, rfl, _, _, hcl⟩ := OL11.cells (by omega)
          have l0 := (hcl 0 (by omega)).1
          have l1 := (hcl 0 (by omega)).2
          have l2 := (hcl 1 (by omega)).1
          have l3 := (hcl 1 (by omega)).2
          rw [hr0.2] at l0
          rw [hr0.1] at l1
          rw [hr1.2] at l2
          rw [hr1.1] at l3
          obtain ⟨gM, rfl, _, _, hcm⟩ := oM.cells (by omega)
          have m1 := (hcm 0 (by omega)).2
          rw [hz0] at m1
          clear OL10 TV10 b10 TVd bd TVa ba HZ0 hmk k11 hrow2 K10 hz0 OL11 hcl hr0 hr1 oM hcm hS TVe be
          have HE := Lib.hid (margin_any none 0 0 (fun _ => 0) (fun _ => 0) w11 (ArgV.nil _ _) (fun i hi => by omega))
          have e0 : farE (fun _ => 0) (fun _ => 0) 0 = 0 := rfl
          rw [e0, show fx (16 - 2 * ((0 : Nat) : Int)) = 4607182418800017408 from fx_lit1] at HE
          have ho0 : FloatKind.f64.format.order 0 0 = some .eq := by
            have := ord_self (n := 0) (by unfold Sm; decide)
            rwa [fx_zero] at this
          have ho1 : FloatKind.f64.format.order 4607182418800017408 4607182418800017408 = some .eq := by
            have := ord_self (n := 16) (by unfold Sm; decide)
            rwa [fx_lit1] at this
          have ho2 : FloatKind.f64.format.order 13835058055282163712 13835058055282163712 = some .eq := by
            have := ord_self (n := -32) (by unfold Sm; decide)
            rwa [show fx (-32) = 13835058055282163712 by decide] at this
          have n1 := (Keep.refl (fun _ => False) w11).alloc (.cells #[.complex .f64 4629981891913580544 4607182418800017408] 47)
          have HE2 := Lib.hid (margin_any (some ⟨w11.heap.size, 0, none⟩) 1 1 (fun _ => 272) (fun _ => 8) (w11.alloc (.cells #[.complex .f64 4629981891913580544 4607182418800017408] 47)) (by
            have e : (.complex .f64 4629981891913580544 4607182418800017408 : Value) = ptv 272 8 := by
              unfold ptv
              rw [show fx (2 * 272) = 4629981891913580544 by decide, show fx (2 * 8) = 4607182418800017408 by decide]
            rw [e]
            exact RowV.arg (T := 47) (c := 1) ⟨_, Blk.new w11 47 _, rfl, by omega, fun i hi => by
              obtain rfl : i = 0 := by omega
              rfl⟩ (by omega)) (fun i _ => ⟨by unfold Pm; decide, by unfold Pm; decide⟩))
          rw [kn_far1, show fx (16 - 2 * ((24 : Nat) : Int)) = 13835058055282163712 by decide] at HE2
          clear e0
          go_wp2_with fail
          clear l0 l1 l2 l3 m1
          refine HE.out.mono ?_
          rintro e w12 ⟨rfl, rfl⟩
          go_wp2_with fail
          refine HE2.out.mono ?_
          rintro e w12 ⟨rfl, rfl⟩
          have HE3 := Lib.hid (margin_any (some ⟨w11.heap.size + 1, 0, none⟩) 1 1 (fun _ => 0) (fun _ => 0) ((w11.alloc (.cells #[.complex .f64 4629981891913580544 4607182418800017408] 47)).alloc (.cells #[.complex .f64 0 0] 47)) (by
            rw [pt_0]
            exact RowV.arg (T := 47) (c := 1) ⟨_, Blk.here _ 47 _ (w11.heap.size + 1) (by simp), rfl, by omega, fun i hi => by
              obtain rfl : i = 0 := by omega
              rfl⟩ (by omega)) (fun i _ => ⟨by unfold Pm; decide, by unfold Pm; decide⟩))
          rw [kn_far2, show fx (16 - 2 * ((8 : Nat) : Int)) = 0 by decide] at HE3
          go_wp2_with fail
          refine HE3.out.mono ?_
          rintro e w12 ⟨rfl, rfl⟩
          go_wp2_with fail
          go_ret
          exact ⟨rfl, K11.comp (n1.alloc _)⟩
end Go.Proofs.Ytdlmjjlejkkniaa
