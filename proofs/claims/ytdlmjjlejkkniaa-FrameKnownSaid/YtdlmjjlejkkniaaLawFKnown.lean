/- blackboardlaw11.FrameKnown: pages by hand. -/
import Derived.Test.YtdlmjjlejkkniaaTornP
namespace Go.Proofs.Ytdlmjjlejkkniaa
open Go.ChangeShapes Go.WideShapes Go.ChangeAt Go.RowKit
attribute [local go_sem] run_store_cx

theorem mark_top : MarkOk 1023 1048575 1099511627775 := ⟨by omega, by omega, by omega, by omega⟩
theorem geo_none : ¬ GeoOk 0 0 0 0 := fun h => by have := h.w0; omega
theorem synW_zero : ∀ j, j < 16 → synW (fun _ => 0) 28 j = 0 := fun j hj => by
  have h : ((List.range 16).all fun j => synW (fun _ => 0) 28 j == 0) = true := by decide +kernel
  have h2 := List.all_eq_true.1 h j (List.mem_range.2 hj)
  simpa using h2
theorem zero_is : IsEnc (fun _ => 0) 12 (fun _ => 0) := ⟨fun _ _ => by omega, synW_zero, fun _ _ => rfl⟩
/-- Noughts are a codeword, and no page's symbols. -/
theorem zeros_says (w' : World) (N : Nat) (e : Ending) (h : ReadR w' N (fun _ => reS 0) (fun _ => imS 0) 2 12 e) : SaysR w' N e 0 0 0 0 (fun _ => 0) 0 12 := by
  refine SaysR.nothing _ (h.form (q := fun _ _ => 0) (by omega) ?_ (fun r hr => ?_) (fun S hS hF => ?_) (by omega))
  · exact anyB_true (j := 0) (show offB (reS 0) (imS 0) = true from rfl) (by omega)
  · refine good_of zero_is ?_
    have h := wrongN_zero (z := fun _ => onB (reS 0) (imS 0)) (s := slS (fun _ => reS 0) (fun _ => imS 0)) (q := fun _ => 0) (n := 12 + 16) (fun i _ => ⟨rfl, rfl⟩)
    show wrongN (fun _ => onB (reS 0) (imS 0)) (slS (fun _ => reS 0) (fun _ => imS 0)) (fun _ => 0) (12 + 16) ≤ 8
    rw [h]
    omega
  · have h1 := hF.1.k1
    have h2 := hS 0 (by omega)
    have h3 : wovS 2 (fun _ _ => 0) 0 = 0 := rfl
    rw [h3] at h2
    omega
theorem zc_arg {w : World} {g : Nat} (h : Blk w g 47 (valsArr (fun _ => .complex .f64 0 0) 56)) : ArgV w (some ⟨g, 0, none⟩) 56 (ptsV (fun _ => 0) (fun _ => 0)) := by
  have := (RowV.of_blk h).arg (by omega)
  rw [pt_00] at this
  exact this
set_option maxRecDepth 100000 in
set_option maxHeartbeats 32000000 in
theorem fknown_true (w : World) :
    Calls Try.prog 5 #[] w fun e w' => e = .returned (.bool true) ∧ Keep (fun _ => False) w w' := by
  go_enter Try.func5, Try.ntmps5
  go_wp2_with fail
  refine (awake11_true _).mono ?_
  rintro e w1 ⟨rfl, k1⟩
  have q2 := (Keep.refl (fun _ => False) w1).alloc (.cells #[.int .i64 4, .int .i64 2, .int .i64 2, .int .i64 12] 23)
  have b2 := Blk.new w1 23 #[.int .i64 4, .int .i64 2, .int .i64 2, .int .i64 12]
  have k2 := k1.comp q2
  clear k1 q2
  go_upto_region 4 with (fail)
  generalize w1.alloc (.cells #[.int .i64 4, .int .i64 2, .int .i64 2, .int .i64 12] 23) = w2 at *
  generalize w1.heap.size = gG at *
  go_wp2_with fail
  refine (make_any _).mono ?_
  rintro e w3 ⟨t1, t2, rfl, T, _, _, q3⟩
  unfold tabV
  obtain ⟨TV, q4⟩ := TVar.new T
  have k4 := k2.comp (q3.comp q4)
  have b4 := b2.keep (q3.comp q4) (by simp)
  go_upto_region 5 with (fail)
  generalize w3.alloc (.cells #[.slice (some ⟨t1, 0, none⟩) 1023 1023, .slice (some ⟨t2, 0, none⟩) 1024 1024] 32) = w4 at *
  generalize w3.heap.size = gt at *
  clear k2 b2 q3 q4 T
  obtain ⟨g0, g1, g2, g3⟩ := geo_cells' b4
  go_wp2_with fail
  refine (rsize_any 4 2 2 12 _ geo_22).mono ?_
  rintro e w5 ⟨rfl, q5⟩
  have hmk := make_by ((szB 2 12 : Nat) : Int) 20 (by decide) (by omega) w5
  have q6 := (Keep.refl (fun _ => False) w5).alloc (.cells (valsArr (fun _ => .int .u8 0) 20) 5)
  have HB6 := Lib.hid (zeros_arg w5 20 (by omega))
  have b6 := b4.keep (q5.comp q6) (by simp)
  have k6 := k4.comp (q5.comp q6)
  have TV6 := TV.keep (q5.comp q6)
  clear g0 g1 g2 g3 b4 k4 TV q5 q6
  go_upto_region 7 with (fail)
  generalize w5.alloc (.cells (valsArr (fun _ => .int .u8 0) 20) 5) = w6 at *
  generalize w5.heap.size = gB at *
  clear hmk
  have q7 := (Keep.refl (fun _ => False) w6).alloc (.cells #[.int .i64 0, .int .i64 0, .int .i64 0, .int .i64 1024, .int .i64 0, .int .i64 0, .int .i64 1, .int .i64 (-1), .int .i64 0, .int .i64 1, .int .i64 1048576, .int .i64 0, .int .i64 1, .int .i64 0, .int .i64 (-1), .int .i64 1, .int .i64 0, .int .i64 1099511627776] 25)
  have l7 := Blk.new w6 25 #[.int .i64 0, .int .i64 0, .int .i64 0, .int .i64 1024, .int .i64 0, .int .i64 0, .int .i64 1, .int .i64 (-1), .int .i64 0, .int .i64 1, .int .i64 1048576, .int .i64 0, .int .i64 1, .int .i64 0, .int .i64 (-1), .int .i64 1, .int .i64 0, .int .i64 1099511627776]
  have HB7 := Lib.hid (HB6.out.keep q7)
  have b7 := b6.keep q7 (by simp)
  have k7 := k6.comp q7
  have TV7 := TV6.keep q7
  clear HB6 b6 k6 TV6 q7
  go_upto_region 8 with (fail)
  generalize w6.alloc (.cells #[.int .i64 0, .int .i64 0, .int .i64 0, .int .i64 1024, .int .i64 0, .int .i64 0, .int .i64 1, .int .i64 (-1), .int .i64 0, .int .i64 1, .int .i64 1048576, .int .i64 0, .int .i64 1, .int .i64 0, .int .i64 (-1), .int .i64 1, .int .i64 0, .int .i64 1099511627776] 25) = w7 at *
  generalize w6.heap.size = gL at *
  go_wp2_with fail
  go_loopw [6] (fun v wr => ∃ j : Nat, j ≤ 6 ∧ v = .int .i64 j ∧ Keep (fun _ => False) w7 wr) (fun v _ => 6 - (intOf v).toNat)
  case atStart => exact ⟨0, by omega, rfl, Keep.refl _ _⟩
  case round =>
    obtain ⟨j, hj, rfl, kk⟩ := hrel
    have kd := kk.drew
    have l8 := l7.keep kd (by simp)
    have b8 := b7.keep kd (by simp)
    have TV8 := TV7.keep kd
    obtain ⟨q0, q1, q2, q3⟩ := geo_cells' b8
    obtain ⟨d0, d1⟩ := tab_cells TV8.b
    obtain rfl | rfl | rfl | rfl | rfl | rfl | rfl : j = 0 ∨ j = 1 ∨ j = 2 ∨ j = 3 ∨ j = 4 ∨ j = 5 ∨ j = 6 := by omega
    · have c0 : wr.drew.cell? ⟨gL, 0, none⟩ = some (.int .i64 0) := by rw [l8.cell]; rfl
      have c1 : wr.drew.cell? ⟨gL, 1, none⟩ = some (.int .i64 0) := by rw [l8.cell]; rfl
      have c2 : wr.drew.cell? ⟨gL, 2, none⟩ = some (.int .i64 0) := by rw [l8.cell]; rfl
      go_wp2_with fail
      go_region_held3 (fun w' => ((w'.cell? ⟨gt, 0, none⟩ = some (.slice (some ⟨t1, 0, none⟩) 1023 1023) ∧ w'.cell? ⟨gt, 1, none⟩ = some (.slice (some ⟨t2, 0, none⟩) 1024 1024)) ∧ w'.cell? ⟨gG, 0, none⟩ = some (.int .i64 4) ∧ w'.cell? ⟨gG, 1, none⟩ = some (.int .i64 2) ∧ w'.cell? ⟨gG, 2, none⟩ = some (.int .i64 2) ∧ w'.cell? ⟨gG, 3, none⟩ = some (.int .i64 12)) ∧ w'.cell? ⟨gL, 0, none⟩ = some (.int .i64 0) ∧ w'.cell? ⟨gL, 1, none⟩ = some (.int .i64 0) ∧ w'.cell? ⟨gL, 2, none⟩ = some (.int .i64 0))
        (first | with_reducible exact ⟨⟨⟨d0, d1⟩, q0, q1, q2, q3⟩, c0, c1, c2⟩ | with_reducible exact ⟨⟨tab_cells TV9.b, geo_cells' b9⟩, e0, e1, e2⟩)
        (first
          | (go_at_call 17
             refine (fmake_arg _ 4 2 2 12 0 0 0 _ _ TV8.t.has (.inr (by unfold MarkBad; omega))).mono ?_
             rintro e w9 ⟨rfl, q9⟩
             have TV9 := TV8.keep q9
             have b9 := b8.keep q9 (by simp)
             have l9 := l8.keep q9 (by simp)
             have e0 : w9.cell? ⟨gL, 0, none⟩ = some (.int .i64 0) := by rw [l9.cell]; rfl
             have e1 : w9.cell? ⟨gL, 1, none⟩ = some (.int .i64 0) := by rw [l9.cell]; rfl
             have e2 : w9.cell? ⟨gL, 2, none⟩ = some (.int .i64 0) := by rw [l9.cell]; rfl))
      have k9 := kd.comp q9
      clear c0 c1 c2 e0 e1 e2 l9 b9 TV9 q9 d0 d1 q0 q1 q2 q3 l8 b8 TV8 kd
      go_wp2_with fail
      exact ⟨⟨1, by omega, by go_num, k9⟩, by simp [intOf]⟩
    · have c0 : wr.drew.cell? ⟨gL, 3, none⟩ = some (.int .i64 1024) := by rw [l8.cell]; rfl
      have c1 : wr.drew.cell? ⟨gL, 4, none⟩ = some (.int .i64 0) := by rw [l8.cell]; rfl
      have c2 : wr.drew.cell? ⟨gL, 5, none⟩ = some (.int .i64 0) := by rw [l8.cell]; rfl
      go_wp2_with fail
      go_region_held3 (fun w' => ((w'.cell? ⟨gt, 0, none⟩ = some (.slice (some ⟨t1, 0, none⟩) 1023 1023) ∧ w'.cell? ⟨gt, 1, none⟩ = some (.slice (some ⟨t2, 0, none⟩) 1024 1024)) ∧ w'.cell? ⟨gG, 0, none⟩ = some (.int .i64 4) ∧ w'.cell? ⟨gG, 1, none⟩ = some (.int .i64 2) ∧ w'.cell? ⟨gG, 2, none⟩ = some (.int .i64 2) ∧ w'.cell? ⟨gG, 3, none⟩ = some (.int .i64 12)) ∧ w'.cell? ⟨gL, 3, none⟩ = some (.int .i64 1024) ∧ w'.cell? ⟨gL, 4, none⟩ = some (.int .i64 0) ∧ w'.cell? ⟨gL, 5, none⟩ = some (.int .i64 0))
        (first | with_reducible exact ⟨⟨⟨d0, d1⟩, q0, q1, q2, q3⟩, c0, c1, c2⟩ | with_reducible exact ⟨⟨tab_cells TV9.b, geo_cells' b9⟩, e0, e1, e2⟩)
        (first
          | (go_at_call 17
             refine (fmake_arg _ 4 2 2 12 1024 0 0 _ _ TV8.t.has (.inr (by unfold MarkBad; omega))).mono ?_
             rintro e w9 ⟨rfl, q9⟩
             have TV9 := TV8.keep q9
             have b9 := b8.keep q9 (by simp)
             have l9 := l8.keep q9 (by simp)
             have e0 : w9.cell? ⟨gL, 3, none⟩ = some (.int .i64 1024) := by rw [l9.cell]; rfl
             have e1 : w9.cell? ⟨gL, 4, none⟩ = some (.int .i64 0) := by rw [l9.cell]; rfl
             have e2 : w9.cell? ⟨gL, 5, none⟩ = some (.int .i64 0) := by rw [l9.cell]; rfl))
      have k9 := kd.comp q9
      clear c0 c1 c2 e0 e1 e2 l9 b9 TV9 q9 d0 d1 q0 q1 q2 q3 l8 b8 TV8 kd
      go_wp2_with fail
      exact ⟨⟨2, by omega, by go_num, k9⟩, by simp [intOf]⟩
    · have c0 : wr.drew.cell? ⟨gL, 6, none⟩ = some (.int .i64 1) := by rw [l8.cell]; rfl
      have c1 : wr.drew.cell? ⟨gL, 7, none⟩ = some (.int .i64 (-1)) := by rw [l8.cell]; rfl
      have c2 : wr.drew.cell? ⟨gL, 8, none⟩ = some (.int .i64 0) := by rw [l8.cell]; rfl
      go_wp2_with fail
      go_region_held3 (fun w' => ((w'.cell? ⟨gt, 0, none⟩ = some (.slice (some ⟨t1, 0, none⟩) 1023 1023) ∧ w'.cell? ⟨gt, 1, none⟩ = some (.slice (some ⟨t2, 0, none⟩) 1024 1024)) ∧ w'.cell? ⟨gG, 0, none⟩ = some (.int .i64 4) ∧ w'.cell? ⟨gG, 1, none⟩ = some (.int .i64 2) ∧ w'.cell? ⟨gG, 2, none⟩ = some (.int .i64 2) ∧ w'.cell? ⟨gG, 3, none⟩ = some (.int .i64 12)) ∧ w'.cell? ⟨gL, 6, none⟩ = some (.int .i64 1) ∧ w'.cell? ⟨gL, 7, none⟩ = some (.int .i64 (-1)) ∧ w'.cell? ⟨gL, 8, none⟩ = some (.int .i64 0))
        (first | with_reducible exact ⟨⟨⟨d0, d1⟩, q0, q1, q2, q3⟩, c0, c1, c2⟩ | with_reducible exact ⟨⟨tab_cells TV9.b, geo_cells' b9⟩, e0, e1, e2⟩)
        (first
          | (go_at_call 17
             refine (fmake_arg _ 4 2 2 12 1 (-1) 0 _ _ TV8.t.has (.inr (by unfold MarkBad; omega))).mono ?_
             rintro e w9 ⟨rfl, q9⟩
             have TV9 := TV8.keep q9
             have b9 := b8.keep q9 (by simp)
             have l9 := l8.keep q9 (by simp)
             have e0 : w9.cell? ⟨gL, 6, none⟩ = some (.int .i64 1) := by rw [l9.cell]; rfl
             have e1 : w9.cell? ⟨gL, 7, none⟩ = some (.int .i64 (-1)) := by rw [l9.cell]; rfl
             have e2 : w9.cell? ⟨gL, 8, none⟩ = some (.int .i64 0) := by rw [l9.cell]; rfl))
      have k9 := kd.comp q9
      clear c0 c1 c2 e0 e1 e2 l9 b9 TV9 q9 d0 d1 q0 q1 q2 q3 l8 b8 TV8 kd
      go_wp2_with fail
      exact ⟨⟨3, by omega, by go_num, k9⟩, by simp [intOf]⟩
    · have c0 : wr.drew.cell? ⟨gL, 9, none⟩ = some (.int .i64 1) := by rw [l8.cell]; rfl
      have c1 : wr.drew.cell? ⟨gL, 10, none⟩ = some (.int .i64 1048576) := by rw [l8.cell]; rfl
      have c2 : wr.drew.cell? ⟨gL, 11, none⟩ = some (.int .i64 0) := by rw [l8.cell]; rfl
      go_wp2_with fail
      go_region_held3 (fun w' => ((w'.cell? ⟨gt, 0, none⟩ = some (.slice (some ⟨t1, 0, none⟩) 1023 1023) ∧ w'.cell? ⟨gt, 1, none⟩ = some (.slice (some ⟨t2, 0, none⟩) 1024 1024)) ∧ w'.cell? ⟨gG, 0, none⟩ = some (.int .i64 4) ∧ w'.cell? ⟨gG, 1, none⟩ = some (.int .i64 2) ∧ w'.cell? ⟨gG, 2, none⟩ = some (.int .i64 2) ∧ w'.cell? ⟨gG, 3, none⟩ = some (.int .i64 12)) ∧ w'.cell? ⟨gL, 9, none⟩ = some (.int .i64 1) ∧ w'.cell? ⟨gL, 10, none⟩ = some (.int .i64 1048576) ∧ w'.cell? ⟨gL, 11, none⟩ = some (.int .i64 0))
        (first | with_reducible exact ⟨⟨⟨d0, d1⟩, q0, q1, q2, q3⟩, c0, c1, c2⟩ | with_reducible exact ⟨⟨tab_cells TV9.b, geo_cells' b9⟩, e0, e1, e2⟩)
        (first
          | (go_at_call 17
             refine (fmake_arg _ 4 2 2 12 1 1048576 0 _ _ TV8.t.has (.inr (by unfold MarkBad; omega))).mono ?_
             rintro e w9 ⟨rfl, q9⟩
             have TV9 := TV8.keep q9
             have b9 := b8.keep q9 (by simp)
             have l9 := l8.keep q9 (by simp)
             have e0 : w9.cell? ⟨gL, 9, none⟩ = some (.int .i64 1) := by rw [l9.cell]; rfl
             have e1 : w9.cell? ⟨gL, 10, none⟩ = some (.int .i64 1048576) := by rw [l9.cell]; rfl
             have e2 : w9.cell? ⟨gL, 11, none⟩ = some (.int .i64 0) := by rw [l9.cell]; rfl))
      have k9 := kd.comp q9
      clear c0 c1 c2 e0 e1 e2 l9 b9 TV9 q9 d0 d1 q0 q1 q2 q3 l8 b8 TV8 kd
      go_wp2_with fail
      exact ⟨⟨4, by omega, by go_num, k9⟩, by simp [intOf]⟩
    · have c0 : wr.drew.cell? ⟨gL, 12, none⟩ = some (.int .i64 1) := by rw [l8.cell]; rfl
      have c1 : wr.drew.cell? ⟨gL, 13, none⟩ = some (.int .i64 0) := by rw [l8.cell]; rfl
      have c2 : wr.drew.cell? ⟨gL, 14, none⟩ = some (.int .i64 (-1)) := by rw [l8.cell]; rfl
      go_wp2_with fail
      go_region_held3 (fun w' => ((w'.cell? ⟨gt, 0, none⟩ = some (.slice (some ⟨t1, 0, none⟩) 1023 1023) ∧ w'.cell? ⟨gt, 1, none⟩ = some (.slice (some ⟨t2, 0, none⟩) 1024 1024)) ∧ w'.cell? ⟨gG, 0, none⟩ = some (.int .i64 4) ∧ w'.cell? ⟨gG, 1, none⟩ = some (.int .i64 2) ∧ w'.cell? ⟨gG, 2, none⟩ = some (.int .i64 2) ∧ w'.cell? ⟨gG, 3, none⟩ = some (.int .i64 12)) ∧ w'.cell? ⟨gL, 12, none⟩ = some (.int .i64 1) ∧ w'.cell? ⟨gL, 13, none⟩ = some (.int .i64 0) ∧ w'.cell? ⟨gL, 14, none⟩ = some (.int .i64 (-1)))
        (first | with_reducible exact ⟨⟨⟨d0, d1⟩, q0, q1, q2, q3⟩, c0, c1, c2⟩ | with_reducible exact ⟨⟨tab_cells TV9.b, geo_cells' b9⟩, e0, e1, e2⟩)
        (first
          | (go_at_call 17
             refine (fmake_arg _ 4 2 2 12 1 0 (-1) _ _ TV8.t.has (.inr (by unfold MarkBad; omega))).mono ?_
             rintro e w9 ⟨rfl, q9⟩
             have TV9 := TV8.keep q9
             have b9 := b8.keep q9 (by simp)
             have l9 := l8.keep q9 (by simp)
             have e0 : w9.cell? ⟨gL, 12, none⟩ = some (.int .i64 1) := by rw [l9.cell]; rfl
             have e1 : w9.cell? ⟨gL, 13, none⟩ = some (.int .i64 0) := by rw [l9.cell]; rfl
             have e2 : w9.cell? ⟨gL, 14, none⟩ = some (.int .i64 (-1)) := by rw [l9.cell]; rfl))
      have k9 := kd.comp q9
      clear c0 c1 c2 e0 e1 e2 l9 b9 TV9 q9 d0 d1 q0 q1 q2 q3 l8 b8 TV8 kd
      go_wp2_with fail
      exact ⟨⟨5, by omega, by go_num, k9⟩, by simp [intOf]⟩
    · have c0 : wr.drew.cell? ⟨gL, 15, none⟩ = some (.int .i64 1) := by rw [l8.cell]; rfl
      have c1 : wr.drew.cell? ⟨gL, 16, none⟩ = some (.int .i64 0) := by rw [l8.cell]; rfl
      have c2 : wr.drew.cell? ⟨gL, 17, none⟩ = some (.int .i64 1099511627776) := by rw [l8.cell]; rfl
      go_wp2_with fail
      go_region_held3 (fun w' => ((w'.cell? ⟨gt, 0, none⟩ = some (.slice (some ⟨t1, 0, none⟩) 1023 1023) ∧ w'.cell? ⟨gt, 1, none⟩ = some (.slice (some ⟨t2, 0, none⟩) 1024 1024)) ∧ w'.cell? ⟨gG, 0, none⟩ = some (.int .i64 4) ∧ w'.cell? ⟨gG, 1, none⟩ = some (.int .i64 2) ∧ w'.cell? ⟨gG, 2, none⟩ = some (.int .i64 2) ∧ w'.cell? ⟨gG, 3, none⟩ = some (.int .i64 12)) ∧ w'.cell? ⟨gL, 15, none⟩ = some (.int .i64 1) ∧ w'.cell? ⟨gL, 16, none⟩ = some (.int .i64 0) ∧ w'.cell? ⟨gL, 17, none⟩ = some (.int .i64 1099511627776))
        (first | with_reducible exact ⟨⟨⟨d0, d1⟩, q0, q1, q2, q3⟩, c0, c1, c2⟩ | with_reducible exact ⟨⟨tab_cells TV9.b, geo_cells' b9⟩, e0, e1, e2⟩)
        (first
          | (go_at_call 17
             refine (fmake_arg _ 4 2 2 12 1 0 1099511627776 _ _ TV8.t.has (.inr (by unfold MarkBad; omega))).mono ?_
             rintro e w9 ⟨rfl, q9⟩
             have TV9 := TV8.keep q9
             have b9 := b8.keep q9 (by simp)
             have l9 := l8.keep q9 (by simp)
             have e0 : w9.cell? ⟨gL, 15, none⟩ = some (.int .i64 1) := by rw [l9.cell]; rfl
             have e1 : w9.cell? ⟨gL, 16, none⟩ = some (.int .i64 0) := by rw [l9.cell]; rfl
             have e2 : w9.cell? ⟨gL, 17, none⟩ = some (.int .i64 1099511627776) := by rw [l9.cell]; rfl))
      have k9 := kd.comp q9
      clear c0 c1 c2 e0 e1 e2 l9 b9 TV9 q9 d0 d1 q0 q1 q2 q3 l8 b8 TV8 kd
      go_wp2_with fail
      exact ⟨⟨6, by omega, by go_num, k9⟩, by simp [intOf]⟩
    · have TV9 := TV7.keep kk
      have b9 := b7.keep kk (by simp)
      have HB9 := Lib.hid (HB7.out.keep kk)
      have q10 := (Keep.refl (fun _ => False) wr).alloc (.cells #[.int .i64 1023, .int .i64 1048575, .int .i64 1099511627775] 25)
      have m10 := Blk.new wr 25 #[.int .i64 1023, .int .i64 1048575, .int .i64 1099511627775]
      have TV10 := TV9.keep q10
      have b10 := b9.keep q10 (by simp)
      have HB10 := Lib.hid (HB9.out.keep q10)
      have k10 := (k7.comp kk).comp q10
      clear kd l8 b8 TV8 q0 q1 q2 q3 d0 d1 TV9 b9 HB9 q10 kk l7 b7 TV7 HB7 k7
      go_upto_region 15 with (fail)
      generalize wr.alloc (.cells #[.int .i64 1023, .int .i64 1048575, .int .i64 1099511627775] 25) = w10 at *
      generalize wr.heap.size = gM at *
      obtain ⟨d0, d1⟩ := tab_cells TV10.b
      obtain ⟨g0, g1, g2, g3⟩ := geo_cells' b10
      obtain ⟨p0, p1, p2⟩ := mark_cells m10
      go_wp2_with fail
      refine (fmake_yes _ 4 2 2 12 1023 1048575 1099511627775 _ 20 (fun _ => 0) _ geo_22 mark_top TV10.t.has HB10.out (fun i _ => by omega)).mono ?_
      rintro e w11 ⟨aS, cS, rfl, oS, q11⟩
      have TV11 := TV10.keep q11
      have b11 := b10.keep q11 (by simp)
      have m11 := m10.keep q11 (by simp)
      have HB11 := Lib.hid (HB10.out.keep q11)
      have k11 := k10.comp q11
      have hD : ∀ i, pgD 1023 1048575 1099511627775 (fun _ => 0) 20 i < 1024 := pgD_lt mark_top _ _
      have HFS := Lib.hid (fresh_says (W := 2) (K := 12) (d := fun _ => 0) mark_top (fun i _ => by omega) (by omega) (by omega) (by omega))
      obtain ⟨S, hSe⟩ : ∃ S, S = pageS 2 12 (pgD 1023 1048575 1099511627775 (fun _ => 0) 20) := ⟨_, rfl⟩
      have HFSm : ∀ w' N e, ReadR w' N (fun i => reS (S i)) (fun i => imS (S i)) 2 12 e → SaysR w' N e 1023 1048575 1099511627775 20 (fun _ => 0) 0 0 := by rw [hSe]; exact HFS.out
      have HAS := Lib.hid (show ArgU w11 aS 56 S from by
        have h : OwnU w11 w10.heap.size aS 56 cS S := by rw [hSe]; exact oS
        refine h.arg (by omega) (fun i hi => ?_)
        have := pageS_lt (K := 12) hD (show 1 ≤ 2 by omega) (show i < 2 * (12 + 16) from hi)
        rw [← hSe] at this
        omega)
      have HRD := read_says (n := 56) geo_22 rfl (fun i _ => ⟨(Pu_re (S i)).pm, (Pu_im (S i)).pm⟩) HFSm
      have HPT := points_says aS 56 cS S (by omega)
      have TB := TV11.b
      have HTB := Lib.hid (fun w' (k : Keep (fun _ => False) w11 w') => (TV11.keep k).t.has)
      clear d0 d1 g0 g1 g2 g3 p0 p1 p2 TV10 b10 m10 HB10 k10 q11 oS hSe HFS HFSm hD
      go_upto_region 16 with (fail)
      go_cut [12, 13, 14, 15] (fun v5 v6 v7 v8 wc => ∃ (g5 : Nat) (aD : Option Addr) (cD : Nat), v5 = .pointer (some ⟨g5, 0, none⟩) ∧ v6 = .slice aD 20 cD ∧ v7 = .int .i64 0 ∧ v8 = .int .i64 0 ∧ Hid (Blk wc g5 25 #[.int .i64 1023, .int .i64 1048575, .int .i64 1099511627775]) ∧ Hid (OwnV wc 5 w11.heap.size aD 20 cD (fun j => .int .u8 ((fun _ => 0 : Nat → Nat) j : Nat))) ∧ Keep (fun _ => False) w11 wc)
      case first =>
        have kd := (Keep.refl (fun _ => False) w11).drew
        have kz := kd.alloc (.cells #[.int .i64 0, .int .i64 0, .int .i64 0] 25)
        have bz : Blk (w11.drew.alloc (.cells #[.int .i64 0, .int .i64 0, .int .i64 0] 25)) w11.heap.size 25 #[.int .i64 0, .int .i64 0, .int .i64 0] := Blk.new w11.drew _ _
        obtain ⟨q0, q1, q2, q3⟩ := geo_cells' (b11.keep kd (by simp))
        obtain ⟨d0, d1⟩ := tabs_cells (TB.keep kd (by simp))
        go_region_held3 (fun w' => (w'.cell? ⟨gt, 0, none⟩ = some (.slice (some ⟨t1, 0, none⟩) 1023 1023) ∧ w'.cell? ⟨gt, 1, none⟩ = some (.slice (some ⟨t2, 0, none⟩) 1024 1024)) ∧ w'.cell? ⟨gG, 0, none⟩ = some (.int .i64 4) ∧ w'.cell? ⟨gG, 1, none⟩ = some (.int .i64 2) ∧ w'.cell? ⟨gG, 2, none⟩ = some (.int .i64 2) ∧ w'.cell? ⟨gG, 3, none⟩ = some (.int .i64 12))
          (first | with_reducible exact ⟨⟨d0, d1⟩, q0, q1, q2, q3⟩ | with_reducible exact ⟨tabs_cells (TB.keep K5 (by simp)), geo_cells' (b11.keep K5 (by simp))⟩ | with_reducible exact ⟨tabs_cells (TB.keep K6 (by simp)), geo_cells' (b11.keep K6 (by simp))⟩ | exact ⟨tabs_cells (TB.keep (K6.mark hg5 _ _ _) (by simp)), geo_cells' (b11.keep (K6.mark hg5 _ _ _) (by simp))⟩ | exact ⟨tabs_cells (TB.keep (K6.alloc _) (by simp)), geo_cells' (b11.keep (K6.alloc _) (by simp))⟩ | exact ⟨tabs_cells (TB.keep (K5.alloc _) (by simp)), geo_cells' (b11.keep (K5.alloc _) (by simp))⟩ | exact ⟨tabs_cells (TB.keep kz (by simp)), geo_cells' (b11.keep kz (by simp))⟩)
          (first
            | (go_at_call 21
               refine (HPT.out _ ?hA).mono ?_
               case hA => first | exact HAS.out.keep kd | exact HAS.out.keep kz
               rintro e w5 ⟨aP, cP, rfl, oP, k5⟩
               have K5 : Keep (fun _ => False) w11 w5 := by first | exact kd.comp k5 | exact kz.comp k5
               try (have b5 := bz.keep k5 (by simp); have hg5 := Nat.le_refl w11.heap.size))
            | (go_at_call 20
               refine (HRD.out _ _ _ _ ?hT ?hA).mono ?_
               case hT => first | exact HTB.out _ K5 | exact HTB.out _ (K5.alloc _)
               case hA => first | exact oP.arg (by omega) | exact (oP.keep ((Keep.refl _ w5).alloc _)).arg (by omega)
               rintro e w6 ⟨⟨aD, cD, rfl, oD⟩, k6⟩
               have K6 : Keep (fun _ => False) w11 w6 := by first | exact K5.comp k6 | exact (K5.alloc _).comp k6
               try (have b6 := (Blk.new w5 25 #[.int .i64 0, .int .i64 0, .int .i64 0]).keep k6 (by simp); have hg5 := K5.size; have hl6 := (Blk.new w5 25 #[.int .i64 0, .int .i64 0, .int .i64 0]).lt)
               try (have b6 := b5.keep k6 (by simp); have hl6 := b5.lt)
               try (have bX := mark_put b6 (1023) (1048575) (1099511627775); obtain ⟨⟨⟨p0, f0⟩, ⟨p1, f1⟩, p2, f2⟩, bF⟩ := bX)))
        all_goals
          go_wp2_with fail
          go_meet
          first
            | (have bG5 := bF; clear bz; exact ⟨_, aD, cD, rfl, rfl, rfl, rfl, Lib.hid bG5, Lib.hid ((((oD.far (p := ⟨_, 0, none⟩) hl6 _).far (p := ⟨_, 1, none⟩) hl6 _).far (p := ⟨_, 2, none⟩) hl6 _).more (by first | exact K5.size | exact (K5.alloc _).size)), K6.mark hg5 _ _ _⟩)
            | exact ⟨_, aD, cD, rfl, rfl, rfl, rfl, Lib.hid (Blk.new w6 _ _), Lib.hid ((oD.more K5.size).keep ((Keep.refl _ w6).alloc _)), K6.alloc _⟩
      case rest =>
      obtain ⟨g5, aD, cD, rfl, rfl, rfl, rfl, BM, OD, kc⟩ := hcut
      have TV12 := TV11.keep kc
      have b12 := b11.keep kc (by simp)
      have m12 := m11.keep kc (by simp)
      have HB12 := Lib.hid (HB11.out.keep kc)
      have k12 := k11.comp kc
      obtain ⟨w12, hw12⟩ : ∃ w12, w12 = wc := ⟨_, rfl⟩
      subst hw12
      clear TB HTB HRD HPT HAS TV11 b11 m11 HB11 k11 kc OD
      go_upto_region 17 with (fail)
      have kd := (Keep.refl (fun _ => False) w12).drew
      have b12d := b12.keep kd (by simp)
      have TV12d := TV12.keep kd
      go_region_held3 (fun w' => (w'.cell? ⟨gt, 0, none⟩ = some (.slice (some ⟨t1, 0, none⟩) 1023 1023) ∧ w'.cell? ⟨gt, 1, none⟩ = some (.slice (some ⟨t2, 0, none⟩) 1024 1024)) ∧ w'.cell? ⟨gG, 0, none⟩ = some (.int .i64 4) ∧ w'.cell? ⟨gG, 1, none⟩ = some (.int .i64 2) ∧ w'.cell? ⟨gG, 2, none⟩ = some (.int .i64 2) ∧ w'.cell? ⟨gG, 3, none⟩ = some (.int .i64 12))
        (first | with_reducible exact ⟨tab_cells TV12d.b, geo_cells' b12d⟩ | with_reducible exact ⟨tab_cells TV13.b, geo_cells' b13⟩)
        (first
          | (go_at_call 17
             refine (fmake_size _ 4 2 2 12 1 0 0 19 _ _ _ TV12d.t.has geo_22 ⟨by omega, by omega, by omega, by omega⟩ (by decide)).mono ?_
             rintro e w13 ⟨rfl, q13⟩
             have TV13 := TV12d.keep q13
             have b13 := b12d.keep q13 (by simp)))
      have q13d := kd.comp q13
      have m13 := m12.keep q13d (by simp)
      have BM13 := Lib.hid (BM.out.keep q13d (by simp))
      have HB13 := Lib.hid (HB12.out.keep q13d)
      have k13 := k12.comp q13d
      clear kd b12d TV12d q13 q13d TV12 b12 m12 BM HB12 k12
      obtain ⟨d0, d1⟩ := tab_cells TV13.b
      go_wp2_with fail
      refine (fmake_arg _ 0 0 0 0 1 0 0 _ _ TV13.t.has (.inl geo_none)).mono ?_
      rintro e w14 ⟨rfl, q14⟩
      have TV14 := TV13.keep q14
      have b14 := b13.keep q14 (by simp)
      have m14 := m13.keep q14 (by simp)
      have BM14 := Lib.hid (BM13.out.keep q14 (by simp))
      have k14 := k13.comp q14
      clear d0 d1 TV13 b13 m13 BM13 HB13 k13 q14
      obtain ⟨d0, d1⟩ := tab_cells TV14.b
      obtain ⟨g0, g1, g2, g3⟩ := geo_cells' b14
      go_wp2_with fail
      refine (read_size _ 4 2 2 12 0 none 0 _ TV14.t.has geo_22 (by decide)).mono ?_
      rintro e w15 ⟨he, q15⟩
      obtain ⟨a15, c15, rfl, _⟩ := SaysR.nothing (w' := w15) (N := 0) (fun _ => 0) he
      have q16 := (Keep.refl (fun _ => False) w15).alloc (.cells #[.int .i64 0, .int .i64 0, .int .i64 0] 25)
      have TV16 := (TV14.keep q15).keep q16
      have b16 := (b14.keep q15 (by simp)).keep q16 (by simp)
      have m16 := (m14.keep q15 (by simp)).keep q16 (by simp)
      have BM16 := Lib.hid ((BM14.out.keep q15 (by simp)).keep q16 (by simp))
      have k16 := (k14.comp q15).comp q16
      clear d0 d1 g0 g1 g2 g3 TV14 b14 m14 BM14 k14 q15 q16
      have HMK := fun w => make_cx 56 56 rfl (by omega) w
      have TB := TV16.b
      go_upto_region 20 with (fail)
      generalize w15.alloc (.cells #[.int .i64 0, .int .i64 0, .int .i64 0] 25) = w16 at *
      have HTB := Lib.hid (fun w' (k : Keep (fun _ => False) w16 w') => (TV16.keep k).t.has)
      have HA1 : Hid (ArgV (w16.drew.alloc (.cells (valsArr (fun _ => .complex .f64 0 0) 56) 47)) (some ⟨w16.heap.size, 0, none⟩) 56 (ptsV (fun _ => 0) (fun _ => 0))) := Lib.hid (zc_arg (Blk.new w16.drew _ _))
      have HA2 : Hid (ArgV ((w16.drew.alloc (.cells (valsArr (fun _ => .complex .f64 0 0) 56) 47)).alloc (.cells #[.int .i64 0, .int .i64 0, .int .i64 0] 25)) (some ⟨w16.heap.size, 0, none⟩) 56 (ptsV (fun _ => 0) (fun _ => 0))) := Lib.hid (HA1.out.keep ((Keep.refl _ _).alloc _))
      have HA3 : Hid (ArgV ((w16.drew.alloc (.cells #[.int .i64 0, .int .i64 0, .int .i64 0] 25)).alloc (.cells (valsArr (fun _ => .complex .f64 0 0) 56) 47)) (some ⟨w16.heap.size + 1, 0, none⟩) 56 (ptsV (fun _ => 0) (fun _ => 0))) := Lib.hid (zc_arg (Blk.here _ _ _ _ (by simp)))
      have HRD := read_says (n := 56) (x := fun _ => 0) (y := fun _ => 0) geo_22 rfl (fun i _ => ⟨by unfold Pm; decide, by unfold Pm; decide⟩) (fun w' N e h => SaysR.nothing (fun _ => 0) (h.blank (anyB_false fun _ _ => rfl)))
      go_upto_region 20 with (fail)
      go_cut [24, 25, 26, 27] (fun v5 v6 v7 v8 wc => ∃ (g5 : Nat) (aD : Option Addr) (cD : Nat), v5 = .pointer (some ⟨g5, 0, none⟩) ∧ v6 = .slice aD 0 cD ∧ v7 = .int .i64 0 ∧ v8 = .int .i64 13 ∧ Hid (Blk wc g5 25 #[.int .i64 0, .int .i64 0, .int .i64 0]) ∧ Keep (fun _ => False) w16 wc)
      case first =>
        have kd := (Keep.refl (fun _ => False) w16).drew
        have kM0 := kd.alloc (.cells #[.int .i64 0, .int .i64 0, .int .i64 0] 25)
        have kM1 := kd.alloc (.cells (valsArr (fun _ => .complex .f64 0 0) 56) 47)
        have kM2 := kM1.alloc (.cells #[.int .i64 0, .int .i64 0, .int .i64 0] 25)
        have kM3 := kM0.alloc (.cells (valsArr (fun _ => .complex .f64 0 0) 56) 47)
        have bz2 : Blk ((w16.drew.alloc (.cells (valsArr (fun _ => .complex .f64 0 0) 56) 47)).alloc (.cells #[.int .i64 0, .int .i64 0, .int .i64 0] 25)) (w16.heap.size + 1) 25 #[.int .i64 0, .int .i64 0, .int .i64 0] := Blk.here _ _ _ _ (by simp)
        have bz3 : Blk ((w16.drew.alloc (.cells #[.int .i64 0, .int .i64 0, .int .i64 0] 25)).alloc (.cells (valsArr (fun _ => .complex .f64 0 0) 56) 47)) w16.heap.size 25 #[.int .i64 0, .int .i64 0, .int .i64 0] := (show Blk (w16.drew.alloc (.cells #[.int .i64 0, .int .i64 0, .int .i64 0] 25)) w16.heap.size 25 #[.int .i64 0, .int .i64 0, .int .i64 0] from Blk.new w16.drew _ _).alloc _
        obtain ⟨q0, q1, q2, q3⟩ := geo_cells' (b16.keep kd (by simp))
        obtain ⟨d0, d1⟩ := tabs_cells (TB.keep kd (by simp))
        go_region_held3 (fun w' => (w'.cell? ⟨gt, 0, none⟩ = some (.slice (some ⟨t1, 0, none⟩) 1023 1023) ∧ w'.cell? ⟨gt, 1, none⟩ = some (.slice (some ⟨t2, 0, none⟩) 1024 1024)) ∧ w'.cell? ⟨gG, 0, none⟩ = some (.int .i64 4) ∧ w'.cell? ⟨gG, 1, none⟩ = some (.int .i64 2) ∧ w'.cell? ⟨gG, 2, none⟩ = some (.int .i64 2) ∧ w'.cell? ⟨gG, 3, none⟩ = some (.int .i64 12))
          (first | with_reducible exact ⟨⟨d0, d1⟩, q0, q1, q2, q3⟩ | with_reducible exact ⟨tabs_cells (TB.keep K5 (by simp)), geo_cells' (b16.keep K5 (by simp))⟩ | with_reducible exact ⟨tabs_cells (TB.keep K6 (by simp)), geo_cells' (b16.keep K6 (by simp))⟩ | exact ⟨tabs_cells (TB.keep (K6.mark hg5 _ _ _) (by simp)), geo_cells' (b16.keep (K6.mark hg5 _ _ _) (by simp))⟩ | exact ⟨tabs_cells (TB.keep (K6.alloc _) (by simp)), geo_cells' (b16.keep (K6.alloc _) (by simp))⟩ | exact ⟨tabs_cells (TB.keep (K5.alloc _) (by simp)), geo_cells' (b16.keep (K5.alloc _) (by simp))⟩ | exact ⟨tabs_cells (TB.keep kM2 (by simp)), geo_cells' (b16.keep kM2 (by simp))⟩ | exact ⟨tabs_cells (TB.keep kM3 (by simp)), geo_cells' (b16.keep kM3 (by simp))⟩ | exact ⟨tabs_cells (TB.keep kM1 (by simp)), geo_cells' (b16.keep kM1 (by simp))⟩ | exact ⟨tabs_cells (TB.keep kM0 (by simp)), geo_cells' (b16.keep kM0 (by simp))⟩)
          (first
            | (go_at_call 20
               refine (HRD.out _ _ _ _ ?hT ?hA).mono ?_
               case hT => first | exact HTB.out _ kM1 | exact HTB.out _ kM2 | exact HTB.out _ kM3
               case hA => first | exact HA1.out | exact HA2.out | exact HA3.out
               rintro e w6 ⟨⟨aD, cD, rfl, oD⟩, k6⟩
               have K6 : Keep (fun _ => False) w16 w6 := by first | exact kM1.comp k6 | exact kM2.comp k6 | exact kM3.comp k6
               try (have b6 := bz2.keep k6 (by simp); have hg5 := Nat.le_succ w16.heap.size)
               try (have b6 := bz3.keep k6 (by simp); have hg5 := Nat.le_refl w16.heap.size)
               try (have bX := mark_put b6 (0) (0) (0); obtain ⟨⟨⟨p0, f0⟩, ⟨p1, f1⟩, p2, f2⟩, bF⟩ := bX)))
        all_goals
          go_wp2_with fail
          go_meet
          first
            | (have bG5 := bF; exact ⟨_, aD, cD, rfl, rfl, rfl, rfl, Lib.hid bG5, K6.mark hg5 _ _ _⟩)
            | exact ⟨_, aD, cD, rfl, rfl, rfl, rfl, Lib.hid (Blk.new w6 _ _), K6.alloc _⟩
      case rest =>
      obtain ⟨g5b, aDb, cDb, rfl, rfl, rfl, rfl, BMb, kcb⟩ := hcut
      have TV17 := TV16.keep kcb
      have b17 := b16.keep kcb (by simp)
      have m17 := m16.keep kcb (by simp)
      have BM17 := Lib.hid (BM16.out.keep kcb (by simp))
      have k17 := k16.comp kcb
      obtain ⟨w17, hw17⟩ : ∃ w17, w17 = wc := ⟨_, rfl⟩
      subst hw17
      clear TB HTB HRD HA1 HA2 HA3 HMK TV16 b16 m16 BM16 k16 kcb BMb
      obtain ⟨d0, d1⟩ := tab_cells TV17.b
      go_wp2_with fail
      refine (read_arg _ 0 0 0 0 _ _ TV17.t.has geo_none).mono ?_
      rintro e w18 ⟨he, q18⟩
      obtain ⟨a18, c18, rfl, _⟩ := SaysR.nothing (w' := w18) (N := 0) (fun _ => 0) he
      have q19 := (Keep.refl (fun _ => False) w18).alloc (.cells #[.int .i64 0, .int .i64 0, .int .i64 0] 25)
      have TV19 := (TV17.keep q18).keep q19
      have b19 := (b17.keep q18 (by simp)).keep q19 (by simp)
      have m19 := (m17.keep q18 (by simp)).keep q19 (by simp)
      have BM19 := Lib.hid ((BM17.out.keep q18 (by simp)).keep q19 (by simp))
      have k19 := (k17.comp q18).comp q19
      clear d0 d1 TV17 b17 m17 BM17 k17 q18 q19
      have HMK := fun w => make_u 56 56 rfl (by omega) w
      have TB := TV19.b
      go_upto_region 22 with (fail)
      generalize w18.alloc (.cells #[.int .i64 0, .int .i64 0, .int .i64 0] 25) = w19 at *
      have HTB := Lib.hid (fun w' (k : Keep (fun _ => False) w19 w') => (TV19.keep k).t.has)
      have HA1 : Hid (ArgU (w19.drew.alloc (.cells (uArr (fun _ => 0) 56) 45)) (some ⟨w19.heap.size, 0, none⟩) 56 (fun _ => 0)) := Lib.hid (Blk.argU (Blk.new w19.drew _ _) (by omega) (fun _ _ => by omega))
      have HA2 : Hid (ArgU ((w19.drew.alloc (.cells (uArr (fun _ => 0) 56) 45)).alloc (.cells #[.int .i64 0, .int .i64 0, .int .i64 0] 25)) (some ⟨w19.heap.size, 0, none⟩) 56 (fun _ => 0)) := Lib.hid (HA1.out.keep ((Keep.refl _ _).alloc _))
      have HA3 : Hid (ArgU ((w19.drew.alloc (.cells #[.int .i64 0, .int .i64 0, .int .i64 0] 25)).alloc (.cells (uArr (fun _ => 0) 56) 45)) (some ⟨w19.heap.size + 1, 0, none⟩) 56 (fun _ => 0)) := Lib.hid (Blk.argU (Blk.here _ _ _ _ (by simp)) (by omega) (fun _ _ => by omega))
      have HPT : Hid (∀ w aS cS, ArgU w aS 56 (fun _ => 0) → Calls Try.prog 21 #[.slice aS 56 cS] w fun e w' => ∃ a' c', e = .returned (.slice a' 56 c') ∧ OwnV w' 47 w.heap.size a' 56 c' (ptsV (fun _ => reS 0) (fun _ => imS 0)) ∧ Keep (fun _ => False) w w') := Lib.hid (fun w aS cS h => points_any aS 56 cS (fun _ => 0) w h (by omega))
      have HRD := read_says (n := 56) (x := fun _ => reS 0) (y := fun _ => imS 0) geo_22 rfl (fun i _ => ⟨(Pu_re 0).pm, (Pu_im 0).pm⟩) zeros_says
      go_upto_region 22 with (fail)
      go_cut [32, 33, 34, 35] (fun v5 v6 v7 v8 wc => ∃ (g5 : Nat) (aD : Option Addr) (cD : Nat), v5 = .pointer (some ⟨g5, 0, none⟩) ∧ v6 = .slice aD 0 cD ∧ v7 = .int .i64 0 ∧ v8 = .int .i64 12 ∧ Hid (Blk wc g5 25 #[.int .i64 0, .int .i64 0, .int .i64 0]) ∧ Keep (fun _ => False) w19 wc)
      case first =>
        have kd := (Keep.refl (fun _ => False) w19).drew
        have kM0 := kd.alloc (.cells #[.int .i64 0, .int .i64 0, .int .i64 0] 25)
        have kM1 := kd.alloc (.cells (uArr (fun _ => 0) 56) 45)
        have kM2 := kM1.alloc (.cells #[.int .i64 0, .int .i64 0, .int .i64 0] 25)
        have kM3 := kM0.alloc (.cells (uArr (fun _ => 0) 56) 45)
        have bz2 : Blk ((w19.drew.alloc (.cells (uArr (fun _ => 0) 56) 45)).alloc (.cells #[.int .i64 0, .int .i64 0, .int .i64 0] 25)) (w19.heap.size + 1) 25 #[.int .i64 0, .int .i64 0, .int .i64 0] := Blk.here _ _ _ _ (by simp)
        have bz3 : Blk ((w19.drew.alloc (.cells #[.int .i64 0, .int .i64 0, .int .i64 0] 25)).alloc (.cells (uArr (fun _ => 0) 56) 45)) w19.heap.size 25 #[.int .i64 0, .int .i64 0, .int .i64 0] := (show Blk (w19.drew.alloc (.cells #[.int .i64 0, .int .i64 0, .int .i64 0] 25)) w19.heap.size 25 #[.int .i64 0, .int .i64 0, .int .i64 0] from Blk.new w19.drew _ _).alloc _
        obtain ⟨q0, q1, q2, q3⟩ := geo_cells' (b19.keep kd (by simp))
        obtain ⟨d0, d1⟩ := tabs_cells (TB.keep kd (by simp))
        go_region_held3 (fun w' => (w'.cell? ⟨gt, 0, none⟩ = some (.slice (some ⟨t1, 0, none⟩) 1023 1023) ∧ w'.cell? ⟨gt, 1, none⟩ = some (.slice (some ⟨t2, 0, none⟩) 1024 1024)) ∧ w'.cell? ⟨gG, 0, none⟩ = some (.int .i64 4) ∧ w'.cell? ⟨gG, 1, none⟩ = some (.int .i64 2) ∧ w'.cell? ⟨gG, 2, none⟩ = some (.int .i64 2) ∧ w'.cell? ⟨gG, 3, none⟩ = some (.int .i64 12))
          (first | with_reducible exact ⟨⟨d0, d1⟩, q0, q1, q2, q3⟩ | with_reducible exact ⟨tabs_cells (TB.keep K5 (by simp)), geo_cells' (b19.keep K5 (by simp))⟩ | with_reducible exact ⟨tabs_cells (TB.keep K6 (by simp)), geo_cells' (b19.keep K6 (by simp))⟩ | exact ⟨tabs_cells (TB.keep (K6.mark hg5 _ _ _) (by simp)), geo_cells' (b19.keep (K6.mark hg5 _ _ _) (by simp))⟩ | exact ⟨tabs_cells (TB.keep (K6.alloc _) (by simp)), geo_cells' (b19.keep (K6.alloc _) (by simp))⟩ | exact ⟨tabs_cells (TB.keep (K5.alloc _) (by simp)), geo_cells' (b19.keep (K5.alloc _) (by simp))⟩ | exact ⟨tabs_cells (TB.keep kM2 (by simp)), geo_cells' (b19.keep kM2 (by simp))⟩ | exact ⟨tabs_cells (TB.keep kM3 (by simp)), geo_cells' (b19.keep kM3 (by simp))⟩ | exact ⟨tabs_cells (TB.keep kM1 (by simp)), geo_cells' (b19.keep kM1 (by simp))⟩ | exact ⟨tabs_cells (TB.keep kM0 (by simp)), geo_cells' (b19.keep kM0 (by simp))⟩)
          (first
            | (go_at_call 21
               refine (HPT.out _ _ _ ?hA).mono ?_
               case hA => first | exact HA1.out | exact HA2.out | exact HA3.out
               rintro e w5 ⟨aP, cP, rfl, oP, k5⟩
               have K5 : Keep (fun _ => False) w19 w5 := by first | exact kM1.comp k5 | exact kM2.comp k5 | exact kM3.comp k5
               try (have b5 := bz2.keep k5 (by simp); have hg5 := Nat.le_succ w19.heap.size)
               try (have b5 := bz3.keep k5 (by simp); have hg5 := Nat.le_refl w19.heap.size))
            | (go_at_call 20
               refine (HRD.out _ _ _ _ ?hT ?hA).mono ?_
               case hT => first | exact HTB.out _ K5 | exact HTB.out _ (K5.alloc _)
               case hA => first | exact oP.arg (by omega) | exact (oP.keep ((Keep.refl _ w5).alloc _)).arg (by omega)
               rintro e w6 ⟨⟨aD, cD, rfl, oD⟩, k6⟩
               have K6 : Keep (fun _ => False) w19 w6 := by first | exact K5.comp k6 | exact (K5.alloc _).comp k6
               try (have b6 := (Blk.new w5 25 #[.int .i64 0, .int .i64 0, .int .i64 0]).keep k6 (by simp); have hg5 := K5.size)
               try (have b6 := b5.keep k6 (by simp))
               try (have bX := mark_put b6 (0) (0) (0); obtain ⟨⟨⟨p0, f0⟩, ⟨p1, f1⟩, p2, f2⟩, bF⟩ := bX)))
        all_goals
          go_wp2_with fail
          go_meet
          first
            | (have bG5 := bF; exact ⟨_, aD, cD, rfl, rfl, rfl, rfl, Lib.hid bG5, K6.mark hg5 _ _ _⟩)
            | exact ⟨_, aD, cD, rfl, rfl, rfl, rfl, Lib.hid (Blk.new w6 _ _), K6.alloc _⟩
      case rest =>
      obtain ⟨g5c, aDc, cDc, rfl, rfl, rfl, rfl, BMc, kcc⟩ := hcut
      have m20 := m19.keep kcc (by simp)
      have BM20 := BM19.out.keep kcc (by simp)
      have kf := k19.comp kcc
      obtain ⟨p0, p1, p2⟩ := mark_cells m20
      obtain ⟨r0, r1, r2⟩ := mark_cells BM20
      have HBL := Lib.hid (fun w => blank_any none 0 0 (fun _ => 0) (fun _ => 0) w (ArgV.nil _ _) (fun i hi => by omega))
      clear TB HTB HRD HPT HA1 HA2 HA3 HMK TV19 b19 m19 BM19 k19 kcc BMc BM20 m20
      go_wp2_with fail
      refine (HBL.out _).mono ?_
      rintro e w21 ⟨rfl, rfl⟩
      go_wp2_with fail
      go_ret
      exact ⟨rfl, kf⟩
end Go.Proofs.Ytdlmjjlejkkniaa
