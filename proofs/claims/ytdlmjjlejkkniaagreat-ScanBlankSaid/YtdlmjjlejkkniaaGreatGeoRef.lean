/- The reference's words on a geometry. -/
import Derived.Test.YtdlmjjlejkkniaaGreatGeoC
namespace Go.Proofs.YtdlmjjlejkkniaaGreat
open Go.RowKit

set_option maxRecDepth 100000 in
set_option maxHeartbeats 1000000 in
theorem gmay_yes (B P W K : Int) (w : World) (h : GeoOk B P W K) :
    Calls Tryz.prog 9 #[geoV B P W K] w fun e w' => e = .returned (.bool true) ∧ Keep (fun _ => False) w w' := by
  obtain ⟨b0, b1, p0, p1, w0, w1, k0, k1, wk⟩ := h
  obtain ⟨m0, m1⟩ := mul_small w0 w1 k0 k1
  go_enter Tryz.func9, Tryz.ntmps9
  go_wp2_with fail
  go_ret
  exact ⟨rfl, (Keep.refl _ w).alloc _⟩

set_option maxRecDepth 100000 in
set_option maxHeartbeats 4000000 in
theorem gmay_no (B P W K : Int) (w : World) (h : ¬ GeoOk B P W K) :
    Calls Tryz.prog 9 #[geoV B P W K] w fun e w' => e = .returned (.bool false) ∧ Keep (fun _ => False) w w' := by
  by_cases b0 : 4 ≤ B; rotate_left
  · have hd : decide (4 ≤ B) = false := by simpa using b0
    clear b0 h
    as_aux_lemma =>
      go_enter Tryz.func9, Tryz.ntmps9
      go_wp2_with fail
      go_ret
      exact ⟨rfl, (Keep.refl _ w).alloc _⟩
  by_cases b1 : B ≤ 64; rotate_left
  · have hd : decide (B ≤ 64) = false := by simpa using b1
    clear b1 h
    as_aux_lemma =>
      go_enter Tryz.func9, Tryz.ntmps9
      go_wp2_with fail
      go_ret
      exact ⟨rfl, (Keep.refl _ w).alloc _⟩
  by_cases p0 : 2 ≤ P; rotate_left
  · have hd : decide (2 ≤ P) = false := by simpa using p0
    clear p0 h
    as_aux_lemma =>
      go_enter Tryz.func9, Tryz.ntmps9
      go_wp2_with fail
      go_ret
      exact ⟨rfl, (Keep.refl _ w).alloc _⟩
  by_cases p1 : P ≤ 32; rotate_left
  · have hd : decide (P ≤ 32) = false := by simpa using p1
    clear p1 h
    as_aux_lemma =>
      go_enter Tryz.func9, Tryz.ntmps9
      go_wp2_with fail
      go_ret
      exact ⟨rfl, (Keep.refl _ w).alloc _⟩
  by_cases w0 : 1 ≤ W; rotate_left
  · have hd : decide (1 ≤ W) = false := by simpa using w0
    clear w0 h
    as_aux_lemma =>
      go_enter Tryz.func9, Tryz.ntmps9
      go_wp2_with fail
      go_ret
      exact ⟨rfl, (Keep.refl _ w).alloc _⟩
  by_cases w1 : W ≤ 4; rotate_left
  · have hd : decide (W ≤ 4) = false := by simpa using w1
    clear w1 h
    as_aux_lemma =>
      go_enter Tryz.func9, Tryz.ntmps9
      go_wp2_with fail
      go_ret
      exact ⟨rfl, (Keep.refl _ w).alloc _⟩
  by_cases k0 : 1 ≤ K; rotate_left
  · have hd : decide (1 ≤ K) = false := by simpa using k0
    clear k0 h
    as_aux_lemma =>
      go_enter Tryz.func9, Tryz.ntmps9
      go_wp2_with fail
      go_ret
      exact ⟨rfl, (Keep.refl _ w).alloc _⟩
  by_cases k1 : K ≤ 64; rotate_left
  · have hd : decide (K ≤ 64) = false := by simpa using k1
    clear k1 h
    as_aux_lemma =>
      go_enter Tryz.func9, Tryz.ntmps9
      go_wp2_with fail
      go_ret
      exact ⟨rfl, (Keep.refl _ w).alloc _⟩
  have hn : ¬ 8 < W * K := fun wk => h ⟨b0, b1, p0, p1, w0, w1, k0, k1, wk⟩
  have hd : decide (8 < W * K) = false := by simpa using hn
  obtain ⟨m0, m1⟩ := mul_small w0 w1 k0 k1
  clear h
  as_aux_lemma =>
    go_enter Tryz.func9, Tryz.ntmps9
    go_wp2_with fail
    go_ret
    exact ⟨rfl, (Keep.refl _ w).alloc _⟩

set_option maxRecDepth 100000 in
set_option maxHeartbeats 1000000 in
theorem rcells_any (B P W K : Int) (w : World) (h : GeoOk B P W K) :
    Calls Tryz.prog 10 #[geoV B P W K] w fun e w' => e = .returned (.int .i64 (W * (K + 16))) ∧ Keep (fun _ => False) w w' := by
  obtain ⟨m0, m1⟩ := mul_cells h.w0 h.w1 h.k0 h.k1
  have k0 := h.k0
  have k1 := h.k1
  go_enter Tryz.func10, Tryz.ntmps10
  go_wp2_with fail
  refine (gmay_yes _ _ _ _ _ h).mono ?_
  rintro e wx ⟨rfl, k⟩
  have hb := (Blk.new w 23 #[.int .i64 B, .int .i64 P, .int .i64 W, .int .i64 K]).keep k (by simp)
  have c0 : wx.cell? ⟨w.heap.size, 2, none⟩ = some (.int .i64 W) := by rw [hb.cell]; rfl
  have c1 : wx.cell? ⟨w.heap.size, 3, none⟩ = some (.int .i64 K) := by rw [hb.cell]; rfl
  have kk := ((Keep.refl (fun _ => False) w).alloc (.cells #[.int .i64 B, .int .i64 P, .int .i64 W, .int .i64 K] 23)).trans k (fun i hi => .inl hi)
  clear hb
  go_wp2_with fail
  go_ret
  exact ⟨rfl, kk⟩
end Go.Proofs.YtdlmjjlejkkniaaGreat
