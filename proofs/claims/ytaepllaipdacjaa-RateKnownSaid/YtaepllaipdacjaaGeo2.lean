/- The functions of geo and patrol that count and place. -/
import Derived.Test.YtaepllaipdacjaaGeo
import Derived.Test.YtaepllaipdacjaaKept
namespace Go.Proofs.Ytaepllaipdacjaa
open Go.RowKit

theorem mul_count {B P : Int} (b0 : 4 ≤ B) (b1 : B ≤ 64) (p0 : 2 ≤ P) (p1 : P ≤ 32) : 8 ≤ B * P ∧ B * P ≤ 2048 := by
  have h1 : 4 * 2 ≤ B * P := Int.mul_le_mul b0 p0 (by omega) (by omega)
  have h2 : B * P ≤ 64 * 32 := Int.mul_le_mul b1 p1 (by omega) (by omega)
  omega
theorem mul_cells {W K : Int} (w0 : 1 ≤ W) (w1 : W ≤ 4) (k0 : 1 ≤ K) (k1 : K ≤ 64) : 17 ≤ W * (K + 16) ∧ W * (K + 16) ≤ 320 := by
  obtain rfl | rfl | rfl | rfl : W = 1 ∨ W = 2 ∨ W = 3 ∨ W = 4 := by omega
  all_goals omega

set_option maxHeartbeats 1000000 in
theorem count_any (B P W K : Int) (w : World) (h : GeoOk B P W K) :
    Calls Try.prog 11 #[geoV B P W K] w fun e w' => e = .returned (.int .i64 (B * P)) ∧ Keep (fun _ => False) w w' := by
  obtain ⟨m0, m1⟩ := mul_count h.b0 h.b1 h.p0 h.p1
  go_enter Try.func11, Try.ntmps11
  go_wp2_with fail
  refine (may_yes _ _ _ _ _ h).mono ?_
  rintro e wx ⟨rfl, k⟩
  have hb := (Blk.new w 24 #[.int .i64 B, .int .i64 P, .int .i64 W, .int .i64 K]).keep k (by simp)
  have c0 : wx.cell? ⟨w.heap.size, 0, none⟩ = some (.int .i64 B) := by rw [hb.cell]; rfl
  have c1 : wx.cell? ⟨w.heap.size, 1, none⟩ = some (.int .i64 P) := by rw [hb.cell]; rfl
  have kk := ((Keep.refl (fun _ => False) w).alloc (.cells #[.int .i64 B, .int .i64 P, .int .i64 W, .int .i64 K] 24)).trans k (fun i hi => .inl hi)
  clear hb
  go_wp2_with fail
  go_ret
  exact ⟨rfl, kk⟩

set_option maxHeartbeats 1000000 in
theorem cells_any (B P W K : Int) (w : World) (h : GeoOk B P W K) :
    Calls Try.prog 14 #[geoV B P W K] w fun e w' => e = .returned (.int .i64 (W * (K + 16))) ∧ Keep (fun _ => False) w w' := by
  obtain ⟨m0, m1⟩ := mul_cells h.w0 h.w1 h.k0 h.k1
  have k0 := h.k0
  have k1 := h.k1
  go_enter Try.func14, Try.ntmps14
  go_wp2_with fail
  refine (may_yes _ _ _ _ _ h).mono ?_
  rintro e wx ⟨rfl, k⟩
  have hb := (Blk.new w 24 #[.int .i64 B, .int .i64 P, .int .i64 W, .int .i64 K]).keep k (by simp)
  have c0 : wx.cell? ⟨w.heap.size, 2, none⟩ = some (.int .i64 W) := by rw [hb.cell]; rfl
  have c1 : wx.cell? ⟨w.heap.size, 3, none⟩ = some (.int .i64 K) := by rw [hb.cell]; rfl
  have kk := ((Keep.refl (fun _ => False) w).alloc (.cells #[.int .i64 B, .int .i64 P, .int .i64 W, .int .i64 K] 24)).trans k (fun i hi => .inl hi)
  clear hb
  go_wp2_with fail
  go_ret
  exact ⟨rfl, kk⟩

set_option maxHeartbeats 1000000 in
theorem number_any (B P W K b p : Int) (w : World) (h : GeoOk B P W K) (hb0 : 0 ≤ b) (hb1 : b < B) (hp0 : 0 ≤ p) (hp1 : p < P) (h2 : b * P + p < 2048) (h1 : 0 ≤ b * P) :
    Calls Try.prog 13 #[geoV B P W K, .int .i64 b, .int .i64 p] w fun e w' => e = .returned (.tuple #[.int .i64 (b * P + p), .bool true]) ∧ Keep (fun _ => False) w w' := by
  go_enter Try.func13, Try.ntmps13
  go_wp2_with fail
  refine (may_yes _ _ _ _ _ h).mono ?_
  rintro e wx ⟨rfl, k⟩
  have hb := (Blk.new w 24 #[.int .i64 B, .int .i64 P, .int .i64 W, .int .i64 K]).keep k (by simp)
  have c0 : wx.cell? ⟨w.heap.size, 0, none⟩ = some (.int .i64 B) := by rw [hb.cell]; rfl
  have c1 : wx.cell? ⟨w.heap.size, 1, none⟩ = some (.int .i64 P) := by rw [hb.cell]; rfl
  have kk := ((Keep.refl (fun _ => False) w).alloc (.cells #[.int .i64 B, .int .i64 P, .int .i64 W, .int .i64 K] 24)).trans k (fun i hi => .inl hi)
  clear hb
  have d0 : decide (b < 0) = false := by simpa using hb0
  have d1 : decide (B ≤ b) = false := by simpa using hb1
  have d2 : decide (p < 0) = false := by simpa using hp0
  have d3 : decide (P ≤ p) = false := by simpa using hp1
  go_wp2_with fail
  go_ret2
  exact ⟨rfl, kk⟩

set_option maxHeartbeats 1000000 in
theorem place_any (B P W K n : Int) (w : World) (h : GeoOk B P W K) (h0 : 0 ≤ n) (h1 : n < B * P) :
    Calls Try.prog 20 #[geoV B P W K, .int .i64 n] w fun e w' => e = .returned (.tuple #[.int .i64 (n / P), .int .i64 (n % P), .bool true]) ∧ Keep (fun _ => False) w w' := by
  have p0 := h.p0
  obtain ⟨m0, m1⟩ := mul_count h.b0 h.b1 h.p0 h.p1
  go_enter Try.func20, Try.ntmps20
  have d0 : decide (n < 0) = false := by simpa using h0
  go_wp2_with fail
  refine (count_any _ _ _ _ _ h).mono ?_
  rintro e wx ⟨rfl, k⟩
  have hb := (Blk.new w 24 #[.int .i64 B, .int .i64 P, .int .i64 W, .int .i64 K]).keep k (by simp)
  have c1 : wx.cell? ⟨w.heap.size, 1, none⟩ = some (.int .i64 P) := by rw [hb.cell]; rfl
  have kk := ((Keep.refl (fun _ => False) w).alloc (.cells #[.int .i64 B, .int .i64 P, .int .i64 W, .int .i64 K] 24)).trans k (fun i hi => .inl hi)
  clear hb
  have d1 : decide (B * P ≤ n) = false := by simpa using h1
  have hP0 : ¬ P = 0 := by omega
  have hP1 : ¬ P = -1 := by omega
  go_wp2_with fail
  go_quiet (fail)
  go_wp2_with fail
  go_ret3
  exact ⟨rfl, kk.drewN _⟩

/-- The page that a count stands on. -/
theorem page_facts {B P N q : Int} (hN : B * P = N) (p0 : 0 < P) (h0 : 0 ≤ q) (h1 : q < N) : 0 ≤ q / P ∧ q / P < B ∧ 0 ≤ q % P ∧ q % P < P ∧ q / P * P + q % P = q ∧ 0 ≤ q / P * P := by
  have a0 : 0 ≤ q / P := Int.ediv_nonneg h0 (by omega)
  refine ⟨a0, Int.ediv_lt_of_lt_mul p0 (by rw [hN]; exact h1), Int.emod_nonneg _ (by omega), Int.emod_lt_of_pos _ p0, ?_, Int.mul_nonneg a0 (by omega)⟩
  rw [Int.mul_comm]
  exact Int.mul_ediv_add_emod q P

set_option maxHeartbeats 1000000 in
theorem visit_any (B P W K : Int) (n : Nat) (q : Int) (w : World) (h : GeoOk B P W K) (hq : (n : Int) % (B * P) = q) :
    Calls Try.prog 12 #[geoV B P W K, .int .i64 n] w fun e w' => e = .returned (.tuple #[.int .i64 (q / P), .int .i64 (q % P)]) ∧ Keep (fun _ => False) w w' := by
  obtain ⟨m0, m1⟩ := mul_count h.b0 h.b1 h.p0 h.p1
  have q0 : 0 ≤ q := by rw [← hq]; exact Int.emod_nonneg _ (by omega)
  have q1 : q < B * P := by rw [← hq]; exact Int.emod_lt_of_pos _ (by omega)
  have e1 : (n : Int).tmod (B * P) = q := by rw [Int.tmod_eq_emod_of_nonneg (by omega), hq]
  clear hq
  have hN0 : ¬ B * P = 0 := by omega
  have d0 : decide ((n : Int) < 0) = false := by simp
  go_enter Try.func12, Try.ntmps12
  go_wp2_with fail
  refine (may_yes _ _ _ _ _ h).mono ?_
  rintro e wx ⟨rfl, k⟩
  have hb := (Blk.new w 24 #[.int .i64 B, .int .i64 P, .int .i64 W, .int .i64 K]).keep k (by simp)
  have c0 : wx.cell? ⟨w.heap.size, 0, none⟩ = some (.int .i64 B) := by rw [hb.cell]; rfl
  have c1 : wx.cell? ⟨w.heap.size, 1, none⟩ = some (.int .i64 P) := by rw [hb.cell]; rfl
  have c2 : wx.cell? ⟨w.heap.size, 2, none⟩ = some (.int .i64 W) := by rw [hb.cell]; rfl
  have c3 : wx.cell? ⟨w.heap.size, 3, none⟩ = some (.int .i64 K) := by rw [hb.cell]; rfl
  have kk := ((Keep.refl (fun _ => False) w).alloc (.cells #[.int .i64 B, .int .i64 P, .int .i64 W, .int .i64 K] 24)).trans k (fun i hi => .inl hi)
  have f0 : ∀ p : KeptBy wx, p.v.cell? ⟨w.heap.size, 0, none⟩ = some (.int .i64 B) := fun p => p.cell hb.lt c0
  have f1 : ∀ p : KeptBy wx, p.v.cell? ⟨w.heap.size, 1, none⟩ = some (.int .i64 P) := fun p => p.cell hb.lt c1
  have f2 : ∀ p : KeptBy wx, p.v.cell? ⟨w.heap.size, 2, none⟩ = some (.int .i64 W) := fun p => p.cell hb.lt c2
  have f3 : ∀ p : KeptBy wx, p.v.cell? ⟨w.heap.size, 3, none⟩ = some (.int .i64 K) := fun p => p.cell hb.lt c3
  go_wp2_with fail
  refine wp_region_kept (by kernel_rfl) (by kernel_rfl) ?_
  repeat (quiet_step (first | (go_at_call 11; exact kept_of (count_any _ _ _ _ _ h)) | (go_at_call 20; exact kept_of (place_any _ _ _ _ _ _ h q0 q1))))
  refine wpQuiet_nil ?_
  rintro _ ⟨⟨w2, k2⟩, rfl⟩
  go_wp2_with fail
  go_ret2
  exact ⟨rfl, kk.trans k2 (fun i hi => .inl hi)⟩
end Go.Proofs.Ytaepllaipdacjaa
