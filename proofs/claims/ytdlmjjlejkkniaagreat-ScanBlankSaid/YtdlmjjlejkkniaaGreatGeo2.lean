/- The functions of geo and patrol that count and place. -/
import Derived.Test.YtdlmjjlejkkniaaGreatGeoC
import Derived.Test.YtdlmjjlejkkniaaGreatKept
namespace Go.Proofs.YtdlmjjlejkkniaaGreat
open Go.RowKit

theorem mul_count {B P : Int} (b0 : 4 ≤ B) (b1 : B ≤ 64) (p0 : 2 ≤ P) (p1 : P ≤ 32) : 8 ≤ B * P ∧ B * P ≤ 2048 := by
  have h1 : 4 * 2 ≤ B * P := Int.mul_le_mul b0 p0 (by omega) (by omega)
  have h2 : B * P ≤ 64 * 32 := Int.mul_le_mul b1 p1 (by omega) (by omega)
  omega
set_option maxHeartbeats 1000000 in
theorem number_any (B P W K b p : Int) (w : World) (h : GeoOk B P W K) (hb0 : 0 ≤ b) (hb1 : b < B) (hp0 : 0 ≤ p) (hp1 : p < P) (h2 : b * P + p < 2048) (h1 : 0 ≤ b * P) :
    Calls Tryz.prog 43 #[geoV B P W K, .int .i64 b, .int .i64 p] w fun e w' => e = .returned (.tuple #[.int .i64 (b * P + p), .bool true]) ∧ Keep (fun _ => False) w w' := by
  go_enter Tryz.func43, Tryz.ntmps43
  go_wp2_with fail
  refine (may_yes _ _ _ _ _ h).mono ?_
  rintro e wx ⟨rfl, k⟩
  have hb := (Blk.new w 23 #[.int .i64 B, .int .i64 P, .int .i64 W, .int .i64 K]).keep k (by simp)
  have c0 : wx.cell? ⟨w.heap.size, 0, none⟩ = some (.int .i64 B) := by rw [hb.cell]; rfl
  have c1 : wx.cell? ⟨w.heap.size, 1, none⟩ = some (.int .i64 P) := by rw [hb.cell]; rfl
  have kk := ((Keep.refl (fun _ => False) w).alloc (.cells #[.int .i64 B, .int .i64 P, .int .i64 W, .int .i64 K] 23)).trans k (fun i hi => .inl hi)
  clear hb
  have d0 : decide (b < 0) = false := by simpa using hb0
  have d1 : decide (B ≤ b) = false := by simpa using hb1
  have d2 : decide (p < 0) = false := by simpa using hp0
  have d3 : decide (P ≤ p) = false := by simpa using hp1
  go_wp2_with fail
  go_ret2
  exact ⟨rfl, kk⟩

/-- The page that a count stands on. -/
theorem page_facts {B P N q : Int} (hN : B * P = N) (p0 : 0 < P) (h0 : 0 ≤ q) (h1 : q < N) : 0 ≤ q / P ∧ q / P < B ∧ 0 ≤ q % P ∧ q % P < P ∧ q / P * P + q % P = q ∧ 0 ≤ q / P * P := by
  have a0 : 0 ≤ q / P := Int.ediv_nonneg h0 (by omega)
  refine ⟨a0, Int.ediv_lt_of_lt_mul p0 (by rw [hN]; exact h1), Int.emod_nonneg _ (by omega), Int.emod_lt_of_pos _ p0, ?_, Int.mul_nonneg a0 (by omega)⟩
  rw [Int.mul_comm]
  exact Int.mul_ediv_add_emod q P

end Go.Proofs.YtdlmjjlejkkniaaGreat
