/- How many cells a page has. -/
import Derived.Test.YtdlmjjlejkkniaaGreatGeo
namespace Go.Proofs.YtdlmjjlejkkniaaGreat
open Go.RowKit

theorem mul_cells {W K : Int} (w0 : 1 ≤ W) (w1 : W ≤ 4) (k0 : 1 ≤ K) (k1 : K ≤ 64) : 17 ≤ W * (K + 16) ∧ W * (K + 16) ≤ 320 := by
  obtain rfl | rfl | rfl | rfl : W = 1 ∨ W = 2 ∨ W = 3 ∨ W = 4 := by omega
  all_goals omega

set_option maxHeartbeats 1000000 in
theorem cells_any (B P W K : Int) (w : World) (h : GeoOk B P W K) :
    Calls Tryz.prog 31 #[geoV B P W K] w fun e w' => e = .returned (.int .i64 (W * (K + 16))) ∧ Keep (fun _ => False) w w' := by
  obtain ⟨m0, m1⟩ := mul_cells h.w0 h.w1 h.k0 h.k1
  have k0 := h.k0
  have k1 := h.k1
  go_enter Tryz.func31, Tryz.ntmps31
  go_wp2_with fail
  refine (may_yes _ _ _ _ _ h).mono ?_
  rintro e wx ⟨rfl, k⟩
  have hb := (Blk.new w 23 #[.int .i64 B, .int .i64 P, .int .i64 W, .int .i64 K]).keep k (by simp)
  have c0 : wx.cell? ⟨w.heap.size, 2, none⟩ = some (.int .i64 W) := by rw [hb.cell]; rfl
  have c1 : wx.cell? ⟨w.heap.size, 3, none⟩ = some (.int .i64 K) := by rw [hb.cell]; rfl
  have kk := ((Keep.refl (fun _ => False) w).alloc (.cells #[.int .i64 B, .int .i64 P, .int .i64 W, .int .i64 K] 23)).trans k (fun i hi => .inl hi)
  clear hb
  go_wp2_with fail
  go_ret
  exact ⟨rfl, kk⟩

end Go.Proofs.YtdlmjjlejkkniaaGreat
