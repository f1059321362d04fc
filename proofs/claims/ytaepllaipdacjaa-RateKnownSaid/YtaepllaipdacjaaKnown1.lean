/- For RateKnown: its closure; rate.Worst at a geometry that may not be. -/
import Derived.Test.YtaepllaipdacjaaApart
namespace Go.Proofs.Ytaepllaipdacjaa
open Go.RowKit
attribute [local go_sem] run_store_complex

set_option maxHeartbeats 400000 in
theorem drift_any (p c : Int) (w : World) :
    Calls Try.prog 6 #[.int .i64 p, .int .i64 c] w fun e w' => e = .returned (.agg #[.int .i64 6, .int .i64 0, .int .i64 p, .int .i64 c, .complex .f64 4611686018427387904 0, .slice none 0 0]) ∧ Keep (fun _ => False) w w' := by
  go_enter Try.func6, Try.ntmps6
  go_wp2_with fail
  (try simp only [Exit.inBlock, Exit.then])
  refine bodyPost_ret (results_cell_row rfl _ _ w.heap.size 28 _ (0, 0) _ rfl (heap_alloc_new w _) Try.underlying28 rfl (by kernel_rfl)) rfl ?_
  exact ⟨rfl, (Keep.refl _ w).alloc _⟩

set_option maxHeartbeats 400000 in
theorem worst_bad (w : World) (B P W K : Int) (h : ¬ GeoOk B P W K) (v : Value) :
    Calls Try.prog 7 #[geoV B P W K, v] w fun e w' => e = .returned (.int .i64 0) ∧ Keep (fun _ => False) w w' := by
  go_enter Try.func7, Try.ntmps7
  go_wp2_with fail
  refine (may_no _ _ _ _ _ h).mono ?_
  rintro e w1 ⟨rfl, k1⟩
  have k2 := ((Keep.refl (fun _ => False) w).alloc (.cells #[.int .i64 B, .int .i64 P, .int .i64 W, .int .i64 K] 24)).trans k1 (fun _ hi => .inl hi)
  go_wp2_with fail
  go_ret
  exact ⟨rfl, k2⟩
end Go.Proofs.Ytaepllaipdacjaa
