/- How many bytes a page bears. -/
import Derived.Test.YtdlmjjlejkkniaaGreatGeoC
import Derived.Test.YtdlmjjlejkkniaaGreatGeoRef
namespace Go.Proofs.YtdlmjjlejkkniaaGreat
open Go.RowKit

set_option maxHeartbeats 1000000 in
theorem bytes_any (n : Nat) (hn : n ≤ 1000000) (w : World) :
    Calls Tryz.prog 95 #[.int .i64 n] w fun e w' => e = .returned (.int .i64 (n * 10 / 8 : Nat)) ∧ w = w' := by
  have hd : ((n : Int) * 10).tdiv 8 = ((n * 10 / 8 : Nat) : Int) := by
    rw [Int.tdiv_eq_ediv_of_nonneg (by omega)]
    omega
  have h1 : ¬ (n : Int) < 0 := by omega
  go_enter Tryz.func95, Tryz.ntmps95
  go_wp2_with fail
  refine (?_ : Calls Tryz.prog 110 #[.int .i64 n] w fun e w' => e = .returned (.int .i64 n) ∧ w = w').mono ?_
  · clear hd
    go_enter Tryz.func110, Tryz.ntmps110
    go_wp2_with fail
    go_ret
    exact ⟨by go_num, rfl⟩
  rintro e w1 ⟨rfl, rfl⟩
  go_wp2_with fail
  go_ret
  exact ⟨rfl, rfl⟩
set_option maxRecDepth 100000 in
set_option maxHeartbeats 1000000 in
theorem rbytes_any (n : Nat) (hn : n ≤ 1000000) (w : World) :
    Calls Tryz.prog 23 #[.int .i64 n] w fun e w' => e = .returned (.int .i64 (n * 10 / 8 : Nat)) ∧ w = w' := by
  have hd : (10 * (n : Int)).tdiv 8 = ((n * 10 / 8 : Nat) : Int) := by
    rw [Int.tdiv_eq_ediv_of_nonneg (by omega)]
    omega
  have h1 : ¬ (n : Int) < 0 := by omega
  have h2 : (if (n : Int) < 0 then 0 else (n : Int)) = (n : Int) := by rw [if_neg h1]
  go_enter Tryz.func23, Tryz.ntmps23
  go_wp2_with fail
  go_ret
  exact ⟨rfl, rfl⟩
/-- How many bytes a page bears. -/
def szB (W K : Nat) : Nat := (W * K - 8) * 10 / 8
theorem geo_nat {B P : Int} {W K : Nat} (h : GeoOk B P W K) : 1 ≤ W ∧ W ≤ 4 ∧ 1 ≤ K ∧ K ≤ 64 ∧ 8 < W * K ∧ W * K ≤ 256 := by
  have := h.w0; have := h.w1; have := h.k0; have := h.k1; have := h.wk
  have h1 : W * K ≤ 4 * 64 := Nat.mul_le_mul (by omega) (by omega)
  have h2 : ((W * K : Nat) : Int) = (W : Int) * (K : Int) := Int.natCast_mul W K
  omega
set_option maxRecDepth 100000 in
set_option maxHeartbeats 1000000 in
theorem size_any (B P : Int) (W K : Nat) (w : World) (h : GeoOk B P W K) :
    Calls Tryz.prog 76 #[geoV B P W K] w fun e w' => e = .returned (.int .i64 (szB W K : Nat)) ∧ Keep (fun _ => False) w w' := by
  obtain ⟨_, _, _, _, w1, w2⟩ := geo_nat h
  have hm : (W : Int) * (K : Int) = ((W * K : Nat) : Int) := (Int.natCast_mul W K).symm
  have hs : ((W * K : Nat) : Int) - 8 = ((W * K - 8 : Nat) : Int) := by omega
  have hb : ∀ w, Calls Tryz.prog 95 #[.int .i64 (W * K - 8 : Nat)] w fun e w' => e = .returned (.int .i64 (szB W K : Nat)) ∧ w = w' := fun w => bytes_any (W * K - 8) (by omega) w
  generalize szB W K = z at *
  go_enter Tryz.func76, Tryz.ntmps76
  go_wp2_with fail
  refine (may_yes _ _ _ _ _ h).mono ?_
  rintro e wx ⟨rfl, k⟩
  have hblk := (Blk.new w 23 #[.int .i64 B, .int .i64 P, .int .i64 W, .int .i64 K]).keep k (by simp)
  have c0 : wx.cell? ⟨w.heap.size, 2, none⟩ = some (.int .i64 W) := by rw [hblk.cell]; rfl
  have c1 : wx.cell? ⟨w.heap.size, 3, none⟩ = some (.int .i64 K) := by rw [hblk.cell]; rfl
  have kk := ((Keep.refl (fun _ => False) w).alloc (.cells #[.int .i64 B, .int .i64 P, .int .i64 W, .int .i64 K] 23)).trans k (fun i hi => .inl hi)
  clear hblk
  generalize W * K - 8 = n at *
  generalize W * K = m at *
  go_wp2_with fail
  refine (hb _).mono ?_
  rintro e w2 ⟨rfl, rfl⟩
  go_wp2_with fail
  go_ret
  exact ⟨rfl, kk⟩
set_option maxRecDepth 100000 in
set_option maxHeartbeats 1000000 in
theorem rsize_any (B P : Int) (W K : Nat) (w : World) (h : GeoOk B P W K) :
    Calls Tryz.prog 11 #[geoV B P W K] w fun e w' => e = .returned (.int .i64 (szB W K : Nat)) ∧ Keep (fun _ => False) w w' := by
  obtain ⟨_, _, _, _, w1, w2⟩ := geo_nat h
  have hm : (W : Int) * (K : Int) = ((W * K : Nat) : Int) := (Int.natCast_mul W K).symm
  have hs : ((W * K : Nat) : Int) - 8 = ((W * K - 8 : Nat) : Int) := by omega
  have hb : ∀ w, Calls Tryz.prog 23 #[.int .i64 (W * K - 8 : Nat)] w fun e w' => e = .returned (.int .i64 (szB W K : Nat)) ∧ w = w' := fun w => rbytes_any (W * K - 8) (by omega) w
  generalize szB W K = z at *
  go_enter Tryz.func11, Tryz.ntmps11
  go_wp2_with fail
  refine (gmay_yes _ _ _ _ _ h).mono ?_
  rintro e wx ⟨rfl, k⟩
  have hblk := (Blk.new w 23 #[.int .i64 B, .int .i64 P, .int .i64 W, .int .i64 K]).keep k (by simp)
  have c0 : wx.cell? ⟨w.heap.size, 2, none⟩ = some (.int .i64 W) := by rw [hblk.cell]; rfl
  have c1 : wx.cell? ⟨w.heap.size, 3, none⟩ = some (.int .i64 K) := by rw [hblk.cell]; rfl
  have kk := ((Keep.refl (fun _ => False) w).alloc (.cells #[.int .i64 B, .int .i64 P, .int .i64 W, .int .i64 K] 23)).trans k (fun i hi => .inl hi)
  clear hblk
  generalize W * K - 8 = n at *
  generalize W * K = m at *
  go_wp2_with fail
  refine (hb _).mono ?_
  rintro e w2 ⟨rfl, rfl⟩
  go_wp2_with fail
  go_ret
  exact ⟨rfl, kk⟩
theorem geo_cells {w : World} {g : Nat} {B P W K : Int} (b : Blk w g 23 #[.int .i64 B, .int .i64 P, .int .i64 W, .int .i64 K]) :
    w.cell? ⟨g, 0, none⟩ = some (.int .i64 B) ∧ w.cell? ⟨g, 1, none⟩ = some (.int .i64 P) ∧ w.cell? ⟨g, 2, none⟩ = some (.int .i64 W) ∧ w.cell? ⟨g, 3, none⟩ = some (.int .i64 K) :=
  ⟨by rw [b.cell]; rfl, by rw [b.cell]; rfl, by rw [b.cell]; rfl, by rw [b.cell]; rfl⟩
theorem tabs_cells {w : World} {g : Nat} {u v : Value} (b : Blk w g 49 #[u, v]) : w.cell? ⟨g, 0, none⟩ = some u ∧ w.cell? ⟨g, 1, none⟩ = some v := ⟨by rw [b.cell]; rfl, by rw [b.cell]; rfl⟩
end Go.Proofs.YtdlmjjlejkkniaaGreat
