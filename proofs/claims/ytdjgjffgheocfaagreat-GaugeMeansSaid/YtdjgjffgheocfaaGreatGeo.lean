/- Geometries. -/
import Derived.Test.YtdjgjffgheocfaaGreatBase
import Derived.Deep.QuietTactic
namespace Go.Proofs.YtdjgjffgheocfaaGreat
open Go.RowKit

/-- Which geometries may be. -/
structure GeoOk (B P W K : Int) : Prop where
  b0 : 4 ≤ B
  b1 : B ≤ 64
  p0 : 2 ≤ P
  p1 : P ≤ 32
  w0 : 1 ≤ W
  w1 : W ≤ 4
  k0 : 1 ≤ K
  k1 : K ≤ 64
  wk : 8 < W * K
abbrev geoV (B P W K : Int) : Value := .agg #[.int .i64 B, .int .i64 P, .int .i64 W, .int .i64 K]
instance (B P W K : Int) : Decidable (GeoOk B P W K) :=
  decidable_of_iff (4 ≤ B ∧ B ≤ 64 ∧ 2 ≤ P ∧ P ≤ 32 ∧ 1 ≤ W ∧ W ≤ 4 ∧ 1 ≤ K ∧ K ≤ 64 ∧ 8 < W * K)
    ⟨fun ⟨a, b, c, d, e, f, g, h, i⟩ => ⟨a, b, c, d, e, f, g, h, i⟩, fun ⟨a, b, c, d, e, f, g, h, i⟩ => ⟨a, b, c, d, e, f, g, h, i⟩⟩

theorem mul_small {W K : Int} (w0 : 1 ≤ W) (w1 : W ≤ 4) (k0 : 1 ≤ K) (k1 : K ≤ 64) : 1 ≤ W * K ∧ W * K ≤ 256 := by
  obtain rfl | rfl | rfl | rfl : W = 1 ∨ W = 2 ∨ W = 3 ∨ W = 4 := by omega
  all_goals omega

set_option maxHeartbeats 400000 in
theorem within_yes (n l m : Int) (w : World) (h0 : l ≤ n) (h1 : n ≤ m) :
    Calls Tryz.prog 44 #[.int .i64 n, .int .i64 l, .int .i64 m] w fun e w' => e = .returned (.bool true) ∧ w = w' := by
  go_enter Tryz.func44, Tryz.ntmps44
  go_wp2
  go_ret
  exact ⟨rfl, rfl⟩
set_option maxHeartbeats 400000 in
theorem within_no (n l m : Int) (w : World) (h : n < l ∨ m < n) :
    Calls Tryz.prog 44 #[.int .i64 n, .int .i64 l, .int .i64 m] w fun e w' => e = .returned (.bool false) ∧ w = w' := by
  by_cases h0 : l ≤ n
  · have h1 : decide (n ≤ m) = false := by simp; omega
    go_enter Tryz.func44, Tryz.ntmps44
    go_wp2
    go_ret
    exact ⟨rfl, rfl⟩
  · have h1 : decide (l ≤ n) = false := by simpa using h0
    go_enter Tryz.func44, Tryz.ntmps44
    go_wp2
    go_ret
    exact ⟨rfl, rfl⟩

set_option maxHeartbeats 1000000 in
theorem may_yes (B P W K : Int) (w : World) (h : GeoOk B P W K) :
    Calls Tryz.prog 28 #[geoV B P W K] w fun e w' => e = .returned (.bool true) ∧ Keep (fun _ => False) w w' := by
  obtain ⟨b0, b1, p0, p1, w0, w1, k0, k1, wk⟩ := h
  obtain ⟨m0, m1⟩ := mul_small w0 w1 k0 k1
  go_enter Tryz.func28, Tryz.ntmps28
  go_wp2_with fail
  refine (within_yes _ _ _ _ b0 b1).mono ?_
  rintro e wx ⟨rfl, rfl⟩
  go_wp2_with fail
  refine (within_yes _ _ _ _ p0 p1).mono ?_
  rintro e wx ⟨rfl, rfl⟩
  go_wp2_with fail
  refine (within_yes _ _ _ _ w0 w1).mono ?_
  rintro e wx ⟨rfl, rfl⟩
  go_wp2_with fail
  refine (within_yes _ _ _ _ k0 k1).mono ?_
  rintro e wx ⟨rfl, rfl⟩
  go_wp2_with fail
  go_ret
  exact ⟨rfl, (Keep.refl _ w).alloc _⟩

set_option maxHeartbeats 1000000 in
theorem may_no (B P W K : Int) (w : World) (h : ¬ GeoOk B P W K) :
    Calls Tryz.prog 28 #[geoV B P W K] w fun e w' => e = .returned (.bool false) ∧ Keep (fun _ => False) w w' := by
  by_cases hB : 4 ≤ B ∧ B ≤ 64
  · obtain ⟨b0, b1⟩ := hB
    by_cases hP : 2 ≤ P ∧ P ≤ 32
    · obtain ⟨p0, p1⟩ := hP
      by_cases hW : 1 ≤ W ∧ W ≤ 4
      · obtain ⟨w0, w1⟩ := hW
        by_cases hK : 1 ≤ K ∧ K ≤ 64
        · obtain ⟨k0, k1⟩ := hK
          obtain ⟨m0, m1⟩ := mul_small w0 w1 k0 k1
          have hn : ¬ 8 < W * K := fun wk => h ⟨b0, b1, p0, p1, w0, w1, k0, k1, wk⟩
          have hd : decide (8 < W * K) = false := by simpa using hn
          go_enter Tryz.func28, Tryz.ntmps28
          go_wp2_with fail
          refine (within_yes _ _ _ _ b0 b1).mono ?_
          rintro e wx ⟨rfl, rfl⟩
          go_wp2_with fail
          refine (within_yes _ _ _ _ p0 p1).mono ?_
          rintro e wx ⟨rfl, rfl⟩
          go_wp2_with fail
          refine (within_yes _ _ _ _ w0 w1).mono ?_
          rintro e wx ⟨rfl, rfl⟩
          go_wp2_with fail
          refine (within_yes _ _ _ _ k0 k1).mono ?_
          rintro e wx ⟨rfl, rfl⟩
          go_wp2_with fail
          go_ret
          exact ⟨rfl, (Keep.refl _ w).alloc _⟩
        · go_enter Tryz.func28, Tryz.ntmps28
          go_wp2_with fail
          refine (within_yes _ _ _ _ b0 b1).mono ?_
          rintro e wx ⟨rfl, rfl⟩
          go_wp2_with fail
          refine (within_yes _ _ _ _ p0 p1).mono ?_
          rintro e wx ⟨rfl, rfl⟩
          go_wp2_with fail
          refine (within_yes _ _ _ _ w0 w1).mono ?_
          rintro e wx ⟨rfl, rfl⟩
          go_wp2_with fail
          refine (within_no _ _ _ _ (by omega)).mono ?_
          rintro e wx ⟨rfl, rfl⟩
          go_wp2_with fail
          go_ret
          exact ⟨rfl, (Keep.refl _ w).alloc _⟩
      · go_enter Tryz.func28, Tryz.ntmps28
        go_wp2_with fail
        refine (within_yes _ _ _ _ b0 b1).mono ?_
        rintro e wx ⟨rfl, rfl⟩
        go_wp2_with fail
        refine (within_yes _ _ _ _ p0 p1).mono ?_
        rintro e wx ⟨rfl, rfl⟩
        go_wp2_with fail
        refine (within_no _ _ _ _ (by omega)).mono ?_
        rintro e wx ⟨rfl, rfl⟩
        go_wp2_with fail
        go_ret
        exact ⟨rfl, (Keep.refl _ w).alloc _⟩
    · go_enter Tryz.func28, Tryz.ntmps28
      go_wp2_with fail
      refine (within_yes _ _ _ _ b0 b1).mono ?_
      rintro e wx ⟨rfl, rfl⟩
      go_wp2_with fail
      refine (within_no _ _ _ _ (by omega)).mono ?_
      rintro e wx ⟨rfl, rfl⟩
      go_wp2_with fail
      go_ret
      exact ⟨rfl, (Keep.refl _ w).alloc _⟩
  · go_enter Tryz.func28, Tryz.ntmps28
    go_wp2_with fail
    refine (within_no _ _ _ _ (by omega)).mono ?_
    rintro e wx ⟨rfl, rfl⟩
    go_wp2_with fail
    go_ret
    exact ⟨rfl, (Keep.refl _ w).alloc _⟩
end Go.Proofs.YtdjgjffgheocfaaGreat

namespace Go.Proofs.YtdjgjffgheocfaaGreat
open Go.RowKit

theorem mul_cells {W K : Int} (w0 : 1 ≤ W) (w1 : W ≤ 4) (k0 : 1 ≤ K) (k1 : K ≤ 64) : 17 ≤ W * (K + 16) ∧ W * (K + 16) ≤ 320 := by
  obtain rfl | rfl | rfl | rfl : W = 1 ∨ W = 2 ∨ W = 3 ∨ W = 4 := by omega
  all_goals omega

set_option maxHeartbeats 1000000 in
theorem cells_any (B P W K : Int) (w : World) (h : GeoOk B P W K) :
    Calls Tryz.prog 30 #[geoV B P W K] w fun e w' => e = .returned (.int .i64 (W * (K + 16))) ∧ Keep (fun _ => False) w w' := by
  obtain ⟨m0, m1⟩ := mul_cells h.w0 h.w1 h.k0 h.k1
  have k0 := h.k0
  have k1 := h.k1
  go_enter Tryz.func30, Tryz.ntmps30
  go_wp2_with fail
  refine (may_yes _ _ _ _ _ h).mono ?_
  rintro e wx ⟨rfl, k⟩
  have hb := (Blk.new w 42 #[.int .i64 B, .int .i64 P, .int .i64 W, .int .i64 K]).keep k (by simp)
  have c0 : wx.cell? ⟨w.heap.size, 2, none⟩ = some (.int .i64 W) := by rw [hb.cell]; rfl
  have c1 : wx.cell? ⟨w.heap.size, 3, none⟩ = some (.int .i64 K) := by rw [hb.cell]; rfl
  have kk := ((Keep.refl (fun _ => False) w).alloc (.cells #[.int .i64 B, .int .i64 P, .int .i64 W, .int .i64 K] 42)).trans k (fun i hi => .inl hi)
  clear hb
  go_wp2_with fail
  go_ret
  exact ⟨rfl, kk⟩

end Go.Proofs.YtdjgjffgheocfaaGreat

namespace Go.Proofs.YtdjgjffgheocfaaGreat
open Go.RowKit

end Go.Proofs.YtdjgjffgheocfaaGreat

namespace Go.Proofs.YtdjgjffgheocfaaGreat
open Go.RowKit

set_option maxHeartbeats 1000000 in
theorem bytes_any (n : Nat) (hn : n ≤ 1000000) (w : World) :
    Calls Tryz.prog 38 #[.int .i64 n] w fun e w' => e = .returned (.int .i64 (n * 10 / 8 : Nat)) ∧ w = w' := by
  have hd : ((n : Int) * 10).tdiv 8 = ((n * 10 / 8 : Nat) : Int) := by
    rw [Int.tdiv_eq_ediv_of_nonneg (by omega)]
    omega
  have h1 : ¬ (n : Int) < 0 := by omega
  go_enter Tryz.func38, Tryz.ntmps38
  go_wp2_with fail
  refine (?_ : Calls Tryz.prog 68 #[.int .i64 n] w fun e w' => e = .returned (.int .i64 n) ∧ w = w').mono ?_
  · clear hd
    go_enter Tryz.func68, Tryz.ntmps68
    go_wp2_with fail
    go_ret
    exact ⟨by go_num, rfl⟩
  rintro e w1 ⟨rfl, rfl⟩
  go_wp2_with fail
  go_ret
  exact ⟨rfl, rfl⟩
/-- How many bytes a page bears. -/
def szB (W K : Nat) : Nat := (W * K - 8) * 10 / 8
theorem geo_nat {B P : Int} {W K : Nat} (h : GeoOk B P W K) : 1 ≤ W ∧ W ≤ 4 ∧ 1 ≤ K ∧ K ≤ 64 ∧ 8 < W * K ∧ W * K ≤ 256 := by
  have := h.w0; have := h.w1; have := h.k0; have := h.k1; have := h.wk
  have h1 : W * K ≤ 4 * 64 := Nat.mul_le_mul (by omega) (by omega)
  have h2 : ((W * K : Nat) : Int) = (W : Int) * (K : Int) := Int.natCast_mul W K
  omega
set_option maxRecDepth 100000 in
set_option maxHeartbeats 1000000 in
theorem size_any (B P : Int) (W K : Nat) (w : World) (h : GeoOk B P W K) :
    Calls Tryz.prog 17 #[geoV B P W K] w fun e w' => e = .returned (.int .i64 (szB W K : Nat)) ∧ Keep (fun _ => False) w w' := by
  obtain ⟨_, _, _, _, w1, w2⟩ := geo_nat h
  have hm : (W : Int) * (K : Int) = ((W * K : Nat) : Int) := (Int.natCast_mul W K).symm
  have hs : ((W * K : Nat) : Int) - 8 = ((W * K - 8 : Nat) : Int) := by omega
  have hb : ∀ w, Calls Tryz.prog 38 #[.int .i64 (W * K - 8 : Nat)] w fun e w' => e = .returned (.int .i64 (szB W K : Nat)) ∧ w = w' := fun w => bytes_any (W * K - 8) (by omega) w
  generalize szB W K = z at *
  go_enter Tryz.func17, Tryz.ntmps17
  go_wp2_with fail
  refine (may_yes _ _ _ _ _ h).mono ?_
  rintro e wx ⟨rfl, k⟩
  have hblk := (Blk.new w 42 #[.int .i64 B, .int .i64 P, .int .i64 W, .int .i64 K]).keep k (by simp)
  have c0 : wx.cell? ⟨w.heap.size, 2, none⟩ = some (.int .i64 W) := by rw [hblk.cell]; rfl
  have c1 : wx.cell? ⟨w.heap.size, 3, none⟩ = some (.int .i64 K) := by rw [hblk.cell]; rfl
  have kk := ((Keep.refl (fun _ => False) w).alloc (.cells #[.int .i64 B, .int .i64 P, .int .i64 W, .int .i64 K] 42)).trans k (fun i hi => .inl hi)
  clear hblk
  generalize W * K - 8 = n at *
  generalize W * K = m at *
  go_wp2_with fail
  refine (hb _).mono ?_
  rintro e w2 ⟨rfl, rfl⟩
  go_wp2_with fail
  go_ret
  exact ⟨rfl, kk⟩
theorem geo_cells {w : World} {g : Nat} {B P W K : Int} (b : Blk w g 42 #[.int .i64 B, .int .i64 P, .int .i64 W, .int .i64 K]) :
    w.cell? ⟨g, 0, none⟩ = some (.int .i64 B) ∧ w.cell? ⟨g, 1, none⟩ = some (.int .i64 P) ∧ w.cell? ⟨g, 2, none⟩ = some (.int .i64 W) ∧ w.cell? ⟨g, 3, none⟩ = some (.int .i64 K) :=
  ⟨by rw [b.cell]; rfl, by rw [b.cell]; rfl, by rw [b.cell]; rfl, by rw [b.cell]; rfl⟩
theorem tabs_cells {w : World} {g : Nat} {u v : Value} (b : Blk w g 82 #[u, v]) : w.cell? ⟨g, 0, none⟩ = some u ∧ w.cell? ⟨g, 1, none⟩ = some v := ⟨by rw [b.cell]; rfl, by rw [b.cell]; rfl⟩
end Go.Proofs.YtdjgjffgheocfaaGreat

namespace Go.Proofs.YtdjgjffgheocfaaGreat
open Go.RowKit

theorem mul_count {B P : Int} (b0 : 4 ≤ B) (b1 : B ≤ 64) (p0 : 2 ≤ P) (p1 : P ≤ 32) : 8 ≤ B * P ∧ B * P ≤ 2048 := by
  have h1 : 4 * 2 ≤ B * P := Int.mul_le_mul b0 p0 (by omega) (by omega)
  have h2 : B * P ≤ 64 * 32 := Int.mul_le_mul b1 p1 (by omega) (by omega)
  omega
set_option maxHeartbeats 1000000 in
theorem count_any (B P W K : Int) (w : World) (h : GeoOk B P W K) :
    Calls Tryz.prog 48 #[geoV B P W K] w fun e w' => e = .returned (.int .i64 (B * P)) ∧ Keep (fun _ => False) w w' := by
  obtain ⟨m0, m1⟩ := mul_count h.b0 h.b1 h.p0 h.p1
  go_enter Tryz.func48, Tryz.ntmps48
  go_wp2_with fail
  refine (may_yes _ _ _ _ _ h).mono ?_
  rintro e wx ⟨rfl, k⟩
  have hb := (Blk.new w 42 #[.int .i64 B, .int .i64 P, .int .i64 W, .int .i64 K]).keep k (by simp)
  have c0 : wx.cell? ⟨w.heap.size, 0, none⟩ = some (.int .i64 B) := by rw [hb.cell]; rfl
  have c1 : wx.cell? ⟨w.heap.size, 1, none⟩ = some (.int .i64 P) := by rw [hb.cell]; rfl
  have kk := ((Keep.refl (fun _ => False) w).alloc (.cells #[.int .i64 B, .int .i64 P, .int .i64 W, .int .i64 K] 42)).trans k (fun i hi => .inl hi)
  clear hb
  go_wp2_with fail
  go_ret
  exact ⟨rfl, kk⟩

set_option maxHeartbeats 1000000 in
theorem number_any (B P W K b p : Int) (w : World) (h : GeoOk B P W K) (hb0 : 0 ≤ b) (hb1 : b < B) (hp0 : 0 ≤ p) (hp1 : p < P) (h2 : b * P + p < 2048) (h1 : 0 ≤ b * P) :
    Calls Tryz.prog 106 #[geoV B P W K, .int .i64 b, .int .i64 p] w fun e w' => e = .returned (.tuple #[.int .i64 (b * P + p), .bool true]) ∧ Keep (fun _ => False) w w' := by
  go_enter Tryz.func106, Tryz.ntmps106
  go_wp2_with fail
  refine (may_yes _ _ _ _ _ h).mono ?_
  rintro e wx ⟨rfl, k⟩
  have hb := (Blk.new w 42 #[.int .i64 B, .int .i64 P, .int .i64 W, .int .i64 K]).keep k (by simp)
  have c0 : wx.cell? ⟨w.heap.size, 0, none⟩ = some (.int .i64 B) := by rw [hb.cell]; rfl
  have c1 : wx.cell? ⟨w.heap.size, 1, none⟩ = some (.int .i64 P) := by rw [hb.cell]; rfl
  have kk := ((Keep.refl (fun _ => False) w).alloc (.cells #[.int .i64 B, .int .i64 P, .int .i64 W, .int .i64 K] 42)).trans k (fun i hi => .inl hi)
  clear hb
  have d0 : decide (b < 0) = false := by simpa using hb0
  have d1 : decide (B ≤ b) = false := by simpa using hb1
  have d2 : decide (p < 0) = false := by simpa using hp0
  have d3 : decide (P ≤ p) = false := by simpa using hp1
  go_wp2_with fail
  go_ret2
  exact ⟨rfl, kk⟩

set_option maxHeartbeats 1000000 in
theorem place_any (B P W K n : Int) (w : World) (h : GeoOk B P W K) (h0 : 0 ≤ n) (h1 : n < B * P) :
    Calls Tryz.prog 112 #[geoV B P W K, .int .i64 n] w fun e w' => e = .returned (.tuple #[.int .i64 (n / P), .int .i64 (n % P), .bool true]) ∧ Keep (fun _ => False) w w' := by
  have p0 := h.p0
  obtain ⟨m0, m1⟩ := mul_count h.b0 h.b1 h.p0 h.p1
  go_enter Tryz.func112, Tryz.ntmps112
  have d0 : decide (n < 0) = false := by simpa using h0
  go_wp2_with fail
  refine (count_any _ _ _ _ _ h).mono ?_
  rintro e wx ⟨rfl, k⟩
  have hb := (Blk.new w 42 #[.int .i64 B, .int .i64 P, .int .i64 W, .int .i64 K]).keep k (by simp)
  have c1 : wx.cell? ⟨w.heap.size, 1, none⟩ = some (.int .i64 P) := by rw [hb.cell]; rfl
  have kk := ((Keep.refl (fun _ => False) w).alloc (.cells #[.int .i64 B, .int .i64 P, .int .i64 W, .int .i64 K] 42)).trans k (fun i hi => .inl hi)
  clear hb
  have d1 : decide (B * P ≤ n) = false := by simpa using h1
  have hP0 : ¬ P = 0 := by omega
  have hP1 : ¬ P = -1 := by omega
  go_wp2_with fail
  go_quiet (fail)
  go_wp2_with fail
  go_ret3
  exact ⟨rfl, kk.drewN _⟩

/-- The page that a count stands on. -/
theorem page_facts {B P N q : Int} (hN : B * P = N) (p0 : 0 < P) (h0 : 0 ≤ q) (h1 : q < N) : 0 ≤ q / P ∧ q / P < B ∧ 0 ≤ q % P ∧ q % P < P ∧ q / P * P + q % P = q ∧ 0 ≤ q / P * P := by
  have a0 : 0 ≤ q / P := Int.ediv_nonneg h0 (by omega)
  refine ⟨a0, Int.ediv_lt_of_lt_mul p0 (by rw [hN]; exact h1), Int.emod_nonneg _ (by omega), Int.emod_lt_of_pos _ p0, ?_, Int.mul_nonneg a0 (by omega)⟩
  rw [Int.mul_comm]
  exact Int.mul_ediv_add_emod q P

end Go.Proofs.YtdjgjffgheocfaaGreat
