/- blackboardlaw23.awake. -/
import Derived.Test.YtaepllaipdacjaaCalm2
namespace Go.Proofs.Ytaepllaipdacjaa
open Go.RowKit

def evL (l : List (Int × Int × Int)) (i : Nat) : Int × Int × Int := l.getD i (0, 0, 0)
def evD (l : List (Int × Int × Int)) (i : Nat) : Int := (evL l i).1
def evG (l : List (Int × Int × Int)) (i : Nat) : Int := (evL l i).2.1
def evC (l : List (Int × Int × Int)) (i : Nat) : Int := (evL l i).2.2
def awakeL : List (Int × Int × Int) := [(6, 0, 0), (5, 0, 0), (6, 0, 0), (6, 0, 1)]
theorem geo_awake : GeoOk 4 2 1 9 := by decide
theorem awake_worst : (rateAt 8 1 25 (evD awakeL) (evG awakeL) (evC awakeL) 4).worst = 2 := by decide +kernel

set_option maxRecDepth 100000 in
set_option maxHeartbeats 1000000 in
theorem awake_true (w : World) : Calls Try.prog 5 #[] w fun e w' => e = .returned (.bool true) ∧ Keep (fun _ => False) w w' := by
  go_enter Try.func5, Try.ntmps5
  go_wp2_with fail
  have bg := (Blk.new w 24 #[.int .i64 4, .int .i64 2, .int .i64 1, .int .i64 9]).alloc (.cells #[.int .i64 6, .int .i64 0, .int .i64 0, .int .i64 0, .complex .f64 4611686018427387904 0, .slice none 0 0, .int .i64 5, .int .i64 0, .int .i64 0, .int .i64 0, .complex .f64 0 0, .slice none 0 0, .int .i64 6, .int .i64 0, .int .i64 0, .int .i64 0, .complex .f64 4611686018427387904 0, .slice none 0 0, .int .i64 6, .int .i64 0, .int .i64 0, .int .i64 1, .complex .f64 4611686018427387904 0, .slice none 0 0] 28)
  have k0 := ((Keep.refl (fun _ => False) w).alloc (.cells #[.int .i64 4, .int .i64 2, .int .i64 1, .int .i64 9] 24)).alloc (.cells #[.int .i64 6, .int .i64 0, .int .i64 0, .int .i64 0, .complex .f64 4611686018427387904 0, .slice none 0 0, .int .i64 5, .int .i64 0, .int .i64 0, .int .i64 0, .complex .f64 0 0, .slice none 0 0, .int .i64 6, .int .i64 0, .int .i64 0, .int .i64 0, .complex .f64 4611686018427387904 0, .slice none 0 0, .int .i64 6, .int .i64 0, .int .i64 0, .int .i64 1, .complex .f64 4611686018427387904 0, .slice none 0 0] 28)
  have bb := Blk.new (w.alloc (.cells #[.int .i64 4, .int .i64 2, .int .i64 1, .int .i64 9] 24)) 28 #[.int .i64 6, .int .i64 0, .int .i64 0, .int .i64 0, .complex .f64 4611686018427387904 0, .slice none 0 0, .int .i64 5, .int .i64 0, .int .i64 0, .int .i64 0, .complex .f64 0 0, .slice none 0 0, .int .i64 6, .int .i64 0, .int .i64 0, .int .i64 0, .complex .f64 4611686018427387904 0, .slice none 0 0, .int .i64 6, .int .i64 0, .int .i64 0, .int .i64 1, .complex .f64 4611686018427387904 0, .slice none 0 0]
  have hs : (w.alloc (.cells #[.int .i64 4, .int .i64 2, .int .i64 1, .int .i64 9] 24)).heap.size = w.heap.size + 1 := by simp
  rw [hs] at bb
  clear hs
  generalize (w.alloc (.cells #[.int .i64 4, .int .i64 2, .int .i64 1, .int .i64 9] 24)).alloc (.cells #[.int .i64 6, .int .i64 0, .int .i64 0, .int .i64 0, .complex .f64 4611686018427387904 0, .slice none 0 0, .int .i64 5, .int .i64 0, .int .i64 0, .int .i64 0, .complex .f64 0 0, .slice none 0 0, .int .i64 6, .int .i64 0, .int .i64 0, .int .i64 0, .complex .f64 4611686018427387904 0, .slice none 0 0, .int .i64 6, .int .i64 0, .int .i64 0, .int .i64 1, .complex .f64 4611686018427387904 0, .slice none 0 0] 28) = w0 at bg k0 bb ⊢
  have ae : ArgEvents w0 (some ⟨w.heap.size + 1, 0, none⟩) 4 (evD awakeL) (evG awakeL) (evC awakeL) := by
    refine ⟨fun _ => ⟨_, 0, rfl, bb.lt, fun i hi => ?_⟩, by unfold maxLen; omega⟩
    obtain rfl | rfl | rfl | rfl : i = 0 ∨ i = 1 ∨ i = 2 ∨ i = 3 := by omega
    all_goals exact ⟨_, _, _, _, _, _, by rw [bb.cell]; rfl, by rw [bb.cell]; rfl, by rw [bb.cell]; rfl, by rw [bb.cell]; rfl, by rw [bb.cell]; rfl, by rw [bb.cell]; rfl⟩
  clear bb
  refine (worst_any w0 4 2 1 9 geo_awake 8 1 25 (by decide) (by decide) (by decide) _ 4 4 _ _ _ ae).mono ?_
  rintro e w1 ⟨rfl, k1⟩
  rw [awake_worst]
  have bg1 := bg.keep k1 (by simp)
  have a0 : w1.cell? ⟨w.heap.size, 0, none⟩ = some (.int .i64 4) := by rw [bg1.cell]; rfl
  have a1 : w1.cell? ⟨w.heap.size, 1, none⟩ = some (.int .i64 2) := by rw [bg1.cell]; rfl
  have a2 : w1.cell? ⟨w.heap.size, 2, none⟩ = some (.int .i64 1) := by rw [bg1.cell]; rfl
  have a3 : w1.cell? ⟨w.heap.size, 3, none⟩ = some (.int .i64 9) := by rw [bg1.cell]; rfl
  go_wp2_with fail
  refine (calm_yes w1 4 2 1 9 geo_awake 8 1 25 (by decide) (by decide) (by decide) _ 4 4 _ _ _ (ae.keep k1) 2 (by rw [awake_worst]; decide) (by decide)).mono ?_
  rintro e w2 ⟨rfl, k2⟩
  have bg2 := bg1.keep k2 (by simp)
  clear a0 a1 a2 a3
  have a0 : w2.cell? ⟨w.heap.size, 0, none⟩ = some (.int .i64 4) := by rw [bg2.cell]; rfl
  have a1 : w2.cell? ⟨w.heap.size, 1, none⟩ = some (.int .i64 2) := by rw [bg2.cell]; rfl
  have a2 : w2.cell? ⟨w.heap.size, 2, none⟩ = some (.int .i64 1) := by rw [bg2.cell]; rfl
  have a3 : w2.cell? ⟨w.heap.size, 3, none⟩ = some (.int .i64 9) := by rw [bg2.cell]; rfl
  go_wp2_with fail
  refine (calm_big w2 4 2 1 9 geo_awake 8 1 25 (by decide) (by decide) (by decide) _ 4 4 _ _ _ ((ae.keep k1).keep k2) 1 (by rw [awake_worst]; decide)).mono ?_
  rintro e w3 ⟨rfl, k3⟩
  go_wp2_with fail
  go_ret
  exact ⟨rfl, ((k0.trans k1 (fun _ hi => .inl hi)).trans k2 (fun _ hi => .inl hi)).trans k3 (fun _ hi => .inl hi)⟩
end Go.Proofs.Ytaepllaipdacjaa
