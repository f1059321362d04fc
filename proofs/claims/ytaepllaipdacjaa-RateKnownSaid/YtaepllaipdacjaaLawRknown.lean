/- The walk of blackboardlaw23.RateKnown. -/
import Derived.Test.YtaepllaipdacjaaKnown1
import Derived.Test.YtaepllaipdacjaaKeptTail
import Derived.Deep.RegionHeld3
import Derived.Deep.AppendLies
namespace Go.Proofs.Ytaepllaipdacjaa
open Go.RowKit
attribute [local go_sem] run_store_complex

def rkA : List (Int × Int × Int) := [(6, 0, 0), (6, 0, 1), (6, 0, 2), (6, 0, 49), (6, 0, 50), (6, 0, -1), (6, 8, 0)]
def rkB : List (Int × Int × Int) := [(6, 1, 0), (5, 0, 0), (6, 1, 0), (5, 0, 0), (6, 1, 0), (6, 1, 0)]
theorem Keep.comp {w w1 w2 : World} (h : Keep (fun _ => False) w w1) (k : Keep (fun _ => False) w1 w2) : Keep (fun _ => False) w w2 := h.trans k (fun _ hi => .inl hi)
theorem geo_rk : GeoOk 4 2 2 9 := by decide
theorem rkA_worst : (rateAt 8 2 50 (evD rkA) (evG rkA) (evC rkA) 7).worst = 2 := by decide +kernel
theorem rkB_worst : (rateAt 8 2 50 (evD rkB) (evG rkB) (evC rkB) 6).worst = 2 := by decide +kernel
theorem ownsRow_keep {w w' : World} {base : Nat} {e : TypeId} {size : Nat} {v : Value} {n : Nat} {xs : List Value} (h : w.ownsRow base e size v n xs) (k : Keep (fun _ => False) w w') : w'.ownsRow base e size v n xs := by
  obtain ⟨h1, h2⟩ := h
  refine ⟨h1, ?_⟩
  rcases h2 with h2 | ⟨g, cap, cur, e1, e2, e3, e4⟩
  · exact .inl h2
  · have hb : Blk w g e cur := e3
    exact .inr ⟨g, cap, cur, e1, e2, hb.keep k (by simp), e4⟩
def dtL : List Value := [.int .i64 6, .int .i64 0, .int .i64 0, .int .i64 0, .complex .f64 4611686018427387904 0, .slice none 0 0, .int .i64 5, .int .i64 0, .int .i64 0, .int .i64 0, .complex .f64 0 0, .slice none 0 0]
theorem tick_cells {w : World} {g : Nat} (b : Blk w g 28 #[.int .i64 5, .int .i64 0, .int .i64 0, .int .i64 0, .complex .f64 0 0, .slice none 0 0]) :
    w.cell? ⟨g, 0, none⟩ = some (.int .i64 5) ∧ w.cell? ⟨g, 1, none⟩ = some (.int .i64 0) ∧ w.cell? ⟨g, 2, none⟩ = some (.int .i64 0) ∧ w.cell? ⟨g, 3, none⟩ = some (.int .i64 0) ∧ w.cell? ⟨g, 4, none⟩ = some (.complex .f64 0 0) ∧ w.cell? ⟨g, 5, none⟩ = some (.slice none 0 0) :=
  ⟨by rw [b.cell]; rfl, by rw [b.cell]; rfl, by rw [b.cell]; rfl, by rw [b.cell]; rfl, by rw [b.cell]; rfl, by rw [b.cell]; rfl⟩
theorem dtL_one : ∀ u ∈ dtL, u.oneCell' = true := by
  intro u hu
  simp only [dtL, List.mem_cons, List.not_mem_nil, or_false] at hu
  rcases hu with rfl | rfl | rfl | rfl | rfl | rfl | rfl | rfl | rfl | rfl | rfl | rfl <;> rfl
def dL : List Value := [.int .i64 6, .int .i64 0, .int .i64 0, .int .i64 0, .complex .f64 4611686018427387904 0, .slice none 0 0]
def tL : List Value := [.int .i64 5, .int .i64 0, .int .i64 0, .int .i64 0, .complex .f64 0 0, .slice none 0 0]
def cC : Nat → List Value
  | 0 => []
  | k + 1 => cC k ++ dtL
theorem cC_len (k : Nat) : (cC k).length = 2 * k * 6 := by
  induction k with
  | zero => rfl
  | succ k ih => simp only [cC, List.length_append, ih]; show _ + 12 = _; omega
theorem cC_get : ∀ k i r, i < 2 * k → r < 6 → (cC k)[i * 6 + r]? = (if i % 2 = 0 then dL else tL)[r]? := by
  intro k
  induction k with
  | zero => intro i r hi; omega
  | succ k ih =>
    intro i r hi hr
    have hl := cC_len k
    by_cases h : i < 2 * k
    · rw [cC, List.getElem?_append_left (by omega)]
      exact ih i r h hr
    · rw [cC, List.getElem?_append_right (by omega), hl]
      rcases (show i = 2 * k ∨ i = 2 * k + 1 by omega) with rfl | rfl
      · rw [show 2 * k * 6 + r - 2 * k * 6 = r by omega, if_pos (by omega)]
        obtain rfl | rfl | rfl | rfl | rfl | rfl : r = 0 ∨ r = 1 ∨ r = 2 ∨ r = 3 ∨ r = 4 ∨ r = 5 := by omega
        all_goals rfl
      · rw [show (2 * k + 1) * 6 + r - 2 * k * 6 = 6 + r by omega, if_neg (by omega)]
        obtain rfl | rfl | rfl | rfl | rfl | rfl : r = 0 ∨ r = 1 ∨ r = 2 ∨ r = 3 ∨ r = 4 ∨ r = 5 := by omega
        all_goals rfl
def rkD (i : Nat) : Int := if i % 2 = 0 then 6 else 5
theorem cC_events {w : World} {base g cap : Nat} {e : TypeId} (h : w.ownsRow base e 6 (.slice (some ⟨g, 0, none⟩) 18 cap) 18 (cC 9)) (hg : g < w.heap.size) : ArgEvents w (some ⟨g, 0, none⟩) 18 rkD (fun _ => 0) (fun _ => 0) := by
  refine ⟨fun _ => ⟨g, 0, rfl, hg, fun i hi => ?_⟩, by unfold maxLen; omega⟩
  have hc : ∀ r, r < 6 → w.cell? ⟨g, 0 + i * 6 + r, none⟩ = (if i % 2 = 0 then dL else tL)[r]? := by
    intro r hr
    rw [Nat.zero_add, h.cellAt _ (by omega), cC_get 9 i r (by omega) hr]
  by_cases e : i % 2 = 0
  · simp only [e, if_true] at hc
    simp only [rkD, e, if_true]
    exact ⟨_, _, _, _, _, _, hc 0 (by omega), hc 1 (by omega), hc 2 (by omega), hc 3 (by omega), hc 4 (by omega), hc 5 (by omega)⟩
  · simp only [e, if_false] at hc
    simp only [rkD, e, if_false]
    exact ⟨_, _, _, _, _, _, hc 0 (by omega), hc 1 (by omega), hc 2 (by omega), hc 3 (by omega), hc 4 (by omega), hc 5 (by omega)⟩
theorem nil_events (w : World) : ArgEvents w none 0 (fun _ => 0) (fun _ => 0) (fun _ => 0) := ⟨fun h => by omega, by omega⟩
theorem rkN_worst : (rateAt 8 2 50 (fun _ => 0) (fun _ => 0) (fun _ => 0) 0).worst = 0 := rfl
theorem rkR_worst : (rateAt 8 2 50 (fun _ => 7) (fun _ => 0) (fun _ => 0) 1).worst = 0 := by decide +kernel
theorem rkC_worst : (rateAt 8 2 50 rkD (fun _ => 0) (fun _ => 0) 18).worst = 8 := by decide +kernel

set_option maxRecDepth 100000 in
set_option maxHeartbeats 4000000 in
theorem rknown_true (w : World) : Calls Try.prog 3 #[] w fun e w' => e = .returned (.bool true) ∧ Keep (fun _ => False) w w' := by
  go_enter Try.func3, Try.ntmps3
  go_wp2_with fail
  refine (awake_true _).mono ?_
  rintro e w1 ⟨rfl, k1⟩
  have bg := (Blk.new w1 24 #[.int .i64 4, .int .i64 2, .int .i64 2, .int .i64 9]).alloc (.cells #[.int .i64 5, .int .i64 0, .int .i64 0, .int .i64 0, .complex .f64 0 0, .slice none 0 0] 28)
  have bt := Blk.new (w1.alloc (.cells #[.int .i64 4, .int .i64 2, .int .i64 2, .int .i64 9] 24)) 28 #[.int .i64 5, .int .i64 0, .int .i64 0, .int .i64 0, .complex .f64 0 0, .slice none 0 0]
  have hs : (w1.alloc (.cells #[.int .i64 4, .int .i64 2, .int .i64 2, .int .i64 9] 24)).heap.size = w1.heap.size + 1 := by simp
  rw [hs] at bt
  have k0 := (k1.alloc (.cells #[.int .i64 4, .int .i64 2, .int .i64 2, .int .i64 9] 24)).alloc (.cells #[.int .i64 5, .int .i64 0, .int .i64 0, .int .i64 0, .complex .f64 0 0, .slice none 0 0] 28)
  clear hs k1
  go_wp2_with fail
  generalize (w1.alloc (.cells #[.int .i64 4, .int .i64 2, .int .i64 2, .int .i64 9] 24)).alloc (.cells #[.int .i64 5, .int .i64 0, .int .i64 0, .int .i64 0, .complex .f64 0 0, .slice none 0 0] 28) = w0 at *
  generalize w1.heap.size = gg at *
  refine (drift_any _ _ _).mono ?_
  rintro e w2 ⟨rfl, k2⟩
  go_wp2_with fail
  refine (drift_any _ _ _).mono ?_
  rintro e w3 ⟨rfl, k3⟩
  go_wp2_with fail
  refine (drift_any _ _ _).mono ?_
  rintro e w4 ⟨rfl, k4⟩
  go_wp2_with fail
  refine (drift_any _ _ _).mono ?_
  rintro e w5 ⟨rfl, k5⟩
  go_wp2_with fail
  refine (drift_any _ _ _).mono ?_
  rintro e w6 ⟨rfl, k6⟩
  go_wp2_with fail
  refine (drift_any _ _ _).mono ?_
  rintro e w7 ⟨rfl, k7⟩
  go_wp2_with fail
  refine (drift_any _ _ _).mono ?_
  rintro e w8 ⟨rfl, k8⟩
  go_wp2_with fail
  have kk := k2.comp (k3.comp (k4.comp (k5.comp (k6.comp (k7.comp k8)))))
  clear k2 k3 k4 k5 k6 k7 k8
  have kA := kk.alloc (.cells #[.int .i64 6, .int .i64 0, .int .i64 0, .int .i64 0, .complex .f64 4611686018427387904 0, .slice none 0 0, .int .i64 6, .int .i64 0, .int .i64 0, .int .i64 1, .complex .f64 4611686018427387904 0, .slice none 0 0, .int .i64 6, .int .i64 0, .int .i64 0, .int .i64 2, .complex .f64 4611686018427387904 0, .slice none 0 0, .int .i64 6, .int .i64 0, .int .i64 0, .int .i64 49, .complex .f64 4611686018427387904 0, .slice none 0 0, .int .i64 6, .int .i64 0, .int .i64 0, .int .i64 50, .complex .f64 4611686018427387904 0, .slice none 0 0, .int .i64 6, .int .i64 0, .int .i64 0, .int .i64 (-1), .complex .f64 4611686018427387904 0, .slice none 0 0, .int .i64 6, .int .i64 0, .int .i64 8, .int .i64 0, .complex .f64 4611686018427387904 0, .slice none 0 0] 28)
  have bA := Blk.new w8 28 #[.int .i64 6, .int .i64 0, .int .i64 0, .int .i64 0, .complex .f64 4611686018427387904 0, .slice none 0 0, .int .i64 6, .int .i64 0, .int .i64 0, .int .i64 1, .complex .f64 4611686018427387904 0, .slice none 0 0, .int .i64 6, .int .i64 0, .int .i64 0, .int .i64 2, .complex .f64 4611686018427387904 0, .slice none 0 0, .int .i64 6, .int .i64 0, .int .i64 0, .int .i64 49, .complex .f64 4611686018427387904 0, .slice none 0 0, .int .i64 6, .int .i64 0, .int .i64 0, .int .i64 50, .complex .f64 4611686018427387904 0, .slice none 0 0, .int .i64 6, .int .i64 0, .int .i64 0, .int .i64 (-1), .complex .f64 4611686018427387904 0, .slice none 0 0, .int .i64 6, .int .i64 0, .int .i64 8, .int .i64 0, .complex .f64 4611686018427387904 0, .slice none 0 0]
  have bg1 := bg.keep kA (by simp)
  have bt1 := bt.keep kA (by simp)
  have K1 := k0.comp kA
  clear kk bg bt k0 kA
  generalize w8.alloc (.cells #[.int .i64 6, .int .i64 0, .int .i64 0, .int .i64 0, .complex .f64 4611686018427387904 0, .slice none 0 0, .int .i64 6, .int .i64 0, .int .i64 0, .int .i64 1, .complex .f64 4611686018427387904 0, .slice none 0 0, .int .i64 6, .int .i64 0, .int .i64 0, .int .i64 2, .complex .f64 4611686018427387904 0, .slice none 0 0, .int .i64 6, .int .i64 0, .int .i64 0, .int .i64 49, .complex .f64 4611686018427387904 0, .slice none 0 0, .int .i64 6, .int .i64 0, .int .i64 0, .int .i64 50, .complex .f64 4611686018427387904 0, .slice none 0 0, .int .i64 6, .int .i64 0, .int .i64 0, .int .i64 (-1), .complex .f64 4611686018427387904 0, .slice none 0 0, .int .i64 6, .int .i64 0, .int .i64 8, .int .i64 0, .complex .f64 4611686018427387904 0, .slice none 0 0] 28) = W at *
  generalize w8.heap.size = gA at *
  have c0 : ∀ z : KeptBy W, z.v.cell? ⟨gg + 1, 0, none⟩ = some (.int .i64 5) := fun z => z.cell bt1.lt (by rw [bt1.cell]; rfl)
  have c1 : ∀ z : KeptBy W, z.v.cell? ⟨gg + 1, 1, none⟩ = some (.int .i64 0) := fun z => z.cell bt1.lt (by rw [bt1.cell]; rfl)
  have c2 : ∀ z : KeptBy W, z.v.cell? ⟨gg + 1, 2, none⟩ = some (.int .i64 0) := fun z => z.cell bt1.lt (by rw [bt1.cell]; rfl)
  have c3 : ∀ z : KeptBy W, z.v.cell? ⟨gg + 1, 3, none⟩ = some (.int .i64 0) := fun z => z.cell bt1.lt (by rw [bt1.cell]; rfl)
  have c4 : ∀ z : KeptBy W, z.v.cell? ⟨gg + 1, 4, none⟩ = some (.complex .f64 0 0) := fun z => z.cell bt1.lt (by rw [bt1.cell]; rfl)
  have c5 : ∀ z : KeptBy W, z.v.cell? ⟨gg + 1, 5, none⟩ = some (.slice none 0 0) := fun z => z.cell bt1.lt (by rw [bt1.cell]; rfl)
  refine wp_region_kept_tail 10 (by kernel_rfl) (by kernel_rfl) ?_
  simp only [List.take_succ_cons, List.take_zero, List.drop_succ_cons, List.drop_zero]
  repeat (quiet_step (first
    | (go_at_call 6; exact kept_of (drift_any _ _ _))))
  refine wpQuiet_nil ?_
  rintro w9 ⟨⟨_, k9⟩, rfl⟩
  clear c0 c1 c2 c3 c4 c5
  have kB := k9.alloc (.cells #[.int .i64 6, .int .i64 0, .int .i64 1, .int .i64 0, .complex .f64 4611686018427387904 0, .slice none 0 0, .int .i64 5, .int .i64 0, .int .i64 0, .int .i64 0, .complex .f64 0 0, .slice none 0 0, .int .i64 6, .int .i64 0, .int .i64 1, .int .i64 0, .complex .f64 4611686018427387904 0, .slice none 0 0, .int .i64 5, .int .i64 0, .int .i64 0, .int .i64 0, .complex .f64 0 0, .slice none 0 0, .int .i64 6, .int .i64 0, .int .i64 1, .int .i64 0, .complex .f64 4611686018427387904 0, .slice none 0 0, .int .i64 6, .int .i64 0, .int .i64 1, .int .i64 0, .complex .f64 4611686018427387904 0, .slice none 0 0] 28)
  have bB := Blk.new w9 28 #[.int .i64 6, .int .i64 0, .int .i64 1, .int .i64 0, .complex .f64 4611686018427387904 0, .slice none 0 0, .int .i64 5, .int .i64 0, .int .i64 0, .int .i64 0, .complex .f64 0 0, .slice none 0 0, .int .i64 6, .int .i64 0, .int .i64 1, .int .i64 0, .complex .f64 4611686018427387904 0, .slice none 0 0, .int .i64 5, .int .i64 0, .int .i64 0, .int .i64 0, .complex .f64 0 0, .slice none 0 0, .int .i64 6, .int .i64 0, .int .i64 1, .int .i64 0, .complex .f64 4611686018427387904 0, .slice none 0 0, .int .i64 6, .int .i64 0, .int .i64 1, .int .i64 0, .complex .f64 4611686018427387904 0, .slice none 0 0]
  have bA := bA.keep kB (by simp)
  have bg := bg1.keep kB (by simp)
  have bt := bt1.keep kB (by simp)
  have K2 := K1.comp kB
  clear bg1 bt1 K1 kB k9
  go_wp2_with fail
  generalize w9.alloc (.cells #[.int .i64 6, .int .i64 0, .int .i64 1, .int .i64 0, .complex .f64 4611686018427387904 0, .slice none 0 0, .int .i64 5, .int .i64 0, .int .i64 0, .int .i64 0, .complex .f64 0 0, .slice none 0 0, .int .i64 6, .int .i64 0, .int .i64 1, .int .i64 0, .complex .f64 4611686018427387904 0, .slice none 0 0, .int .i64 5, .int .i64 0, .int .i64 0, .int .i64 0, .complex .f64 0 0, .slice none 0 0, .int .i64 6, .int .i64 0, .int .i64 1, .int .i64 0, .complex .f64 4611686018427387904 0, .slice none 0 0, .int .i64 6, .int .i64 0, .int .i64 1, .int .i64 0, .complex .f64 4611686018427387904 0, .slice none 0 0] 28) = X at *
  generalize w9.heap.size = gB at *
  have eA : ArgEvents X (some ⟨gA, 0, none⟩) 7 (evD rkA) (evG rkA) (evC rkA) := by
    refine ⟨fun _ => ⟨_, 0, rfl, bA.lt, fun i hi => ?_⟩, by unfold maxLen; omega⟩
    obtain rfl | rfl | rfl | rfl | rfl | rfl | rfl : i = 0 ∨ i = 1 ∨ i = 2 ∨ i = 3 ∨ i = 4 ∨ i = 5 ∨ i = 6 := by omega
    all_goals exact ⟨_, _, _, _, _, _, by rw [bA.cell]; rfl, by rw [bA.cell]; rfl, by rw [bA.cell]; rfl, by rw [bA.cell]; rfl, by rw [bA.cell]; rfl, by rw [bA.cell]; rfl⟩
  have eB : ArgEvents X (some ⟨gB, 0, none⟩) 6 (evD rkB) (evG rkB) (evC rkB) := by
    refine ⟨fun _ => ⟨_, 0, rfl, bB.lt, fun i hi => ?_⟩, by unfold maxLen; omega⟩
    obtain rfl | rfl | rfl | rfl | rfl | rfl : i = 0 ∨ i = 1 ∨ i = 2 ∨ i = 3 ∨ i = 4 ∨ i = 5 := by omega
    all_goals exact ⟨_, _, _, _, _, _, by rw [bB.cell]; rfl, by rw [bB.cell]; rfl, by rw [bB.cell]; rfl, by rw [bB.cell]; rfl, by rw [bB.cell]; rfl, by rw [bB.cell]; rfl⟩
  have HA := Lib.hid eA
  have HB := Lib.hid eB
  have Hg := Lib.hid bg
  have Ht := Lib.hid bt
  have KK := Lib.hid K2
  clear eA eB bA bB bg bt K2
  obtain ⟨ie, i1, i2, i3, i4⟩ := event_parts
  go_loopw [6, 7] (fun l i wr => ∃ k : Nat, k ≤ 9 ∧ i = .int .i64 k ∧ wr.ownsRow X.heap.size 28 6 l (2 * k) (cC k) ∧ Keep (fun _ => False) X wr) (fun _ i _ => 9 - (intOf i).toNat)
  case atStart => exact ⟨0, by omega, rfl, World.ownsRow_nil _ _ _ _, Keep.refl _ _⟩
  case round =>
    obtain ⟨k, hk, rfl, hown, kr⟩ := hrel
    by_cases hkt : k < 9
    · have hkt' : (k : Int) < 9 := by omega
      have bt1 := Ht.out.keep kr (by simp)
      have kd := kr.drew
      have btd := Ht.out.keep kd (by simp)
      have ownd : wr.drew.ownsRow X.heap.size 28 6 _ (2 * k) (cC k) := hown.drew
      clear hown kr
      go_upto_region 12 with (fail)
      go_region_held3 (fun w' => w'.cell? ⟨gg + 1, 0, none⟩ = some (.int .i64 5) ∧ w'.cell? ⟨gg + 1, 1, none⟩ = some (.int .i64 0) ∧ w'.cell? ⟨gg + 1, 2, none⟩ = some (.int .i64 0) ∧ w'.cell? ⟨gg + 1, 3, none⟩ = some (.int .i64 0) ∧ w'.cell? ⟨gg + 1, 4, none⟩ = some (.complex .f64 0 0) ∧ w'.cell? ⟨gg + 1, 5, none⟩ = some (.slice none 0 0))
        (first | exact tick_cells bt7 | exact tick_cells bt6 | exact tick_cells bt5 | exact tick_cells btd | exact tick_cells bt1)
        (first
          | (have _z := bt5; refine step_append_lies _ (by rfl) _ _ _ (by rfl) X.heap.size 28 ie _ 6 72 Try.underlying30 i1 i2 i3 i4 rfl (by omega) _ (2 * k) (cC k) (by rfl) (own5.alloc _) ⟨w5.heap.size, 0, none⟩ 2 2 dtL (by rfl) (by rfl) (World.news_of_block (cs := #[.int .i64 6, .int .i64 0, .int .i64 0, .int .i64 0, .complex .f64 4611686018427387904 0, .slice none 0 0, .int .i64 5, .int .i64 0, .int .i64 0, .int .i64 0, .complex .f64 0 0, .slice none 0 0]) (t := 28) (fr := (0, 0)) (heap_alloc_new w5 _)) dtL_one (by omega) (by unfold maxLen; omega) (by omega) (by have := kr5.size; simp; omega) _ rfl ?_; intro gn cap wa hown' hgrow hat hlt; have bt7 : Blk wa (gg + 1) 28 #[.int .i64 5, .int .i64 0, .int .i64 0, .int .i64 0, .complex .f64 0 0, .slice none 0 0] := (hgrow.block (gg + 1) bt6.lt (fun e => by have := own5.lt _ e.symm; have := Ht.out.lt; omega)).trans bt6; have hk1 : Keep (fun _ => False) X wa := (kr5.alloc _).grown hgrow (fun k e => .inr (by have := own5.lt _ e; omega)))
          | (go_at_call 6; refine (drift_any _ _ _).mono ?_; rintro e w5 ⟨rfl, k5⟩; have kr5 := kd.comp k5; have own5 := ownsRow_keep ownd k5; have bt5 := btd.keep k5 (by simp); have bt6 := bt5.alloc (.cells #[.int .i64 6, .int .i64 0, .int .i64 0, .int .i64 0, .complex .f64 4611686018427387904 0, .slice none 0 0, .int .i64 5, .int .i64 0, .int .i64 0, .int .i64 0, .complex .f64 0 0, .slice none 0 0] 28)))
      have hown2 := hown'
      clear hgrow hown' own5 ownd kr5 kd k5 btd bt5 bt6 bt7 bt1 hat hlt
      go_wp2_with fail
      go_roundw
      case rel => exact ⟨k + 1, by omega, by go_num, (by rw [show 2 * (k + 1) = 2 * k + 2 by omega]; exact hown2), hk1⟩
      case measure => simp [intOf]; omega
    · obtain rfl : k = 9 := by omega
      have hown : wr.ownsRow X.heap.size 28 6 _ 18 (cC 9) := hown
      obtain ⟨g, cap', hv, hg1, hg2⟩ := hown.form (by omega)
      subst hv
      have HC := Lib.hid (cC_events hown hg2)
      clear hown hg1 hg2 hkt hk
      have K0 := kr
      have QC0 := HC
      clear kr HC
      have bg := Hg.out.keep K0 (by simp)
      have a0 : wr.cell? ⟨gg, 0, none⟩ = some (.int .i64 4) := by rw [bg.cell]; rfl
      have a1 : wr.cell? ⟨gg, 1, none⟩ = some (.int .i64 2) := by rw [bg.cell]; rfl
      have a2 : wr.cell? ⟨gg, 2, none⟩ = some (.int .i64 2) := by rw [bg.cell]; rfl
      have a3 : wr.cell? ⟨gg, 3, none⟩ = some (.int .i64 9) := by rw [bg.cell]; rfl
      clear bg
      go_wp2_with fail
      clear a0 a1 a2 a3
      refine (worst_any _ 4 2 2 9 geo_rk 8 2 50 (by decide) (by decide) (by decide) _ 7 7 _ _ _ (HA.out.keep K0)).mono ?_
      rintro e v1 ⟨rfl, q⟩
      rw [rkA_worst]
      have K1 := K0.comp q
      have QC1 := Lib.hid (QC0.out.keep q)
      clear q
      have bg := Hg.out.keep K1 (by simp)
      have a0 : v1.cell? ⟨gg, 0, none⟩ = some (.int .i64 4) := by rw [bg.cell]; rfl
      have a1 : v1.cell? ⟨gg, 1, none⟩ = some (.int .i64 2) := by rw [bg.cell]; rfl
      have a2 : v1.cell? ⟨gg, 2, none⟩ = some (.int .i64 2) := by rw [bg.cell]; rfl
      have a3 : v1.cell? ⟨gg, 3, none⟩ = some (.int .i64 9) := by rw [bg.cell]; rfl
      clear bg
      go_wp2_with fail
      clear a0 a1 a2 a3
      refine (worst_any _ 4 2 2 9 geo_rk 8 2 50 (by decide) (by decide) (by decide) _ 6 6 _ _ _ (HB.out.keep K1)).mono ?_
      rintro e v2 ⟨rfl, q⟩
      rw [rkB_worst]
      have K2 := K1.comp q
      have QC2 := Lib.hid (QC1.out.keep q)
      clear q
      have bg := Hg.out.keep K2 (by simp)
      have a0 : v2.cell? ⟨gg, 0, none⟩ = some (.int .i64 4) := by rw [bg.cell]; rfl
      have a1 : v2.cell? ⟨gg, 1, none⟩ = some (.int .i64 2) := by rw [bg.cell]; rfl
      have a2 : v2.cell? ⟨gg, 2, none⟩ = some (.int .i64 2) := by rw [bg.cell]; rfl
      have a3 : v2.cell? ⟨gg, 3, none⟩ = some (.int .i64 9) := by rw [bg.cell]; rfl
      clear bg
      go_wp2_with fail
      clear a0 a1 a2 a3
      refine (worst_any _ 4 2 2 9 geo_rk 8 2 50 (by decide) (by decide) (by decide) _ 18 cap' _ _ _ QC2.out).mono ?_
      rintro e v3 ⟨rfl, q⟩
      rw [rkC_worst]
      have K3 := K2.comp q
      clear q
      have bg := Hg.out.keep K3 (by simp)
      have a0 : v3.cell? ⟨gg, 0, none⟩ = some (.int .i64 4) := by rw [bg.cell]; rfl
      have a1 : v3.cell? ⟨gg, 1, none⟩ = some (.int .i64 2) := by rw [bg.cell]; rfl
      have a2 : v3.cell? ⟨gg, 2, none⟩ = some (.int .i64 2) := by rw [bg.cell]; rfl
      have a3 : v3.cell? ⟨gg, 3, none⟩ = some (.int .i64 9) := by rw [bg.cell]; rfl
      clear bg
      go_wp2_with fail
      clear a0 a1 a2 a3
      refine (worst_any _ 4 2 2 9 geo_rk 8 2 50 (by decide) (by decide) (by decide) none 0 0 _ _ _ (nil_events _)).mono ?_
      rintro e v4 ⟨rfl, q⟩
      rw [rkN_worst]
      have K4 := K3.comp q
      clear q
      have bg := Hg.out.keep K4 (by simp)
      have a0 : v4.cell? ⟨gg, 0, none⟩ = some (.int .i64 4) := by rw [bg.cell]; rfl
      have a1 : v4.cell? ⟨gg, 1, none⟩ = some (.int .i64 2) := by rw [bg.cell]; rfl
      have a2 : v4.cell? ⟨gg, 2, none⟩ = some (.int .i64 2) := by rw [bg.cell]; rfl
      have a3 : v4.cell? ⟨gg, 3, none⟩ = some (.int .i64 9) := by rw [bg.cell]; rfl
      clear bg
      go_wp2_with fail
      clear a0 a1 a2 a3
      refine (calm_yes _ 4 2 2 9 geo_rk 8 2 50 (by decide) (by decide) (by decide) none 0 0 _ _ _ (nil_events _) 0 (by rw [rkN_worst]; decide) (fun i hi => by omega)).mono ?_
      rintro e v5 ⟨rfl, q⟩
      have K5 := K4.comp q
      clear q
      have bg := Hg.out.keep K5 (by simp)
      have a0 : v5.cell? ⟨gg, 0, none⟩ = some (.int .i64 4) := by rw [bg.cell]; rfl
      have a1 : v5.cell? ⟨gg, 1, none⟩ = some (.int .i64 2) := by rw [bg.cell]; rfl
      have a2 : v5.cell? ⟨gg, 2, none⟩ = some (.int .i64 2) := by rw [bg.cell]; rfl
      have a3 : v5.cell? ⟨gg, 3, none⟩ = some (.int .i64 9) := by rw [bg.cell]; rfl
      clear bg
      go_wp2_with fail
      clear a0 a1 a2 a3
      refine (calm_big _ 4 2 2 9 geo_rk 8 2 50 (by decide) (by decide) (by decide) none 0 0 _ _ _ (nil_events _) (-1) (by rw [rkN_worst]; decide)).mono ?_
      rintro e v6 ⟨rfl, q⟩
      have K6 := K5.comp q
      clear q
      have kR := (Keep.refl (fun _ => False) v6).alloc (.cells #[.int .i64 7, .int .i64 0, .int .i64 0, .int .i64 0, .complex .f64 0 0, .slice none 0 0] 28)
      have bR := Blk.new v6 28 #[.int .i64 7, .int .i64 0, .int .i64 0, .int .i64 0, .complex .f64 0 0, .slice none 0 0]
      have eR : ArgEvents (v6.alloc (.cells #[.int .i64 7, .int .i64 0, .int .i64 0, .int .i64 0, .complex .f64 0 0, .slice none 0 0] 28)) (some ⟨v6.heap.size, 0, none⟩) 1 (fun _ => 7) (fun _ => 0) (fun _ => 0) := by
        refine ⟨fun _ => ⟨_, 0, rfl, bR.lt, fun i hi => ?_⟩, by unfold maxLen; omega⟩
        obtain rfl : i = 0 := by omega
        exact ⟨_, _, _, _, _, _, by rw [bR.cell]; rfl, by rw [bR.cell]; rfl, by rw [bR.cell]; rfl, by rw [bR.cell]; rfl, by rw [bR.cell]; rfl, by rw [bR.cell]; rfl⟩
      clear bR
      have bg := Hg.out.keep K6 (by simp)
      have a0 : v6.cell? ⟨gg, 0, none⟩ = some (.int .i64 4) := by rw [bg.cell]; rfl
      have a1 : v6.cell? ⟨gg, 1, none⟩ = some (.int .i64 2) := by rw [bg.cell]; rfl
      have a2 : v6.cell? ⟨gg, 2, none⟩ = some (.int .i64 2) := by rw [bg.cell]; rfl
      have a3 : v6.cell? ⟨gg, 3, none⟩ = some (.int .i64 9) := by rw [bg.cell]; rfl
      clear bg
      go_wp2_with fail
      clear a0 a1 a2 a3
      refine (calm_seven _ 4 2 2 9 geo_rk 8 2 50 (by decide) (by decide) (by decide) _ 1 1 _ _ _ eR 9 (by rw [rkR_worst]; decide) (by omega) rfl).mono ?_
      rintro e v7 ⟨rfl, q⟩
      have K7 := K6.comp (kR.comp q)
      clear q kR eR
      go_wp2_with fail
      refine (worst_bad _ 0 0 0 0 (by decide) _).mono ?_
      rintro e v8 ⟨rfl, q⟩
      go_wp2_with fail
      go_ret
      exact ⟨rfl, (KK.out.comp K7).comp q⟩
end Go.Proofs.Ytaepllaipdacjaa
