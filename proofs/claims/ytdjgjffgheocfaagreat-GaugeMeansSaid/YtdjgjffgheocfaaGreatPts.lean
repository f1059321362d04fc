/- Points of symbols; blank pages. -/
import Derived.Test.YtdjgjffgheocfaaGreatRowV
import Derived.Test.YtdjgjffgheocfaaGreatGeo
namespace Go.Proofs.YtdjgjffgheocfaaGreat
open Go.RowKit

/-- Symbols as points. -/
def symP (p : Nat → Nat) : Nat → Value := fun i => ptv (reS (p i)) (imS (p i))
theorem one_pt (a b : Int) : (ptv a b).oneCell' = true := rfl

/-- Points by their coordinates. -/
def ptsV (x y : Nat → Int) : Nat → Value := fun i => ptv (x i) (y i)

theorem row_next (r j W : Nat) : r + (j + 1) * W = r + j * W + W := by rw [Nat.succ_mul]; omega
theorem row_lt {r j W N : Nat} (hr : r < W) : r + j * W < W * N ↔ j < N := by
  constructor
  · intro h
    rcases Nat.lt_or_ge j N with h1 | h1
    · exact h1
    · have := Nat.mul_le_mul_left W h1
      rw [Nat.mul_comm j W] at h
      omega
  · intro h
    have h1 : W * (j + 1) ≤ W * N := Nat.mul_le_mul_left W h
    rw [Nat.mul_succ] at h1
    rw [Nat.mul_comm j W]
    omega

set_option maxRecDepth 100000 in
set_option maxHeartbeats 1000000 in
theorem row_any (B P : Int) (W K r N n : Nat) (a : Option Addr) (c : Nat) (x y : Nat → Int) (w : World) (ha : ArgV w a n (ptsV x y)) (hn : n = W * N) (hr : r < W) (hW : W ≤ 4) (hN : N ≤ 100) :
    Calls Tryz.prog 120 #[geoV B P W K, .slice a n c, .int .i64 r] w fun e w' => ∃ a' c', e = .returned (.slice a' N c') ∧ OwnV w' 27 w.heap.size a' N c' (ptsV (fun i => x (r + i * W)) (fun i => y (r + i * W))) ∧ Keep (fun _ => False) w w' := by
  have HA := Lib.hid ha
  have k0 := (Keep.refl (fun _ => False) w).alloc (.cells #[.int .i64 B, .int .i64 P, .int .i64 W, .int .i64 K] 42)
  have hb := Blk.new w 42 #[.int .i64 B, .int .i64 P, .int .i64 W, .int .i64 K]
  have hn4 : n ≤ 400 := by
    rw [hn]
    exact Nat.mul_le_mul hW hN
  have HN := Lib.hid hn
  clear ha hn
  obtain ⟨V, hV⟩ : ∃ V, V = w.alloc (.cells #[.int .i64 B, .int .i64 P, .int .i64 W, .int .i64 K] 42) := ⟨_, rfl⟩
  go_enter Tryz.func120, Tryz.ntmps120
  go_wp2_with fail
  rw [← hV] at hb k0 ⊢
  clear hV
  have HZ := Lib.hid k0.size
  go_loopw [7, 8] (fun v3 v4 wr => ∃ (j : Nat) (ao : Option Addr) (co : Nat), j ≤ N ∧ v3 = .slice ao j co ∧ v4 = .int .i64 (r + j * W : Nat) ∧ Hid (OwnV wr 27 V.heap.size ao j co (ptsV (fun i => x (r + i * W)) (fun i => y (r + i * W)))) ∧ Keep (fun _ => False) V wr) (fun v3 v _ => N - (match v3 with | .slice _ l _ => l | _ => 0))
  case atStart => exact ⟨0, none, 0, by omega, rfl, by rw [Nat.zero_mul]; rfl, Lib.hid (OwnV.nil _ _ _ _), Keep.refl _ _⟩
  case round =>
    obtain ⟨j, ao, co, hj, rfl, rfl, HO, kk⟩ := hrel
    have hbr := hb.keep kk (by simp)
    have cW : wr.cell? ⟨w.heap.size, 2, none⟩ = some (.int .i64 W) := by rw [hbr.cell]; rfl
    have hm1 := row_lt (r := r) (j := j) (W := W) (N := N) hr
    have hme := row_next r j W
    rw [← HN.out] at hm1
    obtain ⟨m, hm⟩ : ∃ m, m = r + j * W := ⟨_, rfl⟩
    rw [← hm] at hm1 hme ⊢
    have HM := Lib.hid hm
    clear hm hbr
    by_cases hjn : j < N
    · have hmn : m < n := hm1.2 hjn
      have hmn' : (m : Int) < (n : Int) := by omega
      obtain ⟨bA, oA, rfl, hbA, hcA⟩ := HA.out.at_ (by omega)
      have kA := k0.comp kk
      have c0 := (kA.cell (p := ⟨bA, oA + m, none⟩) hbA (by simp)).trans (hcA m hmn)
      rw [show ptsV x y m = ptv (x m) (y m) from rfl] at c0
      have kL := kk.alloc (.cells #[ptv (x m) (y m)] 27)
      have OL := Lib.hid (HO.out.keep ((Keep.refl _ wr).alloc (.cells #[ptv (x m) (y m)] 27)))
      have BL := Lib.hid (Blk.new wr 27 #[ptv (x m) (y m)])
      have hsL := kL.size
      have HV := Lib.hid (show ptsV (fun i => x (r + i * W)) (fun i => y (r + i * W)) j = ptv (x m) (y m) by rw [HM.out]; rfl)
      clear hcA HO kk kA hm1
      unfold ptv at kL OL BL HV hsL c0
      generalize fx (2 * x m) = X at *
      generalize fx (2 * y m) = Y at *
      go_wp2_with (refine wpList_append_1 ty_c rfl (.tmp 18) (.tmp 23) rfl V.heap.size ao j co (ptsV (fun i => x (r + i * W)) (fun i => y (r + i * W))) rfl OL.out wr.heap.size _ rfl BL.out rfl (by omega) hsL ?_)
      intro a2 c2 w6 o6 g6
      have O6 := Lib.hid (o6.congr (f' := ptsV (fun i => x (r + i * W)) (fun i => y (r + i * W))) (fun i hi => by
        by_cases h : i < j
        · rw [if_pos h]
        · rw [if_neg h, show i = j by omega, HV.out]))
      have K6 := kL.grown g6 (fun t ht => .inr (OL.out.lt t ht).1)
      have hb6 := hb.keep K6 (by simp)
      have c6 : w6.cell? ⟨w.heap.size, 2, none⟩ = some (.int .i64 W) := by rw [hb6.cell]; rfl
      have hwr : IntKind.i64.wrap ((m : Int) + (W : Int)) = (m : Int) + (W : Int) := wraps_i64 _ (by omega) (by omega)
      clear o6 g6 kL OL BL hsL hb6 c0 cW
      go_wp2_with fail
      exact ⟨⟨j + 1, a2, c2, by omega, rfl, by rw [hme]; go_num, O6, K6⟩, by simp; omega⟩
    · obtain rfl : j = N := by omega
      have hmn : ¬ (m : Int) < (n : Int) := fun h => absurd (hm1.1 (by omega)) (by omega)
      have O := Lib.hid (HO.out.more HZ.out)
      go_wp2_with fail
      go_ret
      exact ⟨ao, co, rfl, O.out, k0.comp kk⟩
end Go.Proofs.YtdjgjffgheocfaaGreat

namespace Go.Proofs.YtdjgjffgheocfaaGreat
open Go.RowKit

/-- Is one of the first n so? -/
def anyB (b : Nat → Bool) : Nat → Bool
  | 0 => false
  | n + 1 => anyB b n || b n
theorem anyB_true {b : Nat → Bool} {j : Nat} (h : b j = true) : ∀ {n}, j < n → anyB b n = true
  | n + 1, hj => by
    unfold anyB
    by_cases e : j = n
    · rw [← e, h, Bool.or_true]
    · rw [anyB_true h (by omega), Bool.true_or]
theorem anyB_false {b : Nat → Bool} : ∀ {n}, (∀ i, i < n → b i = false) → anyB b n = false
  | 0, _ => rfl
  | n + 1, h => by
    unfold anyB
    rw [anyB_false (fun i hi => h i (by omega)), h n (by omega)]
    rfl
/-- Is a point not nought? -/
def offB (a b : Int) : Bool := !(decide (a = 0) && decide (b = 0))
theorem order_zero {a : Int} (h : Pm a) : (FloatKind.f64.format.order (fx (2 * a)) 0 == some .eq) = decide (a = 0) := by
  unfold Pm at h
  have h1 := fl_eq (a := 2 * a) (b := 0) (by unfold Sm; omega) (by unfold Sm; decide)
  rw [fx_zero] at h1
  rw [h1]
  by_cases e : a = 0
  · rw [decide_eq_true e, decide_eq_true (by omega)]
  · rw [decide_eq_false e, decide_eq_false (by omega)]
set_option maxRecDepth 100000 in
theorem isoff_any (a b : Int) (ha : Pm a) (hb : Pm b) (w : World) :
    Calls Tryz.prog 118 #[ptv a b] w fun e w' => e = .returned (.bool (offB a b)) ∧ w = w' := by
  have h1 := order_zero ha
  have h2 := order_zero hb
  unfold ptv offB
  generalize fx (2 * a) = X at *
  generalize fx (2 * b) = Y at *
  generalize decide (a = 0) = A at *
  generalize decide (b = 0) = B at *
  rw [Bool.not_and]
  go_enter Tryz.func118, Tryz.ntmps118
  go_wp2_with fail
  go_ret
  exact ⟨rfl, rfl⟩
set_option maxRecDepth 100000 in
set_option maxHeartbeats 1000000 in
theorem indexoff_any (a : Option Addr) (n c : Nat) (x y : Nat → Int) (w : World) (ha : ArgV w a n (ptsV x y)) (hx : ∀ i, i < n → Pm (x i) ∧ Pm (y i)) :
    Calls Tryz.prog 131 #[.slice a n c, .func (.func 118) #[] #[]] w fun e w' => (∃ z, e = .returned (.int .i64 z) ∧ ((z = -1 ∧ anyB (fun i => offB (x i) (y i)) n = false) ∨ (0 ≤ z ∧ anyB (fun i => offB (x i) (y i)) n = true))) ∧ w = w' := by
  have HA := Lib.hid ha
  have hsm := ha.small
  clear ha
  go_enter Tryz.func131, Tryz.ntmps131
  go_wp2_with fail
  go_loopw [8] (fun v wr => ∃ j : Nat, j ≤ n ∧ v = .int .i64 j ∧ Hid (∀ i, i < j → offB (x i) (y i) = false) ∧ wr = w) (fun v _ => n - (intOf v).toNat)
  case atStart => exact ⟨0, by omega, rfl, Lib.hid (fun i hi => by omega), rfl⟩
  case round =>
    obtain ⟨j, hj, rfl, HF, rfl⟩ := hrel
    by_cases hjn : j < n
    · have hjn' : (j : Int) < (n : Int) := by omega
      obtain ⟨bA, oA, rfl, hbA, hcA⟩ := HA.out.at_ (by omega)
      have c0 := hcA j hjn
      rw [show ptsV x y j = ptv (x j) (y j) from rfl] at c0
      have h1 := Lib.hid (fun w => isoff_any (x j) (y j) (hx j hjn).1 (hx j hjn).2 w)
      obtain ⟨b, hb⟩ : ∃ b, b = offB (x j) (y j) := ⟨_, rfl⟩
      rw [← hb] at h1
      have HB := Lib.hid hb
      clear hcA hb
      unfold ptv at c0 h1
      go_wp2_with fail
      refine (h1.out _).mono ?_
      rintro e w1 ⟨rfl, rfl⟩
      cases b with
      | true =>
        have HT := Lib.hid (anyB_true (b := fun i => offB (x i) (y i)) (j := j) HB.out.symm hjn)
        go_wp2_with fail
        go_ret
        exact ⟨⟨j, rfl, .inr ⟨by omega, HT.out⟩⟩, rfl⟩
      | false =>
        have HF2 := Lib.hid (show ∀ i, i < j + 1 → offB (x i) (y i) = false from fun i hi => by
          by_cases e : i = j
          · rw [e]; exact HB.out.symm
          · exact HF.out i (by omega))
        go_wp2_with fail
        exact ⟨⟨j + 1, by omega, by go_num, HF2, trivial⟩, by simp [intOf]; omega⟩
    · obtain rfl : j = n := by omega
      have hjn' : ¬ (j : Int) < (j : Int) := by omega
      have HT := Lib.hid (anyB_false (b := fun i => offB (x i) (y i)) (n := j) HF.out)
      go_wp2_with fail
      go_ret
      exact ⟨⟨-1, rfl, .inl ⟨rfl, HT.out⟩⟩, rfl⟩
set_option maxRecDepth 100000 in
theorem blank_any (a : Option Addr) (n c : Nat) (x y : Nat → Int) (w : World) (ha : ArgV w a n (ptsV x y)) (hx : ∀ i, i < n → Pm (x i) ∧ Pm (y i)) :
    Calls Tryz.prog 104 #[.slice a n c] w fun e w' => e = .returned (.bool (!anyB (fun i => offB (x i) (y i)) n)) ∧ w = w' := by
  have HI := Lib.hid (fun w ha => indexoff_any a n c x y w ha hx)
  have HA := Lib.hid ha
  clear ha
  generalize anyB (fun i => offB (x i) (y i)) n = b at *
  have HC := Lib.hid (show ∀ w, ArgV w a n (ptsV x y) → Calls Tryz.prog 117 #[.slice a n c, .func (.func 118) #[] #[]] w fun e w' => e = .returned (.bool b) ∧ w = w' from by
    intro w ha
    have HA := Lib.hid ha
    clear ha
    go_enter Tryz.func117, Tryz.ntmps117
    go_wp2_with fail
    refine (HI.out _ HA.out).mono ?_
    rintro e w1 ⟨⟨z, rfl, hz⟩, rfl⟩
    rcases hz with ⟨rfl, rfl⟩ | ⟨h0, rfl⟩
    · go_wp2_with fail
      go_ret
      exact ⟨rfl, rfl⟩
    · go_wp2_with fail
      go_ret
      exact ⟨rfl, rfl⟩)
  go_enter Tryz.func104, Tryz.ntmps104
  go_wp2_with fail
  refine (HC.out _ HA.out).mono ?_
  rintro e w1 ⟨rfl, rfl⟩
  go_wp2_with fail
  go_ret
  exact ⟨rfl, rfl⟩
end Go.Proofs.YtdjgjffgheocfaaGreat
