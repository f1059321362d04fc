/- What was found is sorted: the stable sort of the library. -/
import Derived.Test.YtdlmjjlejkkniaaGreatScan
namespace Go.Proofs.YtdlmjjlejkkniaaGreat
open Go.RowKit

def cmpV (x y : Int) : Int := if x < y then -1 else if y < x then 1 else 0
theorem nan_any (x : Int) (w : World) : Calls Tryz.prog 81 #[.int .i64 x] w fun e w' => e = .returned (.bool false) ∧ w' = w := by
  go_enter Tryz.func81, Tryz.ntmps81
  go_wp2_with fail
  go_ret
  exact ⟨rfl, rfl⟩
theorem cmp_any (x y : Int) (w : World) : Calls Tryz.prog 52 #[.int .i64 x, .int .i64 y] w fun e w' => e = .returned (.int .i64 (cmpV x y)) ∧ w' = w := by
  obtain ⟨v, hv⟩ : ∃ v, v = cmpV x y := ⟨_, rfl⟩
  rw [← hv]
  have HV := Lib.hid hv
  clear hv
  go_enter Tryz.func52, Tryz.ntmps52
  go_wp2_with fail
  refine (nan_any x w).mono ?_
  rintro e w1 ⟨rfl, rfl⟩
  go_wp2_with fail
  refine (nan_any y _).mono ?_
  rintro e w2 ⟨rfl, rfl⟩
  by_cases h1 : x < y
  · go_wp2_with fail
    go_ret
    exact ⟨by rw [HV.out, cmpV, if_pos h1]; rfl, rfl⟩
  · by_cases h2 : y < x
    · go_wp2_with fail
      go_ret
      exact ⟨by rw [HV.out, cmpV, if_neg (by omega), if_pos h2]; rfl, rfl⟩
    · go_wp2_with fail
      go_ret
      exact ⟨by rw [HV.out, cmpV, if_neg (by omega), if_neg (by omega)]; rfl, rfl⟩
def orV (x y z : Int) : Int := if x ≠ 0 then x else if y ≠ 0 then y else z
set_option maxRecDepth 100000 in
theorem or_any (g : Nat) (x y z : Int) (w : World) (b : Blk w g 3 #[.int .i64 x, .int .i64 y, .int .i64 z]) :
    Calls Tryz.prog 51 #[.slice (some ⟨g, 0, none⟩) 3 3] w fun e w' => e = .returned (.int .i64 (orV x y z)) ∧ w' = w := by
  have c0 : w.cell? ⟨g, 0, none⟩ = some (.int .i64 x) := by rw [b.cell]; rfl
  have c1 : w.cell? ⟨g, 1, none⟩ = some (.int .i64 y) := by rw [b.cell]; rfl
  have c2 : w.cell? ⟨g, 2, none⟩ = some (.int .i64 z) := by rw [b.cell]; rfl
  obtain ⟨v, hv⟩ : ∃ v, v = orV x y z := ⟨_, rfl⟩
  rw [← hv]
  have HV := Lib.hid hv
  clear hv b
  go_enter Tryz.func51, Tryz.ntmps51
  go_wp2_with fail
  refine wp_loop_rounds 4 ?_
  rw [rounds_succ]
  by_cases h1 : x = 0
  rotate_left
  · go_wp2_with fail
    go_ret
    exact ⟨by rw [HV.out, orV, if_pos h1]; rfl, rfl⟩
  subst h1
  go_wp2_with fail
  rw [rounds_succ]
  by_cases h2 : y = 0
  rotate_left
  · go_wp2_with fail
    go_ret
    exact ⟨by rw [HV.out, orV, if_neg (by simp), if_pos h2]; rfl, rfl⟩
  subst h2
  go_wp2_with fail
  rw [rounds_succ]
  by_cases h3 : z = 0
  rotate_left
  · go_wp2_with fail
    go_ret
    exact ⟨by rw [HV.out, orV, if_neg (by simp), if_neg (by simp)]; rfl, rfl⟩
  subst h3
  go_wp2_with fail
  rw [rounds_succ]
  go_wp2_with fail
  go_ret
  exact ⟨by rw [HV.out, orV, if_neg (by simp), if_neg (by simp)]; rfl, rfl⟩
theorem fd_cells {w : World} {g : Nat} {x : FoundE} (b : Blk w g 52 x.arr) : w.cell? ⟨g, 0, none⟩ = some (.int .i64 x.p) ∧ w.cell? ⟨g, 1, none⟩ = some (.int .i64 x.k) ∧ w.cell? ⟨g, 2, none⟩ = some (.int .i64 x.l) ∧ w.cell? ⟨g, 3, none⟩ = some (.int .i64 x.s) ∧ w.cell? ⟨g, 4, none⟩ = some (.int .i64 x.m) :=
  ⟨by rw [b.cell]; rfl, by rw [b.cell]; rfl, by rw [b.cell]; rfl, by rw [b.cell]; rfl, by rw [b.cell]; rfl⟩
/-- The order of what was found: by host page; the later first; by page. -/
def keyC (x y : FoundE) : Int := orV (cmpV x.l y.l) (cmpV y.s x.s) (cmpV x.p y.p)
set_option maxRecDepth 100000 in
set_option maxHeartbeats 400000 in
theorem latest1_any (x y : FoundE) (w : World) :
    Calls Tryz.prog 50 #[.agg x.arr, .agg y.arr] w fun e w' => e = .returned (.int .i64 (keyC x y)) ∧ Keep (fun _ => False) w w' := by
  have k0 := ((Keep.refl (fun _ => False) w).alloc (.cells x.arr 52)).alloc (.cells y.arr 52)
  have bx := (Blk.new w 52 x.arr).alloc (.cells y.arr 52)
  have by_ : Blk ((w.alloc (.cells x.arr 52)).alloc (.cells y.arr 52)) (w.heap.size + 1) 52 y.arr := Blk.here _ _ _ _ (by simp)
  obtain ⟨v, hv⟩ : ∃ v, v = keyC x y := ⟨_, rfl⟩
  rw [← hv]
  unfold keyC at hv
  obtain ⟨xp, xk, xl, xs, xm⟩ := x
  obtain ⟨yp, yk, yl, ys, ym⟩ := y
  unfold FoundE.arr at k0 bx by_ ⊢
  dsimp only at k0 bx by_ hv ⊢
  obtain ⟨a0, a1, a2, a3, a4⟩ := fd_cells (x := ⟨xp, xk, xl, xs, xm⟩) bx
  obtain ⟨b0, b1, b2, b3, b4⟩ := fd_cells (x := ⟨yp, yk, yl, ys, ym⟩) by_
  dsimp only at a0 a1 a2 a3 a4 b0 b1 b2 b3 b4
  have HV := Lib.hid hv
  clear hv
  go_enter Tryz.func50, Tryz.ntmps50
  go_upto_region 1 with (fail)
  generalize (w.alloc (.cells #[.int .i64 xp, .int .i64 xk, .int .i64 xl, .int .i64 xs, .int .i64 xm] 52)).alloc (.cells #[.int .i64 yp, .int .i64 yk, .int .i64 yl, .int .i64 ys, .int .i64 ym] 52) = W at *
  have u0 : ∀ p : KeptBy W, p.v.cell? ⟨w.heap.size, 0, none⟩ = some (.int .i64 xp) := fun p => p.cell bx.lt a0
  have u2 : ∀ p : KeptBy W, p.v.cell? ⟨w.heap.size, 2, none⟩ = some (.int .i64 xl) := fun p => p.cell bx.lt a2
  have u3 : ∀ p : KeptBy W, p.v.cell? ⟨w.heap.size, 3, none⟩ = some (.int .i64 xs) := fun p => p.cell bx.lt a3
  have v0 : ∀ p : KeptBy W, p.v.cell? ⟨w.heap.size + 1, 0, none⟩ = some (.int .i64 yp) := fun p => p.cell by_.lt b0
  have v2 : ∀ p : KeptBy W, p.v.cell? ⟨w.heap.size + 1, 2, none⟩ = some (.int .i64 yl) := fun p => p.cell by_.lt b2
  have v3 : ∀ p : KeptBy W, p.v.cell? ⟨w.heap.size + 1, 3, none⟩ = some (.int .i64 ys) := fun p => p.cell by_.lt b3
  clear a0 a1 a2 a3 a4 b0 b1 b2 b3 b4 bx by_
  refine wp_region_kept_tail 19 (by kernel_rfl) (by kernel_rfl) ?_
  change wpQuiet _ _ _ _ [_, _, _, _, _, _, _, _, _, _, _, _, _, _, _, _, _, _, _] _
  repeat (go_big_quiet_step (first | (go_at_call 52; exact kept_of ((cmp_any _ _ _).mono (fun e w' h => ⟨h.1, by rw [h.2]; exact Keep.refl _ _⟩)))))
  refine wpQuiet_nil ?_
  rintro w2 ⟨⟨_, k2⟩, rfl⟩
  have K2 := k0.comp k2
  clear u0 u2 u3 v0 v2 v3 k0 k2
  go_wp2_with fail
  refine (or_any _ _ _ _ _ (Blk.new w2 3 _)).mono ?_
  rintro e w3 ⟨rfl, rfl⟩
  have K3 := K2.alloc (.cells #[.int .i64 (cmpV xl yl), .int .i64 (cmpV ys xs), .int .i64 (cmpV xp yp)] 3)
  rw [← HV.out]
  go_wp2_with fail
  go_ret
  exact ⟨rfl, K3⟩
theorem latest2_any (x y : FoundE) (w : World) :
    Calls Tryz.prog 54 #[.agg x.arr, .agg y.arr] w fun e w' => e = .returned (.bool (decide (x.l = y.l))) ∧ Keep (fun _ => False) w w' := by
  have k0 := ((Keep.refl (fun _ => False) w).alloc (.cells x.arr 52)).alloc (.cells y.arr 52)
  obtain ⟨xp, xk, xl, xs, xm⟩ := x
  obtain ⟨yp, yk, yl, ys, ym⟩ := y
  unfold FoundE.arr at k0 ⊢
  dsimp only at k0 ⊢
  go_enter Tryz.func54, Tryz.ntmps54
  go_wp2_with fail
  go_ret
  exact ⟨by by_cases h : xl = yl <;> simp [h], k0⟩
/-- ScanTies' closure. -/
theorem tiesat_any (p l s : Int) (w : World) :
    Calls Tryz.prog 22 #[.int .i64 p, .int .i64 l, .int .i64 s] w fun e w' => e = .returned (.agg (FoundE.arr ⟨p, 1, l, s, 0⟩)) ∧ Keep (fun _ => False) w w' := by
  go_enter Tryz.func22, Tryz.ntmps22
  go_wp2_with fail
  refine bodyPost_ret (results_cell_row rfl _ _ w.heap.size 52 _ (0, 0) _ rfl (Blk.new w _ _) Tryz.underlying52 rfl (by kernel_rfl)) rfl ?_
  exact ⟨rfl, (Keep.refl (fun _ => False) w).alloc _⟩
end Go.Proofs.YtdlmjjlejkkniaaGreat

namespace Go.Proofs.YtdlmjjlejkkniaaGreat
open Go.RowKit

set_option maxRecDepth 100000 in
set_option maxHeartbeats 1000000 in
theorem cloneF_any (a : Option Addr) (n c : Nat) (f : Nat → FoundE) (w : World) (ha : ArgF w a n f) (hn : n ≤ 100000) :
    Calls Tryz.prog 48 #[.slice a n c] w fun e w' => ∃ a' c', e = .returned (.slice a' n c') ∧ OwnF w' w.heap.size a' n c' f ∧ Keep (fun _ => False) w w' := by
  rcases a with _ | ad
  · have h0 : n = 0 := by
      rcases Nat.eq_zero_or_pos n with h | h
      · exact h
      · obtain ⟨b, off, e, _⟩ := ha.at_ h
        cases e
    subst h0
    have q := fun (w : World) (a : Option Addr) (n c n' c' : Nat) => Lib.run_eql_slice_nil (P := Tryz.prog) w 42 52 a n c n' c' Tryz.underlying42
    go_enter Tryz.func48, Tryz.ntmps48
    go_wp2_with fail
    go_ret
    exact ⟨none, 0, rfl, OwnW.nil _ _ _ _ _, Keep.refl _ _⟩
  · have k0 := (Keep.refl (fun _ => False) w).alloc (.cells #[] 52)
    have HA := Lib.hid (ha.keep k0)
    have hr : RowW (w.alloc (.cells #[] 52)) 52 5 w.heap.size 0 0 (fdG f) := ⟨#[], Blk.new w _ _, rfl, Nat.le_refl _, fun q hq => by omega⟩
    have HO := Lib.hid (show OwnF (w.alloc (.cells #[] 52)) w.heap.size (some ⟨w.heap.size, 0, none⟩) 0 0 f from OwnW.of_row hr (Nat.le_refl _) (by unfold maxLen; omega))
    have HK := Lib.hid k0
    clear ha k0 hr
    have q := fun (w : World) (a : Option Addr) (n c n' c' : Nat) => Lib.run_eql_slice_nil (P := Tryz.prog) w 42 52 a n c n' c' Tryz.underlying42
    go_enter Tryz.func48, Tryz.ntmps48
    go_wp2_with (refine wpList_append_w ty_fd rfl (.tmp 5) (.tmp 6) rfl w.heap.size _ 0 0 (fdG f) rfl HO.out ad n c (fdG f) rfl HA.out (fun _ _ => rfl) (by omega) (by simp) ?_)
    intro a' c' w1 hown hgrow
    have ho : OwnF w1 w.heap.size a' n c' f := hown
    clear hown
    go_wp2_with fail
    go_ret
    exact ⟨a', c', rfl, ho, HK.out.grown hgrow (fun k hk => .inr (by simp [Value.ownBlock] at hk; omega))⟩

/-- Elements j - 1 and j changed. -/
def swpF (f : Nat → FoundE) (j : Nat) : Nat → FoundE := fun q => if q = j then f (j - 1) else if q = j - 1 then f j else f q
/-- Element j, taken down to its place above a. -/
def insF (a : Nat) (f : Nat → FoundE) : Nat → Nat → FoundE
  | 0 => f
  | j + 1 => if a < j + 1 ∧ keyC (f (j + 1)) (f j) < 0 then insF a (swpF f (j + 1)) j else f
/-- k elements behind a + 1 are in their places. -/
def srtF (a : Nat) (f : Nat → FoundE) : Nat → Nat → FoundE
  | 0 => f
  | k + 1 => insF a (srtF a f k) (a + 1 + k)
theorem insF_end {a : Nat} (f : Nat → FoundE) : ∀ j, j ≤ a → insF a f j = f
  | 0, _ => rfl
  | j + 1, h => if_neg (fun e => by omega)
theorem ArgW.five {w : World} {g : Nat} {f : Nat → FoundE} {T : TypeId} {cap n j : Nat} (h : RowW w T 5 g cap n (fdG f)) (hj : j < n) : w.cell? ⟨g, j * 5, none⟩ = some (.int .i64 (f j).p) ∧ w.cell? ⟨g, j * 5 + 1, none⟩ = some (.int .i64 (f j).k) ∧ w.cell? ⟨g, j * 5 + 2, none⟩ = some (.int .i64 (f j).l) ∧ w.cell? ⟨g, j * 5 + 3, none⟩ = some (.int .i64 (f j).s) ∧ w.cell? ⟨g, j * 5 + 4, none⟩ = some (.int .i64 (f j).m) := by
  obtain ⟨y0, y1, y2, y3, y4⟩ := fdG_at f j
  exact ⟨(h.val (by omega)).trans (congrArg some y0), (h.val (by omega)).trans (congrArg some y1), (h.val (by omega)).trans (congrArg some y2), (h.val (by omega)).trans (congrArg some y3), (h.val (by omega)).trans (congrArg some y4)⟩
theorem RowW.drewN {w : World} {T : TypeId} {k g c n : Nat} {f : Nat → Value} (h : RowW w T k g c n f) (j : Nat) : RowW (w.drewN j) T k g c n f := h
theorem swap_put {w : World} {T : TypeId} {g cap n J jm : Nat} {f : Nat → FoundE} (h : RowW w T 5 g cap n (fdG f)) (hJ : J = jm + 1) (hJn : J < n) :
    ((∃ u, w.cell? ⟨g, J * 5, none⟩ = some u) ∧ w.frozen? ⟨g, J * 5, none⟩ = false) ∧
    ((∃ u, (w.setCell ⟨g, J * 5, none⟩ (.int .i64 (f jm).p)).cell? ⟨g, J * 5 + 1, none⟩ = some u) ∧ (w.setCell ⟨g, J * 5, none⟩ (.int .i64 (f jm).p)).frozen? ⟨g, J * 5 + 1, none⟩ = false) ∧
    ((∃ u, ((w.setCell ⟨g, J * 5, none⟩ (.int .i64 (f jm).p)).setCell ⟨g, J * 5 + 1, none⟩ (.int .i64 (f jm).k)).cell? ⟨g, J * 5 + 2, none⟩ = some u) ∧ ((w.setCell ⟨g, J * 5, none⟩ (.int .i64 (f jm).p)).setCell ⟨g, J * 5 + 1, none⟩ (.int .i64 (f jm).k)).frozen? ⟨g, J * 5 + 2, none⟩ = false) ∧
    ((∃ u, (((w.setCell ⟨g, J * 5, none⟩ (.int .i64 (f jm).p)).setCell ⟨g, J * 5 + 1, none⟩ (.int .i64 (f jm).k)).setCell ⟨g, J * 5 + 2, none⟩ (.int .i64 (f jm).l)).cell? ⟨g, J * 5 + 3, none⟩ = some u) ∧ (((w.setCell ⟨g, J * 5, none⟩ (.int .i64 (f jm).p)).setCell ⟨g, J * 5 + 1, none⟩ (.int .i64 (f jm).k)).setCell ⟨g, J * 5 + 2, none⟩ (.int .i64 (f jm).l)).frozen? ⟨g, J * 5 + 3, none⟩ = false) ∧
    ((∃ u, ((((w.setCell ⟨g, J * 5, none⟩ (.int .i64 (f jm).p)).setCell ⟨g, J * 5 + 1, none⟩ (.int .i64 (f jm).k)).setCell ⟨g, J * 5 + 2, none⟩ (.int .i64 (f jm).l)).setCell ⟨g, J * 5 + 3, none⟩ (.int .i64 (f jm).s)).cell? ⟨g, J * 5 + 4, none⟩ = some u) ∧ ((((w.setCell ⟨g, J * 5, none⟩ (.int .i64 (f jm).p)).setCell ⟨g, J * 5 + 1, none⟩ (.int .i64 (f jm).k)).setCell ⟨g, J * 5 + 2, none⟩ (.int .i64 (f jm).l)).setCell ⟨g, J * 5 + 3, none⟩ (.int .i64 (f jm).s)).frozen? ⟨g, J * 5 + 4, none⟩ = false) ∧
    ((∃ u, (((((w.setCell ⟨g, J * 5, none⟩ (.int .i64 (f jm).p)).setCell ⟨g, J * 5 + 1, none⟩ (.int .i64 (f jm).k)).setCell ⟨g, J * 5 + 2, none⟩ (.int .i64 (f jm).l)).setCell ⟨g, J * 5 + 3, none⟩ (.int .i64 (f jm).s)).setCell ⟨g, J * 5 + 4, none⟩ (.int .i64 (f jm).m)).cell? ⟨g, jm * 5, none⟩ = some u) ∧ (((((w.setCell ⟨g, J * 5, none⟩ (.int .i64 (f jm).p)).setCell ⟨g, J * 5 + 1, none⟩ (.int .i64 (f jm).k)).setCell ⟨g, J * 5 + 2, none⟩ (.int .i64 (f jm).l)).setCell ⟨g, J * 5 + 3, none⟩ (.int .i64 (f jm).s)).setCell ⟨g, J * 5 + 4, none⟩ (.int .i64 (f jm).m)).frozen? ⟨g, jm * 5, none⟩ = false) ∧
    ((∃ u, ((((((w.setCell ⟨g, J * 5, none⟩ (.int .i64 (f jm).p)).setCell ⟨g, J * 5 + 1, none⟩ (.int .i64 (f jm).k)).setCell ⟨g, J * 5 + 2, none⟩ (.int .i64 (f jm).l)).setCell ⟨g, J * 5 + 3, none⟩ (.int .i64 (f jm).s)).setCell ⟨g, J * 5 + 4, none⟩ (.int .i64 (f jm).m)).setCell ⟨g, jm * 5, none⟩ (.int .i64 (f J).p)).cell? ⟨g, jm * 5 + 1, none⟩ = some u) ∧ ((((((w.setCell ⟨g, J * 5, none⟩ (.int .i64 (f jm).p)).setCell ⟨g, J * 5 + 1, none⟩ (.int .i64 (f jm).k)).setCell ⟨g, J * 5 + 2, none⟩ (.int .i64 (f jm).l)).setCell ⟨g, J * 5 + 3, none⟩ (.int .i64 (f jm).s)).setCell ⟨g, J * 5 + 4, none⟩ (.int .i64 (f jm).m)).setCell ⟨g, jm * 5, none⟩ (.int .i64 (f J).p)).frozen? ⟨g, jm * 5 + 1, none⟩ = false) ∧
    ((∃ u, (((((((w.setCell ⟨g, J * 5, none⟩ (.int .i64 (f jm).p)).setCell ⟨g, J * 5 + 1, none⟩ (.int .i64 (f jm).k)).setCell ⟨g, J * 5 + 2, none⟩ (.int .i64 (f jm).l)).setCell ⟨g, J * 5 + 3, none⟩ (.int .i64 (f jm).s)).setCell ⟨g, J * 5 + 4, none⟩ (.int .i64 (f jm).m)).setCell ⟨g, jm * 5, none⟩ (.int .i64 (f J).p)).setCell ⟨g, jm * 5 + 1, none⟩ (.int .i64 (f J).k)).cell? ⟨g, jm * 5 + 2, none⟩ = some u) ∧ (((((((w.setCell ⟨g, J * 5, none⟩ (.int .i64 (f jm).p)).setCell ⟨g, J * 5 + 1, none⟩ (.int .i64 (f jm).k)).setCell ⟨g, J * 5 + 2, none⟩ (.int .i64 (f jm).l)).setCell ⟨g, J * 5 + 3, none⟩ (.int .i64 (f jm).s)).setCell ⟨g, J * 5 + 4, none⟩ (.int .i64 (f jm).m)).setCell ⟨g, jm * 5, none⟩ (.int .i64 (f J).p)).setCell ⟨g, jm * 5 + 1, none⟩ (.int .i64 (f J).k)).frozen? ⟨g, jm * 5 + 2, none⟩ = false) ∧
    ((∃ u, ((((((((w.setCell ⟨g, J * 5, none⟩ (.int .i64 (f jm).p)).setCell ⟨g, J * 5 + 1, none⟩ (.int .i64 (f jm).k)).setCell ⟨g, J * 5 + 2, none⟩ (.int .i64 (f jm).l)).setCell ⟨g, J * 5 + 3, none⟩ (.int .i64 (f jm).s)).setCell ⟨g, J * 5 + 4, none⟩ (.int .i64 (f jm).m)).setCell ⟨g, jm * 5, none⟩ (.int .i64 (f J).p)).setCell ⟨g, jm * 5 + 1, none⟩ (.int .i64 (f J).k)).setCell ⟨g, jm * 5 + 2, none⟩ (.int .i64 (f J).l)).cell? ⟨g, jm * 5 + 3, none⟩ = some u) ∧ ((((((((w.setCell ⟨g, J * 5, none⟩ (.int .i64 (f jm).p)).setCell ⟨g, J * 5 + 1, none⟩ (.int .i64 (f jm).k)).setCell ⟨g, J * 5 + 2, none⟩ (.int .i64 (f jm).l)).setCell ⟨g, J * 5 + 3, none⟩ (.int .i64 (f jm).s)).setCell ⟨g, J * 5 + 4, none⟩ (.int .i64 (f jm).m)).setCell ⟨g, jm * 5, none⟩ (.int .i64 (f J).p)).setCell ⟨g, jm * 5 + 1, none⟩ (.int .i64 (f J).k)).setCell ⟨g, jm * 5 + 2, none⟩ (.int .i64 (f J).l)).frozen? ⟨g, jm * 5 + 3, none⟩ = false) ∧
    ((∃ u, (((((((((w.setCell ⟨g, J * 5, none⟩ (.int .i64 (f jm).p)).setCell ⟨g, J * 5 + 1, none⟩ (.int .i64 (f jm).k)).setCell ⟨g, J * 5 + 2, none⟩ (.int .i64 (f jm).l)).setCell ⟨g, J * 5 + 3, none⟩ (.int .i64 (f jm).s)).setCell ⟨g, J * 5 + 4, none⟩ (.int .i64 (f jm).m)).setCell ⟨g, jm * 5, none⟩ (.int .i64 (f J).p)).setCell ⟨g, jm * 5 + 1, none⟩ (.int .i64 (f J).k)).setCell ⟨g, jm * 5 + 2, none⟩ (.int .i64 (f J).l)).setCell ⟨g, jm * 5 + 3, none⟩ (.int .i64 (f J).s)).cell? ⟨g, jm * 5 + 4, none⟩ = some u) ∧ (((((((((w.setCell ⟨g, J * 5, none⟩ (.int .i64 (f jm).p)).setCell ⟨g, J * 5 + 1, none⟩ (.int .i64 (f jm).k)).setCell ⟨g, J * 5 + 2, none⟩ (.int .i64 (f jm).l)).setCell ⟨g, J * 5 + 3, none⟩ (.int .i64 (f jm).s)).setCell ⟨g, J * 5 + 4, none⟩ (.int .i64 (f jm).m)).setCell ⟨g, jm * 5, none⟩ (.int .i64 (f J).p)).setCell ⟨g, jm * 5 + 1, none⟩ (.int .i64 (f J).k)).setCell ⟨g, jm * 5 + 2, none⟩ (.int .i64 (f J).l)).setCell ⟨g, jm * 5 + 3, none⟩ (.int .i64 (f J).s)).frozen? ⟨g, jm * 5 + 4, none⟩ = false) ∧
    RowW ((((((((((w.setCell ⟨g, J * 5, none⟩ (.int .i64 (f jm).p)).setCell ⟨g, J * 5 + 1, none⟩ (.int .i64 (f jm).k)).setCell ⟨g, J * 5 + 2, none⟩ (.int .i64 (f jm).l)).setCell ⟨g, J * 5 + 3, none⟩ (.int .i64 (f jm).s)).setCell ⟨g, J * 5 + 4, none⟩ (.int .i64 (f jm).m)).setCell ⟨g, jm * 5, none⟩ (.int .i64 (f J).p)).setCell ⟨g, jm * 5 + 1, none⟩ (.int .i64 (f J).k)).setCell ⟨g, jm * 5 + 2, none⟩ (.int .i64 (f J).l)).setCell ⟨g, jm * 5 + 3, none⟩ (.int .i64 (f J).s)).setCell ⟨g, jm * 5 + 4, none⟩ (.int .i64 (f J).m)) T 5 g cap n (fdG (swpF f J)) ∧ Keep (· = g) w ((((((((((w.setCell ⟨g, J * 5, none⟩ (.int .i64 (f jm).p)).setCell ⟨g, J * 5 + 1, none⟩ (.int .i64 (f jm).k)).setCell ⟨g, J * 5 + 2, none⟩ (.int .i64 (f jm).l)).setCell ⟨g, J * 5 + 3, none⟩ (.int .i64 (f jm).s)).setCell ⟨g, J * 5 + 4, none⟩ (.int .i64 (f jm).m)).setCell ⟨g, jm * 5, none⟩ (.int .i64 (f J).p)).setCell ⟨g, jm * 5 + 1, none⟩ (.int .i64 (f J).k)).setCell ⟨g, jm * 5 + 2, none⟩ (.int .i64 (f J).l)).setCell ⟨g, jm * 5 + 3, none⟩ (.int .i64 (f J).s)).setCell ⟨g, jm * 5 + 4, none⟩ (.int .i64 (f J).m)) := by
  have r1 := h.store (J * 5) (.int .i64 (f jm).p) (f' := fun q => if q = J * 5 then .int .i64 (f jm).p else fdG f q) (fun q _ => rfl)
  generalize hF1 : (fun q => if q = J * 5 then .int .i64 (f jm).p else fdG f q) = F1 at r1
  have r2 := r1.store (J * 5 + 1) (.int .i64 (f jm).k) (f' := fun q => if q = J * 5 + 1 then .int .i64 (f jm).k else F1 q) (fun q _ => rfl)
  generalize hF2 : (fun q => if q = J * 5 + 1 then .int .i64 (f jm).k else F1 q) = F2 at r2
  have r3 := r2.store (J * 5 + 2) (.int .i64 (f jm).l) (f' := fun q => if q = J * 5 + 2 then .int .i64 (f jm).l else F2 q) (fun q _ => rfl)
  generalize hF3 : (fun q => if q = J * 5 + 2 then .int .i64 (f jm).l else F2 q) = F3 at r3
  have r4 := r3.store (J * 5 + 3) (.int .i64 (f jm).s) (f' := fun q => if q = J * 5 + 3 then .int .i64 (f jm).s else F3 q) (fun q _ => rfl)
  generalize hF4 : (fun q => if q = J * 5 + 3 then .int .i64 (f jm).s else F3 q) = F4 at r4
  have r5 := r4.store (J * 5 + 4) (.int .i64 (f jm).m) (f' := fun q => if q = J * 5 + 4 then .int .i64 (f jm).m else F4 q) (fun q _ => rfl)
  generalize hF5 : (fun q => if q = J * 5 + 4 then .int .i64 (f jm).m else F4 q) = F5 at r5
  have r6 := r5.store (jm * 5) (.int .i64 (f J).p) (f' := fun q => if q = jm * 5 then .int .i64 (f J).p else F5 q) (fun q _ => rfl)
  generalize hF6 : (fun q => if q = jm * 5 then .int .i64 (f J).p else F5 q) = F6 at r6
  have r7 := r6.store (jm * 5 + 1) (.int .i64 (f J).k) (f' := fun q => if q = jm * 5 + 1 then .int .i64 (f J).k else F6 q) (fun q _ => rfl)
  generalize hF7 : (fun q => if q = jm * 5 + 1 then .int .i64 (f J).k else F6 q) = F7 at r7
  have r8 := r7.store (jm * 5 + 2) (.int .i64 (f J).l) (f' := fun q => if q = jm * 5 + 2 then .int .i64 (f J).l else F7 q) (fun q _ => rfl)
  generalize hF8 : (fun q => if q = jm * 5 + 2 then .int .i64 (f J).l else F7 q) = F8 at r8
  have r9 := r8.store (jm * 5 + 3) (.int .i64 (f J).s) (f' := fun q => if q = jm * 5 + 3 then .int .i64 (f J).s else F8 q) (fun q _ => rfl)
  generalize hF9 : (fun q => if q = jm * 5 + 3 then .int .i64 (f J).s else F8 q) = F9 at r9
  have r10 := r9.store (jm * 5 + 4) (.int .i64 (f J).m) (f' := fun q => if q = jm * 5 + 4 then .int .i64 (f J).m else F9 q) (fun q _ => rfl)
  generalize hF10 : (fun q => if q = jm * 5 + 4 then .int .i64 (f J).m else F9 q) = F10 at r10
  refine ⟨⟨⟨_, h.val (by omega)⟩, h.frozen _⟩, ⟨⟨_, r1.val (by omega)⟩, r1.frozen _⟩, ⟨⟨_, r2.val (by omega)⟩, r2.frozen _⟩, ⟨⟨_, r3.val (by omega)⟩, r3.frozen _⟩, ⟨⟨_, r4.val (by omega)⟩, r4.frozen _⟩, ⟨⟨_, r5.val (by omega)⟩, r5.frozen _⟩, ⟨⟨_, r6.val (by omega)⟩, r6.frozen _⟩, ⟨⟨_, r7.val (by omega)⟩, r7.frozen _⟩, ⟨⟨_, r8.val (by omega)⟩, r8.frozen _⟩, ⟨⟨_, r9.val (by omega)⟩, r9.frozen _⟩, r10.congr (fun q hq => ?_), ((((((((((Keep.refl (· = g) w).setCell (p := ⟨g, J * 5, none⟩) (.inl rfl) _).setCell (p := ⟨g, J * 5 + 1, none⟩) (.inl rfl) _).setCell (p := ⟨g, J * 5 + 2, none⟩) (.inl rfl) _).setCell (p := ⟨g, J * 5 + 3, none⟩) (.inl rfl) _).setCell (p := ⟨g, J * 5 + 4, none⟩) (.inl rfl) _).setCell (p := ⟨g, jm * 5, none⟩) (.inl rfl) _).setCell (p := ⟨g, jm * 5 + 1, none⟩) (.inl rfl) _).setCell (p := ⟨g, jm * 5 + 2, none⟩) (.inl rfl) _).setCell (p := ⟨g, jm * 5 + 3, none⟩) (.inl rfl) _).setCell (p := ⟨g, jm * 5 + 4, none⟩) (.inl rfl) _⟩
  rw [← hF10, ← hF9, ← hF8, ← hF7, ← hF6, ← hF5, ← hF4, ← hF3, ← hF2, ← hF1]
  clear r1 r2 r3 r4 r5 r6 r7 r8 r9 r10
  obtain ⟨x0, x1, x2, x3, x4⟩ := fdG_at (swpF f J) J
  obtain ⟨y0, y1, y2, y3, y4⟩ := fdG_at (swpF f J) jm
  have sJ : swpF f J J = f jm := by unfold swpF; rw [if_pos rfl, show J - 1 = jm by omega]
  have sj : swpF f J jm = f J := by unfold swpF; rw [if_neg (by omega), if_pos (by omega)]
  rw [sJ] at x0 x1 x2 x3 x4
  rw [sj] at y0 y1 y2 y3 y4
  dsimp only
  by_cases e9 : q = jm * 5 + 4
  · rw [if_pos e9, e9, y4]
  rw [if_neg e9]
  by_cases e8 : q = jm * 5 + 3
  · rw [if_pos e8, e8, y3]
  rw [if_neg e8]
  by_cases e7 : q = jm * 5 + 2
  · rw [if_pos e7, e7, y2]
  rw [if_neg e7]
  by_cases e6 : q = jm * 5 + 1
  · rw [if_pos e6, e6, y1]
  rw [if_neg e6]
  by_cases e5 : q = jm * 5
  · rw [if_pos e5, e5, y0]
  rw [if_neg e5]
  by_cases e4 : q = J * 5 + 4
  · rw [if_pos e4, e4, x4]
  rw [if_neg e4]
  by_cases e3 : q = J * 5 + 3
  · rw [if_pos e3, e3, x3]
  rw [if_neg e3]
  by_cases e2 : q = J * 5 + 2
  · rw [if_pos e2, e2, x2]
  rw [if_neg e2]
  by_cases e1 : q = J * 5 + 1
  · rw [if_pos e1, e1, x1]
  rw [if_neg e1]
  by_cases e0 : q = J * 5
  · rw [if_pos e0, e0, x0]
  rw [if_neg e0]
  unfold fdG
  have : swpF f J (q / 5) = f (q / 5) := by unfold swpF; rw [if_neg (by omega), if_neg (by omega)]
  rw [this]
set_option maxRecDepth 100000 in
set_option maxHeartbeats 800000 in
theorem insort_any (g cap n c a b : Nat) (f : Nat → FoundE) (w : World) (hr : RowW w 52 5 g cap n (fdG f)) (hab : a < b) (hbn : b ≤ n) (hn : n ≤ 100000) :
    Calls Tryz.prog 99 #[.slice (some ⟨g, 0, none⟩) n c, .int .i64 a, .int .i64 b, .func (.func 50) #[] #[]] w fun e w' =>
      e = .returned (.tuple #[]) ∧ RowW w' 52 5 g cap n (fdG (srtF a f (b - a - 1))) ∧ Keep (· = g) w w' := by
  have HR := Lib.hid hr
  clear hr
  go_enter Tryz.func99, Tryz.ntmps99
  go_wp2_with fail
  go_loopw [8] (fun v wr => ∃ k : Nat, a + 1 + k ≤ b ∧ v = .int .i64 (a + 1 + k : Nat) ∧ RowW wr 52 5 g cap n (fdG (srtF a f k)) ∧ Keep (· = g) w wr) (fun v _ => b - (intOf v).toNat)
  case atStart => exact ⟨0, by omega, by go_num, HR.out, Keep.refl _ _⟩
  case round =>
    obtain ⟨k, hk, rfl, hr, hkp⟩ := hrel
    obtain ⟨i, hi⟩ : ∃ i, i = a + 1 + k := ⟨_, rfl⟩
    rw [← hi] at hk ⊢
    by_cases hib : i < b
    · have hib' : (i : Int) < (b : Int) := by omega
      have HRR := Lib.hid hr
      have HKP := Lib.hid hkp
      have HI := Lib.hid hi
      clear hr hkp hi
      go_wp2_with fail
      obtain ⟨F, hF⟩ : ∃ F, F = insF a (srtF a f k) i := ⟨_, rfl⟩
      have HF := Lib.hid hF
      have HN := Lib.hid (show srtF a f (k + 1) = F from by rw [hF, HI.out]; rfl)
      clear hF
      go_loopw [9] (fun v wi => ∃ (j : Nat) (h : Nat → FoundE), a ≤ j ∧ j ≤ i ∧ v = .int .i64 (j : Nat) ∧ insF a h j = F ∧ RowW wi 52 5 g cap n (fdG h) ∧ Keep (· = g) wr wi) (fun v _ => (intOf v).toNat)
      case atStart => exact ⟨i, srtF a f k, by have := HI.out; omega, Nat.le_refl _, rfl, HF.out.symm, HRR.out, Keep.refl _ _⟩
      case round =>
        obtain ⟨j, h, haj, hji, rfl, hins, hrow, hkj⟩ := hrel
        rcases Nat.eq_or_lt_of_le haj with rfl | haj'
        · have hh : h = F := by rw [← hins, insF_end h a (Nat.le_refl _)]
          subst hh
          have hd : decide ((a : Int) < (a : Int)) = false := by simp
          have HRO := Lib.hid hrow
          have HKJ := Lib.hid hkj
          clear hrow hkj hins
          go_upto_region 4 with (fail)
          refine wp_region_kept (by kernel_rfl) (by kernel_rfl) ?_
          repeat (go_big_quiet_step (fail))
          refine wpQuiet_nil ?_
          rintro w2 ⟨⟨_, k2⟩, rfl⟩
          have HR2 := Lib.hid (HRO.out.keep k2 (by simp))
          have HK2 := Lib.hid (HKP.out.trans (HKJ.out.trans k2 (fun _ e => e.elim)) (fun _ e => .inl e))
          rw [← HN.out] at HR2
          clear hd k2 HRO HKJ HF HN
          go_wp2_with fail
          go_roundw
          case rel => exact ⟨k + 1, by have := HI.out; omega, by have := HI.out; go_num, HR2.out, HK2.out⟩
          case measure => simp [intOf]; omega
        · obtain ⟨jm, rfl⟩ : ∃ jm, j = jm + 1 := ⟨j - 1, by omega⟩
          obtain ⟨J, hJ⟩ : ∃ J, J = jm + 1 := ⟨_, rfl⟩
          have hins' : insF a h J = F := by rw [hJ]; exact hins
          have hJn : J < n := by omega
          have e1 : IntKind.i64.wrap ((J : Int) - 1) = (jm : Int) := by rw [hJ, show ((jm + 1 : Nat) : Int) - 1 = (jm : Int) by omega]; exact wraps_i64 _ (by omega) (by omega)
          have e4 : (J : Int) - 1 = (jm : Int) := by omega
          have haJ : a < J := by omega
          have hJi : J ≤ i := by omega
          have hins0 : keyC (h J) (h jm) < 0 → insF a (swpF h J) jm = F := fun hc => by rw [← hins, hJ]; rw [hJ] at hc; exact (if_pos ⟨haj', hc⟩).symm
          have hins1 : ¬ keyC (h J) (h jm) < 0 → h = F := fun hc => by rw [← hins]; rw [hJ] at hc; exact (if_neg (fun e => hc e.2)).symm
          rw [← hJ]
          have HJ := Lib.hid hJ
          clear hJ hins hins' haj haj' hji
          obtain ⟨a0, a1, a2, a3, a4⟩ := ArgW.five hrow hJn
          obtain ⟨b0, b1, b2, b3, b4⟩ := ArgW.five hrow (show jm < n by have := HJ.out; omega)
          have u0 : ∀ p : KeptBy wr, p.v.cell? ⟨g, J * 5, none⟩ = some (.int .i64 (h J).p) := fun p => p.cell hrow.lt a0
          have u1 : ∀ p : KeptBy wr, p.v.cell? ⟨g, J * 5 + 1, none⟩ = some (.int .i64 (h J).k) := fun p => p.cell hrow.lt a1
          have u2 : ∀ p : KeptBy wr, p.v.cell? ⟨g, J * 5 + 2, none⟩ = some (.int .i64 (h J).l) := fun p => p.cell hrow.lt a2
          have u3 : ∀ p : KeptBy wr, p.v.cell? ⟨g, J * 5 + 3, none⟩ = some (.int .i64 (h J).s) := fun p => p.cell hrow.lt a3
          have u4 : ∀ p : KeptBy wr, p.v.cell? ⟨g, J * 5 + 4, none⟩ = some (.int .i64 (h J).m) := fun p => p.cell hrow.lt a4
          have v0 : ∀ p : KeptBy wr, p.v.cell? ⟨g, jm * 5, none⟩ = some (.int .i64 (h jm).p) := fun p => p.cell hrow.lt b0
          have v1 : ∀ p : KeptBy wr, p.v.cell? ⟨g, jm * 5 + 1, none⟩ = some (.int .i64 (h jm).k) := fun p => p.cell hrow.lt b1
          have v2 : ∀ p : KeptBy wr, p.v.cell? ⟨g, jm * 5 + 2, none⟩ = some (.int .i64 (h jm).l) := fun p => p.cell hrow.lt b2
          have v3 : ∀ p : KeptBy wr, p.v.cell? ⟨g, jm * 5 + 3, none⟩ = some (.int .i64 (h jm).s) := fun p => p.cell hrow.lt b3
          have v4 : ∀ p : KeptBy wr, p.v.cell? ⟨g, jm * 5 + 4, none⟩ = some (.int .i64 (h jm).m) := fun p => p.cell hrow.lt b4
          have hda : decide ((a : Int) < (J : Int)) = true := decide_eq_true (by omega)
          have hJn' : (J : Int) < (n : Int) := by omega
          have hjn' : (jm : Int) < (n : Int) := by omega
          have hjn : jm < n := by omega
          have HRO := Lib.hid hrow
          have HKJ := Lib.hid hkj
          clear a0 a1 a2 a3 a4 b0 b1 b2 b3 b4 hrow hkj
          by_cases hc : keyC (h J) (h jm) < 0
          · have hd2 : decide (keyC (h J) (h jm) < 0) = true := decide_eq_true hc
            go_upto_region 4 with (fail)
            refine wp_region_kept (by kernel_rfl) (by kernel_rfl) ?_
            repeat (go_big_quiet_step (first | (go_at_call 50; exact kept_of (latest1_any (h J) (h jm) _))))
            refine wpQuiet_nil ?_
            rintro w2 ⟨⟨_, k2⟩, rfl⟩
            have hR2 := HRO.out.keep k2 (by simp)
            have HK2 := Lib.hid (HKJ.out.trans k2 (fun _ e => e.elim))
            have hF2 := hins0 hc
            clear hd2 k2 HRO HKJ hins0 hins1 u0 u1 u2 u3 u4 v0 v1 v2 v3 v4 hda hc
            obtain ⟨a0, a1, a2, a3, a4⟩ := ArgW.five hR2 hJn
            obtain ⟨b0, b1, b2, b3, b4⟩ := ArgW.five hR2 hjn
            have hj1 : J = jm + 1 := HJ.out
            obtain ⟨⟨⟨_, c0⟩, z0⟩, ⟨⟨_, c1⟩, z1⟩, ⟨⟨_, c2⟩, z2⟩, ⟨⟨_, c3⟩, z3⟩, ⟨⟨_, c4⟩, z4⟩, ⟨⟨_, c5⟩, z5⟩, ⟨⟨_, c6⟩, z6⟩, ⟨⟨_, c7⟩, z7⟩, ⟨⟨_, c8⟩, z8⟩, ⟨⟨_, c9⟩, z9⟩, RF, KF⟩ := swap_put hR2 hj1 hJn
            have HRF := Lib.hid RF
            have HKF := Lib.hid (HK2.out.trans KF (fun _ e => .inl e))
            have HB := Lib.hid (And.intro haJ hJi)
            clear hR2 RF KF hj1 c0
            go_upto_region 6 with (fail)
            go_region
            all_goals
              go_wp2_with fail
              go_roundw
              case rel => exact ⟨jm, swpF h J, by have := HJ.out; have := HB.out; omega, by have := HJ.out; have := HB.out; omega, by go_num, hF2, RowW.drewN HRF.out 1, HKF.out.drewN 1⟩
              case measure => have := HJ.out; simp [intOf]; omega
          · have hd2 : decide (keyC (h J) (h jm) < 0) = false := decide_eq_false hc
            obtain rfl := hins1 hc
            clear hins0 hins1
            go_upto_region 4 with (fail)
            refine wp_region_kept (by kernel_rfl) (by kernel_rfl) ?_
            repeat (go_big_quiet_step (first | (go_at_call 50; exact kept_of (latest1_any (h J) (h jm) _))))
            refine wpQuiet_nil ?_
            rintro w2 ⟨⟨_, k2⟩, rfl⟩
            have HR2 := Lib.hid (HRO.out.keep k2 (by simp))
            have HK2 := Lib.hid (HKP.out.trans (HKJ.out.trans k2 (fun _ e => e.elim)) (fun _ e => .inl e))
            rw [← HN.out] at HR2
            clear hd2 k2 HRO HKJ HF HN u0 u1 u2 u3 u4 v0 v1 v2 v3 v4 hda e1 e4
            go_wp2_with fail
            go_roundw
            case rel => exact ⟨k + 1, by have := HI.out; omega, by have := HI.out; go_num, HR2.out, HK2.out⟩
            case measure => simp [intOf]; omega
    · obtain rfl : i = b := by omega
      have hib' : ¬ (i : Int) < (i : Int) := by omega
      have e : i - a - 1 = k := by omega
      rw [← e] at hr
      have HRR := Lib.hid hr
      clear hr hi e
      go_wp2_with fail
      go_end0
      exact ⟨rfl, HRR.out, hkp⟩
end Go.Proofs.YtdlmjjlejkkniaaGreat

namespace Go.Proofs.YtdlmjjlejkkniaaGreat
open Go.RowKit

def cmpF : Value := .func (.func 50) #[] #[]
theorem insort_none (c : Nat) (w : World) :
    Calls Tryz.prog 99 #[.slice none 0 c, .int .i64 0, .int .i64 0, .func (.func 50) #[] #[]] w fun e w' => e = .returned (.tuple #[]) ∧ w' = w := by
  go_enter Tryz.func99, Tryz.ntmps99
  go_wp2_with fail
  refine wp_loop_rounds 1 ?_
  rw [rounds_succ]
  go_wp2_with fail
  go_end0
  exact ⟨rfl, rfl⟩
set_option maxRecDepth 100000 in
set_option maxHeartbeats 800000 in
theorem stable_any (g cap n c : Nat) (f : Nat → FoundE) (w : World) (hr : RowW w 52 5 g cap n (fdG f)) (h0 : 0 < n) (hn : n < 20) :
    Calls Tryz.prog 49 #[.slice (some ⟨g, 0, none⟩) n c, .func (.func 50) #[] #[]] w fun e w' =>
      e = .returned (.tuple #[]) ∧ RowW w' 52 5 g cap n (fdG (srtF 0 f (n - 1))) ∧ Keep (· = g) w w' := by
  have hi := Lib.hid (insort_any g cap n c 0 n f w hr h0 (Nat.le_refl _) (by omega))
  clear hr
  have hn' : (n : Int) < 20 := by omega
  have h1 : Calls Tryz.prog 80 #[.slice (some ⟨g, 0, none⟩) n c, .int .i64 n, .func (.func 50) #[] #[]] w fun e w' =>
      e = .returned (.tuple #[]) ∧ RowW w' 52 5 g cap n (fdG (srtF 0 f (n - 1))) ∧ Keep (· = g) w w' := by
    go_enter Tryz.func80, Tryz.ntmps80
    go_wp2_with fail
    refine wp_loop_rounds 1 ?_
    rw [rounds_succ]
    go_wp2_with fail
    refine hi.out.mono ?_
    rintro e w1 ⟨rfl, hr, hk⟩
    have HR := Lib.hid hr
    clear hr hi
    go_wp2_with fail
    refine wp_loop_rounds 1 ?_
    rw [rounds_succ]
    go_wp2_with fail
    go_end0
    exact ⟨rfl, HR.out, hk⟩
  have H1 := Lib.hid h1
  clear h1 hi
  go_enter Tryz.func49, Tryz.ntmps49
  go_wp2_with fail
  refine H1.out.mono ?_
  rintro e w1 ⟨rfl, hr, hk⟩
  have HR := Lib.hid hr
  clear hr H1
  go_wp2_with fail
  go_end0
  exact ⟨rfl, HR.out, hk⟩
set_option maxRecDepth 100000 in
set_option maxHeartbeats 800000 in
theorem stable_nil (c : Nat) (w : World) :
    Calls Tryz.prog 49 #[.slice none 0 c, .func (.func 50) #[] #[]] w fun e w' => e = .returned (.tuple #[]) ∧ w' = w := by
  have h1 : Calls Tryz.prog 80 #[.slice none 0 c, .int .i64 0, .func (.func 50) #[] #[]] w fun e w' => e = .returned (.tuple #[]) ∧ w' = w := by
    go_enter Tryz.func80, Tryz.ntmps80
    go_wp2_with fail
    refine wp_loop_rounds 1 ?_
    rw [rounds_succ]
    go_wp2_with fail
    refine (insort_none c w).mono ?_
    rintro e w1 ⟨rfl, rfl⟩
    go_wp2_with fail
    refine wp_loop_rounds 1 ?_
    rw [rounds_succ]
    go_wp2_with fail
    go_end0
    exact ⟨rfl, rfl⟩
  go_enter Tryz.func49, Tryz.ntmps49
  go_wp2_with fail
  refine h1.mono ?_
  rintro e w1 ⟨rfl, rfl⟩
  go_wp2_with fail
  go_end0
  exact ⟨rfl, rfl⟩
end Go.Proofs.YtdlmjjlejkkniaaGreat

namespace Go.Proofs.YtdlmjjlejkkniaaGreat

/-- g is f with what stands in [a, b) stood otherwise. -/
def PermOn {α : Type} (a b : Nat) (f g : Nat → α) : Prop := ∃ s t : Nat → Nat, (∀ i, s (t i) = i) ∧ (∀ i, t (s i) = i) ∧ (∀ i, ¬ (a ≤ i ∧ i < b) → s i = i) ∧ ∀ i, g i = f (s i)
def Srt {α : Type} (le : α → α → Prop) (f : Nat → α) (a b : Nat) : Prop := ∀ i j, a ≤ i → i < j → j < b → le (f i) (f j)
section
variable {α : Type} {le : α → α → Prop} {f g h : Nat → α} {a b c d m : Nat}
theorem PermOn.refl (a b : Nat) (f : Nat → α) : PermOn a b f f := ⟨id, id, fun _ => rfl, fun _ => rfl, fun _ _ => rfl, fun _ => rfl⟩
theorem PermOn.trans (p : PermOn a b f g) (q : PermOn a b g h) : PermOn a b f h := by
  obtain ⟨s, t, h1, h2, h3, h4⟩ := p
  obtain ⟨s', t', k1, k2, k3, k4⟩ := q
  refine ⟨fun i => s (s' i), fun i => t' (t i), fun i => ?_, fun i => ?_, fun i hi => ?_, fun i => ?_⟩
  · show s (s' (t' (t i))) = i
    rw [k1, h1]
  · show t' (t (s (s' i))) = i
    rw [h2, k2]
  · show s (s' i) = i
    rw [k3 i hi, h3 i hi]
  · rw [k4, h4]
theorem PermOn.more (p : PermOn a b f g) (ha : c ≤ a) (hb : b ≤ d) : PermOn c d f g := by
  obtain ⟨s, t, h1, h2, h3, h4⟩ := p
  exact ⟨s, t, h1, h2, fun i hi => h3 i (fun e => hi (by omega)), h4⟩
theorem PermOn.out (p : PermOn a b f g) {i : Nat} (hi : ¬ (a ≤ i ∧ i < b)) : g i = f i := by
  obtain ⟨s, t, h1, h2, h3, h4⟩ := p
  rw [h4, h3 i hi]
theorem PermOn.from (p : PermOn a b f g) {i : Nat} (h1 : a ≤ i) (h2 : i < b) : ∃ j, a ≤ j ∧ j < b ∧ g i = f j := by
  obtain ⟨s, t, k1, k2, k3, k4⟩ := p
  refine Classical.byContradiction fun e => ?_
  have e1 : ¬ (a ≤ s i ∧ s i < b) := fun k => e ⟨s i, k.1, k.2, k4 i⟩
  have e2 := k3 _ e1
  have e3 := congrArg t e2
  rw [k2, k2] at e3
  rw [e3] at e1
  exact e1 ⟨h1, h2⟩
theorem PermOn.to (p : PermOn a b f g) {i : Nat} (h1 : a ≤ i) (h2 : i < b) : ∃ j, a ≤ j ∧ j < b ∧ g j = f i := by
  obtain ⟨s, t, k1, k2, k3, k4⟩ := p
  refine ⟨t i, ?_⟩
  have e1 : a ≤ t i ∧ t i < b := by
    refine Classical.byContradiction fun e => ?_
    have e2 := k3 _ e
    rw [k1] at e2
    rw [← e2] at e
    exact e ⟨h1, h2⟩
  exact ⟨e1.1, e1.2, by rw [k4, k1]⟩
theorem PermOn.congr {g' : Nat → α} (p : PermOn a b f g) (e : ∀ i, g i = g' i) : PermOn a b f g' := by
  obtain ⟨s, t, h1, h2, h3, h4⟩ := p
  exact ⟨s, t, h1, h2, h3, fun i => by rw [← e, h4]⟩

/-- f with x and y changed. -/
def swpG (f : Nat → α) (x y : Nat) : Nat → α := fun q => if q = x then f y else if q = y then f x else f q
theorem swp_perm (f : Nat → α) {x y : Nat} (hx : a ≤ x ∧ x < b) (hy : a ≤ y ∧ y < b) : PermOn a b f (swpG f x y) := by
  refine ⟨fun q => if q = x then y else if q = y then x else q, fun q => if q = x then y else if q = y then x else q, fun i => ?_, fun i => ?_, fun i hi => ?_, fun i => ?_⟩
  · show (if (if i = x then y else if i = y then x else i) = x then y else if (if i = x then y else if i = y then x else i) = y then x else (if i = x then y else if i = y then x else i)) = i
    by_cases e1 : i = x
    · subst e1
      rw [if_pos rfl]
      by_cases e2 : y = i
      · rw [if_pos e2, e2]
      · rw [if_neg e2, if_pos rfl]
    · rw [if_neg e1]
      by_cases e2 : i = y
      · subst e2
        rw [if_pos rfl, if_pos rfl]
      · rw [if_neg e2, if_neg e1, if_neg e2]
  · show (if (if i = x then y else if i = y then x else i) = x then y else if (if i = x then y else if i = y then x else i) = y then x else (if i = x then y else if i = y then x else i)) = i
    by_cases e1 : i = x
    · subst e1
      rw [if_pos rfl]
      by_cases e2 : y = i
      · rw [if_pos e2, e2]
      · rw [if_neg e2, if_pos rfl]
    · rw [if_neg e1]
      by_cases e2 : i = y
      · subst e2
        rw [if_pos rfl, if_pos rfl]
      · rw [if_neg e2, if_neg e1, if_neg e2]
  · show (if i = x then y else if i = y then x else i) = i
    rw [if_neg (by omega), if_neg (by omega)]
  · show (if i = x then f y else if i = y then f x else f i) = f (if i = x then y else if i = y then x else i)
    by_cases e1 : i = x
    · rw [if_pos e1, if_pos e1]
    · rw [if_neg e1, if_neg e1]
      by_cases e2 : i = y
      · rw [if_pos e2, if_pos e2]
      · rw [if_neg e2, if_neg e2]

/-- [a, m) and [m, b) stood the other way round. -/
def rotF (f : Nat → α) (a m b : Nat) : Nat → α := fun q => if a ≤ q ∧ q < a + (b - m) then f (q - a + m) else if a + (b - m) ≤ q ∧ q < b then f (q - (b - m)) else f q
theorem rot_lo (f : Nat → α) {q : Nat} (h1 : a ≤ q) (h2 : q < a + (b - m)) : rotF f a m b q = f (q - a + m) := if_pos ⟨h1, h2⟩
theorem rot_hi (f : Nat → α) {q : Nat} (h1 : a + (b - m) ≤ q) (h2 : q < b) : rotF f a m b q = f (q - (b - m)) := by
  unfold rotF
  rw [if_neg (by omega), if_pos ⟨h1, h2⟩]
theorem rot_out (f : Nat → α) (ham : a ≤ m) (hmb : m ≤ b) {q : Nat} (hq : ¬ (a ≤ q ∧ q < b)) : rotF f a m b q = f q := by
  unfold rotF
  rw [if_neg (by omega), if_neg (by omega)]
theorem rot_perm (f : Nat → α) (ham : a ≤ m) (hmb : m ≤ b) : PermOn a b f (rotF f a m b) := by
  refine ⟨rotF id a m b, rotF id a (a + (b - m)) b, fun i => ?_, fun i => ?_, fun i hi => ?_, fun i => ?_⟩
  · by_cases h1 : a ≤ i ∧ i < b
    · by_cases h2 : i < m
      · rw [rot_lo id h1.1 (show i < a + (b - (a + (b - m))) by omega)]
        show rotF id a m b (i - a + (a + (b - m))) = i
        rw [rot_hi id (by omega) (by omega)]
        show i - a + (a + (b - m)) - (b - m) = i
        omega
      · rw [rot_hi id (show a + (b - (a + (b - m))) ≤ i by omega) h1.2]
        show rotF id a m b (i - (b - (a + (b - m)))) = i
        rw [rot_lo id (by omega) (by omega)]
        show i - (b - (a + (b - m))) - a + m = i
        omega
    · rw [rot_out id (show a ≤ a + (b - m) by omega) (by omega) h1]
      show rotF id a m b i = i
      rw [rot_out id ham hmb h1]
      rfl
  · by_cases h1 : a ≤ i ∧ i < b
    · by_cases h2 : i < a + (b - m)
      · rw [rot_lo id h1.1 h2]
        show rotF id a (a + (b - m)) b (i - a + m) = i
        rw [rot_hi id (by omega) (by omega)]
        show i - a + m - (b - (a + (b - m))) = i
        omega
      · rw [rot_hi id (by omega) h1.2]
        show rotF id a (a + (b - m)) b (i - (b - m)) = i
        rw [rot_lo id (by omega) (by omega)]
        show i - (b - m) - a + (a + (b - m)) = i
        omega
    · rw [rot_out id ham hmb h1]
      show rotF id a (a + (b - m)) b i = i
      rw [rot_out id (show a ≤ a + (b - m) by omega) (by omega) h1]
      rfl
  · rw [rot_out id ham hmb hi]
    rfl
  · by_cases h1 : a ≤ i ∧ i < b
    · by_cases h2 : i < a + (b - m)
      · rw [rot_lo id h1.1 h2, rot_lo f h1.1 h2]
        rfl
      · rw [rot_hi id (by omega) h1.2, rot_hi f (by omega) h1.2]
        rfl
    · rw [rot_out id ham hmb h1, rot_out f ham hmb h1]
      rfl
/-- [x, x + n) and [y, y + n) changed. -/
def swrF (f : Nat → α) (x y n : Nat) : Nat → α := fun q => if x ≤ q ∧ q < x + n then f (q - x + y) else if y ≤ q ∧ q < y + n then f (q - y + x) else f q
theorem swr_zero (f : Nat → α) (x y : Nat) : swrF f x y 0 = f := by
  funext q
  unfold swrF
  rw [if_neg (by omega), if_neg (by omega)]
theorem swr_succ (f : Nat → α) {x y n : Nat} (h : x + n < y) : swpG (swrF f x y n) (x + n) (y + n) = swrF f x y (n + 1) := by
  funext q
  unfold swpG swrF
  by_cases e1 : q = x + n
  · subst e1
    rw [if_pos rfl, if_neg (by omega), if_neg (by omega), if_pos (by omega), show x + n - x + y = y + n by omega]
  · rw [if_neg e1]
    by_cases e2 : q = y + n
    · subst e2
      rw [if_pos rfl, if_neg (by omega), if_neg (by omega), if_neg (by omega), if_pos (by omega), show y + n - y + x = x + n by omega]
    · rw [if_neg e2]
      by_cases e3 : x ≤ q ∧ q < x + n
      · rw [if_pos e3, if_pos (by omega)]
      · by_cases e4 : y ≤ q ∧ q < y + n
        · rw [if_neg e3, if_pos e4, if_neg (by omega), if_pos (by omega)]
        · rw [if_neg e3, if_neg e4, if_neg (by omega), if_neg (by omega)]
/-- The turning's rounds: i behind m are turned with j from it. -/
theorem rot_gt (f : Nat → α) {i j m : Nat} (hi : i ≤ m) (hij : j < i) : rotF (swrF f (m - i) m j) (m - (i - j)) m (m + j) = rotF f (m - i) m (m + j) := by
  obtain ⟨x, hx⟩ : ∃ x, x + i = m := ⟨m - i, by omega⟩
  obtain ⟨y, hy⟩ : ∃ y, y + (i - j) = m := ⟨m - (i - j), by omega⟩
  rw [show m - i = x by omega, show m - (i - j) = y by omega]
  funext q
  by_cases e0 : q < x
  · rw [rot_out _ (by omega) (by omega) (by omega), rot_out _ (by omega) (by omega) (by omega)]
    unfold swrF
    rw [if_neg (by omega), if_neg (by omega)]
  by_cases e1 : q < y
  · rw [rot_out _ (by omega) (by omega) (by omega), rot_lo _ (by omega) (by omega)]
    unfold swrF
    rw [if_pos (by omega)]
  by_cases e2 : q < y + j
  · rw [rot_lo _ (by omega) (by omega), rot_hi _ (by omega) (by omega)]
    unfold swrF
    rw [if_neg (by omega), if_pos (by omega)]
    exact congrArg f (by omega)
  by_cases e3 : q < m + j
  · rw [rot_hi _ (by omega) (by omega), rot_hi _ (by omega) (by omega)]
    unfold swrF
    rw [if_neg (by omega), if_neg (by omega)]
  · rw [rot_out _ (by omega) (by omega) (by omega), rot_out _ (by omega) (by omega) (by omega)]
    unfold swrF
    rw [if_neg (by omega), if_neg (by omega)]
theorem rot_lt (f : Nat → α) {i j m : Nat} (hi : i ≤ m) (hij : i < j) : rotF (swrF f (m - i) (m + j - i) i) (m - i) m (m + (j - i)) = rotF f (m - i) m (m + j) := by
  obtain ⟨x, hx⟩ : ∃ x, x + i = m := ⟨m - i, by omega⟩
  rw [show m - i = x by omega]
  funext q
  by_cases e0 : q < x
  · rw [rot_out _ (by omega) (by omega) (by omega), rot_out _ (by omega) (by omega) (by omega)]
    unfold swrF
    rw [if_neg (by omega), if_neg (by omega)]
  by_cases e1 : q < x + (j - i)
  · rw [rot_lo _ (by omega) (by omega), rot_lo _ (by omega) (by omega)]
    unfold swrF
    rw [if_neg (by omega), if_neg (by omega)]
  by_cases e2 : q < x + j
  · rw [rot_hi _ (by omega) (by omega), rot_lo _ (by omega) (by omega)]
    unfold swrF
    rw [if_pos (by omega)]
    exact congrArg f (by omega)
  by_cases e3 : q < m + j
  · rw [rot_out _ (by omega) (by omega) (by omega), rot_hi _ (by omega) (by omega)]
    unfold swrF
    rw [if_neg (by omega), if_pos (by omega)]
    exact congrArg f (by omega)
  · rw [rot_out _ (by omega) (by omega) (by omega), rot_out _ (by omega) (by omega) (by omega)]
    unfold swrF
    rw [if_neg (by omega), if_neg (by omega)]
theorem rot_eq (f : Nat → α) {i m : Nat} (hi : i ≤ m) : swrF f (m - i) m i = rotF f (m - i) m (m + i) := by
  obtain ⟨x, hx⟩ : ∃ x, x + i = m := ⟨m - i, by omega⟩
  rw [show m - i = x by omega]
  funext q
  unfold swrF
  by_cases e1 : x ≤ q ∧ q < x + i
  · rw [if_pos e1, rot_lo _ (by omega) (by omega)]
  · by_cases e2 : m ≤ q ∧ q < m + i
    · rw [if_neg e1, if_pos e2, rot_hi _ (by omega) (by omega)]
      exact congrArg f (by omega)
    · rw [if_neg e1, if_neg e2, rot_out _ (by omega) (by omega) (by omega)]

theorem Srt.sub (h : Srt le f a b) (h1 : a ≤ c) (h2 : d ≤ b) : Srt le f c d := fun i j x y z => h i j (by omega) y (by omega)
theorem Srt.congr (h : Srt le f a b) (e : ∀ i, a ≤ i → i < b → g i = f i) : Srt le g a b := fun i j x y z => by
  rw [e i x (by omega), e j (by omega) z]
  exact h i j x y z
theorem Srt.none (le : α → α → Prop) (f : Nat → α) (h : b ≤ a + 1) : Srt le f a b := fun i j x y z => by omega
/-- Two rows that are in order, each of the first at most each of the second. -/
theorem Srt.join (h1 : Srt le f a m) (h2 : Srt le f m b) (h3 : ∀ i j, a ≤ i → i < m → m ≤ j → j < b → le (f i) (f j)) : Srt le f a b := fun i j x y z => by
  by_cases e1 : j < m
  · exact h1 i j x y e1
  · by_cases e2 : i < m
    · exact h3 i j x e2 (by omega) z
    · exact h2 i j (by omega) y z
/-- One that is put in its place from the front. -/
theorem front_law (tr : ∀ x y z, le x y → le y z → le x z) {i : Nat} (h : Srt le f (a + 1) b) (hi : a + 1 ≤ i) (hb : i ≤ b) (lo : i = a + 1 ∨ le (f (i - 1)) (f a)) (hi' : i = b ∨ le (f a) (f i)) : Srt le (rotF f a (a + 1) i) a b := by
  have v1 : ∀ q, a ≤ q → q < i - 1 → rotF f a (a + 1) i q = f (q + 1) := fun q h1 h2 => by
    rw [rot_lo f h1 (by omega)]
    exact congrArg f (by omega)
  have v2 : rotF f a (a + 1) i (i - 1) = f a := by
    rw [rot_hi f (by omega) (by omega)]
    exact congrArg f (by omega)
  have v3 : ∀ q, i ≤ q → rotF f a (a + 1) i q = f q := fun q h1 => rot_out f (by omega) (by omega) (by omega)
  have up : ∀ q, a + 1 ≤ q → q < i → le (f q) (f a) := fun q h1 h2 => by
    rcases lo with e | e
    · omega
    · by_cases e2 : q = i - 1
      · rw [e2]
        exact e
      · exact tr _ _ _ (h q (i - 1) h1 (by omega) (by omega)) e
  have dn : ∀ q, i ≤ q → q < b → le (f a) (f q) := fun q h1 h2 => by
    rcases hi' with e | e
    · omega
    · by_cases e2 : q = i
      · rw [e2]
        exact e
      · exact tr _ _ _ e (h i q (by omega) (by omega) h2)
  intro x y hx hxy hy
  by_cases e1 : x < i - 1
  · rw [v1 x hx e1]
    by_cases e2 : y < i - 1
    · rw [v1 y (by omega) e2]
      exact h _ _ (by omega) (by omega) (by omega)
    · by_cases e3 : y = i - 1
      · rw [e3, v2]
        exact up _ (by omega) (by omega)
      · rw [v3 y (by omega)]
        exact h _ _ (by omega) (by omega) hy
  · by_cases e2 : x = i - 1
    · rw [e2, v2, v3 y (by omega)]
      exact dn y (by omega) hy
    · rw [v3 x (by omega), v3 y (by omega)]
      exact h _ _ (by omega) hxy hy
/-- One that is put in its place from behind. -/
theorem back_law (tr : ∀ x y z, le x y → le y z → le x z) {i : Nat} (h : Srt le f a m) (hi : a ≤ i) (hb : i ≤ m) (lo : i = a ∨ le (f (i - 1)) (f m)) (hi' : i = m ∨ le (f m) (f i)) : Srt le (rotF f i m (m + 1)) a (m + 1) := by
  have v1 : ∀ q, q < i → rotF f i m (m + 1) q = f q := fun q h1 => rot_out f (by omega) (by omega) (by omega)
  have v2 : rotF f i m (m + 1) i = f m := by
    rw [rot_lo f (by omega) (by omega)]
    exact congrArg f (by omega)
  have v3 : ∀ q, i < q → q < m + 1 → rotF f i m (m + 1) q = f (q - 1) := fun q h1 h2 => by
    rw [rot_hi f (by omega) (by omega)]
    exact congrArg f (by omega)
  have up : ∀ q, a ≤ q → q < i → le (f q) (f m) := fun q h1 h2 => by
    rcases lo with e | e
    · omega
    · by_cases e2 : q = i - 1
      · rw [e2]
        exact e
      · exact tr _ _ _ (h q (i - 1) h1 (by omega) (by omega)) e
  have dn : ∀ q, i ≤ q → q < m → le (f m) (f q) := fun q h1 h2 => by
    rcases hi' with e | e
    · omega
    · by_cases e2 : q = i
      · rw [e2]
        exact e
      · exact tr _ _ _ e (h i q (by omega) (by omega) h2)
  intro x y hx hxy hy
  by_cases e1 : x < i
  · rw [v1 x e1]
    by_cases e2 : y < i
    · rw [v1 y e2]
      exact h _ _ hx hxy (by omega)
    · by_cases e3 : y = i
      · rw [e3, v2]
        exact up _ hx e1
      · rw [v3 y (by omega) hy]
        by_cases e4 : x < y - 1
        · exact h _ _ hx e4 (by omega)
        · omega
  · by_cases e2 : x = i
    · rw [e2, v2, v3 y (by omega) hy]
      exact dn _ (by omega) (by omega)
    · rw [v3 x (by omega) (by omega), v3 y (by omega) hy]
      exact h _ _ (by omega) (by omega) (by omega)
/-- The middle: what the search found. -/
theorem halves_law (tr : ∀ x y z, le x y → le y z → le x z) {start mid : Nat} (s1 : Srt le f a m) (s2 : Srt le f m b) (ham : a < m) (hmb : m < b) (hmid : mid = (a + b) / 2)
    (h0 : a ≤ start) (h1 : start ≤ m) (h2 : start ≤ mid) (h3 : mid + m ≤ start + b)
    (lo : (start = a ∨ mid + m = start + b) ∨ le (f (start - 1)) (f (mid + m - start)))
    (hi : (start = m ∨ start = mid) ∨ le (f (mid + m - 1 - start)) (f start)) :
    Srt le (rotF f start m (mid + m - start)) a start ∧ Srt le (rotF f start m (mid + m - start)) start mid ∧ Srt le (rotF f start m (mid + m - start)) mid (mid + m - start) ∧ Srt le (rotF f start m (mid + m - start)) (mid + m - start) b
    ∧ (∀ i j, a ≤ i → i < mid → mid ≤ j → j < b → le (rotF f start m (mid + m - start) i) (rotF f start m (mid + m - start) j)) := by
  have v1 : ∀ q, q < start → rotF f start m (mid + m - start) q = f q := fun q h => rot_out f (by omega) (by omega) (by omega)
  have v2 : ∀ q, start ≤ q → q < mid → rotF f start m (mid + m - start) q = f (q - start + m) := fun q x y => rot_lo f x (by omega)
  have v3 : ∀ q, mid ≤ q → q < mid + m - start → rotF f start m (mid + m - start) q = f (q - (mid - start)) := fun q x y => by
    rw [rot_hi f (by omega) y]
    exact congrArg f (by omega)
  have v4 : ∀ q, mid + m - start ≤ q → rotF f start m (mid + m - start) q = f q := fun q x => rot_out f (by omega) (by omega) (by omega)
  refine ⟨fun i j x y z => ?_, fun i j x y z => ?_, fun i j x y z => ?_, fun i j x y z => ?_, fun i j x y z t => ?_⟩
  · rw [v1 i (by omega), v1 j z]
    exact s1 _ _ x y (by omega)
  · rw [v2 i x (by omega), v2 j (by omega) z]
    exact s2 _ _ (by omega) (by omega) (by omega)
  · rw [v3 i x (by omega), v3 j (by omega) z]
    exact s1 _ _ (by omega) (by omega) (by omega)
  · rw [v4 i x, v4 j (by omega)]
    exact s2 _ _ (by omega) y z
  · by_cases e1 : i < start
    · rw [v1 i e1]
      by_cases e2 : j < mid + m - start
      · rw [v3 j z e2]
        exact s1 _ _ x (by omega) (by omega)
      · rw [v4 j (by omega)]
        rcases lo with (e | e) | e
        · omega
        · omega
        · have l1 : le (f i) (f (mid + m - start)) := by
            by_cases e3 : i = start - 1
            · rw [e3]
              exact e
            · exact tr _ _ _ (s1 i (start - 1) x (by omega) (by omega)) e
          by_cases e3 : j = mid + m - start
          · rw [e3]
            exact l1
          · exact tr _ _ _ l1 (s2 _ _ (by omega) (by omega) t)
    · rw [v2 i (by omega) y]
      by_cases e2 : j < mid + m - start
      · rw [v3 j z e2]
        rcases hi with (e | e) | e
        · omega
        · omega
        · have l1 : le (f (i - start + m)) (f start) := by
            by_cases e3 : i - start + m = mid + m - 1 - start
            · rw [e3]
              exact e
            · exact tr _ _ _ (s2 _ _ (by omega) (by omega) (by omega)) e
          by_cases e3 : j - (mid - start) = start
          · rw [e3]
            exact l1
          · exact tr _ _ _ l1 (s1 _ _ (by omega) (by omega) (by omega))
      · rw [v4 j (by omega)]
        exact s2 _ _ (by omega) (by omega) t
/-- Both halves put in order, the whole is. -/
theorem whole_law {mid : Nat} (h1 : Srt le g a mid) (h2 : Srt le g mid b) (p : PermOn a mid f h) (q : PermOn mid b h g) (x : ∀ i j, a ≤ i → i < mid → mid ≤ j → j < b → le (f i) (f j)) : Srt le g a b := by
  refine Srt.join h1 h2 fun i j a1 a2 a3 a4 => ?_
  obtain ⟨k, k1, k2, e⟩ := q.from a3 a4
  obtain ⟨l, l1, l2, e'⟩ := p.from a1 a2
  rw [q.out (i := i) (by omega), e', e, p.out (i := k) (by omega)]
  exact x l k l1 l2 k1 k2
end
end Go.Proofs.YtdlmjjlejkkniaaGreat

namespace Go.Proofs.YtdlmjjlejkkniaaGreat
open Go.RowKit

theorem swap_two {w : World} {T : TypeId} {g cap n x y : Nat} {f : Nat → FoundE} (h : RowW w T 5 g cap n (fdG f)) (hne : x ≠ y) (hx : x < n) (hy : y < n) :
    ((∃ u, w.cell? ⟨g, x * 5, none⟩ = some u) ∧ w.frozen? ⟨g, x * 5, none⟩ = false) ∧
    ((∃ u, (w.setCell ⟨g, x * 5, none⟩ (.int .i64 (f y).p)).cell? ⟨g, x * 5 + 1, none⟩ = some u) ∧ (w.setCell ⟨g, x * 5, none⟩ (.int .i64 (f y).p)).frozen? ⟨g, x * 5 + 1, none⟩ = false) ∧
    ((∃ u, ((w.setCell ⟨g, x * 5, none⟩ (.int .i64 (f y).p)).setCell ⟨g, x * 5 + 1, none⟩ (.int .i64 (f y).k)).cell? ⟨g, x * 5 + 2, none⟩ = some u) ∧ ((w.setCell ⟨g, x * 5, none⟩ (.int .i64 (f y).p)).setCell ⟨g, x * 5 + 1, none⟩ (.int .i64 (f y).k)).frozen? ⟨g, x * 5 + 2, none⟩ = false) ∧
    ((∃ u, (((w.setCell ⟨g, x * 5, none⟩ (.int .i64 (f y).p)).setCell ⟨g, x * 5 + 1, none⟩ (.int .i64 (f y).k)).setCell ⟨g, x * 5 + 2, none⟩ (.int .i64 (f y).l)).cell? ⟨g, x * 5 + 3, none⟩ = some u) ∧ (((w.setCell ⟨g, x * 5, none⟩ (.int .i64 (f y).p)).setCell ⟨g, x * 5 + 1, none⟩ (.int .i64 (f y).k)).setCell ⟨g, x * 5 + 2, none⟩ (.int .i64 (f y).l)).frozen? ⟨g, x * 5 + 3, none⟩ = false) ∧
    ((∃ u, ((((w.setCell ⟨g, x * 5, none⟩ (.int .i64 (f y).p)).setCell ⟨g, x * 5 + 1, none⟩ (.int .i64 (f y).k)).setCell ⟨g, x * 5 + 2, none⟩ (.int .i64 (f y).l)).setCell ⟨g, x * 5 + 3, none⟩ (.int .i64 (f y).s)).cell? ⟨g, x * 5 + 4, none⟩ = some u) ∧ ((((w.setCell ⟨g, x * 5, none⟩ (.int .i64 (f y).p)).setCell ⟨g, x * 5 + 1, none⟩ (.int .i64 (f y).k)).setCell ⟨g, x * 5 + 2, none⟩ (.int .i64 (f y).l)).setCell ⟨g, x * 5 + 3, none⟩ (.int .i64 (f y).s)).frozen? ⟨g, x * 5 + 4, none⟩ = false) ∧
    ((∃ u, (((((w.setCell ⟨g, x * 5, none⟩ (.int .i64 (f y).p)).setCell ⟨g, x * 5 + 1, none⟩ (.int .i64 (f y).k)).setCell ⟨g, x * 5 + 2, none⟩ (.int .i64 (f y).l)).setCell ⟨g, x * 5 + 3, none⟩ (.int .i64 (f y).s)).setCell ⟨g, x * 5 + 4, none⟩ (.int .i64 (f y).m)).cell? ⟨g, y * 5, none⟩ = some u) ∧ (((((w.setCell ⟨g, x * 5, none⟩ (.int .i64 (f y).p)).setCell ⟨g, x * 5 + 1, none⟩ (.int .i64 (f y).k)).setCell ⟨g, x * 5 + 2, none⟩ (.int .i64 (f y).l)).setCell ⟨g, x * 5 + 3, none⟩ (.int .i64 (f y).s)).setCell ⟨g, x * 5 + 4, none⟩ (.int .i64 (f y).m)).frozen? ⟨g, y * 5, none⟩ = false) ∧
    ((∃ u, ((((((w.setCell ⟨g, x * 5, none⟩ (.int .i64 (f y).p)).setCell ⟨g, x * 5 + 1, none⟩ (.int .i64 (f y).k)).setCell ⟨g, x * 5 + 2, none⟩ (.int .i64 (f y).l)).setCell ⟨g, x * 5 + 3, none⟩ (.int .i64 (f y).s)).setCell ⟨g, x * 5 + 4, none⟩ (.int .i64 (f y).m)).setCell ⟨g, y * 5, none⟩ (.int .i64 (f x).p)).cell? ⟨g, y * 5 + 1, none⟩ = some u) ∧ ((((((w.setCell ⟨g, x * 5, none⟩ (.int .i64 (f y).p)).setCell ⟨g, x * 5 + 1, none⟩ (.int .i64 (f y).k)).setCell ⟨g, x * 5 + 2, none⟩ (.int .i64 (f y).l)).setCell ⟨g, x * 5 + 3, none⟩ (.int .i64 (f y).s)).setCell ⟨g, x * 5 + 4, none⟩ (.int .i64 (f y).m)).setCell ⟨g, y * 5, none⟩ (.int .i64 (f x).p)).frozen? ⟨g, y * 5 + 1, none⟩ = false) ∧
    ((∃ u, (((((((w.setCell ⟨g, x * 5, none⟩ (.int .i64 (f y).p)).setCell ⟨g, x * 5 + 1, none⟩ (.int .i64 (f y).k)).setCell ⟨g, x * 5 + 2, none⟩ (.int .i64 (f y).l)).setCell ⟨g, x * 5 + 3, none⟩ (.int .i64 (f y).s)).setCell ⟨g, x * 5 + 4, none⟩ (.int .i64 (f y).m)).setCell ⟨g, y * 5, none⟩ (.int .i64 (f x).p)).setCell ⟨g, y * 5 + 1, none⟩ (.int .i64 (f x).k)).cell? ⟨g, y * 5 + 2, none⟩ = some u) ∧ (((((((w.setCell ⟨g, x * 5, none⟩ (.int .i64 (f y).p)).setCell ⟨g, x * 5 + 1, none⟩ (.int .i64 (f y).k)).setCell ⟨g, x * 5 + 2, none⟩ (.int .i64 (f y).l)).setCell ⟨g, x * 5 + 3, none⟩ (.int .i64 (f y).s)).setCell ⟨g, x * 5 + 4, none⟩ (.int .i64 (f y).m)).setCell ⟨g, y * 5, none⟩ (.int .i64 (f x).p)).setCell ⟨g, y * 5 + 1, none⟩ (.int .i64 (f x).k)).frozen? ⟨g, y * 5 + 2, none⟩ = false) ∧
    ((∃ u, ((((((((w.setCell ⟨g, x * 5, none⟩ (.int .i64 (f y).p)).setCell ⟨g, x * 5 + 1, none⟩ (.int .i64 (f y).k)).setCell ⟨g, x * 5 + 2, none⟩ (.int .i64 (f y).l)).setCell ⟨g, x * 5 + 3, none⟩ (.int .i64 (f y).s)).setCell ⟨g, x * 5 + 4, none⟩ (.int .i64 (f y).m)).setCell ⟨g, y * 5, none⟩ (.int .i64 (f x).p)).setCell ⟨g, y * 5 + 1, none⟩ (.int .i64 (f x).k)).setCell ⟨g, y * 5 + 2, none⟩ (.int .i64 (f x).l)).cell? ⟨g, y * 5 + 3, none⟩ = some u) ∧ ((((((((w.setCell ⟨g, x * 5, none⟩ (.int .i64 (f y).p)).setCell ⟨g, x * 5 + 1, none⟩ (.int .i64 (f y).k)).setCell ⟨g, x * 5 + 2, none⟩ (.int .i64 (f y).l)).setCell ⟨g, x * 5 + 3, none⟩ (.int .i64 (f y).s)).setCell ⟨g, x * 5 + 4, none⟩ (.int .i64 (f y).m)).setCell ⟨g, y * 5, none⟩ (.int .i64 (f x).p)).setCell ⟨g, y * 5 + 1, none⟩ (.int .i64 (f x).k)).setCell ⟨g, y * 5 + 2, none⟩ (.int .i64 (f x).l)).frozen? ⟨g, y * 5 + 3, none⟩ = false) ∧
    ((∃ u, (((((((((w.setCell ⟨g, x * 5, none⟩ (.int .i64 (f y).p)).setCell ⟨g, x * 5 + 1, none⟩ (.int .i64 (f y).k)).setCell ⟨g, x * 5 + 2, none⟩ (.int .i64 (f y).l)).setCell ⟨g, x * 5 + 3, none⟩ (.int .i64 (f y).s)).setCell ⟨g, x * 5 + 4, none⟩ (.int .i64 (f y).m)).setCell ⟨g, y * 5, none⟩ (.int .i64 (f x).p)).setCell ⟨g, y * 5 + 1, none⟩ (.int .i64 (f x).k)).setCell ⟨g, y * 5 + 2, none⟩ (.int .i64 (f x).l)).setCell ⟨g, y * 5 + 3, none⟩ (.int .i64 (f x).s)).cell? ⟨g, y * 5 + 4, none⟩ = some u) ∧ (((((((((w.setCell ⟨g, x * 5, none⟩ (.int .i64 (f y).p)).setCell ⟨g, x * 5 + 1, none⟩ (.int .i64 (f y).k)).setCell ⟨g, x * 5 + 2, none⟩ (.int .i64 (f y).l)).setCell ⟨g, x * 5 + 3, none⟩ (.int .i64 (f y).s)).setCell ⟨g, x * 5 + 4, none⟩ (.int .i64 (f y).m)).setCell ⟨g, y * 5, none⟩ (.int .i64 (f x).p)).setCell ⟨g, y * 5 + 1, none⟩ (.int .i64 (f x).k)).setCell ⟨g, y * 5 + 2, none⟩ (.int .i64 (f x).l)).setCell ⟨g, y * 5 + 3, none⟩ (.int .i64 (f x).s)).frozen? ⟨g, y * 5 + 4, none⟩ = false) ∧
    RowW ((((((((((w.setCell ⟨g, x * 5, none⟩ (.int .i64 (f y).p)).setCell ⟨g, x * 5 + 1, none⟩ (.int .i64 (f y).k)).setCell ⟨g, x * 5 + 2, none⟩ (.int .i64 (f y).l)).setCell ⟨g, x * 5 + 3, none⟩ (.int .i64 (f y).s)).setCell ⟨g, x * 5 + 4, none⟩ (.int .i64 (f y).m)).setCell ⟨g, y * 5, none⟩ (.int .i64 (f x).p)).setCell ⟨g, y * 5 + 1, none⟩ (.int .i64 (f x).k)).setCell ⟨g, y * 5 + 2, none⟩ (.int .i64 (f x).l)).setCell ⟨g, y * 5 + 3, none⟩ (.int .i64 (f x).s)).setCell ⟨g, y * 5 + 4, none⟩ (.int .i64 (f x).m)) T 5 g cap n (fdG (swpG f x y)) ∧ Keep (· = g) w ((((((((((w.setCell ⟨g, x * 5, none⟩ (.int .i64 (f y).p)).setCell ⟨g, x * 5 + 1, none⟩ (.int .i64 (f y).k)).setCell ⟨g, x * 5 + 2, none⟩ (.int .i64 (f y).l)).setCell ⟨g, x * 5 + 3, none⟩ (.int .i64 (f y).s)).setCell ⟨g, x * 5 + 4, none⟩ (.int .i64 (f y).m)).setCell ⟨g, y * 5, none⟩ (.int .i64 (f x).p)).setCell ⟨g, y * 5 + 1, none⟩ (.int .i64 (f x).k)).setCell ⟨g, y * 5 + 2, none⟩ (.int .i64 (f x).l)).setCell ⟨g, y * 5 + 3, none⟩ (.int .i64 (f x).s)).setCell ⟨g, y * 5 + 4, none⟩ (.int .i64 (f x).m)) := by
  have r1 := h.store (x * 5) (.int .i64 (f y).p) (f' := fun q => if q = x * 5 then .int .i64 (f y).p else fdG f q) (fun q _ => rfl)
  generalize hF1 : (fun q => if q = x * 5 then .int .i64 (f y).p else fdG f q) = F1 at r1
  have r2 := r1.store (x * 5 + 1) (.int .i64 (f y).k) (f' := fun q => if q = x * 5 + 1 then .int .i64 (f y).k else F1 q) (fun q _ => rfl)
  generalize hF2 : (fun q => if q = x * 5 + 1 then .int .i64 (f y).k else F1 q) = F2 at r2
  have r3 := r2.store (x * 5 + 2) (.int .i64 (f y).l) (f' := fun q => if q = x * 5 + 2 then .int .i64 (f y).l else F2 q) (fun q _ => rfl)
  generalize hF3 : (fun q => if q = x * 5 + 2 then .int .i64 (f y).l else F2 q) = F3 at r3
  have r4 := r3.store (x * 5 + 3) (.int .i64 (f y).s) (f' := fun q => if q = x * 5 + 3 then .int .i64 (f y).s else F3 q) (fun q _ => rfl)
  generalize hF4 : (fun q => if q = x * 5 + 3 then .int .i64 (f y).s else F3 q) = F4 at r4
  have r5 := r4.store (x * 5 + 4) (.int .i64 (f y).m) (f' := fun q => if q = x * 5 + 4 then .int .i64 (f y).m else F4 q) (fun q _ => rfl)
  generalize hF5 : (fun q => if q = x * 5 + 4 then .int .i64 (f y).m else F4 q) = F5 at r5
  have r6 := r5.store (y * 5) (.int .i64 (f x).p) (f' := fun q => if q = y * 5 then .int .i64 (f x).p else F5 q) (fun q _ => rfl)
  generalize hF6 : (fun q => if q = y * 5 then .int .i64 (f x).p else F5 q) = F6 at r6
  have r7 := r6.store (y * 5 + 1) (.int .i64 (f x).k) (f' := fun q => if q = y * 5 + 1 then .int .i64 (f x).k else F6 q) (fun q _ => rfl)
  generalize hF7 : (fun q => if q = y * 5 + 1 then .int .i64 (f x).k else F6 q) = F7 at r7
  have r8 := r7.store (y * 5 + 2) (.int .i64 (f x).l) (f' := fun q => if q = y * 5 + 2 then .int .i64 (f x).l else F7 q) (fun q _ => rfl)
  generalize hF8 : (fun q => if q = y * 5 + 2 then .int .i64 (f x).l else F7 q) = F8 at r8
  have r9 := r8.store (y * 5 + 3) (.int .i64 (f x).s) (f' := fun q => if q = y * 5 + 3 then .int .i64 (f x).s else F8 q) (fun q _ => rfl)
  generalize hF9 : (fun q => if q = y * 5 + 3 then .int .i64 (f x).s else F8 q) = F9 at r9
  have r10 := r9.store (y * 5 + 4) (.int .i64 (f x).m) (f' := fun q => if q = y * 5 + 4 then .int .i64 (f x).m else F9 q) (fun q _ => rfl)
  generalize hF10 : (fun q => if q = y * 5 + 4 then .int .i64 (f x).m else F9 q) = F10 at r10
  refine ⟨⟨⟨_, h.val (by omega)⟩, h.frozen _⟩, ⟨⟨_, r1.val (by omega)⟩, r1.frozen _⟩, ⟨⟨_, r2.val (by omega)⟩, r2.frozen _⟩, ⟨⟨_, r3.val (by omega)⟩, r3.frozen _⟩, ⟨⟨_, r4.val (by omega)⟩, r4.frozen _⟩, ⟨⟨_, r5.val (by omega)⟩, r5.frozen _⟩, ⟨⟨_, r6.val (by omega)⟩, r6.frozen _⟩, ⟨⟨_, r7.val (by omega)⟩, r7.frozen _⟩, ⟨⟨_, r8.val (by omega)⟩, r8.frozen _⟩, ⟨⟨_, r9.val (by omega)⟩, r9.frozen _⟩, r10.congr (fun q hq => ?_), ((((((((((Keep.refl (· = g) w).setCell (p := ⟨g, x * 5, none⟩) (.inl rfl) _).setCell (p := ⟨g, x * 5 + 1, none⟩) (.inl rfl) _).setCell (p := ⟨g, x * 5 + 2, none⟩) (.inl rfl) _).setCell (p := ⟨g, x * 5 + 3, none⟩) (.inl rfl) _).setCell (p := ⟨g, x * 5 + 4, none⟩) (.inl rfl) _).setCell (p := ⟨g, y * 5, none⟩) (.inl rfl) _).setCell (p := ⟨g, y * 5 + 1, none⟩) (.inl rfl) _).setCell (p := ⟨g, y * 5 + 2, none⟩) (.inl rfl) _).setCell (p := ⟨g, y * 5 + 3, none⟩) (.inl rfl) _).setCell (p := ⟨g, y * 5 + 4, none⟩) (.inl rfl) _⟩
  rw [← hF10, ← hF9, ← hF8, ← hF7, ← hF6, ← hF5, ← hF4, ← hF3, ← hF2, ← hF1]
  clear r1 r2 r3 r4 r5 r6 r7 r8 r9 r10
  obtain ⟨x0, x1, x2, x3, x4⟩ := fdG_at (swpG f x y) x
  obtain ⟨y0, y1, y2, y3, y4⟩ := fdG_at (swpG f x y) y
  have sJ : swpG f x y x = f y := by unfold swpG; rw [if_pos rfl]
  have sj : swpG f x y y = f x := by unfold swpG; rw [if_neg (fun e => hne e.symm), if_pos rfl]
  rw [sJ] at x0 x1 x2 x3 x4
  rw [sj] at y0 y1 y2 y3 y4
  dsimp only
  by_cases e9 : q = y * 5 + 4
  · rw [if_pos e9, e9, y4]
  rw [if_neg e9]
  by_cases e8 : q = y * 5 + 3
  · rw [if_pos e8, e8, y3]
  rw [if_neg e8]
  by_cases e7 : q = y * 5 + 2
  · rw [if_pos e7, e7, y2]
  rw [if_neg e7]
  by_cases e6 : q = y * 5 + 1
  · rw [if_pos e6, e6, y1]
  rw [if_neg e6]
  by_cases e5 : q = y * 5
  · rw [if_pos e5, e5, y0]
  rw [if_neg e5]
  by_cases e4 : q = x * 5 + 4
  · rw [if_pos e4, e4, x4]
  rw [if_neg e4]
  by_cases e3 : q = x * 5 + 3
  · rw [if_pos e3, e3, x3]
  rw [if_neg e3]
  by_cases e2 : q = x * 5 + 2
  · rw [if_pos e2, e2, x2]
  rw [if_neg e2]
  by_cases e1 : q = x * 5 + 1
  · rw [if_pos e1, e1, x1]
  rw [if_neg e1]
  by_cases e0 : q = x * 5
  · rw [if_pos e0, e0, x0]
  rw [if_neg e0]
  unfold fdG
  have : swpG f x y (q / 5) = f (q / 5) := by unfold swpG; rw [if_neg (by omega), if_neg (by omega)]
  rw [this]
set_option maxRecDepth 100000 in
set_option maxHeartbeats 1000000 in
theorem swr_any (g cap n c x y m : Nat) (f : Nat → FoundE) (w : World) (hr : RowW w 52 5 g cap n (fdG f)) (hxy : x + m ≤ y) (hym : y + m ≤ n) (hn : n ≤ 100000) :
    Calls Tryz.prog 125 #[.slice (some ⟨g, 0, none⟩) n c, .int .i64 x, .int .i64 y, .int .i64 m, .func (.func 50) #[] #[]] w fun e w' =>
      e = .returned (.tuple #[]) ∧ RowW w' 52 5 g cap n (fdG (swrF f x y m)) ∧ Keep (· = g) w w' := by
  have HR := Lib.hid hr
  have HB := Lib.hid (And.intro hxy hym)
  clear hr hxy hym
  go_enter Tryz.func125, Tryz.ntmps125
  go_wp2_with fail
  go_loopw [10] (fun v wr => ∃ k : Nat, k ≤ m ∧ v = .int .i64 (k : Nat) ∧ RowW wr 52 5 g cap n (fdG (swrF f x y k)) ∧ Keep (· = g) w wr) (fun v _ => m - (intOf v).toNat)
  case atStart => exact ⟨0, by omega, rfl, by rw [swr_zero]; exact HR.out, Keep.refl _ _⟩
  case round =>
    obtain ⟨k, hk, rfl, hrow, hkp⟩ := hrel
    by_cases hkm : k < m
    · have hkm' : (k : Int) < (m : Int) := by omega
      obtain ⟨h, hh⟩ : ∃ h, h = swrF f x y k := ⟨_, rfl⟩
      rw [← hh] at hrow
      have HH := Lib.hid (show swpG h (x + k) (y + k) = swrF f x y (k + 1) by rw [hh]; exact swr_succ f (by have := HB.out; omega))
      clear hh
      obtain ⟨X, hX⟩ : ∃ X, X = x + k := ⟨_, rfl⟩
      obtain ⟨Y, hY⟩ : ∃ Y, Y = y + k := ⟨_, rfl⟩
      rw [← hX, ← hY] at HH
      have hXn : X < n := by have := HB.out; omega
      have hYn : Y < n := by have := HB.out; omega
      have hXn' : (X : Int) < (n : Int) := by omega
      have hYn' : (Y : Int) < (n : Int) := by omega
      have hne : X ≠ Y := by have := HB.out; omega
      have e1 : IntKind.i64.wrap ((x : Int) + (k : Int)) = (X : Int) := by rw [show (x : Int) + (k : Int) = (X : Int) by omega]; exact wraps_i64 _ (by omega) (by omega)
      have e2 : (x : Int) + (k : Int) = (X : Int) := by omega
      have e3 : IntKind.i64.wrap ((y : Int) + (k : Int)) = (Y : Int) := by rw [show (y : Int) + (k : Int) = (Y : Int) by omega]; exact wraps_i64 _ (by omega) (by omega)
      have e4 : (y : Int) + (k : Int) = (Y : Int) := by omega
      clear hX hY
      obtain ⟨a0, a1, a2, a3, a4⟩ := ArgW.five hrow hXn
      obtain ⟨b0, b1, b2, b3, b4⟩ := ArgW.five hrow hYn
      obtain ⟨⟨⟨_, c0⟩, z0⟩, ⟨⟨_, c1⟩, z1⟩, ⟨⟨_, c2⟩, z2⟩, ⟨⟨_, c3⟩, z3⟩, ⟨⟨_, c4⟩, z4⟩, ⟨⟨_, c5⟩, z5⟩, ⟨⟨_, c6⟩, z6⟩, ⟨⟨_, c7⟩, z7⟩, ⟨⟨_, c8⟩, z8⟩, ⟨⟨_, c9⟩, z9⟩, RF, KF⟩ := swap_two hrow hne hXn hYn
      rw [HH.out] at RF
      have HRF := Lib.hid RF
      have HKF := Lib.hid (hkp.trans KF (fun _ e => .inl e))
      clear hrow RF KF c0 hne hkp HH
      go_upto_region 3 with (fail)
      go_region
      all_goals
        go_wp2_with fail
        go_roundw
        case rel => exact ⟨k + 1, by omega, by go_num, RowW.drewN HRF.out 1, HKF.out.drewN 1⟩
        case measure => simp [intOf]; omega
    · obtain rfl : k = m := by omega
      have hkm' : ¬ (k : Int) < (k : Int) := by omega
      have HRR := Lib.hid hrow
      clear hrow
      go_wp2_with fail
      go_end0
      exact ⟨rfl, HRR.out, hkp⟩
set_option maxRecDepth 100000 in
set_option maxHeartbeats 1000000 in
theorem rot_any (g cap n c a m b : Nat) (f : Nat → FoundE) (w : World) (hr : RowW w 52 5 g cap n (fdG f)) (ham : a < m) (hmb : m < b) (hbn : b ≤ n) (hn : n ≤ 100000) :
    Calls Tryz.prog 111 #[.slice (some ⟨g, 0, none⟩) n c, .int .i64 a, .int .i64 m, .int .i64 b, .func (.func 50) #[] #[]] w fun e w' =>
      e = .returned (.tuple #[]) ∧ RowW w' 52 5 g cap n (fdG (rotF f a m b)) ∧ Keep (· = g) w w' := by
  have HR := Lib.hid hr
  have HN := Lib.hid hbn
  obtain ⟨F, hF⟩ : ∃ F, F = rotF f a m b := ⟨_, rfl⟩
  have HF := Lib.hid hF
  rw [← hF]
  obtain ⟨I0, hI0⟩ : ∃ I0, I0 = m - a := ⟨_, rfl⟩
  obtain ⟨J0, hJ0⟩ : ∃ J0, J0 = b - m := ⟨_, rfl⟩
  have e1 : IntKind.i64.wrap ((m : Int) - (a : Int)) = (I0 : Int) := by rw [show (m : Int) - (a : Int) = (I0 : Int) by omega]; exact wraps_i64 _ (by omega) (by omega)
  have e2 : (m : Int) - (a : Int) = (I0 : Int) := by omega
  have e3 : IntKind.i64.wrap ((b : Int) - (m : Int)) = (J0 : Int) := by rw [show (b : Int) - (m : Int) = (J0 : Int) by omega]; exact wraps_i64 _ (by omega) (by omega)
  have e4 : (b : Int) - (m : Int) = (J0 : Int) := by omega
  have HIJ := Lib.hid (And.intro hI0 hJ0)
  have hb1 : I0 ≤ 100000 := by omega
  have hb2 : J0 ≤ 100000 := by omega
  clear hr hF hbn hI0 hJ0
  go_enter Tryz.func111, Tryz.ntmps111
  go_wp2_with fail
  clear e1 e2 e3 e4 hb1 hb2
  go_loopw [10, 11] (fun v10 v11 wr => ∃ (i j : Nat) (h : Nat → FoundE), 0 < i ∧ 0 < j ∧ i ≤ m ∧ m + j ≤ n ∧ v10 = .int .i64 (i : Nat) ∧ v11 = .int .i64 (j : Nat) ∧ rotF h (m - i) m (m + j) = F ∧ RowW wr 52 5 g cap n (fdG h) ∧ Keep (· = g) w wr) (fun v10 v11 _ => (intOf v10).toNat + (intOf v11).toNat)
  case atStart => exact ⟨I0, J0, f, by have := HIJ.out; omega, by have := HIJ.out; omega, by have := HIJ.out; omega, by have := HIJ.out; have := HN.out; omega, rfl, rfl, by have := HIJ.out; rw [HF.out]; congr 1 <;> omega, HR.out, Keep.refl _ _⟩
  case round =>
    obtain ⟨i, j, h, hi0, hj0, him, hjn, rfl, rfl, hrot, hrow, hkp⟩ := hrel
    have HK := Lib.hid hkp
    obtain ⟨x, hx⟩ : ∃ x, x = m - i := ⟨_, rfl⟩
    have e1 : IntKind.i64.wrap ((m : Int) - (i : Int)) = (x : Int) := by rw [show (m : Int) - (i : Int) = (x : Int) by omega]; exact wraps_i64 _ (by omega) (by omega)
    have e2 : (m : Int) - (i : Int) = (x : Int) := by omega
    have HX := Lib.hid hx
    clear hkp hx
    rcases Nat.lt_trichotomy i j with hij | hij | hij
    · have h1 : ¬ (i : Int) = (j : Int) := by omega
      have h2 : ¬ (j : Int) < (i : Int) := by omega
      obtain ⟨y, hy⟩ : ∃ y, y = m + j - i := ⟨_, rfl⟩
      have e3 : IntKind.i64.wrap ((m : Int) + (j : Int) - (i : Int)) = (y : Int) := by rw [show (m : Int) + (j : Int) - (i : Int) = (y : Int) by omega]; exact wraps_i64 _ (by omega) (by omega)
      have e4 : (m : Int) + (j : Int) - (i : Int) = (y : Int) := by omega
      have hc := Lib.hid (swr_any g cap n c x y i h wr hrow (by have := HX.out; omega) (by omega) hn)
      have hrot' := Lib.hid (show rotF (swrF h x y i) (m - i) m (m + (j - i)) = F by rw [HX.out, hy, rot_lt h him hij]; exact hrot)
      clear hrow hrot hy
      go_wp2_with fail
      refine hc.out.mono ?_
      rintro e w1 ⟨rfl, hr1, hk1⟩
      have HR1 := Lib.hid hr1
      have HK1 := Lib.hid (HK.out.trans hk1 (fun _ e => .inl e))
      clear hr1 hk1 hc HK
      go_wp2_with fail
      go_roundw
      case rel => exact ⟨i, j - i, _, hi0, by omega, him, by omega, rfl, by go_num, hrot'.out, HR1.out, HK1.out⟩
      case measure => simp [intOf]; omega
    · subst hij
      have h1 : (i : Int) = (i : Int) := rfl
      have hc := Lib.hid (swr_any g cap n c x m i h wr hrow (by have := HX.out; omega) (by omega) hn)
      have hrot' := Lib.hid (show swrF h x m i = F by rw [HX.out, rot_eq h him]; exact hrot)
      clear hrow hrot
      go_wp2_with fail
      refine hc.out.mono ?_
      rintro e w1 ⟨rfl, hr1, hk1⟩
      rw [hrot'.out] at hr1
      have HR1 := Lib.hid hr1
      have HK1 := Lib.hid (HK.out.trans hk1 (fun _ e => .inl e))
      clear hr1 hk1 hc HK
      go_wp2_with fail
      go_end0
      exact ⟨rfl, HR1.out, HK1.out⟩
    · have h1 : ¬ (i : Int) = (j : Int) := by omega
      have h2 : (j : Int) < (i : Int) := by omega
      have hc := Lib.hid (swr_any g cap n c x m j h wr hrow (by have := HX.out; omega) (by omega) hn)
      have hrot' := Lib.hid (show rotF (swrF h x m j) (m - (i - j)) m (m + j) = F by rw [HX.out, rot_gt h him hij]; exact hrot)
      clear hrow hrot
      go_wp2_with fail
      refine hc.out.mono ?_
      rintro e w1 ⟨rfl, hr1, hk1⟩
      have HR1 := Lib.hid hr1
      have HK1 := Lib.hid (HK.out.trans hk1 (fun _ e => .inl e))
      clear hr1 hk1 hc HK
      go_wp2_with fail
      go_roundw
      case rel => exact ⟨i - j, j, _, by omega, hj0, by omega, by omega, by go_num, rfl, hrot'.out, HR1.out, HK1.out⟩
      case measure => simp [intOf]; omega
end Go.Proofs.YtdlmjjlejkkniaaGreat

namespace Go.Proofs.YtdlmjjlejkkniaaGreat
open Go.RowKit

def leC (x y : FoundE) : Prop := keyC x y ≤ 0
theorem cmpV_cases (x y : Int) : (cmpV x y = -1 ∧ x < y) ∨ (cmpV x y = 0 ∧ x = y) ∨ (cmpV x y = 1 ∧ y < x) := by
  unfold cmpV
  by_cases h : x < y
  · rw [if_pos h]
    exact .inl ⟨rfl, h⟩
  · rw [if_neg h]
    by_cases h2 : y < x
    · rw [if_pos h2]
      exact .inr (.inr ⟨rfl, h2⟩)
    · rw [if_neg h2]
      exact .inr (.inl ⟨rfl, by omega⟩)
/-- The order, in numbers. -/
theorem leC_iff (x y : FoundE) : leC x y ↔ x.l < y.l ∨ x.l = y.l ∧ (y.s < x.s ∨ y.s = x.s ∧ x.p ≤ y.p) := by
  unfold leC keyC orV
  rcases cmpV_cases x.l y.l with ⟨e1, h1⟩ | ⟨e1, h1⟩ | ⟨e1, h1⟩ <;> rcases cmpV_cases y.s x.s with ⟨e2, h2⟩ | ⟨e2, h2⟩ | ⟨e2, h2⟩ <;> rcases cmpV_cases x.p y.p with ⟨e3, h3⟩ | ⟨e3, h3⟩ | ⟨e3, h3⟩ <;> rw [e1, e2, e3] <;> simp <;> omega
theorem keyC_lt_iff (x y : FoundE) : keyC x y < 0 ↔ ¬ leC y x := by
  rw [leC_iff]
  unfold keyC orV
  rcases cmpV_cases x.l y.l with ⟨e1, h1⟩ | ⟨e1, h1⟩ | ⟨e1, h1⟩ <;> rcases cmpV_cases y.s x.s with ⟨e2, h2⟩ | ⟨e2, h2⟩ | ⟨e2, h2⟩ <;> rcases cmpV_cases x.p y.p with ⟨e3, h3⟩ | ⟨e3, h3⟩ | ⟨e3, h3⟩ <;> rw [e1, e2, e3] <;> simp <;> omega
theorem leC_trans (x y z : FoundE) (h1 : leC x y) (h2 : leC y z) : leC x z := by
  rw [leC_iff] at *
  omega
theorem leC_of_lt {x y : FoundE} (h : keyC x y < 0) : leC x y := by unfold leC; omega
theorem leC_of_not {x y : FoundE} (h : ¬ keyC x y < 0) : leC y x := Classical.byContradiction fun e => h ((keyC_lt_iff x y).2 e)
theorem rot_front {α : Type} (f : Nat → α) {a k : Nat} (h : a ≤ k) : swpG (rotF f a (a + 1) (k + 1)) k (k + 1) = rotF f a (a + 1) (k + 2) := by
  funext q
  unfold swpG
  by_cases e1 : q = k
  · rw [if_pos e1, rot_out _ (by omega) (by omega) (by omega), rot_lo _ (by omega) (by omega)]
    exact congrArg f (by omega)
  rw [if_neg e1]
  by_cases e2 : q = k + 1
  · rw [if_pos e2, rot_hi _ (by omega) (by omega), rot_hi _ (by omega) (by omega)]
    exact congrArg f (by omega)
  rw [if_neg e2]
  by_cases e3 : a ≤ q ∧ q < k
  · rw [rot_lo _ (by omega) (by omega), rot_lo _ (by omega) (by omega)]
  · rw [rot_out _ (by omega) (by omega) (by omega), rot_out _ (by omega) (by omega) (by omega)]
theorem rot_back {α : Type} (f : Nat → α) {k m : Nat} (h : k + 1 ≤ m) : swpG (rotF f (k + 1) m (m + 1)) (k + 1) k = rotF f k m (m + 1) := by
  funext q
  unfold swpG
  by_cases e1 : q = k + 1
  · rw [if_pos e1, rot_out _ (by omega) (by omega) (by omega), rot_hi _ (by omega) (by omega)]
    exact congrArg f (by omega)
  rw [if_neg e1]
  by_cases e2 : q = k
  · rw [if_pos e2, rot_lo _ (by omega) (by omega), rot_lo _ (by omega) (by omega)]
    exact congrArg f (by omega)
  rw [if_neg e2]
  by_cases e3 : k + 1 < q ∧ q < m + 1
  · rw [rot_hi _ (by omega) (by omega), rot_hi _ (by omega) (by omega)]
  · rw [rot_out _ (by omega) (by omega) (by omega), rot_out _ (by omega) (by omega) (by omega)]
theorem rot_none {α : Type} (f : Nat → α) (a b : Nat) : rotF f a b b = f := by
  funext q
  unfold rotF
  by_cases e : a ≤ q ∧ q < b
  · rw [if_neg (by omega), if_pos (by omega)]
    exact congrArg f (by omega)
  · rw [if_neg (by omega), if_neg (by omega)]
theorem rot_none' {α : Type} (f : Nat → α) (a b : Nat) : rotF f a a b = f := by
  funext q
  unfold rotF
  by_cases e : a ≤ q ∧ q < a + (b - a)
  · rw [if_pos e]
    exact congrArg f (by omega)
  · rw [if_neg e, if_neg (by omega)]
/-- Two numbers' middle, as Go reckons it. -/
theorem mid_facts (i j : Nat) (h : i + j ≤ 1000000) : ∃ s m : Nat, s = i + j ∧ m = s / 2 ∧ IntKind.i64.wrap ((i : Int) + (j : Int)) = (s : Int) ∧ (i : Int) + (j : Int) = (s : Int) ∧ IntKind.u64.wrap (s : Int) = (s : Int) ∧ (s : Int) / 2 = (m : Int) ∧ IntKind.i64.wrap (m : Int) = (m : Int) := by
  refine ⟨i + j, (i + j) / 2, rfl, rfl, ?_, by omega, ?_, by omega, wraps_i64 _ (by omega) (by omega)⟩
  · rw [show (i : Int) + (j : Int) = ((i + j : Nat) : Int) by omega]
    exact wraps_i64 _ (by omega) (by omega)
  · simp [IntKind.wrap, IntKind.signed, IntKind.bits]
    omega
theorem front_end (f : Nat → FoundE) {a b i : Nat} (hs : Srt leC f (a + 1) b) (h1 : a + 1 ≤ i) (h2 : i ≤ b) (hlo : i = a + 1 ∨ keyC (f (i - 1)) (f a) < 0) (hhi : i = b ∨ ¬ keyC (f i) (f a) < 0) :
    PermOn a b f (rotF f a (a + 1) i) ∧ Srt leC (rotF f a (a + 1) i) a b :=
  ⟨(rot_perm f (by omega) (by omega)).more (Nat.le_refl _) h2, front_law leC_trans hs h1 h2 (hlo.imp id (fun e => leC_of_lt e)) (hhi.imp id (fun e => leC_of_not e))⟩
theorem back_end (f : Nat → FoundE) {a m i : Nat} (hs : Srt leC f a m) (h1 : a ≤ i) (h2 : i ≤ m) (hlo : i = a ∨ ¬ keyC (f m) (f (i - 1)) < 0) (hhi : i = m ∨ keyC (f m) (f i) < 0) :
    PermOn a (m + 1) f (rotF f i m (m + 1)) ∧ Srt leC (rotF f i m (m + 1)) a (m + 1) :=
  ⟨(rot_perm f h2 (by omega)).more h1 (Nat.le_refl _), back_law leC_trans hs h1 h2 (hlo.imp id (fun e => leC_of_not e)) (hhi.imp id (fun e => leC_of_lt e))⟩
set_option maxRecDepth 100000 in
set_option maxHeartbeats 1000000 in
theorem sym_front (g cap n c a b : Nat) (f : Nat → FoundE) (w : World) (hr : RowW w 52 5 g cap n (fdG f)) (hs : Srt leC f (a + 1) b) (hab : a + 1 < b) (hbn : b ≤ n) (hn : n ≤ 100000) :
    Calls Tryz.prog 100 #[.slice (some ⟨g, 0, none⟩) n c, .int .i64 a, .int .i64 (a + 1 : Nat), .int .i64 b, .func (.func 50) #[] #[]] w fun e w' =>
      e = .returned (.tuple #[]) ∧ ∃ h, RowW w' 52 5 g cap n (fdG h) ∧ PermOn a b f h ∧ Srt leC h a b ∧ Keep (· = g) w w' := by
  have HR := Lib.hid hr
  have HS := Lib.hid hs
  obtain ⟨M, hM⟩ : ∃ M, M = a + 1 := ⟨_, rfl⟩
  rw [← hM] at hs hab ⊢
  have HM := Lib.hid hM
  have e1 : IntKind.i64.wrap ((M : Int) - (a : Int)) = 1 := by rw [show (M : Int) - (a : Int) = 1 by omega]; rfl
  have e2 : (M : Int) - (a : Int) = 1 := by omega
  have han : a < n := by omega
  have han' : (a : Int) < (n : Int) := by omega
  clear hr hs hM
  go_enter Tryz.func100, Tryz.ntmps100
  go_wp2_with fail
  clear e1 e2
  go_loopw [10, 11] (fun v10 v11 wr => ∃ i j : Nat, M ≤ i ∧ i ≤ j ∧ j ≤ b ∧ v10 = .int .i64 (i : Nat) ∧ v11 = .int .i64 (j : Nat) ∧ (i = M ∨ keyC (f (i - 1)) (f a) < 0) ∧ (j = b ∨ ¬ keyC (f j) (f a) < 0) ∧ Keep (fun _ => False) w wr) (fun v10 v11 _ => (intOf v11).toNat - (intOf v10).toNat)
  case atStart => exact ⟨M, b, by omega, by omega, by omega, rfl, rfl, .inl rfl, .inl rfl, Keep.refl _ _⟩
  case round =>
    obtain ⟨i, j, hi1, hij, hjb, rfl, rfl, hlo, hhi, hkp⟩ := hrel
    by_cases hlt : i < j
    · have hlt' : (i : Int) < (j : Int) := by omega
      obtain ⟨s, h, hs0, hh0, m1, m2, m3, m4, m5⟩ := mid_facts i j (by omega)
      have hhn : h < n := by omega
      have hhn' : (h : Int) < (n : Int) := by omega
      have HH := Lib.hid (show i ≤ h ∧ h < j by omega)
      have HLO := Lib.hid hlo
      have HHI := Lib.hid hhi
      have hrow := HR.out.keep hkp (by simp)
      obtain ⟨a0, a1, a2, a3, a4⟩ := ArgW.five hrow hhn
      obtain ⟨b0, b1, b2, b3, b4⟩ := ArgW.five hrow han
      have u0 : ∀ p : KeptBy wr, p.v.cell? ⟨g, h * 5, none⟩ = some (.int .i64 (f h).p) := fun p => p.cell hrow.lt a0
      have u1 : ∀ p : KeptBy wr, p.v.cell? ⟨g, h * 5 + 1, none⟩ = some (.int .i64 (f h).k) := fun p => p.cell hrow.lt a1
      have u2 : ∀ p : KeptBy wr, p.v.cell? ⟨g, h * 5 + 2, none⟩ = some (.int .i64 (f h).l) := fun p => p.cell hrow.lt a2
      have u3 : ∀ p : KeptBy wr, p.v.cell? ⟨g, h * 5 + 3, none⟩ = some (.int .i64 (f h).s) := fun p => p.cell hrow.lt a3
      have u4 : ∀ p : KeptBy wr, p.v.cell? ⟨g, h * 5 + 4, none⟩ = some (.int .i64 (f h).m) := fun p => p.cell hrow.lt a4
      have v0 : ∀ p : KeptBy wr, p.v.cell? ⟨g, a * 5, none⟩ = some (.int .i64 (f a).p) := fun p => p.cell hrow.lt b0
      have v1 : ∀ p : KeptBy wr, p.v.cell? ⟨g, a * 5 + 1, none⟩ = some (.int .i64 (f a).k) := fun p => p.cell hrow.lt b1
      have v2 : ∀ p : KeptBy wr, p.v.cell? ⟨g, a * 5 + 2, none⟩ = some (.int .i64 (f a).l) := fun p => p.cell hrow.lt b2
      have v3 : ∀ p : KeptBy wr, p.v.cell? ⟨g, a * 5 + 3, none⟩ = some (.int .i64 (f a).s) := fun p => p.cell hrow.lt b3
      have v4 : ∀ p : KeptBy wr, p.v.cell? ⟨g, a * 5 + 4, none⟩ = some (.int .i64 (f a).m) := fun p => p.cell hrow.lt b4
      have HK := Lib.hid hkp
      clear a0 a1 a2 a3 a4 b0 b1 b2 b3 b4 hrow hkp hlo hhi hs0 hh0
      go_upto_region 5 with (fail)
      clear m1 m2 m3 m4 m5
      by_cases hc : keyC (f h) (f a) < 0
      · have hd : decide (keyC (f h) (f a) < 0) = true := decide_eq_true hc
        refine wp_region_kept (by kernel_rfl) (by kernel_rfl) ?_
        repeat (go_big_quiet_step (first | (go_at_call 50; exact kept_of (latest1_any (f h) (f a) _))))
        refine wpQuiet_nil ?_
        rintro w2 ⟨⟨_, k2⟩, rfl⟩
        have HK2 := Lib.hid (HK.out.trans k2 (fun _ e => e.elim))
        have HC := Lib.hid hc
        clear u0 u1 u2 u3 u4 v0 v1 v2 v3 v4 k2 hd hc
        go_wp2_with fail
        go_roundw
        case rel => exact ⟨h + 1, j, by have := HH.out; omega, by have := HH.out; omega, by omega, by go_num, rfl, .inr (by rw [Nat.add_sub_cancel]; exact HC.out), HHI.out, HK2.out⟩
        case measure => have := HH.out; simp [intOf]; omega
      · have hd : decide (keyC (f h) (f a) < 0) = false := decide_eq_false hc
        refine wp_region_kept (by kernel_rfl) (by kernel_rfl) ?_
        repeat (go_big_quiet_step (first | (go_at_call 50; exact kept_of (latest1_any (f h) (f a) _))))
        refine wpQuiet_nil ?_
        rintro w2 ⟨⟨_, k2⟩, rfl⟩
        have HK2 := Lib.hid (HK.out.trans k2 (fun _ e => e.elim))
        have HC := Lib.hid hc
        clear u0 u1 u2 u3 u4 v0 v1 v2 v3 v4 k2 hd hc
        go_wp2_with fail
        go_roundw
        case rel => exact ⟨i, h, by have := HH.out; omega, by have := HH.out; omega, by have := HH.out; omega, rfl, rfl, HLO.out, .inr HC.out, HK2.out⟩
        case measure => have := HH.out; simp [intOf]; omega
    · obtain rfl : i = j := by omega
      have hlt' : ¬ (i : Int) < (i : Int) := by omega
      obtain ⟨I, hI⟩ : ∃ I, I = i - 1 := ⟨_, rfl⟩
      have e1 : IntKind.i64.wrap ((i : Int) - 1) = (I : Int) := by rw [show (i : Int) - 1 = (I : Int) by have := HM.out; omega]; exact wraps_i64 _ (by omega) (by omega)
      have e2 : (i : Int) - 1 = (I : Int) := by have := HM.out; omega
      have hII : i = I + 1 := by have := HM.out; omega
      have HI := Lib.hid (show i = I + 1 ∧ a ≤ I ∧ i ≤ b by have := HM.out; omega)
      have HEND := Lib.hid (front_end f (i := i) (by have := HM.out; subst this; exact HS.out) (by have := HM.out; omega) hjb (hlo.imp (fun e => by have := HM.out; omega) id) hhi)
      have hrow := HR.out.keep hkp (by simp)
      have HRR := Lib.hid hrow
      have HKP := Lib.hid (hkp.more (fun _ e => e.elim) : Keep (· = g) w wr)
      clear hrow hkp hI hII hlo hhi
      go_wp2_with fail
      go_loopw [13] (fun v wi => ∃ k : Nat, a ≤ k ∧ k ≤ I ∧ v = .int .i64 (k : Nat) ∧ RowW wi 52 5 g cap n (fdG (rotF f a (a + 1) (k + 1))) ∧ Keep (· = g) w wi) (fun v _ => I - (intOf v).toNat)
      case atStart => exact ⟨a, Nat.le_refl _, HI.out.2.1, rfl, by rw [rot_none]; exact HRR.out, HKP.out⟩
      case round =>
        obtain ⟨k, hak, hkI, rfl, hrow, hkp⟩ := hrel
        by_cases hk : k < I
        · have hk' : (k : Int) < (I : Int) := by omega
          obtain ⟨h, hh⟩ : ∃ h, h = rotF f a (a + 1) (k + 1) := ⟨_, rfl⟩
          rw [← hh] at hrow
          obtain ⟨Y, hY⟩ : ∃ Y, Y = k + 1 := ⟨_, rfl⟩
          have HH := Lib.hid (show swpG h k Y = rotF f a (a + 1) (k + 2) by rw [hh, hY]; exact rot_front f hak)
          have HY := Lib.hid hY
          have hkn : k < n := by have := HI.out; omega
          have hYn : Y < n := by have := HI.out; omega
          have hkn' : (k : Int) < (n : Int) := by omega
          have hYn' : (Y : Int) < (n : Int) := by omega
          have e3 : IntKind.i64.wrap ((k : Int) + 1) = (Y : Int) := by rw [show (k : Int) + 1 = (Y : Int) by omega]; exact wraps_i64 _ (by omega) (by omega)
          have e4 : (k : Int) + 1 = (Y : Int) := by omega
          have hne : k ≠ Y := by omega
          clear hY hh
          obtain ⟨a0, a1, a2, a3, a4⟩ := ArgW.five hrow hkn
          obtain ⟨b0, b1, b2, b3, b4⟩ := ArgW.five hrow hYn
          obtain ⟨⟨⟨_, c0⟩, z0⟩, ⟨⟨_, c1⟩, z1⟩, ⟨⟨_, c2⟩, z2⟩, ⟨⟨_, c3⟩, z3⟩, ⟨⟨_, c4⟩, z4⟩, ⟨⟨_, c5⟩, z5⟩, ⟨⟨_, c6⟩, z6⟩, ⟨⟨_, c7⟩, z7⟩, ⟨⟨_, c8⟩, z8⟩, ⟨⟨_, c9⟩, z9⟩, RF, KF⟩ := swap_two hrow hne hkn hYn
          rw [HH.out] at RF
          have HRF := Lib.hid RF
          have HKF := Lib.hid (hkp.trans KF (fun _ e => .inl e))
          clear hrow RF KF c0 hne hkp HH
          go_upto_region 11 with (fail)
          go_region
          all_goals
            go_wp2_with fail
            go_roundw
            case rel => exact ⟨k + 1, by omega, by omega, by have := HY.out; go_num, RowW.drewN HRF.out 1, HKF.out.drewN 1⟩
            case measure => have := HY.out; simp [intOf]; omega
        · obtain rfl : k = I := by omega
          have hk' : ¬ (k : Int) < (k : Int) := by omega
          rw [← HI.out.1] at hrow
          have HRE := Lib.hid hrow
          clear hrow
          go_wp2_with fail
          (try simp only [Exit.inBlock, Exit.then]); refine bodyPost_ret (results_none rfl _ _ _) rfl ?_
          exact ⟨rfl, _, HRE.out, HEND.out.1, HEND.out.2, hkp⟩
set_option maxRecDepth 100000 in
set_option maxHeartbeats 1000000 in
theorem sym_back (g cap n c a m : Nat) (f : Nat → FoundE) (w : World) (hr : RowW w 52 5 g cap n (fdG f)) (hs : Srt leC f a m) (ham : a + 1 < m) (hmn : m < n) (hn : n ≤ 100000) :
    Calls Tryz.prog 100 #[.slice (some ⟨g, 0, none⟩) n c, .int .i64 a, .int .i64 m, .int .i64 (m + 1 : Nat), .func (.func 50) #[] #[]] w fun e w' =>
      e = .returned (.tuple #[]) ∧ ∃ h, RowW w' 52 5 g cap n (fdG h) ∧ PermOn a (m + 1) f h ∧ Srt leC h a (m + 1) ∧ Keep (· = g) w w' := by
  have HR := Lib.hid hr
  have HS := Lib.hid hs
  obtain ⟨M, hM⟩ : ∃ M, M = m + 1 := ⟨_, rfl⟩
  obtain ⟨D, hD⟩ : ∃ D, D = m - a := ⟨_, rfl⟩
  rw [← hM]
  have HM := Lib.hid hM
  have e1 : IntKind.i64.wrap ((M : Int) - (m : Int)) = 1 := by rw [show (M : Int) - (m : Int) = 1 by omega]; rfl
  have e2 : (M : Int) - (m : Int) = 1 := by omega
  have e3 : IntKind.i64.wrap ((m : Int) - (a : Int)) = (D : Int) := by rw [show (m : Int) - (a : Int) = (D : Int) by omega]; exact wraps_i64 _ (by omega) (by omega)
  have e4 : (m : Int) - (a : Int) = (D : Int) := by omega
  have e5 : ¬ (D : Int) = 1 := by omega
  have hD2 : D ≤ 100000 := by omega
  have hmn' : (m : Int) < (n : Int) := by omega
  clear hr hs hM hD
  go_enter Tryz.func100, Tryz.ntmps100
  go_wp2_with fail
  clear e1 e2 e3 e4 e5 hD2
  go_loopw [14, 15] (fun v10 v11 wr => ∃ i j : Nat, a ≤ i ∧ i ≤ j ∧ j ≤ m ∧ v10 = .int .i64 (i : Nat) ∧ v11 = .int .i64 (j : Nat) ∧ (i = a ∨ ¬ keyC (f m) (f (i - 1)) < 0) ∧ (j = m ∨ keyC (f m) (f j) < 0) ∧ Keep (fun _ => False) w wr) (fun v10 v11 _ => (intOf v11).toNat - (intOf v10).toNat)
  case atStart => exact ⟨a, m, by omega, by omega, by omega, rfl, rfl, .inl rfl, .inl rfl, Keep.refl _ _⟩
  case round =>
    obtain ⟨i, j, hi1, hij, hjb, rfl, rfl, hlo, hhi, hkp⟩ := hrel
    by_cases hlt : i < j
    · have hlt' : (i : Int) < (j : Int) := by omega
      obtain ⟨s, h, hs0, hh0, m1, m2, m3, m4, m5⟩ := mid_facts i j (by omega)
      have hhn : h < n := by omega
      have hhn' : (h : Int) < (n : Int) := by omega
      have HH := Lib.hid (show i ≤ h ∧ h < j by omega)
      have HLO := Lib.hid hlo
      have HHI := Lib.hid hhi
      have hrow := HR.out.keep hkp (by simp)
      obtain ⟨a0, a1, a2, a3, a4⟩ := ArgW.five hrow hhn
      obtain ⟨b0, b1, b2, b3, b4⟩ := ArgW.five hrow hmn
      have u0 : ∀ p : KeptBy wr, p.v.cell? ⟨g, h * 5, none⟩ = some (.int .i64 (f h).p) := fun p => p.cell hrow.lt a0
      have u1 : ∀ p : KeptBy wr, p.v.cell? ⟨g, h * 5 + 1, none⟩ = some (.int .i64 (f h).k) := fun p => p.cell hrow.lt a1
      have u2 : ∀ p : KeptBy wr, p.v.cell? ⟨g, h * 5 + 2, none⟩ = some (.int .i64 (f h).l) := fun p => p.cell hrow.lt a2
      have u3 : ∀ p : KeptBy wr, p.v.cell? ⟨g, h * 5 + 3, none⟩ = some (.int .i64 (f h).s) := fun p => p.cell hrow.lt a3
      have u4 : ∀ p : KeptBy wr, p.v.cell? ⟨g, h * 5 + 4, none⟩ = some (.int .i64 (f h).m) := fun p => p.cell hrow.lt a4
      have v0 : ∀ p : KeptBy wr, p.v.cell? ⟨g, m * 5, none⟩ = some (.int .i64 (f m).p) := fun p => p.cell hrow.lt b0
      have v1 : ∀ p : KeptBy wr, p.v.cell? ⟨g, m * 5 + 1, none⟩ = some (.int .i64 (f m).k) := fun p => p.cell hrow.lt b1
      have v2 : ∀ p : KeptBy wr, p.v.cell? ⟨g, m * 5 + 2, none⟩ = some (.int .i64 (f m).l) := fun p => p.cell hrow.lt b2
      have v3 : ∀ p : KeptBy wr, p.v.cell? ⟨g, m * 5 + 3, none⟩ = some (.int .i64 (f m).s) := fun p => p.cell hrow.lt b3
      have v4 : ∀ p : KeptBy wr, p.v.cell? ⟨g, m * 5 + 4, none⟩ = some (.int .i64 (f m).m) := fun p => p.cell hrow.lt b4
      have HK := Lib.hid hkp
      clear a0 a1 a2 a3 a4 b0 b1 b2 b3 b4 hrow hkp hlo hhi hs0 hh0
      go_upto_region 17 with (fail)
      clear m1 m2 m3 m4 m5
      by_cases hc : keyC (f m) (f h) < 0
      · have hd : decide (keyC (f m) (f h) < 0) = true := decide_eq_true hc
        refine wp_region_kept (by kernel_rfl) (by kernel_rfl) ?_
        repeat (go_big_quiet_step (first | (go_at_call 50; exact kept_of (latest1_any (f m) (f h) _))))
        refine wpQuiet_nil ?_
        rintro w2 ⟨⟨_, k2⟩, rfl⟩
        have HK2 := Lib.hid (HK.out.trans k2 (fun _ e => e.elim))
        have HC := Lib.hid hc
        clear u0 u1 u2 u3 u4 v0 v1 v2 v3 v4 k2 hd hc
        go_wp2_with fail
        go_roundw
        case rel => exact ⟨i, h, by have := HH.out; omega, by have := HH.out; omega, by have := HH.out; omega, rfl, rfl, HLO.out, .inr HC.out, HK2.out⟩
        case measure => have := HH.out; simp [intOf]; omega
      · have hd : decide (keyC (f m) (f h) < 0) = false := decide_eq_false hc
        refine wp_region_kept (by kernel_rfl) (by kernel_rfl) ?_
        repeat (go_big_quiet_step (first | (go_at_call 50; exact kept_of (latest1_any (f m) (f h) _))))
        refine wpQuiet_nil ?_
        rintro w2 ⟨⟨_, k2⟩, rfl⟩
        have HK2 := Lib.hid (HK.out.trans k2 (fun _ e => e.elim))
        have HC := Lib.hid hc
        clear u0 u1 u2 u3 u4 v0 v1 v2 v3 v4 k2 hd hc
        go_wp2_with fail
        go_roundw
        case rel => exact ⟨h + 1, j, by have := HH.out; omega, by have := HH.out; omega, by omega, by go_num, rfl, .inr (by rw [Nat.add_sub_cancel]; exact HC.out), HHI.out, HK2.out⟩
        case measure => have := HH.out; simp [intOf]; omega
    · obtain rfl : i = j := by omega
      have hlt' : ¬ (i : Int) < (i : Int) := by omega
      have HI := Lib.hid (And.intro hi1 hjb)
      have HEND := Lib.hid (back_end f HS.out hi1 hjb hlo hhi)
      have hrow := HR.out.keep hkp (by simp)
      have HRR := Lib.hid hrow
      have HKP := Lib.hid (hkp.more (fun _ e => e.elim) : Keep (· = g) w wr)
      clear hrow hkp hlo hhi
      go_wp2_with fail
      go_loopw [17] (fun v wi => ∃ k : Nat, i ≤ k ∧ k ≤ m ∧ v = .int .i64 (k : Nat) ∧ RowW wi 52 5 g cap n (fdG (rotF f k m (m + 1))) ∧ Keep (· = g) w wi) (fun v _ => (intOf v).toNat - i)
      case atStart => exact ⟨m, HI.out.2, Nat.le_refl _, rfl, by rw [rot_none']; exact HRR.out, HKP.out⟩
      case round =>
        obtain ⟨k, hik, hkm, rfl, hrow, hkp⟩ := hrel
        by_cases hk : i < k
        · have hk' : (i : Int) < (k : Int) := by omega
          obtain ⟨h, hh⟩ : ∃ h, h = rotF f k m (m + 1) := ⟨_, rfl⟩
          rw [← hh] at hrow
          obtain ⟨Y, hY⟩ : ∃ Y, Y = k - 1 := ⟨_, rfl⟩
          have HH := Lib.hid (show swpG h k Y = rotF f Y m (m + 1) by rw [hh, show k = Y + 1 by omega]; exact rot_back f (by omega))
          have HY := Lib.hid hY
          have hkn : k < n := by omega
          have hYn : Y < n := by omega
          have hkn' : (k : Int) < (n : Int) := by omega
          have hYn' : (Y : Int) < (n : Int) := by omega
          have e3 : IntKind.i64.wrap ((k : Int) - 1) = (Y : Int) := by rw [show (k : Int) - 1 = (Y : Int) by omega]; exact wraps_i64 _ (by omega) (by omega)
          have e4 : (k : Int) - 1 = (Y : Int) := by omega
          have hne : k ≠ Y := by omega
          clear hY hh
          obtain ⟨a0, a1, a2, a3, a4⟩ := ArgW.five hrow hkn
          obtain ⟨b0, b1, b2, b3, b4⟩ := ArgW.five hrow hYn
          obtain ⟨⟨⟨_, c0⟩, z0⟩, ⟨⟨_, c1⟩, z1⟩, ⟨⟨_, c2⟩, z2⟩, ⟨⟨_, c3⟩, z3⟩, ⟨⟨_, c4⟩, z4⟩, ⟨⟨_, c5⟩, z5⟩, ⟨⟨_, c6⟩, z6⟩, ⟨⟨_, c7⟩, z7⟩, ⟨⟨_, c8⟩, z8⟩, ⟨⟨_, c9⟩, z9⟩, RF, KF⟩ := swap_two hrow hne hkn hYn
          rw [HH.out] at RF
          have HRF := Lib.hid RF
          have HKF := Lib.hid (hkp.trans KF (fun _ e => .inl e))
          clear hrow RF KF c0 hne hkp HH
          go_upto_region 23 with (fail)
          go_region
          all_goals
            go_wp2_with fail
            go_roundw
            case rel => exact ⟨Y, by have := HY.out; omega, by have := HY.out; omega, rfl, RowW.drewN HRF.out 1, HKF.out.drewN 1⟩
            case measure => have := HY.out; simp [intOf]; omega
        · obtain rfl : k = i := by omega
          have hk' : ¬ (k : Int) < (k : Int) := by omega
          have HRE := Lib.hid hrow
          clear hrow
          go_wp2_with fail
          (try simp only [Exit.inBlock, Exit.then]); refine bodyPost_ret (results_none rfl _ _ _) rfl ?_
          exact ⟨rfl, _, HRE.out, HM.out ▸ HEND.out.1, HM.out ▸ HEND.out.2, hkp⟩
end Go.Proofs.YtdlmjjlejkkniaaGreat

namespace Go.Proofs.YtdlmjjlejkkniaaGreat
open Go.RowKit

/-- Where the search begins and ends. -/
theorem sym_ends {a m b mid NN : Nat} (ham : a < m) (hmb : m < b) (hmid : mid = (a + b) / 2) (hNN : NN = mid + m) :
    ∃ s r : Nat, a ≤ s ∧ s ≤ r ∧ r ≤ m ∧ r ≤ mid ∧ NN ≤ s + b ∧ (s = a ∨ NN = s + b) ∧ (r = m ∨ r = mid) ∧ (mid < m → s = NN - b ∧ r = mid) ∧ (¬ mid < m → s = a ∧ r = m) := by
  by_cases h : mid < m
  · exact ⟨NN - b, mid, by omega, by omega, by omega, by omega, by omega, .inr (by omega), .inr rfl, fun _ => ⟨rfl, rfl⟩, fun e => absurd h e⟩
  · exact ⟨a, m, by omega, by omega, by omega, by omega, by omega, .inl rfl, .inl rfl, fun e => absurd e h, fun _ => ⟨rfl, rfl⟩⟩
theorem sym_mid (f : Nat → FoundE) {a m b mid NN s : Nat} (s1 : Srt leC f a m) (s2 : Srt leC f m b) (ham : a < m) (hmb : m < b) (hmid : mid = (a + b) / 2) (hNN : NN = mid + m)
    (h0 : a ≤ s) (h1 : s ≤ m) (h2 : s ≤ mid) (h3 : NN ≤ s + b) (lo : (s = a ∨ NN = s + b) ∨ ¬ keyC (f (NN - 1 - (s - 1))) (f (s - 1)) < 0) (hi : (s = m ∨ s = mid) ∨ keyC (f (NN - 1 - s)) (f s) < 0) :
    Srt leC (rotF f s m (NN - s)) a s ∧ Srt leC (rotF f s m (NN - s)) s mid ∧ Srt leC (rotF f s m (NN - s)) mid (NN - s) ∧ Srt leC (rotF f s m (NN - s)) (NN - s) b
    ∧ (∀ i j, a ≤ i → i < mid → mid ≤ j → j < b → leC (rotF f s m (NN - s) i) (rotF f s m (NN - s) j)) ∧ PermOn a b f (rotF f s m (NN - s)) := by
  have hp : PermOn a b f (rotF f s m (NN - s)) := (rot_perm f h1 (by omega)).more h0 (by omega)
  subst hNN
  have hlo : (s = a ∨ mid + m = s + b) ∨ leC (f (s - 1)) (f (mid + m - s)) := by
    by_cases e : s = a
    · exact .inl (.inl e)
    · rcases lo with h | h
      · exact .inl h
      · have := leC_of_not h
        rw [show mid + m - 1 - (s - 1) = mid + m - s by omega] at this
        exact .inr this
  obtain ⟨x1, x2, x3, x4, x5⟩ := halves_law leC_trans s1 s2 ham hmb hmid h0 h1 h2 h3 hlo (hi.imp id (fun e => leC_of_lt e))
  exact ⟨x1, x2, x3, x4, x5, hp⟩
set_option maxRecDepth 100000 in
set_option maxHeartbeats 4000000 in
theorem sym_any (N : Nat) : ∀ (g cap n c a m b : Nat) (f : Nat → FoundE) (w : World), RowW w 52 5 g cap n (fdG f) → Srt leC f a m → Srt leC f m b → a < m → m < b → b ≤ n → n ≤ 100000 → b - a ≤ N →
    Calls Tryz.prog 100 #[.slice (some ⟨g, 0, none⟩) n c, .int .i64 a, .int .i64 m, .int .i64 b, .func (.func 50) #[] #[]] w fun e w' =>
      e = .returned (.tuple #[]) ∧ ∃ h, RowW w' 52 5 g cap n (fdG h) ∧ PermOn a b f h ∧ Srt leC h a b ∧ Keep (· = g) w w' := by
  induction N with
  | zero =>
    intro g cap n c a m b f w hr s1 s2 ham hmb hbn hn hN
    omega
  | succ N ih =>
    intro g cap n c a m b f w hr s1 s2 ham hmb hbn hn hN
    by_cases hm1 : m = a + 1
    · subst hm1
      exact sym_front g cap n c a b f w hr s2 hmb hbn hn
    by_cases hb1 : b = m + 1
    · subst hb1
      exact sym_back g cap n c a m f w hr s1 (by omega) (by omega) hn
    obtain ⟨D, hD⟩ : ∃ D, D = m - a := ⟨_, rfl⟩
    obtain ⟨E, hE⟩ : ∃ E, E = b - m := ⟨_, rfl⟩
    have e1 : IntKind.i64.wrap ((m : Int) - (a : Int)) = (D : Int) := by rw [show (m : Int) - (a : Int) = (D : Int) by omega]; exact wraps_i64 _ (by omega) (by omega)
    have e2 : (m : Int) - (a : Int) = (D : Int) := by omega
    have e3 : IntKind.i64.wrap ((b : Int) - (m : Int)) = (E : Int) := by rw [show (b : Int) - (m : Int) = (E : Int) by omega]; exact wraps_i64 _ (by omega) (by omega)
    have e4 : (b : Int) - (m : Int) = (E : Int) := by omega
    have e5 : ¬ (D : Int) = 1 := by omega
    have e6 : ¬ (E : Int) = 1 := by omega
    have hD2 : D ≤ 100000 := by omega
    have hE2 : E ≤ 100000 := by omega
    obtain ⟨S, mid, hS, hmid0, m1, m2, m3, m4, m5⟩ := mid_facts a b (by omega)
    have hmid : mid = (a + b) / 2 := by rw [hmid0, hS]
    have hS2 : S ≤ 200000 := by omega
    clear hS hmid0
    obtain ⟨NN, hNN⟩ : ∃ NN, NN = mid + m := ⟨_, rfl⟩
    have n1 : IntKind.i64.wrap ((mid : Int) + (m : Int)) = (NN : Int) := by rw [show (mid : Int) + (m : Int) = (NN : Int) by omega]; exact wraps_i64 _ (by omega) (by omega)
    have n2 : (mid : Int) + (m : Int) = (NN : Int) := by omega
    have n3 : NN ≤ 200000 := by omega
    obtain ⟨P, hP⟩ : ∃ P, P = NN - 1 := ⟨_, rfl⟩
    have p1 : IntKind.i64.wrap ((NN : Int) - 1) = (P : Int) := by rw [show (NN : Int) - 1 = (P : Int) by omega]; exact wraps_i64 _ (by omega) (by omega)
    have p2 : (NN : Int) - 1 = (P : Int) := by omega
    obtain ⟨s0, r0, q1, q2, q3, q4, q5, q6, q7, q8, q9⟩ := sym_ends ham hmb hmid hNN
    have hs0 : s0 ≤ 100000 := by omega
    have hr0 : r0 ≤ 100000 := by omega
    have hmid2 : mid ≤ 100000 := by omega
    have HQ := Lib.hid (And.intro q1 (And.intro q2 (And.intro q3 (And.intro q4 (And.intro q5 (And.intro q6 q7))))))
    have HMID := Lib.hid (And.intro hmid hNN)
    have HB := Lib.hid (show a < m ∧ m < b ∧ b ≤ n ∧ b - a ≤ N + 1 from ⟨ham, hmb, hbn, hN⟩)
    have HP := Lib.hid hP
    have HS1 := Lib.hid s1
    have HS2 := Lib.hid s2
    have HR := Lib.hid hr
    have IH := Lib.hid (ih g cap n c)
    have hX := Lib.hid (And.intro q8 q9)
    have hbn2 : NN - b = s0 ∨ ¬ mid < m := by
      by_cases e : mid < m
      · exact .inl (q8 e).1.symm
      · exact .inr e
    have HBN := Lib.hid hbn2
    clear hr s1 s2 ih q1 q2 q3 q4 q5 q6 q7 q8 q9 hD hE hP hmid hNN hN hm1 hb1 hbn2 ham hmb hbn
    go_enter Tryz.func100, Tryz.ntmps100
    go_upto_if 140 with (fail)
    clear e1 e2 e3 e4 e5 e6 hD2 hE2 m1 m2 m3 m4 m5 n1 n2 hS2
    go_cut [20, 21] (fun v20 v21 wc => v20 = .int .i64 (s0 : Nat) ∧ v21 = .int .i64 (r0 : Nat) ∧ w = wc)
    case first =>
      as_aux_lemma =>
        by_cases h : mid < m
        · have h' : (mid : Int) < (m : Int) := by omega
          obtain ⟨rfl, rfl⟩ := hX.out.1 h
          have z1 : IntKind.i64.wrap ((NN : Int) - (b : Int)) = ((NN - b : Nat) : Int) := by
            have := HQ.out
            have := HB.out
            have := HMID.out
            rw [show (NN : Int) - (b : Int) = ((NN - b : Nat) : Int) by omega]
            exact wraps_i64 _ (by omega) (by omega)
          have z2 : (NN : Int) - (b : Int) = ((NN - b : Nat) : Int) := by
            have := HQ.out
            have := HB.out
            have := HMID.out
            omega
          generalize NN - b = SS at *
          go_wp2_with fail
          go_meet
          exact ⟨rfl, rfl, rfl⟩
        · have h' : ¬ (mid : Int) < (m : Int) := by omega
          obtain ⟨rfl, rfl⟩ := hX.out.2 h
          go_wp2_with fail
          go_meet
          exact ⟨rfl, rfl, rfl⟩
    case rest =>
    obtain ⟨rfl, rfl, rfl⟩ := hcut
    go_wp2_with fail
    clear p1 p2
    go_loopw [20, 21] (fun v20 v21 wr => ∃ i j : Nat, s0 ≤ i ∧ i ≤ j ∧ j ≤ r0 ∧ v20 = .int .i64 (i : Nat) ∧ v21 = .int .i64 (j : Nat) ∧ (i = s0 ∨ ¬ keyC (f (P - (i - 1))) (f (i - 1)) < 0) ∧ (j = r0 ∨ keyC (f (P - j)) (f j) < 0) ∧ Keep (fun _ => False) w wr) (fun v20 v21 _ => (intOf v21).toNat - (intOf v20).toNat)
    case atStart => exact ⟨s0, r0, Nat.le_refl _, HQ.out.2.1, Nat.le_refl _, rfl, rfl, .inl rfl, .inl rfl, Keep.refl _ _⟩
    case round =>
      obtain ⟨i, j, hsi, hij, hjr, rfl, rfl, hlo, hhi, hkp⟩ := hrel
      by_cases hlt : i < j
      · have hlt' : (i : Int) < (j : Int) := by omega
        obtain ⟨s, h, hs9, hh0, m1, m2, m3, m4, m5⟩ := mid_facts i j (by omega)
        obtain ⟨x, hx⟩ : ∃ x, x = P - h := ⟨_, rfl⟩
        have hfx : h < n ∧ x < n ∧ h ≤ P := by
          have := HQ.out
          have := HB.out
          have := HMID.out
          have := HP.out
          omega
        have e1 : IntKind.i64.wrap ((P : Int) - (h : Int)) = (x : Int) := by rw [show (P : Int) - (h : Int) = (x : Int) by omega]; exact wraps_i64 _ (by omega) (by omega)
        have e2 : (P : Int) - (h : Int) = (x : Int) := by omega
        obtain ⟨hhn, hxn, _⟩ := hfx
        have hhn' : (h : Int) < (n : Int) := by omega
        have hxn' : (x : Int) < (n : Int) := by omega
        have HH := Lib.hid (show i ≤ h ∧ h < j by omega)
        have HX := Lib.hid hx
        have HLO := Lib.hid hlo
        have HHI := Lib.hid hhi
        have hs8 : s ≤ 1000000 := by omega
        have hrow := HR.out.keep hkp (by simp)
        obtain ⟨a0, a1, a2, a3, a4⟩ := ArgW.five hrow hhn
        obtain ⟨b0, b1, b2, b3, b4⟩ := ArgW.five hrow hxn
        have u0 : ∀ p : KeptBy wr, p.v.cell? ⟨g, h * 5, none⟩ = some (.int .i64 (f h).p) := fun p => p.cell hrow.lt a0
        have u1 : ∀ p : KeptBy wr, p.v.cell? ⟨g, h * 5 + 1, none⟩ = some (.int .i64 (f h).k) := fun p => p.cell hrow.lt a1
        have u2 : ∀ p : KeptBy wr, p.v.cell? ⟨g, h * 5 + 2, none⟩ = some (.int .i64 (f h).l) := fun p => p.cell hrow.lt a2
        have u3 : ∀ p : KeptBy wr, p.v.cell? ⟨g, h * 5 + 3, none⟩ = some (.int .i64 (f h).s) := fun p => p.cell hrow.lt a3
        have u4 : ∀ p : KeptBy wr, p.v.cell? ⟨g, h * 5 + 4, none⟩ = some (.int .i64 (f h).m) := fun p => p.cell hrow.lt a4
        have v0 : ∀ p : KeptBy wr, p.v.cell? ⟨g, x * 5, none⟩ = some (.int .i64 (f x).p) := fun p => p.cell hrow.lt b0
        have v1 : ∀ p : KeptBy wr, p.v.cell? ⟨g, x * 5 + 1, none⟩ = some (.int .i64 (f x).k) := fun p => p.cell hrow.lt b1
        have v2 : ∀ p : KeptBy wr, p.v.cell? ⟨g, x * 5 + 2, none⟩ = some (.int .i64 (f x).l) := fun p => p.cell hrow.lt b2
        have v3 : ∀ p : KeptBy wr, p.v.cell? ⟨g, x * 5 + 3, none⟩ = some (.int .i64 (f x).s) := fun p => p.cell hrow.lt b3
        have v4 : ∀ p : KeptBy wr, p.v.cell? ⟨g, x * 5 + 4, none⟩ = some (.int .i64 (f x).m) := fun p => p.cell hrow.lt b4
        have HK := Lib.hid hkp
        clear a0 a1 a2 a3 a4 b0 b1 b2 b3 b4 hrow hkp hlo hhi hs9 hh0 hx
        go_upto_region 35 with (fail)
        clear m1 m2 m3 m4 m5 hs8
        by_cases hc : keyC (f x) (f h) < 0
        · as_aux_lemma =>
            have hd : decide (keyC (f x) (f h) < 0) = true := decide_eq_true hc
            refine wp_region_kept (by kernel_rfl) (by kernel_rfl) ?_
            repeat (go_big_quiet_step (first | (go_at_call 50; exact kept_of (latest1_any (f x) (f h) _))))
            refine wpQuiet_nil ?_
            rintro w2 ⟨⟨_, k2⟩, rfl⟩
            have HK2 := Lib.hid (HK.out.trans k2 (fun _ e => e.elim))
            have HC := Lib.hid hc
            clear u0 u1 u2 u3 u4 v0 v1 v2 v3 v4 k2 hd hc e1 e2
            go_wp2_with fail
            go_roundw
            case rel => exact ⟨i, h, hsi, by have := HH.out; omega, by have := HH.out; omega, rfl, rfl, HLO.out, .inr (by rw [← HX.out]; exact HC.out), HK2.out⟩
            case measure => have := HH.out; simp [intOf]; omega
        · as_aux_lemma =>
            have hd : decide (keyC (f x) (f h) < 0) = false := decide_eq_false hc
            refine wp_region_kept (by kernel_rfl) (by kernel_rfl) ?_
            repeat (go_big_quiet_step (first | (go_at_call 50; exact kept_of (latest1_any (f x) (f h) _))))
            refine wpQuiet_nil ?_
            rintro w2 ⟨⟨_, k2⟩, rfl⟩
            have HK2 := Lib.hid (HK.out.trans k2 (fun _ e => e.elim))
            have HC := Lib.hid hc
            clear u0 u1 u2 u3 u4 v0 v1 v2 v3 v4 k2 hd hc e1 e2
            go_wp2_with fail
            go_roundw
            case rel => exact ⟨h + 1, j, by have := HH.out; omega, by have := HH.out; omega, hjr, by go_num, rfl, .inr (by rw [Nat.add_sub_cancel, ← HX.out]; exact HC.out), HHI.out, HK2.out⟩
            case measure => have := HH.out; simp [intOf]; omega
      · obtain rfl : i = j := by omega
        have hlt' : ¬ (i : Int) < (i : Int) := by omega
        obtain ⟨X, hX1⟩ : ∃ X, X = NN - i := ⟨_, rfl⟩
        obtain ⟨g1, g2, g3, g4, g5, g6⟩ := sym_mid f (s := i) HS1.out HS2.out HB.out.1 HB.out.2.1 HMID.out.1 HMID.out.2 (by have := HQ.out; omega) (by have := HQ.out; omega) (by have := HQ.out; omega) (by have := HQ.out; omega)
          (by
            rcases hlo with e | e
            · rcases HQ.out.2.2.2.2.2.1 with e2 | e2
              · exact .inl (.inl (by omega))
              · exact .inl (.inr (by omega))
            · rw [HP.out] at e
              exact .inr e)
          (by
            rcases hhi with e | e
            · rcases HQ.out.2.2.2.2.2.2 with e2 | e2
              · exact .inl (.inl (by omega))
              · exact .inl (.inr (by omega))
            · rw [HP.out] at e
              exact .inr e)
        rw [← hX1] at g1 g2 g3 g4 g5 g6
        have HF := Lib.hid (show a ≤ i ∧ i ≤ m ∧ i ≤ mid ∧ m ≤ X ∧ mid ≤ X ∧ X ≤ b ∧ (m = X ↔ i = mid) ∧ (mid = X ↔ i = m) ∧ X ≤ n ∧ a ≤ mid ∧ mid < b by have := HQ.out; have := HB.out; have := HMID.out; omega)
        have e1 : IntKind.i64.wrap ((NN : Int) - (i : Int)) = (X : Int) := by
          have := HF.out
          have := HMID.out
          rw [show (NN : Int) - (i : Int) = (X : Int) by omega]
          exact wraps_i64 _ (by omega) (by omega)
        have e2 : (NN : Int) - (i : Int) = (X : Int) := by have := HF.out; have := HMID.out; omega
        have hX2 : X ≤ 100000 := by have := HF.out; omega
        have hi2 : i ≤ 100000 := by omega
        have hrow := Lib.hid (HR.out.keep hkp (by simp))
        have HKP := Lib.hid (hkp.more (fun _ e => e.elim) : Keep (· = g) w wr)
        have HG := Lib.hid (And.intro g1 (And.intro g2 (And.intro g3 (And.intro g4 (And.intro g5 g6)))))
        clear hkp hX1 hlo hhi g1 g2 g3 g4 g5 g6 hsi hij hjr
        go_upto_region 39 with (fail)
        clear e1 e2
        go_cut [24, 185] (fun v24 v185 wc => v24 = .int .i64 (X : Nat) ∧ v185 = .bool (decide (i < m ∧ m < X)) ∧ wr = wc)
        case first =>
          as_aux_lemma =>
            by_cases h1 : i < m
            · by_cases h2 : m < X
              · have h1' : (i : Int) < (m : Int) := by omega
                have h2' : (m : Int) < (X : Int) := by omega
                go_wp2_with fail
                go_meet
                exact ⟨rfl, by rw [decide_eq_true (And.intro h1 h2)], rfl⟩
              · have h1' : (i : Int) < (m : Int) := by omega
                have h2' : ¬ (m : Int) < (X : Int) := by omega
                go_wp2_with fail
                go_meet
                exact ⟨rfl, by rw [decide_eq_false (fun e => h2 e.2)], rfl⟩
            · have h1' : ¬ (i : Int) < (m : Int) := by omega
              go_wp2_with fail
              go_meet
              exact ⟨rfl, by rw [decide_eq_false (fun e => h1 e.1)], rfl⟩
        case rest =>
        obtain ⟨rfl, rfl, rfl⟩ := hcut
        go_upto_if 185 with (fail)
        go_cut [24] (fun v24 wc => v24 = .int .i64 (X : Nat) ∧ RowW wc 52 5 g cap n (fdG (rotF f i m X)) ∧ Keep (· = g) w wc)
        case first =>
          as_aux_lemma =>
            by_cases h0 : i < m ∧ m < X
            · obtain ⟨h1, h2⟩ := h0
              rw [decide_eq_true (And.intro h1 h2)]
              have hc := Lib.hid (rot_any g cap n c i m X f wr hrow.out h1 h2 HF.out.2.2.2.2.2.2.2.2.1 hn)
              go_wp2_with fail
              refine hc.out.mono ?_
              rintro e w1 ⟨rfl, hr1, hk1⟩
              have HR1 := Lib.hid hr1
              have HK1 := Lib.hid (HKP.out.trans hk1 (fun _ e => .inl e))
              clear hr1 hk1 hc
              go_wp2_with fail
              go_meet
              exact ⟨rfl, HR1.out, HK1.out⟩
            · rw [decide_eq_false h0]
              have HR1 := Lib.hid (show RowW wr 52 5 g cap n (fdG (rotF f i m X)) by
                have := HF.out
                by_cases e : i = m
                · rw [e, rot_none']
                  exact hrow.out
                · rw [show X = m by omega, rot_none]
                  exact hrow.out)
              clear h0
              go_wp2_with fail
              go_meet
              exact ⟨rfl, HR1.out, HKP.out⟩
        case rest =>
        obtain ⟨rfl, hr1, hk1⟩ := hcut
        obtain ⟨G, hG⟩ : ∃ G, G = rotF f i m X := ⟨_, rfl⟩
        rw [← hG] at HG hr1
        have HR1 := Lib.hid hr1
        have HK1 := Lib.hid hk1
        clear hr1 hk1 hG HKP hrow
        go_upto_region 41 with (fail)
        go_cut [24, 199] (fun v24 v199 wd => v24 = .int .i64 (X : Nat) ∧ v199 = .bool (decide (a < i ∧ i < mid)) ∧ wc = wd)
        case first =>
          as_aux_lemma =>
            by_cases h1 : a < i
            · by_cases h2 : i < mid
              · have h1' : (a : Int) < (i : Int) := by omega
                have h2' : (i : Int) < (mid : Int) := by omega
                go_wp2_with fail
                go_meet
                exact ⟨rfl, by rw [decide_eq_true (And.intro h1 h2)], rfl⟩
              · have h1' : (a : Int) < (i : Int) := by omega
                have h2' : ¬ (i : Int) < (mid : Int) := by omega
                go_wp2_with fail
                go_meet
                exact ⟨rfl, by rw [decide_eq_false (fun e => h2 e.2)], rfl⟩
            · have h1' : ¬ (a : Int) < (i : Int) := by omega
              go_wp2_with fail
              go_meet
              exact ⟨rfl, by rw [decide_eq_false (fun e => h1 e.1)], rfl⟩
        case rest =>
        obtain ⟨rfl, rfl, rfl⟩ := hcut
        go_upto_if 199 with (fail)
        go_cut [24] (fun v24 wc => v24 = .int .i64 (X : Nat) ∧ ∃ h, RowW wc 52 5 g cap n (fdG h) ∧ PermOn a mid G h ∧ Srt leC h a mid ∧ Keep (· = g) w wc)
        case first =>
          as_aux_lemma =>
            obtain ⟨g1, g2, g3, g4, g5, g6⟩ := HG.out
            by_cases h0 : a < i ∧ i < mid
            · obtain ⟨h1, h2⟩ := h0
              rw [decide_eq_true (And.intro h1 h2)]
              have hc := Lib.hid (IH.out a i mid G wc HR1.out g1 g2 h1 h2 (by have := HF.out; omega) hn (by have := HB.out; have := HMID.out; omega))
              clear g1 g2 g3 g4 g5 g6
              go_wp2_with fail
              refine hc.out.mono ?_
              rintro e w1 ⟨rfl, h, hr2, hp2, hs2, hk2⟩
              have HE := Lib.hid (show RowW w1 52 5 g cap n (fdG h) ∧ PermOn a mid G h ∧ Srt leC h a mid ∧ Keep (· = g) w w1 from ⟨hr2, hp2, hs2, HK1.out.trans hk2 (fun _ e => .inl e)⟩)
              clear hr2 hp2 hs2 hk2 hc
              go_wp2_with fail
              go_meet
              exact ⟨rfl, h, HE.out⟩
            · rw [decide_eq_false h0]
              have HE := Lib.hid (show Srt leC G a mid by
                have := HF.out
                by_cases e : i = mid
                · rw [← e]
                  exact g1
                · rw [show a = i by omega]
                  exact g2)
              clear g1 g2 g3 g4 g5 g6 h0
              go_wp2_with fail
              go_meet
              exact ⟨rfl, G, HR1.out, PermOn.refl _ _ _, HE.out, HK1.out⟩
        case rest =>
        obtain ⟨rfl, h, hr2, hp2, hs2, hk2⟩ := hcut
        have HR2 := Lib.hid hr2
        have HP2 := Lib.hid hp2
        have HS3 := Lib.hid hs2
        have HK2 := Lib.hid hk2
        clear hr2 hp2 hs2 hk2 HR1 HK1
        obtain ⟨g1, g2, g3, g4, g5, g6⟩ := HG.out
        by_cases h1 : mid < X
        · by_cases h2 : X < b
          · have h1' : (mid : Int) < (X : Int) := by omega
            have h2' : (X : Int) < (b : Int) := by omega
            have hc := Lib.hid (IH.out mid X b h wc HR2.out (g3.congr (fun q x y => HP2.out.out (by omega))) (g4.congr (fun q x y => HP2.out.out (by omega))) h1 h2 HB.out.2.2.1 hn (by have := HB.out; have := HMID.out; omega))
            clear g1 g2 g3 g4 g5 g6
            go_wp2_with fail
            refine hc.out.mono ?_
            rintro e w1 ⟨rfl, k, hr3, hp3, hs3, hk3⟩
            have HE := Lib.hid (show RowW w1 52 5 g cap n (fdG k) ∧ PermOn a b f k ∧ Srt leC k a b ∧ Keep (· = g) w w1 from by
              obtain ⟨g1, g2, g3, g4, g5, g6⟩ := HG.out
              exact ⟨hr3, g6.trans ((HP2.out.more (Nat.le_refl _) (by have := HF.out; omega)).trans (hp3.more (by have := HF.out; omega) (Nat.le_refl _))), whole_law (HS3.out.congr (fun q x y => hp3.out (by omega))) hs3 HP2.out hp3 g5, HK2.out.trans hk3 (fun _ e => .inl e)⟩)
            clear hr3 hp3 hs3 hk3 hc
            go_wp2_with fail
            go_end0
            exact ⟨rfl, k, HE.out⟩
          · have h1' : (mid : Int) < (X : Int) := by omega
            have h2' : ¬ (X : Int) < (b : Int) := by omega
            have HE := Lib.hid (show PermOn a b f h ∧ Srt leC h a b from
              ⟨g6.trans (HP2.out.more (Nat.le_refl _) (by have := HF.out; omega)), whole_law HS3.out (by rw [← show X = b by have := HF.out; omega]; exact g3.congr (fun q x y => HP2.out.out (by omega))) HP2.out (PermOn.refl _ _ _) g5⟩)
            clear g1 g2 g3 g4 g5 g6
            go_wp2_with fail
            go_end0
            exact ⟨rfl, h, HR2.out, HE.out.1, HE.out.2, HK2.out⟩
        · have h1' : ¬ (mid : Int) < (X : Int) := by omega
          have HE := Lib.hid (show PermOn a b f h ∧ Srt leC h a b from
            ⟨g6.trans (HP2.out.more (Nat.le_refl _) (by have := HF.out; omega)), whole_law HS3.out (by rw [show mid = X by have := HF.out; omega]; exact g4.congr (fun q x y => HP2.out.out (by have := HF.out; omega))) HP2.out (PermOn.refl _ _ _) g5⟩)
          clear g1 g2 g3 g4 g5 g6
          go_wp2_with fail
          go_end0
          exact ⟨rfl, h, HR2.out, HE.out.1, HE.out.2, HK2.out⟩
end Go.Proofs.YtdlmjjlejkkniaaGreat
