/- scan.Latest. -/
import Derived.Test.YtdlmjjlejkkniaaGreatSorts
namespace Go.Proofs.YtdlmjjlejkkniaaGreat
open Go.RowKit

theorem zero_fd (n : Nat) : (Builtin.zeroCells (Value.agg #[.int .i64 0, .int .i64 0, .int .i64 0, .int .i64 0, .int .i64 0]).cells n).toList = List.replicate (n * 5) (.int .i64 0) := by
  apply List.ext_getElem
  · simp [Builtin.zeroCells, Value.cells]
  · intro i h1 h2
    have hm : i % 5 < 5 := Nat.mod_lt _ (by omega)
    simp [Builtin.zeroCells, Value.cells]
    generalize i % 5 = r at *
    match r, hm with
    | 0, _ => rfl
    | 1, _ => rfl
    | 2, _ => rfl
    | 3, _ => rfl
    | 4, _ => rfl
    | r + 5, h => omega
theorem zv_fd (w : World) : (zeroValue 52).run Tryz.prog w = .ok (.agg #[.int .i64 0, .int .i64 0, .int .i64 0, .int .i64 0, .int .i64 0]) w := by kernel_rfl
theorem run_clear_fd (w : World) (ty : TypeId) (b o n c : Nat) (hn : 0 < n) (hc : ∀ j, j < n * 5 → (w.cell? ⟨b, o + j, none⟩).isSome = true) (hf : ∀ j, j < n * 5 → w.frozen? ⟨b, o + j, none⟩ = false) :
    (Builtin.clear_ #[42] ty #[.slice (some ⟨b, o, none⟩) n c]).run Tryz.prog w = .ok (.tuple #[]) (w.setCells b o (List.replicate (n * 5) (.int .i64 0))) := by
  have hst := run_storeCells_cells (P := Tryz.prog) b o (List.replicate (n * 5) (.int .i64 0)) 0 w (by simpa using hc) (by simpa using hf) (by intro v hv'; rw [List.eq_of_mem_replicate hv']; rfl)
  simp only [Nat.add_zero] at hst
  obtain ⟨m, rfl⟩ : ∃ m, n = m + 1 := ⟨n - 1, by omega⟩
  simp [Builtin.clear_, run_underlying Tryz.underlying42, zero_fd, hst]
/-- A row of which k cells behind o are put to z. -/
theorem RowW.zeros {T : TypeId} {z : Value} {m g c n : Nat} (k : Nat) : ∀ (w : World) (o : Nat) (f : Nat → Value), RowW w T m g c n f →
    RowW (w.setCells g o (List.replicate k z)) T m g c n (fun i => if o ≤ i ∧ i < o + k then z else f i) ∧ Keep (· = g) w (w.setCells g o (List.replicate k z)) := by
  induction k with
  | zero =>
    intro w o f h
    exact ⟨h.congr (fun i _ => (if_neg (by omega)).symm), Keep.refl _ _⟩
  | succ k ih =>
    intro w o f h
    obtain ⟨h1, h2⟩ := ih _ (o + 1) _ (h.store o z (f' := fun q => if q = o then z else f q) (fun _ _ => rfl))
    refine ⟨h1.congr (fun i _ => ?_), ((Keep.refl (· = g) w).setCell (p := ⟨g, o, none⟩) (.inl rfl) z).trans h2 (fun i hi => .inl hi)⟩
    by_cases e : i = o
    · rw [if_neg (by omega), if_pos e, if_pos (by omega)]
    · rw [if_neg e]
      by_cases e2 : o + 1 ≤ i ∧ i < o + 1 + k
      · rw [if_pos e2, if_pos (by omega)]
      · rw [if_neg e2, if_neg (by omega)]
/-- How many of the first i are kept: the first, and each whose host page is not that of the one before. -/
def cmpN (f : Nat → FoundE) : Nat → Nat
  | 0 => 0
  | i + 1 => if i = 0 ∨ (f i).l ≠ (f (i - 1)).l then cmpN f i + 1 else cmpN f i
/-- .. which. -/
def cmpG (f : Nat → FoundE) : Nat → Nat → FoundE
  | 0 => f
  | i + 1 => if i = 0 ∨ (f i).l ≠ (f (i - 1)).l then fun q => if q = cmpN f i then f i else cmpG f i q else cmpG f i
theorem cmpN_le (f : Nat → FoundE) : ∀ i, cmpN f i ≤ i
  | 0 => Nat.le_refl _
  | i + 1 => by
    have := cmpN_le f i
    unfold cmpN
    split <;> omega
end Go.Proofs.YtdlmjjlejkkniaaGreat

namespace Go.Proofs.YtdlmjjlejkkniaaGreat
open Go.RowKit

theorem cmpN_all {f : Nat → FoundE} : ∀ i, cmpN f i = i → ∀ q, q < i → cmpG f i q = f q
  | 0, _, q, hq => by omega
  | i + 1, h, q, hq => by
    have hle := cmpN_le f i
    unfold cmpN at h
    unfold cmpG
    by_cases e : i = 0 ∨ (f i).l ≠ (f (i - 1)).l
    · rw [if_pos e] at h ⊢
      have hi : cmpN f i = i := by omega
      show (if q = cmpN f i then f i else cmpG f i q) = f q
      by_cases e2 : q = cmpN f i
      · rw [if_pos e2, e2, hi]
      · rw [if_neg e2]
        exact cmpN_all i hi q (by omega)
    · rw [if_neg e] at h
      omega
set_option maxRecDepth 100000 in
set_option maxHeartbeats 800000 in
theorem compact_small (a : Option Addr) (n c : Nat) (w : World) (hn : n < 2) :
    Calls Tryz.prog 53 #[.slice a n c, .func (.func 54) #[] #[]] w fun e w' => e = .returned (.slice a n c) ∧ w' = w := by
  have hn' : (n : Int) < 2 := by omega
  go_enter Tryz.func53, Tryz.ntmps53
  go_wp2_with fail
  go_ret
  exact ⟨rfl, rfl⟩
theorem latest_nil (c : Nat) (w : World) :
    Calls Tryz.prog 20 #[.slice none 0 c] w fun e w' => (∃ c', e = .returned (.slice none 0 c')) ∧ Keep (fun _ => False) w w' := by
  have hcl : Calls Tryz.prog 48 #[.slice none 0 c] w fun e w' => e = .returned (.slice none 0 0) ∧ w' = w := by
    have q := fun (w : World) (a : Option Addr) (n c n' c' : Nat) => Lib.run_eql_slice_nil (P := Tryz.prog) w 42 52 a n c n' c' Tryz.underlying42
    go_enter Tryz.func48, Tryz.ntmps48
    go_wp2_with fail
    go_ret
    exact ⟨rfl, rfl⟩
  go_enter Tryz.func20, Tryz.ntmps20
  go_wp2_with fail
  refine hcl.mono ?_
  rintro e w1 ⟨rfl, rfl⟩
  go_wp2_with fail
  refine (stable_nil 0 _).mono ?_
  rintro e w1 ⟨rfl, rfl⟩
  go_wp2_with fail
  refine (compact_small none 0 0 _ (by omega)).mono ?_
  rintro e w1 ⟨rfl, rfl⟩
  go_wp2_with fail
  go_ret
  exact ⟨⟨_, rfl⟩, Keep.refl _ _⟩
end Go.Proofs.YtdlmjjlejkkniaaGreat

namespace Go.Proofs.YtdlmjjlejkkniaaGreat
open Go.RowKit

/-- The row in the inner loop: those that are kept, then what stood there. -/
def cmR (f : Nat → FoundE) (i : Nat) : Nat → FoundE := fun q => if q < cmpN f i then cmpG f i q else f q
theorem cmR_same {f : Nat → FoundE} {i : Nat} (h : i ≠ 0) (e : (f i).l = (f (i - 1)).l) : cmpN f (i + 1) = cmpN f i ∧ ∀ q, cmR f (i + 1) q = cmR f i q := by
  have hn : ¬ (i = 0 ∨ (f i).l ≠ (f (i - 1)).l) := fun x => x.elim h (fun y => y e)
  have h1 : cmpN f (i + 1) = cmpN f i := by rw [cmpN, if_neg hn]
  refine ⟨h1, fun q => ?_⟩
  unfold cmR
  rw [h1, cmpG, if_neg hn]
theorem cmR_next {f : Nat → FoundE} {i : Nat} (e : (f i).l ≠ (f (i - 1)).l) : cmpN f (i + 1) = cmpN f i + 1 ∧ ∀ q, cmR f (i + 1) q = if q = cmpN f i then f i else cmR f i q := by
  have hn : i = 0 ∨ (f i).l ≠ (f (i - 1)).l := .inr e
  have h1 : cmpN f (i + 1) = cmpN f i + 1 := by rw [cmpN, if_pos hn]
  refine ⟨h1, fun q => ?_⟩
  unfold cmR
  rw [h1, cmpG, if_pos hn]
  by_cases e2 : q = cmpN f i
  · rw [if_pos (by omega), if_pos e2, if_pos e2]
  · rw [if_neg e2]
    by_cases e3 : q < cmpN f i
    · rw [if_pos (by omega), if_neg e2, if_pos e3]
    · rw [if_neg (by omega), if_neg e2, if_neg e3]
/-- One of what was found is put at x. -/
theorem put_one {w : World} {T : TypeId} {g cap n x : Nat} {f : Nat → FoundE} (v : FoundE) (h : RowW w T 5 g cap n (fdG f)) (hx : x < n) :
    ((∃ u, w.cell? ⟨g, x * 5, none⟩ = some u) ∧ w.frozen? ⟨g, x * 5, none⟩ = false) ∧
    ((∃ u, (w.setCell ⟨g, x * 5, none⟩ (.int .i64 v.p)).cell? ⟨g, x * 5 + 1, none⟩ = some u) ∧ (w.setCell ⟨g, x * 5, none⟩ (.int .i64 v.p)).frozen? ⟨g, x * 5 + 1, none⟩ = false) ∧
    ((∃ u, ((w.setCell ⟨g, x * 5, none⟩ (.int .i64 v.p)).setCell ⟨g, x * 5 + 1, none⟩ (.int .i64 v.k)).cell? ⟨g, x * 5 + 2, none⟩ = some u) ∧ ((w.setCell ⟨g, x * 5, none⟩ (.int .i64 v.p)).setCell ⟨g, x * 5 + 1, none⟩ (.int .i64 v.k)).frozen? ⟨g, x * 5 + 2, none⟩ = false) ∧
    ((∃ u, (((w.setCell ⟨g, x * 5, none⟩ (.int .i64 v.p)).setCell ⟨g, x * 5 + 1, none⟩ (.int .i64 v.k)).setCell ⟨g, x * 5 + 2, none⟩ (.int .i64 v.l)).cell? ⟨g, x * 5 + 3, none⟩ = some u) ∧ (((w.setCell ⟨g, x * 5, none⟩ (.int .i64 v.p)).setCell ⟨g, x * 5 + 1, none⟩ (.int .i64 v.k)).setCell ⟨g, x * 5 + 2, none⟩ (.int .i64 v.l)).frozen? ⟨g, x * 5 + 3, none⟩ = false) ∧
    ((∃ u, ((((w.setCell ⟨g, x * 5, none⟩ (.int .i64 v.p)).setCell ⟨g, x * 5 + 1, none⟩ (.int .i64 v.k)).setCell ⟨g, x * 5 + 2, none⟩ (.int .i64 v.l)).setCell ⟨g, x * 5 + 3, none⟩ (.int .i64 v.s)).cell? ⟨g, x * 5 + 4, none⟩ = some u) ∧ ((((w.setCell ⟨g, x * 5, none⟩ (.int .i64 v.p)).setCell ⟨g, x * 5 + 1, none⟩ (.int .i64 v.k)).setCell ⟨g, x * 5 + 2, none⟩ (.int .i64 v.l)).setCell ⟨g, x * 5 + 3, none⟩ (.int .i64 v.s)).frozen? ⟨g, x * 5 + 4, none⟩ = false) ∧
    RowW (((((w.setCell ⟨g, x * 5, none⟩ (.int .i64 v.p)).setCell ⟨g, x * 5 + 1, none⟩ (.int .i64 v.k)).setCell ⟨g, x * 5 + 2, none⟩ (.int .i64 v.l)).setCell ⟨g, x * 5 + 3, none⟩ (.int .i64 v.s)).setCell ⟨g, x * 5 + 4, none⟩ (.int .i64 v.m)) T 5 g cap n (fdG (fun q => if q = x then v else f q)) ∧
    Keep (· = g) w (((((w.setCell ⟨g, x * 5, none⟩ (.int .i64 v.p)).setCell ⟨g, x * 5 + 1, none⟩ (.int .i64 v.k)).setCell ⟨g, x * 5 + 2, none⟩ (.int .i64 v.l)).setCell ⟨g, x * 5 + 3, none⟩ (.int .i64 v.s)).setCell ⟨g, x * 5 + 4, none⟩ (.int .i64 v.m)) := by
  have r1 := h.store (x * 5) (.int .i64 v.p) (f' := fun q => if q = x * 5 then .int .i64 v.p else fdG f q) (fun q _ => rfl)
  generalize hF1 : (fun q => if q = x * 5 then .int .i64 v.p else fdG f q) = F1 at r1
  have r2 := r1.store (x * 5 + 1) (.int .i64 v.k) (f' := fun q => if q = x * 5 + 1 then .int .i64 v.k else F1 q) (fun q _ => rfl)
  generalize hF2 : (fun q => if q = x * 5 + 1 then .int .i64 v.k else F1 q) = F2 at r2
  have r3 := r2.store (x * 5 + 2) (.int .i64 v.l) (f' := fun q => if q = x * 5 + 2 then .int .i64 v.l else F2 q) (fun q _ => rfl)
  generalize hF3 : (fun q => if q = x * 5 + 2 then .int .i64 v.l else F2 q) = F3 at r3
  have r4 := r3.store (x * 5 + 3) (.int .i64 v.s) (f' := fun q => if q = x * 5 + 3 then .int .i64 v.s else F3 q) (fun q _ => rfl)
  generalize hF4 : (fun q => if q = x * 5 + 3 then .int .i64 v.s else F3 q) = F4 at r4
  have r5 := r4.store (x * 5 + 4) (.int .i64 v.m) (f' := fun q => if q = x * 5 + 4 then .int .i64 v.m else F4 q) (fun q _ => rfl)
  generalize hF5 : (fun q => if q = x * 5 + 4 then .int .i64 v.m else F4 q) = F5 at r5
  refine ⟨⟨⟨_, h.val (by omega)⟩, h.frozen _⟩, ⟨⟨_, r1.val (by omega)⟩, r1.frozen _⟩, ⟨⟨_, r2.val (by omega)⟩, r2.frozen _⟩, ⟨⟨_, r3.val (by omega)⟩, r3.frozen _⟩, ⟨⟨_, r4.val (by omega)⟩, r4.frozen _⟩, r5.congr (fun q hq => ?_), (((((Keep.refl (· = g) w).setCell (p := ⟨g, x * 5, none⟩) (.inl rfl) _).setCell (p := ⟨g, x * 5 + 1, none⟩) (.inl rfl) _).setCell (p := ⟨g, x * 5 + 2, none⟩) (.inl rfl) _).setCell (p := ⟨g, x * 5 + 3, none⟩) (.inl rfl) _).setCell (p := ⟨g, x * 5 + 4, none⟩) (.inl rfl) _⟩
  rw [← hF5, ← hF4, ← hF3, ← hF2, ← hF1]
  clear r1 r2 r3 r4 r5
  obtain ⟨x0, x1, x2, x3, x4⟩ := fdG_at (fun q => if q = x then v else f q) x
  have sJ : (if x = x then v else f x) = v := if_pos rfl
  try dsimp only at x0 x1 x2 x3 x4
  rw [sJ] at x0 x1 x2 x3 x4
  try dsimp only
  by_cases e4 : q = x * 5 + 4
  · rw [if_pos e4, e4, x4]
  rw [if_neg e4]
  by_cases e3 : q = x * 5 + 3
  · rw [if_pos e3, e3, x3]
  rw [if_neg e3]
  by_cases e2 : q = x * 5 + 2
  · rw [if_pos e2, e2, x2]
  rw [if_neg e2]
  by_cases e1 : q = x * 5 + 1
  · rw [if_pos e1, e1, x1]
  rw [if_neg e1]
  by_cases e0 : q = x * 5
  · rw [if_pos e0, e0, x0]
  rw [if_neg e0]
  unfold fdG
  have : (if q / 5 = x then v else f (q / 5)) = f (q / 5) := if_neg (by omega)
  simp only [this]

set_option maxRecDepth 100000 in
set_option maxHeartbeats 4000000 in
theorem compact_any (g cap n c : Nat) (f : Nat → FoundE) (w : World) (hr : RowW w 52 5 g cap n (fdG f)) (hn2 : 2 ≤ n) (hn : n ≤ 100000) (hnc : n ≤ c) (hc : c ≤ maxLen) :
    Calls Tryz.prog 53 #[.slice (some ⟨g, 0, none⟩) n c, .func (.func 54) #[] #[]] w fun e w' =>
      e = .returned (.slice (some ⟨g, 0, none⟩) (cmpN f n) c) ∧ RowW w' 52 5 g cap (cmpN f n) (fdG (cmpG f n)) ∧ Keep (· = g) w w' := by
  have hn' : ¬ (n : Int) < 2 := by omega
  have HR := Lib.hid hr
  have HNC := Lib.hid (And.intro hnc hc)
  clear hr hnc hc
  go_enter Tryz.func53, Tryz.ntmps53
  go_wp2_with fail
  go_loopw [5] (fun v wr => ∃ k : Nat, 1 ≤ k ∧ k ≤ n ∧ v = .int .i64 (k : Nat) ∧ cmpN f k = k ∧ Keep (fun _ => False) w wr) (fun v _ => n - (intOf v).toNat)
  case atStart => exact ⟨1, by omega, by omega, rfl, rfl, Keep.refl _ _⟩
  case round =>
    obtain ⟨k, hk1, hk, rfl, hck, hkp⟩ := hrel
    by_cases hkn : k < n
    · have hkn' : (k : Int) < (n : Int) := by omega
      obtain ⟨jm, hjm⟩ : ∃ jm, jm = k - 1 := ⟨_, rfl⟩
      have e1 : IntKind.i64.wrap ((k : Int) - 1) = (jm : Int) := by rw [show (k : Int) - 1 = (jm : Int) by omega]; exact wraps_i64 _ (by omega) (by omega)
      have e4 : (k : Int) - 1 = (jm : Int) := by omega
      have hjn' : (jm : Int) < (n : Int) := by omega
      have hjn : jm < n := by omega
      have hrow := HR.out.keep hkp (by simp)
      have HJ := Lib.hid hjm
      clear hjm
      obtain ⟨a0, a1, a2, a3, a4⟩ := ArgW.five hrow hkn
      obtain ⟨b0, b1, b2, b3, b4⟩ := ArgW.five hrow hjn
      have u0 : ∀ p : KeptBy wr, p.v.cell? ⟨g, k * 5, none⟩ = some (.int .i64 (f k).p) := fun p => p.cell hrow.lt a0
      have u1 : ∀ p : KeptBy wr, p.v.cell? ⟨g, k * 5 + 1, none⟩ = some (.int .i64 (f k).k) := fun p => p.cell hrow.lt a1
      have u2 : ∀ p : KeptBy wr, p.v.cell? ⟨g, k * 5 + 2, none⟩ = some (.int .i64 (f k).l) := fun p => p.cell hrow.lt a2
      have u3 : ∀ p : KeptBy wr, p.v.cell? ⟨g, k * 5 + 3, none⟩ = some (.int .i64 (f k).s) := fun p => p.cell hrow.lt a3
      have u4 : ∀ p : KeptBy wr, p.v.cell? ⟨g, k * 5 + 4, none⟩ = some (.int .i64 (f k).m) := fun p => p.cell hrow.lt a4
      have v0 : ∀ p : KeptBy wr, p.v.cell? ⟨g, jm * 5, none⟩ = some (.int .i64 (f jm).p) := fun p => p.cell hrow.lt b0
      have v1 : ∀ p : KeptBy wr, p.v.cell? ⟨g, jm * 5 + 1, none⟩ = some (.int .i64 (f jm).k) := fun p => p.cell hrow.lt b1
      have v2 : ∀ p : KeptBy wr, p.v.cell? ⟨g, jm * 5 + 2, none⟩ = some (.int .i64 (f jm).l) := fun p => p.cell hrow.lt b2
      have v3 : ∀ p : KeptBy wr, p.v.cell? ⟨g, jm * 5 + 3, none⟩ = some (.int .i64 (f jm).s) := fun p => p.cell hrow.lt b3
      have v4 : ∀ p : KeptBy wr, p.v.cell? ⟨g, jm * 5 + 4, none⟩ = some (.int .i64 (f jm).m) := fun p => p.cell hrow.lt b4
      have HK := Lib.hid hkp
      clear a0 a1 a2 a3 a4 b0 b1 b2 b3 b4 hrow hkp
      go_upto_region 6 with (fail)
      by_cases he : (f k).l = (f jm).l
      · have HE := Lib.hid he
        clear he
        refine wp_region_kept (by kernel_rfl) (by kernel_rfl) ?_
        repeat (go_big_quiet_step (first | (go_at_call 54; exact kept_of (latest2_any (f k) (f jm) _))))
        refine wpQuiet_nil ?_
        rintro w2 ⟨⟨_, k2⟩, rfl⟩
        have hck' : cmpN f (k + 1) = k := by rw [(cmR_same (by omega) (by rw [← HJ.out]; exact HE.out)).1, hck]
        have hrk : ∀ q, cmR f (k + 1) q = f q := fun q => by
          rw [(cmR_same (by omega) (by rw [← HJ.out]; exact HE.out)).2]
          unfold cmR
          rw [hck]
          by_cases e : q < k
          · rw [if_pos e, cmpN_all k hck q e]
          · rw [if_neg e]
        have HR2 := Lib.hid ((HR.out.keep (HK.out.comp k2) (by simp)).congr (f' := fdG (cmR f (k + 1))) (fun q _ => by unfold fdG; rw [hrk]))
        have HCK := Lib.hid hck'
        have HK2 := Lib.hid ((HK.out.comp k2).more (fun _ e => e.elim) : Keep (· = g) w w2)
        have hkc : ¬ (c : Int) = (k : Int) := by have := HNC.out; omega
        have hkc' : ¬ c = k := by have := HNC.out; omega
        have hkle : (k : Int) ≤ (c : Int) := by have := HNC.out; omega
        rw [decide_eq_true HE.out]
        clear u0 u1 u2 u3 u4 v0 v1 v2 v3 v4 e1 e4 k2 hck' hrk hck HR HK
        go_wp2_with fail
        go_loopw [5, 7] (fun v5 v7 wi => ∃ i : Nat, k + 1 ≤ i ∧ i ≤ n ∧ cmpN f i < i ∧ k ≤ cmpN f i ∧ v5 = .int .i64 (cmpN f i : Nat) ∧ v7 = .int .i64 (i - k : Nat) ∧ RowW wi 52 5 g cap n (fdG (cmR f i)) ∧ Keep (· = g) w wi) (fun _ v7 _ => n - (intOf v7).toNat)
        case atStart => exact ⟨k + 1, by omega, by omega, by rw [HCK.out]; omega, by rw [HCK.out]; omega, by rw [HCK.out], by go_num, HR2.out, HK2.out⟩
        case round =>
          obtain ⟨i, hki, hin, hci, hkc2, rfl, rfl, hrow, hkp⟩ := hrel
          have HKP := Lib.hid hkp
          clear hkp
          by_cases hlt : i < n
          · obtain ⟨K, hK⟩ : ∃ K, K = cmpN f i := ⟨_, rfl⟩
            rw [← hK] at hci hkc2 ⊢
            have HKE := Lib.hid hK
            obtain ⟨t, ht⟩ : ∃ t, t = i - k := ⟨_, rfl⟩
            rw [← ht]
            obtain ⟨tm, htm⟩ : ∃ tm, tm = t - 1 := ⟨_, rfl⟩
            have e1 : IntKind.i64.wrap ((t : Int) - 1) = (tm : Int) := by rw [show (t : Int) - 1 = (tm : Int) by omega]; exact wraps_i64 _ (by omega) (by omega)
            have e4 : (t : Int) - 1 = (tm : Int) := by omega
            obtain ⟨im, him⟩ : ∃ im, im = i - 1 := ⟨_, rfl⟩
            have htL : t < n - k := by omega
            have htmL : tm < n - k := by omega
            have htL' : (t : Int) < ((n - k : Nat) : Int) := by omega
            have htmL' : (tm : Int) < ((n - k : Nat) : Int) := by omega
            have hKn : K < n := by omega
            have hKn' : (K : Int) < (n : Int) := by omega
            have o1 : k * 5 + t * 5 = i * 5 := by omega
            have o2 : k * 5 + tm * 5 = im * 5 := by omega
            have s1 : cmR f i i = f i := if_neg (by omega)
            have s2 : cmR f i im = f im := if_neg (by omega)
            obtain ⟨a0, a1, a2, a3, a4⟩ := ArgW.five hrow hlt
            obtain ⟨b0, b1, b2, b3, b4⟩ := ArgW.five hrow (show im < n by omega)
            rw [s1, ← o1] at a0 a1 a2 a3 a4
            rw [s2, ← o2] at b0 b1 b2 b3 b4
            have u0 : ∀ p : KeptBy wr, p.v.cell? ⟨g, k * 5 + t * 5, none⟩ = some (.int .i64 (f i).p) := fun p => p.cell hrow.lt a0
            have u1 : ∀ p : KeptBy wr, p.v.cell? ⟨g, k * 5 + t * 5 + 1, none⟩ = some (.int .i64 (f i).k) := fun p => p.cell hrow.lt a1
            have u2 : ∀ p : KeptBy wr, p.v.cell? ⟨g, k * 5 + t * 5 + 2, none⟩ = some (.int .i64 (f i).l) := fun p => p.cell hrow.lt a2
            have u3 : ∀ p : KeptBy wr, p.v.cell? ⟨g, k * 5 + t * 5 + 3, none⟩ = some (.int .i64 (f i).s) := fun p => p.cell hrow.lt a3
            have u4 : ∀ p : KeptBy wr, p.v.cell? ⟨g, k * 5 + t * 5 + 4, none⟩ = some (.int .i64 (f i).m) := fun p => p.cell hrow.lt a4
            have v0 : ∀ p : KeptBy wr, p.v.cell? ⟨g, k * 5 + tm * 5, none⟩ = some (.int .i64 (f im).p) := fun p => p.cell hrow.lt b0
            have v1 : ∀ p : KeptBy wr, p.v.cell? ⟨g, k * 5 + tm * 5 + 1, none⟩ = some (.int .i64 (f im).k) := fun p => p.cell hrow.lt b1
            have v2 : ∀ p : KeptBy wr, p.v.cell? ⟨g, k * 5 + tm * 5 + 2, none⟩ = some (.int .i64 (f im).l) := fun p => p.cell hrow.lt b2
            have v3 : ∀ p : KeptBy wr, p.v.cell? ⟨g, k * 5 + tm * 5 + 3, none⟩ = some (.int .i64 (f im).s) := fun p => p.cell hrow.lt b3
            have v4 : ∀ p : KeptBy wr, p.v.cell? ⟨g, k * 5 + tm * 5 + 4, none⟩ = some (.int .i64 (f im).m) := fun p => p.cell hrow.lt b4
            have HRW := Lib.hid hrow
            have HT := Lib.hid (show i = k + t ∧ im = i - 1 ∧ K < i ∧ k ≤ K ∧ k + 1 ≤ i from ⟨by omega, him, hci, hkc2, hki⟩)
            have HO1 := Lib.hid o1
            have hi0 := Lib.hid (show i ≠ 0 by omega)
            clear a0 a1 a2 a3 a4 b0 b1 b2 b3 b4 hrow o1 o2 s1 s2 ht htm him hK hci hkc2 hki hlt hin
            go_upto_region 11 with (fail)
            by_cases he : (f i).l = (f im).l
            · have HE2 := Lib.hid he
              clear he
              refine wp_region_kept (by kernel_rfl) (by kernel_rfl) ?_
              repeat (go_big_quiet_step (first | (go_at_call 54; exact kept_of (latest2_any (f i) (f im) _))))
              refine wpQuiet_nil ?_
              rintro w3 ⟨⟨_, k3⟩, rfl⟩
              obtain ⟨n1, n2⟩ := cmR_same hi0.out (by rw [← HT.out.2.1]; exact HE2.out)
              have HN := Lib.hid (show cmpN f (i + 1) = K by rw [n1]; exact HKE.out.symm)
              have HR3 := Lib.hid ((HRW.out.keep k3 (by simp)).congr (f' := fdG (cmR f (i + 1))) (fun q _ => by unfold fdG; rw [n2]))
              have HK3 := Lib.hid (HKP.out.trans k3 (fun _ e => e.elim))
              rw [decide_eq_true HE2.out]
              clear u0 u1 u2 u3 u4 v0 v1 v2 v3 v4 e1 e4 k3 n1 n2
              go_wp2_with fail
              go_roundw
              case rel => exact ⟨i + 1, by have := HT.out; omega, by have := HT.out; omega, by rw [HN.out]; have := HT.out; omega, by rw [HN.out]; have := HT.out; omega, by rw [HN.out], by have := HT.out; go_num, HR3.out, HK3.out⟩
              case measure => have := HT.out; simp [intOf]; omega
            · have HE2 := Lib.hid he
              clear he
              refine wp_region_kept (by kernel_rfl) (by kernel_rfl) ?_
              repeat (go_big_quiet_step (first | (go_at_call 54; exact kept_of (latest2_any (f i) (f im) _))))
              refine wpQuiet_nil ?_
              rintro w3 ⟨⟨_, k3⟩, rfl⟩
              obtain ⟨n1, n2⟩ := cmR_next (f := f) (i := i) (by rw [← HT.out.2.1]; exact HE2.out)
              have HN := Lib.hid (show cmpN f (i + 1) = K + 1 by rw [n1, HKE.out])
              have hr3 := HRW.out.keep k3 (by simp)
              have c0 : w3.cell? ⟨g, k * 5 + t * 5, none⟩ = some (.int .i64 (f i).p) := u0 ⟨w3, k3⟩
              have c1 : w3.cell? ⟨g, k * 5 + t * 5 + 1, none⟩ = some (.int .i64 (f i).k) := u1 ⟨w3, k3⟩
              have c2 : w3.cell? ⟨g, k * 5 + t * 5 + 2, none⟩ = some (.int .i64 (f i).l) := u2 ⟨w3, k3⟩
              have c3 : w3.cell? ⟨g, k * 5 + t * 5 + 3, none⟩ = some (.int .i64 (f i).s) := u3 ⟨w3, k3⟩
              have c4 : w3.cell? ⟨g, k * 5 + t * 5 + 4, none⟩ = some (.int .i64 (f i).m) := u4 ⟨w3, k3⟩
              obtain ⟨⟨⟨_, d0⟩, z0⟩, ⟨⟨_, d1⟩, z1⟩, ⟨⟨_, d2⟩, z2⟩, ⟨⟨_, d3⟩, z3⟩, ⟨⟨_, d4⟩, z4⟩, RF, KF⟩ := put_one (f i) hr3 hKn
              have HR3 := Lib.hid (RF.congr (f' := fdG (cmR f (i + 1))) (fun q _ => by unfold fdG; rw [n2, ← HKE.out]))
              have HK3 := Lib.hid ((HKP.out.trans k3 (fun _ e => e.elim)).trans KF (fun _ e => .inl e))
              rw [decide_eq_false HE2.out]
              clear u0 u1 u2 u3 u4 v0 v1 v2 v3 v4 e1 e4 k3 n1 n2 hr3 RF KF
              go_wp2_with fail
              go_roundw
              case rel => exact ⟨i + 1, by have := HT.out; omega, by have := HT.out; omega, by rw [HN.out]; have := HT.out; omega, by rw [HN.out]; have := HT.out; omega, by rw [HN.out]; go_num, by have := HT.out; go_num, HR3.out, HK3.out⟩
              case measure => have := HT.out; simp [intOf]; omega
          · obtain rfl : i = n := by omega
            have hlt' : ¬ ((i - k : Nat) : Int) < ((i - k : Nat) : Int) := by omega
            obtain ⟨K, hK⟩ : ∃ K, K = cmpN f i := ⟨_, rfl⟩
            rw [← hK] at hci hkc2 ⊢
            have HKE := Lib.hid hK
            have hKi : (K : Int) ≤ (i : Int) := by omega
            have hKi' : K ≤ i := by omega
            have hKc : ¬ (c : Int) = (K : Int) := by have := HNC.out; omega
            have hKc' : ¬ c = K := by have := HNC.out; omega
            have hKc2 : (K : Int) ≤ (c : Int) := by have := HNC.out; omega
            have hKc3 : K ≤ c := by have := HNC.out; omega
            have q := fun ty => run_clear_fd wr ty g (K * 5) (i - K) (c - K) (by omega) (fun j hj => by rw [hrow.val (by omega)]; rfl) (fun j hj => hrow.frozen _)
            obtain ⟨z1, z2⟩ := RowW.zeros (z := .int .i64 0) ((i - K) * 5) wr (K * 5) _ hrow
            have HZ := Lib.hid ((z1.take hKi').congr (f' := fdG (cmpG f i)) (fun q hq => by
              rw [if_neg (by omega)]
              unfold fdG cmR
              rw [← hK, if_pos (by omega)]))
            have HZK := Lib.hid (HKP.out.trans z2 (fun _ e => .inl e))
            clear hrow z1 z2 hlt hK hci hkc2 hki hin hkc hkc' hkle
            go_wp2_with fail
            go_ret
            rw [← HKE.out]
            exact ⟨rfl, HZ.out, HZK.out⟩
      · have HE := Lib.hid he
        clear he
        refine wp_region_kept (by kernel_rfl) (by kernel_rfl) ?_
        repeat (go_big_quiet_step (first | (go_at_call 54; exact kept_of (latest2_any (f k) (f jm) _))))
        refine wpQuiet_nil ?_
        rintro w2 ⟨⟨_, k2⟩, rfl⟩
        have HK2 := Lib.hid (HK.out.comp k2)
        rw [decide_eq_false HE.out]
        clear u0 u1 u2 u3 u4 v0 v1 v2 v3 v4 e1 e4 k2
        have hck' : cmpN f (k + 1) = k + 1 := by unfold cmpN; rw [if_pos (.inr (by rw [← HJ.out]; exact HE.out)), hck]
        go_wp2_with fail
        go_roundw
        case rel => exact ⟨k + 1, by omega, by omega, by go_num, hck', HK2.out⟩
        case measure => simp [intOf]; omega
    · obtain rfl : k = n := by omega
      have hkn' : ¬ (k : Int) < (k : Int) := by omega
      have hF := (HR.out.keep hkp (by simp)).congr (f' := fdG (cmpG f k)) (fun q hq => by unfold fdG; rw [cmpN_all k hck _ (by omega)])
      have HF := Lib.hid hF
      have HK := Lib.hid (hkp.more (fun _ e => e.elim) : Keep (· = g) w wr)
      clear hF hkp
      have HCK := Lib.hid hck
      clear hck
      go_wp2_with fail
      go_ret
      exact ⟨by rw [HCK.out]; rfl, by rw [HCK.out]; exact HF.out, HK.out⟩
end Go.Proofs.YtdlmjjlejkkniaaGreat

namespace Go.Proofs.YtdlmjjlejkkniaaGreat
open Go.RowKit

theorem swpF_eq (f : Nat → FoundE) (j : Nat) : swpF f (j + 1) = swpG f (j + 1) j := rfl
theorem insF_perm (a : Nat) : ∀ (j : Nat) (f : Nat → FoundE), PermOn a (j + 1) f (insF a f j)
  | 0, f => PermOn.refl _ _ _
  | j + 1, f => by
    rw [insF]
    by_cases e : a < j + 1 ∧ keyC (f (j + 1)) (f j) < 0
    · rw [if_pos e, swpF_eq]
      exact (swp_perm f (by omega) (by omega)).trans ((insF_perm a j _).more (Nat.le_refl _) (by omega))
    · rw [if_neg e]
      exact PermOn.refl _ _ _
/-- In order but for the one at j, which is at most those behind it. -/
theorem insF_srt {a i : Nat} : ∀ (j : Nat) (f : Nat → FoundE), j ≤ i → (∀ x y, a ≤ x → x < y → y ≤ i → x ≠ j → y ≠ j → leC (f x) (f y)) → (∀ y, j < y → y ≤ i → leC (f j) (f y)) → Srt leC (insF a f j) a (i + 1)
  | 0, f, _, h1, h2 => by
    intro x y hx hxy hy
    rw [insF]
    by_cases e : x = 0
    · subst e
      exact h2 y hxy (by omega)
    · exact h1 x y hx hxy (by omega) e (by omega)
  | j + 1, f, hj, h1, h2 => by
    rw [insF]
    by_cases e : a < j + 1 ∧ keyC (f (j + 1)) (f j) < 0
    · rw [if_pos e]
      have g1 : swpF f (j + 1) (j + 1) = f j := if_pos rfl
      have g2 : swpF f (j + 1) j = f (j + 1) := by unfold swpF; rw [if_neg (by omega), if_pos (by omega)]
      have g3 : ∀ q, q ≠ j → q ≠ j + 1 → swpF f (j + 1) q = f q := fun q e1 e2 => by unfold swpF; rw [if_neg e2, if_neg (by omega)]
      refine insF_srt j _ (by omega) (fun x y hx hxy hy ex ey => ?_) (fun y hy1 hy2 => ?_)
      · by_cases e1 : x = j + 1
        · rw [e1, g1, g3 y ey (by omega)]
          exact h1 j y (by omega) (by omega) hy (by omega) (by omega)
        · rw [g3 x ex e1]
          by_cases e2 : y = j + 1
          · rw [e2, g1]
            exact h1 x j hx (by omega) (by omega) e1 (by omega)
          · rw [g3 y ey e2]
            exact h1 x y hx hxy hy e1 e2
      · rw [g2]
        by_cases e2 : y = j + 1
        · rw [e2, g1]
          exact leC_of_lt e.2
        · rw [g3 y (by omega) e2]
          exact h2 y (by omega) hy2
    · rw [if_neg e]
      intro x y hx hxy hy
      by_cases e1 : x = j + 1
      · subst e1
        exact h2 y hxy (by omega)
      · by_cases e2 : y = j + 1
        · subst e2
          have hl : leC (f j) (f (j + 1)) := leC_of_not (fun k => e ⟨by omega, k⟩)
          by_cases e3 : x = j
          · rw [e3]
            exact hl
          · exact leC_trans _ _ _ (h1 x j hx (by omega) (by omega) e1 (by omega)) hl
        · exact h1 x y hx hxy (by omega) e1 e2
theorem srtF_law (a : Nat) (f : Nat → FoundE) : ∀ k, PermOn a (a + 1 + k) f (srtF a f k) ∧ Srt leC (srtF a f k) a (a + 1 + k)
  | 0 => ⟨PermOn.refl _ _ _, Srt.none _ _ (by omega)⟩
  | k + 1 => by
    obtain ⟨h1, h2⟩ := srtF_law a f k
    rw [srtF]
    refine ⟨(h1.more (Nat.le_refl _) (by omega)).trans ((insF_perm a (a + 1 + k) _).more (Nat.le_refl _) (by omega)), ?_⟩
    exact insF_srt (i := a + 1 + k) _ _ (Nat.le_refl _) (fun x y hx hxy hy ex ey => h2 x y hx hxy (by omega)) (fun y hy1 hy2 => by omega)
/-- Each stretch of s is in order. -/
def Blks (h : Nat → FoundE) (s n : Nat) : Prop := ∀ u, Srt leC h (u * s) (min (u * s + s) n)
/-- .. the first t of twice that, too, the others of s. -/
def Dbl (h : Nat → FoundE) (s n t : Nat) : Prop := (∀ u, u < t → Srt leC h (u * (2 * s)) (u * (2 * s) + 2 * s)) ∧ ∀ u, t * (2 * s) ≤ u * s → Srt leC h (u * s) (min (u * s + s) n)
theorem Blks.dbl {h : Nat → FoundE} {s n : Nat} (b : Blks h s n) : Dbl h s n 0 := ⟨fun u e => by omega, fun u _ => b u⟩
theorem dbl_two (t s : Nat) : (2 * t) * s = t * (2 * s) ∧ (2 * t + 1) * s = t * (2 * s) + s := by
  constructor
  · rw [Nat.mul_comm 2 t, Nat.mul_assoc]
  · rw [Nat.add_mul, Nat.mul_comm 2 t, Nat.mul_assoc, Nat.one_mul]
theorem Dbl.pair {h : Nat → FoundE} {s n t : Nat} (d : Dbl h s n t) : Srt leC h (t * (2 * s)) (min (t * (2 * s) + s) n) ∧ Srt leC h (t * (2 * s) + s) (min (t * (2 * s) + 2 * s) n) := by
  obtain ⟨e1, e2⟩ := dbl_two t s
  have h1 := d.2 (2 * t) (by omega)
  have h2 := d.2 (2 * t + 1) (by omega)
  rw [e1] at h1
  rw [e2] at h2
  exact ⟨h1, by rw [show t * (2 * s) + 2 * s = t * (2 * s) + s + s by omega]; exact h2⟩
theorem Dbl.step {h h' : Nat → FoundE} {s n t : Nat} (d : Dbl h s n t) (p : PermOn (t * (2 * s)) (t * (2 * s) + 2 * s) h h') (hs : Srt leC h' (t * (2 * s)) (t * (2 * s) + 2 * s)) : Dbl h' s n (t + 1) := by
  have e : (t + 1) * (2 * s) = t * (2 * s) + 2 * s := by rw [Nat.add_mul, Nat.one_mul]
  refine ⟨fun u hu => ?_, fun u hu => ?_⟩
  · by_cases e2 : u = t
    · rw [e2]
      exact hs
    · have : (u + 1) * (2 * s) ≤ t * (2 * s) := Nat.mul_le_mul_right _ (by omega)
      rw [Nat.add_mul, Nat.one_mul] at this
      exact (d.1 u (by omega)).congr (fun q h1 h2 => p.out (by omega))
  · rw [e] at hu
    exact (d.2 u (by omega)).congr (fun q h1 h2 => p.out (by omega))
/-- The end of a round: what is left is in order. -/
theorem Dbl.last {h h' : Nat → FoundE} {s n t : Nat} (d : Dbl h s n t) (p : PermOn (t * (2 * s)) n h h') (hs : Srt leC h' (t * (2 * s)) n) (hn : n < t * (2 * s) + 2 * s) : Blks h' (2 * s) n := by
  intro u
  by_cases e1 : u < t
  · have : (u + 1) * (2 * s) ≤ t * (2 * s) := Nat.mul_le_mul_right _ (by omega)
    rw [Nat.add_mul, Nat.one_mul] at this
    exact ((d.1 u e1).congr (g := h') (fun q h1 h2 => p.out (by omega))).sub (Nat.le_refl _) (by omega)
  · by_cases e2 : u = t
    · rw [e2]
      exact hs.sub (Nat.le_refl _) (by omega)
    · have : (t + 1) * (2 * s) ≤ u * (2 * s) := Nat.mul_le_mul_right _ (by omega)
      rw [Nat.add_mul, Nat.one_mul] at this
      exact Srt.none _ _ (by omega)
theorem insort_same (g : Option Addr) (n c a : Nat) (w : World) (ha : a ≤ 100000) :
    Calls Tryz.prog 99 #[.slice g n c, .int .i64 a, .int .i64 a, .func (.func 50) #[] #[]] w fun e w' => e = .returned (.tuple #[]) ∧ w' = w := by
  have h1 : ¬ (a : Int) + 1 < (a : Int) := by omega
  go_enter Tryz.func99, Tryz.ntmps99
  go_wp2_with fail
  refine wp_loop_rounds 1 ?_
  rw [rounds_succ]
  go_wp2_with fail
  go_end0
  exact ⟨rfl, rfl⟩
set_option maxRecDepth 100000 in
/-- The insertion sort of [a, b), a ≤ b. -/
theorem insort_le (g cap n c a b : Nat) (f : Nat → FoundE) (w : World) (hr : RowW w 52 5 g cap n (fdG f)) (hab : a ≤ b) (hbn : b ≤ n) (hn : n ≤ 100000) :
    Calls Tryz.prog 99 #[.slice (some ⟨g, 0, none⟩) n c, .int .i64 a, .int .i64 b, .func (.func 50) #[] #[]] w fun e w' =>
      e = .returned (.tuple #[]) ∧ ∃ h, RowW w' 52 5 g cap n (fdG h) ∧ PermOn a b f h ∧ Srt leC h a b ∧ Keep (· = g) w w' := by
  by_cases e : a = b
  · subst e
    refine (insort_same _ n c a w (by omega)).mono ?_
    rintro e w1 ⟨rfl, rfl⟩
    exact ⟨rfl, f, hr, PermOn.refl _ _ _, Srt.none _ _ (by omega), Keep.refl _ _⟩
  · refine (insort_any g cap n c a b f w hr (by omega) hbn hn).mono ?_
    rintro e w1 ⟨rfl, h1, h2⟩
    obtain ⟨p, q⟩ := srtF_law a f (b - a - 1)
    rw [show a + 1 + (b - a - 1) = b by omega] at p q
    exact ⟨rfl, _, h1, p, q, h2⟩
end Go.Proofs.YtdlmjjlejkkniaaGreat

namespace Go.Proofs.YtdlmjjlejkkniaaGreat
open Go.RowKit

set_option maxRecDepth 100000 in
set_option maxHeartbeats 2000000 in
theorem stableCmp_all (g cap n c : Nat) (f : Nat → FoundE) (w : World) (hr : RowW w 52 5 g cap n (fdG f)) (hn : n ≤ 100000) :
    Calls Tryz.prog 80 #[.slice (some ⟨g, 0, none⟩) n c, .int .i64 n, .func (.func 50) #[] #[]] w fun e w' =>
      e = .returned (.tuple #[]) ∧ ∃ h, RowW w' 52 5 g cap n (fdG h) ∧ PermOn 0 n f h ∧ Srt leC h 0 n ∧ Keep (· = g) w w' := by
  have HR := Lib.hid hr
  clear hr
  go_enter Tryz.func80, Tryz.ntmps80
  go_wp2_with fail
  go_loopw [7, 8] (fun v7 v8 wr => ∃ (t : Nat) (h : Nat → FoundE), t * 20 ≤ n ∧ v7 = .int .i64 (t * 20 : Nat) ∧ v8 = .int .i64 (t * 20 + 20 : Nat) ∧ RowW wr 52 5 g cap n (fdG h) ∧ PermOn 0 n f h ∧ (∀ u, u < t → Srt leC h (u * 20) (u * 20 + 20)) ∧ Keep (· = g) w wr) (fun _ v8 _ => n + 20 - (intOf v8).toNat)
  case atStart => exact ⟨0, f, by omega, rfl, rfl, HR.out, PermOn.refl _ _ _, fun u e => by omega, Keep.refl _ _⟩
  case round =>
    obtain ⟨t, h, htn, rfl, rfl, hrow, hp, hs, hkp⟩ := hrel
    obtain ⟨A, hA⟩ : ∃ A, A = t * 20 := ⟨_, rfl⟩
    obtain ⟨B, hB⟩ : ∃ B, B = A + 20 := ⟨_, rfl⟩
    rw [← hA, ← hB]
    by_cases hb : B ≤ n
    · have hb' : (B : Int) ≤ (n : Int) := by omega
      have hc := Lib.hid (insort_le g cap n c A B h wr hrow (by omega) hb hn)
      have HP := Lib.hid hp
      have HS := Lib.hid hs
      have HK := Lib.hid hkp
      have HAB := Lib.hid (And.intro hA hB)
      clear hrow hp hs hkp hA hB htn
      go_wp2_with fail
      refine hc.out.mono ?_
      rintro e w1 ⟨rfl, h', hr1, hp1, hs1, hk1⟩
      have HE := Lib.hid (show RowW w1 52 5 g cap n (fdG h') ∧ PermOn 0 n f h' ∧ (∀ u, u < t + 1 → Srt leC h' (u * 20) (u * 20 + 20)) ∧ Keep (· = g) w w1 from by
        have := HAB.out
        refine ⟨hr1, HP.out.trans (hp1.more (by omega) (by omega)), fun u hu => ?_, HK.out.trans hk1 (fun _ e => .inl e)⟩
        by_cases e : u = t
        · rw [e, ← this.1, ← this.2]
          exact hs1
        · exact (HS.out u (by omega)).congr (fun q x y => hp1.out (by omega)))
      clear hr1 hp1 hs1 hk1 hc HP HS HK
      go_wp2_with fail
      go_roundw
      case rel => exact ⟨t + 1, h', by have := HAB.out; omega, by have := HAB.out; go_num, by have := HAB.out; go_num, HE.out⟩
      case measure => have := HAB.out; simp [intOf]; omega
    · have hb' : ¬ (B : Int) ≤ (n : Int) := by omega
      have hc := Lib.hid (insort_le g cap n c A n h wr hrow (by omega) (Nat.le_refl _) hn)
      have HP := Lib.hid hp
      have HS := Lib.hid hs
      have HK := Lib.hid hkp
      have HAB := Lib.hid (And.intro hA (And.intro hB htn))
      have hAn : A ≤ n := by omega
      clear hrow hp hs hkp hA hB htn
      go_wp2_with fail
      refine hc.out.mono ?_
      rintro e w1 ⟨rfl, h', hr1, hp1, hs1, hk1⟩
      have HE := Lib.hid (show RowW w1 52 5 g cap n (fdG h') ∧ PermOn 0 n f h' ∧ Blks h' 20 n ∧ Keep (· = g) w w1 from by
        have := HAB.out
        refine ⟨hr1, HP.out.trans (hp1.more (by omega) (by omega)), fun u => ?_, HK.out.trans hk1 (fun _ e => .inl e)⟩
        by_cases e : u < t
        · exact ((HS.out u e).congr (g := h') (fun q x y => hp1.out (by omega))).sub (Nat.le_refl _) (by omega)
        · by_cases e2 : u = t
          · rw [e2, ← this.1]
            exact hs1.sub (Nat.le_refl _) (by omega)
          · exact Srt.none _ _ (by omega))
      clear hr1 hp1 hs1 hk1 hc HP HS HK HAB hb' hb hAn
      go_wp2_with fail
      go_loopw [6] (fun v6 wr => ∃ (s : Nat) (h : Nat → FoundE), 0 < s ∧ s ≤ 200000 ∧ v6 = .int .i64 (s : Nat) ∧ RowW wr 52 5 g cap n (fdG h) ∧ PermOn 0 n f h ∧ Blks h s n ∧ Keep (· = g) w wr) (fun v6 _ => n - (intOf v6).toNat)
      case atStart => exact ⟨20, h', by omega, by omega, rfl, HE.out⟩
      case round =>
        obtain ⟨s, h, hs0, hs2, rfl, hrow, hp, hb, hkp⟩ := hrel
        by_cases hsn : s < n
        · have hsn' : (s : Int) < (n : Int) := by omega
          obtain ⟨D, hD⟩ : ∃ D, D = 2 * s := ⟨_, rfl⟩
          have HE2 := Lib.hid (And.intro hrow (And.intro hp (And.intro hb hkp)))
          have HD := Lib.hid hD
          have d1 : IntKind.i64.wrap (2 * (s : Int)) = (D : Int) := by rw [show 2 * (s : Int) = (D : Int) by omega]; exact wraps_i64 _ (by omega) (by omega)
          have d2 : 2 * (s : Int) = (D : Int) := by omega
          have d3 : IntKind.i64.wrap ((s : Int) * 2) = (D : Int) := by rw [show (s : Int) * 2 = (D : Int) by omega]; exact wraps_i64 _ (by omega) (by omega)
          have d4 : (s : Int) * 2 = (D : Int) := by omega
          have d5 : D ≤ 200000 := by omega
          clear hrow hp hb hkp hD HE
          go_wp2_with fail
          go_loopw [7, 8] (fun v7 v8 wi => ∃ (t : Nat) (k : Nat → FoundE), t * (2 * s) ≤ n ∧ v7 = .int .i64 (t * (2 * s) : Nat) ∧ v8 = .int .i64 (t * (2 * s) + 2 * s : Nat) ∧ RowW wi 52 5 g cap n (fdG k) ∧ PermOn 0 n f k ∧ Dbl k s n t ∧ Keep (· = g) w wi) (fun _ v8 _ => n + 2 * s - (intOf v8).toNat)
          case atStart => exact ⟨0, h, by omega, by rw [Nat.zero_mul]; rfl, by rw [Nat.zero_mul, Nat.zero_add, ← HD.out], HE2.out.1, HE2.out.2.1, HE2.out.2.2.1.dbl, HE2.out.2.2.2⟩
          case round =>
            obtain ⟨t, k, htn, rfl, rfl, hrow, hp, hd, hkp⟩ := hrel
            obtain ⟨A, hA⟩ : ∃ A, A = t * (2 * s) := ⟨_, rfl⟩
            obtain ⟨B, hB⟩ : ∃ B, B = A + 2 * s := ⟨_, rfl⟩
            obtain ⟨M, hM⟩ : ∃ M, M = A + s := ⟨_, rfl⟩
            obtain ⟨p1, p2⟩ := hd.pair
            rw [← hA] at p1 p2 htn
            rw [← hB, ← hM] at p2
            rw [← hM] at p1
            rw [← hA, ← hB]
            have f1 : IntKind.i64.wrap ((A : Int) + (s : Int)) = (M : Int) := by rw [show (A : Int) + (s : Int) = (M : Int) by omega]; exact wraps_i64 _ (by omega) (by omega)
            have f2 : (A : Int) + (s : Int) = (M : Int) := by omega
            have hM2 : M ≤ 400000 := by omega
            by_cases hbn : B ≤ n
            · have hbn' : (B : Int) ≤ (n : Int) := by omega
              obtain ⟨B2, hB2⟩ : ∃ B2, B2 = B + D := ⟨_, rfl⟩
              have HDD := HD.out
              have f3 : IntKind.i64.wrap ((B : Int) + (D : Int)) = (B2 : Int) := by rw [show (B : Int) + (D : Int) = (B2 : Int) by omega]; exact wraps_i64 _ (by omega) (by omega)
              have f4 : (B : Int) + (D : Int) = (B2 : Int) := by omega
              have hB3 : B2 ≤ 400000 := by omega
              rw [Nat.min_eq_left (by omega)] at p1 p2
              have hc := Lib.hid (sym_any n g cap n c A M B k wr hrow p1 p2 (by omega) (by omega) hbn hn (by omega))
              have HI := Lib.hid (And.intro hp (And.intro hd hkp))
              have HAB := Lib.hid (And.intro hA (And.intro hB (And.intro hM hB2)))
              clear hrow hp hd hkp hA hB hM hB2 htn p1 p2 HDD
              go_wp2_with fail
              refine hc.out.mono ?_
              rintro e w1 ⟨rfl, k', hr1, hp1, hs1, hk1⟩
              have HE := Lib.hid (show RowW w1 52 5 g cap n (fdG k') ∧ PermOn 0 n f k' ∧ Dbl k' s n (t + 1) ∧ Keep (· = g) w w1 from by
                obtain ⟨i1, i2, i3⟩ := HI.out
                obtain ⟨j1, j2, j3, j4⟩ := HAB.out
                refine ⟨hr1, i1.trans (hp1.more (by omega) (by omega)), i2.step (h' := k') (by rw [← j1, ← j2]; exact hp1) (by rw [← j1, ← j2]; exact hs1), i3.trans hk1 (fun _ e => .inl e)⟩)
              clear hr1 hp1 hs1 hk1 hc HI
              have HT : (t + 1) * (2 * s) = B ∧ B + 2 * s = B2 := by
                obtain ⟨j1, j2, j3, j4⟩ := HAB.out
                have := HD.out
                rw [Nat.add_mul, Nat.one_mul, ← j1]
                omega
              have HT := Lib.hid HT
              go_wp2_with fail
              go_roundw
              case rel => exact ⟨t + 1, k', by rw [HT.out.1]; exact hbn, by rw [HT.out.1], by rw [HT.out.1, HT.out.2], HE.out⟩
              case measure => have := HT.out; have := HAB.out; have := HD.out; simp [intOf]; omega
            · have hbn' : ¬ (B : Int) ≤ (n : Int) := by omega
              rw [show min B n = n by omega] at p2
              have HAB := Lib.hid (And.intro hA (And.intro hB (And.intro hM htn)))
              by_cases hm : M < n
              · have hm' : (M : Int) < (n : Int) := by omega
                rw [Nat.min_eq_left (by omega)] at p1
                have hc := Lib.hid (sym_any n g cap n c A M n k wr hrow p1 p2 (by omega) hm (Nat.le_refl _) hn (by omega))
                have HI := Lib.hid (And.intro hp (And.intro hd hkp))
                clear hrow hp hd hkp hA hB hM htn p1 p2
                go_wp2_with fail
                refine hc.out.mono ?_
                rintro e w1 ⟨rfl, k', hr1, hp1, hs1, hk1⟩
                have HE := Lib.hid (show RowW w1 52 5 g cap n (fdG k') ∧ PermOn 0 n f k' ∧ Blks k' (2 * s) n ∧ Keep (· = g) w w1 from by
                  obtain ⟨i1, i2, i3⟩ := HI.out
                  obtain ⟨j1, j2, j3, j4⟩ := HAB.out
                  refine ⟨hr1, i1.trans (hp1.more (by omega) (Nat.le_refl _)), i2.last (h' := k') (by rw [← j1]; exact hp1) (by rw [← j1]; exact hs1) (by rw [← j1]; omega), i3.trans hk1 (fun _ e => .inl e)⟩)
                clear hr1 hp1 hs1 hk1 hc HI
                go_wp2_with fail
                go_roundw
                case rel => exact ⟨D, k', by have := HD.out; omega, d5, rfl, by rw [HD.out]; exact HE.out⟩
                case measure => have := HD.out; simp [intOf]; omega
              · have hm' : ¬ (M : Int) < (n : Int) := by omega
                rw [show min M n = n by omega] at p1
                have HE := Lib.hid (show RowW wr 52 5 g cap n (fdG k) ∧ PermOn 0 n f k ∧ Blks k (2 * s) n ∧ Keep (· = g) w wr from
                  ⟨hrow, hp, hd.last (h' := k) (PermOn.refl _ _ _) (by rw [← hA]; exact p1) (by rw [← hA]; omega), hkp⟩)
                clear hrow hp hd hkp hA hB hM htn p1 p2
                go_wp2_with fail
                go_roundw
                case rel => exact ⟨D, k, by have := HD.out; omega, d5, rfl, by rw [HD.out]; exact HE.out⟩
                case measure => have := HD.out; simp [intOf]; omega
        · have hsn' : ¬ (s : Int) < (n : Int) := by omega
          have hb0 := hb 0
          rw [Nat.zero_mul, Nat.zero_add, show min s n = n by omega] at hb0
          have HE2 := Lib.hid (And.intro hrow (And.intro hp (And.intro hb0 hkp)))
          clear hrow hp hb hb0 hkp HE
          go_wp2_with fail
          go_end0
          exact ⟨rfl, h, HE2.out⟩
end Go.Proofs.YtdlmjjlejkkniaaGreat

namespace Go.Proofs.YtdlmjjlejkkniaaGreat
open Go.RowKit

theorem stableCmp_zero (a : Option Addr) (c : Nat) (w : World) :
    Calls Tryz.prog 80 #[.slice a 0 c, .int .i64 0, .func (.func 50) #[] #[]] w fun e w' => e = .returned (.tuple #[]) ∧ w' = w := by
  have hi := insort_same a 0 c 0 w (by omega)
  go_enter Tryz.func80, Tryz.ntmps80
  go_wp2_with fail
  refine wp_loop_rounds 1 ?_
  rw [rounds_succ]
  go_wp2_with fail
  refine hi.mono ?_
  rintro e w1 ⟨rfl, rfl⟩
  go_wp2_with fail
  refine wp_loop_rounds 1 ?_
  rw [rounds_succ]
  go_wp2_with fail
  go_end0
  exact ⟨rfl, rfl⟩
set_option maxHeartbeats 800000 in
theorem stable_all (N : Nat) (a : Option Addr) (n c : Nat) (f : Nat → FoundE) (w : World) (ho : OwnF w N a n c f) (hn : n ≤ 100000) :
    Calls Tryz.prog 49 #[.slice a n c, .func (.func 50) #[] #[]] w fun e w' =>
      e = .returned (.tuple #[]) ∧ ∃ h, OwnF w' N a n c h ∧ PermOn 0 n f h ∧ Srt leC h 0 n ∧ Keep (fun t => (Value.slice a n c).ownBlock = some t) w w' := by
  rcases Nat.eq_zero_or_pos n with h0 | h0
  · subst h0
    have H1 := Lib.hid (stableCmp_zero a c w)
    have HO := Lib.hid ho
    clear ho
    go_enter Tryz.func49, Tryz.ntmps49
    go_wp2_with fail
    refine H1.out.mono ?_
    rintro e w1 ⟨rfl, rfl⟩
    go_wp2_with fail
    go_end0
    exact ⟨rfl, f, HO.out, PermOn.refl _ _ _, Srt.none _ _ (by omega), Keep.refl _ _⟩
  · obtain ⟨g, rfl, hg, hc, hrow⟩ := ho.row h0
    have H1 := Lib.hid (stableCmp_all g c n c f w hrow hn)
    have HG := Lib.hid (And.intro hg hc)
    clear ho hrow hg hc
    go_enter Tryz.func49, Tryz.ntmps49
    go_wp2_with fail
    refine H1.out.mono ?_
    rintro e w1 ⟨rfl, h, hr, hp, hs, hk⟩
    have HE := Lib.hid (show OwnF w1 N (some ⟨g, 0, none⟩) n c h ∧ PermOn 0 n f h ∧ Srt leC h 0 n ∧ Keep (fun t => (Value.slice (some ⟨g, 0, none⟩) n c).ownBlock = some t) w w1 from
      ⟨OwnW.of_row hr HG.out.1 HG.out.2, hp, hs, hk.more (fun i e => .inl (by rw [show i = g from e]; rfl))⟩)
    clear hr hp hs hk H1
    go_wp2_with fail
    go_end0
    exact ⟨rfl, h, HE.out⟩
theorem OwnW.small {w : World} {T : TypeId} {k N : Nat} {a : Option Addr} {n c : Nat} {f : Nat → Value} (h : OwnW w T k N a n c f) : ∀ t, (Value.slice a n c).ownBlock = some t → N ≤ t := fun _ e => (h.block e).1
set_option maxHeartbeats 800000 in
/-- scan.Latest: the rows in order, one for each host page. -/
theorem latest_all (a : Option Addr) (n c : Nat) (f : Nat → FoundE) (w : World) (ha : ArgF w a n f) (hn : n ≤ 100000) :
    Calls Tryz.prog 20 #[.slice a n c] w fun e w' => ∃ a' c' h, e = .returned (.slice a' (cmpN h n) c') ∧ OwnF w' w.heap.size a' (cmpN h n) c' (cmpG h n) ∧ PermOn 0 n f h ∧ Srt leC h 0 n ∧ Keep (fun _ => False) w w' := by
  have hcl := Lib.hid (cloneF_any a n c f w ha hn)
  clear ha
  go_enter Tryz.func20, Tryz.ntmps20
  go_wp2_with fail
  refine hcl.out.mono ?_
  rintro e w1 ⟨a1, c1, rfl, ho1, k1⟩
  have hst := Lib.hid (stable_all _ a1 n c1 f w1 ho1 hn)
  have HB := Lib.hid ho1.small
  have HK1 := Lib.hid k1
  clear ho1 k1 hcl
  go_wp2_with fail
  refine hst.out.mono ?_
  rintro e w2 ⟨rfl, h, ho2, hp, hs, k2⟩
  have HE := Lib.hid (And.intro hp hs)
  have HK2 := Lib.hid (HK1.out.drop k2 HB.out)
  have HO := Lib.hid ho2
  clear hp hs k2 ho2 hst
  by_cases h2 : n < 2
  · have hc := Lib.hid (compact_small a1 n c1 w2 h2)
    go_wp2_with fail
    refine hc.out.mono ?_
    rintro e w3 ⟨rfl, rfl⟩
    clear hc
    have hm : cmpN h n = n ∧ ∀ q, q < n → cmpG h n q = h q := by
      rcases (show n = 0 ∨ n = 1 by omega) with e | e
      · subst e
        exact ⟨rfl, fun q hq => by omega⟩
      · subst e
        exact ⟨rfl, fun q hq => by rw [show q = 0 by omega]; rfl⟩
    have HM := Lib.hid hm
    clear hm
    go_wp2_with fail
    go_ret
    refine ⟨a1, c1, h, by rw [HM.out.1]; rfl, ?_, HE.out.1, HE.out.2, HK2.out⟩
    rw [HM.out.1]
    exact HO.out.congr (fun q hq => by unfold fdG; rw [HM.out.2 _ (by omega)])
  · obtain ⟨g, rfl, hg, hc, hrow⟩ := HO.out.row (by omega)
    have hc := Lib.hid (compact_any g c1 n c1 h w2 hrow (by omega) hn HO.out.le.1 hc)
    have HG := Lib.hid (And.intro hg HO.out.le.2)
    clear hrow hg
    go_wp2_with fail
    refine hc.out.mono ?_
    rintro e w3 ⟨rfl, hr3, k3⟩
    have HR := Lib.hid (And.intro (OwnW.of_row hr3 HG.out.1 HG.out.2) (HK2.out.drop k3 (fun t e => by rw [show t = g from e]; exact HG.out.1)))
    clear hr3 k3 hc
    go_wp2_with fail
    go_ret
    exact ⟨_, _, h, rfl, HR.out.1, HE.out.1, HE.out.2, HR.out.2⟩
end Go.Proofs.YtdlmjjlejkkniaaGreat

namespace Go.Proofs.YtdlmjjlejkkniaaGreat
open Go.RowKit

theorem no_pigeon : ∀ (n : Nat) (t : Nat → Nat), (∀ p q, p ≤ n → q ≤ n → t p = t q → p = q) → (∀ p, p ≤ n → t p < n) → False
  | 0, t, _, h => by
    have := h 0 (Nat.le_refl _)
    omega
  | n + 1, t, hi, h => by
    refine no_pigeon n (fun p => if t p = n then t (n + 1) else t p) (fun p q hp hq e => ?_) (fun p hp => ?_)
    · try dsimp only at e
      by_cases e1 : t p = n
      · rw [if_pos e1] at e
        by_cases e2 : t q = n
        · exact hi p q (by omega) (by omega) (by omega)
        · rw [if_neg e2] at e
          have := hi (n + 1) q (Nat.le_refl _) (by omega) e
          omega
      · rw [if_neg e1] at e
        by_cases e2 : t q = n
        · rw [if_pos e2] at e
          have := hi p (n + 1) (by omega) (Nat.le_refl _) e
          omega
        · rw [if_neg e2] at e
          exact hi p q (by omega) (by omega) e
    · try dsimp only
      have h1 := h p (by omega)
      have h2 := h (n + 1) (Nat.le_refl _)
      by_cases e1 : t p = n
      · rw [if_pos e1]
        refine Nat.lt_of_le_of_ne (by omega) (fun e2 => ?_)
        have := hi p (n + 1) (by omega) (Nat.le_refl _) (by omega)
        omega
      · rw [if_neg e1]
        omega
theorem PermOn.symm {α : Type} {a b : Nat} {f g : Nat → α} (p : PermOn a b f g) : PermOn a b g f := by
  obtain ⟨s, t, h1, h2, h3, h4⟩ := p
  refine ⟨t, s, h2, h1, fun i hi => ?_, fun i => by rw [h4, h1]⟩
  have e := congrArg t (h3 i hi)
  rw [h2] at e
  exact e.symm
theorem srt_at {f : Nat → FoundE} {a b i j : Nat} (h : Srt leC f a b) (h1 : a ≤ i) (h2 : i ≤ j) (h3 : j < b) : leC (f i) (f j) := by
  by_cases e : i = j
  · rw [e, leC_iff]
    omega
  · exact h i j h1 (by omega) h3
theorem srt_below {g h : Nat → FoundE} {n i : Nat} (p : PermOn 0 n g h) (sg : Srt leC g 0 n) (sh : Srt leC h 0 n) (hi : i < n) : leC (g i) (h i) := by
  obtain ⟨s, t, k1, k2, k3, k4⟩ := p
  refine Classical.byContradiction fun e => no_pigeon i s (fun p q hp hq e2 => ?_) (fun q hq => ?_)
  · have := congrArg t e2
    rwa [k2, k2] at this
  · refine Classical.byContradiction fun e2 => e ?_
    have hs : s q < n := Classical.byContradiction fun e3 => by
      have e4 := k3 (s q) (by omega)
      have e5 := congrArg t e4
      rw [k2, k2] at e5
      omega
    have h1 := srt_at sg (Nat.zero_le _) (show i ≤ s q by omega) hs
    have h2 := srt_at sh (Nat.zero_le _) (show q ≤ i by omega) hi
    rw [k4] at h2
    exact leC_trans _ _ _ h1 h2
/-- Two rows in order of the same elements: place by place they are alike in the order's own parts. -/
theorem srt_one {g h : Nat → FoundE} {n : Nat} (p : PermOn 0 n g h) (sg : Srt leC g 0 n) (sh : Srt leC h 0 n) {i : Nat} (hi : i < n) : (g i).l = (h i).l ∧ (g i).s = (h i).s ∧ (g i).p = (h i).p := by
  have h1 := srt_below p sg sh hi
  have h2 := srt_below p.symm sh sg hi
  rw [leC_iff] at h1 h2
  omega
theorem cmp_congr {f g : Nat → FoundE} : ∀ n, (∀ i, i < n → f i = g i) → cmpN f n = cmpN g n ∧ ∀ q, q < n → cmpG f n q = cmpG g n q
  | 0, _ => ⟨rfl, fun q hq => by omega⟩
  | n + 1, h => by
    obtain ⟨h1, h2⟩ := cmp_congr n (fun i hi => h i (by omega))
    have e1 := h n (by omega)
    by_cases e0 : n = 0
    · subst e0
      refine ⟨rfl, fun q hq => ?_⟩
      obtain rfl : q = 0 := by omega
      show (if (0 : Nat) = 0 then f 0 else f 0) = (if (0 : Nat) = 0 then g 0 else g 0)
      rw [if_pos rfl, if_pos rfl, e1]
    · have e2 := h (n - 1) (by omega)
      unfold cmpN cmpG
      rw [e1, e2, h1]
      by_cases e : n = 0 ∨ (g n).l ≠ (g (n - 1)).l
      · simp only [if_pos e]
        refine ⟨trivial, fun q hq => ?_⟩
        try dsimp only
        by_cases e3 : q = cmpN g n
        · rw [if_pos e3, if_pos e3]
        · rw [if_neg e3, if_neg e3]
          by_cases e4 : q < n
          · exact h2 q e4
          · obtain rfl : q = n := by omega
            have hb : ∀ (f : Nat → FoundE) k q, k ≤ q → cmpG f k q = f q := by
              intro f k
              induction k with
              | zero => exact fun q _ => rfl
              | succ k ih =>
                intro q hq
                have := cmpN_le f k
                unfold cmpG
                split
                · try dsimp only
                  rw [if_neg (by omega)]
                  exact ih q (by omega)
                · exact ih q (by omega)
            rw [hb f q q (Nat.le_refl _), hb g q q (Nat.le_refl _), e1]
      · simp only [if_neg e]
        refine ⟨trivial, fun q hq => ?_⟩
        by_cases e4 : q < n
        · exact h2 q e4
        · obtain rfl : q = n := by omega
          have hb : ∀ (f : Nat → FoundE) k q, k ≤ q → cmpG f k q = f q := by
            intro f k
            induction k with
            | zero => exact fun q _ => rfl
            | succ k ih =>
              intro q hq
              have := cmpN_le f k
              unfold cmpG
              split
              · try dsimp only
                rw [if_neg (by omega)]
                exact ih q (by omega)
              · exact ih q (by omega)
          rw [hb f q q (Nat.le_refl _), hb g q q (Nat.le_refl _), e1]
/-- Of a row in order: which are kept. src: where each stood. -/
theorem cmp_of {h : Nat → FoundE} {n : Nat} (hs : Srt leC h 0 n) : ∀ i, i ≤ n → (∀ k, k < cmpN h i → ∃ j, j < i ∧ cmpG h i k = h j ∧ ∀ j', j' < n → (h j').l = (h j).l → j ≤ j') ∧ (∀ j, j < i → ∃ k, k < cmpN h i ∧ (cmpG h i k).l = (h j).l) ∧ (∀ x y, x < y → y < cmpN h i → (cmpG h i x).l < (cmpG h i y).l)
  | 0, _ => ⟨fun k hk => by have : cmpN h 0 = 0 := rfl; omega, fun j hj => by omega, fun x y _ hy => by have : cmpN h 0 = 0 := rfl; omega⟩
  | i + 1, hin => by
    obtain ⟨h1, h2, h3⟩ := cmp_of hs i (by omega)
    have mono : ∀ a b, a ≤ b → b < n → (h a).l ≤ (h b).l := fun a b hab hb => by
      have := srt_at hs (Nat.zero_le _) hab hb
      rw [leC_iff] at this
      omega
    by_cases e : i = 0 ∨ (h i).l ≠ (h (i - 1)).l
    · have n1 : cmpN h (i + 1) = cmpN h i + 1 := by rw [cmpN, if_pos e]
      have n2 : ∀ q, cmpG h (i + 1) q = if q = cmpN h i then h i else cmpG h i q := fun q => by rw [cmpG, if_pos e]
      have n3 : ∀ j', j' < i → (h j').l < (h i).l := fun j' hj => by
        have a1 := mono j' (i - 1) (by omega) (by omega)
        have a2 := mono (i - 1) i (by omega) (by omega)
        rcases e with e | e
        · omega
        · have : (h (i - 1)).l ≠ (h i).l := fun k => e k.symm
          omega
      rw [n1]
      refine ⟨fun k hk => ?_, fun j hj => ?_, fun x y hxy hy => ?_⟩
      · rw [n2]
        by_cases e2 : k = cmpN h i
        · rw [if_pos e2]
          refine ⟨i, by omega, rfl, fun j' hj' el => Classical.byContradiction fun e3 => ?_⟩
          have := n3 j' (by omega)
          omega
        · rw [if_neg e2]
          obtain ⟨j, j1, j2, j3⟩ := h1 k (by omega)
          exact ⟨j, by omega, j2, j3⟩
      · by_cases e2 : j = i
        · refine ⟨cmpN h i, by omega, ?_⟩
          rw [n2, if_pos rfl, e2]
        · obtain ⟨k, k1, k2⟩ := h2 j (by omega)
          refine ⟨k, by omega, ?_⟩
          rw [n2, if_neg (by omega)]
          exact k2
      · rw [n2, n2, if_neg (show ¬ x = cmpN h i by omega)]
        by_cases e2 : y = cmpN h i
        · rw [if_pos e2]
          obtain ⟨j, j1, j2, j3⟩ := h1 x (by omega)
          rw [j2]
          exact n3 j j1
        · rw [if_neg e2]
          exact h3 x y hxy (by omega)
    · have e' : i ≠ 0 ∧ (h i).l = (h (i - 1)).l := ⟨fun k => e (.inl k), Classical.byContradiction fun k => e (.inr k)⟩
      have n1 : cmpN h (i + 1) = cmpN h i := by rw [cmpN, if_neg e]
      have n2 : cmpG h (i + 1) = cmpG h i := by rw [cmpG, if_neg e]
      rw [n1, n2]
      refine ⟨fun k hk => ?_, fun j hj => ?_, h3⟩
      · obtain ⟨j, j1, j2, j3⟩ := h1 k hk
        exact ⟨j, by omega, j2, j3⟩
      · by_cases e2 : j = i
        · obtain ⟨k, k1, k2⟩ := h2 (i - 1) (by omega)
          exact ⟨k, k1, by rw [k2, e2, e'.2]⟩
        · exact h2 j (by omega)
end Go.Proofs.YtdlmjjlejkkniaaGreat
