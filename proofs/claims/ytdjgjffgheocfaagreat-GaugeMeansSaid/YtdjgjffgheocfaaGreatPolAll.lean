/- The field, polynomials, and what is decoded by them. -/
import Derived.Test.YtdjgjffgheocfaaGreatBase
import Derived.Test.YtdjgjffgheocfaaGreatGf
import Derived.Laws.CopyOwn
import Derived.RangeFuncBox
import Derived.RangeFuncNested
import Derived.RangeFuncBound
import Derived.RangeFuncCalls
import Derived.RangeFuncLeaves
import Derived.Shelf.Abstract
import Derived.Shelf.RegionOpen
import Derived.OwnWalkIn
import Derived.TacticsInMore
import Derived.LoopNIn
import Derived.LoopIn
import Derived.WalkMore
import Derived.ScopeJumps
namespace Go.Proofs.YtdjgjffgheocfaaGreat

def padd (f g : Nat → Nat) : Nat → Nat := fun i => f i ^^^ g i
theorem padd_lt {f g : Nat → Nat} (hf : ∀ i, f i < 1024) (hg : ∀ i, g i < 1024) (i : Nat) : padd f g i < 1024 := xor_lt (hf i) (hg i)
/-- The sum of the first n. -/
def xs : Nat → (Nat → Nat) → Nat
  | 0, _ => 0
  | n + 1, h => xs n h ^^^ h n
theorem xs_lt {h : Nat → Nat} (n : Nat) (hh : ∀ i, i < n → h i < 1024) : xs n h < 1024 := by
  induction n with
  | zero => simp [xs]
  | succ n ih => exact xor_lt (ih fun i hi => hh i (by omega)) (hh n (by omega))
theorem xs_congr {h k : Nat → Nat} (n : Nat) (e : ∀ i, i < n → h i = k i) : xs n h = xs n k := by
  induction n with
  | zero => rfl
  | succ n ih => rw [xs, xs, ih fun i hi => e i (by omega), e n (by omega)]
theorem xs_zero {h : Nat → Nat} (n : Nat) (e : ∀ i, i < n → h i = 0) : xs n h = 0 := by
  induction n with
  | zero => rfl
  | succ n ih => rw [xs, ih fun i hi => e i (by omega), e n (by omega)]; rfl
theorem xs_more {h : Nat → Nat} (n m : Nat) (hm : n ≤ m) (e : ∀ i, n ≤ i → i < m → h i = 0) : xs m h = xs n h := by
  induction m with
  | zero =>
    obtain rfl : n = 0 := by omega
    rfl
  | succ m ih =>
    by_cases hn : n = m + 1
    · rw [hn]
    · rw [xs, ih (by omega) (fun i h0 h1 => e i h0 (by omega)), e m (by omega) (by omega), Nat.xor_zero]
theorem xs_add (h k : Nat → Nat) (n : Nat) : xs n (fun i => h i ^^^ k i) = xs n h ^^^ xs n k := by
  induction n with
  | zero => simp [xs]
  | succ n ih => rw [xs, xs, xs, ih, xor_four]
/-- The product: coefficient k. -/
def pmul (f g : Nat → Nat) : Nat → Nat := fun k => xs (k + 1) fun i => gm (f i) (g (k - i))
theorem pmul_lt {f g : Nat → Nat} (hf : ∀ i, f i < 1024) (k : Nat) : pmul f g k < 1024 := xs_lt _ fun i _ => gm_lt (hf i) _
/-- The product, of the first n rows. -/
def pacc (f g : Nat → Nat) (n k : Nat) : Nat := xs n fun i => if i ≤ k then gm (f i) (g (k - i)) else 0
theorem pacc_lt {f g : Nat → Nat} (hf : ∀ i, f i < 1024) (n k : Nat) : pacc f g n k < 1024 := xs_lt _ fun i _ => by
  split
  · exact gm_lt (hf i) _
  · omega
theorem pacc_full {f g : Nat → Nat} {n : Nat} (hz : ∀ i, n ≤ i → f i = 0) (k : Nat) : pacc f g n k = pmul f g k := by
  unfold pacc pmul
  have e1 : xs (k + 1) (fun i => gm (f i) (g (k - i))) = xs (k + 1) (fun i => if i ≤ k then gm (f i) (g (k - i)) else 0) := xs_congr _ fun i hi => by rw [if_pos (by omega)]
  rw [e1]
  rcases Nat.le_total n (k + 1) with h | h
  · exact (xs_more n (k + 1) h fun i h0 _ => by rw [hz i h0, gm_zero_left]; simp).symm
  · exact xs_more (k + 1) n h fun i h0 _ => by rw [if_neg (by omega)]
theorem pmul_zero {f g : Nat → Nat} {n m k : Nat} (hf : ∀ i, n ≤ i → f i = 0) (hg : ∀ i, m ≤ i → g i = 0) (hk : n + m ≤ k + 1) : pmul f g k = 0 := xs_zero _ fun i hi => by
  by_cases h : n ≤ i
  · rw [hf i h, gm_zero_left]
  · rw [hg (k - i) (by omega), gm_zero_right]
theorem pmul_nil_left (g : Nat → Nat) : pmul (fun _ => 0) g = fun _ => 0 := by
  funext k
  exact xs_zero _ fun i _ => gm_zero_left _
theorem pmul_nil_right (f : Nat → Nat) : pmul f (fun _ => 0) = fun _ => 0 := by
  funext k
  exact xs_zero _ fun i _ => gm_zero_right _
/-- The value at a place: m coefficients from j on, by Horner. -/
def hor (f : Nat → Nat) (x j : Nat) : Nat → Nat
  | 0 => 0
  | m + 1 => gm (hor f x (j + 1) m) x ^^^ f j
theorem hor_lt {f : Nat → Nat} (hf : ∀ i, f i < 1024) {x : Nat} (j m : Nat) : hor f x j m < 1024 := by
  induction m generalizing j with
  | zero => simp [hor]
  | succ m ih => exact xor_lt (gm_lt (ih (j + 1)) x) (hf j)
theorem hor_congr {f g : Nat → Nat} {x : Nat} (j m : Nat) (h : ∀ i, j ≤ i → i < j + m → f i = g i) : hor f x j m = hor g x j m := by
  induction m generalizing j with
  | zero => rfl
  | succ m ih => rw [hor, hor, ih (j + 1) (fun i h0 h1 => h i (by omega) (by omega)), h j (by omega) (by omega)]
theorem hor_zero {f : Nat → Nat} {x : Nat} (j m : Nat) (h : ∀ i, j ≤ i → f i = 0) : hor f x j m = 0 := by
  induction m generalizing j with
  | zero => rfl
  | succ m ih => rw [hor, ih (j + 1) (fun i h0 => h i (by omega)), h j (by omega), gm_zero_left]; rfl
theorem hor_more {f : Nat → Nat} {x : Nat} (j n m : Nat) (hm : n ≤ m) (h : ∀ i, j + n ≤ i → f i = 0) : hor f x j m = hor f x j n := by
  induction n generalizing j m with
  | zero => exact hor_zero j m h
  | succ n ih =>
    obtain ⟨m, rfl⟩ : ∃ k, m = k + 1 := ⟨m - 1, by omega⟩
    rw [hor, hor, ih (j + 1) m (by omega) (fun i hi => h i (by omega))]
def pslope (f : Nat → Nat) : Nat → Nat := fun i => if i % 2 = 0 then f (i + 1) else 0
/-- In how many of the first n places two are unlike. -/
def cntNe (p q : Nat → Nat) : Nat → Nat
  | 0 => 0
  | n + 1 => cntNe p q n + if p n = q n then 0 else 1
theorem cntNe_le (p q : Nat → Nat) (n : Nat) : cntNe p q n ≤ n := by
  induction n with
  | zero => simp [cntNe]
  | succ n ih => unfold cntNe; split <;> omega
theorem cntNe_congr {p q p' q' : Nat → Nat} : ∀ (n : Nat), (∀ i, i < n → p i = p' i) → (∀ i, i < n → q i = q' i) → cntNe p q n = cntNe p' q' n
  | 0, _, _ => rfl
  | n + 1, h, k => by rw [cntNe, cntNe, cntNe_congr n (fun i hi => h i (by omega)) (fun i hi => k i (by omega)), h n (by omega), k n (by omega)]
theorem cntNe_comm (p q : Nat → Nat) : ∀ n, cntNe p q n = cntNe q p n
  | 0 => rfl
  | n + 1 => by
    rw [cntNe, cntNe, cntNe_comm p q n]
    congr 1
    by_cases h : p n = q n
    · rw [if_pos h, if_pos h.symm]
    · rw [if_neg h, if_neg (fun e => h e.symm)]
theorem cntNe_zero {p q : Nat → Nat} {n : Nat} : cntNe p q n = 0 ↔ ∀ i, i < n → p i = q i := by
  induction n with
  | zero => simp [cntNe]
  | succ n ih =>
    unfold cntNe
    constructor
    · intro h i hi
      have h1 : cntNe p q n = 0 := by omega
      by_cases e : i = n
      · subst e
        by_cases h2 : p i = q i
        · exact h2
        · simp [h2] at h
      · exact ih.1 h1 i (by omega)
    · intro h
      rw [ih.2 (fun i hi => h i (by omega)), if_pos (h n (by omega))]
end Go.Proofs.YtdjgjffgheocfaaGreat

namespace Go.Proofs.YtdjgjffgheocfaaGreat
open Go.RowKit

theorem fadd_any (a b : Nat) (w : World) (ha : a < 65536) (hb : b < 65536) :
    Calls Tryz.prog 167 #[.int .u16 a, .int .u16 b] w fun e w' => e = .returned (.int .u16 ((((a ^^^ b) % 1024 : Nat)) : Int)) ∧ w = w' := by
  have h := xor_u16 ha hb
  go_enter Tryz.func167, Tryz.ntmps167
  go_wp2
  go_ret
  exact ⟨rfl, rfl⟩

/-- The table of the powers of x. -/
def expArr : Array Value := uArr ex 1023
/-- The table of which power each symbol is. -/
noncomputable def logArr : Array Value := valsArr (fun a => .int .i64 (lg a)) 1024
def tabV (g1 g2 : Nat) : Value := .agg #[.slice (some ⟨g1, 0, none⟩) 1023 1023, .slice (some ⟨g2, 0, none⟩) 1024 1024]
/-- Tables that were made. -/
structure Tab (w : World) (g1 g2 : Nat) : Prop where
  e : Blk w g1 148 expArr
  l : Blk w g2 3 logArr
theorem Tab.keep {w w' : World} {g1 g2 : Nat} (h : Tab w g1 g2) (k : Keep (fun _ => False) w w') : Tab w' g1 g2 := ⟨h.e.keep k (by simp), h.l.keep k (by simp)⟩
theorem Tab.ecell {w : World} {g1 g2 : Nat} (h : Tab w g1 g2) {j : Nat} (hj : j < 1023) : w.cell? ⟨g1, j, none⟩ = some (.int .u16 (ex j : Nat)) := by
  have hb : Blk w g1 148 (valsArr (fun i => .int .u16 (ex i : Nat)) 1023) := h.e
  exact hb.val hj
theorem Tab.lcell {w : World} {g1 g2 : Nat} (h : Tab w g1 g2) {a : Nat} (ha : a < 1024) : w.cell? ⟨g2, a, none⟩ = some (.int .i64 (lg a : Nat)) := by
  have hb : Blk w g2 3 (valsArr (fun i => .int .i64 (lg i : Nat)) 1024) := h.l
  exact hb.val ha
theorem Tryz.info_int : (Tryz.prog.info? 3).map (fun i => (i.zero, i.size, i.bytes)) = some (some (.int .i64 0), 1, 8) := by kernel_rfl
noncomputable def logK (k a : Nat) : Nat := if a ≠ 0 ∧ a < 1024 ∧ lg a < k then lg a else 0
theorem logK_zero (a : Nat) : logK 0 a = 0 := by simp [logK]
theorem logK_full {a : Nat} (ha : a < 1024) : logK 1023 a = lg a := by
  unfold logK
  by_cases h : a = 0
  · subst h; simp [lg_zero]
  · rw [if_pos ⟨h, ha, lg_lt a⟩]
theorem logK_next {k a : Nat} (hk : k < 1023) (ha : a < 1024) : logK (k + 1) a = if a = ex k then k else logK k a := by
  by_cases h : a = ex k
  · subst h
    have h1 := lg_ex hk
    simp [logK, ex_pos, ex_lt, h1]
  · rw [if_neg h]
    unfold logK
    by_cases h0 : a = 0
    · simp [h0]
    · have h2 := lg_spec ha h0
      have h3 : lg a ≠ k := fun e => h (by rw [← e]; exact h2.2.symm)
      have h4 : (lg a < k + 1) = (lg a < k) := by apply propext; omega
      simp only [h4]
theorem xt_big {a : Nat} (h : 1024 ≤ 2 * a) : xt a = (2 * a) ^^^ 1033 := by simp [xt, h]
theorem xt_small {a : Nat} (h : ¬ 1024 ≤ 2 * a) : xt a = 2 * a := by simp [xt, h]

set_option maxHeartbeats 2000000 in
set_option maxRecDepth 100000 in
theorem make_any (w : World) :
    Calls Tryz.prog 49 #[] w fun e w' => ∃ g1 g2, e = .returned (tabV g1 g2) ∧ Tab w' g1 g2 ∧ w.heap.size ≤ g1 ∧ w.heap.size ≤ g2 ∧ Keep (fun _ => False) w w' := by
  have hm1 := make_u 1023 1023 rfl (by omega)
  have hm2 := make_vals (P := Tryz.prog) Tryz.underlying43 Tryz.info_int rfl 1024 1024 rfl (by omega) (by omega)
  go_enter Tryz.func49, Tryz.ntmps49
  go_upto_region 1 with (fail)
  go_cut [1, 4, 5] (fun v v4 v5 wc => ∃ gt g1 g2 : Nat, v = .pointer (some ⟨gt, 0, none⟩) ∧ v4 = .slice (some ⟨g1, 0, none⟩) 1023 1023 ∧ v5 = .slice (some ⟨g2, 0, none⟩) 1024 1024 ∧ Blk wc w.heap.size 82 #[.slice none 0 0, .slice none 0 0] ∧
    Blk wc gt 82 #[.slice (some ⟨g1, 0, none⟩) 1023 1023, .slice (some ⟨g2, 0, none⟩) 1024 1024] ∧ Blk wc g1 148 (uArr (fun _ => 0) 1023) ∧ Blk wc g2 3 (valsArr (fun _ => .int .i64 0) 1024) ∧
    w.heap.size < gt ∧ w.heap.size < g1 ∧ w.heap.size < g2 ∧ Keep (fun _ => False) w wc)
  case first =>
    go_region
    all_goals
      go_wp2_with fail
      go_meet
      refine ⟨_, _, _, rfl, rfl, rfl, ?_, ?_, ?_, ?_, ?_, ?_, ?_, ?_⟩
      all_goals first
        | omega
        | (with_reducible exact (((((Keep.refl _ _).alloc _).alloc _).alloc _).alloc _).drew)
        | (with_reducible repeat (first | (refine Blk.here _ _ _ _ ?_; (simp; done)) | refine Blk.drew ?_ | refine Blk.alloc ?_ _))
  case rest =>
    obtain ⟨gt, g1, g2, rfl, rfl, rfl, b0, bt, b1, b2, n0, n1, n2, k0⟩ := hcut
    clear hm1 hm2
    have hne : gt ≠ w.heap.size := by omega
    have ht1 := bt.ne b1 (by decide)
    have ht2 := bt.ne b2 (by decide)
    have h12 := b1.ne b2 (by decide)
    go_wp2
    go_loopw [2, 7] (fun v2 v7 wr => ∃ k : Nat, k ≤ 1023 ∧ v7 = .int .i64 k ∧ v2 = .int .i64 (ex k) ∧ Blk wr w.heap.size 82 #[.slice none 0 0, .slice none 0 0] ∧
      Blk wr gt 82 #[.slice (some ⟨g1, 0, none⟩) 1023 1023, .slice (some ⟨g2, 0, none⟩) 1024 1024] ∧ Blk wr g1 148 (uArr (fun i => if i < k then ex i else 0) 1023) ∧
      Blk wr g2 3 (valsArr (fun a => .int .i64 (logK k a)) 1024) ∧ Keep (fun _ => False) w wr) (fun _ v7 _ => 1023 - (intOf v7).toNat)
    case atStart =>
      refine ⟨0, by omega, rfl, rfl, b0, bt, ?_, ?_, k0⟩
      · simpa using b1
      · have e : (fun a : Nat => Value.int .i64 ((logK 0 a : Nat) : Int)) = fun _ => Value.int .i64 0 := by
          funext a
          rw [logK_zero]
          rfl
        rw [e]
        exact b2
    case round =>
      clear b0 bt b1 b2 k0
      obtain ⟨k, hk, rfl, rfl, b0, bt, b1, b2, kr⟩ := hrel
      by_cases hk1 : k < 1023
      · have hkk : (k : Int) < 1023 := by omega
        have hx := ex_lt k
        have c1 : wr.cell? ⟨gt, 0, none⟩ = some (.slice (some ⟨g1, 0, none⟩) 1023 1023) := by rw [bt.cell]; rfl
        have c2 : wr.cell? ⟨gt, 1, none⟩ = some (.slice (some ⟨g2, 0, none⟩) 1024 1024) := by rw [bt.cell]; rfl
        have c3 := b1.val hk1
        have c4 := b2.val hx
        have z3 := b1.frozen k
        have z4 := b2.frozen (ex k)
        have hxi : ((ex k : Nat) : Int) < 1024 := by omega
        have hw : IntKind.u16.wrap ((ex k : Nat) : Int) = (ex k : Nat) := wraps_u16 _ (by omega) (by omega)
        have hn1 : ({ block := g2, off := ex k } : Addr) ≠ { block := g1, off := k } := fun e => h12 (by injection e with e1; exact e1.symm)
        have hn2 : ({ block := gt, off := 1 } : Addr) ≠ { block := g1, off := k } := fun e => ht1 (by injection e)
        have kk := (kr.setCell (p := ⟨g1, k, none⟩) (.inr (by show w.heap.size ≤ g1; omega)) (.int .u16 (ex k))).setCell (p := ⟨g2, ex k, none⟩) (.inr (by show w.heap.size ≤ g2; omega)) (.int .i64 k)
        have d0 := (b0.far (p := ⟨g1, k, none⟩) (by show w.heap.size ≠ g1; omega) (.int .u16 (ex k))).far (p := ⟨g2, ex k, none⟩) (by show w.heap.size ≠ g2; omega) (.int .i64 k)
        have dt := (bt.far (p := ⟨g1, k, none⟩) ht1 (.int .u16 (ex k))).far (p := ⟨g2, ex k, none⟩) ht2 (.int .i64 k)
        have d1 := (b1.storeU k (ex k) (f' := fun i => if i < k + 1 then ex i else 0) (fun i hi => by
          by_cases e : i = k
          · subst e; simp
          · by_cases e2 : i < k
            · simp [e, e2, show i < k + 1 by omega]
            · simp [e, e2, show ¬ i < k + 1 by omega])).far (p := ⟨g2, ex k, none⟩) h12 (.int .i64 k)
        have d2 := (b2.far (p := ⟨g1, k, none⟩) (Ne.symm h12) (.int .u16 (ex k))).store (ex k) (.int .i64 k)
        rw [valsArr_congr (h := fun a => .int .i64 ((logK (k + 1) a : Nat) : Int)) (fun a ha => by rw [logK_next hk1 ha]; split <;> rfl)] at d2
        have HK := Lib.hid (And.intro kk (And.intro d0 (And.intro dt (And.intro d1 d2))))
        clear kk d0 dt d1 d2
        have hs : ex (k + 1) = xt (ex k) := rfl
        go_wp2
        · have h1 : 1024 ≤ ((ex k : Nat) : Int) * 2 := by omega
          refine ⟨⟨k + 1, by omega, by go_num, ?_, HK.out.2.1, HK.out.2.2.1, HK.out.2.2.2.1, HK.out.2.2.2.2, HK.out.1⟩, by simp [intOf]; omega⟩
          have h2 := xor_i64 (a := 2 * ex k) (b := 1033) (by omega) (by omega)
          rw [show ((ex k : Nat) : Int) * 2 = ((2 * ex k : Nat) : Int) by omega]
          rw [hs, xt_big (by omega)]
          exact congrArg _ h2
        · have h1 : ¬ 1024 ≤ ((ex k : Nat) : Int) * 2 := by omega
          refine ⟨⟨k + 1, by omega, by go_num, ?_, HK.out.2.1, HK.out.2.2.1, HK.out.2.2.2.1, HK.out.2.2.2.2, HK.out.1⟩, by simp [intOf]; omega⟩
          rw [hs, xt_small (by omega)]
          congr 1
          omega
      · obtain rfl : k = 1023 := by omega
        have c1 : wr.cell? ⟨gt, 0, none⟩ = some (.slice (some ⟨g1, 0, none⟩) 1023 1023) := by rw [bt.cell]; rfl
        have c2 : wr.cell? ⟨gt, 1, none⟩ = some (.slice (some ⟨g2, 0, none⟩) 1024 1024) := by rw [bt.cell]; rfl
        have c3 : wr.cell? ⟨w.heap.size, 0, none⟩ = some (.slice none 0 0) := by rw [b0.cell]; rfl
        have c4 : wr.cell? ⟨w.heap.size, 1, none⟩ = some (.slice none 0 0) := by rw [b0.cell]; rfl
        have z0 := b0.frozen 0
        have z1 := b0.frozen 1
        go_wp2
        refine bodyPost_ret (results_cell_row rfl _ _ w.heap.size 82 #[.slice (some ⟨g1, 0, none⟩) 1023 1023, .slice (some ⟨g2, 0, none⟩) 1024 1024] (0, 0) _ rfl ?_ Tryz.underlying82 rfl (by kernel_rfl)) rfl ?_
        · exact (b0.put 0 (.slice (some ⟨g1, 0, none⟩) 1023 1023)).put 1 (.slice (some ⟨g2, 0, none⟩) 1024 1024)
        · have e1 : uArr (fun i => if i < 1023 then ex i else 0) 1023 = expArr := uArr_congr fun i hi => by simp [hi]
          have e2 : valsArr (fun a => Value.int .i64 ((logK 1023 a : Nat) : Int)) 1024 = logArr := valsArr_congr fun a ha => by rw [logK_full ha]
          rw [e1] at b1
          rw [e2] at b2
          refine ⟨g1, g2, rfl, ⟨(b1.far (p := ⟨w.heap.size, 0, none⟩) (by show g1 ≠ w.heap.size; omega) _).far (p := ⟨w.heap.size, 1, none⟩) (by show g1 ≠ w.heap.size; omega) _, (b2.far (p := ⟨w.heap.size, 0, none⟩) (by show g2 ≠ w.heap.size; omega) _).far (p := ⟨w.heap.size, 1, none⟩) (by show g2 ≠ w.heap.size; omega) _⟩, by omega, by omega, ?_⟩
          exact (kr.setCell (p := ⟨w.heap.size, 0, none⟩) (.inr (Nat.le_refl _)) _).setCell (p := ⟨w.heap.size, 1, none⟩) (.inr (Nat.le_refl _)) _

/-- Tables, made or not. -/
def HasT (w : World) (V : Value) : Prop := (∃ g1 g2, V = tabV g1 g2 ∧ Tab w g1 g2) ∨ V = .agg #[.slice none 0 0, .slice none 0 0]
theorem HasT.keep {w w' : World} {V : Value} (h : HasT w V) (k : Keep (fun _ => False) w w') : HasT w' V := by
  rcases h with ⟨g1, g2, e, t⟩ | e
  · exact .inl ⟨g1, g2, e, t.keep k⟩
  · exact .inr e
theorem Tab.has {w : World} {g1 g2 : Nat} (h : Tab w g1 g2) : HasT w (tabV g1 g2) := .inl ⟨g1, g2, rfl, h⟩

set_option maxHeartbeats 1000000 in
theorem made_any (V : Value) (w : World) (hT : HasT w V) :
    Calls Tryz.prog 173 #[V] w fun e w' => ∃ g1 g2, e = .returned (tabV g1 g2) ∧ Tab w' g1 g2 ∧ Keep (fun _ => False) w w' := by
  rcases hT with ⟨g1, g2, rfl, t⟩ | rfl
  · unfold tabV
    go_enter Tryz.func173, Tryz.ntmps173
    go_wp2
    refine bodyPost_ret (results_cell_row rfl _ _ (w.heap.size + 1) 82 #[.slice (some ⟨g1, 0, none⟩) 1023 1023, .slice (some ⟨g2, 0, none⟩) 1024 1024] (0, 0) _ rfl ?_ Tryz.underlying82 rfl (by kernel_rfl)) rfl ?_
    · exact Blk.here _ _ _ _ (by simp)
    · exact ⟨g1, g2, rfl, t.keep (((Keep.refl _ w).alloc _).alloc _), ((Keep.refl _ w).alloc _).alloc _⟩
  · go_enter Tryz.func173, Tryz.ntmps173
    go_wp2_with fail
    refine (make_any _).mono ?_
    rintro e w1 ⟨g1, g2, rfl, t, n1, n2, k⟩
    have b := (Blk.here (w.alloc (.cells #[.slice none 0 0, .slice none 0 0] 82)) 82 #[.slice none 0 0, .slice none 0 0] (w.heap.size + 1) (by simp)).keep k (by simp)
    have kk := (((Keep.refl (fun _ => False) w).alloc (.cells #[.slice none 0 0, .slice none 0 0] 82)).alloc (.cells #[.slice none 0 0, .slice none 0 0] 82)).trans k (fun _ hi => .inl hi)
    have c0 : w1.cell? ⟨w.heap.size + 1, 0, none⟩ = some (.slice none 0 0) := by rw [b.cell]; rfl
    have c1 : w1.cell? ⟨w.heap.size + 1, 1, none⟩ = some (.slice none 0 0) := by rw [b.cell]; rfl
    have z0 := b.frozen 0
    have z1 := b.frozen 1
    simp at n1 n2
    clear k
    unfold tabV
    go_wp2_with fail
    refine bodyPost_ret (results_cell_row rfl _ _ (w.heap.size + 1) 82 #[.slice (some ⟨g1, 0, none⟩) 1023 1023, .slice (some ⟨g2, 0, none⟩) 1024 1024] (0, 0) _ rfl ?_ Tryz.underlying82 rfl (by kernel_rfl)) rfl ?_
    · exact (b.put 0 (.slice (some ⟨g1, 0, none⟩) 1023 1023)).put 1 (.slice (some ⟨g2, 0, none⟩) 1024 1024)
    · refine ⟨g1, g2, rfl, ⟨(t.e.far (p := ⟨w.heap.size + 1, 0, none⟩) (by show g1 ≠ w.heap.size + 1; omega) _).far (p := ⟨w.heap.size + 1, 1, none⟩) (by show g1 ≠ w.heap.size + 1; omega) _, (t.l.far (p := ⟨w.heap.size + 1, 0, none⟩) (by show g2 ≠ w.heap.size + 1; omega) _).far (p := ⟨w.heap.size + 1, 1, none⟩) (by show g2 ≠ w.heap.size + 1; omega) _⟩, ?_⟩
      exact (kk.setCell (p := ⟨w.heap.size + 1, 0, none⟩) (.inr (by show w.heap.size ≤ w.heap.size + 1; omega)) _).setCell (p := ⟨w.heap.size + 1, 1, none⟩) (.inr (by show w.heap.size ≤ w.heap.size + 1; omega)) _

theorem tab_field0 (a1 a2 : Option Addr) (n1 c1 n2 c2 : Nat) (w : World) : (Instr.field 82 (.agg #[.slice a1 n1 c1, .slice a2 n2 c2]) 0).run Tryz.prog w = .ok (.slice a1 n1 c1) w := by kernel_rfl
theorem tab_field1 (a1 a2 : Option Addr) (n1 c1 n2 c2 : Nat) (w : World) : (Instr.field 82 (.agg #[.slice a1 n1 c1, .slice a2 n2 c2]) 1).run Tryz.prog w = .ok (.slice a2 n2 c2) w := by kernel_rfl
theorem lg_small (a : Nat) : lg a < 1024 := by have := lg_lt a; omega
/-- The two fields of tables. -/
theorem HasT.form {w : World} {V : Value} (h : HasT w V) : ∃ a1 n1 c1 a2 n2 c2, V = .agg #[.slice a1 n1 c1, .slice a2 n2 c2] := by
  rcases h with ⟨g1, g2, rfl, _⟩ | rfl
  · exact ⟨_, _, _, _, _, _, rfl⟩
  · exact ⟨_, _, _, _, _, _, rfl⟩

set_option maxHeartbeats 1000000 in
theorem log_zero (V : Value) (a : Nat) (w : World) (hT : HasT w V) (h0 : a % 1024 = 0) :
    Calls Tryz.prog 174 #[V, .int .u16 a] w fun e w' => e = .returned (.tuple #[.int .i64 0, .bool false]) ∧ Keep (fun _ => False) w w' := by
  obtain ⟨a1, n1, c1, a2, n2, c2, rfl⟩ := hT.form
  have h1 : ((a : Nat) : Int) % 1024 = 0 := by omega
  go_enter Tryz.func174, Tryz.ntmps174
  go_wp2
  go_ret2
  exact ⟨rfl, (Keep.refl _ w).alloc _⟩
set_option maxHeartbeats 1000000 in
theorem log_some (V : Value) (a : Nat) (w : World) (hT : HasT w V) (h0 : a % 1024 ≠ 0) :
    Calls Tryz.prog 174 #[V, .int .u16 a] w fun e w' => e = .returned (.tuple #[.int .i64 (lg (a % 1024)), .bool true]) ∧ Keep (fun _ => False) w w' := by
  have k0 := (Keep.refl (fun _ => False) w)
  obtain ⟨a1, n1, c1, a2, n2, c2, rfl⟩ := hT.form
  have h1 : ¬ ((a : Nat) : Int) % 1024 = 0 := by omega
  have HT := Lib.hid (hT.keep (k0.alloc (.cells #[.slice a1 n1 c1, .slice a2 n2 c2] 82)))
  clear hT
  go_enter Tryz.func174, Tryz.ntmps174
  go_wp2_with fail
  refine (made_any _ _ HT.out).mono ?_
  rintro e w1 ⟨g1, g2, rfl, t, k⟩
  have hlt : a % 1024 < 1024 := by omega
  have c := t.lcell hlt
  have hx : ((a : Nat) : Int) % 1024 < 1024 := by omega
  have hn : (((a : Nat) : Int) % 1024).toNat = a % 1024 := by omega
  have hf := tab_field1 (some ⟨g1, 0, none⟩) (some ⟨g2, 0, none⟩) 1023 1023 1024 1024
  unfold tabV
  go_wp2_with fail
  go_ret2
  exact ⟨rfl, (k0.alloc _).trans k (fun _ hi => .inl hi)⟩

theorem exp_index (n : Int) (j : Nat) (hj : n % 1023 = j) : (wrap64 (n.tmod 1023 + 1023)).tmod 1023 = (j : Int) := by
  have h1 := Int.tmod_lt_of_pos n (show (0 : Int) < 1023 by omega)
  have h2 : -1023 < n.tmod 1023 := by have := Int.lt_tmod_of_pos n (show (0 : Int) < 1023 by omega); omega
  have h3 : wrap64 (n.tmod 1023 + 1023) = n.tmod 1023 + 1023 := by unfold wrap64; omega
  rw [h3, Int.tmod_eq_emod_of_nonneg (by omega), Int.add_emod_right, ← hj]
  rw [Int.tmod_eq_emod]
  split
  · simp
  · rw [Int.sub_emod]
    simp
set_option maxHeartbeats 1000000 in
theorem exp_any (V : Value) (n : Int) (w : World) (hT : HasT w V) :
    Calls Tryz.prog 158 #[V, .int .i64 n] w fun e w' => e = .returned (.int .u16 (ex ((n % 1023).toNat) : Nat)) ∧ Keep (fun _ => False) w w' := by
  have k0 := (Keep.refl (fun _ => False) w)
  obtain ⟨a1, n1, c1, a2, n2, c2, rfl⟩ := hT.form
  have HT := Lib.hid (hT.keep (k0.alloc (.cells #[.slice a1 n1 c1, .slice a2 n2 c2] 82)))
  clear hT
  go_enter Tryz.func158, Tryz.ntmps158
  go_wp2_with fail
  refine (made_any _ _ HT.out).mono ?_
  rintro e w1 ⟨g1, g2, rfl, t, k⟩
  have hf := tab_field0 (some ⟨g1, 0, none⟩) (some ⟨g2, 0, none⟩) 1023 1023 1024 1024
  obtain ⟨j, hj⟩ := Int.eq_ofNat_of_zero_le (Int.emod_nonneg n (show (1023 : Int) ≠ 0 by omega))
  have h1 := Int.emod_lt_of_pos n (show (0 : Int) < 1023 by omega)
  have hjl : j < 1023 := by omega
  have c := t.ecell hjl
  have hji : (j : Int) < 1023 := by omega
  have hw := exp_index n j hj
  have HJ := Lib.hid (show (n % 1023).toNat = j by omega)
  clear hj h1
  unfold tabV
  go_wp2_with fail
  go_ret
  rw [HJ.out]
  exact ⟨rfl, (k0.alloc _).trans k (fun _ hi => .inl hi)⟩
end Go.Proofs.YtdjgjffgheocfaaGreat

namespace Go.Proofs.YtdjgjffgheocfaaGreat
open Go.RowKit

theorem log_any (V : Value) (a : Nat) (w : World) (hT : HasT w V) (x : Bool) (hx : Hid ((a % 1024 != 0) = x)) :
    Calls Tryz.prog 174 #[V, .int .u16 a] w fun e w' => e = .returned (.tuple #[.int .i64 (lg (a % 1024)), .bool x]) ∧ Keep (fun _ => False) w w' := by
  have h := hx.out
  by_cases h0 : a % 1024 = 0
  · have : x = false := by rw [← h]; simp [h0]
    subst this
    rw [h0, lg_zero]
    exact log_zero V a w hT h0
  · have : x = true := by rw [← h]; simp [h0]
    subst this
    exact log_some V a w hT h0

theorem tab_stored {w w1 : World} {g1 g2 : Nat} {x y : Value} (b : Blk w1 w.heap.size 82 #[x, y]) (t : Tab w1 g1 g2) (k : Keep (fun _ => False) w w1) :
    Blk ((w1.setCell ⟨w.heap.size, 0, none⟩ (.slice (some ⟨g1, 0, none⟩) 1023 1023)).setCell ⟨w.heap.size, 1, none⟩ (.slice (some ⟨g2, 0, none⟩) 1024 1024)) w.heap.size 82 #[.slice (some ⟨g1, 0, none⟩) 1023 1023, .slice (some ⟨g2, 0, none⟩) 1024 1024] ∧
    Tab ((w1.setCell ⟨w.heap.size, 0, none⟩ (.slice (some ⟨g1, 0, none⟩) 1023 1023)).setCell ⟨w.heap.size, 1, none⟩ (.slice (some ⟨g2, 0, none⟩) 1024 1024)) g1 g2 ∧
    Keep (fun _ => False) w ((w1.setCell ⟨w.heap.size, 0, none⟩ (.slice (some ⟨g1, 0, none⟩) 1023 1023)).setCell ⟨w.heap.size, 1, none⟩ (.slice (some ⟨g2, 0, none⟩) 1024 1024)) := by
  have n1 := t.e.ne b (by decide)
  have n2 := t.l.ne b (by decide)
  exact ⟨(b.put 0 _).put 1 _, ⟨(t.e.far (p := ⟨w.heap.size, 0, none⟩) n1 _).far (p := ⟨w.heap.size, 1, none⟩) n1 _, (t.l.far (p := ⟨w.heap.size, 0, none⟩) n2 _).far (p := ⟨w.heap.size, 1, none⟩) n2 _⟩,
    (k.setCell (p := ⟨w.heap.size, 0, none⟩) (.inr (Nat.le_refl _)) _).setCell (p := ⟨w.heap.size, 1, none⟩) (.inr (Nat.le_refl _)) _⟩

/-- The two cells of tables in a variable. -/
theorem tab_cells {w : World} {g g1 g2 : Nat} (b : Blk w g 82 #[.slice (some ⟨g1, 0, none⟩) 1023 1023, .slice (some ⟨g2, 0, none⟩) 1024 1024]) :
    w.cell? ⟨g, 0, none⟩ = some (.slice (some ⟨g1, 0, none⟩) 1023 1023) ∧ w.cell? ⟨g, 1, none⟩ = some (.slice (some ⟨g2, 0, none⟩) 1024 1024) := ⟨by rw [b.cell]; rfl, by rw [b.cell]; rfl⟩

theorem gm_logs {a b : Nat} (ha : a % 1024 ≠ 0) (hb : b % 1024 ≠ 0) : ex ((((lg (a % 1024) : Nat) : Int) + ((lg (b % 1024) : Nat) : Int)) % 1023).toNat = gm (a % 1024) (b % 1024) := by
  rw [gm_lg (by omega) (by omega) ha hb]
  congr 1
theorem gi_log {a : Nat} (ha : a % 1024 ≠ 0) : ex ((-((lg (a % 1024) : Nat) : Int)) % 1023).toNat = gi (a % 1024) := by
  unfold gi
  rw [if_neg ha]
  have := lg_lt (a % 1024)
  congr 1
  omega

set_option maxHeartbeats 1000000 in
theorem tmul_any (V : Value) (a b : Nat) (w : World) (hT : HasT w V) :
    Calls Tryz.prog 164 #[V, .int .u16 a, .int .u16 b] w fun e w' => e = .returned (.int .u16 (gm (a % 1024) (b % 1024) : Nat)) ∧ Keep (fun _ => False) w w' := by
  have k0 := (Keep.refl (fun _ => False) w)
  obtain ⟨a1, n1, c1, a2, n2, c2, rfl⟩ := hT.form
  have HT := Lib.hid (hT.keep (k0.alloc (.cells #[.slice a1 n1 c1, .slice a2 n2 c2] 82)))
  clear hT
  obtain ⟨x, hx⟩ : ∃ x, Hid ((a % 1024 != 0) = x) := ⟨_, Lib.hid rfl⟩
  obtain ⟨y, hy⟩ : ∃ y, Hid ((b % 1024 != 0) = y) := ⟨_, Lib.hid rfl⟩
  have la := lg_lt (a % 1024)
  have lb := lg_lt (b % 1024)
  have b0 := Blk.new w 82 #[.slice a1 n1 c1, .slice a2 n2 c2]
  go_enter Tryz.func164, Tryz.ntmps164
  go_wp2_with fail
  refine (made_any _ _ HT.out).mono ?_
  rintro e w1 ⟨g1, g2, rfl, t, k⟩
  have b1 := b0.keep k (by simp)
  have kk := (k0.alloc (.cells #[.slice a1 n1 c1, .slice a2 n2 c2] 82)).trans k (fun _ hi => .inl hi)
  have d0 : w1.cell? ⟨w.heap.size, 0, none⟩ = some (.slice a1 n1 c1) := by rw [b1.cell]; rfl
  have d1 : w1.cell? ⟨w.heap.size, 1, none⟩ = some (.slice a2 n2 c2) := by rw [b1.cell]; rfl
  have z0 := b1.frozen 0
  have z1 := b1.frozen 1
  clear b0 k
  unfold tabV
  go_wp2_with fail
  obtain ⟨b2, t2, k2⟩ := tab_stored b1 t kk
  generalize (w1.setCell ⟨w.heap.size, 0, none⟩ (.slice (some ⟨g1, 0, none⟩) 1023 1023)).setCell ⟨w.heap.size, 1, none⟩ (.slice (some ⟨g2, 0, none⟩) 1024 1024) = w2 at b2 t2 k2 ⊢
  clear d0 d1 z0 z1 b1 t kk
  refine (log_any _ a _ t2.has x hx).mono ?_
  rintro e w3 ⟨rfl, k⟩
  have b3 := b2.keep k (by simp)
  have t3 := t2.keep k
  have k3 := k2.trans k (fun _ hi => .inl hi)
  obtain ⟨d0, d1⟩ := tab_cells b3
  clear b2 t2 k2 k
  go_wp2_with fail
  refine (log_any _ b _ t3.has y hy).mono ?_
  rintro e w4 ⟨rfl, k⟩
  have b4 := b3.keep k (by simp)
  have t4 := t3.keep k
  have k4 := k3.trans k (fun _ hi => .inl hi)
  clear d0 d1
  obtain ⟨d0, d1⟩ := tab_cells b4
  clear b3 t3 k3 k
  rcases x with _ | _
  · have h0 : a % 1024 = 0 := by simpa using hx.out
    have HG := Lib.hid (show gm (a % 1024) (b % 1024) = 0 by rw [h0, gm_zero_left])
    clear h0
    rcases y with _ | _
    all_goals
      go_wp2_with fail
      go_ret
      exact ⟨by rw [HG.out]; rfl, k4⟩
  · rcases y with _ | _
    · have h0 : b % 1024 = 0 := by simpa using hy.out
      have HG := Lib.hid (show gm (a % 1024) (b % 1024) = 0 by rw [h0, gm_zero_right])
      clear h0
      go_wp2_with fail
      go_ret
      exact ⟨by rw [HG.out]; rfl, k4⟩
    · have h0 : a % 1024 ≠ 0 := by simpa using hx.out
      have h1 : b % 1024 ≠ 0 := by simpa using hy.out
      have HG := Lib.hid (gm_logs h0 h1)
      clear h0 h1
      go_wp2_with fail
      refine (exp_any _ _ _ t4.has).mono ?_
      rintro e w5 ⟨rfl, k⟩
      go_wp2_with fail
      go_ret
      exact ⟨by rw [HG.out]; rfl, k4.trans k (fun _ hi => .inl hi)⟩

set_option maxHeartbeats 1000000 in
theorem tinv_any (V : Value) (a : Nat) (w : World) (hT : HasT w V) (x : Bool) (hx : Hid ((a % 1024 != 0) = x)) :
    Calls Tryz.prog 161 #[V, .int .u16 a] w fun e w' => e = .returned (.tuple #[.int .u16 (gi (a % 1024) : Nat), .bool x]) ∧ Keep (fun _ => False) w w' := by
  have k0 := (Keep.refl (fun _ => False) w)
  obtain ⟨a1, n1, c1, a2, n2, c2, rfl⟩ := hT.form
  have HT := Lib.hid (hT.keep (k0.alloc (.cells #[.slice a1 n1 c1, .slice a2 n2 c2] 82)))
  clear hT
  have la := lg_lt (a % 1024)
  have b0 := Blk.new w 82 #[.slice a1 n1 c1, .slice a2 n2 c2]
  go_enter Tryz.func161, Tryz.ntmps161
  go_wp2_with fail
  refine (made_any _ _ HT.out).mono ?_
  rintro e w1 ⟨g1, g2, rfl, t, k⟩
  have b1 := b0.keep k (by simp)
  have kk := (k0.alloc (.cells #[.slice a1 n1 c1, .slice a2 n2 c2] 82)).trans k (fun _ hi => .inl hi)
  have d0 : w1.cell? ⟨w.heap.size, 0, none⟩ = some (.slice a1 n1 c1) := by rw [b1.cell]; rfl
  have d1 : w1.cell? ⟨w.heap.size, 1, none⟩ = some (.slice a2 n2 c2) := by rw [b1.cell]; rfl
  have z0 := b1.frozen 0
  have z1 := b1.frozen 1
  clear b0 k
  unfold tabV
  go_wp2_with fail
  obtain ⟨b2, t2, k2⟩ := tab_stored b1 t kk
  generalize (w1.setCell ⟨w.heap.size, 0, none⟩ (.slice (some ⟨g1, 0, none⟩) 1023 1023)).setCell ⟨w.heap.size, 1, none⟩ (.slice (some ⟨g2, 0, none⟩) 1024 1024) = w2 at b2 t2 k2 ⊢
  clear d0 d1 z0 z1 b1 t kk
  refine (log_any _ a _ t2.has x hx).mono ?_
  rintro e w3 ⟨rfl, k⟩
  have b3 := b2.keep k (by simp)
  have t3 := t2.keep k
  have k3 := k2.trans k (fun _ hi => .inl hi)
  obtain ⟨d0, d1⟩ := tab_cells b3
  clear b2 t2 k2 k
  rcases x with _ | _
  · have h0 : a % 1024 = 0 := by simpa using hx.out
    have HG := Lib.hid (show gi (a % 1024) = 0 by rw [h0, gi_zero])
    clear h0
    go_wp2_with fail
    go_ret2
    exact ⟨by rw [HG.out]; rfl, k3⟩
  · have h0 : a % 1024 ≠ 0 := by simpa using hx.out
    have HG := Lib.hid (gi_log h0)
    clear h0
    go_wp2_with fail
    refine (exp_any _ _ _ t3.has).mono ?_
    rintro e w5 ⟨rfl, k⟩
    go_wp2_with fail
    go_ret2
    exact ⟨by rw [HG.out]; rfl, k3.trans k (fun _ hi => .inl hi)⟩
end Go.Proofs.YtdjgjffgheocfaaGreat

namespace Go.Proofs.YtdjgjffgheocfaaGreat
open Go.RowKit

set_option maxHeartbeats 2000000 in
set_option maxRecDepth 100000 in
theorem trim_any (a : Option Addr) (n c : Nat) (p : Nat → Nat) (w : World) (ha : ArgU w a n p) (hn : n ≤ 1000000) (hc : n ≤ c) :
    Calls Tryz.prog 175 #[.slice a n c] w fun e w' => ∃ a' m, e = .returned (.slice a' m m) ∧ ResU w' w.heap.size a' m (cut p n) ∧ IsPol (cut p n) m ∧ m ≤ n ∧ Keep (fun _ => False) w w' := by
  have HA := Lib.hid ha
  have hc' : (n : Int) ≤ (c : Int) := by omega
  clear ha
  go_enter Tryz.func175, Tryz.ntmps175
  go_upto_block 0 with (fail)
  go_cut [3] (fun v wc => ∃ k : Nat, k ≤ n ∧ v = .int .i64 k ∧ w = wc ∧ Hid (IsPol (cut p n) k))
  case first =>
    go_wp2
    go_loop [3] (fun v => ∃ k : Nat, k ≤ n ∧ v = .int .i64 k ∧ Hid (∀ i, k ≤ i → cut p n i = 0)) (fun v => (intOf v).toNat)
    case atStart => exact ⟨n, Nat.le_refl _, rfl, Lib.hid fun i hi => cut_zero p hi⟩
    case round =>
      obtain ⟨k, hk, rfl, HZ⟩ := hrel
      by_cases h0 : k = 0
      · subst h0
        go_wp2
        go_meet
        case rel => exact ⟨0, by omega, by rfl, rfl, Lib.hid ⟨cut_lt p n, HZ.out, fun h => by omega⟩⟩
      · obtain ⟨b, off, rfl, hb, hcell⟩ := HA.out.at_ (by omega)
        obtain ⟨j, rfl⟩ : ∃ j, k = j + 1 := ⟨k - 1, by omega⟩
        have hj := hcell j (by omega)
        have e1 : cut p n j = p j % 1024 := cut_in p (by omega)
        have h3 : (((j + 1 : Nat) : Int) - 1) = (j : Int) := by omega
        clear hcell h0
        by_cases hz : p j % 1024 = 0
        · have HE := Lib.hid (e1.trans hz)
          have hb1 : (((p j : Nat) : Int) % 1024 == 0) = true := by simp; omega
          have hb2 : (((p j : Nat) : Int) % 1024) = 0 := by omega
          clear e1 hz
          go_wp2
          exact ⟨⟨j, by omega, rfl, Lib.hid fun i hi => by
            by_cases e : i = j
            · rw [e]; exact HE.out
            · exact HZ.out i (by omega)⟩, by simp [intOf]⟩
        · have HE := Lib.hid (fun h => hz (e1.symm.trans h) : cut p n j ≠ 0)
          have hb1 : (((p j : Nat) : Int) % 1024 == 0) = false := by simp; omega
          have hb2 : ¬ (((p j : Nat) : Int) % 1024) = 0 := by omega
          clear e1 hz
          go_wp2
          go_meet
          case rel => exact ⟨j + 1, by omega, by rfl, rfl, Lib.hid ⟨cut_lt p n, HZ.out, fun _ => HE.out⟩⟩
  case rest =>
    obtain ⟨k, hk0, rfl, hw, HP⟩ := hcut
    subst hw
    by_cases h0 : k = 0
    · subst h0
      go_wp2
      go_ret
      exact ⟨none, 0, rfl, .inl ⟨rfl, rfl⟩, HP.out, by omega, Keep.refl _ _⟩
    · obtain ⟨b, off, rfl, hb, hcell⟩ := HA.out.at_ (by omega)
      have hm := make_u k k rfl (by omega)
      have h1 : ¬ ((k : Int) = 0) := by omega
      have h2 : (k : Int) ≤ (c : Int) := by omega
      go_wp2
      clear hm
      go_loopw [30] (fun v wr => ∃ j : Nat, j ≤ k ∧ v = .int .i64 j ∧ Blk wr w.heap.size 148 (uArr (fun i => if i < j then p i % 1024 else 0) k) ∧ Keep (fun _ => False) w wr) (fun v _ => k - (intOf v).toNat)
      case atStart =>
        refine ⟨0, Nat.zero_le _, rfl, ?_, (Keep.refl _ _).alloc _⟩
        have := Blk.new w 148 (uArr (fun _ => 0) k)
        simpa using this
      case round =>
        obtain ⟨j, hj, rfl, hB, hk⟩ := hrel
        by_cases hjk : j < k
        · have hs := hk.size
          have hc1 := (hk.cell (p := ⟨b, off + j, none⟩) hb (by simp)).trans (hcell j (by omega))
          have hc2 := hB.val hjk
          have hz := hB.frozen j
          have hjk' : (j : Int) < (k : Int) := by omega
          have hjc : (j : Int) < (c : Int) := by omega
          clear hcell
          go_wp2
          go_roundw
          case rel =>
            refine ⟨j + 1, by omega, by go_num, ?_, hk.setCell (p := ⟨w.heap.size, j, none⟩) (.inr (Nat.le_refl _)) _⟩
            exact hB.storeU j (p j % 1024) (fun i hi => by
              by_cases e : i = j
              · subst e; simp
              · by_cases e2 : i < j
                · simp [e, e2, show i < j + 1 by omega]
                · simp [e, e2, show ¬ i < j + 1 by omega])
          case measure => simp [intOf]; omega
        · have hjk' : ¬ (j : Int) < (k : Int) := by omega
          clear hcell
          go_wp2
          go_ret
          refine ⟨some ⟨w.heap.size, 0, none⟩, k, rfl, .inr ⟨_, rfl, Nat.le_refl _, ?_⟩, HP.out, hk0, hk⟩
          rw [uArr_congr (g := fun i => if i < j then p i % 1024 else 0)]
          · exact hB
          · intro i hi
            simp [cut, show i < n by omega, show i < j by omega]
end Go.Proofs.YtdjgjffgheocfaaGreat

namespace Go.Proofs.YtdjgjffgheocfaaGreat
open Go.RowKit

theorem Keep.toBelow {w w' : World} (h : Keep (fun _ => False) w w') : Below w.heap.size w w' := h.below (fun _ hi => hi.elim) (Nat.le_refl _)
def uList (p : Nat → Nat) (n : Nat) : List Value := (List.range n).map fun i => Value.int .u16 (p i)
theorem uList_get (p : Nat → Nat) (n j : Nat) : (uList p n)[j]? = if j < n then some (.int .u16 (p j)) else none := by
  unfold uList
  by_cases h : j < n
  · simp [h]
  · simp [h]
theorem uArr_get (p : Nat → Nat) (n j : Nat) : (uArr p n)[j]? = if j < n then some (.int .u16 (p j)) else none := by
  by_cases h : j < n
  · rw [if_pos h]; exact valsArr_get _ _ _ h
  · rw [if_neg h]; exact Array.getElem?_eq_none (by rw [uArr, valsArr_size]; omega)
theorem splice_u (p q : Nat → Nat) (m n : Nat) (h : n ≤ m) : (splice (uArr p m).toList 0 (uList q n)).toArray = uArr (fun i => if i < n then q i else p i) m := by
  apply Array.ext_getElem?
  intro j
  rw [List.getElem?_toArray, uArr_get]
  have hl : (uList q n).length = n := by simp [uList]
  unfold splice
  simp only [List.take_zero, List.nil_append, Nat.zero_add, hl]
  by_cases hj : j < n
  · rw [List.getElem?_append_left (by omega), uList_get, if_pos hj, if_pos (by omega), if_pos hj]
  · rw [List.getElem?_append_right (by omega), hl, List.getElem?_drop, Array.getElem?_toList, uArr_get, show n + (j - n) = j by omega]
    simp [hj]

theorem wpList_copy_u {w : World} {ops : Array Oper} {rest : List Oper} {o : Oper} {a : Act} {Q : Exit → Act → World → Prop} (hgd : o.guard = none) (d s : Operand)
    (ho : o.op = .call { callee := .builtin .copy, args := #[d, s], argTypes := #[80, 80] })
    (g m : Nat) (sp : Option Addr) (n c : Nat) (hd : a.eval d = .slice (some ⟨g, 0, none⟩) m m) (hs : a.eval s = .slice sp n c) (f p : Nat → Nat) (hb : Blk w g 148 (uArr f m)) (hp : ArgU w sp n p) (hnm : n ≤ m)
    (W : World) (hk : Keep (fun _ => False) W w) (hW : W.heap.size ≤ g)
    (h : ∀ w', Blk w' g 148 (uArr (fun i => if i < n then p i else f i) m) → Keep (fun _ => False) W w' → wpList Tryz.prog ops Q rest (a.put o.dst (goInt n)) w') :
    wpList Tryz.prog ops Q (o :: rest) a w := by
  have hl : (uList p n).length = n := by simp [uList]
  have hc : (uArr f m).toList.length = m := by simp [uArr, valsArr]
  refine wpList_copy_splice hgd d s 80 80 ho 148 Tryz.underlying80 (by kernel_rfl) (some ⟨g, 0, none⟩) sp m m n c hd hs g 0 (uArr f m).toList 148 (by rw [Array.toArray_toList]; exact hb) (uList p n) (by rw [hl]; exact (Nat.min_eq_left hnm).symm) ?_ (by rw [hl, hc]; omega) ?_ W.heap.size W hk.toBelow hW ?_
  · intro h0
    rw [hl] at h0
    obtain ⟨b, off, rfl, _, hcell⟩ := hp.at_ h0
    refine ⟨rfl, _, rfl, fun j v hj => ?_⟩
    rw [uList_get] at hj
    split at hj
    · rename_i hjn
      have hv := hcell j hjn
      have e : Addr.add ⟨b, off, none⟩ j = ⟨b, off + j, none⟩ := by
        unfold Addr.add
        split
        · rename_i h1; subst h1; rfl
        · rfl
      rw [e, hv]
      exact hj
    · cases hj
  · intro v hv
    simp only [uList, List.mem_map] at hv
    obtain ⟨i, _, rfl⟩ := hv
    rfl
  · intro w' hb' hk'
    have h1 := hb'.out
    rw [splice_u f p m n hnm] at h1
    have := h w' h1 (Keep.ofBelow hk')
    rwa [hl]

def addMid (p q : Nat → Nat) (na j : Nat) : Nat → Nat := fun i => if i < j then ((if i < na then p i else 0) ^^^ q i) % 1024 else if i < na then p i else 0
theorem addMid_next (p q : Nat → Nat) (na j i : Nat) : addMid p q na (j + 1) i = if i = j then (addMid p q na j j ^^^ q j) % 1024 else addMid p q na j i := by
  unfold addMid
  by_cases e : i = j
  · subst e; simp
  · by_cases e2 : i < j
    · simp [e, e2, show i < j + 1 by omega]
    · simp [e, e2, show ¬ i < j + 1 by omega]
theorem addMid_cut (p q : Nat → Nat) (na nb m : Nat) (ha : na ≤ m) (hb : nb ≤ m) : cut (addMid p q na nb) m = padd (cut p na) (cut q nb) := by
  funext i
  unfold cut addMid padd
  by_cases h : i < m
  · by_cases h1 : i < nb <;> by_cases h2 : i < na <;> simp [h, h1, h2, xor_mod]
  · simp [h, show ¬ i < na by omega, show ¬ i < nb by omega]

set_option maxHeartbeats 2000000 in
set_option maxRecDepth 100000 in
theorem add_any (a b : Option Addr) (na nb ca cb : Nat) (p q : Nat → Nat) (w : World) (ha : ArgU w a na p) (hb : ArgU w b nb q) (hna : na ≤ 1000000) (hnb : nb ≤ 1000000) :
    Calls Tryz.prog 162 #[.slice a na ca, .slice b nb cb] w fun e w' => ∃ a' m, e = .returned (.slice a' m m) ∧ ResU w' w.heap.size a' m (padd (cut p na) (cut q nb)) ∧ IsPol (padd (cut p na) (cut q nb)) m ∧ m ≤ max na nb ∧ Keep (fun _ => False) w w' := by
  have HA := Lib.hid ha
  have HB := Lib.hid hb
  obtain ⟨m, hm⟩ : ∃ m, m = max na nb := ⟨_, rfl⟩
  have hma : na ≤ m := by omega
  have hmb : nb ≤ m := by omega
  have hml : m ≤ 1000000 := by omega
  have HM := Lib.hid (show m ≤ max na nb by omega)
  have HC := Lib.hid (addMid_cut p q na nb m hma hmb)
  have hmk := make_u m m rfl (by omega)
  have hmx : (if na < nb then (nb : Int) else (na : Int)) = (m : Int) := by split <;> omega
  have k0 := (Keep.refl (fun _ => False) w).alloc (.cells (uArr (fun _ => 0) m) 148)
  have b0 := Blk.new w 148 (uArr (fun _ => 0) m)
  have ha1 := ha.keep k0
  clear ha hb hm
  go_enter Tryz.func162, Tryz.ntmps162
  go_wp2_with (with_reducible refine wpList_copy_u rfl (.tmp 14) (.tmp 15) rfl w.heap.size _ _ _ _ rfl rfl _ p b0 ha1 hma w k0 (Nat.le_refl _) ?_)
  intro w1 b1 k1
  clear ha1 b0 k0 hmk hmx
  go_wp2_with fail
  go_loopw [19] (fun v wr => ∃ j : Nat, j ≤ nb ∧ v = .int .i64 j ∧ Blk wr w.heap.size 148 (uArr (addMid p q na j) m) ∧ Keep (fun _ => False) w wr) (fun v _ => nb - (intOf v).toNat)
  case atStart =>
    refine ⟨0, by omega, rfl, ?_, k1⟩
    rw [uArr_congr (g := fun i => if i < na then p i else 0) (fun i hi => by simp [addMid])]
    exact b1
  case round =>
    clear b1 k1
    obtain ⟨j, hj, rfl, hR, hk⟩ := hrel
    have hs := hk.size
    have hgs := hR.lt
    by_cases hjn : j < nb
    · have hjm : j < m := by omega
      obtain ⟨bb, off, rfl, hb, hcell⟩ := HB.out.at_ (by omega)
      have hc1 := (hk.cell (p := ⟨bb, off + j, none⟩) hb (by simp)).trans (hcell j hjn)
      have hc2 := hR.val hjm
      have hz := hR.frozen j
      have hjn' : (j : Int) < (nb : Int) := by omega
      have hjm' : (j : Int) < (m : Int) := by omega
      have hq := HB.out.lt j hjn
      have hp : addMid p q na j j < 65536 := by
        have hpa := HA.out.lt j
        unfold addMid
        simp only [Nat.lt_irrefl, if_false]
        split
        · exact hpa ‹_›
        · omega
      have HN := Lib.hid (hR.storeU j ((addMid p q na j j ^^^ q j) % 1024) (f' := addMid p q na (j + 1)) (fun i _ => addMid_next p q na j i))
      clear hcell
      go_wp2_with fail
      refine (fadd_any _ _ _ hp hq).mono ?_
      rintro e w2 ⟨rfl, rfl⟩
      go_wp2_with fail
      go_roundw
      case rel => exact ⟨j + 1, by omega, by go_num, HN.out, hk.setCell (p := ⟨w.heap.size, j, none⟩) (.inr (Nat.le_refl _)) _⟩
      case measure => simp [intOf]; omega
    · obtain rfl : j = nb := by omega
      have hjn' : ¬ (j : Int) < (j : Int) := by omega
      have hp16 : ∀ i, i < m → addMid p q na j i < 65536 := fun i _ => by
        have hpa := HA.out.lt i
        unfold addMid
        split
        · omega
        · split
          · exact hpa ‹_›
          · omega
      have HR := Lib.hid (hR.argU (by omega) hp16)
      clear hp16
      go_wp2_with fail
      refine (trim_any _ _ _ _ _ HR.out (by omega) (Nat.le_refl _)).mono ?_
      rintro e w2 ⟨a', m', rfl, hres, hpol, hle, k2⟩
      rw [HC.out] at hres hpol
      go_wp2_with fail
      go_ret
      exact ⟨a', m', rfl, hres.more hs, hpol, by have := HM.out; omega, hk.trans k2 (fun _ hi => .inl hi)⟩
end Go.Proofs.YtdjgjffgheocfaaGreat

namespace Go.Proofs.YtdjgjffgheocfaaGreat
open Go.RowKit

def slopeMid (p : Nat → Nat) (j : Nat) : Nat → Nat := fun i => if i < j ∧ i % 2 = 0 then p (i + 1) else 0
theorem slopeMid_even (p : Nat → Nat) {j : Nat} (h : j % 2 = 0) (i : Nat) : slopeMid p (j + 1) i = if i = j then p (j + 1) else slopeMid p j i := by
  unfold slopeMid
  by_cases e : i = j
  · subst e; simp [h]
  · by_cases e2 : i < j
    · simp [e, e2, show i < j + 1 by omega]
    · simp [e, e2, show ¬ i < j + 1 by omega]
theorem slopeMid_odd (p : Nat → Nat) {j : Nat} (h : ¬ j % 2 = 0) : slopeMid p (j + 1) = slopeMid p j := by
  funext i
  unfold slopeMid
  by_cases e : i = j
  · subst e; simp [h]
  · by_cases e2 : i < j
    · simp [e2, show i < j + 1 by omega]
    · simp [e2, show ¬ i < j + 1 by omega]
theorem slope_cut (p : Nat → Nat) (n : Nat) : cut (slopeMid p (n - 1)) (n - 1) = pslope (cut p n) := by
  funext i
  unfold cut slopeMid pslope
  by_cases h : i < n - 1
  · by_cases h2 : i % 2 = 0
    · simp [h, h2, show i + 1 < n by omega]
    · simp [h, h2]
  · simp [h, show ¬ i + 1 < n by omega]

set_option maxHeartbeats 2000000 in
set_option maxRecDepth 100000 in
theorem slope_any (a : Option Addr) (n c : Nat) (p : Nat → Nat) (w : World) (ha : ArgU w a n p) (hn : n ≤ 1000000) :
    Calls Tryz.prog 166 #[.slice a n c] w fun e w' => ∃ a' m, e = .returned (.slice a' m m) ∧ ResU w' w.heap.size a' m (pslope (cut p n)) ∧ IsPol (pslope (cut p n)) m ∧ m ≤ n - 1 ∧ Keep (fun _ => False) w w' := by
  have HA := Lib.hid ha
  have HC := Lib.hid (slope_cut p n)
  clear ha
  by_cases h0 : n = 0
  · subst h0
    go_enter Tryz.func166, Tryz.ntmps166
    go_wp2
    go_ret
    exact ⟨none, 0, rfl, .inl ⟨rfl, rfl⟩, ⟨fun i => by unfold pslope; split <;> first | exact cut_lt _ _ _ | omega, fun i _ => by simp [pslope, cut], fun h => by omega⟩, by omega, Keep.refl _ _⟩
  · obtain ⟨m, rfl⟩ : ∃ m, n = m + 1 := ⟨n - 1, by omega⟩
    have hmk := make_u m m rfl (by omega)
    have h1 : ¬ (((m + 1 : Nat) : Int)) = 0 := by omega
    go_enter Tryz.func166, Tryz.ntmps166
    go_wp2_with fail
    clear hmk
    go_loopw [14] (fun v wr => ∃ j : Nat, j ≤ m ∧ v = .int .i64 j ∧ Blk wr w.heap.size 148 (uArr (slopeMid p j) m) ∧ Keep (fun _ => False) w wr) (fun v _ => m - (intOf v).toNat)
    case atStart =>
      refine ⟨0, by omega, rfl, ?_, (Keep.refl _ _).alloc _⟩
      have := Blk.new w 148 (uArr (fun _ => 0) m)
      rwa [uArr_congr (g := slopeMid p 0) (fun i hi => by simp [slopeMid])] at this
    case round =>
      obtain ⟨j, hj, rfl, hR, hk⟩ := hrel
      have hs := hk.size
      by_cases hjm : j < m
      · have hjm' : (j : Int) < (m : Int) := by omega
        by_cases h2 : j % 2 = 0
        · obtain ⟨bb, off, rfl, hb, hcell⟩ := HA.out.at_ (by omega)
          have hc1 := (hk.cell (p := ⟨bb, off + (j + 1), none⟩) hb (by simp)).trans (hcell (j + 1) (by omega))
          have hc2 := hR.val hjm
          have hz := hR.frozen j
          have h3 : (j : Int) % 2 = 0 := by omega
          have h4 : (j : Int) + 1 < ((m + 1 : Nat) : Int) := by omega
          have h5 : (((j : Int) + 1)).toNat = j + 1 := by omega
          have HN := Lib.hid (hR.storeU j (p (j + 1)) (f' := slopeMid p (j + 1)) (fun i _ => slopeMid_even p h2 i))
          clear hcell
          go_wp2_with fail
          go_roundw
          case rel => exact ⟨j + 1, by omega, by go_num, HN.out, hk.setCell (p := ⟨w.heap.size, j, none⟩) (.inr (Nat.le_refl _)) _⟩
          case measure => simp [intOf]; omega
        · have h3 : ¬ (j : Int) % 2 = 0 := by omega
          have HN := Lib.hid (slopeMid_odd p h2)
          go_wp2_with fail
          go_roundw
          case rel => exact ⟨j + 1, by omega, by go_num, by rw [HN.out]; exact hR, hk⟩
          case measure => simp [intOf]; omega
      · obtain rfl : j = m := by omega
        have hp16 : ∀ i, i < j → slopeMid p j i < 65536 := fun i hi => by
          have hpa := HA.out.lt (i + 1) (by omega)
          unfold slopeMid
          split
          · exact hpa
          · omega
        have HR := Lib.hid (hR.argU (by omega) hp16)
        clear hp16
        go_wp2_with fail
        refine (trim_any _ _ _ _ _ HR.out (by omega) (Nat.le_refl _)).mono ?_
        rintro e w2 ⟨a', m', rfl, hres, hpol, hle, k2⟩
        have hc := HC.out
        rw [Nat.add_sub_cancel] at hc
        rw [hc] at hres hpol
        clear hc
        go_wp2_with fail
        go_ret
        exact ⟨a', m', rfl, hres.more hs, hpol, by omega, hk.trans k2 (fun _ hi => .inl hi)⟩
end Go.Proofs.YtdjgjffgheocfaaGreat

namespace Go.Proofs.YtdjgjffgheocfaaGreat
open Go.RowKit
attribute [local go_sem ↓] Go.wp_at_zero Go.wp_at_succ

theorem tmul_lt (V : Value) (a b : Nat) (w : World) (hT : HasT w V) (ha : a < 1024) (hb : b < 1024) :
    Calls Tryz.prog 164 #[V, .int .u16 a, .int .u16 b] w fun e w' => e = .returned (.int .u16 (gm a b : Nat)) ∧ Keep (fun _ => False) w w' := by
  have := tmul_any V a b w hT
  rwa [Nat.mod_eq_of_lt ha, Nat.mod_eq_of_lt hb] at this
theorem fadd_lt (a b : Nat) (w : World) (ha : a < 1024) (hb : b < 1024) :
    Calls Tryz.prog 167 #[.int .u16 a, .int .u16 b] w fun e w' => e = .returned (.int .u16 (a ^^^ b : Nat)) ∧ w = w' := by
  have := fadd_any a b w (by omega) (by omega)
  rwa [Nat.mod_eq_of_lt (xor_lt ha hb)] at this

theorem fadd_kept (a b : Nat) (w : World) (ha : a < 1024) (hb : b < 1024) :
    Calls Tryz.prog 167 #[.int .u16 a, .int .u16 b] w fun e w' => e = .returned (.int .u16 (a ^^^ b : Nat)) ∧ Keep (fun _ => False) w w' :=
  (fadd_lt a b w ha hb).mono fun _ _ ⟨he, hw⟩ => ⟨he, by subst hw; exact Keep.refl _ _⟩

theorem pol_none : IsPol (fun _ => 0) 0 := ⟨fun _ => by omega, fun _ _ => rfl, fun h => by omega⟩
/-- The product of what two rows say; none, if it is too long. -/
def pmulM (f : Nat → Nat) (la : Nat) (g : Nat → Nat) (lb : Nat) : Nat → Nat := if la = 0 ∨ lb = 0 ∨ 4097 < la + lb then fun _ => 0 else pmul f g
def mulMid (f g : Nat → Nat) (i j : Nat) : Nat → Nat := fun k => pacc f g i k ^^^ (if i ≤ k ∧ k < i + j then gm (f i) (g (k - i)) else 0)
theorem mulMid_lt {f g : Nat → Nat} (hf : ∀ i, f i < 1024) (i j k : Nat) : mulMid f g i j k < 1024 := by
  refine xor_lt (pacc_lt hf i k) ?_
  split
  · exact gm_lt (hf i) _
  · omega
theorem mulMid_start (f g : Nat → Nat) (i : Nat) : mulMid f g i 0 = fun k => pacc f g i k := by
  funext k
  unfold mulMid
  rw [if_neg (by omega), Nat.xor_zero]
theorem mulMid_next (f g : Nat → Nat) (i j k : Nat) : mulMid f g i (j + 1) k = if k = i + j then mulMid f g i j (i + j) ^^^ gm (f i) (g j) else mulMid f g i j k := by
  unfold mulMid
  by_cases e : k = i + j
  · subst e
    rw [if_pos ⟨by omega, by omega⟩, if_pos rfl, if_neg (by omega), Nat.xor_zero, Nat.add_sub_cancel_left]
  · rw [if_neg e]
    by_cases h : i ≤ k ∧ k < i + j
    · rw [if_pos h, if_pos ⟨h.1, by omega⟩]
    · rw [if_neg h, if_neg (by omega)]
theorem mulMid_row {f g : Nat → Nat} {lb : Nat} (hg : ∀ i, lb ≤ i → g i = 0) (i : Nat) : mulMid f g i lb = fun k => pacc f g (i + 1) k := by
  funext k
  unfold mulMid pacc
  rw [xs]
  congr 1
  by_cases h : i ≤ k
  · rw [if_pos h]
    by_cases h2 : k < i + lb
    · rw [if_pos ⟨h, h2⟩]
    · rw [if_neg (by omega), hg (k - i) (by omega), gm_zero_right]
  · rw [if_neg h, if_neg (by omega)]

set_option maxHeartbeats 4000000 in
set_option maxRecDepth 100000 in
theorem mul_any (V : Value) (a b : Option Addr) (na nb ca cb : Nat) (p q : Nat → Nat) (la lb : Nat) (hla : IsPol (cut p na) la) (hlb : IsPol (cut q nb) lb) (w : World) (hT : HasT w V) (ha : ArgU w a na p) (hb : ArgU w b nb q)
    (hna : na ≤ 1000000) (hnb : nb ≤ 1000000) (hca : na ≤ ca) (hcb : nb ≤ cb) :
    Calls Tryz.prog 165 #[V, .slice a na ca, .slice b nb cb] w fun e w' => ∃ a' m, e = .returned (.slice a' m m) ∧ ResU w' w.heap.size a' m (pmulM (cut p na) la (cut q nb) lb) ∧
      IsPol (pmulM (cut p na) la (cut q nb) lb) m ∧ m ≤ 4096 ∧ Keep (fun _ => False) w w' := by
  have k0 := Keep.refl (fun _ => False) w
  obtain ⟨a1, n1, c1, a2, n2, c2, rfl⟩ := hT.form
  have b0 := Blk.new w 82 #[.slice a1 n1 c1, .slice a2 n2 c2]
  have k1 := k0.alloc (.cells #[.slice a1 n1 c1, .slice a2 n2 c2] 82)
  have HT := Lib.hid (hT.keep k1)
  have HA := Lib.hid (ha.keep k1)
  have HB := Lib.hid (hb.keep k1)
  have hla0 := Lib.hid hla
  have hlb0 := Lib.hid hlb
  clear hT ha hb k0 hla hlb
  go_enter Tryz.func165, Tryz.ntmps165
  go_wp2_with fail
  refine (trim_any _ _ _ _ _ HA.out hna hca).mono ?_
  rintro e w1 ⟨aA, la', rfl, rA, pA, lA, k2⟩
  obtain rfl := hla0.out.uniq pA
  have T1 := Lib.hid (HT.out.keep k2)
  have B1 := Lib.hid (HB.out.keep k2)
  have b1 := b0.keep k2 (by simp)
  have kk1 := k1.trans k2 (fun _ hi => .inl hi)
  clear HT HB HA b0 k1 k2
  go_wp2_with fail
  refine (trim_any _ _ _ _ _ B1.out hnb hcb).mono ?_
  rintro e w2 ⟨aB, lb', rfl, rB, pB, lB, k2⟩
  obtain rfl := hlb0.out.uniq pB
  have T2 := Lib.hid (T1.out.keep k2)
  have HA := Lib.hid ((rA.keep k2).arg (by omega) pA.lt16)
  have HB := Lib.hid (rB.arg (by omega) pB.lt16)
  have b2 := b1.keep k2 (by simp)
  have kk2 := kk1.trans k2 (fun _ hi => .inl hi)
  have hfl := Lib.hid pA.lt
  have hgl := Lib.hid pB.lt
  have hfz := Lib.hid pA.zero
  have hgz := Lib.hid pB.zero
  clear T1 B1 b1 kk1 k2 rA rB pA pB hla0 hlb0
  by_cases c0 : la = 0
  · have HM := Lib.hid (show pmulM (cut p na) la (cut q nb) lb = fun _ => 0 by simp [pmulM, c0])
    subst c0
    go_wp2_with fail
    go_ret
    rw [HM.out]
    exact ⟨none, 0, rfl, .inl ⟨rfl, rfl⟩, pol_none, by omega, kk2⟩
  · by_cases c1 : lb = 0
    · have HM := Lib.hid (show pmulM (cut p na) la (cut q nb) lb = fun _ => 0 by simp [pmulM, c1])
      subst c1
      have d0 : ((la : Int) == 0) = false := beq_eq_false_iff_ne.2 (by omega)
      go_wp2_with fail
      go_ret
      rw [HM.out]
      exact ⟨none, 0, rfl, .inl ⟨rfl, rfl⟩, pol_none, by omega, kk2⟩
    · by_cases c2 : 4097 < la + lb
      · have HM := Lib.hid (show pmulM (cut p na) la (cut q nb) lb = fun _ => 0 by simp [pmulM, c2])
        have d0 : ((la : Int) == 0) = false := beq_eq_false_iff_ne.2 (by omega)
        have d1 : ((lb : Int) == 0) = false := beq_eq_false_iff_ne.2 (by omega)
        have d4 : decide ((4096 : Int) < (la : Int) + (lb : Int) - 1) = true := by simp; omega
        clear c0 c1 c2
        go_wp2_with fail
        go_ret
        rw [HM.out]
        exact ⟨none, 0, rfl, .inl ⟨rfl, rfl⟩, pol_none, by omega, kk2⟩
      · have HM := Lib.hid (show pmulM (cut p na) la (cut q nb) lb = pmul (cut p na) (cut q nb) by simp [pmulM, c0, c1, c2])
        obtain ⟨m, hm⟩ : ∃ m, la + lb = m + 1 := ⟨la + lb - 1, by omega⟩
        have d0 : ((la : Int) == 0) = false := beq_eq_false_iff_ne.2 (by omega)
        have d1 : ((lb : Int) == 0) = false := beq_eq_false_iff_ne.2 (by omega)
        have d2 : (la : Int) + (lb : Int) - 1 = (m : Int) := by omega
        have d4 : decide ((4096 : Int) < (m : Int)) = false := by simp; omega
        have hmk := make_u m m rfl (by omega)
        have hm2 : m ≤ 4096 := by omega
        generalize hf : cut p na = f at *
        generalize hg : cut q nb = g at *
        clear c0 c1 c2
        have bo := Blk.new w2 148 (uArr (fun _ => 0) m)
        have k3 := (Keep.refl (fun _ => False) w2).alloc (.cells (uArr (fun _ => 0) m) 148)
        go_wp2_with fail
        clear d0 d1 d4 hmk
        go_loopw [42] (fun v wr => ∃ i : Nat, i ≤ la ∧ v = .int .i64 i ∧ Blk wr w2.heap.size 148 (uArr (fun k => pacc f g i k) m) ∧ Keep (fun _ => False) w2 wr) (fun v _ => la - (intOf v).toNat)
        case atStart =>
          refine ⟨0, by omega, rfl, ?_, k3⟩
          rwa [uArr_congr (g := fun k => pacc f g 0 k) (fun i hi => by simp [pacc, xs])] at bo
        case round =>
          clear bo k3
          obtain ⟨i, hi, rfl, hR, hk⟩ := hrel
          by_cases hil : i < la
          · have hil' : (i : Int) < (la : Int) := by omega
            obtain ⟨bA, oA, rfl, hbA, hcA⟩ := HA.out.at_ (by omega)
            have hxi := (hk.cell (p := ⟨bA, oA + i, none⟩) hbA (by simp)).trans (hcA i hil)
            clear hcA
            go_wp2_with fail
            clear hxi
            obtain ⟨wo, hwo⟩ : ∃ wo : World, wo = wr := ⟨_, rfl⟩
            go_loopw [49] (fun v wr => ∃ j : Nat, j ≤ lb ∧ v = .int .i64 j ∧ Blk wr w2.heap.size 148 (uArr (mulMid f g i j) m) ∧ Keep (fun _ => False) w2 wr) (fun v _ => lb - (intOf v).toNat)
            case atStart =>
              refine ⟨0, by omega, rfl, ?_, hk⟩
              rw [mulMid_start]
              exact hR
            case round =>
              clear hR hk hwo
              obtain ⟨j, hj, rfl, hR, hk⟩ := hrel
              have hs := hk.size
              by_cases hjl : j < lb
              · have hjl' : (j : Int) < (lb : Int) := by omega
                obtain ⟨bB, oB, rfl, hbB, hcB⟩ := HB.out.at_ (by omega)
                have hyj := (hk.cell (p := ⟨bB, oB + j, none⟩) hbB (by simp)).trans (hcB j hjl)
                have hijm : i + j < m := by omega
                have hout := hR.val hijm
                have hz := hR.frozen (i + j)
                have hfi := hfl.out i
                have hgj := hgl.out j
                have hml := mulMid_lt (g := g) hfl.out i j (i + j)
                have b3 := b2.keep hk (by simp)
                have q0 : ∀ p : KeptBy wr, p.v.cell? ⟨w.heap.size, 0, none⟩ = some (.slice a1 n1 c1) := fun p => p.cell b3.lt (by rw [b3.cell]; rfl)
                have q1 : ∀ p : KeptBy wr, p.v.cell? ⟨w.heap.size, 1, none⟩ = some (.slice a2 n2 c2) := fun p => p.cell b3.lt (by rw [b3.cell]; rfl)
                have q2 : ∀ p : KeptBy wr, p.v.cell? ⟨w2.heap.size, i + j, none⟩ = some (.int .u16 (mulMid f g i j (i + j) : Nat)) := fun p => p.cell hR.lt hout
                have e1 : (i : Int) + (j : Int) < (m : Int) := by omega
                have e2 : (0 : Int) ≤ (i : Int) + (j : Int) := by omega
                have e3 : ((i : Int) + (j : Int)).toNat = i + j := by omega
                have T3 := Lib.hid (T2.out.keep hk)
                clear hcB
                go_upto_region 11 with fail
                have e0 : IntKind.i64.wrap ((i : Int) + (j : Int)) = (i : Int) + (j : Int) := wraps_i64 _ (by omega) (by omega)
                refine wp_region_kept_tail 16 (by kernel_rfl) (by kernel_rfl) ?_
                simp only [List.take_succ_cons, List.take_zero, List.drop_succ_cons, List.drop_zero]
                repeat (quiet_step (first
                  | (go_at_call 164; exact kept_of (tmul_lt _ _ _ _ (T3.out.keep (KeptBy.h _)) hfi hgj))
                  | (go_at_call 167; exact kept_of (fadd_kept _ _ _ hml (gm_lt hfi _)))))
                refine wpQuiet_nil ?_
                rintro _ ⟨⟨w5, k5⟩, rfl⟩
                clear q0 q1 q2 e0
                have hR5 := hR.keep k5 (by simp)
                have c5 := hR5.val hijm
                have z5 := hR5.frozen (i + j)
                have k6 := hk.trans k5 (fun _ hi => .inl hi)
                have HN := Lib.hid (hR5.storeU (i + j) (mulMid f g i j (i + j) ^^^ gm (f i) (g j)) (f' := mulMid f g i (j + 1)) (fun k _ => mulMid_next f g i j k))
                go_wp2_with fail
                exact ⟨⟨j + 1, by omega, by go_num, HN.out, k6.setCell (p := ⟨w2.heap.size, i + j, none⟩) (.inr (Nat.le_refl _)) _⟩, by simp [intOf]; omega⟩
              · obtain rfl : j = lb := by omega
                have hR2 := hR
                rw [mulMid_row hgz.out] at hR2
                have HR := Lib.hid hR2
                clear hR hR2
                go_wp2_with fail
                exact ⟨⟨i + 1, by omega, by go_num, HR.out, hk⟩, by simp [intOf]; omega⟩
          · obtain rfl : i = la := by omega
            have HR := Lib.hid (hR.argU (by omega) (fun k _ => by have := pacc_lt (g := g) hfl.out i k; omega))
            have hs := hk.size
            have HC := Lib.hid (show cut (fun k => pacc f g i k) m = pmul f g by
              have e : (fun k => pacc f g i k) = pmul f g := funext fun k => pacc_full hfz.out k
              rw [e]
              exact cut_of_lt (fun k => pmul_lt hfl.out k) (fun k hk => pmul_zero hfz.out hgz.out (by omega)))
            have hs2 := kk2.size
            go_wp2_with fail
            refine (trim_any _ _ _ _ _ HR.out (by omega) (Nat.le_refl _)).mono ?_
            rintro e w4 ⟨a', m', rfl, hres, hpol, hle, k4⟩
            rw [HC.out] at hres hpol
            go_wp2_with fail
            go_ret
            subst hf hg
            rw [HM.out]
            exact ⟨a', m', rfl, hres.more (by omega), hpol, by omega, (kk2.trans hk (fun _ hi => .inl hi)).trans k4 (fun _ hi => .inl hi)⟩
end Go.Proofs.YtdjgjffgheocfaaGreat

namespace Go.Proofs.YtdjgjffgheocfaaGreat
open Go.RowKit Go.Shelf
attribute [local go_sem] Oper.semAt_some

/-- Each row of cells but one lies as it lay. -/
def RowsBut (sb : Nat) (W W' : World) : Prop := ∀ k cs t r, k ≠ sb → W.heap[k]? = some (.cells cs t r) → W'.heap[k]? = some (.cells cs t r)
theorem RowsBut.refl (sb : Nat) (W : World) : RowsBut sb W W := fun _ _ _ _ _ h => h
theorem RowsBut.t {sb : Nat} {A B C : World} (h : RowsBut sb A B) (k : RowsBut sb B C) : RowsBut sb A C := fun i cs t r hi hh => k i cs t r hi (h i cs t r hi hh)
theorem RowsBut.b {sb B : Nat} (W : World) (l : Nat) (o o' : Obj) (_ : B ≤ l) (h : W.heap[l]? = some o) (hc : o.isCells = false) (_ : o.isWalk = false) : RowsBut sb W (W.putObj l o') := fun k cs t r _ hk => by
  by_cases e : k = l
  · subst e
    rw [h] at hk
    injection hk with hk
    subst hk
    cases hc
  · exact (World.putObj_heap_other e).trans hk
theorem RowsBut.cell {sb : Nat} {W W' : World} (h : RowsBut sb W W') {b o : Nat} {v : Value} (hb : b ≠ sb) (hc : W.cell? ⟨b, o, none⟩ = some v) : W'.cell? ⟨b, o, none⟩ = some v := by
  obtain ⟨ob, ho, hk⟩ := cells_of_cell hc
  cases ob <;> simp [Obj.isCells] at hk
  exact (World.cell?_of_block (a := ⟨b, o, none⟩) ((h b _ _ _ hb ho).trans ho.symm)).trans hc
theorem RowsBut.ofKeep {sb : Nat} {W W' : World} (h : Keep (· = sb) W W') : RowsBut sb W W' := fun k _ _ _ hk hh => (h.block k (Array.getElem?_eq_some_iff.1 hh).1 hk).trans hh
theorem Keep.any {S : Nat → Prop} {W W' : World} (h : Keep (fun _ => False) W W') : Keep S W W' := h.more (fun _ hf => False.elim hf)
theorem Blk.kept {W W' : World} {row : Option Nat} {g : Nat} {t : TypeId} {cs : Array Value} (h : Blk W g t cs) (hg : W.grownBy W' row) (hr : ∀ r, row = some r → ∃ o : Obj, W.heap[r]? = some o ∧ o.isCells = false) : Blk W' g t cs :=
  (grownBy_keeps_cells hg hr h rfl).trans h
theorem Keep.others {S : Nat → Prop} {W W' : World} (h : Keep S W W') (hS : ∀ k, S k → ∃ t cs, Blk W k t cs) : KeepsOthers W W' :=
  ⟨h.size, fun k o hk ho => (h.block k (Array.getElem?_eq_some_iff.1 hk).1 (fun hs => by
    obtain ⟨t, cs, hb⟩ := hS k hs
    have := hb.symm.trans hk
    injection this with this
    subst this
    cases ho)).trans hk⟩

abbrev I16 := { x : Nat × Nat // x.2 < 65536 }
/-- What has come when k rounds are over. -/
def uptoA {α : Type} (f : Nat → α) (k : Nat) : List α := (List.range k).map f
theorem uptoA_succ {α : Type} (f : Nat → α) (k : Nat) : uptoA f (k + 1) = uptoA f k ++ [f k] := by simp [uptoA, List.range_succ]
theorem uptoA_length {α : Type} (f : Nat → α) (k : Nat) : (uptoA f k).length = k := by simp [uptoA]
/-- The k-th element from the end, and its place. -/
def backAt (n : Nat) (p : Nat → Nat) (k : Nat) : I16 := ⟨(n - 1 - k, p (n - 1 - k) % 65536), Nat.mod_lt _ (by omega)⟩

set_option maxHeartbeats 1000000 in
theorem back_in (F : Fence) (n : Nat) (h5 : F.fn 172) (hro : F.round = none) (a : Option Addr) (len cap : Nat) (w : World) :
    CallsIn F n Tryz.prog 172 #[.slice a len cap] w fun e w' => e = .returned (.func (.func 180) #[] #[.pointer (some ⟨w.heap.size, 0, none⟩)]) ∧ w' = w.alloc (.cells #[.slice a len cap] 80) := by
  refine callsIn_of_wp Tryz.func172 rfl h5 ?_ hro
  simp only [Tryz.ntmps172, List.size_toArray, List.length_cons, List.length_nil, Nat.reduceAdd, Nat.reduceSub, Array.replicate_succ, Array.replicate_zero, List.push_toArray, List.append_toArray, List.nil_append, List.cons_append]
  gi_wp2
  go_ret
  exact ⟨rfl, rfl⟩

set_option maxRecDepth 100000 in
set_option maxHeartbeats 2000000 in
theorem back1_in (F : Fence) (n : Nat) (h7 : F.fn 180) (hro : F.round = none) (hn : 1 ≤ n) (l Bs sb : Nat) (a : Option Addr) (len cap : Nat) (p : Nat → Nat) (w0 : World) (hA : ArgU w0 a len p) (hs : w0.heap.size ≤ sb) (hBs : Bs ≠ sb) (J Jx : List I16 → World → Prop)
    (hY : ∀ pre x W, J pre W → pre.length < len → YieldAt F (n - 1) Tryz.prog l #[.int .i64 (x.1.1 : Nat), .int .u16 (x.1.2 : Nat)] W fun e W' =>
      (e = .returned (.bool true) ∧ J (pre ++ [x]) W' ∧ RowsBut sb W W') ∨ (e = .returned (.bool false) ∧ Jx (pre ++ [x]) W'))
    (W : World) (hk0 : RowsBut sb w0 W) (hc : W.cell? ⟨Bs, 0, none⟩ = some (.slice a len cap)) (h0 : J [] W) :
    CallsIn F n Tryz.prog 180 #[.func (.yield l) #[] #[], .pointer (some ⟨Bs, 0, none⟩)] W fun e W' => (∃ v, e = .returned v) ∧
      ((∃ ys, ys = uptoA (backAt len p) len ∧ J ys W') ∨ (∃ pre, (∃ k, k ≤ len ∧ pre = uptoA (backAt len p) k) ∧ Jx pre W')) := by
  have hsm := hA.small
  have HA := Lib.hid hA
  clear hA
  refine callsIn_of_wp Tryz.func180 rfl h7 ?_ hro
  simp only [Tryz.ntmps180, List.size_toArray, List.length_cons, List.length_nil, Nat.reduceAdd, Nat.reduceSub, Array.replicate_succ, Array.replicate_zero, List.push_toArray, List.append_toArray, List.nil_append, List.cons_append]
  gi_wp2
  gi_loopw [3] (fun i wr => ∃ k : Nat, k ≤ len ∧ i = .int .i64 ((len : Int) - 1 - k) ∧ J (uptoA (backAt len p) k) wr ∧ RowsBut sb W wr)
    (fun i _ => ((intOf i) + 1).toNat)
  case atStart => exact ⟨0, Nat.zero_le _, by simp, h0, RowsBut.refl _ _⟩
  case round =>
    obtain ⟨k, hk, rfl, hJs, hnx⟩ := hrel
    have hcb := hnx.cell hBs hc
    by_cases hlt : k < len
    · obtain ⟨b, off, rfl, hb, hcell⟩ := HA.out.at_ (by omega)
      obtain ⟨j, hj⟩ : ∃ j, j = len - 1 - k := ⟨_, rfl⟩
      have hjl : j < len := by omega
      have hcj := (hk0.t hnx).cell (show b ≠ sb by omega) (hcell j hjl)
      have hlj := HA.out.lt j hjl
      have ej : (len : Int) - 1 - k = (j : Int) := by omega
      have HB := Lib.hid (show backAt len p k = ⟨(j, p j), hlj⟩ by
        unfold backAt
        congr 1
        rw [← hj, Nat.mod_eq_of_lt hlj])
      obtain ⟨fn, tmps, assign, body, hy, hR⟩ := hY _ ⟨(j, p j), hlj⟩ wr hJs (by rw [uptoA_length]; exact hlt)
      dsimp only at hy
      have hj0 : (0 : Int) ≤ (j : Int) := by omega
      have hj1 : (j : Int) < (len : Int) := by omega
      rw [ej]
      clear hcell
      have HE := Lib.hid ej
      have HJ := Lib.hid hj
      clear ej hj
      gi_wp2
      refine hR.mono ?_
      rintro e W3 (⟨rfl, hJ3, hk3⟩ | ⟨rfl, hJx3⟩)
      · gi_wp2
        go_roundw
        case rel => exact ⟨k + 1, by omega, by have := HE.out; congr 1; omega, by rw [uptoA_succ, HB.out]; exact hJ3, hnx.t hk3⟩
        case measure => simp [intOf]
      · gi_wp2
        refine bodyPost_ret (results_none rfl _ _ _) rfl ?_
        exact ⟨⟨_, rfl⟩, .inr ⟨_, ⟨k + 1, by omega, by rw [uptoA_succ, HB.out]⟩, hJx3⟩⟩
    · obtain rfl : k = len := by omega
      have ek : (k : Int) - 1 - k = -1 := by omega
      rw [ek]
      clear ek
      gi_wp2
      go_end0
      exact ⟨⟨_, rfl⟩, .inl ⟨_, rfl, hJs⟩⟩
end Go.Proofs.YtdjgjffgheocfaaGreat

namespace Go.Proofs.YtdjgjffgheocfaaGreat
open Go.RowKit Go.Shelf
attribute [local go_sem] Oper.semAt_some

/-- What the sum is when these have come. -/
def backSum (x : Nat) (pre : List I16) : Nat := pre.foldl (fun s y => (gm (s % 1024) (x % 1024) ^^^ y.1.2) % 1024) 0
theorem backSum_snoc (x : Nat) (pre : List I16) (y : I16) : backSum x (pre ++ [y]) = (gm (backSum x pre % 1024) (x % 1024) ^^^ y.1.2) % 1024 := by simp [backSum]
theorem backSum_lt (x : Nat) (pre : List I16) : backSum x pre < 1024 := by
  rcases List.eq_nil_or_concat pre with h | ⟨l, y, h⟩
  · subst h; simp [backSum]
  · rw [h, List.concat_eq_append, backSum_snoc]; omega
theorem backSum_hor (x n : Nat) (p : Nat → Nat) (hp : ∀ i, i < n → p i < 65536) (k : Nat) (hk : k ≤ n) : backSum x (uptoA (backAt n p) k) = hor (cut p n) (x % 1024) (n - k) k := by
  induction k with
  | zero => rfl
  | succ k ih =>
    have h1 := backSum_lt x (uptoA (backAt n p) k)
    rw [uptoA_succ, backSum_snoc, Nat.mod_eq_of_lt h1, ih (by omega), xor_mod, Nat.mod_eq_of_lt (gm_lt (hor_lt (cut_lt p n) _ _) _), hor]
    have e1 : n - (k + 1) + 1 = n - k := by omega
    have e2 : (backAt n p k).1.2 = p (n - (k + 1)) % 65536 := by
      show p (n - 1 - k) % 65536 = _
      rw [show n - 1 - k = n - (k + 1) by omega]
    have h2 := hp (n - (k + 1)) (by omega)
    rw [e1, e2, Nat.mod_eq_of_lt h2, cut_in p (show n - (k + 1) < n by omega)]

set_option maxRecDepth 100000 in
set_option maxHeartbeats 4000000 in
theorem at_in (F : Fence) (hF : F = Fence.wide) (V : Value) (a : Option Addr) (n c x : Nat) (p : Nat → Nat) (w : World) (hT : HasT w V) (ha : ArgU w a n p) :
    CallsIn F 4 Tryz.prog 157 #[V, .slice a n c, .int .u16 x] w fun e w' => e = .returned (.int .u16 (hor (cut p n) (x % 1024) 0 n : Nat)) ∧ Below w.heap.size w w' := by
  subst hF
  have hro : Fence.wide.round = none := rfl
  obtain ⟨a1, n1, c1, a2, n2, c2, rfl⟩ := hT.form
  have HT := Lib.hid hT
  have HA := Lib.hid ha
  clear hT ha
  refine callsIn_of_wp_marks Tryz.func157 rfl trivial ?_ hro
  simp only [Tryz.ntmps157, List.size_toArray, List.length_cons, List.length_nil, Nat.reduceAdd, Nat.reduceSub, Array.replicate_succ, Array.replicate_zero, List.push_toArray, List.append_toArray, List.nil_append, List.cons_append]
  gi_wp2_with (refine ⟨trivial, ?_⟩; gi_at_call 172; refine (back_in Fence.wide 3 trivial hro _ _ _ _).mono ?_; rintro e w' ⟨rfl, rfl⟩)
  have bT := (((Blk.here w 82 #[.slice a1 n1 c1, .slice a2 n2 c2] w.heap.size rfl).alloc (.cells #[.int .u16 x] 148)).alloc (.cells #[.int .u16 0] 148)).alloc (.cells #[.slice a n c] 80)
  have bX := ((Blk.here (w.alloc (.cells #[.slice a1 n1 c1, .slice a2 n2 c2] 82)) 148 #[.int .u16 x] (w.heap.size + 1) (by simp)).alloc (.cells #[.int .u16 0] 148)).alloc (.cells #[.slice a n c] 80)
  have bS := (Blk.here ((w.alloc (.cells #[.slice a1 n1 c1, .slice a2 n2 c2] 82)).alloc (.cells #[.int .u16 x] 148)) 148 #[.int .u16 0] (w.heap.size + 1 + 1) (by simp)).alloc (.cells #[.slice a n c] 80)
  have bN := Blk.here (((w.alloc (.cells #[.slice a1 n1 c1, .slice a2 n2 c2] 82)).alloc (.cells #[.int .u16 x] 148)).alloc (.cells #[.int .u16 0] 148)) 80 #[.slice a n c] (w.heap.size + 1 + 1 + 1) (by simp)
  have k0 := ((((Keep.refl (fun _ => False) w).alloc (.cells #[.slice a1 n1 c1, .slice a2 n2 c2] 82)).alloc (.cells #[.int .u16 x] 148)).alloc (.cells #[.int .u16 0] 148)).alloc (.cells #[.slice a n c] 80)
  have hsz : ((((w.alloc (.cells #[.slice a1 n1 c1, .slice a2 n2 c2] 82)).alloc (.cells #[.int .u16 x] 148)).alloc (.cells #[.int .u16 0] 148)).alloc (.cells #[.slice a n c] 80)).heap.size = w.heap.size + 1 + 1 + 1 + 1 := by simp
  generalize (((w.alloc (.cells #[.slice a1 n1 c1, .slice a2 n2 c2] 82)).alloc (.cells #[.int .u16 x] 148)).alloc (.cells #[.int .u16 0] 148)).alloc (.cells #[.slice a n c] 80) = W0 at bT bX bS bN k0 hsz ⊢
  have hseq : SeqStopsK Fence.wide 3 Tryz.prog 180 #[.pointer (some ⟨w.heap.size + 1 + 1 + 1, 0, none⟩)] (fun y : I16 => #[Value.int .i64 (y.1.1 : Nat), Value.int .u16 (y.1.2 : Nat)]) (RowsBut (w.heap.size + 1 + 1))
      (fun ys => ys = uptoA (backAt n p) n) (fun pre => ∃ k, k ≤ n ∧ pre = uptoA (backAt n p) k) n W0 := fun l J Jx W hW _ _ hY h0 =>
    back1_in Fence.wide 3 trivial hro (by omega) l (w.heap.size + 1 + 1 + 1) (w.heap.size + 1 + 1) a n c p w HA.out (by omega) (by omega) J Jx hY W
      ((RowsBut.ofKeep k0.any).t (RowsBut.ofKeep (Keep.ofBelow hW).any)) (by rw [(bN.keep (S := fun _ => False) (Keep.ofBelow hW).any (fun h => h)).cell]; rfl) h0
  have HS := Lib.hid hsz
  refine wpIn_rangeFunc_ownG hro (by omega) (gf := 180) (lb := #[.pointer (some ⟨w.heap.size + 1 + 1 + 1, 0, none⟩)]) rfl trivial (enters_of Tryz.func180 (by kernel_rfl) rfl)
    hseq RowsBut.t (fun W l o o' h1 h2 h3 h4 => RowsBut.b (B := W0.heap.size) W l o o' h1 h2 h3 h4) (Below.refl _ _) (fun _ => rfl)
    (fun pre W => (Blk W (w.heap.size + 1 + 1) 148 #[.int .u16 (backSum x pre : Nat)] ∧ Blk W w.heap.size 82 #[.slice a1 n1 c1, .slice a2 n2 c2] ∧ Blk W (w.heap.size + 1) 148 #[.int .u16 x]) ∧ Below w.heap.size w W)
    (fun _ _ _ => False)
    (OwnFrom.and (Own.from (fun s A B row hs hg hr => ⟨hs.1.kept hg hr, hs.2.1.kept hg hr, hs.2.2.kept hg hr⟩) _) (ownFrom_below (Nat.le_refl _) (by have := HS.out; omega)))
    (fun _ _ _ _ _ hs _ _ => hs)
    ⟨⟨bS, bT, bX⟩, k0.toBelow⟩
    (fun y => { tmps := #[.agg #[.slice a1 n1 c1, .slice a2 n2 c2], .slice a n c, .int .u16 x, .pointer (some ⟨w.heap.size, 0, none⟩), undef, .pointer (some ⟨w.heap.size + 1, 0, none⟩), .int .u16 0, .pointer (some ⟨w.heap.size + 1 + 1, 0, none⟩), undef, .int .u16 (y.1.2 : Nat), .slice a n c,
      .func (.func 180) #[] #[.pointer (some ⟨w.heap.size + 1 + 1 + 1, 0, none⟩)], .int .i64 (y.1.1 : Nat), .int .u16 (y.1.2 : Nat), undef, undef, undef, undef, undef, undef, undef], defers := [] }) ?assign ?body ?done ?stop
  case assign =>
    intro l y W K hK
    gi_wp2
    exact hK
  case body =>
    rintro l pre y W ⟨⟨dS, dT, dX⟩, hB⟩ _
    have cS : W.cell? ⟨w.heap.size + 1 + 1, 0, none⟩ = some (.int .u16 (backSum x pre : Nat)) := by rw [dS.cell]; rfl
    have cX : W.cell? ⟨w.heap.size + 1, 0, none⟩ = some (.int .u16 x) := by rw [dX.cell]; rfl
    have cT0 : W.cell? ⟨w.heap.size, 0, none⟩ = some (.slice a1 n1 c1) := by rw [dT.cell]; rfl
    have cT1 : W.cell? ⟨w.heap.size, 1, none⟩ = some (.slice a2 n2 c2) := by rw [dT.cell]; rfl
    have TW := Lib.hid (HT.out.keep (Keep.ofBelow hB))
    have hd : 1 ≤ 4 - 1 - 1 := by omega
    gi_wp2_with (first
      | (refine ⟨trivial, ?_⟩; gi_at_call 164; refine (CallsIn.inRound l (callsIn_wide.2 (tmul_any _ _ _ _ TW.out))).mono ?_; rintro e W1 ⟨rfl, k1⟩))
    have eS := dS.keep k1 (by simp)
    have eT := dT.keep k1 (by simp)
    have eX := dX.keep k1 (by simp)
    have fS : W1.cell? ⟨w.heap.size + 1 + 1, 0, none⟩ = some (.int .u16 (backSum x pre : Nat)) := by rw [eS.cell]; rfl
    have zS := eS.frozen 0
    have hg : gm (backSum x pre % 1024) (x % 1024) < 1024 := gm_lt (Nat.mod_lt _ (by omega)) _
    have hy := y.2
    gi_wp2_with (refine ⟨trivial, ?_⟩; gi_at_call 167; refine (CallsIn.inRound l (callsIn_wide.2 (fadd_any _ _ _ (by omega) hy))).mono ?_; rintro e W2 ⟨rfl, rfl⟩)
    have kk : Keep (· = w.heap.size + 1 + 1) W (W1.setCell ⟨w.heap.size + 1 + 1, 0, none⟩ (.int .u16 ((gm (backSum x pre % 1024) (x % 1024) ^^^ y.1.2) % 1024 : Nat))) := (Keep.any (S := (· = w.heap.size + 1 + 1)) k1).setCell (p := ⟨w.heap.size + 1 + 1, 0, none⟩) (.inl rfl) _
    refine ⟨(Keep.others kk (fun k hk => by subst hk; exact ⟨_, _, dS⟩)).from _, RowsBut.ofKeep kk, ⟨?_, ?_, ?_⟩, ?_⟩
    · rw [backSum_snoc]
      exact eS.put 0 _
    · exact eT.far (p := ⟨w.heap.size + 1 + 1, 0, none⟩) (by show w.heap.size ≠ w.heap.size + 1 + 1; omega) _
    · exact eX.far (p := ⟨w.heap.size + 1 + 1, 0, none⟩) (by show w.heap.size + 1 ≠ w.heap.size + 1 + 1; omega) _
    · exact (hB.trans (k1.toBelow.mono hB.size)).setCell (p := ⟨w.heap.size + 1 + 1, 0, none⟩) (by show w.heap.size ≤ w.heap.size + 1 + 1; omega) _
  case done =>
    rintro D ys W hD rfl ⟨⟨dS, _, _⟩, hB⟩ hK
    have cS : W.cell? ⟨w.heap.size + 1 + 1, 0, none⟩ = some (.int .u16 (backSum x (uptoA (backAt n p) n) : Nat)) := by rw [dS.cell]; rfl
    gi_wp2
    refine ⟨by simp, .inl ⟨_, _, rfl, run_takeDeferred hK, ?_⟩⟩
    refine ⟨_, results_tmp rfl _ _ _, ?_, hB.trans (belowK_b (w := w) (Nat.le_refl _) W D _ _ (by have := HS.out; omega) hK rfl rfl)⟩
    rw [backSum_hor x n p HA.out.lt n (Nat.le_refl _), Nat.sub_self]
    rfl
  case stop =>
    rintro D c pre W _ _ h _
    exact h.elim

theorem at_any (V : Value) (a : Option Addr) (n c x : Nat) (p : Nat → Nat) (w : World) (hT : HasT w V) (ha : ArgU w a n p) :
    Calls Tryz.prog 157 #[V, .slice a n c, .int .u16 x] w fun e w' => e = .returned (.int .u16 (hor (cut p n) (x % 1024) 0 n : Nat)) ∧ Keep (fun _ => False) w w' :=
  (callsIn_wide.1 (at_in Fence.wide rfl V a n c x p w hT ha)).mono fun _ _ ⟨he, hb⟩ => ⟨he, (Keep.ofBelow hb).any⟩
end Go.Proofs.YtdjgjffgheocfaaGreat

namespace Go.Proofs.YtdjgjffgheocfaaGreat
open Go.RowKit

/-- One step of the long division, at place k. -/
def divR (g : Nat → Nat) (k c j : Nat) (R : Nat → Nat) : Nat → Nat := fun t => if k ≤ t ∧ t < k + j then R t ^^^ gm c (g (t - k)) else R t
noncomputable def divC (g : Nat → Nat) (lb : Nat) (R : Nat → Nat) (k : Nat) : Nat := gm (R (k + lb - 1)) (gi (g (lb - 1)))
/-- k steps of the long division, from place k - 1 down. -/
noncomputable def divRun (g : Nat → Nat) (lb : Nat) : Nat → (Nat → Nat) × (Nat → Nat) → (Nat → Nat) × (Nat → Nat)
  | 0, s => s
  | k + 1, s => divRun g lb k (divR g k (divC g lb s.1 k) lb s.1, fun t => if t = k then divC g lb s.1 k else s.2 t)
theorem divR_next (g : Nat → Nat) (k c j : Nat) (R : Nat → Nat) (t : Nat) : divR g k c (j + 1) R t = if t = k + j then divR g k c j R (k + j) ^^^ gm c (g j) else divR g k c j R t := by
  unfold divR
  by_cases e : t = k + j
  · subst e
    rw [if_pos ⟨by omega, by omega⟩, if_pos rfl, if_neg (by omega), Nat.add_sub_cancel_left]
  · rw [if_neg e]
    by_cases h : k ≤ t ∧ t < k + j
    · rw [if_pos h, if_pos ⟨h.1, by omega⟩]
    · rw [if_neg h, if_neg (by omega)]
theorem divR_lt {g R : Nat → Nat} {k c j : Nat} (hc : c < 1024) (hR : ∀ i, R i < 1024) (t : Nat) : divR g k c j R t < 1024 := by
  unfold divR
  split
  · exact xor_lt (hR t) (gm_lt hc _)
  · exact hR t
theorem divR_zero (g : Nat → Nat) (k c : Nat) (R : Nat → Nat) : divR g k c 0 R = R := by
  funext t
  unfold divR
  rw [if_neg (by omega)]

/-- What the division's loop holds, k places being left. -/
structure DivSt (w : World) (a1 a2 : Option Addr) (n1 n2 c1 c2 : Nat) (aR : Option Addr) (la : Nat) (g : Nat → Nat) (lb gB gq m : Nat) (f : Nat → Nat) (k : Nat) (R Q : Nat → Nat) (W : World) : Prop where
  hk : k ≤ m
  qb : gq ≠ gB
  far : ∀ gR, aR = some ⟨gR, 0, none⟩ → gR ≠ gB ∧ gR ≠ gq
  nq : w.heap.size ≤ gq
  run : Hid (divRun g lb k (R, Q) = divRun g lb m (f, fun _ => 0))
  rl : Hid (∀ i, R i < 1024)
  rz : Hid (∀ i, la ≤ i → R i = 0)
  ql : Hid (∀ i, Q i < 1024)
  qz : Hid (∀ i, m ≤ i → Q i = 0)
  row : ResU W w.heap.size aR la R
  q : Blk W gq 148 (uArr Q m)
  b : Blk W gB 148 (uArr g lb)
  t : Blk W w.heap.size 82 #[.slice a1 n1 c1, .slice a2 n2 c2]
  kp : Keep (fun _ => False) w W

/-- How many places the quotient has. -/
def quoN (la lb : Nat) : Nat := la + 1 - lb
/-- The quotient, and the rest. -/
noncomputable def quo (f : Nat → Nat) (la : Nat) (g : Nat → Nat) (lb : Nat) : Nat → Nat := if lb = 0 then fun _ => 0 else (divRun g lb (quoN la lb) (f, fun _ => 0)).2
noncomputable def rst (f : Nat → Nat) (la : Nat) (g : Nat → Nat) (lb : Nat) : Nat → Nat := if lb = 0 then fun _ => 0 else (divRun g lb (quoN la lb) (f, fun _ => 0)).1

theorem tinv_lt (V : Value) (a : Nat) (w : World) (hT : HasT w V) (ha : a < 1024) (h0 : a ≠ 0) :
    Calls Tryz.prog 161 #[V, .int .u16 a] w fun e w' => e = .returned (.tuple #[.int .u16 (gi a : Nat), .bool true]) ∧ Keep (fun _ => False) w w' := by
  have := tinv_any V a w hT true (Lib.hid (by rw [Nat.mod_eq_of_lt ha]; simpa using h0))
  rwa [Nat.mod_eq_of_lt ha] at this
theorem wp_scope_jumps2 {P : Program} {a : Act} {w : World} {Q : Exit → Act → World → Prop} {c X : Code} (l : Nat) (J : Act → World → Prop) (m : Act → World → Nat) (hf : findLabel c l = some (Code.skip.seq X))
    (pass : ∀ a w, J a w → X.wp P (Exit.jump l (fun a' w' => J a' w' ∧ m a' w' < m a w) Q) a w)
    (first : (∀ a w, J a w → X.wp P (Exit.jump l J Q) a w) → c.wp P (Exit.jump l J Q) a w) : (Code.scope c).wp P Q a w :=
  wp_scope_jumps l J m hf (first fun a w h => Code.wp_mono (fun e a' w' he => by
    cases e <;> first | exact he | exact ⟨he.1, he.2.1⟩) (pass a w h)) fun a w h => wp_seq (wp_skip (pass a w h))

end Go.Proofs.YtdjgjffgheocfaaGreat

namespace Go.Proofs.YtdjgjffgheocfaaGreat

theorem xs_one {h : Nat → Nat} (n j : Nat) (hj : j < n) (e : ∀ i, i < n → i ≠ j → h i = 0) : xs n h = h j := by
  rw [xs_more (j + 1) n (by omega) (fun i h0 h1 => e i h1 (by omega))]
  rw [xs, xs_zero j (fun i hi => e i (by omega) (by omega)), Nat.zero_xor]

theorem pmul_lead {f g : Nat → Nat} {la lb : Nat} (hf : IsPol f la) (hg : IsPol g lb) (ha : 0 < la) (hb : 0 < lb) : pmul f g (la + lb - 2) = gm (f (la - 1)) (g (lb - 1)) := by
  have h := xs_one (h := fun i => gm (f i) (g (la + lb - 2 - i))) (la + lb - 2 + 1) (la - 1) (by omega) (fun i hi hn => by
    show gm (f i) (g (la + lb - 2 - i)) = 0
    rcases Nat.lt_or_ge i (la - 1) with h | h
    · rw [hg.zero _ (by omega), gm_zero_right]
    · rw [hf.zero _ (by omega), gm_zero_left])
  rw [show pmul f g (la + lb - 2) = xs (la + lb - 2 + 1) fun i => gm (f i) (g (la + lb - 2 - i)) from rfl, h, show la + lb - 2 - (la - 1) = lb - 1 by omega]
theorem pmul_pol {f g : Nat → Nat} {la lb : Nat} (hf : IsPol f la) (hg : IsPol g lb) (ha : 0 < la) (hb : 0 < lb) : IsPol (pmul f g) (la + lb - 1) :=
  ⟨pmul_lt hf.lt, fun i hi => pmul_zero hf.zero hg.zero (by omega), fun _ => by
    rw [show la + lb - 1 - 1 = la + lb - 2 by omega, pmul_lead hf hg ha hb]
    exact gm_ne_zero (hf.lt _) (hg.lt _) (hf.lead ha) (hg.lead hb)⟩
theorem IsPol.none {f : Nat → Nat} (h : IsPol f 0) : f = fun _ => 0 := funext fun i => h.zero i (by omega)
theorem pmulM_eq {f g : Nat → Nat} {la lb : Nat} (hf : IsPol f la) (hg : IsPol g lb) (h : la + lb ≤ 4097) : pmulM f la g lb = pmul f g := by
  unfold pmulM
  split
  · rename_i hc
    rcases hc with rfl | rfl | hc
    · rw [hf.none, pmul_nil_left]
    · rw [hg.none, pmul_nil_right]
    · omega
  · rfl
theorem pmulM_len {f g : Nat → Nat} {la lb m : Nat} (hf : IsPol f la) (hg : IsPol g lb) (h : la + lb ≤ 4097) (hm : IsPol (pmulM f la g lb) m) : m = if la = 0 ∨ lb = 0 then 0 else la + lb - 1 := by
  rw [pmulM_eq hf hg h] at hm
  split
  · rename_i hc
    rcases hc with rfl | rfl
    · rw [hf.none, pmul_nil_left] at hm
      exact hm.uniq pol_none
    · rw [hg.none, pmul_nil_right] at hm
      exact hm.uniq pol_none
  · exact hm.uniq (pmul_pol hf hg (by omega) (by omega))

theorem padd_len {f g : Nat → Nat} {la lb m : Nat} (hf : IsPol f la) (hg : IsPol g lb) (hm : IsPol (padd f g) m) : m ≤ max la lb := by
  rcases Nat.lt_or_ge (max la lb) m with h | h
  · refine absurd ?_ (hm.lead (by omega))
    show f (m - 1) ^^^ g (m - 1) = 0
    rw [hf.zero _ (by omega), hg.zero _ (by omega)]
    rfl
  · exact h
theorem padd_len_ne {f g : Nat → Nat} {la lb m : Nat} (hf : IsPol f la) (hg : IsPol g lb) (hm : IsPol (padd f g) m) (hn : la ≠ lb) : m = max la lb := by
  refine hm.uniq ⟨padd_lt hf.lt hg.lt, fun i hi => ?_, fun h0 => ?_⟩
  · show f i ^^^ g i = 0
    rw [hf.zero _ (by omega), hg.zero _ (by omega)]
    rfl
  · show f (max la lb - 1) ^^^ g (max la lb - 1) ≠ 0
    rcases Nat.lt_or_ge la lb with h | h
    · rw [show max la lb - 1 = lb - 1 by omega, hf.zero _ (by omega), Nat.zero_xor]
      exact hg.lead (by omega)
    · rw [show max la lb - 1 = la - 1 by omega, hg.zero _ (by omega), Nat.xor_zero]
      exact hf.lead (by omega)

/-- What one step of the division, and all of them, leave. -/
theorem divC_lt {g : Nat → Nat} {lb : Nat} {R : Nat → Nat} (hR : ∀ i, R i < 1024) (k : Nat) : divC g lb R k < 1024 := gm_lt (hR _) _
theorem divC_lead {g : Nat → Nat} {lb : Nat} (hg : IsPol g lb) (hb : 0 < lb) {R : Nat → Nat} (hR : ∀ i, R i < 1024) (k : Nat) : gm (divC g lb R k) (g (lb - 1)) = R (k + lb - 1) := by
  unfold divC
  rw [gm_assoc (hR _) (gi_lt _) (hg.lt _), gm_comm (gi_lt _) (hg.lt _), gi_mul (hg.lt _) (hg.lead hb), gm_one_right]
theorem divR_rest {g : Nat → Nat} {lb : Nat} (hg : IsPol g lb) (hb : 0 < lb) {R : Nat → Nat} (hR : ∀ i, R i < 1024) {k : Nat} (hz : ∀ i, k + lb ≤ i → R i = 0) (i : Nat) (hi : k + lb - 1 ≤ i) : divR g k (divC g lb R k) lb R i = 0 := by
  unfold divR
  by_cases h : k ≤ i ∧ i < k + lb
  · obtain rfl : i = k + lb - 1 := by omega
    rw [if_pos h, show k + lb - 1 - k = lb - 1 by omega, divC_lead hg hb hR, Nat.xor_self]
  · rw [if_neg h]
    exact hz i (by omega)
theorem divRun_rest {g : Nat → Nat} {lb : Nat} (hg : IsPol g lb) (hb : 0 < lb) : ∀ (k : Nat) (R Q : Nat → Nat), (∀ i, R i < 1024) → (∀ i, k + lb - 1 ≤ i → R i = 0) →
    ∀ i, lb - 1 ≤ i → (divRun g lb k (R, Q)).1 i = 0
  | 0, R, Q, _, hz, i, hi => hz i (by omega)
  | k + 1, R, Q, hR, hz, i, hi => by
    rw [divRun]
    exact divRun_rest hg hb k _ _ (divR_lt (divC_lt hR k) hR) (divR_rest hg hb hR (fun i hi => hz i (by omega))) i hi
theorem divRun_high {g : Nat → Nat} {lb : Nat} : ∀ (k : Nat) (R Q : Nat → Nat) (i : Nat), k ≤ i → (divRun g lb k (R, Q)).2 i = Q i
  | 0, R, Q, i, _ => rfl
  | k + 1, R, Q, i, hi => by
    rw [divRun, divRun_high k _ _ i (by omega)]
    exact if_neg (by omega)
theorem divRun_lt {g : Nat → Nat} {lb : Nat} : ∀ (k : Nat) (R Q : Nat → Nat), (∀ i, R i < 1024) → (∀ i, Q i < 1024) → (∀ i, (divRun g lb k (R, Q)).1 i < 1024) ∧ ∀ i, (divRun g lb k (R, Q)).2 i < 1024
  | 0, R, Q, hR, hQ => ⟨hR, hQ⟩
  | k + 1, R, Q, hR, hQ => by
    rw [divRun]
    refine divRun_lt k _ _ (divR_lt (divC_lt hR k) hR) (fun i => ?_)
    show (if i = k then _ else Q i) < 1024
    split
    · exact divC_lt hR k
    · exact hQ i
theorem rst_len {f g : Nat → Nat} {la lb m : Nat} (hf : IsPol f la) (hg : IsPol g lb) (hb : 0 < lb) (hm : IsPol (rst f la g lb) m) : m < lb := by
  rcases Nat.lt_or_ge m lb with h | h
  · exact h
  · refine absurd ?_ (hm.lead (by omega))
    unfold rst
    rw [if_neg (by omega)]
    rcases Nat.lt_or_ge la lb with h2 | h2
    · rw [show quoN la lb = 0 by unfold quoN; omega]
      exact hf.zero _ (by omega)
    · exact divRun_rest hg hb _ _ _ hf.lt (fun i hi => hf.zero i (by unfold quoN at hi; omega)) _ (by omega)
theorem quo_pol {f g : Nat → Nat} {la lb : Nat} (hf : IsPol f la) (hg : IsPol g lb) (hb : 0 < lb) : IsPol (quo f la g lb) (quoN la lb) := by
  unfold quo
  rw [if_neg (by omega)]
  refine ⟨(divRun_lt _ _ _ hf.lt (fun _ => by show 0 < 1024; omega)).2, fun i hi => divRun_high _ _ _ i hi, fun h0 => ?_⟩
  obtain ⟨k, hk⟩ : ∃ k, quoN la lb = k + 1 := ⟨quoN la lb - 1, by omega⟩
  rw [hk, divRun, divRun_high k _ _ (k + 1 - 1) (by omega), if_pos (by omega)]
  unfold divC
  have e : k + lb - 1 = la - 1 := by unfold quoN at hk; omega
  rw [e]
  exact gm_ne_zero (hf.lt _) (gi_lt _) (hf.lead (by unfold quoN at hk; omega)) (gi_ne_zero (hg.lead hb))
end Go.Proofs.YtdjgjffgheocfaaGreat

namespace Go.Proofs.YtdjgjffgheocfaaGreat

def shf (f : Nat → Nat) : Nat → Nat := fun i => f (i + 1)
def mulx (f : Nat → Nat) : Nat → Nat := fun i => if i = 0 then 0 else f (i - 1)
def scl (c : Nat) (f : Nat → Nat) : Nat → Nat := fun i => gm c (f i)
theorem shf_mulx (f : Nat → Nat) : shf (mulx f) = f := funext fun i => by
  show (if i + 1 = 0 then 0 else f (i + 1 - 1)) = f i
  rw [if_neg (by omega), Nat.add_sub_cancel]
theorem mulx_padd (f g : Nat → Nat) (i : Nat) : mulx (padd f g) i = mulx f i ^^^ mulx g i := by
  unfold mulx
  split
  · rfl
  · rfl
theorem xs_head (h : Nat → Nat) (n : Nat) : xs (n + 1) h = h 0 ^^^ xs n (fun i => h (i + 1)) := by
  induction n with
  | zero => simp [xs]
  | succ n ih => rw [xs, ih, xs, Nat.xor_assoc]
theorem xs_rev (h : Nat → Nat) (n : Nat) : xs (n + 1) h = xs (n + 1) (fun i => h (n - i)) := by
  induction n generalizing h with
  | zero => rfl
  | succ n ih =>
    rw [xs_head, ih (fun i => h (i + 1)), show xs (n + 1 + 1) (fun i => h (n + 1 - i)) = xs (n + 1) (fun i => h (n + 1 - i)) ^^^ h (n + 1 - (n + 1)) from rfl, Nat.sub_self, Nat.xor_comm]
    congr 1
    exact xs_congr (n + 1) fun i hi => by
      show h (n - i + 1) = h (n + 1 - i)
      rw [show n - i + 1 = n + 1 - i by omega]
theorem pmul_comm {f g : Nat → Nat} (hf : ∀ i, f i < 1024) (hg : ∀ i, g i < 1024) : pmul f g = pmul g f := funext fun k => by
  unfold pmul
  rw [xs_rev]
  exact xs_congr (k + 1) fun i hi => by
    show gm (f (k - i)) (g (k - (k - i))) = gm (g i) (f (k - i))
    rw [show k - (k - i) = i by omega, gm_comm (hf _) (hg _)]
theorem pmul_add_left {f g h : Nat → Nat} (hf : ∀ i, f i < 1024) (hg : ∀ i, g i < 1024) : pmul (padd f g) h = padd (pmul f h) (pmul g h) := funext fun k => by
  show pmul (padd f g) h k = pmul f h k ^^^ pmul g h k
  unfold pmul
  rw [← xs_add]
  exact xs_congr _ fun i _ => gm_add_left (hf i) (hg i) _
theorem pmul_add_right (f g h : Nat → Nat) : pmul f (padd g h) = padd (pmul f g) (pmul f h) := funext fun k => by
  show pmul f (padd g h) k = pmul f g k ^^^ pmul f h k
  unfold pmul
  rw [← xs_add]
  exact xs_congr _ fun i _ => gm_add_right _ _ _
theorem pmul_step (f g : Nat → Nat) : pmul f g = padd (scl (f 0) g) (mulx (pmul (shf f) g)) := funext fun k => by
  show pmul f g k = gm (f 0) (g k) ^^^ mulx (pmul (shf f) g) k
  rcases k with _ | k
  · simp [pmul, xs, mulx]
  · unfold pmul
    rw [xs_head]
    show gm (f 0) (g (k + 1 - 0)) ^^^ xs (k + 1) (fun i => gm (f (i + 1)) (g (k + 1 - (i + 1)))) = gm (f 0) (g (k + 1)) ^^^ (if k + 1 = 0 then 0 else xs (k + 1 - 1 + 1) fun i => gm (shf f i) (g (k + 1 - 1 - i)))
    rw [if_neg (by omega), Nat.add_sub_cancel, Nat.sub_zero]
    congr 1
    exact xs_congr _ fun i _ => by
      show gm (f (i + 1)) (g (k + 1 - (i + 1))) = gm (f (i + 1)) (g (k - i))
      rw [show k + 1 - (i + 1) = k - i by omega]
theorem pmul_mulx (h g : Nat → Nat) : pmul (mulx h) g = mulx (pmul h g) := funext fun k => by
  rw [pmul_step, shf_mulx]
  show gm (mulx h 0) (g k) ^^^ mulx (pmul h g) k = mulx (pmul h g) k
  rw [show mulx h 0 = 0 from rfl, gm_zero_left, Nat.zero_xor]
theorem shf_lt {f : Nat → Nat} (hf : ∀ i, f i < 1024) (i : Nat) : shf f i < 1024 := hf _
theorem scl_lt {f : Nat → Nat} {c : Nat} (hc : c < 1024) (i : Nat) : scl c f i < 1024 := gm_lt hc _
theorem mulx_lt {f : Nat → Nat} (hf : ∀ i, f i < 1024) (i : Nat) : mulx f i < 1024 := by
  unfold mulx
  split
  · omega
  · exact hf _

/-! Values. -/
theorem hor_shf (f : Nat → Nat) (x j m : Nat) : hor f x (j + 1) m = hor (shf f) x j m := by
  induction m generalizing j with
  | zero => rfl
  | succ m ih => rw [hor, hor, ih (j + 1)]; rfl
theorem hor_mulx (f : Nat → Nat) (x n : Nat) : hor (mulx f) x 0 (n + 1) = gm (hor f x 0 n) x := by
  rw [hor, hor_shf, shf_mulx, show mulx f 0 = 0 from rfl, Nat.xor_zero]
theorem hor_padd {f g : Nat → Nat} (hf : ∀ i, f i < 1024) (hg : ∀ i, g i < 1024) (x j m : Nat) : hor (padd f g) x j m = hor f x j m ^^^ hor g x j m := by
  induction m generalizing j with
  | zero => simp [hor]
  | succ m ih =>
    rw [hor, hor, hor, ih (j + 1), gm_add_left (hor_lt hf _ _) (hor_lt hg _ _)]
    exact xor_four _ _ _ _
theorem hor_scl {g : Nat → Nat} {c x : Nat} (hg : ∀ i, g i < 1024) (hc : c < 1024) (hx : x < 1024) (j m : Nat) : hor (scl c g) x j m = gm c (hor g x j m) := by
  induction m generalizing j with
  | zero => exact (gm_zero_right c).symm
  | succ m ih =>
    rw [hor, hor, ih (j + 1), gm_assoc hc (hor_lt hg _ _) hx, gm_add_right]
    rfl
theorem hor_pmul {g : Nat → Nat} {m x : Nat} (hg : ∀ i, g i < 1024) (hgz : ∀ i, m ≤ i → g i = 0) (hx : x < 1024) : ∀ (n : Nat) (f : Nat → Nat), (∀ i, f i < 1024) → (∀ i, n ≤ i → f i = 0) → ∀ N, n + m ≤ N + 1 →
    hor (pmul f g) x 0 N = gm (hor f x 0 n) (hor g x 0 m)
  | 0, f, hf, hz, N, hN => by
    rw [show f = fun _ => 0 from funext fun i => hz i (by omega), pmul_nil_left, hor_zero 0 N (fun _ _ => rfl)]
    exact (gm_zero_left _).symm
  | n + 1, f, hf, hz, N, hN => by
    rcases N with _ | N
    · obtain rfl : n = 0 := by omega
      obtain rfl : m = 0 := by omega
      exact (gm_zero_right _).symm
    · have ih := hor_pmul hg hgz hx n (shf f) (shf_lt hf) (fun i hi => hz (i + 1) (by omega)) N (by omega)
      have e : hor g x 0 (N + 1) = hor g x 0 m := hor_more 0 m (N + 1) (by omega) (fun i hi => hgz i (by omega))
      have lh := hor_lt (shf_lt hf) (x := x) 0 n
      have lg := hor_lt hg (x := x) 0 m
      rw [pmul_step, hor_padd (scl_lt (hf 0)) (mulx_lt (pmul_lt (shf_lt hf))), hor_scl hg (hf 0) hx, hor_mulx, ih, e, hor, hor_shf, gm_add_left (gm_lt lh _) (hf 0), gm_assoc lh lg hx, gm_comm lg hx, ← gm_assoc lh hx lg, Nat.xor_comm]

/-! Slopes. -/
theorem slope_padd (f g : Nat → Nat) : pslope (padd f g) = padd (pslope f) (pslope g) := funext fun i => by
  show (if i % 2 = 0 then padd f g (i + 1) else 0) = (if i % 2 = 0 then f (i + 1) else 0) ^^^ (if i % 2 = 0 then g (i + 1) else 0)
  split <;> rfl
theorem slope_scl (c : Nat) (f : Nat → Nat) : pslope (scl c f) = scl c (pslope f) := funext fun i => by
  show (if i % 2 = 0 then gm c (f (i + 1)) else 0) = gm c (if i % 2 = 0 then f (i + 1) else 0)
  split
  · rfl
  · exact (gm_zero_right c).symm
theorem slope_mulx (h : Nat → Nat) : pslope (mulx h) = padd h (mulx (pslope h)) := funext fun i => by
  show (if i % 2 = 0 then mulx h (i + 1) else 0) = h i ^^^ (if i = 0 then 0 else if (i - 1) % 2 = 0 then h (i - 1 + 1) else 0)
  rcases i with _ | i
  · simp [mulx]
  · rw [if_neg (show ¬ i + 1 = 0 by omega), Nat.add_sub_cancel]
    by_cases e : i % 2 = 0
    · rw [if_neg (by omega), if_pos e, Nat.xor_self]
    · rw [if_pos (by omega), if_neg e, Nat.xor_zero]
      show (if i + 1 + 1 = 0 then 0 else h (i + 1 + 1 - 1)) = h (i + 1)
      rw [if_neg (by omega), Nat.add_sub_cancel]
theorem slope_step (f : Nat → Nat) : pslope f = padd (shf f) (mulx (pslope (shf f))) := funext fun i => by
  show (if i % 2 = 0 then f (i + 1) else 0) = f (i + 1) ^^^ (if i = 0 then 0 else if (i - 1) % 2 = 0 then f (i - 1 + 1 + 1) else 0)
  rcases i with _ | i
  · simp
  · rw [if_neg (show ¬ i + 1 = 0 by omega), Nat.add_sub_cancel]
    by_cases e : i % 2 = 0
    · rw [if_neg (by omega), if_pos e, Nat.xor_self]
    · rw [if_pos (by omega), if_neg e, Nat.xor_zero]
theorem slope_lt {f : Nat → Nat} (hf : ∀ i, f i < 1024) (i : Nat) : pslope f i < 1024 := by
  unfold pslope
  split
  · exact hf _
  · omega
theorem slope_nil : pslope (fun _ => 0) = fun _ => 0 := funext fun i => by simp [pslope]
theorem slope_pmul (g : Nat → Nat) : ∀ (n : Nat) (f : Nat → Nat), (∀ i, f i < 1024) → (∀ i, n ≤ i → f i = 0) → pslope (pmul f g) = padd (pmul (pslope f) g) (pmul f (pslope g))
  | 0, f, hf, hz => by
    rw [show f = fun _ => 0 from funext fun i => hz i (by omega), pmul_nil_left, slope_nil, pmul_nil_left, pmul_nil_left]
    funext i
    exact (Nat.xor_self 0).symm
  | n + 1, f, hf, hz => by
    have ih := slope_pmul g n (shf f) (shf_lt hf) (fun i hi => hz (i + 1) (by omega))
    funext k
    rw [pmul_step f g, slope_padd, slope_scl, slope_mulx, ih, slope_step f, pmul_add_left (shf_lt hf) (mulx_lt (slope_lt (shf_lt hf))), pmul_mulx, pmul_step f (pslope g)]
    show scl (f 0) (pslope g) k ^^^ (pmul (shf f) g k ^^^ mulx (padd (pmul (pslope (shf f)) g) (pmul (shf f) (pslope g))) k) = (pmul (shf f) g k ^^^ mulx (pmul (pslope (shf f)) g) k) ^^^ (scl (f 0) (pslope g) k ^^^ mulx (pmul (shf f) (pslope g)) k)
    rw [mulx_padd]
    generalize scl (f 0) (pslope g) k = a
    generalize pmul (shf f) g k = b
    generalize mulx (pmul (pslope (shf f)) g) k = c
    generalize mulx (pmul (shf f) (pslope g)) k = d
    rw [← Nat.xor_assoc b c d, ← Nat.xor_assoc a (b ^^^ c) d, Nat.xor_comm a (b ^^^ c), Nat.xor_assoc]

/-! The division. -/
def mono (k c : Nat) : Nat → Nat := fun t => if t = k then c else 0
theorem pmul_mono (k c : Nat) (g : Nat → Nat) (t : Nat) : pmul (mono k c) g t = if k ≤ t then gm c (g (t - k)) else 0 := by
  split
  · rename_i h
    have := xs_one (h := fun i => gm (mono k c i) (g (t - i))) (t + 1) k (by omega) (fun i _ hn => by
      show gm (if i = k then c else 0) _ = 0
      rw [if_neg hn, gm_zero_left])
    rw [show pmul (mono k c) g t = xs (t + 1) fun i => gm (mono k c i) (g (t - i)) from rfl, this, show mono k c k = c from if_pos rfl]
  · rename_i h
    exact xs_zero _ fun i hi => by
      show gm (if i = k then c else 0) _ = 0
      rw [if_neg (by omega), gm_zero_left]
theorem divRun_sum {g : Nat → Nat} {lb : Nat} (hgz : ∀ i, lb ≤ i → g i = 0) : ∀ (k : Nat) (R Q : Nat → Nat), (∀ i, R i < 1024) → (∀ i, Q i < 1024) → (∀ i, i < k → Q i = 0) →
    padd (pmul (divRun g lb k (R, Q)).2 g) (divRun g lb k (R, Q)).1 = padd (pmul Q g) R
  | 0, R, Q, _, _, _ => rfl
  | k + 1, R, Q, hR, hQ, hz => by
    have hc := divC_lt (g := g) (lb := lb) hR k
    rw [divRun]
    rw [divRun_sum hgz k _ _ (divR_lt hc hR) (fun i => by
      show (if i = k then _ else Q i) < 1024
      split
      · exact hc
      · exact hQ i) (fun i hi => by
      show (if i = k then _ else Q i) = 0
      rw [if_neg (by omega)]
      exact hz i (by omega))]
    show padd (pmul (fun t => if t = k then divC g lb R k else Q t) g) (divR g k (divC g lb R k) lb R) = padd (pmul Q g) R
    generalize divC g lb R k = c at hc ⊢
    have e1 : (fun t => if t = k then c else Q t) = padd Q (mono k c) := funext fun t => by
      show (if t = k then c else Q t) = Q t ^^^ (if t = k then c else 0)
      split
      · rename_i h
        rw [h, hz k (by omega), Nat.zero_xor]
      · rw [Nat.xor_zero]
    have hm : ∀ i, mono k c i < 1024 := fun i => by
      show (if i = k then c else 0) < 1024
      split <;> omega
    rw [e1, pmul_add_left hQ hm]
    funext t
    show (pmul Q g t ^^^ pmul (mono k c) g t) ^^^ divR g k c lb R t = pmul Q g t ^^^ R t
    have e2 : divR g k c lb R t = R t ^^^ pmul (mono k c) g t := by
      rw [pmul_mono]
      unfold divR
      by_cases h : k ≤ t
      · rw [if_pos h]
        by_cases h2 : t < k + lb
        · rw [if_pos ⟨h, h2⟩]
        · rw [if_neg (by omega), hgz _ (by omega), gm_zero_right, Nat.xor_zero]
      · rw [if_neg (by omega), if_neg h, Nat.xor_zero]
    rw [e2, xor_four, Nat.xor_assoc, ← Nat.xor_assoc (pmul Q g t) (R t), Nat.xor_assoc, Nat.xor_self, Nat.xor_zero]
theorem div_sum {f g : Nat → Nat} {la lb : Nat} (hf : IsPol f la) (hg : IsPol g lb) (hb : 0 < lb) : padd (pmul (quo f la g lb) g) (rst f la g lb) = f := by
  unfold quo rst
  rw [if_neg (by omega), if_neg (by omega), divRun_sum hg.zero _ _ _ hf.lt (fun _ => by show 0 < 1024; omega) (fun _ _ => rfl), pmul_nil_left]
  funext t
  exact Nat.zero_xor _
end Go.Proofs.YtdjgjffgheocfaaGreat

namespace Go.Proofs.YtdjgjffgheocfaaGreat

theorem xs_gm {h : Nat → Nat} (hh : ∀ i, h i < 1024) (y n : Nat) : gm (xs n h) y = xs n (fun i => gm (h i) y) := by
  induction n with
  | zero => exact gm_zero_left y
  | succ n ih => rw [xs, xs, gm_add_left (xs_lt n (fun i _ => hh i)) (hh n), ih]
theorem gm_xs {h : Nat → Nat} (y n : Nat) : gm y (xs n h) = xs n (fun i => gm y (h i)) := by
  induction n with
  | zero => exact gm_zero_right y
  | succ n ih => rw [xs, xs, gm_add_right, ih]
theorem xs_swap (f : Nat → Nat → Nat) (n m : Nat) : xs n (fun i => xs m (fun j => f i j)) = xs m (fun j => xs n (fun i => f i j)) := by
  induction n with
  | zero => exact (xs_zero m (fun _ _ => rfl)).symm
  | succ n ih =>
    rw [xs, ih, ← xs_add]
    rfl
theorem hor_xs {f : Nat → Nat} (hf : ∀ i, f i < 1024) (j : Nat) : ∀ m s, hor f (ex j) s m = xs m (fun i => gm (f (s + i)) (ex (i * j)))
  | 0, s => rfl
  | m + 1, s => by
    rw [hor, hor_xs hf j m (s + 1), xs_head, xs_gm (fun i => gm_lt (hf _) _), Nat.xor_comm]
    congr 1
    · show f s = gm (f (s + 0)) (ex (0 * j))
      rw [Nat.zero_mul, show ex 0 = 1 from rfl, gm_one_right, Nat.add_zero]
    · exact xs_congr m fun i _ => by
        show gm (gm (f (s + 1 + i)) (ex (i * j))) (ex j) = gm (f (s + (i + 1))) (ex ((i + 1) * j))
        rw [gm_assoc (hf _) (ex_lt _) (ex_lt _), ex_add, show s + 1 + i = s + (i + 1) by omega, Nat.add_mul, Nat.one_mul]
/-- The word c of n places is nought at the first s powers (of the code: 16). -/
def IsWord (c : Nat → Nat) (n s : Nat) : Prop := ∀ j, j < s → xs n (fun i => gm (c i) (ex (i * (j + 1)))) = 0
/-- Against a word of the code each polynomial of a degree below s sums up to nought. -/
theorem word_sum {c P : Nat → Nat} {n s : Nat} (hc : ∀ i, c i < 1024) (hP : ∀ i, P i < 1024) (h : IsWord c n s) :
    xs n (fun i => gm (c i) (gm (ex i) (hor P (ex i) 0 s))) = 0 := by
  have e : ∀ i, i < n → gm (c i) (gm (ex i) (hor P (ex i) 0 s)) = xs s (fun j => gm (P j) (gm (c i) (ex (i * (j + 1))))) := fun i _ => by
    rw [hor_xs hP, gm_xs, gm_xs]
    exact xs_congr s fun j _ => by
      show gm (c i) (gm (ex i) (gm (P (0 + j)) (ex (j * i)))) = gm (P j) (gm (c i) (ex (i * (j + 1))))
      rw [Nat.zero_add, ← gm_assoc (ex_lt _) (hP _) (ex_lt _), gm_comm (ex_lt _) (hP j), gm_assoc (hP _) (ex_lt _) (ex_lt _), ex_add, ← gm_assoc (hc _) (hP _) (ex_lt _), gm_comm (hc _) (hP j), gm_assoc (hP _) (hc _) (ex_lt _)]
      congr 3
      rw [Nat.mul_add, Nat.mul_one, Nat.mul_comm j i, Nat.add_comm]
  rw [xs_congr n e, xs_swap]
  exact xs_zero s fun j hj => by
    show xs n (fun i => gm (P j) (gm (c i) (ex (i * (j + 1))))) = 0
    rw [← gm_xs, h j hj, gm_zero_right]
/-- x + r, and the product over a list of roots. -/
def linR (r : Nat) : Nat → Nat := fun i => if i = 0 then r else if i = 1 then 1 else 0
theorem linR_pol {r : Nat} (hr : r < 1024) : IsPol (linR r) 2 :=
  ⟨fun i => by unfold linR; split <;> (try split) <;> omega, fun i hi => by unfold linR; rw [if_neg (by omega), if_neg (by omega)], fun _ => by show linR r 1 ≠ 0; unfold linR; rw [if_neg (by omega), if_pos rfl]; omega⟩
def prodL : List Nat → Nat → Nat
  | [] => fun i => if i = 0 then 1 else 0
  | r :: l => pmul (prodL l) (linR r)
theorem prodL_pol : ∀ (l : List Nat), (∀ r ∈ l, r < 1024) → IsPol (prodL l) (l.length + 1)
  | [], _ => ⟨fun i => by unfold prodL; split <;> omega, fun i hi => by unfold prodL; rw [if_neg (by simp at hi; omega)], fun _ => by show prodL [] 0 ≠ 0; unfold prodL; rw [if_pos rfl]; omega⟩
  | r :: l, h => by
    have := pmul_pol (prodL_pol l (fun x hx => h x (List.mem_cons_of_mem _ hx))) (linR_pol (h r (List.mem_cons_self ..))) (by omega) (by omega)
    rw [List.length_cons]
    rwa [show l.length + 1 + 2 - 1 = l.length + 1 + 1 by omega] at this
theorem hor_linR {r x : Nat} (hx : x < 1024) : hor (linR r) x 0 2 = x ^^^ r := by
  show gm (gm 0 x ^^^ 1) x ^^^ r = x ^^^ r
  rw [gm_zero_left, Nat.zero_xor, gm_comm (by omega) hx, gm_one_right]
theorem prodL_root {x : Nat} (hx : x < 1024) : ∀ (l : List Nat), (∀ r ∈ l, r < 1024) → (hor (prodL l) x 0 (l.length + 1) = 0 ↔ x ∈ l)
  | [], _ => by
    rw [show hor (prodL []) x 0 ([].length + 1) = gm 0 x ^^^ 1 from rfl, gm_zero_left]
    simp
  | r :: l, h => by
    have hr := h r (List.mem_cons_self ..)
    have hl := fun x hx => h x (List.mem_cons_of_mem _ hx)
    have hp := prodL_pol l hl
    have ih := prodL_root hx l hl
    have e := hor_pmul (linR_pol hr).lt (linR_pol hr).zero hx (l.length + 1) (prodL l) hp.lt hp.zero (l.length + 1 + 1) (by omega)
    rw [List.length_cons, show prodL (r :: l) = pmul (prodL l) (linR r) from rfl, e, hor_linR hx, List.mem_cons, ← ih]
    have l1 := hor_lt hp.lt (x := x) 0 (l.length + 1)
    have l2 : x ^^^ r < 1024 := xor_lt hx hr
    constructor
    · intro h0
      by_cases e1 : hor (prodL l) x 0 (l.length + 1) = 0
      · exact .inr e1
      · by_cases e2 : x ^^^ r = 0
        · exact .inl (xor_eq_zero e2)
        · exact absurd h0 (gm_ne_zero l1 l2 e1 e2)
    · rintro (h0 | h0)
      · rw [h0, Nat.xor_self, gm_zero_right]
      · rw [h0, gm_zero_left]
/-- A word of the code that is nought outside at most s places is nought. -/
theorem word_light {c : Nat → Nat} {n s : Nat} (hn : n ≤ 1023) (hc : ∀ i, c i < 1024) (h : IsWord c n s) (l : List Nat) (hl : l.length ≤ s) (hs : ∀ i, i < n → c i ≠ 0 → i ∈ l) : ∀ i, i < n → c i = 0 := by
  intro k hk
  by_cases h0 : c k = 0
  · exact h0
  · exfalso
    have hkl := hs k hk h0
    let m := (l.erase k).filter (fun i => decide (i ≠ k ∧ i < n))
    have hlen : m.length + 1 ≤ s := by
      have h1 : m.length ≤ (l.erase k).length := List.length_filter_le ..
      have h2 := List.length_erase_of_mem hkl
      have h3 := List.length_pos_of_mem hkl
      omega
    have hm : ∀ r ∈ m.map ex, r < 1024 := fun r hr => by
      obtain ⟨i, _, rfl⟩ := List.mem_map.1 hr
      exact ex_lt i
    have hp := prodL_pol (m.map ex) hm
    have hsum := word_sum hc hp.lt h
    rw [xs_one n k hk (fun i hi hik => ?_)] at hsum
    · have hv : hor (prodL (m.map ex)) (ex k) 0 s ≠ 0 := by
        rw [hor_more 0 ((m.map ex).length + 1) s (by rw [List.length_map]; omega) (fun i hi => hp.zero i (by omega))]
        intro hz
        obtain ⟨i, hi, e⟩ := List.mem_map.1 ((prodL_root (ex_lt k) _ hm).1 hz)
        have hik : i ≠ k ∧ i < n := by simpa using (List.mem_filter.1 hi).2
        exact hik.1 (ex_inj (by omega) (by omega) e)
      exact gm_ne_zero (hc k) (gm_lt (ex_lt k) _) h0 (gm_ne_zero (ex_lt k) (hor_lt hp.lt _ _) (ex_pos k) hv) hsum
    · by_cases hci : c i = 0
      · rw [hci, gm_zero_left]
      · have him : i ∈ m := List.mem_filter.2 ⟨(List.mem_erase_of_ne hik).2 (hs i hi hci), by simpa using ⟨hik, hi⟩⟩
        have hz := (prodL_root (ex_lt i) _ hm).2 (List.mem_map.2 ⟨i, him, rfl⟩)
        rw [hor_more 0 ((m.map ex).length + 1) s (by rw [List.length_map]; omega) (fun i hi => hp.zero i (by omega)), hz, gm_zero_right, gm_zero_right]
end Go.Proofs.YtdjgjffgheocfaaGreat

namespace Go.Proofs.YtdjgjffgheocfaaGreat

/-- What the polynomial f, said to be L long, says wrongly of the sequence S at n. -/
def disc (f S : Nat → Nat) (L n : Nat) : Nat := xs (L + 1) (fun i => gm (f i) (S (n - i)))
/-- f, said to be L long, generates S up to n. -/
structure Gen (f : Nat → Nat) (L : Nat) (S : Nat → Nat) (n : Nat) : Prop where
  lt : ∀ i, f i < 1024
  one : f 0 = 1
  zero : ∀ i, L < i → f i = 0
  gen : ∀ j, L ≤ j → j < n → disc f S L j = 0
theorem Gen.less {f S : Nat → Nat} {L n m : Nat} (h : Gen f L S n) (hm : m ≤ n) : Gen f L S m := ⟨h.lt, h.one, h.zero, fun j h1 h2 => h.gen j h1 (by omega)⟩
theorem disc_lt {f S : Nat → Nat} (hf : ∀ i, f i < 1024) (L n : Nat) : disc f S L n < 1024 := xs_lt _ fun i _ => gm_lt (hf i) _
/-- If f fails at n, whatever generates S up to n is long. -/
theorem massey {f g S : Nat → Nat} {L M n : Nat} (hS : ∀ i, S i < 1024) (hf : Gen f L S n) (hg : Gen g M S (n + 1)) (hd : disc f S L n ≠ 0) : n + 1 ≤ L + M := by
  rcases Nat.lt_or_ge n (L + M) with h | h
  · omega
  · exfalso
    refine hd ?_
    have t1 : xs (L + 1) (fun i => gm (f i) (disc g S M (n - i))) = 0 := xs_zero _ fun i hi => by
      show gm (f i) (disc g S M (n - i)) = 0
      rw [hg.gen (n - i) (by omega) (by omega), gm_zero_right]
    have t2 : xs (L + 1) (fun i => gm (f i) (disc g S M (n - i))) = xs (M + 1) (fun k => gm (g k) (disc f S L (n - k))) := by
      have e1 : ∀ i, i < L + 1 → gm (f i) (disc g S M (n - i)) = xs (M + 1) (fun k => gm (f i) (gm (g k) (S (n - i - k)))) := fun i _ => gm_xs _ _
      have e2 : ∀ k, k < M + 1 → gm (g k) (disc f S L (n - k)) = xs (L + 1) (fun i => gm (f i) (gm (g k) (S (n - i - k)))) := fun k _ => by
        unfold disc
        rw [gm_xs]
        exact xs_congr (L + 1) fun i _ => by
          show gm (g k) (gm (f i) (S (n - k - i))) = gm (f i) (gm (g k) (S (n - i - k)))
          rw [show n - k - i = n - i - k by omega, ← gm_assoc (hg.lt _) (hf.lt _) (hS _), gm_comm (hg.lt _) (hf.lt _), gm_assoc (hf.lt _) (hg.lt _) (hS _)]
      rw [xs_congr _ e1, xs_congr _ e2, xs_swap]
    rw [t2, xs_head] at t1
    rw [xs_zero M (fun k hk => by
      show gm (g (k + 1)) (disc f S L (n - (k + 1))) = 0
      rw [hf.gen _ (by omega) (by omega), gm_zero_right]), Nat.xor_zero, hg.one, gm_one_left (disc_lt hf.lt _ _)] at t1
    exact t1

theorem xs_skip {h : Nat → Nat} (b n : Nat) (hz : ∀ i, i < b → h i = 0) : xs (b + n) h = xs n (fun i => h (b + i)) := by
  induction n with
  | zero => exact xs_zero b hz
  | succ n ih => rw [← Nat.add_assoc, xs, ih, xs]
theorem disc_more {f S : Nat → Nat} {L L2 n : Nat} (hz : ∀ i, L < i → f i = 0) (h : L ≤ L2) : disc f S L2 n = disc f S L n :=
  xs_more (L + 1) (L2 + 1) (by omega) (fun i h1 _ => by
    show gm (f i) _ = 0
    rw [hz i (by omega), gm_zero_left])
/-- c x^b f. -/
def shx (b c : Nat) (f : Nat → Nat) : Nat → Nat := fun i => if i < b then 0 else gm c (f (i - b))
theorem shx_lt {b c : Nat} {f : Nat → Nat} (hc : c < 1024) (i : Nat) : shx b c f i < 1024 := by
  unfold shx
  split
  · omega
  · exact gm_lt hc _
theorem disc_shx {f S : Nat → Nat} {b c M n : Nat} (hf : ∀ i, f i < 1024) (hS : ∀ i, S i < 1024) (hc : c < 1024) : disc (shx b c f) S (b + M) n = gm c (disc f S M (n - b)) := by
  unfold disc
  rw [gm_xs, Nat.add_assoc, xs_skip b (M + 1) (fun i hi => by
    show gm (shx b c f i) _ = 0
    unfold shx
    rw [if_pos hi, gm_zero_left])]
  exact xs_congr (M + 1) fun i _ => by
    show gm (shx b c f (b + i)) (S (n - (b + i))) = gm c (gm (f i) (S (n - b - i)))
    unfold shx
    rw [if_neg (by omega), Nat.add_sub_cancel_left, gm_assoc hc (hf _) (hS _), show n - (b + i) = n - b - i by omega]
theorem disc_padd {f g S : Nat → Nat} {L n : Nat} (hf : ∀ i, f i < 1024) (hg : ∀ i, g i < 1024) : disc (padd f g) S L n = disc f S L n ^^^ disc g S L n := by
  unfold disc
  rw [← xs_add]
  exact xs_congr (L + 1) fun i _ => gm_add_left (hf i) (hg i) _
/-- One step of Berlekamp and Massey. -/
theorem gen_step {f g S : Nat → Nat} {L M n m b c L2 : Nat} (hS : ∀ i, S i < 1024) (hf : Gen f L S n) (hg : Gen g M S m) (hb : b + m = n) (hb0 : 0 < b) (hc : c < 1024)
    (hd : gm c (disc g S M m) = disc f S L n) (h1 : L ≤ L2) (h2 : b + M ≤ L2) : Gen (padd f (shx b c g)) L2 S (n + 1) := by
  have hsz : ∀ i, b + M < i → shx b c g i = 0 := fun i hi => by
    unfold shx
    rw [if_neg (by omega), hg.zero _ (by omega), gm_zero_right]
  refine ⟨padd_lt hf.lt (shx_lt hc), ?_, fun i hi => ?_, fun j h3 h4 => ?_⟩
  · show f 0 ^^^ shx b c g 0 = 1
    unfold shx
    rw [if_pos hb0, Nat.xor_zero, hf.one]
  · show f i ^^^ shx b c g i = 0
    rw [hf.zero _ (by omega), hsz _ (by omega)]
    rfl
  · rw [disc_padd hf.lt (shx_lt hc), disc_more hf.zero h1, disc_more hsz h2, disc_shx hg.lt hS hc]
    rcases Nat.lt_or_ge j n with h | h
    · rw [hf.gen j (by omega) h, hg.gen (j - b) (by omega) (by omega), gm_zero_right]
      rfl
    · obtain rfl : j = n := by omega
      rw [show j - b = m by omega, hd, Nat.xor_self]
end Go.Proofs.YtdjgjffgheocfaaGreat

namespace Go.Proofs.YtdjgjffgheocfaaGreat

/-- What the loop holds at n. -/
structure BM (S : Nat → Nat) (n : Nat) (loc old : Nat → Nat) (long by_ last : Nat) : Prop where
  gen : Gen loc long S n
  le : long ≤ n
  olt : ∀ i, old i < 1024
  by0 : 0 < by_
  l0 : last ≠ 0
  llt : last < 1024
  was : (long = 0 ∧ last = 1 ∧ by_ = n + 1 ∧ ∀ i, 0 < i → old i = 0) ∨ ∃ m M, Gen old M S m ∧ by_ + m = n ∧ disc old S M m = last ∧ long + M = m + 1
  least : ∀ g M, Gen g M S n → long ≤ M
theorem BM.start {S f : Nat → Nat} (hf : ∀ i, f i < 1024) (h1 : f 0 = 1) (hz : ∀ i, 0 < i → f i = 0) : BM S 0 f f 0 1 1 :=
  ⟨⟨hf, h1, hz, fun j _ h => by omega⟩, by omega, hf, by omega, by omega, by omega, .inl ⟨rfl, rfl, rfl, hz⟩, fun _ _ _ => Nat.zero_le _⟩
/-- The next polynomial. -/
noncomputable def bmNext (S : Nat → Nat) (n : Nat) (loc old : Nat → Nat) (long by_ last : Nat) : Nat → Nat := padd loc (shx by_ (gm (disc loc S long n) (gi last)) old)
theorem shx_nil (b : Nat) (f : Nat → Nat) : shx b 0 f = fun _ => 0 := funext fun i => by
  unfold shx
  split
  · rfl
  · exact gm_zero_left _
theorem BM.same {S : Nat → Nat} {n : Nat} {loc old : Nat → Nat} {long by_ last : Nat} (h : BM S n loc old long by_ last) (hd : disc loc S long n = 0) :
    bmNext S n loc old long by_ last = loc ∧ BM S (n + 1) loc old long (by_ + 1) last := by
  refine ⟨?_, ⟨h.gen.lt, h.gen.one, h.gen.zero, fun j h1 h2 => ?_⟩, by have := h.le; omega, h.olt, by omega, h.l0, h.llt, ?_, fun g M hg => h.least g M (hg.less (by omega))⟩
  · unfold bmNext
    rw [hd, gm_zero_left, shx_nil]
    exact funext fun i => Nat.xor_zero _
  · rcases Nat.lt_or_ge j n with h3 | h3
    · exact h.gen.gen j h1 h3
    · obtain rfl : j = n := by omega
      exact hd
  · rcases h.was with ⟨a, b, c, d⟩ | ⟨m, M, a, b, c, d⟩
    · exact .inl ⟨a, b, by omega, d⟩
    · exact .inr ⟨m, M, a, by omega, c, d⟩
theorem BM.scale {S : Nat → Nat} {n : Nat} {loc old : Nat → Nat} {long by_ last : Nat} (h : BM S n loc old long by_ last) : gm (gm (disc loc S long n) (gi last)) last = disc loc S long n := by
  rw [gm_assoc (disc_lt h.gen.lt _ _) (gi_lt _) h.llt, gm_comm (gi_lt _) h.llt, gi_mul h.llt h.l0, gm_one_right]
theorem BM.stay {S : Nat → Nat} {n : Nat} {loc old : Nat → Nat} {long by_ last : Nat} (hS : ∀ i, S i < 1024) (h : BM S n loc old long by_ last) (h2 : n + 1 ≤ 2 * long) :
    BM S (n + 1) (bmNext S n loc old long by_ last) old long (by_ + 1) last := by
  rcases h.was with ⟨a, b, c, d⟩ | ⟨m, M, a, b, c, d⟩
  · omega
  · refine ⟨gen_step hS h.gen a b h.by0 (gm_lt (disc_lt h.gen.lt _ _) _) (by rw [c]; exact h.scale) (Nat.le_refl _) (by omega), by have := h.le; omega, h.olt, by omega, h.l0, h.llt, .inr ⟨m, M, a, by omega, c, d⟩, fun g M hg => h.least g M (hg.less (by omega))⟩
theorem BM.turn {S : Nat → Nat} {n : Nat} {loc old : Nat → Nat} {long by_ last : Nat} (hS : ∀ i, S i < 1024) (h : BM S n loc old long by_ last) (h2 : 2 * long < n + 1) (hd : disc loc S long n ≠ 0) :
    BM S (n + 1) (bmNext S n loc old long by_ last) loc (n + 1 - long) 1 (disc loc S long n) := by
  have hle := h.le
  have hc := gm_lt (disc_lt h.gen.lt (S := S) long n) (gi last)
  refine ⟨?_, by omega, h.gen.lt, by omega, hd, disc_lt h.gen.lt _ _, .inr ⟨n, long, h.gen, by omega, rfl, by omega⟩, fun g M hg => by have := massey hS h.gen hg hd; omega⟩
  rcases h.was with ⟨a, b, c, d⟩ | ⟨m, M, a, b, c, d⟩
  · refine ⟨padd_lt h.gen.lt (shx_lt hc), ?_, fun i hi => ?_, fun j h3 h4 => by omega⟩
    · show loc 0 ^^^ shx by_ _ old 0 = 1
      unfold shx
      rw [if_pos h.by0, Nat.xor_zero, h.gen.one]
    · show loc i ^^^ shx by_ _ old i = 0
      unfold shx
      rw [if_neg (by omega), d _ (by omega), gm_zero_right, h.gen.zero _ (by omega)]
      rfl
  · exact gen_step hS h.gen a b h.by0 hc (by rw [c]; exact h.scale) (by omega) (by omega)
end Go.Proofs.YtdjgjffgheocfaaGreat

namespace Go.Proofs.YtdjgjffgheocfaaGreat

/-- The wrong at places i (below n), as a sequence: the syndromes. -/
def syn (c : Nat → Nat) (n : Nat) : Nat → Nat := fun j => xs n (fun i => gm (c i) (ex (i * (j + 1))))
theorem syn_lt {c : Nat → Nat} (hc : ∀ i, c i < 1024) (n j : Nat) : syn c n j < 1024 := xs_lt _ fun i _ => gm_lt (hc i) _
/-- A polynomial's disc against the syndromes of c: each place counts by the polynomial's value at its inverse power. -/
theorem disc_syn {c f : Nat → Nat} {n L j : Nat} (hc : ∀ i, c i < 1024) (hf : ∀ i, f i < 1024) :
    disc f (syn c n) L j = xs n (fun i => gm (c i) (xs (L + 1) (fun k => gm (f k) (ex (i * (j - k + 1)))))) := by
  have e1 : ∀ k, k < L + 1 → gm (f k) (syn c n (j - k)) = xs n (fun i => gm (c i) (gm (f k) (ex (i * (j - k + 1))))) := fun k _ => by
    unfold syn
    rw [gm_xs]
    exact xs_congr n fun i _ => by
      show gm (f k) (gm (c i) (ex (i * (j - k + 1)))) = gm (c i) (gm (f k) (ex (i * (j - k + 1))))
      rw [← gm_assoc (hf _) (hc _) (ex_lt _), gm_comm (hf _) (hc _), gm_assoc (hc _) (hf _) (ex_lt _)]
  unfold disc
  rw [xs_congr _ e1, xs_swap]
  exact xs_congr n fun i _ => (gm_xs _ _).symm
/-- Powers of y. -/
def yp (y : Nat) : Nat → Nat
  | 0 => 1
  | k + 1 => gm (yp y k) y
theorem yp_lt {y : Nat} (hy : y < 1024) : ∀ k, yp y k < 1024
  | 0 => by show 1 < 1024; omega
  | k + 1 => gm_lt (yp_lt hy k) _
theorem yp_down {i y : Nat} (hy : y < 1024) (hi : gm (ex i) y = 1) : ∀ m n, m ≤ n → gm (ex (i * n)) (yp y m) = ex (i * (n - m))
  | 0, n, _ => gm_one_right _
  | m + 1, n, h => by
    show gm (ex (i * n)) (gm (yp y m) y) = ex (i * (n - (m + 1)))
    rw [← gm_assoc (ex_lt _) (yp_lt hy _) hy, yp_down hy hi m n (by omega), show n - m = (n - (m + 1)) + 1 by omega, Nat.mul_add, Nat.mul_one, ← ex_add, gm_assoc (ex_lt _) (ex_lt _) hy, hi, gm_one_right]
/-- The power i * (j - k + 1) by the inverse of the place. -/
theorem place_sum {f : Nat → Nat} {L j i y : Nat} (hf : ∀ k, f k < 1024) (hL : L ≤ j) (hy : y < 1024) (hi : gm (ex i) y = 1) :
    ∀ m, m ≤ L + 1 → xs m (fun k => gm (f k) (ex (i * (j - k + 1)))) = gm (ex (i * (j + 1))) (xs m (fun k => gm (f k) (yp y k)))
  | 0, _ => (gm_zero_right _).symm
  | m + 1, h => by
    rw [xs, place_sum hf hL hy hi m (by omega), xs, gm_add_right]
    congr 1
    show gm (f m) (ex (i * (j - m + 1))) = gm (ex (i * (j + 1))) (gm (f m) (yp y m))
    have e : gm (ex (i * (j + 1))) (yp y m) = ex (i * (j - m + 1)) := by rw [yp_down hy hi m (j + 1) (by omega), show j + 1 - m = j - m + 1 by omega]
    rw [← e, ← gm_assoc (hf _) (ex_lt _) (yp_lt hy _), gm_comm (hf _) (ex_lt _), gm_assoc (ex_lt _) (hf _) (yp_lt hy _)]

/-- F at y, L + 1 coefficients. -/
def val (f : Nat → Nat) (L y : Nat) : Nat := xs (L + 1) (fun k => gm (f k) (yp y k))
theorem val_lt {f : Nat → Nat} (hf : ∀ k, f k < 1024) (L y : Nat) : val f L y < 1024 := xs_lt _ fun k _ => gm_lt (hf k) _
/-- The inverse of place i's power. -/
noncomputable def inv (i : Nat) : Nat := gi (ex i)
theorem inv_mul (i : Nat) : gm (ex i) (inv i) = 1 := gi_mul (ex_lt i) (ex_pos i)
theorem inv_lt (i : Nat) : inv i < 1024 := gi_lt _
theorem disc_places {c f : Nat → Nat} {n L j : Nat} (hc : ∀ i, c i < 1024) (hf : ∀ i, f i < 1024) (hL : L ≤ j) :
    disc f (syn c n) L j = xs n (fun i => gm (gm (c i) (val f L (inv i))) (ex (i * (j + 1)))) := by
  rw [disc_syn hc hf]
  exact xs_congr n fun i _ => by
    show gm (c i) (xs (L + 1) (fun k => gm (f k) (ex (i * (j - k + 1))))) = gm (gm (c i) (val f L (inv i))) (ex (i * (j + 1)))
    rw [place_sum hf hL (inv_lt i) (inv_mul i) (L + 1) (Nat.le_refl _), gm_assoc (hc _) (val_lt hf _ _) (ex_lt _), gm_comm (val_lt hf _ _) (ex_lt _)]
    rfl
/-- What is nought at each wrong place's inverse generates the syndromes. -/
theorem gen_of_roots {c f : Nat → Nat} {n L N : Nat} (hc : ∀ i, c i < 1024) (hf : ∀ i, f i < 1024) (h1 : f 0 = 1) (hz : ∀ i, L < i → f i = 0) (hr : ∀ i, i < n → c i ≠ 0 → val f L (inv i) = 0) : Gen f L (syn c n) N :=
  ⟨hf, h1, hz, fun j hj _ => by
    rw [disc_places hc hf hj]
    exact xs_zero n fun i hi => by
      show gm (gm (c i) (val f L (inv i))) _ = 0
      by_cases h : c i = 0
      · rw [h, gm_zero_left, gm_zero_left]
      · rw [hr i hi h, gm_zero_right, gm_zero_left]⟩
/-- What generates the syndromes of few wrong places is nought at each one's inverse. -/
theorem roots_of_gen {c f : Nat → Nat} {n L N : Nat} (hn : n ≤ 1023) (hc : ∀ i, c i < 1024) (hg : Gen f L (syn c n) N) (l : List Nat) (hl : L + l.length ≤ N) (hs : ∀ i, i < n → c i ≠ 0 → i ∈ l) : ∀ i, i < n → c i ≠ 0 → val f L (inv i) = 0 := by
  have hw : IsWord (fun i => gm (gm (c i) (val f L (inv i))) (ex (i * L))) n (N - L) := fun j hj => by
    have := hg.gen (L + j) (by omega) (by omega)
    rw [disc_places hc hg.lt (by omega)] at this
    rw [← this]
    exact xs_congr n fun i _ => by
      show gm (gm (gm (c i) (val f L (inv i))) (ex (i * L))) (ex (i * (j + 1))) = gm (gm (c i) (val f L (inv i))) (ex (i * (L + j + 1)))
      rw [gm_assoc (gm_lt (hc i) _) (ex_lt _) (ex_lt _), ex_add, ← Nat.mul_add, Nat.add_assoc]
  intro i hi h0
  have hz := word_light hn (fun i => gm_lt (gm_lt (hc i) _) _) hw l (by omega) (fun i hi hne => hs i hi (fun h => hne (by
    show gm (gm (c i) _) _ = 0
    rw [h, gm_zero_left, gm_zero_left]))) i hi
  by_cases hv : val f L (inv i) = 0
  · exact hv
  · exact absurd hz (gm_ne_zero (gm_lt (hc i) _) (ex_lt _) (gm_ne_zero (hc i) (val_lt hg.lt _ _) h0 hv) (ex_pos _))
end Go.Proofs.YtdjgjffgheocfaaGreat

namespace Go.Proofs.YtdjgjffgheocfaaGreat

theorem hor_val {f : Nat → Nat} {y : Nat} (hf : ∀ i, f i < 1024) (hy : y < 1024) : ∀ m s, hor f y s m = xs m (fun k => gm (f (s + k)) (yp y k))
  | 0, s => rfl
  | m + 1, s => by
    rw [hor, hor_val hf hy m (s + 1), xs_head, xs_gm (fun k => gm_lt (hf _) _), Nat.xor_comm]
    congr 1
    · exact (gm_one_right _).symm
    · exact xs_congr m fun k _ => by
        show gm (gm (f (s + 1 + k)) (yp y k)) y = gm (f (s + (k + 1))) (gm (yp y k) y)
        rw [gm_assoc (hf _) (yp_lt hy _) hy, show s + 1 + k = s + (k + 1) by omega]
theorem val_hor {f : Nat → Nat} {L y : Nat} (hf : ∀ i, f i < 1024) (hy : y < 1024) : val f L y = hor f y 0 (L + 1) := by
  rw [hor_val hf hy]
  exact xs_congr (L + 1) fun k _ => by
    show gm (f k) (yp y k) = gm (f (0 + k)) (yp y k)
    rw [Nat.zero_add]
/-- The locator of the places l. -/
noncomputable def locOf (l : List Nat) : Nat → Nat := scl (gi (prodL (l.map inv) 0)) (prodL (l.map inv))
theorem prodL_zero : ∀ (l : List Nat), (∀ r ∈ l, r < 1024 ∧ r ≠ 0) → prodL l 0 ≠ 0
  | [], _ => by
    show (if 0 = 0 then 1 else 0) ≠ 0
    rw [if_pos rfl]
    omega
  | r :: l, h => by
    have hr := h r (List.mem_cons_self ..)
    have hp := prodL_pol l (fun x hx => (h x (List.mem_cons_of_mem _ hx)).1)
    have ih := prodL_zero l (fun x hx => h x (List.mem_cons_of_mem _ hx))
    have e : prodL (r :: l) 0 = gm (prodL l 0) r := by
      show pmul (prodL l) (linR r) 0 = gm (prodL l 0) r
      show 0 ^^^ gm (prodL l 0) (linR r (0 - 0)) = gm (prodL l 0) r
      rw [Nat.zero_xor]
      rfl
    rw [e]
    exact gm_ne_zero (hp.lt 0) hr.1 ih hr.2
theorem inv_ne (i : Nat) : inv i ≠ 0 := gi_ne_zero (ex_pos i)
theorem inv_all (l : List Nat) : ∀ r ∈ l.map inv, r < 1024 ∧ r ≠ 0 := fun r hr => by
  obtain ⟨i, _, rfl⟩ := List.mem_map.1 hr
  exact ⟨inv_lt i, inv_ne i⟩
/-- The locator generates the syndromes of a word that is wrong at its places alone. -/
theorem gen_locOf {c : Nat → Nat} {n N : Nat} (hc : ∀ i, c i < 1024) (l : List Nat) (hs : ∀ i, i < n → c i ≠ 0 → i ∈ l) : Gen (locOf l) l.length (syn c n) N := by
  have ha := inv_all l
  have hp := prodL_pol (l.map inv) (fun r hr => (ha r hr).1)
  have h0 := prodL_zero (l.map inv) ha
  rw [List.length_map] at hp
  refine gen_of_roots hc (fun i => gm_lt (gi_lt _) _) ?_ (fun i hi => ?_) (fun i hi hci => ?_)
  · show gm (gi (prodL (l.map inv) 0)) (prodL (l.map inv) 0) = 1
    rw [gm_comm (gi_lt _) (hp.lt 0), gi_mul (hp.lt 0) h0]
  · show gm _ (prodL (l.map inv) i) = 0
    rw [hp.zero i (by omega), gm_zero_right]
  · rw [val_hor (f := locOf l) (fun i => gm_lt (gi_lt _) _) (inv_lt i)]
    show hor (scl _ (prodL (l.map inv))) (inv i) 0 (l.length + 1) = 0
    rw [hor_scl hp.lt (gi_lt _) (inv_lt i)]
    have := (prodL_root (inv_lt i) (l.map inv) (fun r hr => (ha r hr).1)).2 (List.mem_map.2 ⟨i, hs i hi hci, rfl⟩)
    rw [List.length_map] at this
    rw [this, gm_zero_right]
end Go.Proofs.YtdjgjffgheocfaaGreat

namespace Go.Proofs.YtdjgjffgheocfaaGreat

/-- The quotient by x + r. -/
def qr (f : Nat → Nat) (r d : Nat) : Nat → Nat := fun j => hor f r (j + 1) (d - j)
theorem qr_lt {f : Nat → Nat} (hf : ∀ i, f i < 1024) (r d j : Nat) : qr f r d j < 1024 := hor_lt hf _ _
theorem qr_split {f : Nat → Nat} {r d : Nat} (hf : ∀ i, f i < 1024) (hz : ∀ i, d < i → f i = 0) (hr : r < 1024) (h0 : hor f r 0 (d + 1) = 0) : f = padd (mulx (qr f r d)) (scl r (qr f r d)) := funext fun j => by
  show f j = mulx (qr f r d) j ^^^ gm r (qr f r d j)
  have hH : ∀ j, j ≤ d → hor f r j (d + 1 - j) = gm (qr f r d j) r ^^^ f j := fun j hj => by
    rw [show d + 1 - j = (d - j) + 1 by omega, hor]
    rfl
  rw [gm_comm hr (qr_lt hf _ _ _)]
  rcases Nat.lt_or_ge d j with h | h
  · rw [hz j h]
    have e1 : qr f r d j = 0 := by
      unfold qr
      rw [show d - j = 0 by omega]
      rfl
    have e2 : mulx (qr f r d) j = 0 := by
      unfold mulx
      rw [if_neg (by omega)]
      exact hor_zero _ _ (fun i hi => hz i (by omega))
    rw [e1, e2, gm_zero_left]
    rfl
  · have e := hH j h
    rcases j with _ | j
    · rw [show d + 1 - 0 = d + 1 by omega, h0] at e
      rw [show mulx (qr f r d) 0 = 0 from rfl, Nat.zero_xor]
      exact (xor_eq_zero e.symm).symm
    · have e2 : mulx (qr f r d) (j + 1) = hor f r (j + 1) (d + 1 - (j + 1)) := by
        unfold mulx qr
        rw [if_neg (by omega), Nat.add_sub_cancel, show d + 1 - (j + 1) = d - j by omega]
      rw [e2, e, Nat.xor_comm (gm _ _), xor_cancel_right]
theorem few_roots : ∀ (d : Nat) (f : Nat → Nat) (l : List Nat), (∀ i, f i < 1024) → (∀ i, d < i → f i = 0) → l.Nodup → (∀ r ∈ l, r < 1024 ∧ hor f r 0 (d + 1) = 0) → d < l.length → ∀ i, f i = 0
  | d, f, [], _, _, _, _, hl => by simp at hl
  | 0, f, r :: l, hf, hz, _, hr, _ => fun i => by
    rcases i with _ | i
    · have := (hr r (List.mem_cons_self ..)).2
      rw [show hor f r 0 (0 + 1) = gm 0 r ^^^ f 0 from rfl, gm_zero_left, Nat.zero_xor] at this
      exact this
    · exact hz _ (by omega)
  | d + 1, f, r :: l, hf, hz, hn, hr, hl => by
    have h0 := hr r (List.mem_cons_self ..)
    have hs := qr_split hf hz h0.1 h0.2
    have hq := qr_lt hf r (d + 1)
    have hqz : ∀ i, d < i → qr f r (d + 1) i = 0 := fun i hi => by
      unfold qr
      exact hor_zero _ _ (fun k hk => hz k (by omega))
    have hq0 := few_roots d (qr f r (d + 1)) l hq hqz (List.nodup_cons.1 hn).2 (fun x hx => by
      have hxx := hr x (List.mem_cons_of_mem _ hx)
      refine ⟨hxx.1, ?_⟩
      have e := hxx.2
      rw [hs, hor_padd (mulx_lt hq) (scl_lt h0.1), hor_mulx, hor_scl hq h0.1 hxx.1, hor_more 0 (d + 1) (d + 1 + 1) (by omega) (fun i hi => hqz i (by omega)), gm_comm h0.1 (hor_lt hq _ _), ← gm_add_right] at e
      by_cases hv : hor (qr f r (d + 1)) x 0 (d + 1) = 0
      · exact hv
      · have hne : x ^^^ r ≠ 0 := fun h => (List.nodup_cons.1 hn).1 (xor_eq_zero h ▸ hx)
        exact absurd e (gm_ne_zero (hor_lt hq _ _) (xor_lt hxx.1 h0.1) hv hne)) (by simpa using hl)
    intro i
    rw [hs]
    show mulx (qr f r (d + 1)) i ^^^ gm r (qr f r (d + 1) i) = 0
    rw [hq0 i, gm_zero_right, Nat.xor_zero]
    unfold mulx
    split
    · rfl
    · exact hq0 _
end Go.Proofs.YtdjgjffgheocfaaGreat

namespace Go.Proofs.YtdjgjffgheocfaaGreat

theorem inv_inj {i j : Nat} (hi : i < 1023) (hj : j < 1023) (h : inv i = inv j) : i = j := by
  refine ex_inj hi hj (gm_cancel (inv_lt i) (ex_lt i) (ex_lt j) (inv_ne i) ?_)
  rw [gm_comm (inv_lt i) (ex_lt i), inv_mul, h, gm_comm (inv_lt j) (ex_lt j), inv_mul]
theorem inv_nodup {l : List Nat} (hn : l.Nodup) (hl : ∀ i ∈ l, i < 1023) : (l.map inv).Nodup :=
  List.pairwise_map.2 (List.Pairwise.imp_of_mem (fun {a b} ha hb hab h => hab (inv_inj (hl a ha) (hl b hb) h)) hn)
/-- At most eight wrong places, l: the loop's polynomial is as long as they are many, and just they are its roots. -/
theorem bm_found {c loc old : Nat → Nat} {n long by_ last : Nat} (hn : n ≤ 1023) (hc : ∀ i, c i < 1024) (l : List Nat) (hd : l.Nodup) (hl8 : l.length ≤ 8) (hl : ∀ i, i ∈ l ↔ i < n ∧ c i ≠ 0) (h : BM (syn c n) 16 loc old long by_ last) :
    long = l.length ∧ ∀ i, i < n → (val loc long (inv i) = 0 ↔ i ∈ l) := by
  have h1 : long ≤ l.length := h.least _ _ (gen_locOf hc l (fun i hi h0 => (hl i).2 ⟨hi, h0⟩))
  have hr : ∀ i, i ∈ l → val loc long (inv i) = 0 := fun i hi => roots_of_gen hn hc h.gen l (by omega) (fun i hi h0 => (hl i).2 ⟨hi, h0⟩) i ((hl i).1 hi).1 ((hl i).1 hi).2
  have few : ∀ m : List Nat, m.Nodup → (∀ i ∈ m, i < 1023 ∧ val loc long (inv i) = 0) → m.length ≤ long := fun m hm hv => by
    rcases Nat.lt_or_ge long m.length with hlt | hge
    · exfalso
      have := few_roots long loc (m.map inv) h.gen.lt h.gen.zero (inv_nodup hm (fun i hi => (hv i hi).1)) (fun r hr => by
        obtain ⟨i, hi, rfl⟩ := List.mem_map.1 hr
        exact ⟨inv_lt i, by rw [← val_hor h.gen.lt (inv_lt i)]; exact (hv i hi).2⟩) (by rw [List.length_map]; exact hlt) 0
      rw [h.gen.one] at this
      omega
    · exact hge
  have h2 := few l hd (fun i hi => ⟨by have := ((hl i).1 hi).1; omega, hr i hi⟩)
  refine ⟨by omega, fun i hi => ⟨fun hv => ?_, hr i⟩⟩
  by_cases hil : i ∈ l
  · exact hil
  · have := few (i :: l) (List.nodup_cons.2 ⟨hil, hd⟩) (fun j hj => by
      rcases List.mem_cons.1 hj with rfl | hj
      · exact ⟨by omega, hv⟩
      · exact ⟨by have := ((hl j).1 hj).1; omega, hr j hj⟩)
    rw [List.length_cons] at this
    omega
end Go.Proofs.YtdjgjffgheocfaaGreat

namespace Go.Proofs.YtdjgjffgheocfaaGreat

/-- A partial value by X: R j = f 0 X^j + .. + f j. -/
def run (f : Nat → Nat) (X : Nat) : Nat → Nat
  | 0 => f 0
  | j + 1 => gm (run f X j) X ^^^ f (j + 1)
theorem run_lt {f : Nat → Nat} (hf : ∀ i, f i < 1024) (X : Nat) : ∀ j, run f X j < 1024
  | 0 => hf 0
  | j + 1 => xor_lt (gm_lt (run_lt hf X j) X) (hf _)
/-- (1 + X y) (R 0 + R 1 y + .. + R (N - 1) y^(N-1)) = f 0 + .. + f (N-1) y^(N-1) + y^N X R (N - 1). -/
theorem run_sum {f : Nat → Nat} {X y : Nat} (hf : ∀ i, f i < 1024) (hX : X < 1024) (hy : y < 1024) : ∀ N,
    gm (xs (N + 1) (fun j => gm (run f X j) (yp y j))) (1 ^^^ gm X y) = xs (N + 1) (fun j => gm (f j) (yp y j)) ^^^ gm (gm (run f X N) X) (yp y (N + 1))
  | 0 => by
    show gm (0 ^^^ gm (f 0) 1) (1 ^^^ gm X y) = (0 ^^^ gm (f 0) 1) ^^^ gm (gm (f 0) X) (gm 1 y)
    rw [Nat.zero_xor, gm_one_right, gm_add_right, gm_one_right, gm_one_left hy, gm_assoc (hf 0) hX hy]
  | N + 1 => by
    have hr := run_lt hf X N
    have hr1 := run_lt hf X (N + 1)
    have hp := yp_lt hy (N + 1)
    rw [show xs (N + 1 + 1) (fun j => gm (run f X j) (yp y j)) = xs (N + 1) (fun j => gm (run f X j) (yp y j)) ^^^ gm (run f X (N + 1)) (yp y (N + 1)) from rfl, gm_add_left (xs_lt _ (fun i _ => gm_lt (run_lt hf X i) _)) (gm_lt hr1 _), run_sum hf hX hy N, gm_add_right (gm _ _) 1, gm_one_right, show xs (N + 1 + 1) (fun j => gm (f j) (yp y j)) = xs (N + 1) (fun j => gm (f j) (yp y j)) ^^^ gm (f (N + 1)) (yp y (N + 1)) from rfl]
    have e1 : gm (run f X (N + 1)) (yp y (N + 1)) = gm (gm (run f X N) X) (yp y (N + 1)) ^^^ gm (f (N + 1)) (yp y (N + 1)) := gm_add_left (gm_lt hr _) (hf _) _
    have e2 : gm (gm (run f X (N + 1)) (yp y (N + 1))) (gm X y) = gm (gm (run f X (N + 1)) X) (yp y (N + 1 + 1)) := by
      show _ = gm (gm (run f X (N + 1)) X) (gm (yp y (N + 1)) y)
      rw [gm_assoc hr1 hp (gm_lt hX _), gm_assoc hr1 hX (gm_lt hp _), ← gm_assoc hp hX hy, gm_comm hp hX, gm_assoc hX hp hy]
    rw [e2, e1]
    generalize xs (N + 1) (fun j => gm (f j) (yp y j)) = A
    generalize gm (gm (run f X N) X) (yp y (N + 1)) = B
    generalize gm (f (N + 1)) (yp y (N + 1)) = C
    generalize gm (gm (run f X (N + 1)) X) (yp y (N + 1 + 1)) = D
    rw [Nat.xor_assoc A B, ← Nat.xor_assoc B _ D, ← Nat.xor_assoc B B C, Nat.xor_self, Nat.zero_xor, Nat.xor_assoc A C D]
/-- At y = 1 / X the run is the value so far. -/
theorem run_inv {f : Nat → Nat} {i y : Nat} (hf : ∀ i, f i < 1024) (hy : y < 1024) (hi : gm (ex i) y = 1) : ∀ j, gm (run f (ex i) j) (yp y j) = xs (j + 1) (fun k => gm (f k) (yp y k))
  | 0 => by
    show gm (f 0) 1 = 0 ^^^ gm (f 0) 1
    rw [Nat.zero_xor]
  | j + 1 => by
    have hr := run_lt hf (ex i) j
    rw [xs, ← run_inv hf hy hi j]
    show gm (gm (run f (ex i) j) (ex i) ^^^ f (j + 1)) (gm (yp y j) y) = _
    rw [gm_add_left (gm_lt hr _) (hf _)]
    congr 1
    rw [gm_assoc hr (ex_lt i) (gm_lt (yp_lt hy j) _), ← gm_assoc (ex_lt i) (yp_lt hy j) hy, gm_comm (ex_lt i) (yp_lt hy j), gm_assoc (yp_lt hy j) (ex_lt i) hy, hi, gm_one_right]
/-- The sums so far, two by two: what is left are the odd ones. -/
theorem pair_sum (h : Nat → Nat) : ∀ N, xs (2 * N) (fun j => xs (j + 1) h) = xs N (fun a => h (2 * a + 1))
  | 0 => rfl
  | N + 1 => by
    show xs (2 * N) _ ^^^ xs (2 * N + 1) h ^^^ xs (2 * N + 1 + 1) h = xs N _ ^^^ h (2 * N + 1)
    rw [pair_sum h N, show xs (2 * N + 1 + 1) h = xs (2 * N + 1) h ^^^ h (2 * N + 1) from rfl, Nat.xor_assoc, xor_cancel]
/-- The slope at y, by its odd coefficients. -/
theorem slope_val {f : Nat → Nat} {y : Nat} : ∀ N, xs (2 * N) (fun k => gm (pslope f k) (yp y k)) = xs N (fun a => gm (f (2 * a + 1)) (yp y (2 * a)))
  | 0 => rfl
  | N + 1 => by
    show xs (2 * N) _ ^^^ gm (pslope f (2 * N)) (yp y (2 * N)) ^^^ gm (pslope f (2 * N + 1)) (yp y (2 * N + 1)) = _ ^^^ gm (f (2 * N + 1)) (yp y (2 * N))
    rw [slope_val N, show pslope f (2 * N) = f (2 * N + 1) from if_pos (by omega), show pslope f (2 * N + 1) = 0 from if_neg (by omega), gm_zero_left, Nat.xor_zero]

/-- The product's coefficient, place by place. -/
theorem pmul_syn {c f : Nat → Nat} {n : Nat} (hc : ∀ i, c i < 1024) (hf : ∀ i, f i < 1024) (j : Nat) :
    pmul f (syn c n) j = xs n (fun i => gm (c i) (gm (ex i) (run f (ex i) j))) := by
  have e1 : ∀ k, k < j + 1 → gm (f k) (syn c n (j - k)) = xs n (fun i => gm (c i) (gm (f k) (ex (i * (j - k + 1))))) := fun k _ => by
    unfold syn
    rw [gm_xs]
    exact xs_congr n fun i _ => by
      show gm (f k) (gm (c i) (ex (i * (j - k + 1)))) = gm (c i) (gm (f k) (ex (i * (j - k + 1))))
      rw [← gm_assoc (hf _) (hc _) (ex_lt _), gm_comm (hf _) (hc _), gm_assoc (hc _) (hf _) (ex_lt _)]
  have e2 : ∀ i j, xs (j + 1) (fun k => gm (f k) (ex (i * (j - k + 1)))) = gm (ex i) (run f (ex i) j) := fun i j => by
    induction j with
    | zero =>
      show 0 ^^^ gm (f 0) (ex (i * 1)) = gm (ex i) (f 0)
      rw [Nat.zero_xor, Nat.mul_one, gm_comm (hf 0) (ex_lt i)]
    | succ j ih =>
      have e3 : xs (j + 1) (fun k => gm (f k) (ex (i * (j + 1 - k + 1)))) = gm (ex i) (xs (j + 1) (fun k => gm (f k) (ex (i * (j - k + 1))))) := by
        rw [gm_xs]
        exact xs_congr (j + 1) fun k hk => by
          show gm (f k) (ex (i * (j + 1 - k + 1))) = gm (ex i) (gm (f k) (ex (i * (j - k + 1))))
          rw [← gm_assoc (ex_lt i) (hf _) (ex_lt _), gm_comm (ex_lt i) (hf _), gm_assoc (hf _) (ex_lt i) (ex_lt _), ex_add, show j + 1 - k + 1 = 1 + (j - k + 1) by omega, Nat.mul_add i 1, Nat.mul_one]
      rw [xs, e3, ih, show j + 1 - (j + 1) + 1 = 1 by omega, Nat.mul_one]
      show gm (ex i) (gm (ex i) (run f (ex i) j)) ^^^ gm (f (j + 1)) (ex i) = gm (ex i) (gm (run f (ex i) j) (ex i) ^^^ f (j + 1))
      rw [gm_add_right, gm_comm (ex_lt i) (run_lt hf _ _), gm_comm (hf _) (ex_lt i)]
  unfold pmul
  rw [xs_congr _ e1, xs_swap]
  exact xs_congr n fun i _ => by
    show xs (j + 1) (fun k => gm (c i) (gm (f k) (ex (i * (j - k + 1))))) = _
    rw [← gm_xs, e2]
theorem disc_pmul {f S : Nat → Nat} {L n : Nat} (hz : ∀ i, L < i → f i = 0) (h : L ≤ n) : disc f S L n = pmul f S n :=
  (xs_more (L + 1) (n + 1) (by omega) (fun i h1 _ => by
    show gm (f i) _ = 0
    rw [hz i (by omega), gm_zero_left])).symm
/-- Forney: f is nought at each wrong place and at the place k: the evaluator there is what is wrong, times the slope. -/
theorem forney {c f : Nat → Nat} {n L k : Nat} (hn : n ≤ 1023) (hc : ∀ i, c i < 1024) (hf : ∀ i, f i < 1024) (hz : ∀ i, L < i → f i = 0) (hL : L ≤ 15) (hk : k < n)
    (hr : ∀ i, i < n → c i ≠ 0 → val f L (inv i) = 0) (hrk : val f L (inv k) = 0) :
    xs 16 (fun j => gm (pmul f (syn c n) j) (yp (inv k) j)) = gm (c k) (xs 16 (fun j => gm (pslope f j) (yp (inv k) j))) := by
  have hy := inv_lt k
  have hval : ∀ i, val f L (inv i) = xs 16 (fun k => gm (f k) (yp (inv i) k)) := fun i =>
    (xs_more (L + 1) 16 (by omega) (fun m h1 _ => by
      show gm (f m) _ = 0
      rw [hz m (by omega), gm_zero_left])).symm
  have hG : ∀ i j, gm (c i) (gm (ex i) (run f (ex i) j)) < 1024 := fun i j => gm_lt (hc i) _
  have e1 : ∀ j, j < 16 → gm (pmul f (syn c n) j) (yp (inv k) j) = xs n (fun i => gm (gm (c i) (ex i)) (gm (run f (ex i) j) (yp (inv k) j))) := fun j _ => by
    rw [pmul_syn hc hf, xs_gm (hG · j)]
    exact xs_congr n fun i _ => by
      have hrn := run_lt hf (ex i) j
      show gm (gm (c i) (gm (ex i) (run f (ex i) j))) (yp (inv k) j) = gm (gm (c i) (ex i)) (gm (run f (ex i) j) (yp (inv k) j))
      rw [← gm_assoc (hc i) (ex_lt i) hrn, gm_assoc (gm_lt (hc i) _) hrn (yp_lt hy j)]
  rw [xs_congr 16 e1, xs_swap]
  have e2 : ∀ i, xs 16 (fun j => gm (gm (c i) (ex i)) (gm (run f (ex i) j) (yp (inv k) j))) = gm (gm (c i) (ex i)) (xs 16 (fun j => gm (run f (ex i) j) (yp (inv k) j))) := fun i => (gm_xs _ _).symm
  rw [xs_one n k hk (fun i hi hik => ?_)]
  · show xs 16 (fun j => gm (gm (c k) (ex k)) (gm (run f (ex k) j) (yp (inv k) j))) = _
    rw [e2, xs_congr 16 (fun j _ => run_inv hf hy (inv_mul k) j), pair_sum _ 8, slope_val 8, gm_assoc (hc k) (ex_lt k) (xs_lt _ (fun a _ => gm_lt (hf _) _)), gm_xs]
    congr 1
    exact xs_congr 8 fun a _ => by
      have hp := yp_lt hy (2 * a)
      show gm (ex k) (gm (f (2 * a + 1)) (gm (yp (inv k) (2 * a)) (inv k))) = gm (f (2 * a + 1)) (yp (inv k) (2 * a))
      rw [← gm_assoc (ex_lt k) (hf _) (gm_lt hp _), gm_comm (ex_lt k) (hf _), gm_assoc (hf _) (ex_lt k) (gm_lt hp _), ← gm_assoc (ex_lt k) hp hy, gm_comm (ex_lt k) hp, gm_assoc hp (ex_lt k) hy, inv_mul, gm_one_right]
  · rw [e2]
    by_cases h0 : c i = 0
    · rw [h0, gm_zero_left, gm_zero_left]
    · have hs := run_sum hf (ex_lt i) hy 15
      have hri := hr i hi h0
      rw [hval] at hri hrk
      have hend : run f (ex i) 15 = 0 := by
        have := run_inv hf (inv_lt i) (inv_mul i) 15
        rw [hri] at this
        by_cases h : run f (ex i) 15 = 0
        · exact h
        · refine absurd this (gm_ne_zero (run_lt hf _ _) (yp_lt (inv_lt i) _) h ?_)
          have : ∀ m, yp (inv i) m ≠ 0 := fun m => by
            induction m with
            | zero => show 1 ≠ 0; omega
            | succ m ih => exact gm_ne_zero (yp_lt (inv_lt i) _) (inv_lt i) ih (inv_ne i)
          exact this 15
      rw [hend, gm_zero_left, gm_zero_left, Nat.xor_zero, hrk] at hs
      have hne : 1 ^^^ gm (ex i) (inv k) ≠ 0 := fun e => by
        have e3 : gm (ex i) (inv k) = 1 := (xor_eq_zero e).symm
        refine hik (ex_inj (by omega) (by omega) (gm_cancel (inv_lt k) (ex_lt i) (ex_lt k) (inv_ne k) ?_))
        rw [gm_comm (inv_lt k) (ex_lt i), e3, gm_comm (inv_lt k) (ex_lt k), inv_mul]
      by_cases hx : xs 16 (fun j => gm (run f (ex i) j) (yp (inv k) j)) = 0
      · rw [hx, gm_zero_right]
      · exact absurd hs (gm_ne_zero (xs_lt _ (fun j _ => gm_lt (run_lt hf _ _) _)) (xor_lt (by omega) (gm_lt (ex_lt i) _)) hx hne)
/-- A polynomial of a degree not above the number of its roots in l has a slope there that is not nought. -/
theorem slope_ne {f : Nat → Nat} {d : Nat} (hf : ∀ i, f i < 1024) (hz : ∀ i, d < i → f i = 0) (h1 : ∃ i, f i ≠ 0) (l : List Nat) (hn : l.Nodup) (hl : l.length = d) (hr : ∀ r ∈ l, r < 1024 ∧ hor f r 0 (d + 1) = 0) (r : Nat) (hrl : r ∈ l) :
    hor (pslope f) r 0 (d + 1) ≠ 0 := by
  have h0 := hr r hrl
  obtain ⟨d, rfl⟩ : ∃ k, d = k + 1 := ⟨d - 1, by have := List.length_pos_of_mem hrl; omega⟩
  have hs := qr_split hf hz h0.1 h0.2
  have hq := qr_lt hf r (d + 1)
  have hqz : ∀ i, d < i → qr f r (d + 1) i = 0 := fun i hi => by
    unfold qr
    exact hor_zero _ _ (fun k hk => hz k (by omega))
  have hval : ∀ x, x < 1024 → hor f x 0 (d + 1 + 1) = gm (hor (qr f r (d + 1)) x 0 (d + 1)) (x ^^^ r) := fun x hx => by
    have e : hor f x 0 (d + 1 + 1) = hor (padd (mulx (qr f r (d + 1))) (scl r (qr f r (d + 1)))) x 0 (d + 1 + 1) := by rw [← hs]
    rw [e, hor_padd (mulx_lt hq) (scl_lt h0.1), hor_mulx, hor_scl hq h0.1 hx, hor_more 0 (d + 1) (d + 1 + 1) (by omega) (fun i hi => hqz i (by omega)), gm_comm h0.1 (hor_lt hq _ _), ← gm_add_right]
  have hsl : hor (pslope f) r 0 (d + 1 + 1) = hor (qr f r (d + 1)) r 0 (d + 1) := by
    have e : pslope f = padd (padd (qr f r (d + 1)) (mulx (pslope (qr f r (d + 1))))) (scl r (pslope (qr f r (d + 1)))) := by
      rw [← slope_mulx, ← slope_scl, ← slope_padd, ← hs]
    have hsq := slope_lt hq
    have hsz : ∀ i, d + 1 ≤ i → pslope (qr f r (d + 1)) i = 0 := fun i hi => by
      unfold pslope
      split
      · exact hqz _ (by omega)
      · rfl
    rw [e, hor_padd (padd_lt hq (mulx_lt hsq)) (scl_lt h0.1), hor_padd hq (mulx_lt hsq), hor_mulx, hor_scl hsq h0.1 h0.1, hor_more 0 (d + 1) (d + 1 + 1) (by omega) (fun i hi => hqz i (by omega)), hor_more 0 (d + 1) (d + 1 + 1) (by omega) (fun i hi => hsz i (by omega)), gm_comm h0.1 (hor_lt hsq _ _), Nat.xor_assoc, Nat.xor_self, Nat.xor_zero]
  rw [hsl]
  intro hq0
  have hall := few_roots d (qr f r (d + 1)) l hq hqz hn (fun x hx => by
    have hxx := hr x hx
    refine ⟨hxx.1, ?_⟩
    by_cases hxr : x = r
    · rw [hxr]; exact hq0
    · have e := hxx.2
      rw [hval x hxx.1] at e
      by_cases hv : hor (qr f r (d + 1)) x 0 (d + 1) = 0
      · exact hv
      · exact absurd e (gm_ne_zero (hor_lt hq _ _) (xor_lt hxx.1 h0.1) hv (fun h => hxr (xor_eq_zero h)))) (by omega)
  obtain ⟨i, hi⟩ := h1
  refine hi ?_
  rw [hs]
  show mulx (qr f r (d + 1)) i ^^^ gm r (qr f r (d + 1) i) = 0
  rw [hall i, gm_zero_right, Nat.xor_zero]
  unfold mulx
  split
  · rfl
  · exact hall _
end Go.Proofs.YtdjgjffgheocfaaGreat

namespace Go.Proofs.YtdjgjffgheocfaaGreat

theorem pmul_scl (c : Nat) {f g : Nat → Nat} (hc : c < 1024) (hf : ∀ i, f i < 1024) (hg : ∀ i, g i < 1024) : pmul (scl c f) g = scl c (pmul f g) := funext fun k => by
  show xs (k + 1) (fun i => gm (gm c (f i)) (g (k - i))) = gm c (xs (k + 1) fun i => gm (f i) (g (k - i)))
  rw [gm_xs]
  exact xs_congr (k + 1) fun i _ => gm_assoc hc (hf i) (hg _)
theorem pmul_assoc {g h : Nat → Nat} (hg : ∀ i, g i < 1024) (hh : ∀ i, h i < 1024) : ∀ (n : Nat) (f : Nat → Nat), (∀ i, f i < 1024) → (∀ i, n ≤ i → f i = 0) → pmul (pmul f g) h = pmul f (pmul g h)
  | 0, f, hf, hz => by
    rw [show f = fun _ => 0 from funext fun i => hz i (by omega), pmul_nil_left, pmul_nil_left, pmul_nil_left]
  | n + 1, f, hf, hz => by
    have ih := pmul_assoc hg hh n (shf f) (shf_lt hf) (fun i hi => hz _ (by omega))
    rw [pmul_step f g, pmul_add_left (scl_lt (hf 0)) (mulx_lt (pmul_lt (shf_lt hf))), pmul_scl _ (hf 0) hg hh, pmul_mulx, ih, ← pmul_step f (pmul g h)]
/-- Below 16 a product hangs on what is below 16. -/
theorem pmul_low {f g h : Nat → Nat} {j : Nat} (hj : j < 16) (e : ∀ i, i < 16 → g i = h i) : pmul f g j = pmul f h j :=
  xs_congr (j + 1) fun i hi => by rw [e (j - i) (by omega)]

/-- What the loop of divisions holds. -/
structure Euc (S a b u v : Nat → Nat) (la lb lu lv : Nat) : Prop where
  pa : IsPol a la
  pb : IsPol b lb
  pu : IsPol u lu
  pv : IsPol v lv
  down : lb < la
  v0 : lu < lv
  sum : lv + la = 18
  av : ∀ j, j < 16 → pmul v S j = b j
  au : ∀ j, j < 16 → pmul u S j = a j
  big : 9 ≤ la
theorem IsPol.ne {f : Nat → Nat} {n : Nat} (h : IsPol f n) (h0 : 0 < n) : ∃ i, f i ≠ 0 := ⟨n - 1, h.lead h0⟩

theorem roots_of_gen' {c f : Nat → Nat} {n L N : Nat} (hn : n ≤ 1023) (hc : ∀ i, c i < 1024) (hf : ∀ i, f i < 1024) (hg : ∀ j, L ≤ j → j < N → disc f (syn c n) L j = 0) (l : List Nat) (hl : L + l.length ≤ N) (hs : ∀ i, i < n → c i ≠ 0 → i ∈ l) : ∀ i, i < n → c i ≠ 0 → val f L (inv i) = 0 := by
  have hw : IsWord (fun i => gm (gm (c i) (val f L (inv i))) (ex (i * L))) n (N - L) := fun j hj => by
    have := hg (L + j) (by omega) (by omega)
    rw [disc_places hc hf (by omega)] at this
    rw [← this]
    exact xs_congr n fun i _ => by
      show gm (gm (gm (c i) (val f L (inv i))) (ex (i * L))) (ex (i * (j + 1))) = gm (gm (c i) (val f L (inv i))) (ex (i * (L + j + 1)))
      rw [gm_assoc (gm_lt (hc i) _) (ex_lt _) (ex_lt _), ex_add, ← Nat.mul_add, Nat.add_assoc]
  intro i hi h0
  have hz := word_light hn (fun i => gm_lt (gm_lt (hc i) _) _) hw l (by omega) (fun i hi hne => hs i hi (fun h => hne (by
    show gm (gm (c i) _) _ = 0
    rw [h, gm_zero_left, gm_zero_left]))) i hi
  by_cases hv : val f L (inv i) = 0
  · exact hv
  · exact absurd hz (gm_ne_zero (gm_lt (hc i) _) (ex_lt _) (gm_ne_zero (hc i) (val_lt hf _ _) h0 hv) (ex_pos _))
theorem val_more {f : Nat → Nat} {L M y : Nat} (hz : ∀ i, L < i → f i = 0) (h : L ≤ M) : val f M y = val f L y :=
  xs_more (L + 1) (M + 1) (by omega) (fun i h1 _ => by
    show gm (f i) _ = 0
    rw [hz i (by omega), gm_zero_left])
theorem gen_of_roots' {c f : Nat → Nat} {n L j : Nat} (hc : ∀ i, c i < 1024) (hf : ∀ i, f i < 1024) (hr : ∀ i, i < n → c i ≠ 0 → val f L (inv i) = 0) (hj : L ≤ j) : disc f (syn c n) L j = 0 := by
  rw [disc_places hc hf hj]
  exact xs_zero n fun i hi => by
    show gm (gm (c i) (val f L (inv i))) _ = 0
    by_cases h : c i = 0
    · rw [h, gm_zero_left, gm_zero_left]
    · rw [hr i hi h, gm_zero_right, gm_zero_left]

/-- At most eight wrong places, l: the last divisor has just these as its roots, and no more. -/
theorem euc_found {c a b u v : Nat → Nat} {n la lb lu lv : Nat} (hn : n ≤ 1023) (hc : ∀ i, c i < 1024) (l : List Nat) (hd : l.Nodup) (hl8 : l.length ≤ 8) (hl : ∀ i, i ∈ l ↔ i < n ∧ c i ≠ 0) (h : Euc (syn c n) a b u v la lb lu lv) (hb : lb ≤ 8) :
    lv = l.length + 1 ∧ ∀ i, i < n → (val v (lv - 1) (inv i) = 0 ↔ i ∈ l) := by
  have hsum := h.sum
  have hbig := h.big
  have hv0 := h.v0
  have hls : ∀ i, i < n → c i ≠ 0 → i ∈ l := fun i hi h0 => (hl i).2 ⟨hi, h0⟩
  have hvz : ∀ i, lv - 1 < i → v i = 0 := fun i hi => h.pv.zero i (by omega)
  have hr : ∀ i, i ∈ l → val v (lv - 1) (inv i) = 0 := fun i hi => by
    rw [← val_more (M := 8) hvz (by omega)]
    exact roots_of_gen' (N := 16) hn hc h.pv.lt (fun j h1 h2 => by
      rw [disc_pmul (fun i hi => h.pv.zero i (by omega)) h1, h.av j h2]
      exact h.pb.zero j (by omega)) l (by omega) hls i ((hl i).1 hi).1 ((hl i).1 hi).2
  have few : ∀ m : List Nat, m.Nodup → (∀ i ∈ m, i < 1023 ∧ val v (lv - 1) (inv i) = 0) → m.length ≤ lv - 1 := fun m hm hv => by
    rcases Nat.lt_or_ge (lv - 1) m.length with hlt | hge
    · exfalso
      have := few_roots (lv - 1) v (m.map inv) h.pv.lt hvz (inv_nodup hm (fun i hi => (hv i hi).1)) (fun r hr => by
        obtain ⟨i, hi, rfl⟩ := List.mem_map.1 hr
        exact ⟨inv_lt i, by rw [← val_hor h.pv.lt (inv_lt i)]; exact (hv i hi).2⟩) (by rw [List.length_map]; exact hlt) (lv - 1)
      exact h.pv.lead (by omega) this
    · exact hge
  have h2 := few l hd (fun i hi => ⟨by have := ((hl i).1 hi).1; omega, hr i hi⟩)
  have h3 : lv - 1 ≤ l.length := by
    rcases Nat.lt_or_ge l.length (lv - 1) with hlt | hge
    · exfalso
      have hla : la + l.length ≤ 16 := by omega
      have hau : ∀ j, j < 16 → pmul u (syn c n) j = a j := h.au
      have huz : ∀ i, lu - 1 < i → u i = 0 := fun i hi => h.pu.zero i (by omega)
      have hru := roots_of_gen' (L := la) (N := 16) hn hc h.pu.lt (fun j h1 h2 => by
        rw [disc_pmul (fun i hi => h.pu.zero i (by omega)) h1, hau j h2]
        exact h.pa.zero j (by omega)) l (by omega) hls
      have hz := gen_of_roots' (L := lu - 1) (j := la - 1) hc h.pu.lt (fun i hi h0 => by
        rw [← val_more (M := la) huz (by omega)]
        exact hru i hi h0) (by omega)
      rw [disc_pmul huz (by omega), hau _ (by omega)] at hz
      exact h.pa.lead (by omega) hz
    · exact hge
  refine ⟨by omega, fun i hi => ⟨fun hv => ?_, hr i⟩⟩
  by_cases hil : i ∈ l
  · exact hil
  · have := few (i :: l) (List.nodup_cons.2 ⟨hil, hd⟩) (fun j hj => by
      rcases List.mem_cons.1 hj with rfl | hj
      · exact ⟨by omega, hv⟩
      · exact ⟨by have := ((hl j).1 hj).1; omega, hr j hj⟩)
    rw [List.length_cons] at this
    omega
/-- One more division. -/
theorem Euc.step {S a b u v q r u2 : Nat → Nat} {la lb lu lv lr lu2 : Nat} (hS : ∀ i, S i < 1024) (h : Euc S a b u v la lb lu lv) (h9 : 9 ≤ lb) (hq : IsPol q (la - lb + 1)) (hr : IsPol r lr) (hlr : lr < lb)
    (hsum : padd (pmul q b) r = a) (hu2 : IsPol u2 lu2) (e2 : u2 = padd u (pmul q v)) : Euc S b r v u2 lb lr lv lu2 := by
  have hdown := h.down
  have hv0 := h.v0
  have hs := h.sum
  have hqv := pmul_pol hq h.pv (by omega) (by omega)
  obtain rfl : lu2 = la - lb + 1 + lv - 1 := by
    rw [e2] at hu2
    have := padd_len_ne h.pu hqv hu2 (by omega)
    omega
  refine ⟨h.pb, hr, h.pv, hu2, hlr, by omega, by omega, fun j hj => ?_, h.av, h9⟩
  rw [e2, pmul_add_left h.pu.lt (pmul_lt hq.lt)]
  show pmul u S j ^^^ pmul (pmul q v) S j = r j
  rw [pmul_assoc h.pv.lt hS _ q hq.lt hq.zero, pmul_low hj h.av]
  have hj2 : pmul u S j = a j := h.au j hj
  have := congrFun hsum j
  rw [hj2, ← this]
  show pmul q b j ^^^ r j ^^^ pmul q b j = r j
  rw [Nat.xor_comm (pmul q b j), xor_cancel_right]
end Go.Proofs.YtdjgjffgheocfaaGreat

namespace Go.Proofs.YtdjgjffgheocfaaGreat

/-- The word p of n symbols by powers: place i is its symbol n - 1 - i. -/
def rv (p : Nat → Nat) (n : Nat) : Nat → Nat := fun i => if i < n then p (n - 1 - i) else 0
theorem rv_lt {p : Nat → Nat} {n : Nat} (hp : ∀ i, i < n → p i < 1024) (i : Nat) : rv p n i < 1024 := by
  unfold rv
  split
  · exact hp _ (by omega)
  · omega
/-- A word's values where each word of the code is nought. -/
def synW (p : Nat → Nat) (n : Nat) : Nat → Nat := syn (rv p n) n
theorem synW_lt {p : Nat → Nat} {n : Nat} (hp : ∀ i, i < n → p i < 1024) (j : Nat) : synW p n j < 1024 := syn_lt (rv_lt hp) n j
theorem synW_congr {p q : Nat → Nat} {n : Nat} (h : ∀ i, i < n → p i = q i) : synW p n = synW q n := by
  have e : rv p n = rv q n := funext fun i => by
    unfold rv
    split
    · exact h _ (by omega)
    · rfl
  unfold synW
  rw [e]
theorem synW_hor {p : Nat → Nat} {n : Nat} (hp : ∀ i, i < n → p i < 1024) (j : Nat) : hor (rv p n) (ex (j + 1)) 0 n = synW p n j := by
  rw [hor_xs (rv_lt hp)]
  exact xs_congr n fun i _ => by
    show gm (rv p n (0 + i)) _ = _
    rw [Nat.zero_add]
/-- Where two are unlike, by powers. -/
def wr (p q : Nat → Nat) (n : Nat) : Nat → Nat := fun i => rv p n i ^^^ rv q n i
theorem wr_lt {p q : Nat → Nat} {n : Nat} (hp : ∀ i, i < n → p i < 1024) (hq : ∀ i, i < n → q i < 1024) (i : Nat) : wr p q n i < 1024 := xor_lt (rv_lt hp i) (rv_lt hq i)
theorem syn_wr {p q : Nat → Nat} {n : Nat} (hp : ∀ i, i < n → p i < 1024) (hq : ∀ i, i < n → q i < 1024) (j : Nat) : syn (wr p q n) n j = synW p n j ^^^ synW q n j := by
  unfold synW syn
  rw [← xs_add]
  exact xs_congr n fun i _ => gm_add_left (rv_lt hp i) (rv_lt hq i) _
theorem wr_at {p q : Nat → Nat} {n i : Nat} (hi : i < n) : wr p q n (n - 1 - i) = p i ^^^ q i := by
  unfold wr rv
  rw [if_pos (by omega), if_pos (by omega), show n - 1 - (n - 1 - i) = i by omega]
theorem wr_ne {p q : Nat → Nat} {n i : Nat} (hi : i < n) : wr p q n i ≠ 0 ↔ p (n - 1 - i) ≠ q (n - 1 - i) := by
  unfold wr rv
  rw [if_pos hi, if_pos hi]
  constructor
  · intro h e
    rw [e, Nat.xor_self] at h
    exact h rfl
  · intro h e
    exact h (xor_eq_zero e)
/-- The places where two are unlike. -/
def plc (p q : Nat → Nat) (n : Nat) : List Nat := ((List.range n).filter (fun i => decide (p i ≠ q i))).map (fun i => n - 1 - i)
theorem plc_length (p q : Nat → Nat) (n : Nat) : (plc p q n).length = cntNe p q n := by
  unfold plc
  rw [List.length_map]
  induction n with
  | zero => rfl
  | succ n ih =>
    rw [List.range_succ, List.filter_append, List.length_append, ih, cntNe]
    congr 1
    by_cases h : p n = q n <;> simp [h]
theorem plc_mem {p q : Nat → Nat} {n : Nat} (i : Nat) : i ∈ plc p q n ↔ i < n ∧ wr p q n i ≠ 0 := by
  unfold plc
  rw [List.mem_map]
  constructor
  · rintro ⟨k, hk, rfl⟩
    have h := List.mem_filter.1 hk
    have h1 := List.mem_range.1 h.1
    refine ⟨by omega, (wr_ne (by omega)).2 ?_⟩
    rw [show n - 1 - (n - 1 - k) = k by omega]
    simpa using h.2
  · rintro ⟨hi, h0⟩
    exact ⟨n - 1 - i, List.mem_filter.2 ⟨List.mem_range.2 (by omega), by simpa using (wr_ne hi).1 h0⟩, by omega⟩
theorem plc_nodup (p q : Nat → Nat) (n : Nat) : (plc p q n).Nodup := by
  refine List.pairwise_map.2 (List.Pairwise.imp_of_mem (fun {a b} ha hb hab h => hab ?_) ((List.nodup_range (n := n)).filter _))
  have h1 := List.mem_range.1 (List.mem_filter.1 ha).1
  have h2 := List.mem_range.1 (List.mem_filter.1 hb).1
  omega

/-- q is a word of the code that is unlike p in d places, at most eight. -/
structure Near (p : Nat → Nat) (n : Nat) (q : Nat → Nat) (d : Nat) : Prop where
  lt : ∀ i, i < n → q i < 1024
  word : ∀ j, j < 16 → synW q n j = 0
  dist : cntNe q p n = d
  le : d ≤ 8
theorem words_apart {q r : Nat → Nat} {n : Nat} (hn : n ≤ 1023) (hq : ∀ i, i < n → q i < 1024) (hr : ∀ i, i < n → r i < 1024) (hqw : ∀ j, j < 16 → synW q n j = 0) (hrw : ∀ j, j < 16 → synW r n j = 0)
    (l : List Nat) (hl : l.length ≤ 16) (hs : ∀ i, i < n → q i ≠ r i → n - 1 - i ∈ l) : ∀ i, i < n → q i = r i := by
  have hw : IsWord (wr q r n) n 16 := fun j hj => by
    have := syn_wr hq hr j
    rw [hqw j hj, hrw j hj] at this
    exact this
  intro i hi
  have := word_light hn (wr_lt hq hr) hw l hl (fun k hk h0 => by
    have := hs (n - 1 - k) (by omega) ((wr_ne hk).1 h0)
    rwa [show n - 1 - (n - 1 - k) = k by omega] at this) (n - 1 - i) (by omega)
  rw [wr_at hi] at this
  exact xor_eq_zero this
/-- Two words of the code that are unlike in at most 16 places are one. -/
theorem far_words {q r : Nat → Nat} {n : Nat} (hn : n ≤ 1023) (hq : ∀ i, i < n → q i < 1024) (hr : ∀ i, i < n → r i < 1024) (hqw : ∀ j, j < 16 → synW q n j = 0) (hrw : ∀ j, j < 16 → synW r n j = 0)
    (hd : cntNe q r n ≤ 16) : ∀ i, i < n → q i = r i :=
  words_apart hn hq hr hqw hrw (plc q r n) (by rw [plc_length]; exact hd) (fun i hi h => (plc_mem _).2 ⟨by omega, (wr_ne (by omega)).2 (by rwa [show n - 1 - (n - 1 - i) = i by omega])⟩)
theorem Near.uniq {p q r : Nat → Nat} {n d e : Nat} (hn : n ≤ 1023) (hq : Near p n q d) (hr : Near p n r e) : (∀ i, i < n → q i = r i) ∧ d = e := by
  have h := words_apart hn hq.lt hr.lt hq.word hr.word (plc q p n ++ plc r p n) (by
    have h1 := hq.le
    have h2 := hr.le
    rw [List.length_append, plc_length, plc_length, hq.dist, hr.dist]
    omega) (fun i hi hne => by
    have key : ∀ s : Nat → Nat, s i ≠ p i → n - 1 - i ∈ plc s p n := fun s h => (plc_mem _).2 ⟨by omega, (wr_ne (by omega)).2 (by rwa [show n - 1 - (n - 1 - i) = i by omega])⟩
    by_cases h1 : q i = p i
    · by_cases h2 : r i = p i
      · exact absurd (h1.trans h2.symm) hne
      · exact List.mem_append_right _ (key r h2)
    · exact List.mem_append_left _ (key q h1))
  exact ⟨h, by rw [← hq.dist, ← hr.dist, cntNe_congr n h (fun _ _ => rfl)]⟩
section
variable {p q : Nat → Nat} {n d : Nat}
theorem Near.syn (h : Near p n q d) (hp : ∀ i, i < n → p i < 1024) (j : Nat) (hj : j < 16) : Proofs.YtdjgjffgheocfaaGreat.syn (wr p q n) n j = synW p n j := by
  rw [syn_wr hp h.lt, h.word j hj, Nat.xor_zero]
theorem disc_congr {f S S' : Nat → Nat} {L j : Nat} (e : ∀ i, i ≤ j → S i = S' i) : disc f S L j = disc f S' L j := xs_congr _ fun i _ => by rw [e (j - i) (by omega)]
theorem Gen.congr {f S S' : Nat → Nat} {L m : Nat} (h : Gen f L S m) (e : ∀ i, i < m → S i = S' i) : Gen f L S' m := ⟨h.lt, h.one, h.zero, fun j h1 h2 => by rw [← disc_congr (fun i hi => e i (by omega))]; exact h.gen j h1 h2⟩
theorem BM.congr {S S' loc old : Nat → Nat} {m long by_ last : Nat} (h : BM S m loc old long by_ last) (e : ∀ i, i < m → S i = S' i) : BM S' m loc old long by_ last := by
  refine ⟨h.gen.congr e, h.le, h.olt, h.by0, h.l0, h.llt, ?_, fun g M hg => h.least g M (hg.congr (fun i hi => (e i hi).symm))⟩
  have hb := h.by0
  rcases h.was with h | ⟨k, M, h1, h2, h3, h4⟩
  · exact .inl h
  · exact .inr ⟨k, M, h1.congr (fun i hi => e i (by omega)), h2, by rw [← disc_congr (fun i hi => e i (by omega))]; exact h3, h4⟩
theorem Euc.congr {S S' a b u v : Nat → Nat} {la lb lu lv : Nat} (h : Euc S a b u v la lb lu lv) (e : ∀ i, i < 16 → S i = S' i) : Euc S' a b u v la lb lu lv :=
  ⟨h.pa, h.pb, h.pu, h.pv, h.down, h.v0, h.sum, fun j hj => by rw [← h.av j hj]; exact (pmul_low hj e).symm, fun j hj => by rw [← h.au j hj]; exact (pmul_low hj e).symm, h.big⟩
theorem yp_hor {f : Nat → Nat} {y m : Nat} (hf : ∀ i, f i < 1024) (hy : y < 1024) (hm : m ≤ 16) (hz : ∀ i, m ≤ i → i < 16 → f i = 0) : xs 16 (fun j => gm (f j) (yp y j)) = hor f y 0 m := by
  rw [hor_val hf hy, xs_more m 16 hm (fun i h1 h2 => by
    show gm (f i) _ = 0
    rw [hz i h1 h2, gm_zero_left])]
  exact xs_congr m fun k _ => by
    show gm (f k) _ = gm (f (0 + k)) _
    rw [Nat.zero_add]
/-- A locator whose roots are just the wrong places: what mends them. -/
theorem forney_mend {f : Nat → Nat} {L : Nat} (hn : n ≤ 1023) (hp : ∀ i, i < n → p i < 1024) (h : Near p n q d) (hf : ∀ i, f i < 1024) (hz : ∀ i, L < i → f i = 0) (h1 : ∃ i, f i ≠ 0) (hL : L = d) (hr : ∀ i, i < n → (val f L (inv i) = 0 ↔ i ∈ plc p q n))
    (i : Nat) (hi : i < n) (hne : val f L (inv (n - 1 - i)) = 0) :
    xs 16 (fun j => gm (pslope f j) (yp (inv (n - 1 - i)) j)) ≠ 0 ∧ q i = p i ^^^ gm (xs 16 (fun j => gm (pmul f (synW p n) j) (yp (inv (n - 1 - i)) j))) (gi (xs 16 (fun j => gm (pslope f j) (yp (inv (n - 1 - i)) j)))) := by
  have hle := h.le
  have hc := wr_lt hp h.lt
  have hF := forney hn hc hf hz (by omega) (k := n - 1 - i) (by omega) (fun k hk h0 => (hr k hk).2 ((plc_mem k).2 ⟨hk, h0⟩)) hne
  rw [xs_congr 16 (k := fun j => gm (pmul f (synW p n) j) (yp (inv (n - 1 - i)) j)) (fun j hj => by
    show gm (pmul f (Proofs.YtdjgjffgheocfaaGreat.syn (wr p q n) n) j) _ = _
    rw [pmul_low hj (fun i hi => h.syn hp i hi)])] at hF
  have hs := slope_ne hf hz h1 ((plc p q n).map inv) (inv_nodup (plc_nodup p q n) (fun k hk => by have := ((plc_mem k).1 hk).1; omega)) (by rw [List.length_map, plc_length, cntNe_comm, h.dist, hL]) (fun r hr' => by
    obtain ⟨k, hk, rfl⟩ := List.mem_map.1 hr'
    exact ⟨inv_lt k, by rw [← val_hor hf (inv_lt k)]; exact (hr k ((plc_mem k).1 hk).1).2 hk⟩) (inv (n - 1 - i)) (List.mem_map.2 ⟨_, (hr _ (by omega)).1 hne, rfl⟩)
  rw [← yp_hor (slope_lt hf) (inv_lt _) (by omega) (fun j hj _ => by
    unfold pslope
    split
    · exact hz _ (by omega)
    · rfl)] at hs
  refine ⟨hs, ?_⟩
  have hsl : xs 16 (fun j => gm (pslope f j) (yp (inv (n - 1 - i)) j)) < 1024 := xs_lt _ fun j _ => gm_lt (slope_lt hf j) _
  rw [hF, gm_assoc (hc _) hsl (gi_lt _), gi_mul hsl hs, gm_one_right, wr_at hi, xor_cancel]
/-- The program's loop, at a word near p. -/
theorem bm_near {loc old : Nat → Nat} {long by_ last m : Nat} (hn : n ≤ 1023) (hp : ∀ i, i < n → p i < 1024) (h : Near p n q d) (hb : BM (synW p n) 16 loc old long by_ last) (hm : IsPol loc m) :
    long = d ∧ m = d + 1 ∧ (∀ i, i < n → (val loc long (inv (n - 1 - i)) = 0 ↔ p i ≠ q i)) ∧ ∀ i, i < n → val loc long (inv (n - 1 - i)) = 0 →
      xs 16 (fun j => gm (pslope loc j) (yp (inv (n - 1 - i)) j)) ≠ 0 ∧ q i = p i ^^^ gm (xs 16 (fun j => gm (pmul loc (synW p n) j) (yp (inv (n - 1 - i)) j))) (gi (xs 16 (fun j => gm (pslope loc j) (yp (inv (n - 1 - i)) j)))) := by
  have hlen : (plc p q n).length = d := by rw [plc_length, cntNe_comm, h.dist]
  have hle := h.le
  have hf := bm_found hn (wr_lt hp h.lt) (plc p q n) (plc_nodup p q n) (by omega) (fun i => plc_mem i) (hb.congr (fun i hi => (h.syn hp i hi).symm))
  have hld : long = d := by omega
  have hne : ∃ i, loc i ≠ 0 := ⟨0, by rw [hb.gen.one]; omega⟩
  have hroot : ∀ i, i ∈ plc p q n → val loc long (inv i) = 0 := fun i hi => (hf.2 i ((plc_mem i).1 hi).1).2 hi
  refine ⟨hld, ?_, fun i hi => ?_, fun i hi h0 => forney_mend hn hp h hb.gen.lt hb.gen.zero hne hld hf.2 i hi h0⟩
  · have h1 : m ≤ long + 1 := by
      rcases Nat.lt_or_ge (long + 1) m with hlt | hge
      · exact absurd (hb.gen.zero (m - 1) (by omega)) (hm.lead (by omega))
      · exact hge
    have h0 : 0 < m := by
      rcases Nat.eq_zero_or_pos m with h0 | h0
      · have := hm.zero 0 (by omega)
        rw [hb.gen.one] at this
        omega
      · exact h0
    have h2 : d ≤ m - 1 := by
      rcases Nat.lt_or_ge (m - 1) d with hlt | hge
      · exfalso
        refine hm.lead h0 (few_roots (m - 1) loc ((plc p q n).map inv) hm.lt (fun i hi => hm.zero i (by omega)) (inv_nodup (plc_nodup p q n) (fun k hk => by have := ((plc_mem k).1 hk).1; omega)) (fun r hr => ?_) (by rw [List.length_map]; omega) (m - 1))
        obtain ⟨k, hk, rfl⟩ := List.mem_map.1 hr
        refine ⟨inv_lt k, ?_⟩
        rw [← val_hor hm.lt (inv_lt k), ← val_more (L := m - 1) (M := long) (fun i hi => hm.zero i (by omega)) (by omega)]
        exact hroot k hk
      · exact hge
    omega
  · rw [hf.2 _ (by omega), plc_mem, wr_ne (by omega), show n - 1 - (n - 1 - i) = i by omega]
    exact ⟨fun h => h.2, fun h => ⟨by omega, h⟩⟩
/-- The reference's loop, at a word near p. -/
theorem euc_near {a b u v : Nat → Nat} {la lb lu lv : Nat} (hn : n ≤ 1023) (hp : ∀ i, i < n → p i < 1024) (h : Near p n q d) (he : Euc (synW p n) a b u v la lb lu lv) (hb : lb ≤ 8) :
    lv = d + 1 ∧ (∀ i, i < n → (val v (lv - 1) (inv (n - 1 - i)) = 0 ↔ p i ≠ q i)) ∧ ∀ i, i < n → val v (lv - 1) (inv (n - 1 - i)) = 0 →
      xs 16 (fun j => gm (pslope v j) (yp (inv (n - 1 - i)) j)) ≠ 0 ∧ q i = p i ^^^ gm (hor b (inv (n - 1 - i)) 0 lb) (gi (xs 16 (fun j => gm (pslope v j) (yp (inv (n - 1 - i)) j)))) := by
  have hlen : (plc p q n).length = d := by rw [plc_length, cntNe_comm, h.dist]
  have hle := h.le
  have hv0 := he.v0
  have hf := euc_found hn (wr_lt hp h.lt) (plc p q n) (plc_nodup p q n) (by omega) (fun i => plc_mem i) (he.congr (fun i hi => (h.syn hp i hi).symm)) hb
  refine ⟨by omega, fun i hi => ?_, fun i hi h0 => ?_⟩
  · rw [hf.2 _ (by omega), plc_mem, wr_ne (by omega), show n - 1 - (n - 1 - i) = i by omega]
    exact ⟨fun h => h.2, fun h => ⟨by omega, h⟩⟩
  · have := forney_mend hn hp h he.pv.lt (fun k hk => he.pv.zero k (by omega)) (he.pv.ne (by omega)) (by omega) hf.2 i hi h0
    rwa [xs_congr (h := fun j => gm (pmul v (synW p n) j) (yp (inv (n - 1 - i)) j)) 16 (k := fun j => gm (b j) (yp (inv (n - 1 - i)) j)) (fun j hj => by
      show gm (pmul v (synW p n) j) _ = _
      rw [he.av j hj]), yp_hor he.pb.lt (inv_lt _) (by omega) (fun j hj _ => he.pb.zero j hj)] at this
end
/-- z noughts ahead of a word. -/
def padZ (p : Nat → Nat) (z : Nat) : Nat → Nat := fun i => if i < z then 0 else p (i - z)
theorem padZ_lt {p : Nat → Nat} {n z : Nat} (hp : ∀ i, i < n → p i < 1024) (i : Nat) (hi : i < z + n) : padZ p z i < 1024 := by
  unfold padZ
  split
  · omega
  · exact hp _ (by omega)
theorem padZ_syn (p : Nat → Nat) (n z j : Nat) : synW (padZ p z) (z + n) j = synW p n j := by
  have e : ∀ i, i < n → rv (padZ p z) (z + n) i = rv p n i := fun i hi => by
    unfold rv padZ
    rw [if_pos (by omega), if_pos hi, if_neg (by omega)]
    congr 1
    omega
  have e0 : ∀ i, n ≤ i → rv (padZ p z) (z + n) i = 0 := fun i hi => by
    unfold rv padZ
    split
    · rw [if_pos (by omega)]
    · rfl
  unfold synW syn
  rw [xs_more n (z + n) (by omega) (fun i h1 _ => by
    show gm (rv (padZ p z) (z + n) i) _ = 0
    rw [e0 i h1, gm_zero_left])]
  exact xs_congr n fun i hi => by rw [e i hi]
theorem padZ_cnt (p q : Nat → Nat) (z : Nat) : ∀ n, cntNe (padZ p z) (padZ q z) (z + n) = cntNe p q n
  | 0 => cntNe_zero.2 fun i hi => by unfold padZ; rw [if_pos (by omega), if_pos (by omega)]
  | n + 1 => by
    have e : ∀ s : Nat → Nat, padZ s z (z + n) = s n := fun s => by
      unfold padZ
      rw [if_neg (by omega), Nat.add_sub_cancel_left]
    rw [← Nat.add_assoc, cntNe, padZ_cnt p q z n, cntNe, e, e]
theorem Near.pad {p q : Nat → Nat} {n d z : Nat} (h : Near p n q d) : Near (padZ p z) (z + n) (padZ q z) d :=
  ⟨padZ_lt h.lt, fun j hj => by rw [padZ_syn]; exact h.word j hj, by rw [padZ_cnt]; exact h.dist, h.le⟩
/-- A word found that is nought ahead is a shorter one's. -/
theorem Near.unpad {p r : Nat → Nat} {n d z : Nat} (h : Near (padZ p z) (z + n) r d) (h0 : ∀ i, i < z → r i = 0) : Near p n (fun i => r (z + i)) d := by
  have e : ∀ i, i < z + n → padZ (fun i => r (z + i)) z i = r i := fun i hi => by
    unfold padZ
    by_cases h1 : i < z
    · rw [if_pos h1, h0 i h1]
    · rw [if_neg h1]
      show r (z + (i - z)) = r i
      congr 1
      omega
  refine ⟨fun i hi => h.lt (z + i) (by omega), fun j hj => ?_, ?_, h.le⟩
  · rw [← padZ_syn _ n z, synW_congr e]
    exact h.word j hj
  · rw [← padZ_cnt _ _ z, cntNe_congr (z + n) e (fun _ _ => rfl)]
    exact h.dist
end Go.Proofs.YtdjgjffgheocfaaGreat

namespace Go.Proofs.YtdjgjffgheocfaaGreat
open Go.RowKit

/-- Elements by hand. -/
def lst (l : List Nat) : Nat → Nat := fun i => l.getD i 0
theorem uArr_one (a : Nat) : uArr (lst [a]) 1 = #[.int .u16 a] := rfl
theorem uArr_two (a b : Nat) : uArr (lst [a, b]) 2 = #[.int .u16 a, .int .u16 b] := rfl
theorem uArr_three (a b c : Nat) : uArr (lst [a, b, c]) 3 = #[.int .u16 a, .int .u16 b, .int .u16 c] := rfl
theorem uArr_four (a b c d : Nat) : uArr (lst [a, b, c, d]) 4 = #[.int .u16 a, .int .u16 b, .int .u16 c, .int .u16 d] := rfl
/-- What a list says, as a polynomial. -/
theorem pol_list (l : List Nat) (n : Nat) (h : ∀ i, i < l.length → l.getD i 0 < 1024) (hl : l.length = n) (hz : 0 < n → l.getD (n - 1) 0 ≠ 0) : IsPol (lst l) n :=
  ⟨fun i => by
    rcases Nat.lt_or_ge i l.length with hi | hi
    · exact h i hi
    · show l.getD i 0 < 1024
      rw [List.getD_eq_getElem?_getD, List.getElem?_eq_none hi]; simp, fun i hi => by
    show l.getD i 0 = 0
    rw [List.getD_eq_getElem?_getD, List.getElem?_eq_none (by omega)]; rfl, fun h0 => hz h0⟩
theorem p1 : IsPol (lst [1]) 1 := pol_list [1] 1 (by decide) rfl (by decide)
/-- A row that is laid by a literal. -/
structure Laid (w : World) (cs : Array Value) (f : Nat → Nat) (n : Nat) : Prop where
  a : ∀ g, g = w.heap.size → ArgU (w.alloc (.cells cs 148)) (some ⟨g, 0, none⟩) n f
  k : Keep (fun _ => False) w (w.alloc (.cells cs 148))
theorem Laid.new (w : World) (cs : Array Value) (f : Nat → Nat) (n : Nat) (e : uArr f n = cs) (hn : n ≤ 140737488355328) (hf : ∀ i, i < n → f i < 65536) : Laid w cs f n := by
  subst e
  exact ⟨fun g hg => (Blk.here w _ _ g hg).argU hn hf, (Keep.refl _ w).alloc _⟩

theorem Laid.pol (w : World) (cs : Array Value) (f : Nat → Nat) (n : Nat) (hp : IsPol f n) (hn : n ≤ 140737488355328) (e : uArr f n = cs) : Laid w cs f n :=
  Laid.new w cs f n e hn (fun i _ => hp.lt16 i)
theorem Keep.comp {w w1 w2 : World} (h : Keep (fun _ => False) w w1) (k : Keep (fun _ => False) w1 w2) : Keep (fun _ => False) w w2 := h.trans k (fun _ hi => .inl hi)
/-- The tables, and the variable that holds them. -/
structure TVar (w : World) (gt g1 g2 : Nat) : Prop where
  b : Blk w gt 82 #[.slice (some ⟨g1, 0, none⟩) 1023 1023, .slice (some ⟨g2, 0, none⟩) 1024 1024]
  t : Tab w g1 g2
theorem TVar.keep {w w' : World} {gt g1 g2 : Nat} (h : TVar w gt g1 g2) (k : Keep (fun _ => False) w w') : TVar w' gt g1 g2 := ⟨h.b.keep k (by simp), h.t.keep k⟩
theorem TVar.new {w : World} {g1 g2 : Nat} (t : Tab w g1 g2) :
    TVar (w.alloc (.cells #[.slice (some ⟨g1, 0, none⟩) 1023 1023, .slice (some ⟨g2, 0, none⟩) 1024 1024] 82)) w.heap.size g1 g2 ∧
    Keep (fun _ => False) w (w.alloc (.cells #[.slice (some ⟨g1, 0, none⟩) 1023 1023, .slice (some ⟨g2, 0, none⟩) 1024 1024] 82)) := by
  have k := (Keep.refl (fun _ => False) w).alloc (.cells #[.slice (some ⟨g1, 0, none⟩) 1023 1023, .slice (some ⟨g2, 0, none⟩) 1024 1024] 82)
  exact ⟨⟨Blk.new w _ _, t.keep k⟩, k⟩
end Go.Proofs.YtdjgjffgheocfaaGreat

namespace Go.Proofs.YtdjgjffgheocfaaGreat
open Go.RowKit

theorem lst_small (l : List Nat) (h : ∀ x ∈ l, x < 65536) (i : Nat) : lst l i < 65536 := by
  show l.getD i 0 < 65536
  rw [List.getD_eq_getElem?_getD]
  cases e : l[i]? with
  | none => show 0 < 65536; omega
  | some x => exact h x (List.mem_of_getElem? e)
/-- x + r, the product of the first i of them, and whether x is among them. -/
def lin (r : Nat) : Nat → Nat := cut (lst [r, 1]) 2
theorem lin_pol (r : Nat) : IsPol (lin r) 2 :=
  ⟨fun i => cut_lt _ _ _, fun i hi => cut_zero _ hi, fun _ => by show cut (lst [r, 1]) 2 1 ≠ 0; rw [cut_in _ (by omega)]; show 1 % 1024 ≠ 0; omega⟩
def prodP (p : Nat → Nat) : Nat → Nat → Nat
  | 0 => lst [1]
  | i + 1 => pmul (prodP p i) (lin (p i))
theorem prodP_pol (p : Nat → Nat) (i : Nat) : IsPol (prodP p i) (i + 1) := by
  induction i with
  | zero => exact p1
  | succ i ih =>
    have := pmul_pol ih (lin_pol (p i)) (by omega) (by omega)
    rwa [show i + 1 + 2 - 1 = i + 1 + 1 by omega] at this
theorem hor_lin (r x : Nat) (hx : x < 1024) : hor (lin r) x 0 2 = x ^^^ r % 1024 := by
  show gm (gm 0 x ^^^ lin r 1) x ^^^ lin r 0 = x ^^^ r % 1024
  rw [show lin r 1 = 1 from by unfold lin; rw [cut_in _ (by omega)]; rfl, show lin r 0 = r % 1024 from by unfold lin; rw [cut_in _ (by omega)]; rfl, gm_zero_left, Nat.zero_xor, gm_one_left hx]
theorem prodP_root {p : Nat → Nat} {x : Nat} (hx : x < 1024) (hp : ∀ i, p i < 1024) : ∀ n, hor (prodP p n) x 0 (n + 1) = 0 ↔ ∃ i, i < n ∧ p i = x
  | 0 => by
    have : hor (prodP p 0) x 0 1 = 1 := by
      show gm 0 _ ^^^ 1 = 1
      rw [gm_zero_left]
      rfl
    rw [this]
    constructor
    · intro h
      omega
    · rintro ⟨i, hi, _⟩
      omega
  | n + 1 => by
    have hq := prodP_pol p n
    have h := hor_pmul (lin_pol (p n)).lt (lin_pol (p n)).zero hx (n + 1) (prodP p n) hq.lt hq.zero (n + 1 + 1) (by omega)
    rw [show prodP p (n + 1) = pmul (prodP p n) (lin (p n)) from rfl, h, hor_lin _ _ hx, Nat.mod_eq_of_lt (hp n)]
    have l1 := hor_lt hq.lt (x := x) 0 (n + 1)
    have l2 : x ^^^ p n < 1024 := xor_lt hx (hp n)
    constructor
    · intro h0
      by_cases e1 : hor (prodP p n) x 0 (n + 1) = 0
      · obtain ⟨i, hi, e⟩ := (prodP_root hx hp n).1 e1
        exact ⟨i, by omega, e⟩
      · by_cases e2 : x ^^^ p n = 0
        · exact ⟨n, by omega, (xor_eq_zero e2).symm⟩
        · exact absurd h0 (gm_ne_zero l1 l2 e1 e2)
    · rintro ⟨i, hi, e⟩
      by_cases e2 : i = n
      · subst e2
        rw [e, Nat.xor_self, gm_zero_right]
      · rw [(prodP_root hx hp n).2 ⟨i, by omega, e⟩, gm_zero_left]
end Go.Proofs.YtdjgjffgheocfaaGreat
