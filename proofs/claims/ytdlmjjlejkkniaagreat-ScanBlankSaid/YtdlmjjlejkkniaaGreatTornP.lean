/- Pages of which cells are nought, row by row. Plain. -/
import Derived.Test.YtdlmjjlejkkniaaGreatFrSays
namespace Go.Proofs.YtdlmjjlejkkniaaGreat
open Go.RowKit

theorem Tryz.info_it : (Tryz.prog.info? 3).map (fun i => (i.zero, i.size, i.bytes)) = some (some (.int .i64 0), 1, 8) := by kernel_rfl
theorem make_it (x : Int) (m : Nat) (hx : x = m) (hm : m ≤ 1000000) (w : World) :
    (Instr.makeSlice 47 (.int .i64 x) (.int .i64 x)).run Tryz.prog w = .ok (.slice (some ⟨w.heap.size, 0, none⟩) m m) (w.alloc (.cells (valsArr (fun _ => .int .i64 0) m) 3)) :=
  make_vals (P := Tryz.prog) Tryz.underlying47 Tryz.info_it rfl x m hx (by omega) (by omega) w
/-- How many i below n with i % W = r are so. -/
def cntR (b : Nat → Bool) (W r : Nat) : Nat → Nat
  | 0 => 0
  | n + 1 => cntR b W r n + if b n = true ∧ n % W = r then 1 else 0
theorem cntR_part {b : Nat → Bool} {W r N : Nat} (hr : r < W) : ∀ {s}, s ≤ W → cntR b W r (N * W + s) = cntR b W r (N * W) + if r < s ∧ b (N * W + r) = true then 1 else 0
  | 0, _ => by rw [if_neg (by omega)]; rfl
  | s + 1, hs => by
    have h1 := cntR_part (b := b) (N := N) hr (show s ≤ W by omega)
    show cntR b W r (N * W + s) + (if b (N * W + s) = true ∧ (N * W + s) % W = r then 1 else 0) = _
    rw [h1, (woven_idx (show s < W by omega)).1]
    by_cases e : s = r
    · subst e
      rw [if_neg (by omega)]
      by_cases hb : b (N * W + s) = true
      · rw [if_pos ⟨hb, rfl⟩, if_pos ⟨by omega, hb⟩]
      · rw [if_neg (fun h => hb h.1), if_neg (fun h => hb h.2)]
    · rw [if_neg (show ¬ (b (N * W + s) = true ∧ s = r) from fun h => e h.2)]
      by_cases hb : r < s ∧ b (N * W + r) = true
      · rw [if_pos hb, if_pos ⟨by omega, hb.2⟩]
      · rw [if_neg hb, if_neg (fun h => hb ⟨by omega, h.2⟩)]
theorem zerosN_row {b : Nat → Bool} {W r : Nat} (hr : r < W) : ∀ N, zerosN (fun t => b (r + t * W)) N = cntR b W r (N * W)
  | 0 => by rw [Nat.zero_mul]; rfl
  | N + 1 => by
    have h := cntR_part (b := b) (N := N) hr (Nat.le_refl W)
    unfold zerosN
    rw [zerosN_row hr N, Nat.succ_mul, h, Nat.add_comm r]
    by_cases hb : b (N * W + r) = true
    · rw [if_pos hb, if_pos ⟨hr, hb⟩]
    · rw [if_neg hb, if_neg (fun h => hb h.2)]
/-- Wrong symbols, row by row. -/
theorem wrongN_row {z : Nat → Bool} {s q : Nat → Nat} {b : Nat → Bool} : ∀ {n}, (∀ i, i < n → (b i = true ↔ z i = true ∨ q i ≠ s i)) → wrongN z s q n = zerosN b n
  | 0, _ => rfl
  | n + 1, h => by
    unfold wrongN zerosN
    rw [wrongN_row (fun i hi => h i (by omega))]
    by_cases hb : b n = true
    · rw [if_pos hb, if_pos ((h n (by omega)).1 hb)]
    · rw [if_neg hb, if_neg (fun h2 => hb ((h n (by omega)).2 h2))]
/-- The most in a row, as it is counted. -/
def mostJ (b : Nat → Bool) (W : Nat) : Nat → Nat
  | 0 => 0
  | n + 1 => if b n = true then max (mostJ b W n) (cntR b W (n % W) (n + 1)) else mostJ b W n
theorem mostN_upd {f g : Nat → Nat} {r : Nat} (h : ∀ i, i ≠ r → g i = f i) (hr : f r ≤ g r) : ∀ n, mostN g n = if r < n then max (mostN f n) (g r) else mostN f n
  | 0 => rfl
  | n + 1 => by
    unfold mostN
    rw [mostN_upd h hr n]
    by_cases e : n = r
    · subst e
      rw [if_neg (by omega), if_pos (by omega)]
      omega
    · rw [h n e]
      by_cases h2 : r < n
      · rw [if_pos h2, if_pos (by omega)]
        omega
      · rw [if_neg h2, if_neg (by omega)]
theorem mostJ_eq {b : Nat → Bool} {W : Nat} (hW : 0 < W) : ∀ n, mostJ b W n = mostN (fun r => cntR b W r n) W
  | 0 => by
    have : ∀ m, mostN (fun r => cntR b W r 0) m = 0 := fun m => Nat.le_zero.1 (mostN_le fun _ _ => Nat.le_refl 0)
    rw [this]
    rfl
  | n + 1 => by
    have h := mostN_upd (f := fun r => cntR b W r n) (g := fun r => cntR b W r (n + 1)) (r := n % W) (fun i hi => by
      show cntR b W i n + _ = _
      rw [if_neg (fun h => hi h.2.symm)]
      rfl) (Nat.le_add_right _ _) W
    rw [if_pos (Nat.mod_lt _ hW)] at h
    unfold mostJ
    rw [mostJ_eq hW n, h]
    by_cases hb : b n = true
    · rw [if_pos hb]
    · rw [if_neg hb]
      have e : cntR b W (n % W) (n + 1) = cntR b W (n % W) n := by
        show cntR b W (n % W) n + _ = _
        rw [if_neg (fun h => hb h.1)]
        rfl
      have h2 : cntR b W (n % W) n ≤ mostN (fun r => cntR b W r n) W := by
        have : ∀ {m}, n % W < m → cntR b W (n % W) n ≤ mostN (fun r => cntR b W r n) m := by
          intro m
          induction m with
          | zero => intro h; omega
          | succ m ih =>
            intro h
            unfold mostN
            by_cases e : n % W = m
            · rw [← e]
              omega
            · have := ih (by omega)
              omega
        exact this (Nat.mod_lt _ hW)
      omega
theorem mostN_ex {f : Nat → Nat} {k : Nat} : ∀ {n}, k < mostN f n → ∃ r, r < n ∧ k < f r
  | 0, h => absurd h (Nat.not_lt_zero k)
  | n + 1, h => by
    unfold mostN at h
    by_cases h1 : k < mostN f n
    · obtain ⟨r, hr, h2⟩ := mostN_ex h1
      exact ⟨r, by omega, h2⟩
    · exact ⟨n, by omega, by omega⟩
theorem mostN_ge {f : Nat → Nat} {r : Nat} : ∀ {n}, r < n → f r ≤ mostN f n
  | n + 1, h => by
    unfold mostN
    by_cases e : r = n
    · subst e
      omega
    · have := mostN_ge (f := f) (show r < n by omega)
      omega
/-- Points of which some are nought or lie elsewhere: which rows can be read. -/
theorem rows_wrong {x y : Nat → Int} {W K : Nat} {D : Nat → Nat} {b : Nat → Bool} (hb : ∀ i, i < W * (K + 16) → (b i = true ↔ onB (x i) (y i) = true ∨ pageS W K D i ≠ slS x y i)) {r : Nat} (hr : r < W) :
    wrF x y W K (wordS W K D) r = cntR b W r (W * (K + 16)) := by
  unfold wrF
  rw [Nat.mul_comm W, ← zerosN_row hr (K + 16)]
  refine wrongN_row fun t ht => ?_
  have := hb (r + t * W) ((row_lt (r := r) (j := t) (W := W) (N := K + 16) hr).2 ht)
  rw [page_at hr] at this
  exact this
theorem rows_good {x y : Nat → Int} {W K : Nat} {D : Nat → Nat} {b : Nat → Bool} (hD : ∀ i, D i < 1024) (hb : ∀ i, i < W * (K + 16) → (b i = true ↔ onB (x i) (y i) = true ∨ pageS W K D i ≠ slS x y i)) (hW : 0 < W) (h8 : mostJ b W (W * (K + 16)) ≤ 8) {r : Nat} (hr : r < W) :
    GoodRow (fun i => x (r + i * W)) (fun i => y (r + i * W)) (K + 16) (wordS W K D r) := by
  refine good_of (word_is hD r) ?_
  have h1 := rows_wrong hb hr
  rw [mostJ_eq hW] at h8
  have h2 := mostN_ge (f := fun r => cntR b W r (W * (K + 16))) hr
  unfold wrF at h1
  rw [h1]
  exact Nat.le_trans h2 h8
theorem rows_most {x y : Nat → Int} {W K : Nat} {D : Nat → Nat} {b : Nat → Bool} (hb : ∀ i, i < W * (K + 16) → (b i = true ↔ onB (x i) (y i) = true ∨ pageS W K D i ≠ slS x y i)) (hW : 0 < W) :
    mostN (wrF x y W K (wordS W K D)) W = mostJ b W (W * (K + 16)) := by
  rw [mostJ_eq hW]
  exact mostN_congr fun r hr => rows_wrong hb hr
theorem cntR_le {b : Nat → Bool} {W r : Nat} : ∀ n, cntR b W r n ≤ n
  | 0 => Nat.le_refl _
  | n + 1 => by
    have := cntR_le (b := b) (W := W) (r := r) n
    unfold cntR
    split <;> omega
theorem mostJ_le {b : Nat → Bool} {W : Nat} : ∀ n, mostJ b W n ≤ n
  | 0 => Nat.le_refl _
  | n + 1 => by
    have := mostJ_le (b := b) (W := W) n
    have := cntR_le (b := b) (W := W) (r := n % W) (n + 1)
    unfold mostJ
    split <;> omega
/-- A page's first k points, the others nought. -/
def tnX (S : Nat → Nat) (k i : Nat) : Int := if i < k then reS (S i) else 0
def tnY (S : Nat → Nat) (k i : Nat) : Int := if i < k then imS (S i) else 0
def tnB (k i : Nat) : Bool := decide (k ≤ i)
theorem tn_pm (S : Nat → Nat) (k i : Nat) : Pm (tnX S k i) ∧ Pm (tnY S k i) := by
  unfold tnX tnY
  by_cases h : i < k
  · rw [if_pos h, if_pos h]
    exact ⟨(Pu_re _).pm, (Pu_im _).pm⟩
  · rw [if_neg h, if_neg h]
    exact ⟨by unfold Pm; decide, by unfold Pm; decide⟩
theorem tn_iff {W K : Nat} {D : Nat → Nat} (hD : ∀ i, D i < 1024) (hW : 1 ≤ W) (k : Nat) (i : Nat) (hi : i < W * (K + 16)) : tnB k i = true ↔ onB (tnX (pageS W K D) k i) (tnY (pageS W K D) k i) = true ∨ pageS W K D i ≠ slS (tnX (pageS W K D) k) (tnY (pageS W K D) k) i := by
  unfold tnB slS tnX tnY
  by_cases h : i < k
  · rw [if_pos h, if_pos h, onB_sym, sl_sym (pageS_lt hD hW hi)]
    simp
    exact h
  · rw [if_neg h, if_neg h]
    simp
    exact ⟨fun _ => .inl rfl, fun _ => by omega⟩
theorem tn_none {S : Nat → Nat} {m : Nat} : anyB (fun i => offB (tnX S 0 i) (tnY S 0 i)) m = false := anyB_false fun i _ => by
  unfold tnX tnY
  rw [if_neg (Nat.not_lt_zero i), if_neg (Nat.not_lt_zero i)]
  rfl
theorem tn_some {S : Nat → Nat} {k m : Nat} (hk : 0 < k) (hm : 0 < m) : anyB (fun i => offB (tnX S k i) (tnY S k i)) m = true :=
  anyB_true (j := 0) (by
    unfold tnX tnY offB
    rw [if_pos hk, decide_eq_false (show ¬ reS (S 0) = 0 from co_ne _)]
    rfl) hm
/-- A torn page, read. -/
theorem torn_says {k l s W K : Nat} {d : Nat → Nat} {kk : Nat} (hm : MarkOk k l s) (hd : ∀ i, i < szB W K → d i < 256) (hW : 0 < W) (hK : K ≤ 64) (hwk : 8 < W * K) (h8 : mostJ (tnB kk) W (W * (K + 16)) ≤ 8) (w' : World) (N : Nat) (e : Ending)
    (h : ReadR w' N (tnX (pageS W K (pgD k l s d (szB W K))) kk) (tnY (pageS W K (pgD k l s d (szB W K))) kk) W K e) : SaysR w' N e k l s (szB W K) d (mostJ (tnB kk) W (W * (K + 16)) : Nat) 0 := by
  have hD : ∀ i, pgD k l s d (szB W K) i < 1024 := pgD_lt hm d _
  obtain ⟨a', c', he, ho⟩ := h.says hm hd hW hK hwk (fun r hr => rows_good hD (tn_iff hD hW kk) hW h8 hr)
  rw [rows_most (tn_iff hD hW kk) hW] at he
  exact ⟨a', c', he, ho⟩
theorem torn_bad {W K : Nat} {D : Nat → Nat} {kk : Nat} (hW : 0 < W) (hk : 0 < kk) (h8 : 8 < mostJ (tnB kk) W (W * (K + 16))) (w' : World) (N : Nat) (e : Ending) (dd : Nat → Nat)
    (h : ReadR w' N (tnX (pageS W K D) kk) (tnY (pageS W K D) kk) W K e) : SaysR w' N e 0 0 0 0 dd 0 4 := by
  rw [mostJ_eq hW] at h8
  obtain ⟨r, hr, h9⟩ := mostN_ex h8
  refine SaysR.nothing _ (h.torn (tn_some hk (Nat.mul_pos hW (by omega))) hr (zeros_bad ?_))
  rw [Nat.mul_comm W, ← zerosN_row hr (K + 16)] at h9
  have e : zerosN (fun i => onB (tnX (pageS W K D) kk (r + i * W)) (tnY (pageS W K D) kk (r + i * W))) (K + 16) = zerosN (fun t => tnB kk (r + t * W)) (K + 16) := by
    congr 1
    funext t
    unfold tnB tnX tnY
    by_cases h : r + t * W < kk
    · rw [if_pos h, if_pos h, onB_sym, decide_eq_false (by omega)]
    · rw [if_neg h, if_neg h, decide_eq_true (by omega)]
      rfl
  rw [e]
  exact h9
/-- The points kk .. j are nought. -/
def tnX2 (S : Nat → Nat) (k j i : Nat) : Int := if k ≤ i ∧ i < j then 0 else reS (S i)
def tnY2 (S : Nat → Nat) (k j i : Nat) : Int := if k ≤ i ∧ i < j then 0 else imS (S i)
theorem tn_start {k W r : Nat} : ∀ {n}, n ≤ k → cntR (tnB k) W r n = 0
  | 0, _ => rfl
  | n + 1, h => by
    unfold cntR
    rw [tn_start (show n ≤ k by omega), if_neg (fun h2 => by
      have := h2.1
      unfold tnB at this
      have := of_decide_eq_true this
      omega)]
theorem tn_start_most {k W : Nat} : ∀ {n}, n ≤ k → mostJ (tnB k) W n = 0
  | 0, _ => rfl
  | n + 1, h => by
    unfold mostJ
    rw [if_neg (fun h2 => by
      unfold tnB at h2
      have := of_decide_eq_true h2
      omega)]
    exact tn_start_most (show n ≤ k by omega)
end Go.Proofs.YtdlmjjlejkkniaaGreat
