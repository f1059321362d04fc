/- Pages of points, some of which were moved: which codewords can be read, how many symbols are wrong. Plain. -/
import Derived.Test.YtdlmjjlejkkniaaGreatShift
import Derived.Test.YtdlmjjlejkkniaaGreatMargin
namespace Go.Proofs.YtdlmjjlejkkniaaGreat
open Go.RowKit

theorem run_store_cx (P : Program) (w : World) (a : Addr) (m : Mode) (k : FloatKind) (x y) : (store a (.complex k x y) m).run P w = stored P w a (.complex k x y) m := run_store P w a _ m rfl
theorem symP_pts (s : Nat → Nat) : symP s = ptsV (fun i => reS (s i)) (fun i => imS (s i)) := rfl
theorem co_ne (n : Nat) : co n ≠ 0 := by unfold co; omega
theorem onB_sym (s : Nat) : onB (reS s) (imS s) = false := by
  unfold onB reS
  rw [decide_eq_false (co_ne _)]
  rfl
theorem Pu_re (s : Nat) : Pu (reS s) := by have := re_le s; unfold Pu; omega
theorem Pu_im (s : Nat) : Pu (imS s) := by have := im_le s; unfold Pu; omega
theorem cnt_le_wrong {z : Nat → Bool} {s q : Nat → Nat} : ∀ n, cntNe q s n ≤ wrongN z s q n
  | 0 => Nat.le_refl _
  | n + 1 => by
    have := cnt_le_wrong (z := z) (s := s) (q := q) n
    unfold cntNe wrongN
    by_cases h : q n = s n
    · rw [if_pos h]
      omega
    · rw [if_neg h, if_pos (.inr h)]
      omega
theorem wrongN_zero {z : Nat → Bool} {s q : Nat → Nat} : ∀ {n}, (∀ i, i < n → z i = false ∧ q i = s i) → wrongN z s q n = 0
  | 0, _ => rfl
  | n + 1, h => by
    unfold wrongN
    rw [wrongN_zero (fun i hi => h i (by omega)), if_neg]
    have := h n (by omega)
    simp [this.1, this.2]
theorem wrongN_one {z : Nat → Bool} {s q : Nat → Nat} {k : Nat} (hk : z k = true ∨ q k ≠ s k) : ∀ {n}, (∀ i, i < n → i ≠ k → z i = false ∧ q i = s i) → wrongN z s q n = if k < n then 1 else 0
  | 0, _ => rfl
  | n + 1, h => by
    unfold wrongN
    rw [wrongN_one hk (fun i hi => h i (by omega))]
    by_cases e : n = k
    · subst e
      rw [if_neg (by omega), if_pos hk, if_pos (by omega)]
    · have := h n (by omega) e
      rw [if_neg (show ¬ (z n = true ∨ q n ≠ s n) by simp [this.1, this.2])]
      by_cases h2 : k < n
      · rw [if_pos h2, if_pos (by omega)]
      · rw [if_neg h2, if_neg (by omega)]
/-- A word of the code of which at most eight symbols are wrong can be read. -/
theorem good_of {x y : Nat → Int} {p q : Nat → Nat} {K : Nat} (hq : IsEnc p K q) (h : wrongN (fun i => onB (x i) (y i)) (slS x y) q (K + 16) ≤ 8) : GoodRow x y (K + 16) q :=
  ⟨⟨_, hq.lt, hq.word, rfl, Nat.le_trans (cnt_le_wrong _) h⟩, h⟩
theorem RowIs.good {x y : Nat → Int} {n v : Nat} {b : Bool} {q : Nat → Nat} (hn : n ≤ 1023) (h : RowIs x y n v b) (hg : GoodRow x y n q) : b = true ∧ v = wrongN (fun i => onB (x i) (y i)) (slS x y) q n := by
  rcases h with ⟨q', d, hN, hb, hv⟩ | ⟨hno, _⟩
  · have e := GoodRow.uniq hn hN hg
    rw [wrongN_congr e] at hb hv
    have : b = true := by rw [hb]; exact decide_eq_true hg.2
    subst this
    exact ⟨rfl, hv⟩
  · obtain ⟨⟨d, h1⟩, _⟩ := hg
    exact absurd h1 (hno q d)
theorem RowIs.bad {x y : Nat → Int} {n v : Nat} {b : Bool} (h : RowIs x y n v b) (hg : ∀ q, ¬ GoodRow x y n q) : b = false ∧ v = 0 := by
  rcases h with ⟨q', d, hN, hb, hv⟩ | ⟨_, h1, h2⟩
  · have : b = false := by rw [hb]; exact decide_eq_false fun h8 => hg q' ⟨⟨d, hN⟩, h8⟩
    subst this
    exact ⟨rfl, hv⟩
  · exact ⟨h1, h2⟩
/-- Where more than eight points are nought nothing can be read. -/
def zerosN (z : Nat → Bool) : Nat → Nat
  | 0 => 0
  | n + 1 => zerosN z n + if z n = true then 1 else 0
theorem zeros_le {z : Nat → Bool} {s q : Nat → Nat} : ∀ n, zerosN z n ≤ wrongN z s q n
  | 0 => Nat.le_refl _
  | n + 1 => by
    have := zeros_le (z := z) (s := s) (q := q) n
    unfold zerosN wrongN
    by_cases h : z n = true
    · rw [if_pos h, if_pos (.inl h)]
      omega
    · rw [if_neg h]
      omega
theorem zeros_bad {x y : Nat → Int} {n : Nat} (h : 8 < zerosN (fun i => onB (x i) (y i)) n) (q : Nat → Nat) : ¬ GoodRow x y n q := fun hg => by
  have := zeros_le (z := fun i => onB (x i) (y i)) (s := slS x y) (q := q) n
  have := hg.2
  omega
/-- A page's codeword r. -/
def wordS (W K : Nat) (D : Nat → Nat) (r : Nat) : Nat → Nat := rencV (rowD W D r) K
theorem word_is {W K : Nat} {D : Nat → Nat} (hD : ∀ i, D i < 1024) (r : Nat) : IsEnc (rowD W D r) K (wordS W K D r) := renc_is (fun _ _ => hD _)
theorem page_at {W K : Nat} {D : Nat → Nat} {r : Nat} (hr : r < W) (j : Nat) : pageS W K D (r + j * W) = wordS W K D r j := by
  unfold pageS wovS
  rw [Nat.add_comm, (woven_idx hr).1, (woven_idx hr).2]
  rfl
theorem page_of {W K : Nat} {D : Nat → Nat} (i : Nat) : pageS W K D i = wordS W K D (i % W) (i / W) := rfl
theorem offX_eq {W K n : Nat} {x : Nat → Int} {q : Nat → Nat → Nat} {D : Nat → Nat} (hn : n ≤ W * (K + 16)) (hW : 0 < W) (hq : ∀ r, r < W → ∀ j, j < K + 16 → q r j = wordS W K D r j) : ∀ m, m ≤ n → offX W x q m = offX W x (wordS W K D) m
  | 0, _ => rfl
  | m + 1, hm => by
    unfold offX
    rw [offX_eq hn hW hq m (by omega), hq _ (Nat.mod_lt _ hW) _ (by rw [Nat.div_lt_iff_lt_mul hW, Nat.mul_comm]; omega)]
theorem offY_eq {W K n : Nat} {x : Nat → Int} {q : Nat → Nat → Nat} {D : Nat → Nat} (hn : n ≤ W * (K + 16)) (hW : 0 < W) (hq : ∀ r, r < W → ∀ j, j < K + 16 → q r j = wordS W K D r j) : ∀ m, m ≤ n → offY W x q m = offY W x (wordS W K D) m
  | 0, _ => rfl
  | m + 1, hm => by
    unfold offY
    rw [offY_eq hn hW hq m (by omega), hq _ (Nat.mod_lt _ hW) _ (by rw [Nat.div_lt_iff_lt_mul hW, Nat.mul_comm]; omega)]
/-- All the same off. -/
theorem offX_same {W K : Nat} {x : Nat → Int} {D : Nat → Nat} {a : Int} : ∀ {m}, (∀ i, i < m → x i = reS (pageS W K D i) + a) → offX W x (wordS W K D) m = a * m
  | 0, _ => by show (0 : Int) = _; simp
  | m + 1, h => by
    unfold offX
    rw [offX_same (fun i hi => h i (by omega)), h m (by omega), show wordS W K D (m % W) (m / W) = pageS W K D m from rfl]
    rw [Int.natCast_succ, Int.mul_add]
    omega
theorem offY_same {W K : Nat} {x : Nat → Int} {D : Nat → Nat} {a : Int} : ∀ {m}, (∀ i, i < m → x i = imS (pageS W K D i) + a) → offY W x (wordS W K D) m = a * m
  | 0, _ => by show (0 : Int) = _; simp
  | m + 1, h => by
    unfold offY
    rw [offY_same (fun i hi => h i (by omega)), h m (by omega), show wordS W K D (m % W) (m / W) = pageS W K D m from rfl]
    rw [Int.natCast_succ, Int.mul_add]
    omega
/-- One off, the others not. -/
theorem offX_one {W K : Nat} {x : Nat → Int} {D : Nat → Nat} {a : Int} : ∀ {m}, (∀ i, i < m → x i = reS (pageS W K D i) + if i = 0 then a else 0) → offX W x (wordS W K D) m = if 0 < m then a else 0
  | 0, _ => rfl
  | m + 1, h => by
    unfold offX
    rw [offX_one (fun i hi => h i (by omega)), h m (by omega), show wordS W K D (m % W) (m / W) = pageS W K D m from rfl, if_pos (show 0 < m + 1 by omega)]
    by_cases h0 : m = 0
    · subst h0
      rw [if_neg (by omega), if_pos rfl]
      omega
    · rw [if_pos (by omega), if_neg h0]
      omega
/-- The answer of Shift where each codeword can be read. -/
theorem ShiftR.yes {x y : Nat → Int} {W K n : Nat} {e : Ending} {D : Nat → Nat} (h : ShiftR x y W K n e) (hn : n = W * (K + 16)) (hW : 0 < W) (hK : K ≤ 64) (hg : ∀ r, r < W → GoodRow (fun i => x (r + i * W)) (fun i => y (r + i * W)) (K + 16) (wordS W K D r)) :
    e = .returned (.tuple #[ptv (offX W x (wordS W K D) n) (offY W y (wordS W K D) n), .int .i64 0]) := by
  rcases h with ⟨q, hq, rfl⟩ | ⟨⟨r, hr, hno⟩, _⟩
  · have e1 : ∀ r, r < W → ∀ j, j < K + 16 → q r j = wordS W K D r j := fun r hr j hj => by
      obtain ⟨⟨d, h1⟩, _⟩ := hq r hr
      exact GoodRow.uniq (by omega) h1 (hg r hr) j hj
    rw [offX_eq (by omega : n ≤ W * (K + 16)) hW e1 n (Nat.le_refl _), offY_eq (by omega : n ≤ W * (K + 16)) hW e1 n (Nat.le_refl _)]
  · exact absurd (hg r hr) (hno _)
theorem ShiftR.no {x y : Nat → Int} {W K n : Nat} {e : Ending} (h : ShiftR x y W K n e) {r : Nat} (hr : r < W) (hg : ∀ q, ¬ GoodRow (fun i => x (r + i * W)) (fun i => y (r + i * W)) (K + 16) q) :
    e = .returned (.tuple #[.complex .f64 0 0, .int .i64 4]) := by
  rcases h with ⟨q, hq, _⟩ | ⟨_, rfl⟩
  · exact absurd (hq r hr) (hg _)
  · rfl
theorem farE_zero {s : Nat → Nat} : ∀ {n}, (∀ i, i < n → s i < 1024) → farE (fun i => reS (s i)) (fun i => imS (s i)) n = 0
  | 0, _ => rfl
  | n + 1, h => by
    unfold farE
    rw [farE_zero (fun i hi => h i (by omega))]
    have e : slS (fun i => reS (s i)) (fun i => imS (s i)) n = s n := sl_sym (h n (by omega))
    rw [e]
    simp
end Go.Proofs.YtdlmjjlejkkniaaGreat
