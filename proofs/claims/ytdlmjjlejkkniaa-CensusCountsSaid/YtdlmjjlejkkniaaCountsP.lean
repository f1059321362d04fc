/- Cells that were moved toward the middle, each once. Plain. -/
import Derived.Test.YtdlmjjlejkkniaaLawHead
namespace Go.Proofs.Ytdlmjjlejkkniaa
open Go.RowKit

theorem TVar.keepS {S : Nat → Prop} {w w' : World} {gt g1 g2 : Nat} (h : TVar w gt g1 g2) (k : Keep S w w') (h0 : ¬ S gt) (h1 : ¬ S g1) (h2 : ¬ S g2) : TVar w' gt g1 g2 :=
  ⟨h.b.keep k h0, ⟨h.t.e.keep k h1, h.t.l.keep k h2⟩⟩
theorem Keep.step {S : Nat → Prop} {w w1 w2 : World} (h : Keep S w w1) (k : Keep (fun _ => False) w1 w2) : Keep S w w2 := h.trans k (fun _ hi => hi.elim)
/-- How far cell i was moved. -/
def mvI (S : Nat → Nat) (i : Nat) : Int := if 0 < reS (S i) then -48 else 48
def cnX (S : Nat → Nat) (b : Nat → Bool) : Nat → Int := fun i => reS (S i) + if b i = true then mvI S i else 0
def cnY (S : Nat → Nat) : Nat → Int := fun i => imS (S i)
theorem cn_u (S : Nat → Nat) (b : Nat → Bool) (i : Nat) : Pu (cnX S b i) ∧ Pu (cnY S i) := by
  have h1 := re_le (S i)
  have h2 := im_le (S i)
  unfold cnX cnY mvI Pu
  constructor
  · split
    · split <;> omega
    · omega
  · omega
theorem cn_on (S : Nat → Nat) (b : Nat → Bool) (i : Nat) : onB (cnX S b i) (cnY S i) = false := by
  unfold onB
  rw [decide_eq_false (show ¬ cnY S i = 0 from co_ne _), Bool.and_false]
theorem lev_moved {n : Nat} (h : n ≤ 31) : levN (co n + if 0 < co n then -48 else 48) ≠ n := by
  unfold levN levI co
  split <;> omega
theorem cn_sl {S : Nat → Nat} {b : Nat → Bool} {i : Nat} (hS : S i < 1024) : S i ≠ slS (cnX S b) (cnY S) i ↔ b i = true := by
  unfold slS cnX cnY
  cases hb : b i with
  | false =>
    rw [if_neg (by simp), Int.add_zero, sl_sym hS]
    simp
  | true =>
    rw [if_pos rfl]
    refine ⟨fun _ => rfl, fun _ e => ?_⟩
    have h1 := lev_moved (n := S i % 1024 / 32) (by omega)
    have e2 : levN (reS (S i) + mvI S i) = S i % 1024 / 32 := by
      have h3 := levN_le (imS (S i))
      have h4 := levN_le (reS (S i) + mvI S i)
      unfold sl at e
      omega
    exact h1 e2
theorem wrong_cnt {z b : Nat → Bool} {s q : Nat → Nat} : ∀ {n}, (∀ i, i < n → ((z i = true ∨ q i ≠ s i) ↔ b i = true)) → wrongN z s q n = zerosN b n
  | 0, _ => rfl
  | n + 1, h => by
    unfold wrongN zerosN
    rw [wrong_cnt (fun i hi => h i (by omega))]
    have := h n (by omega)
    by_cases hb : b n = true
    · rw [if_pos hb, if_pos (this.2 hb)]
    · rw [if_neg hb, if_neg (fun h2 => hb (this.1 h2))]
/-- How many of row r were moved. -/
def manyN (b : Nat → Bool) (W n r : Nat) : Nat := zerosN (fun j => b (r + j * W)) n
theorem cn_wrong {W K : Nat} {D : Nat → Nat} (hD : ∀ i, D i < 1024) (hW : 1 ≤ W) (b : Nat → Bool) {r : Nat} (hr : r < W) :
    wrongN (fun i => onB (cnX (pageS W K D) b (r + i * W)) (cnY (pageS W K D) (r + i * W))) (slS (fun i => cnX (pageS W K D) b (r + i * W)) (fun i => cnY (pageS W K D) (r + i * W))) (wordS W K D r) (K + 16) = manyN b W (K + 16) r :=
  wrong_cnt fun i hi => by
    have hlt := (row_lt (r := r) (j := i) (W := W) (N := K + 16) hr).2 hi
    rw [cn_on, ← page_at hr]
    have := cn_sl (b := b) (pageS_lt hD hW hlt)
    constructor
    · rintro (h | h)
      · cases h
      · exact this.1 h
    · exact fun h => .inr (this.2 h)
theorem cn_good {W K : Nat} {D : Nat → Nat} (hD : ∀ i, D i < 1024) (hW : 1 ≤ W) (b : Nat → Bool) {r : Nat} (hr : r < W) (h8 : manyN b W (K + 16) r ≤ 8) :
    GoodRow (fun i => cnX (pageS W K D) b (r + i * W)) (fun i => cnY (pageS W K D) (r + i * W)) (K + 16) (wordS W K D r) :=
  good_of (word_is hD r) (by rw [cn_wrong hD hW b hr]; exact h8)
theorem zerosN_upd {z : Nat → Bool} {t : Nat} (ht : z t = false) : ∀ n, zerosN (updF z t true) n = zerosN z n + if t < n then 1 else 0
  | 0 => rfl
  | n + 1 => by
    unfold zerosN
    rw [zerosN_upd ht n]
    by_cases e : n = t
    · subst e
      rw [updF_at, ht, if_pos rfl, if_neg (by omega), if_neg (by simp), if_pos (by omega)]
    · rw [updF_ne _ _ e]
      by_cases h : t < n
      · rw [if_pos h, if_pos (show t < n + 1 by omega)]
        omega
      · rw [if_neg h, if_neg (show ¬ t < n + 1 by omega)]
        omega
theorem manyN_upd {b : Nat → Bool} {W n k : Nat} (hW : 0 < W) (hk : k < W * n) (hb : b k = false) {r : Nat} (hr : r < W) : manyN (updF b k true) W n r = if r = k % W then manyN b W n r + 1 else manyN b W n r := by
  unfold manyN
  have hkd : k / W < n := by rw [Nat.div_lt_iff_lt_mul hW, Nat.mul_comm]; exact hk
  have hke : k % W + k / W * W = k := by rw [Nat.mul_comm]; exact Nat.mod_add_div k W
  by_cases h : r = k % W
  · subst h
    rw [if_pos rfl]
    have e : (fun j => updF b k true (k % W + j * W)) = updF (fun j => b (k % W + j * W)) (k / W) true := by
      funext j
      unfold updF
      by_cases hj : j = k / W
      · subst hj
        rw [if_pos hke, if_pos rfl]
      · rw [if_neg hj, if_neg (fun h => hj ?_)]
        have : k % W + j * W = k % W + k / W * W := by rw [h, hke]
        exact Nat.eq_of_mul_eq_mul_right hW (by omega)
    rw [e, zerosN_upd (by rw [hke]; exact hb), if_pos hkd]
  · rw [if_neg h]
    congr 1
    funext j
    unfold updF
    rw [if_neg (fun e => h ?_)]
    rw [← e, Nat.add_mul_mod_self_right, Nat.mod_eq_of_lt hr]
theorem manyN_zero (W n r : Nat) : manyN (fun _ => false) W n r = 0 := by
  unfold manyN
  induction n with
  | zero => rfl
  | succ n ih =>
    unfold zerosN
    rw [ih, if_neg (by simp)]
end Go.Proofs.Ytdlmjjlejkkniaa
