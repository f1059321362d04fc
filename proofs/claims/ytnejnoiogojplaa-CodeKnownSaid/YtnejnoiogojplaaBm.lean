/- Berlekamp and Massey's loop: plain. -/
import Derived.Test.YtnejnoiogojplaaMassey
namespace Go.Proofs.Ytnejnoiogojplaa

/-- What the loop holds at n. -/
structure BM (S : Nat → Nat) (n : Nat) (loc old : Nat → Nat) (long by_ last : Nat) : Prop where
  gen : Gen loc long S n
  le : long ≤ n
  olt : ∀ i, old i < 1024
  by0 : 0 < by_
  l0 : last ≠ 0
  llt : last < 1024
  was : (long = 0 ∧ last = 1 ∧ by_ = n + 1 ∧ ∀ i, 0 < i → old i = 0) ∨ ∃ m M, Gen old M S m ∧ by_ + m = n ∧ disc old S M m = last ∧ long + M = m + 1
  least : ∀ g M, Gen g M S n → long ≤ M
theorem BM.start {S f : Nat → Nat} (hf : ∀ i, f i < 1024) (h1 : f 0 = 1) (hz : ∀ i, 0 < i → f i = 0) : BM S 0 f f 0 1 1 :=
  ⟨⟨hf, h1, hz, fun j _ h => by omega⟩, by omega, hf, by omega, by omega, by omega, .inl ⟨rfl, rfl, rfl, hz⟩, fun _ _ _ => Nat.zero_le _⟩
/-- The next polynomial. -/
noncomputable def bmNext (S : Nat → Nat) (n : Nat) (loc old : Nat → Nat) (long by_ last : Nat) : Nat → Nat := padd loc (shx by_ (gm (disc loc S long n) (gi last)) old)
theorem shx_nil (b : Nat) (f : Nat → Nat) : shx b 0 f = fun _ => 0 := funext fun i => by
  unfold shx
  split
  · rfl
  · exact gm_zero_left _
theorem BM.same {S : Nat → Nat} {n : Nat} {loc old : Nat → Nat} {long by_ last : Nat} (h : BM S n loc old long by_ last) (hd : disc loc S long n = 0) :
    bmNext S n loc old long by_ last = loc ∧ BM S (n + 1) loc old long (by_ + 1) last := by
  refine ⟨?_, ⟨h.gen.lt, h.gen.one, h.gen.zero, fun j h1 h2 => ?_⟩, by have := h.le; omega, h.olt, by omega, h.l0, h.llt, ?_, fun g M hg => h.least g M (hg.less (by omega))⟩
  · unfold bmNext
    rw [hd, gm_zero_left, shx_nil]
    exact funext fun i => Nat.xor_zero _
  · rcases Nat.lt_or_ge j n with h3 | h3
    · exact h.gen.gen j h1 h3
    · obtain rfl : j = n := by omega
      exact hd
  · rcases h.was with ⟨a, b, c, d⟩ | ⟨m, M, a, b, c, d⟩
    · exact .inl ⟨a, b, by omega, d⟩
    · exact .inr ⟨m, M, a, by omega, c, d⟩
theorem BM.scale {S : Nat → Nat} {n : Nat} {loc old : Nat → Nat} {long by_ last : Nat} (h : BM S n loc old long by_ last) : gm (gm (disc loc S long n) (gi last)) last = disc loc S long n := by
  rw [gm_assoc (disc_lt h.gen.lt _ _) (gi_lt _) h.llt, gm_comm (gi_lt _) h.llt, gi_mul h.llt h.l0, gm_one_right]
theorem BM.stay {S : Nat → Nat} {n : Nat} {loc old : Nat → Nat} {long by_ last : Nat} (hS : ∀ i, S i < 1024) (h : BM S n loc old long by_ last) (h2 : n + 1 ≤ 2 * long) :
    BM S (n + 1) (bmNext S n loc old long by_ last) old long (by_ + 1) last := by
  rcases h.was with ⟨a, b, c, d⟩ | ⟨m, M, a, b, c, d⟩
  · omega
  · refine ⟨gen_step hS h.gen a b h.by0 (gm_lt (disc_lt h.gen.lt _ _) _) (by rw [c]; exact h.scale) (Nat.le_refl _) (by omega), by have := h.le; omega, h.olt, by omega, h.l0, h.llt, .inr ⟨m, M, a, by omega, c, d⟩, fun g M hg => h.least g M (hg.less (by omega))⟩
theorem BM.turn {S : Nat → Nat} {n : Nat} {loc old : Nat → Nat} {long by_ last : Nat} (hS : ∀ i, S i < 1024) (h : BM S n loc old long by_ last) (h2 : 2 * long < n + 1) (hd : disc loc S long n ≠ 0) :
    BM S (n + 1) (bmNext S n loc old long by_ last) loc (n + 1 - long) 1 (disc loc S long n) := by
  have hle := h.le
  have hc := gm_lt (disc_lt h.gen.lt (S := S) long n) (gi last)
  refine ⟨?_, by omega, h.gen.lt, by omega, hd, disc_lt h.gen.lt _ _, .inr ⟨n, long, h.gen, by omega, rfl, by omega⟩, fun g M hg => by have := massey hS h.gen hg hd; omega⟩
  rcases h.was with ⟨a, b, c, d⟩ | ⟨m, M, a, b, c, d⟩
  · refine ⟨padd_lt h.gen.lt (shx_lt hc), ?_, fun i hi => ?_, fun j h3 h4 => by omega⟩
    · show loc 0 ^^^ shx by_ _ old 0 = 1
      unfold shx
      rw [if_pos h.by0, Nat.xor_zero, h.gen.one]
    · show loc i ^^^ shx by_ _ old i = 0
      unfold shx
      rw [if_neg (by omega), d _ (by omega), gm_zero_right, h.gen.zero _ (by omega)]
      rfl
  · exact gen_step hS h.gen a b h.by0 hc (by rw [c]; exact h.scale) (by omega) (by omega)
end Go.Proofs.Ytnejnoiogojplaa
