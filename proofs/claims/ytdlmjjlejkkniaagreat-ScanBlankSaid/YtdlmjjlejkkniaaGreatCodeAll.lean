/- Encode and Decode at whatever comes in. -/
import Derived.Test.YtdlmjjlejkkniaaGreatCodeW
namespace Go.Proofs.YtdlmjjlejkkniaaGreat
open Go.RowKit

/-- One symbol put in another's place. -/
def updU (p : Nat → Nat) (i v : Nat) : Nat → Nat := fun k => if k = i then v else p k
theorem cntNe_one {q : Nat → Nat} {i v : Nat} (h : q i ≠ v) : ∀ n, cntNe q (updU q i v) n = if i < n then 1 else 0
  | 0 => rfl
  | n + 1 => by
    rw [cntNe, cntNe_one h n]
    unfold updU
    by_cases e : n = i
    · subst e
      rw [if_pos rfl, if_neg h, if_neg (by omega), if_pos (by omega)]
    · rw [if_neg e, if_pos rfl]
      by_cases h2 : i < n
      · rw [if_pos h2, if_pos (by omega)]
      · rw [if_neg h2, if_neg (by omega)]
theorem updU_lt {p : Nat → Nat} {i v n : Nat} (hp : ∀ k, k < n → p k < 1024) (hv : v < 1024) (k : Nat) (hk : k < n) : updU p i v k < 1024 := by
  unfold updU
  split
  · exact hv
  · exact hp k hk
theorem xor_ne {a b : Nat} (h : b ≠ 0) : a ≠ a ^^^ b := fun e => h (by
  have := xor_cancel a b
  rw [← e, Nat.xor_self] at this
  exact this.symm)
/-- A word with one symbol turned. -/
theorem near_one {q : Nat → Nat} {n i v : Nat} (hq : ∀ k, k < n → q k < 1024) (hw : ∀ j, j < 16 → synW q n j = 0) (hi : i < n) (h : q i ≠ v) : Near (updU q i v) n q 1 :=
  ⟨hq, hw, by rw [cntNe_one h, if_pos hi], by omega⟩
/-- Where a word of the code is near, a decoder finds it. -/
theorem DecR.near {w' : World} {N n d : Nat} {p q : Nat → Nat} {e : Ending} (h : DecR w' N p n e) (hq : Near p n q d) (hn : n ≤ 1023) : ∃ a' c', e = .returned (.tuple #[.slice a' n c', .int .i64 d, .int .i64 0]) ∧ OwnU w' N a' n c' q := by
  rcases h with ⟨r, d', a', c', hr, he, ho⟩ | ⟨h, _⟩
  · obtain ⟨h1, rfl⟩ := Near.uniq hn hq hr
    exact ⟨a', c', he, ho.congr (fun i hi => (h1 i hi).symm)⟩
  · exact absurd hq (h q d)
/-- What Encode answers. -/
def EncA (w' : World) (N : Nat) (p : Nat → Nat) (k : Nat) (e : Ending) : Prop :=
  ((k = 0 ∨ 1007 < k) ∧ e = .returned (.tuple #[.slice none 0 0, .int .i64 3])) ∨
  (0 < k ∧ k ≤ 1007 ∧ (∃ i, i < k ∧ 1024 ≤ p i) ∧ e = .returned (.tuple #[.slice none 0 0, .int .i64 1])) ∨
  (0 < k ∧ k ≤ 1007 ∧ (∀ i, i < k → p i < 1024) ∧ EncR w' N p k e)
/-- What Decode answers. -/
def DecA (w' : World) (N : Nat) (p : Nat → Nat) (n : Nat) (e : Ending) : Prop :=
  ((n ≤ 16 ∨ 1023 < n) ∧ e = .returned (.tuple #[.slice none 0 0, .int .i64 0, .int .i64 3])) ∨
  (16 < n ∧ n ≤ 1023 ∧ (∃ i, i < n ∧ 1024 ≤ p i) ∧ e = .returned (.tuple #[.slice none 0 0, .int .i64 0, .int .i64 1])) ∨
  (16 < n ∧ n ≤ 1023 ∧ (∀ i, i < n → p i < 1024) ∧ DecR w' N p n e)
theorem dec_all (V : Value) (a : Option Addr) (n c : Nat) (p : Nat → Nat) (w : World) (hT : HasT w V) (ha : ArgU w a n p) :
    Calls Tryz.prog 91 #[V, .slice a n c] w fun e w' => DecA w' w.heap.size p n e ∧ Keep (fun _ => False) w w' := by
  by_cases h : n ≤ 16 ∨ 1023 < n
  · exact (dec_size V a n c w hT h).mono fun _ _ ⟨h1, h2⟩ => ⟨.inl ⟨h, h1⟩, h2⟩
  · by_cases hx : ∃ i, i < n ∧ 1024 ≤ p i
    · exact (dec_arg V a n c p w hT ha (by omega) (by omega) hx).mono fun _ _ ⟨h1, h2⟩ => ⟨.inr (.inl ⟨by omega, by omega, hx, h1⟩), h2⟩
    · have hp : ∀ i, i < n → p i < 1024 := fun i hi => by
        rcases Nat.lt_or_ge (p i) 1024 with h | h
        · exact h
        · exact absurd ⟨i, hi, h⟩ hx
      exact (dec_any V a n c p w hT ha (by omega) (by omega) hp).mono fun _ _ ⟨h1, h2⟩ => ⟨.inr (.inr ⟨by omega, by omega, hp, h1⟩), h2⟩
/-- The same, in one shape. -/
def EncZ (w' : World) (N : Nat) (p : Nat → Nat) (k : Nat) (a' : Option Addr) (n' c' : Nat) (z : Int) : Prop :=
  (z ≠ 0) ∨ (z = 0 ∧ n' = k + 16 ∧ 0 < k ∧ k ≤ 1007 ∧ (∀ i, i < k → p i < 1024) ∧ ∃ q, IsEnc p k q ∧ OwnU w' N a' n' c' q)
theorem empty_own (w : World) (f : Nat → Nat) : OwnU (w.alloc (.cells #[] 25)) w.heap.size (some ⟨w.heap.size, 0, none⟩) 0 0 f :=
  OwnU.of_row (RowU.of_blk (Blk.new w _ _)) (Nat.le_refl _) (by unfold maxLen; omega)
theorem cntNe_upd {q p : Nat → Nat} {i v : Nat} (h : q i = p i) : ∀ n, cntNe q (updU p i v) n = cntNe q p n + if i < n ∧ q i ≠ v then 1 else 0
  | 0 => by rw [if_neg (by omega)]; rfl
  | n + 1 => by
    rw [cntNe, cntNe_upd h n, cntNe]
    unfold updU
    by_cases e : n = i
    · subst e
      rw [if_pos rfl, if_neg (show ¬ (n < n ∧ q n ≠ v) by omega), if_pos h]
      by_cases h2 : q n = v
      · rw [if_pos h2, if_neg (by simp [h2])]
      · rw [if_neg h2, if_pos ⟨by omega, h2⟩]
    · rw [if_neg e]
      generalize (if q n = p n then 0 else 1) = X
      by_cases h2 : i < n ∧ q i ≠ v
      · rw [if_pos h2, if_pos ⟨by omega, h2.2⟩]
        omega
      · rw [if_neg h2, if_neg (fun h3 => h2 ⟨by omega, h3.2⟩)]
        omega
end Go.Proofs.YtdlmjjlejkkniaaGreat
