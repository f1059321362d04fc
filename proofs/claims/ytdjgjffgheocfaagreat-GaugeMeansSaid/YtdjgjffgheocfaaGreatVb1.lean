/- Contracts of the functions of package valid. -/
import Derived.Test.YtdjgjffgheocfaaGreatBase
import Derived.Test.YtdjgjffgheocfaaGreatVb0
import Derived.StillTailTactics
import Derived.Outline
namespace Go.Proofs.YtdjgjffgheocfaaGreat
open Go.RowKit

/-- A valid.Bits of n bits f: its struct in block pb, its words in block sb. -/
def wordsArr (f : Nat → Bool) (nw : Nat) : Array Value := Array.ofFn (n := nw) fun j => .int .u64 (wordOf f j)
structure IsBits (w : World) (pb sb n : Nat) (f : Nat → Bool) : Prop where
  hn : n ≤ 1048576
  hp : Blk w pb 181 #[.slice (some ⟨sb, 0, none⟩) ((n + 63) / 64) ((n + 63) / 64), .int .i64 n]
  hs : Blk w sb 189 (wordsArr f ((n + 63) / 64))
  hf : ∀ k, n ≤ k → f k = false

theorem IsBits.len {w : World} {pb sb n : Nat} {f : Nat → Bool} (h : IsBits w pb sb n f) : w.cell? ⟨pb, 1, none⟩ = some (.int .i64 n) := by rw [h.hp.cell]; rfl
theorem IsBits.sl {w : World} {pb sb n : Nat} {f : Nat → Bool} (h : IsBits w pb sb n f) : w.cell? ⟨pb, 0, none⟩ = some (.slice (some ⟨sb, 0, none⟩) ((n + 63) / 64) ((n + 63) / 64)) := by rw [h.hp.cell]; rfl
theorem IsBits.word {w : World} {pb sb n : Nat} {f : Nat → Bool} (h : IsBits w pb sb n f) {j : Nat} (hj : j < (n + 63) / 64) : w.cell? ⟨sb, j, none⟩ = some (.int .u64 (wordOf f j)) := by
  rw [h.hs.cell]; simp [wordsArr, hj]

theorem there_in (pb n : Nat) (i : Int) (w : World) (h0 : 0 ≤ i) (h1 : i < n) (hn : w.cell? ⟨pb, 1, none⟩ = some (.int .i64 n)) :
    Calls Tryz.prog 109 #[.pointer (some ⟨pb, 0, none⟩), .int .i64 i] w fun e w' => e = .returned (.bool true) ∧ w = w' := by
  go_enter Tryz.func109, Tryz.ntmps109
  go_wp2
  go_ret
  exact ⟨rfl, rfl⟩
theorem there_out (pb n : Nat) (i : Int) (w : World) (h0 : i < 0 ∨ n ≤ i) (hn : w.cell? ⟨pb, 1, none⟩ = some (.int .i64 n)) :
    Calls Tryz.prog 109 #[.pointer (some ⟨pb, 0, none⟩), .int .i64 i] w fun e w' => e = .returned (.bool false) ∧ w = w' := by
  rcases h0 with h0 | h0
  · go_enter Tryz.func109, Tryz.ntmps109
    go_wp2
    go_ret
    exact ⟨rfl, rfl⟩
  · have h1 : 0 ≤ i := by omega
    have h2 : decide (i < (n : Int)) = false := by simpa using h0
    go_enter Tryz.func109, Tryz.ntmps109
    go_wp2
    go_ret
    exact ⟨rfl, rfl⟩

/-- Is bit i there, and set? -/
def hasB (n : Nat) (f : Nat → Bool) (i : Int) : Bool := decide (0 ≤ i) && decide (i < n) && f i.toNat

theorem ret_bool {a b : Bool} (h : a = b) : Ending.returned (.bool a) = .returned (.bool b) := by rw [h]

theorem has_any (pb sb n : Nat) (f : Nat → Bool) (i : Int) (w : World) (h : IsBits w pb sb n f) :
    Calls Tryz.prog 110 #[.pointer (some ⟨pb, 0, none⟩), .int .i64 i] w fun e w' => e = .returned (.bool (hasB n f i)) ∧ w = w' := by
  have hn := h.hn
  have hl := h.len
  have hs := h.sl
  by_cases h0 : 0 ≤ i ∧ i < n
  · obtain ⟨j, rfl⟩ := Int.eq_ofNat_of_zero_le h0.1
    have h1 : j < n := by omega
    have hc := h.word (j := j / 64) (by omega)
    clear h h0
    go_enter Tryz.func110, Tryz.ntmps110
    go_wp2_with (first | (go_at_call 109; refine (there_in _ _ _ _ (by omega) (by omega) hl).mono ?_; rintro e w' ⟨rfl, rfl⟩))
    go_ret
    exact ⟨ret_bool (by rw [bit_read]; simp [hasB, h1]), rfl⟩
  · have h1 : hasB n f i = false := by
      unfold hasB
      by_cases a : 0 ≤ i <;> by_cases b : i < n <;> simp [a, b]
      exact absurd ⟨a, b⟩ h0
    have h2 : i < 0 ∨ (n : Int) ≤ i := by omega
    clear h h0
    rw [h1]
    clear h1
    go_enter Tryz.func110, Tryz.ntmps110
    go_wp2_with (first | (go_at_call 109; refine (there_out _ _ _ _ h2 hl).mono ?_; rintro e w' ⟨rfl, rfl⟩))
    go_ret
    exact ⟨rfl, rfl⟩
end Go.Proofs.YtdjgjffgheocfaaGreat
