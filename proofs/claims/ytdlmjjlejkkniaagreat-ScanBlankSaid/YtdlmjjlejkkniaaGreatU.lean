/- Rows of 16-bit numbers: one that came in, one of the call's own. Plain words on what a row says as a polynomial. -/
import Derived.Test.YtdlmjjlejkkniaaGreatVals
import Derived.Outline
import Derived.RegionTactic
import Derived.Deep.DeepCutAuto
import Derived.Deep.CutBlock
import Derived.Deep.LoopGhost
import Derived.Deep.QuietTactic
import Derived.BigQuiet
import Derived.Deep.RegionHeld3
import Derived.Deep.DrawnRows
namespace Go.Proofs.YtdlmjjlejkkniaaGreat
open Go.RowKit

theorem Blk.here (w : World) (t : TypeId) (cs : Array Value) (g : Nat) (h : g = w.heap.size) : Blk (w.alloc (.cells cs t)) g t cs := by
  subst h
  exact Blk.new w t cs

/-- A slice of 16-bit numbers: its element i is p i. -/
structure ArgU (w : World) (a : Option Addr) (n : Nat) (p : Nat → Nat) : Prop where
  small : n ≤ 140737488355328
  at_ : 0 < n → ∃ b off, a = some ⟨b, off, none⟩ ∧ b < w.heap.size ∧ ∀ i, i < n → w.cell? ⟨b, off + i, none⟩ = some (.int .u16 (p i))
  lt : ∀ i, i < n → p i < 65536

def uArr (f : Nat → Nat) (n : Nat) : Array Value := valsArr (fun i => .int .u16 (f i)) n
/-- A row that was made since block N: nil, or a block of its own. -/
def ResU (w : World) (N : Nat) (a : Option Addr) (n : Nat) (f : Nat → Nat) : Prop :=
  (a = none ∧ n = 0) ∨ ∃ g, a = some ⟨g, 0, none⟩ ∧ N ≤ g ∧ Blk w g 25 (uArr f n)

theorem uArr_congr {f g : Nat → Nat} {n : Nat} (h : ∀ i, i < n → f i = g i) : uArr f n = uArr g n := valsArr_congr fun i hi => by rw [h i hi]
theorem ArgU.keep {w w' : World} {a : Option Addr} {n : Nat} {p : Nat → Nat} (h : ArgU w a n p) (hk : Keep (fun _ => False) w w') : ArgU w' a n p :=
  ⟨h.small, fun h0 => by
    obtain ⟨b, off, e, hb, hc⟩ := h.at_ h0
    exact ⟨b, off, e, Nat.lt_of_lt_of_le hb hk.size, fun i hi => (hk.cell (p := ⟨b, off + i, none⟩) hb (by simp)).trans (hc i hi)⟩, h.lt⟩
theorem ArgU.nil (w : World) (p : Nat → Nat) : ArgU w none 0 p := ⟨by omega, fun h => by omega, fun i h => by omega⟩
theorem ArgU.congr {w : World} {a : Option Addr} {n : Nat} {p q : Nat → Nat} (h : ArgU w a n p) (e : ∀ i, i < n → p i = q i) : ArgU w a n q :=
  ⟨h.small, fun h0 => by
    obtain ⟨b, off, ea, hb, hc⟩ := h.at_ h0
    exact ⟨b, off, ea, hb, fun i hi => by rw [← e i hi]; exact hc i hi⟩, fun i hi => by rw [← e i hi]; exact h.lt i hi⟩
theorem ArgU.take {w : World} {a : Option Addr} {n m : Nat} {p : Nat → Nat} (h : ArgU w a n p) (hm : m ≤ n) : ArgU w a m p :=
  ⟨by have := h.small; omega, fun h0 => by
    obtain ⟨b, off, ea, hb, hc⟩ := h.at_ (by omega)
    exact ⟨b, off, ea, hb, fun i hi => hc i (by omega)⟩, fun i hi => h.lt i (by omega)⟩
theorem ResU.keep {w w' : World} {N : Nat} {a : Option Addr} {n : Nat} {f : Nat → Nat} (h : ResU w N a n f) (hk : Keep (fun _ => False) w w') : ResU w' N a n f := by
  rcases h with h | ⟨g, e, hN, hb⟩
  · exact .inl h
  · exact .inr ⟨g, e, hN, hb.keep hk (by simp)⟩
theorem ResU.more {w : World} {N M : Nat} {a : Option Addr} {n : Nat} {f : Nat → Nat} (h : ResU w N a n f) (hM : M ≤ N) : ResU w M a n f := by
  rcases h with h | ⟨g, e, hN, hb⟩
  · exact .inl h
  · exact .inr ⟨g, e, by omega, hb⟩
theorem ResU.arg {w : World} {N : Nat} {a : Option Addr} {n : Nat} {f : Nat → Nat} (h : ResU w N a n f) (hn : n ≤ 140737488355328) (hf : ∀ i, f i < 65536) : ArgU w a n f := by
  rcases h with ⟨rfl, rfl⟩ | ⟨g, rfl, hN, hb⟩
  · exact ArgU.nil w f
  · exact ⟨hn, fun _ => ⟨g, 0, rfl, hb.lt, fun i hi => by rw [Nat.zero_add]; exact hb.val hi⟩, fun i _ => hf i⟩
theorem Blk.argU {w : World} {g n : Nat} {f : Nat → Nat} (hb : Blk w g 25 (uArr f n)) (hn : n ≤ 140737488355328) (hf : ∀ i, i < n → f i < 65536) : ArgU w (some ⟨g, 0, none⟩) n f :=
  ⟨hn, fun _ => ⟨g, 0, rfl, hb.lt, fun i hi => by rw [Nat.zero_add]; exact hb.val hi⟩, hf⟩
theorem Blk.storeU {w : World} {g n : Nat} {f : Nat → Nat} (hb : Blk w g 25 (uArr f n)) (i v : Nat) {f' : Nat → Nat} (e : ∀ k, k < n → f' k = if k = i then v else f k) : Blk (w.setCell ⟨g, i, none⟩ (.int .u16 v)) g 25 (uArr f' n) := by
  have := hb.store i (.int .u16 v)
  rwa [valsArr_congr (h := fun k => .int .u16 (f' k : Nat)) (fun k hk => by rw [e k hk]; split <;> rfl)] at this
theorem Tryz.info_u16 : (Tryz.prog.info? 25).map (fun i => (i.zero, i.size, i.bytes)) = some (some (.int .u16 0), 1, 2) := by kernel_rfl
theorem make_u (x : Int) (m : Nat) (hx : x = m) (hm : m ≤ 70368744177664) (w : World) :
    (Instr.makeSlice 31 (.int .i64 x) (.int .i64 x)).run Tryz.prog w = .ok (.slice (some ⟨w.heap.size, 0, none⟩) m m) (w.alloc (.cells (uArr (fun _ => 0) m) 25)) :=
  make_vals (P := Tryz.prog) Tryz.underlying31 Tryz.info_u16 rfl x m hx (by omega) (by omega) w

/-- What a row says as a polynomial. -/
def cut (p : Nat → Nat) (n : Nat) : Nat → Nat := fun i => if i < n then p i % 1024 else 0
/-- A polynomial with n coefficients, the last not nought. -/
structure IsPol (f : Nat → Nat) (n : Nat) : Prop where
  lt : ∀ i, f i < 1024
  zero : ∀ i, n ≤ i → f i = 0
  lead : 0 < n → f (n - 1) ≠ 0
theorem IsPol.uniq {f : Nat → Nat} {n m : Nat} (h : IsPol f n) (k : IsPol f m) : n = m := by
  rcases Nat.lt_trichotomy n m with e | e | e
  · exact absurd (h.zero (m - 1) (by omega)) (k.lead (by omega))
  · exact e
  · exact absurd (k.zero (n - 1) (by omega)) (h.lead (by omega))
theorem IsPol.lt16 {f : Nat → Nat} {n : Nat} (h : IsPol f n) (i : Nat) : f i < 65536 := by have := h.lt i; omega
theorem IsPol.cut {f : Nat → Nat} {n m : Nat} (h : IsPol f n) (hm : n ≤ m) : cut f m = f := by
  funext i
  unfold Proofs.YtdlmjjlejkkniaaGreat.cut
  split
  · exact Nat.mod_eq_of_lt (h.lt i)
  · exact (h.zero i (by omega)).symm
theorem cut_lt (p : Nat → Nat) (n i : Nat) : cut p n i < 1024 := by
  unfold cut
  split <;> omega
theorem cut_zero (p : Nat → Nat) {n i : Nat} (h : n ≤ i) : cut p n i = 0 := by simp [cut, Nat.not_lt.2 h]
theorem cut_in (p : Nat → Nat) {n i : Nat} (h : i < n) : cut p n i = p i % 1024 := by simp [cut, h]
theorem cut_congr {p q : Nat → Nat} {n : Nat} (h : ∀ i, i < n → p i = q i) : cut p n = cut q n := by
  funext i
  unfold cut
  split
  · rw [h i ‹_›]
  · rfl
theorem cut_of_lt {f : Nat → Nat} {n : Nat} (h : ∀ i, f i < 1024) (hz : ∀ i, n ≤ i → f i = 0) : cut f n = f := by
  funext i
  unfold cut
  split
  · exact Nat.mod_eq_of_lt (h i)
  · exact (hz i (by omega)).symm
/-- How long it is. -/
def topB (f : Nat → Nat) : Nat → Nat
  | 0 => 0
  | n + 1 => if f n = 0 then topB f n else n + 1
theorem topB_le (f : Nat → Nat) (n : Nat) : topB f n ≤ n := by
  induction n with
  | zero => simp [topB]
  | succ n ih => unfold topB; split <;> omega
theorem topB_pol {f : Nat → Nat} {n : Nat} (h : ∀ i, f i < 1024) (hz : ∀ i, n ≤ i → f i = 0) : IsPol f (topB f n) := by
  induction n with
  | zero => exact ⟨h, fun i _ => hz i (by omega), fun h => by simp [topB] at h⟩
  | succ n ih =>
    unfold topB
    split
    · rename_i h0
      exact ih (fun i hi => by
        by_cases e : i = n
        · rw [e]; exact h0
        · exact hz i (by omega))
    · rename_i h0
      exact ⟨h, hz, fun _ => by simpa using h0⟩
theorem IsPol.top {f : Nat → Nat} {n m : Nat} (h : IsPol f n) (hm : n ≤ m) : n = topB f m := h.uniq (topB_pol h.lt (fun i hi => h.zero i (by omega)))
end Go.Proofs.YtdlmjjlejkkniaaGreat
