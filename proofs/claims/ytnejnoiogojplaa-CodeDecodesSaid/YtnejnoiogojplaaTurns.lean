/- Symbols of a word turned, one after another: the argument in memory, what it makes of a word. -/
import Derived.Test.YtnejnoiogojplaaCodeAll
import Derived.Test.YtnejnoiogojplaaArgsC
import Derived.Test.YtnejnoiogojplaaElems
namespace Go.Proofs.Ytnejnoiogojplaa
open Go.ChangeShapes Go.WideShapes Go.ChangeAt Go.RowKit

theorem rem_i64 (a b k : Nat) (hk : k = a % b) (hb : 0 < b) (w : World) : (binOp .rem 3 (.int .i64 a) (.int .i64 b)).run Try.prog w = .ok (.int .i64 (k : Int)) w := by
  have f2 : ¬ b = 0 := by omega
  have e4 : ((a : Nat) : Int).tmod (b : Int) = (k : Int) := by
    rw [Int.tmod_eq_emod_of_nonneg (by omega), hk]
    rfl
  clear hk
  simp only [binOp]
  simp [Op.intDiv, f2, e4]
theorem pair_at0 (b o : Nat) (w : World) : (Instr.indexAt 47 (.pointer (some ⟨b, o, none⟩)) (.int .i64 0)).run Try.prog w = .ok (.pointer (some ⟨b, o, none⟩)) w := by
  simp [Instr.indexAt, asIntOf, Instr.sureAddr, Addr.add]
theorem pair_at1 (b o : Nat) (w : World) : (Instr.indexAt 47 (.pointer (some ⟨b, o, none⟩)) (.int .i64 1)).run Try.prog w = .ok (.pointer (some ⟨b, o + 1, none⟩)) w := by
  simp [Instr.indexAt, asIntOf, Instr.sureAddr, Addr.add]
/-- Pairs of symbols that came in. -/
structure ArgT (w : World) (a : Option Addr) (m : Nat) (x y : Nat → Nat) : Prop where
  at_ : 0 < m → ∃ b off, a = some ⟨b, off, none⟩ ∧ b < w.heap.size ∧ ∀ i, i < m → w.cell? ⟨b, off + i * 2, none⟩ = some (.int .u16 (x i)) ∧ w.cell? ⟨b, off + i * 2 + 1, none⟩ = some (.int .u16 (y i))
  lt : ∀ i, i < m → x i < 65536 ∧ y i < 65536
theorem ArgT.keep {w w' : World} {a : Option Addr} {m : Nat} {x y : Nat → Nat} (h : ArgT w a m x y) (hk : Keep (fun _ => False) w w') : ArgT w' a m x y :=
  ⟨fun h0 => by
    obtain ⟨b, off, e, hb, hc⟩ := h.at_ h0
    exact ⟨b, off, e, Nat.lt_of_lt_of_le hb hk.size, fun i hi => ⟨(hk.cell (p := ⟨b, off + i * 2, none⟩) hb (by simp)).trans (hc i hi).1, (hk.cell (p := ⟨b, off + i * 2 + 1, none⟩) hb (by simp)).trans (hc i hi).2⟩⟩, h.lt⟩
/-- The word when the first i have turned. -/
def trn (q : Nat → Nat) (n : Nat) (x y : Nat → Nat) : Nat → Nat → Nat
  | 0 => q
  | i + 1 => updU (trn q n x y i) (x i % n) (trn q n x y i (x i % n) ^^^ y i % 1024)
theorem trn_lt {q : Nat → Nat} {n : Nat} {x y : Nat → Nat} (hn : 0 < n) (hq : ∀ k, k < n → q k < 1024) : ∀ i k, k < n → trn q n x y i k < 1024
  | 0, k, hk => hq k hk
  | i + 1, k, hk => by
    show (if k = x i % n then _ else trn q n x y i k) < 1024
    split
    · exact xor_lt (trn_lt hn hq i _ (Nat.mod_lt _ hn)) (Nat.mod_lt _ (by omega))
    · exact trn_lt hn hq i k hk
theorem pair_u16 {H : Type} {enc : TypeId × Value → H} {w : World} {base : Nat} {c0 c1 : Value} {sp : Nat → Bool} {fuel : Nat} {x : DataW H × List MemPlace}
    (h : DataW.trod enc Try.prog w base sp true fuel 47 [c0, c1] = some x) : ∃ a b : Nat, c0 = .int .u16 a ∧ c1 = .int .u16 b ∧ a < 65536 ∧ b < 65536 := by
  obtain ⟨xs, m, _, _, _, hlen, hf2⟩ := DataW.trod_array Try.underlying47 h
  have c1' : Try.prog.cellsOf 23 = 1 := by kernel_rfl
  have h0 := hf2 0 (by omega)
  have h1 := hf2 1 (by omega)
  rw [c1', List.getElem?_eq_getElem (by omega)] at h0 h1
  obtain ⟨a, e0, _, wa⟩ := DataW.trod_int Try.underlying23 h0
  obtain ⟨b, e1, _, wb⟩ := DataW.trod_int Try.underlying23 h1
  obtain ⟨n0, rfl, l0⟩ := word_of wa
  obtain ⟨n1, rfl, l1⟩ := word_of wb
  simp at e0 e1
  exact ⟨n0, n1, e0, e1, l0, l1⟩
theorem argT_of {H : Type} {enc : TypeId × Value → H} {w : World} {base : Nat} {a : Option Addr} {len cap : Nat} {d : DataW H} {ps : List MemPlace} {sp : Nat → Bool}
    (h : DataW.Trod enc Try.prog w base sp true 46 (.slice a len cap) d ps) : ∃ x y, ArgT w a len x y := by
  obtain ⟨_, C, hC, hE⟩ := argElems_of (s := 2) Try.underlying46 (by kernel_rfl) (by omega) h
  have hv : ∀ i, i < len → ∃ a b : Nat, C i 0 = .int .u16 a ∧ C i 1 = .int .u16 b ∧ a < 65536 ∧ b < 65536 := fun i hi => by
    obtain ⟨n, x, hx⟩ := hE i hi
    exact pair_u16 hx
  refine ⟨fun i => if h : i < len then Classical.choose (hv i h) else 0, fun i => if h : i < len then Classical.choose (Classical.choose_spec (hv i h)) else 0, fun h0 => ?_, fun i hi => ?_⟩
  · obtain ⟨b, off, e, hb, hc⟩ := hC h0
    refine ⟨b, off, e, hb, fun i hi => ?_⟩
    have hs := Classical.choose_spec (Classical.choose_spec (hv i hi))
    have h0 := hc i hi 0 (by omega)
    have h1 := hc i hi 1 (by omega)
    rw [hs.1] at h0
    rw [hs.2.1] at h1
    simp only [dif_pos hi]
    exact ⟨h0, h1⟩
  · have hs := Classical.choose_spec (Classical.choose_spec (hv i hi))
    simp only [dif_pos hi]
    exact hs.2.2
end Go.Proofs.Ytnejnoiogojplaa
