/- A slice whose elements are of several cells each, among the arguments: its cells by index, and each element's own reading. -/
import Derived.Test.YtdjgjffgheocfaaGreatBase
import Derived.ProofKit
import Derived.OpenShut
import Derived.Deep.Slices
namespace Go.Proofs.YtdjgjffgheocfaaGreat
open Go.ChangeShapes Go.WideShapes Go.ChangeAt Go.RowKit

theorem mapM_range {α : Type} {n : Nat} {f : Nat → Option α} {l : List α} (h : (List.range n).mapM f = some l) : l.length = n ∧ ∀ i, i < n → f i = l[i]? := by
  have h1 := mapM_some_length h
  refine ⟨by simpa using h1, fun i hi => ?_⟩
  exact mapM_some_get h i i (by simp [hi])

theorem argElems_of {H : Type} {enc : TypeId × Value → H} {P : Program} {t e : TypeId} {s : Nat} {w : World} {base : Nat} {a : Option Addr} {len cap : Nat} {d : DataW H} {ps : List MemPlace} {sp : Nat → Bool}
    (ht : P.underlying t = some (.slice e)) (hce : P.cellsOf e = s) (hs : 0 < s)
    (h : DataW.Trod enc P w base sp true t (.slice a len cap) d ps) :
    len ≤ maxLen ∧ ∃ C : Nat → Nat → Value, (0 < len → ∃ b off, a = some ⟨b, off, none⟩ ∧ b < w.heap.size ∧ ∀ i, i < len → ∀ r, r < s → w.cell? ⟨b, off + (i * s + r), none⟩ = some (C i r)) ∧
      ∀ i, i < len → ∃ n x, DataW.trod enc P w base sp true n e ((List.range s).map (C i)) = some x := by
  obtain ⟨fuel, hf⟩ := h
  rcases Deep.open_slice ht hf with ⟨hcs, _⟩ | ⟨x, l, c, m, n, D, Pl, hcs, _, hl, hm, hmm, _, hel⟩
  · simp [Value.cells] at hcs
    obtain ⟨rfl, rfl, rfl⟩ := hcs
    exact ⟨by unfold maxLen; omega, fun _ _ => .bool false, fun h => by omega, fun i hi => by omega⟩
  · simp [Value.cells] at hcs
    obtain ⟨rfl, rfl, rfl⟩ := hcs
    rw [hce] at hel
    have hlm : len ≤ m := by rw [hmm]; split <;> omega
    refine ⟨by omega, ?_⟩
    have hrow : ∀ i, i < len → ∃ cs : List Value, cs.length = s ∧ (∀ r, r < s → w.cell? ((x.add (i * s)).add r) = cs[r]?) ∧ DataW.trod enc P w base sp true n e cs = some (D i, Pl i) := by
      intro i hi
      obtain ⟨cs, hc1, hc2⟩ := hel i (by omega)
      unfold World.cells? at hc1
      split at hc1
      · obtain ⟨h1, h2⟩ := mapM_range hc1
        exact ⟨cs, h1, h2, hc2⟩
      · cases hc1
    refine ⟨fun i r => if hi : i < len then (Classical.choose (hrow i hi)).getD r (.bool false) else .bool false, fun h0 => ?_, fun i hi => ?_⟩
    · obtain ⟨cs0, h1, h2, _⟩ := hrow 0 h0
      have hc0 := h2 0 hs
      rw [List.getElem?_eq_getElem (by omega)] at hc0
      obtain ⟨b, off, spot⟩ := x
      have hsp : spot = none := by simpa [Addr.add] using World.cell?_spot hc0
      subst hsp
      refine ⟨b, off, rfl, ?_, fun i hi r hr => ?_⟩
      · have := World.block_lt_of_cell? _ _ hc0
        simpa [Addr.add] using this
      · simp only [dif_pos hi]
        obtain ⟨g1, g2, _⟩ := Classical.choose_spec (hrow i hi)
        have hc := g2 r hr
        have hlen : r < (Classical.choose (hrow i hi)).length := by omega
        rw [List.getElem?_eq_getElem hlen] at hc
        rw [List.getD, List.getElem?_eq_getElem hlen, Option.getD_some, ← hc, Deep.add_add]
        by_cases hz : i * s + r = 0
        · rw [hz]; simp [Addr.add]
        · simp only [Addr.add, hz, if_false]
    · obtain ⟨g1, _, g3⟩ := Classical.choose_spec (hrow i hi)
      refine ⟨n, (D i, Pl i), ?_⟩
      have e1 : (List.range s).map ((fun i r => if hi : i < len then (Classical.choose (hrow i hi)).getD r (.bool false) else .bool false) i) = Classical.choose (hrow i hi) := by
        apply List.ext_getElem?
        intro r
        by_cases hr : r < s
        · have hlen : r < (Classical.choose (hrow i hi)).length := by omega
          simp [hr, hi, List.getElem?_eq_getElem hlen]
        · have hlen : ¬ r < (Classical.choose (hrow i hi)).length := by omega
          simp [hr, List.getElem?_eq_none (Nat.le_of_not_lt hlen)]
      rw [e1]
      exact g3
end Go.Proofs.YtdjgjffgheocfaaGreat
