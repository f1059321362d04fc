/- Slices of integers among the arguments: what a walk is told of them. -/
import Derived.Test.YtdlmjjlejkkniaaGreatBase
import Derived.ProofKit
import Derived.OpenShut
namespace Go.Proofs.YtdlmjjlejkkniaaGreat
open Go.ChangeShapes Go.WideShapes Go.ChangeAt Go.RowKit

/-- A slice of numbers of kind k that came in: its element i is zs i. -/
structure ArgInts (k : IntKind) (w : World) (a : Option Addr) (len : Nat) (zs : Nat → Int) : Prop where
  small : len ≤ maxLen
  at_ : 0 < len → ∃ b off, a = some ⟨b, off, none⟩ ∧ b < w.heap.size ∧ ∀ i, i < len → w.cell? ⟨b, off + i, none⟩ = some (.int k (zs i))
  wf : ∀ i, i < len → (Lit.int k (zs i)).wf = true

theorem ArgInts.keep {k : IntKind} {w w' : World} {a : Option Addr} {len : Nat} {zs : Nat → Int} (h : ArgInts k w a len zs) (hk : Keep (fun _ => False) w w') : ArgInts k w' a len zs :=
  ⟨h.small, fun h0 => by
    obtain ⟨b, off, e, hb, hc⟩ := h.at_ h0
    exact ⟨b, off, e, Nat.lt_of_lt_of_le hb hk.size, fun i hi => (hk.cell (p := ⟨b, off + i, none⟩) hb (by simp)).trans (hc i hi)⟩, h.wf⟩

theorem argInts_of {H : Type} {enc : TypeId × Value → H} {P : Program} {t e : TypeId} {k : IntKind} {w : World} {base : Nat} {a : Option Addr} {len cap : Nat} {d : DataW H} {ps : List MemPlace} {sp : Nat → Bool}
    (ht : P.underlying t = some (.slice e)) (he : P.underlying e = some (.int k)) (hce : P.cellsOf e = 1)
    (h : DataW.Trod enc P w base sp true t (.slice a len cap) d ps) : ∃ zs, ArgInts k w a len zs := by
  obtain ⟨fuel, hf⟩ := h
  rcases open_ints ht he hce hf with ⟨hcs, _⟩ | ⟨x, l, c, zs, hcs, _, hl, hm, hz, _, hcell, hwz⟩
  · simp [Value.cells] at hcs
    obtain ⟨rfl, rfl, rfl⟩ := hcs
    exact ⟨fun _ => 0, by unfold maxLen; omega, fun h => by omega, fun i hi => by omega⟩
  · simp [Value.cells] at hcs
    obtain ⟨rfl, rfl, rfl⟩ := hcs
    have hz' : len ≤ zs.length := by rw [hz]; split <;> omega
    refine ⟨fun i => zs.getD i 0, by omega, fun h0 => ?_, fun i hi => ?_⟩
    · have hc0 := hcell 0 (by omega)
      obtain ⟨b, off, spot⟩ := x
      have hs : spot = none := by simpa [Addr.add] using World.cell?_spot hc0
      subst hs
      refine ⟨b, off, rfl, ?_, fun i hi => ?_⟩
      · have := World.block_lt_of_cell? _ _ hc0
        simpa [Addr.add] using this
      · have := hcell i (by omega)
        by_cases hi0 : i = 0
        · subst hi0; simpa [Addr.add] using this
        · simpa [Addr.add, hi0] using this
    · have hi' : i < zs.length := by omega
      simp only [List.getD, List.getElem?_eq_getElem hi', Option.getD_some]
      exact hwz _ (List.getElem_mem hi')
end Go.Proofs.YtdlmjjlejkkniaaGreat
