/- A slice of pairs of bytes that came in. -/
import Derived.Test.YtdjgjffgheocfaaGreatElems
namespace Go.Proofs.YtdjgjffgheocfaaGreat
open Go.ChangeShapes Go.WideShapes Go.ChangeAt Go.RowKit

/-- Element i is the pair (X i, Y i). -/
structure ArgPairs (k : IntKind) (w : World) (a : Option Addr) (len : Nat) (X Y : Nat → Int) : Prop where
  small : len ≤ maxLen
  at_ : 0 < len → ∃ b off, a = some ⟨b, off, none⟩ ∧ b < w.heap.size ∧ ∀ i, i < len → w.cell? ⟨b, off + i * 2, none⟩ = some (.int k (X i)) ∧ w.cell? ⟨b, off + i * 2 + 1, none⟩ = some (.int k (Y i))
  wf : ∀ i, i < len → (Lit.int k (X i)).wf = true ∧ (Lit.int k (Y i)).wf = true

theorem ArgPairs.keep {k : IntKind} {w w' : World} {a : Option Addr} {len : Nat} {X Y : Nat → Int} (h : ArgPairs k w a len X Y) (hk : Keep (fun _ => False) w w') : ArgPairs k w' a len X Y :=
  ⟨h.small, fun h0 => by
    obtain ⟨b, off, e, hb, hc⟩ := h.at_ h0
    exact ⟨b, off, e, Nat.lt_of_lt_of_le hb hk.size, fun i hi => ⟨(hk.cell (p := ⟨b, off + i * 2, none⟩) hb (by simp)).trans (hc i hi).1, (hk.cell (p := ⟨b, off + i * 2 + 1, none⟩) hb (by simp)).trans (hc i hi).2⟩⟩, h.wf⟩

theorem pairs_of {H : Type} {enc : TypeId × Value → H} {P : Program} {t e u : TypeId} {k : IntKind} {w : World} {base : Nat} {a : Option Addr} {len cap : Nat} {d : DataW H} {ps : List MemPlace} {sp : Nat → Bool}
    (ht : P.underlying t = some (.slice e)) (he : P.underlying e = some (.array 2 u)) (hu : P.underlying u = some (.int k)) (hce : P.cellsOf e = 2) (hcu : P.cellsOf u = 1)
    (h : DataW.Trod enc P w base sp true t (.slice a len cap) d ps) : ∃ X Y, ArgPairs k w a len X Y := by
  obtain ⟨hsm, C, hc, hr⟩ := argElems_of ht hce (by omega) h
  have hall : ∀ i, ∃ (q : Int × Int), i < len → C i 0 = .int k q.1 ∧ C i 1 = .int k q.2 ∧ (Lit.int k q.1).wf = true ∧ (Lit.int k q.2).wf = true := by
    intro i
    by_cases hi : i < len
    · obtain ⟨n, x, hx⟩ := hr i hi
      obtain ⟨xs, m, _, _, _, hlen, hf⟩ := DataW.trod_array he hx
      have h0 := hf 0 (by omega)
      have h1 := hf 1 (by omega)
      rw [hcu] at h0 h1
      rw [List.getElem?_eq_getElem (by omega)] at h0 h1
      obtain ⟨p, e0, _, w0⟩ := DataW.trod_int hu h0
      obtain ⟨q, e1, _, w1⟩ := DataW.trod_int hu h1
      simp [List.range_succ] at e0 e1
      exact ⟨(p, q), fun _ => ⟨e0, e1, w0, w1⟩⟩
    · exact ⟨(0, 0), fun h => absurd h hi⟩
  refine ⟨fun i => (Classical.choose (hall i)).1, fun i => (Classical.choose (hall i)).2, hsm, fun h0 => ?_, fun i hi => (Classical.choose_spec (hall i) hi).2.2⟩
  obtain ⟨b, off, rfl, hb, hcell⟩ := hc h0
  refine ⟨b, off, rfl, hb, fun i hi => ?_⟩
  obtain ⟨g0, g1, _⟩ := Classical.choose_spec (hall i) hi
  refine ⟨?_, ?_⟩
  · rw [← g0, ← hcell i hi 0 (by omega)]; rfl
  · rw [← g1, ← hcell i hi 1 (by omega)]; rfl
end Go.Proofs.YtdjgjffgheocfaaGreat
