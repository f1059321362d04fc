/- Rows of 16-bit numbers among the arguments. -/
import Derived.Test.YtdlmjjlejkkniaaU
import Derived.Test.YtdlmjjlejkkniaaArgs
namespace Go.Proofs.Ytdlmjjlejkkniaa
open Go.ChangeShapes Go.WideShapes Go.ChangeAt Go.RowKit

theorem word_of {n : Int} (h : (Lit.int .u16 n).wf = true) : ∃ x : Nat, n = x ∧ x < 65536 := by
  have h' := Go.bounds_u16 h
  exact ⟨n.toNat, by omega, by omega⟩

theorem argU_of {H : Type} {enc : TypeId × Value → H} {w : World} {base : Nat} {a : Option Addr} {len cap : Nat} {d : DataW H} {ps : List MemPlace} {sp : Nat → Bool}
    (h : DataW.Trod enc Try.prog w base sp true 29 (.slice a len cap) d ps) : ∃ p, (len ≤ 1000000 → ArgU w a len p) ∧ len ≤ cap := by
  obtain ⟨z, hz⟩ := argInts_of (k := .u16) Try.underlying29 Try.underlying45 (by kernel_rfl) h
  have hv : ∀ i, i < len → ∃ x : Nat, z i = x ∧ x < 65536 := fun i hi => word_of (hz.wf i hi)
  refine ⟨fun i => (z i).toNat, fun hl => ⟨by omega, fun h0 => ?_, fun i hi => ?_⟩, ?_⟩
  · obtain ⟨b, off, e, hb, hc⟩ := hz.at_ h0
    refine ⟨b, off, e, hb, fun i hi => ?_⟩
    obtain ⟨x, ex, _⟩ := hv i hi
    rw [hc i hi, ex]
    rfl
  · obtain ⟨x, ex, lx⟩ := hv i hi
    show (z i).toNat < 65536
    omega
  · obtain ⟨fuel, hf⟩ := h
    rcases open_ints (k := .u16) Try.underlying29 Try.underlying45 (by kernel_rfl) hf with ⟨hcs, _⟩ | ⟨x, l, c, zs, hcs, _, hl, _⟩
    · simp [Value.cells] at hcs
      omega
    · simp [Value.cells] at hcs
      omega
end Go.Proofs.Ytdlmjjlejkkniaa
