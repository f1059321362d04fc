/- What comes in at the laws of codes: a byte, eight symbols by value. -/
import Derived.Test.YtnejnoiogojplaaArgsU
import Derived.Laws.IdiomArrays
namespace Go.Proofs.Ytnejnoiogojplaa
open Go.ChangeShapes Go.WideShapes Go.ChangeAt Go.RowKit

theorem byte_of {n : Int} (h : (Lit.int .u8 n).wf = true) : ∃ x : Nat, n = x ∧ x < 256 := by
  have h' := Go.bounds_u8 h
  exact ⟨n.toNat, by omega, by omega⟩
/-- Eight symbols by value. -/
theorem words8_of {H : Type} {enc : TypeId × Value → H} {w : World} {base b0 : Nat} {v : Value} {d : DataW H} {ps : List MemPlace} {sp : Nat → Bool}
    (hv : Value.okWide Try.prog w .any b0 53 v) (h : DataW.Trod enc Try.prog w base sp true 53 v d ps) :
    ∃ n0 n1 n2 n3 n4 n5 n6 n7 : Nat, (n0 < 65536 ∧ n1 < 65536 ∧ n2 < 65536 ∧ n3 < 65536 ∧ n4 < 65536 ∧ n5 < 65536 ∧ n6 < 65536 ∧ n7 < 65536) ∧ v = .agg #[.int .u16 n0, .int .u16 n1, .int .u16 n2, .int .u16 n3, .int .u16 n4, .int .u16 n5, .int .u16 n6, .int .u16 n7] := by
  simp only [Value.okWide, Try.underlying53] at hv
  obtain ⟨cs, rfl, hc, _⟩ := hv
  obtain ⟨fuel, hf⟩ := h
  obtain ⟨xs, m, _, _, _, hlen, hf2⟩ := DataW.trod_array Try.underlying53 hf
  have c1 : Try.prog.cellsOf 23 = 1 := by kernel_rfl
  have c2 : Try.prog.cellsOf 53 = 8 := by kernel_rfl
  rw [c2] at hc
  have h0 := hf2 0 (by omega)
  have h1 := hf2 1 (by omega)
  have h2 := hf2 2 (by omega)
  have h3 := hf2 3 (by omega)
  have h4 := hf2 4 (by omega)
  have h5 := hf2 5 (by omega)
  have h6 := hf2 6 (by omega)
  have h7 := hf2 7 (by omega)
  rw [c1, List.getElem?_eq_getElem (by omega)] at h0 h1 h2 h3 h4 h5 h6 h7
  obtain ⟨a0, e0, _, w0⟩ := DataW.trod_int Try.underlying23 h0
  obtain ⟨a1, e1, _, w1⟩ := DataW.trod_int Try.underlying23 h1
  obtain ⟨a2, e2, _, w2⟩ := DataW.trod_int Try.underlying23 h2
  obtain ⟨a3, e3, _, w3⟩ := DataW.trod_int Try.underlying23 h3
  obtain ⟨a4, e4, _, w4⟩ := DataW.trod_int Try.underlying23 h4
  obtain ⟨a5, e5, _, w5⟩ := DataW.trod_int Try.underlying23 h5
  obtain ⟨a6, e6, _, w6⟩ := DataW.trod_int Try.underlying23 h6
  obtain ⟨a7, e7, _, w7⟩ := DataW.trod_int Try.underlying23 h7
  obtain ⟨n0, rfl, l0⟩ := word_of w0
  obtain ⟨n1, rfl, l1⟩ := word_of w1
  obtain ⟨n2, rfl, l2⟩ := word_of w2
  obtain ⟨n3, rfl, l3⟩ := word_of w3
  obtain ⟨n4, rfl, l4⟩ := word_of w4
  obtain ⟨n5, rfl, l5⟩ := word_of w5
  obtain ⟨n6, rfl, l6⟩ := word_of w6
  obtain ⟨n7, rfl, l7⟩ := word_of w7
  refine ⟨n0, n1, n2, n3, n4, n5, n6, n7, ⟨l0, l1, l2, l3, l4, l5, l6, l7⟩, ?_⟩
  obtain ⟨x0, x1, x2, x3, x4, x5, x6, x7, rfl⟩ : ∃ x0 x1 x2 x3 x4 x5 x6 x7, cs = #[x0, x1, x2, x3, x4, x5, x6, x7] := by
    rcases cs with ⟨l⟩
    match l, hc with
    | [x0, x1, x2, x3, x4, x5, x6, x7], _ => exact ⟨x0, x1, x2, x3, x4, x5, x6, x7, rfl⟩
  simp [Value.cells] at e0 e1 e2 e3 e4 e5 e6 e7
  rw [e0, e1, e2, e3, e4, e5, e6, e7]
theorem argU_of2 {H : Type} {enc : TypeId × Value → H} {w : World} {base : Nat} {a : Option Addr} {len cap : Nat} {d : DataW H} {ps : List MemPlace} {sp : Nat → Bool}
    (h : DataW.Trod enc Try.prog w base sp true 22 (.slice a len cap) d ps) : ∃ p, (∀ m, m ≤ len → m ≤ 1000000 → ArgU w a m p) ∧ len ≤ cap := by
  obtain ⟨z, hz⟩ := argInts_of (k := .u16) Try.underlying22 Try.underlying23 (by kernel_rfl) h
  have hv : ∀ i, i < len → ∃ x : Nat, z i = x ∧ x < 65536 := fun i hi => word_of (hz.wf i hi)
  refine ⟨fun i => (z i).toNat, fun m hm hl => ⟨by omega, fun h0 => ?_, fun i hi => ?_⟩, ?_⟩
  · obtain ⟨b, off, e, hb, hc⟩ := hz.at_ (by omega)
    refine ⟨b, off, e, hb, fun i hi => ?_⟩
    obtain ⟨x, ex, _⟩ := hv i (by omega)
    rw [hc i (by omega), ex]
    rfl
  · obtain ⟨x, ex, lx⟩ := hv i (by omega)
    show (z i).toNat < 65536
    omega
  · obtain ⟨fuel, hf⟩ := h
    rcases open_ints (k := .u16) Try.underlying22 Try.underlying23 (by kernel_rfl) hf with ⟨hcs, _⟩ | ⟨x, l, c, zs, hcs, _, hl, _⟩
    · simp [Value.cells] at hcs
      omega
    · simp [Value.cells] at hcs
      omega
end Go.Proofs.Ytnejnoiogojplaa
