/- The deeds of blackboardlaw15 that came in, opened. -/
import Derived.Test.YtipfpcfepfkehaaDoorElems
import Derived.Test.YtipfpcfepfkehaaDoorLlawPlays
import Derived.OpenShut
namespace Go.Proofs.YtipfpcfepfkehaaDoor
open Go.ChangeShapes Go.WideShapes Go.ChangeAt Go.RowKit

theorem deed_of {H : Type} {enc : TypeId × Value → H} {w : World} {base n : Nat} {sp : Nat → Bool} {V : Nat → Value} {x : DataW H × List MemPlace}
    (h : DataW.trod enc Tryd.prog w base sp true n 32 ((List.range 3).map V) = some x) :
    ∃ (d a b : Int), V 0 = .int .i64 d ∧ V 1 = .int .i64 a ∧ V 2 = .int .i64 b := by
  obtain ⟨xs, m, _, _, _, hlen, hf⟩ := DataW.trod_struct Tryd.underlying32 h
  have h0 : DataW.trod enc Tryd.prog w base sp true m 3 (List.take (Tryd.prog.cellsOf 3) (List.drop 0 ((List.range 3).map V))) = xs[0]? := hf 0 _ rfl
  have h1 : DataW.trod enc Tryd.prog w base sp true m 3 (List.take (Tryd.prog.cellsOf 3) (List.drop 1 ((List.range 3).map V))) = xs[1]? := hf 1 _ rfl
  have h2 : DataW.trod enc Tryd.prog w base sp true m 3 (List.take (Tryd.prog.cellsOf 3) (List.drop 2 ((List.range 3).map V))) = xs[2]? := hf 2 _ rfl
  have c3 : Tryd.prog.cellsOf 3 = 1 := by kernel_rfl
  rw [c3] at h0 h1 h2
  have hl : xs.length = 3 := by simpa using hlen
  rw [List.getElem?_eq_getElem (by omega)] at h0 h1 h2
  obtain ⟨d, e0, _⟩ := DataW.trod_int Tryd.underlying3 h0
  obtain ⟨a, e1, _⟩ := DataW.trod_int Tryd.underlying3 h1
  obtain ⟨b, e2, _⟩ := DataW.trod_int Tryd.underlying3 h2
  simp [List.range_succ] at e0 e1 e2
  exact ⟨d, a, b, e0, e1, e2⟩

theorem deeds_of {H : Type} {enc : TypeId × Value → H} {w : World} {base : Nat} {a : Option Addr} {len cap : Nat} {d : DataW H} {ps : List MemPlace} {sp : Nat → Bool}
    (h : DataW.Trod enc Tryd.prog w base sp true 23 (.slice a len cap) d ps) : ∃ D A B, ArgDeeds w a len D A B := by
  obtain ⟨hsm, C, hc, hr⟩ := argElems_of Tryd.underlying23 (s := 3) (by kernel_rfl) (by omega) h
  have hall : ∀ i, ∃ (q : Int × Int × Int), i < len → C i 0 = .int .i64 q.1 ∧ C i 1 = .int .i64 q.2.1 ∧ C i 2 = .int .i64 q.2.2 := by
    intro i
    by_cases hi : i < len
    · obtain ⟨n, x, hx⟩ := hr i hi
      obtain ⟨d, a, b, h0, h1, h2⟩ := deed_of hx
      exact ⟨(d, a, b), fun _ => ⟨h0, h1, h2⟩⟩
    · exact ⟨(0, 0, 0), fun h => absurd h hi⟩
  refine ⟨fun i => (Classical.choose (hall i)).1, fun i => (Classical.choose (hall i)).2.1, fun i => (Classical.choose (hall i)).2.2, fun h0 => ?_, hsm⟩
  obtain ⟨b, off, rfl, hb, hcell⟩ := hc h0
  refine ⟨b, off, rfl, hb, fun i hi => ?_⟩
  obtain ⟨g0, g1, g2⟩ := Classical.choose_spec (hall i) hi
  refine ⟨?_, ?_, ?_⟩
  · rw [← g0, ← hcell i hi 0 (by omega)]; rfl
  · rw [← g1, ← hcell i hi 1 (by omega)]; rfl
  · rw [← g2, ← hcell i hi 2 (by omega)]; rfl

theorem byte_of {n : Int} (h : (Lit.int .u8 n).wf = true) : ∃ m : Nat, n = m ∧ m < 256 := by
  simp [Lit.wf, IntKind.min, IntKind.max, IntKind.signed, IntKind.bits] at h
  exact ⟨n.toNat, by omega, by omega⟩

/-- Two bytes by value. -/
theorem bytes2_of {H : Type} {enc : TypeId × Value → H} {w : World} {base b0 : Nat} {v : Value} {d : DataW H} {ps : List MemPlace} {sp : Nat → Bool}
    (hv : Value.okWide Tryd.prog w .any b0 22 v) (h : DataW.Trod enc Tryd.prog w base sp true 22 v d ps) :
    ∃ n0 n1 : Nat, n0 < 256 ∧ n1 < 256 ∧ v = .agg #[.int .u8 n0, .int .u8 n1] := by
  simp only [Value.okWide, Tryd.underlying22] at hv
  obtain ⟨cs, rfl, h2, _⟩ := hv
  obtain ⟨fuel, hf⟩ := h
  obtain ⟨xs, m, _, _, _, hlen, hf2⟩ := DataW.trod_array Tryd.underlying22 hf
  have c1 : Tryd.prog.cellsOf 5 = 1 := by kernel_rfl
  have c2 : Tryd.prog.cellsOf 22 = 2 := by kernel_rfl
  rw [c2] at h2
  have h0 := hf2 0 (by omega)
  have h1 := hf2 1 (by omega)
  rw [c1, List.getElem?_eq_getElem (by omega)] at h0 h1
  obtain ⟨a, e0, _, wa⟩ := DataW.trod_int Tryd.underlying5 h0
  obtain ⟨b, e1, _, wb⟩ := DataW.trod_int Tryd.underlying5 h1
  obtain ⟨n0, rfl, l0⟩ := byte_of wa
  obtain ⟨n1, rfl, l1⟩ := byte_of wb
  refine ⟨n0, n1, l0, l1, ?_⟩
  obtain ⟨x, y, rfl⟩ : ∃ x y, cs = #[x, y] := by
    rcases cs with ⟨l⟩
    match l, h2 with
    | [x, y], _ => exact ⟨x, y, rfl⟩
  simp [Value.cells] at e0 e1
  rw [e0, e1]

theorem lplays_of {H : Type} {enc : TypeId × Value → H} (w : World) {base b0 : Nat} {v : Value} {a : Option Addr} {len cap : Nat} {d d' : DataW H} {ps ps' : List MemPlace} {sp sp' : Nat → Bool}
    (hv : Value.okWide Tryd.prog w .any b0 22 v) (hb : DataW.Trod enc Tryd.prog w base sp true 22 v d ps)
    (h : DataW.Trod enc Tryd.prog w base sp' true 23 (.slice a len cap) d' ps') (hT : TabAt 0 Lib.deBruijn64tab w) :
    Calls Tryd.prog 3 #[v, .slice a len cap] w fun e w' => e = .returned (.bool true) ∧ Keep (fun _ => False) w w' := by
  obtain ⟨n0, n1, l0, l1, rfl⟩ := bytes2_of hv hb
  obtain ⟨D, A, B, ha⟩ := deeds_of h
  exact lplays_true w a len cap D A B n0 n1 l0 l1 ha hT
end Go.Proofs.YtipfpcfepfkehaaDoor
