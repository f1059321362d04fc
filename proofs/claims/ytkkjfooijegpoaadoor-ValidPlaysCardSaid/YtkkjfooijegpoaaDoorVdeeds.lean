/- The deeds of blackboardlaw14 that came in, opened. -/
import Derived.Test.YtkkjfooijegpoaaDoorElems
import Derived.Test.YtkkjfooijegpoaaDoorVlawPlays
namespace Go.Proofs.YtkkjfooijegpoaaDoor
open Go.ChangeShapes Go.WideShapes Go.ChangeAt Go.RowKit

theorem deed_of {H : Type} {enc : TypeId × Value → H} {w : World} {base n : Nat} {sp : Nat → Bool} {V : Nat → Value} {x : DataW H × List MemPlace}
    (h : DataW.trod enc Tryd.prog w base sp true n 29 ((List.range 4).map V) = some x) :
    ∃ (d a b : Int) (on : Bool), V 0 = .int .i64 d ∧ V 1 = .int .i64 a ∧ V 2 = .int .i64 b ∧ V 3 = .bool on := by
  obtain ⟨xs, m, _, _, _, hlen, hf⟩ := DataW.trod_struct Tryd.underlying29 h
  have h0 : DataW.trod enc Tryd.prog w base sp true m 3 (List.take (Tryd.prog.cellsOf 3) (List.drop 0 ((List.range 4).map V))) = xs[0]? := hf 0 _ rfl
  have h1 : DataW.trod enc Tryd.prog w base sp true m 3 (List.take (Tryd.prog.cellsOf 3) (List.drop 1 ((List.range 4).map V))) = xs[1]? := hf 1 _ rfl
  have h2 : DataW.trod enc Tryd.prog w base sp true m 3 (List.take (Tryd.prog.cellsOf 3) (List.drop 2 ((List.range 4).map V))) = xs[2]? := hf 2 _ rfl
  have h3 : DataW.trod enc Tryd.prog w base sp true m 4 (List.take (Tryd.prog.cellsOf 4) (List.drop 3 ((List.range 4).map V))) = xs[3]? := hf 3 _ rfl
  have c3 : Tryd.prog.cellsOf 3 = 1 := by kernel_rfl
  have c4 : Tryd.prog.cellsOf 4 = 1 := by kernel_rfl
  rw [c3] at h0 h1 h2
  rw [c4] at h3
  have hl : xs.length = 4 := by simpa using hlen
  rw [List.getElem?_eq_getElem (by omega)] at h0 h1 h2 h3
  obtain ⟨d, e0, _⟩ := DataW.trod_int Tryd.underlying3 h0
  obtain ⟨a, e1, _⟩ := DataW.trod_int Tryd.underlying3 h1
  obtain ⟨b, e2, _⟩ := DataW.trod_int Tryd.underlying3 h2
  obtain ⟨on, e3, _⟩ := DataW.trod_bool Tryd.underlying4 h3
  simp [List.range_succ] at e0 e1 e2 e3
  exact ⟨d, a, b, on, e0, e1, e2, e3⟩

theorem deeds_of {H : Type} {enc : TypeId × Value → H} {w : World} {base : Nat} {a : Option Addr} {len cap : Nat} {d : DataW H} {ps : List MemPlace} {sp : Nat → Bool}
    (h : DataW.Trod enc Tryd.prog w base sp true 23 (.slice a len cap) d ps) : ∃ D A B On, ArgDeeds w a len D A B On := by
  obtain ⟨hsm, C, hc, hr⟩ := argElems_of Tryd.underlying23 (s := 4) (by kernel_rfl) (by omega) h
  have hall : ∀ i, ∃ (q : Int × Int × Int × Bool), i < len → C i 0 = .int .i64 q.1 ∧ C i 1 = .int .i64 q.2.1 ∧ C i 2 = .int .i64 q.2.2.1 ∧ C i 3 = .bool q.2.2.2 := by
    intro i
    by_cases hi : i < len
    · obtain ⟨n, x, hx⟩ := hr i hi
      obtain ⟨d, a, b, on, h0, h1, h2, h3⟩ := deed_of hx
      exact ⟨(d, a, b, on), fun _ => ⟨h0, h1, h2, h3⟩⟩
    · exact ⟨(0, 0, 0, false), fun h => absurd h hi⟩
  refine ⟨fun i => (Classical.choose (hall i)).1, fun i => (Classical.choose (hall i)).2.1, fun i => (Classical.choose (hall i)).2.2.1, fun i => (Classical.choose (hall i)).2.2.2, fun h0 => ?_, hsm⟩
  obtain ⟨b, off, rfl, hb, hcell⟩ := hc h0
  refine ⟨b, off, rfl, hb, fun i hi => ?_⟩
  obtain ⟨g0, g1, g2, g3⟩ := Classical.choose_spec (hall i) hi
  refine ⟨?_, ?_, ?_, ?_⟩
  · rw [← g0, ← hcell i hi 0 (by omega)]; rfl
  · rw [← g1, ← hcell i hi 1 (by omega)]; rfl
  · rw [← g2, ← hcell i hi 2 (by omega)]; rfl
  · rw [← g3, ← hcell i hi 3 (by omega)]; rfl

theorem plays_of {H : Type} {enc : TypeId × Value → H} (w : World) {base : Nat} {a : Option Addr} {len cap : Nat} {d : DataW H} {ps : List MemPlace} {sp : Nat → Bool} (n : Int) (hn : (Lit.int .u16 n).wf = true)
    (h : DataW.Trod enc Tryd.prog w base sp true 23 (.slice a len cap) d ps) (hT : TabAt 0 Lib.deBruijn64tab w) :
    Calls Tryd.prog 3 #[.int .u16 n, .slice a len cap] w fun e w' => e = .returned (.bool true) ∧ Keep (fun _ => False) w w' := by
  obtain ⟨h0, h1⟩ := u16_bounds hn
  obtain ⟨m, rfl⟩ := Int.eq_ofNat_of_zero_le h0
  obtain ⟨D, A, B, On, ha⟩ := deeds_of h
  exact plays_true w a len cap D A B On m (by omega) ha hT
end Go.Proofs.YtkkjfooijegpoaaDoor
