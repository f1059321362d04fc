/- The walk of blackboardlaw23.RateTicks: it answers true. -/
import Derived.Test.YtaepllaipdacjaaApart
import Derived.Test.YtaepllaipdacjaaLaw
import Derived.WalkKit
import Derived.ProofKit
import Derived.OpenShut
import Derived.Deep.DeepHandedRow
namespace Go.Proofs.Ytaepllaipdacjaa
open Go.ChangeShapes Go.WideShapes Go.ChangeAt Go.RowKit

theorem byte_id (x : Nat) (h : x < 256) : IntKind.i64.wrap (x : Int) = (x : Int) := by rw [IntKind.wrap_i64]; omega

set_option maxRecDepth 100000 in
set_option maxHeartbeats 1000000 in
theorem ticks_true (w : World) (B P W K : Int) (n0 n1 t : Nat) (h0 : n0 < 256) (h1 : n1 < 256) (ht : t < 256) :
    Calls Try.prog 4 #[geoV B P W K, .agg #[.int .u8 n0, .int .u8 n1], .int .u8 t] w fun e w' => e = .returned (.bool true) ∧ Keep (fun _ => False) w w' := by
  have bg := (Blk.new w 24 #[.int .i64 B, .int .i64 P, .int .i64 W, .int .i64 K]).alloc (.cells #[.int .u8 n0, .int .u8 n1] 33)
  have ba := Blk.new (w.alloc (.cells #[.int .i64 B, .int .i64 P, .int .i64 W, .int .i64 K] 24)) 33 #[.int .u8 n0, .int .u8 n1]
  have hs : (w.alloc (.cells #[.int .i64 B, .int .i64 P, .int .i64 W, .int .i64 K] 24)).heap.size = w.heap.size + 1 := by simp
  rw [hs] at ba
  have k0 := ((Keep.refl (fun _ => False) w).alloc (.cells #[.int .i64 B, .int .i64 P, .int .i64 W, .int .i64 K] 24)).alloc (.cells #[.int .u8 n0, .int .u8 n1] 33)
  clear hs
  go_enter Try.func4, Try.ntmps4
  go_wp2_with fail
  refine (awake_true _).mono ?_
  rintro e w1 ⟨rfl, k1⟩
  have bg1 := bg.keep k1 (by simp)
  have ba1 := ba.keep k1 (by simp)
  have kk1 := k0.trans k1 (fun _ hi => .inl hi)
  have a0 : w1.cell? ⟨w.heap.size, 0, none⟩ = some (.int .i64 B) := by rw [bg1.cell]; rfl
  have a1 : w1.cell? ⟨w.heap.size, 1, none⟩ = some (.int .i64 P) := by rw [bg1.cell]; rfl
  have a2 : w1.cell? ⟨w.heap.size, 2, none⟩ = some (.int .i64 W) := by rw [bg1.cell]; rfl
  have a3 : w1.cell? ⟨w.heap.size, 3, none⟩ = some (.int .i64 K) := by rw [bg1.cell]; rfl
  have c0 : w1.cell? ⟨w.heap.size + 1, 0, none⟩ = some (.int .u8 n0) := by rw [ba1.cell]; rfl
  have c1 : w1.cell? ⟨w.heap.size + 1, 1, none⟩ = some (.int .u8 n1) := by rw [ba1.cell]; rfl
  have e0 := byte_id n0 h0
  have e1 := byte_id n1 h1
  have e2 := byte_id t ht
  clear bg ba k0 k1 bg1 ba1
  go_wp2_with fail
  refine (apart_true w1 B P W K n0 n1 t ht).mono ?_
  rintro e w2 ⟨rfl, k2⟩
  go_wp2_with fail
  go_ret
  exact ⟨rfl, kk1.trans k2 (fun _ hi => .inl hi)⟩

theorem byte_of {n : Int} (h : (Lit.int .u8 n).wf = true) : ∃ m : Nat, n = m ∧ m < 256 := by
  simp [Lit.wf, IntKind.min, IntKind.max, IntKind.signed, IntKind.bits] at h
  exact ⟨n.toNat, by omega, by omega⟩

/-- Two bytes by value. -/
theorem bytes2_of {H : Type} {enc : TypeId × Value → H} {w : World} {base b0 : Nat} {v : Value} {d : DataW H} {ps : List MemPlace} {sp : Nat → Bool}
    (hv : Value.okWide Try.prog w .any b0 33 v) (h : DataW.Trod enc Try.prog w base sp true 33 v d ps) :
    ∃ n0 n1 : Nat, n0 < 256 ∧ n1 < 256 ∧ v = .agg #[.int .u8 n0, .int .u8 n1] := by
  simp only [Value.okWide, Try.underlying33] at hv
  obtain ⟨cs, rfl, h2, _⟩ := hv
  obtain ⟨fuel, hf⟩ := h
  obtain ⟨xs, m, _, _, _, hlen, hf2⟩ := DataW.trod_array Try.underlying33 hf
  have c1 : Try.prog.cellsOf 5 = 1 := by kernel_rfl
  have c2 : Try.prog.cellsOf 33 = 2 := by kernel_rfl
  rw [c2] at h2
  have h0 := hf2 0 (by omega)
  have h1 := hf2 1 (by omega)
  rw [c1, List.getElem?_eq_getElem (by omega)] at h0 h1
  obtain ⟨a, e0, _, wa⟩ := DataW.trod_int Try.underlying5 h0
  obtain ⟨b, e1, _, wb⟩ := DataW.trod_int Try.underlying5 h1
  obtain ⟨n0, rfl, l0⟩ := byte_of wa
  obtain ⟨n1, rfl, l1⟩ := byte_of wb
  refine ⟨n0, n1, l0, l1, ?_⟩
  obtain ⟨x, y, rfl⟩ : ∃ x y, cs = #[x, y] := by
    rcases cs with ⟨l⟩
    match l, h2 with
    | [x, y], _ => exact ⟨x, y, rfl⟩
  simp [Value.cells] at e0 e1
  rw [e0, e1]


/-- A geometry by value. -/
theorem geo_of {H : Type} {enc : TypeId × Value → H} {w : World} {base b0 : Nat} {v : Value} {d : DataW H} {ps : List MemPlace} {sp : Nat → Bool}
    (hv : Value.okWide Try.prog w .any b0 24 v) (h : DataW.Trod enc Try.prog w base sp true 24 v d ps) : ∃ B P W K : Int, v = geoV B P W K := by
  obtain ⟨cs, rfl, h2⟩ := okWide_struct Try.underlying24 hv
  obtain ⟨fuel, hf⟩ := h
  obtain ⟨xs, m, _, _, _, hlen, hf2⟩ := DataW.trod_struct Try.underlying24 hf
  have h0 : DataW.trod enc Try.prog w base sp true m 3 (List.take (Try.prog.cellsOf 3) (List.drop 0 (Value.agg cs).cells.toList)) = xs[0]? := hf2 0 _ rfl
  have h1 : DataW.trod enc Try.prog w base sp true m 3 (List.take (Try.prog.cellsOf 3) (List.drop 1 (Value.agg cs).cells.toList)) = xs[1]? := hf2 1 _ rfl
  have hw : DataW.trod enc Try.prog w base sp true m 3 (List.take (Try.prog.cellsOf 3) (List.drop 2 (Value.agg cs).cells.toList)) = xs[2]? := hf2 2 _ rfl
  have h3 : DataW.trod enc Try.prog w base sp true m 3 (List.take (Try.prog.cellsOf 3) (List.drop 3 (Value.agg cs).cells.toList)) = xs[3]? := hf2 3 _ rfl
  have c1 : Try.prog.cellsOf 3 = 1 := by kernel_rfl
  have c4 : Try.prog.cellsOf 24 = 4 := by kernel_rfl
  rw [c4] at h2
  have hl : xs.length = 4 := by simpa using hlen
  rw [c1, List.getElem?_eq_getElem (by omega)] at h0 h1 hw h3
  obtain ⟨B, e0, _⟩ := DataW.trod_int Try.underlying3 h0
  obtain ⟨P, e1, _⟩ := DataW.trod_int Try.underlying3 h1
  obtain ⟨W, e2, _⟩ := DataW.trod_int Try.underlying3 hw
  obtain ⟨K, e3, _⟩ := DataW.trod_int Try.underlying3 h3
  refine ⟨B, P, W, K, ?_⟩
  obtain ⟨x, y, z, u, rfl⟩ : ∃ x y z u, cs = #[x, y, z, u] := by
    rcases cs with ⟨l⟩
    match l, h2 with
    | [x, y, z, u], _ => exact ⟨x, y, z, u, rfl⟩
  simp [Value.cells] at e0 e1 e2 e3
  rw [e0, e1, e2, e3]

theorem rticks_of {H : Type} {enc : TypeId × Value → H} (w : World) {base b0 b1 : Nat} {v u : Value} {d d' : DataW H} {ps ps' : List MemPlace} {sp sp' : Nat → Bool} (n : Int) (hn : (Lit.int .u8 n).wf = true)
    (hv : Value.okWide Try.prog w .any b0 24 v) (hg : DataW.Trod enc Try.prog w base sp true 24 v d ps)
    (hu : Value.okWide Try.prog w .any b1 33 u) (hb : DataW.Trod enc Try.prog w base sp' true 33 u d' ps') :
    Calls Try.prog 4 #[v, u, .int .u8 n] w fun e w' => e = .returned (.bool true) ∧ Keep (fun _ => False) w w' := by
  obtain ⟨B, P, W, K, rfl⟩ := geo_of hv hg
  obtain ⟨n0, n1, l0, l1, rfl⟩ := bytes2_of hu hb
  obtain ⟨t, rfl, lt⟩ := byte_of hn
  exact ticks_true w B P W K n0 n1 t l0 l1 lt
end Go.Proofs.Ytaepllaipdacjaa
