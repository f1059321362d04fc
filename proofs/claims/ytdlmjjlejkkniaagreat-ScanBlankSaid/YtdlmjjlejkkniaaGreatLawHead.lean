/- What the laws of pages begin with: a geometry that is not great, bytes that came in, a copy of them. -/
import Derived.Test.YtdlmjjlejkkniaaGreatAwake12
import Derived.Test.YtdlmjjlejkkniaaGreatArgs
namespace Go.Proofs.YtdlmjjlejkkniaaGreat
open Go.ChangeShapes Go.WideShapes Go.ChangeAt Go.RowKit

theorem valsArr_at (f : Nat → Value) (n j : Nat) : (valsArr f n)[j]? = if j < n then some (f j) else none := by
  by_cases h : j < n
  · rw [if_pos h]; exact valsArr_get _ _ _ h
  · rw [if_neg h]; exact Array.getElem?_eq_none (by rw [valsArr_size]; omega)
theorem splice_v (f q : Nat → Value) (m n : Nat) (h : n ≤ m) : (splice (valsArr f m).toList 0 (vList q n)).toArray = valsArr (fun i => if i < n then q i else f i) m := by
  apply Array.ext_getElem?
  intro j
  rw [List.getElem?_toArray, valsArr_at]
  have hl := vList_len q n
  unfold splice
  simp only [List.take_zero, List.nil_append, Nat.zero_add, hl]
  by_cases hj : j < n
  · rw [List.getElem?_append_left (by omega), vList_get, if_pos hj, if_pos (by omega), if_pos hj]
  · rw [List.getElem?_append_right (by omega), hl, List.getElem?_drop, Array.getElem?_toList, valsArr_at, show n + (j - n) = j by omega]
    simp [hj]
/-- copy of bytes that came in into a row that was just made. -/
theorem wpList_copy_b {w : World} {ops : Array Oper} {rest : List Oper} {o : Oper} {a : Act} {Q : Exit → Act → World → Prop} (hgd : o.guard = none) (d s : Operand)
    (ho : o.op = .call { callee := .builtin .copy, args := #[d, s], argTypes := #[24, 24] })
    (g m : Nat) (sp : Option Addr) (n c : Nat) (hd : a.eval d = .slice (some ⟨g, 0, none⟩) m m) (hs : a.eval s = .slice sp n c) (f p : Nat → Value) (hb : Blk w g 5 (valsArr f m)) (hp : ArgV w sp n p) (h1 : ∀ i, i < n → (p i).oneCell' = true)
    (W : World) (hk : Keep (fun _ => False) W w) (hW : W.heap.size ≤ g)
    (h : ∀ w', Blk w' g 5 (valsArr (fun i => if i < n then p i else f i) m) → Keep (fun _ => False) W w' → wpList Tryz.prog ops Q rest (a.put o.dst (goInt ((min m n : Nat) : Int))) w') :
    wpList Tryz.prog ops Q (o :: rest) a w := by
  have hl : (vList p (min m n)).length = min m n := vList_len _ _
  have hc : (valsArr f m).toList.length = m := by simp [valsArr]
  refine wpList_copy_splice hgd d s 24 24 ho 5 Tryz.underlying24 (by kernel_rfl) (some ⟨g, 0, none⟩) sp m m n c hd hs g 0 (valsArr f m).toList 5 (by rw [Array.toArray_toList]; exact hb) (vList p (min m n)) (by rw [hl]; exact Nat.min_comm _ _) ?_ (by rw [hl, hc]; omega) ?_ W.heap.size W hk.toBelow hW ?_
  · intro h0
    rw [hl] at h0
    obtain ⟨b, off, rfl, _, hcell⟩ := hp.at_ (by omega)
    refine ⟨rfl, _, rfl, fun j v hj => ?_⟩
    rw [vList_get] at hj
    split at hj
    · rename_i hjn
      rw [addr_add, hcell j (by omega)]
      exact hj
    · cases hj
  · intro v hv
    simp only [vList, List.mem_map, List.mem_range] at hv
    obtain ⟨i, hi, rfl⟩ := hv
    exact h1 i (by omega)
  · intro w' hb' hk'
    have h1 := hb'.out
    rw [splice_v f p m (min m n) (by omega)] at h1
    rw [valsArr_congr (h := fun i => if i < n then p i else f i) (fun k hk => by
      by_cases h : k < n
      · rw [if_pos h, if_pos (by omega)]
      · rw [if_neg h, if_neg (by omega)])] at h1
    have := h w' h1 (Keep.ofBelow hk')
    rwa [hl]
theorem byte_nat {n : Int} (h : (Lit.int .u8 n).wf = true) : ∃ x : Nat, n = x ∧ x < 256 := by
  have h' := Go.bounds_u8 h
  exact ⟨n.toNat, by omega, by omega⟩
/-- Bytes that came in. -/
theorem argB_of {H : Type} {enc : TypeId × Value → H} {w : World} {base : Nat} {a : Option Addr} {len cap : Nat} {d : DataW H} {ps : List MemPlace} {sp : Nat → Bool}
    (h : DataW.Trod enc Tryz.prog w base sp true 24 (.slice a len cap) d ps) : ∃ p : Nat → Nat, len ≤ maxLen ∧ (len ≤ 1000000 → ArgV w a len (fun i => .int .u8 (p i : Nat))) ∧ ∀ i, i < len → p i < 256 := by
  obtain ⟨z, hz⟩ := argInts_of (k := .u8) Tryz.underlying24 Tryz.underlying5 (by kernel_rfl) h
  have hv : ∀ i, i < len → ∃ x : Nat, z i = x ∧ x < 256 := fun i hi => byte_nat (hz.wf i hi)
  refine ⟨fun i => (z i).toNat, hz.small, fun hl => ⟨by omega, fun h0 => ?_⟩, fun i hi => ?_⟩
  · obtain ⟨b, off, e, hb, hc⟩ := hz.at_ h0
    refine ⟨b, off, e, hb, fun i hi => ?_⟩
    obtain ⟨x, ex, _⟩ := hv i hi
    have e2 : ((z i).toNat : Int) = z i := by omega
    rw [hc i hi]
    show _ = some (Value.int .u8 ((z i).toNat : Nat))
    rw [e2]
  · obtain ⟨x, ex, lx⟩ := hv i hi
    show (z i).toNat < 256
    omega
set_option maxRecDepth 100000 in
/-- A geometry by value. -/
theorem geo4_of {H : Type} {enc : TypeId × Value → H} {w : World} {base b0 : Nat} {v : Value} {d : DataW H} {ps : List MemPlace} {sp : Nat → Bool}
    (hv : Value.okWide Tryz.prog w .any b0 23 v) (h : DataW.Trod enc Tryz.prog w base sp true 23 v d ps) : ∃ B P W K : Int, v = geoV B P W K := by
  obtain ⟨cs, rfl, h2⟩ := okWide_struct Tryz.underlying23 hv
  obtain ⟨fuel, hf⟩ := h
  obtain ⟨xs, m, _, _, _, hlen, hf2⟩ := DataW.trod_struct Tryz.underlying23 hf
  have h0 : DataW.trod enc Tryz.prog w base sp true m 3 (List.take (Tryz.prog.cellsOf 3) (List.drop 0 (Value.agg cs).cells.toList)) = xs[0]? := hf2 0 _ rfl
  have h1 : DataW.trod enc Tryz.prog w base sp true m 3 (List.take (Tryz.prog.cellsOf 3) (List.drop 1 (Value.agg cs).cells.toList)) = xs[1]? := hf2 1 _ rfl
  have hw : DataW.trod enc Tryz.prog w base sp true m 3 (List.take (Tryz.prog.cellsOf 3) (List.drop 2 (Value.agg cs).cells.toList)) = xs[2]? := hf2 2 _ rfl
  have h3 : DataW.trod enc Tryz.prog w base sp true m 3 (List.take (Tryz.prog.cellsOf 3) (List.drop 3 (Value.agg cs).cells.toList)) = xs[3]? := hf2 3 _ rfl
  have c1 : Tryz.prog.cellsOf 3 = 1 := by kernel_rfl
  have c4 : Tryz.prog.cellsOf 23 = 4 := by kernel_rfl
  rw [c4] at h2
  have hl : xs.length = 4 := by simpa using hlen
  rw [c1, List.getElem?_eq_getElem (by omega)] at h0 h1 hw h3
  obtain ⟨B, e0, _⟩ := DataW.trod_int Tryz.underlying3 h0
  obtain ⟨P, e1, _⟩ := DataW.trod_int Tryz.underlying3 h1
  obtain ⟨W, e2, _⟩ := DataW.trod_int Tryz.underlying3 hw
  obtain ⟨K, e3, _⟩ := DataW.trod_int Tryz.underlying3 h3
  refine ⟨B, P, W, K, ?_⟩
  obtain ⟨x, y, z, u, rfl⟩ : ∃ x y z u, cs = #[x, y, z, u] := by
    rcases cs with ⟨l⟩
    match l, h2 with
    | [x, y, z, u], _ => exact ⟨x, y, z, u, rfl⟩
  simp [Value.cells] at e0 e1 e2 e3
  rw [e0, e1, e2, e3]
/-- Bytes, and noughts behind. -/
def padB (d : Nat → Nat) (n : Nat) : Nat → Nat := fun i => if i < n then d i else 0
theorem padB_lt {d : Nat → Nat} {n : Nat} (h : ∀ i, i < n → d i < 256) (i : Nat) : padB d n i < 256 := by
  unfold padB
  split
  · exact h i ‹_›
  · omega
theorem padB_vals (d : Nat → Nat) (n m : Nat) : valsArr (fun i => if i < n then Value.int .u8 (d i : Nat) else .int .u8 0) m = valsArr (fun i => .int .u8 (padB d n i : Nat)) m :=
  valsArr_congr fun i _ => by
    unfold padB
    split <;> rfl
end Go.Proofs.YtdlmjjlejkkniaaGreat
