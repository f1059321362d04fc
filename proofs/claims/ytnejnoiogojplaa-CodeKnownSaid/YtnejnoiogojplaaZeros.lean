/- append(s, make([]uint16, m)...), onto a row of the call's own. -/
import Derived.Test.YtnejnoiogojplaaOwn
namespace Go.Proofs.Ytnejnoiogojplaa
open Go.RowKit

theorem zeroCells_u (m : Nat) : Builtin.zeroCells (Value.int .u16 0).cells m = uArr (fun _ => 0) m := by
  apply Array.ext_getElem?
  intro i
  rw [uArr_get]
  unfold Builtin.zeroCells
  rw [show (Value.int .u16 0).cells = #[Value.int .u16 0] from rfl]
  by_cases hi : i < m
  · simp [hi, Nat.mod_one]
  · simp [hi]
theorem uList_arr (f : Nat → Nat) (n : Nat) : (uList f n).toArray = uArr f n := by
  apply Array.ext_getElem?
  intro i
  rw [List.getElem?_toArray, uList_get, uArr_get]
theorem setRow_u {w : World} {g : Nat} {cs : Array Value} {t : TypeId} (h : Blk w g t cs) (ds : Array Value) : Blk (w.setRow g ds) g t ds := setRow_heap w g cs ds t _ h
set_option maxHeartbeats 1000000 in
/-- What it answers. -/
theorem run_append_zeros {N g n c m : Nat} {f : Nat → Nat} (w : World) (ty : TypeId) (hr : RowU w g c n f) (hg : N ≤ g) (hc : c ≤ maxLen) (hnm : n + m ≤ 1000000) (hN : N ≤ w.heap.size) :
    ∃ a' c' w', (Builtin.append_ #[22, 3] ty #[.slice (some ⟨g, 0, none⟩) n c, .int .i64 m]).run Try.prog w = .ok (.slice a' (n + m) c') w' ∧ OwnU w' N a' (n + m) c' (fun i => if i < n then f i else 0) ∧ w.grownBy w' (some g) := by
  obtain ⟨i, hi, hz, hs, hb⟩ := Try.info_u16'
  obtain ⟨cs, hB, hcs, hnc, hv⟩ := hr
  have w1 : IntKind.i64.wrap (m : Int) = m := wraps_i64 _ (by omega) (by omega)
  have w2 : ¬ (281474976710656 : Int) < (m : Int) * 2 := by omega
  have w3 : ¬ (m : Int) < 0 := by omega
  by_cases hroom : n + m ≤ c
  · have hst := run_storeCells_at Try.prog g n 23 (uList (fun _ => 0) m) 0 cs w hB (by simp [uList]; omega) (fun u hu => by
      simp only [uList, List.mem_map] at hu
      obtain ⟨_, _, rfl⟩ := hu
      rfl)
    simp only [Nat.add_zero] at hst
    refine ⟨some ⟨g, 0, none⟩, c, w.setRow g (cs.toList.take n ++ uList (fun _ => 0) m ++ cs.toList.drop (n + (uList (fun _ => 0) m).length)).toArray, ?_, ?_, ?_⟩
    · have hz1 := zeroCells_u m
      rw [← uList_arr] at hz1
      have hst' := hst
      rw [List.append_assoc] at hst'
      by_cases hm0 : m = 0
      · subst hm0
        have w0 : IntKind.i64.wrap 0 = 0 := by decide
        have hst' : (storeCells ⟨g, n, none⟩ []).run Try.prog w = .ok () (w.setRow g cs) := by simpa [uList] using hst
        simp [Builtin.append_, run_underlying Try.underlying22, run_underlying Try.underlying3, sizeOf, typeInfo, hi, hs, hb, zeroValue, hz, asInt, asIntOf, w0, hnc, Addr.add_lit, hst', uList]
      · simp [Builtin.append_, run_underlying Try.underlying22, run_underlying Try.underlying3, sizeOf, typeInfo, hi, hs, hb, zeroValue, hz, asInt, asIntOf, w1, w2, hroom, Addr.add_lit, hm0, hz1, w3]
        rw [hst']
        rfl
    · refine OwnU.of_row ⟨_, setRow_u hB _, ?_, hroom, fun j hj => ?_⟩ hg hc
      · simp [uList]
        omega
      · have hl : (uList (fun _ => 0) m).length = m := by simp [uList]
        have hl2 : (cs.toList.take n).length = n := by simp; omega
        rw [List.getElem?_toArray, List.append_assoc]
        show _ = some (Value.int .u16 ((if j < n then f j else 0 : Nat) : Int))
        by_cases h : j < n
        · rw [if_pos h, List.getElem?_append_left (by omega), List.getElem?_take, if_pos h, Array.getElem?_toList, hv j h]
        · rw [if_neg h, List.getElem?_append_right (by omega), hl2, List.getElem?_append_left (by omega), uList_get, if_pos (by omega)]
    · exact ⟨rfl, rfl, rfl, by simp, fun k _ hk => setRow_other w g k _ (fun e => hk (by rw [e]))⟩
  · have hfo := run_firstCells_some (P := Try.prog) w.drew 1 n ⟨g, 0, none⟩ n c (uList f n) (by simp [uList]) (fun j u hj => by
      rw [uList_get] at hj
      split at hj
      · rename_i h
        rw [addr_zero_add, show w.drew.cell? ⟨g, j, none⟩ = w.cell? ⟨g, j, none⟩ from rfl, hB.cell, hv j h]
        exact hj
      · cases hj)
    have h63' : ¬ (9223372036854775807 < ((n : Int) + (m : Int))) := by omega
    have h48' : ¬ (281474976710656 < Builtin.nextslicecap (n + m) c * i.bytes) := by
      have := growslice_fits (bytes := i.bytes) (show c < n + m by omega) (by rw [hb]; omega)
      omega
    have hge := grownCap_ge w (n + m) c 23
    have hcm : grownCap w (n + m) c 23 ≤ maxLen := grownCap_le_maxLen w (n + m) c 23 (by unfold maxLen; omega)
    refine ⟨some ⟨w.heap.size, 0, none⟩, grownCap w (n + m) c 23, w.drew.alloc (.cells (uArr f n ++ uArr (fun _ => 0) m ++ uArr (fun _ => 0) (grownCap w (n + m) c 23 - (n + m))) 23), ?_, ?_, ?_⟩
    · have hz1 := zeroCells_u m
      have hz2 := zeroCells_u (grownCap w (n + m) c 23 - (n + m))
      have hm0 : m ≠ 0 := by omega
      unfold grownCap at hz2 ⊢
      rw [hb] at h48'
      simp [Builtin.append_, run_underlying Try.underlying22, run_underlying Try.underlying3, sizeOf, typeInfo, hi, hs, hb, zeroValue, hz, asInt, asIntOf, w1, w2, hroom, hm0, w3, h63', h48', Question.forced, hfo, newRow, hz1, hz2, uList_arr]
    · refine OwnU.of_row ⟨_, Blk.new w.drew _ _, ?_, hge, fun j hj => ?_⟩ hN hcm
      · simp [uArr, valsArr_size]
        omega
      · rw [Array.append_assoc]
        show _ = some (Value.int .u16 ((if j < n then f j else 0 : Nat) : Int))
        by_cases h : j < n
        · rw [Array.getElem?_append_left (by simpa [uArr, valsArr_size] using h), uArr_get, if_pos h, if_pos h]
        · rw [Array.getElem?_append_right (by simp [uArr, valsArr_size]; omega), if_neg h, show (uArr f n).size = n from valsArr_size _ _, Array.getElem?_append_left (by simp [uArr, valsArr_size]; omega), uArr_get, if_pos (by omega)]
    · exact ⟨rfl, rfl, rfl, by simp, fun _ hk _ => heap_alloc_old w.drew _ hk⟩
/-- The step. -/
theorem wpList_append_zeros {w : World} {ops : Array Oper} {rest : List Oper} {o : Oper} {a : Act} {Q : Exit → Act → World → Prop} (hgd : o.guard = none) (s x : Operand)
    (ho : o.op = .call { callee := .builtin .append, args := #[s, x], argTypes := #[22, 3] })
    (N : Nat) (g n c : Nat) (f : Nat → Nat) (hs : a.eval s = .slice (some ⟨g, 0, none⟩) n c) (hr : RowU w g c n f) (hg : N ≤ g) (hc : c ≤ maxLen) (m : Nat) (hx : a.eval x = .int .i64 m) (hnm : n + m ≤ 1000000) (hN : N ≤ w.heap.size)
    (h : ∀ a' c' w', OwnU w' N a' (n + m) c' (fun i => if i < n then f i else 0) → w.grownBy w' (some g) → wpList Try.prog ops Q rest (a.put o.dst (.slice a' (n + m) c')) w') :
    wpList Try.prog ops Q (o :: rest) a w := by
  obtain ⟨a', c', w', h1, h2, h3⟩ := run_append_zeros w o.type hr hg hc hnm hN
  refine wpList_plain hgd fun K hK => ?_
  unfold Oper.wp
  simp [execOp, ho, resolve, invoke, builtin, hs, hx, h1, Result.andThen]
  exact hK _ _ (h a' c' w' h2 h3)
end Go.Proofs.Ytnejnoiogojplaa
