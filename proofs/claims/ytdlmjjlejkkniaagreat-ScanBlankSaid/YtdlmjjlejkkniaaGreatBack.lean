/- slices.Backward over 16-bit numbers: the iterator's contract. -/
import Derived.Test.YtdlmjjlejkkniaaGreatField2
import Derived.Test.YtdlmjjlejkkniaaGreatPol
import Derived.RangeFuncBox
import Derived.RangeFuncNested
import Derived.RangeFuncBound
import Derived.RangeFuncCalls
import Derived.RangeFuncLeaves
import Derived.Shelf.Abstract
import Derived.Shelf.RegionOpen
import Derived.OwnWalkIn
import Derived.TacticsInMore
import Derived.LoopNIn
import Derived.LoopIn
namespace Go.Proofs.YtdlmjjlejkkniaaGreat
open Go.RowKit Go.Shelf
attribute [local go_sem] Oper.semAt_some

/-- Each row of cells but one lies as it lay. -/
def RowsBut (sb : Nat) (W W' : World) : Prop := ∀ k cs t r, k ≠ sb → W.heap[k]? = some (.cells cs t r) → W'.heap[k]? = some (.cells cs t r)
theorem RowsBut.refl (sb : Nat) (W : World) : RowsBut sb W W := fun _ _ _ _ _ h => h
theorem RowsBut.t {sb : Nat} {A B C : World} (h : RowsBut sb A B) (k : RowsBut sb B C) : RowsBut sb A C := fun i cs t r hi hh => k i cs t r hi (h i cs t r hi hh)
theorem RowsBut.b {sb B : Nat} (W : World) (l : Nat) (o o' : Obj) (_ : B ≤ l) (h : W.heap[l]? = some o) (hc : o.isCells = false) (_ : o.isWalk = false) : RowsBut sb W (W.putObj l o') := fun k cs t r _ hk => by
  by_cases e : k = l
  · subst e
    rw [h] at hk
    injection hk with hk
    subst hk
    cases hc
  · exact (World.putObj_heap_other e).trans hk
theorem RowsBut.cell {sb : Nat} {W W' : World} (h : RowsBut sb W W') {b o : Nat} {v : Value} (hb : b ≠ sb) (hc : W.cell? ⟨b, o, none⟩ = some v) : W'.cell? ⟨b, o, none⟩ = some v := by
  obtain ⟨ob, ho, hk⟩ := cells_of_cell hc
  cases ob <;> simp [Obj.isCells] at hk
  exact (World.cell?_of_block (a := ⟨b, o, none⟩) ((h b _ _ _ hb ho).trans ho.symm)).trans hc
theorem RowsBut.ofKeep {sb : Nat} {W W' : World} (h : Keep (· = sb) W W') : RowsBut sb W W' := fun k _ _ _ hk hh => (h.block k (Array.getElem?_eq_some_iff.1 hh).1 hk).trans hh
theorem Keep.any {S : Nat → Prop} {W W' : World} (h : Keep (fun _ => False) W W') : Keep S W W' := h.more (fun _ hf => False.elim hf)
theorem Blk.kept {W W' : World} {row : Option Nat} {g : Nat} {t : TypeId} {cs : Array Value} (h : Blk W g t cs) (hg : W.grownBy W' row) (hr : ∀ r, row = some r → ∃ o : Obj, W.heap[r]? = some o ∧ o.isCells = false) : Blk W' g t cs :=
  (grownBy_keeps_cells hg hr h rfl).trans h
theorem Keep.others {S : Nat → Prop} {W W' : World} (h : Keep S W W') (hS : ∀ k, S k → ∃ t cs, Blk W k t cs) : KeepsOthers W W' :=
  ⟨h.size, fun k o hk ho => (h.block k (Array.getElem?_eq_some_iff.1 hk).1 (fun hs => by
    obtain ⟨t, cs, hb⟩ := hS k hs
    have := hb.symm.trans hk
    injection this with this
    subst this
    cases ho)).trans hk⟩

abbrev I16 := { x : Nat × Nat // x.2 < 65536 }
/-- What has come when k rounds are over. -/
def uptoA {α : Type} (f : Nat → α) (k : Nat) : List α := (List.range k).map f
theorem uptoA_succ {α : Type} (f : Nat → α) (k : Nat) : uptoA f (k + 1) = uptoA f k ++ [f k] := by simp [uptoA, List.range_succ]
theorem uptoA_length {α : Type} (f : Nat → α) (k : Nat) : (uptoA f k).length = k := by simp [uptoA]
/-- The k-th element from the end, and its place. -/
def backAt (n : Nat) (p : Nat → Nat) (k : Nat) : I16 := ⟨(n - 1 - k, p (n - 1 - k) % 65536), Nat.mod_lt _ (by omega)⟩

set_option maxHeartbeats 1000000 in
theorem back_in (F : Fence) (n : Nat) (h5 : F.fn 129) (hro : F.round = none) (a : Option Addr) (len cap : Nat) (w : World) :
    CallsIn F n Tryz.prog 129 #[.slice a len cap] w fun e w' => e = .returned (.func (.func 136) #[] #[.pointer (some ⟨w.heap.size, 0, none⟩)]) ∧ w' = w.alloc (.cells #[.slice a len cap] 31) := by
  refine callsIn_of_wp Tryz.func129 rfl h5 ?_ hro
  simp only [Tryz.ntmps129, List.size_toArray, List.length_cons, List.length_nil, Nat.reduceAdd, Nat.reduceSub, Array.replicate_succ, Array.replicate_zero, List.push_toArray, List.append_toArray, List.nil_append, List.cons_append]
  gi_wp2
  go_ret
  exact ⟨rfl, rfl⟩

set_option maxRecDepth 100000 in
set_option maxHeartbeats 2000000 in
theorem back1_in (F : Fence) (n : Nat) (h7 : F.fn 136) (hro : F.round = none) (hn : 1 ≤ n) (l Bs sb : Nat) (a : Option Addr) (len cap : Nat) (p : Nat → Nat) (w0 : World) (hA : ArgU w0 a len p) (hs : w0.heap.size ≤ sb) (hBs : Bs ≠ sb) (J Jx : List I16 → World → Prop)
    (hY : ∀ pre x W, J pre W → pre.length < len → YieldAt F (n - 1) Tryz.prog l #[.int .i64 (x.1.1 : Nat), .int .u16 (x.1.2 : Nat)] W fun e W' =>
      (e = .returned (.bool true) ∧ J (pre ++ [x]) W' ∧ RowsBut sb W W') ∨ (e = .returned (.bool false) ∧ Jx (pre ++ [x]) W'))
    (W : World) (hk0 : RowsBut sb w0 W) (hc : W.cell? ⟨Bs, 0, none⟩ = some (.slice a len cap)) (h0 : J [] W) :
    CallsIn F n Tryz.prog 136 #[.func (.yield l) #[] #[], .pointer (some ⟨Bs, 0, none⟩)] W fun e W' => (∃ v, e = .returned v) ∧
      ((∃ ys, ys = uptoA (backAt len p) len ∧ J ys W') ∨ (∃ pre, (∃ k, k ≤ len ∧ pre = uptoA (backAt len p) k) ∧ Jx pre W')) := by
  have hsm := hA.small
  have HA := Lib.hid hA
  clear hA
  refine callsIn_of_wp Tryz.func136 rfl h7 ?_ hro
  simp only [Tryz.ntmps136, List.size_toArray, List.length_cons, List.length_nil, Nat.reduceAdd, Nat.reduceSub, Array.replicate_succ, Array.replicate_zero, List.push_toArray, List.append_toArray, List.nil_append, List.cons_append]
  gi_wp2
  gi_loopw [3] (fun i wr => ∃ k : Nat, k ≤ len ∧ i = .int .i64 ((len : Int) - 1 - k) ∧ J (uptoA (backAt len p) k) wr ∧ RowsBut sb W wr)
    (fun i _ => ((intOf i) + 1).toNat)
  case atStart => exact ⟨0, Nat.zero_le _, by simp, h0, RowsBut.refl _ _⟩
  case round =>
    obtain ⟨k, hk, rfl, hJs, hnx⟩ := hrel
    have hcb := hnx.cell hBs hc
    by_cases hlt : k < len
    · obtain ⟨b, off, rfl, hb, hcell⟩ := HA.out.at_ (by omega)
      obtain ⟨j, hj⟩ : ∃ j, j = len - 1 - k := ⟨_, rfl⟩
      have hjl : j < len := by omega
      have hcj := (hk0.t hnx).cell (show b ≠ sb by omega) (hcell j hjl)
      have hlj := HA.out.lt j hjl
      have ej : (len : Int) - 1 - k = (j : Int) := by omega
      have HB := Lib.hid (show backAt len p k = ⟨(j, p j), hlj⟩ by
        unfold backAt
        congr 1
        rw [← hj, Nat.mod_eq_of_lt hlj])
      obtain ⟨fn, tmps, assign, body, hy, hR⟩ := hY _ ⟨(j, p j), hlj⟩ wr hJs (by rw [uptoA_length]; exact hlt)
      dsimp only at hy
      have hj0 : (0 : Int) ≤ (j : Int) := by omega
      have hj1 : (j : Int) < (len : Int) := by omega
      rw [ej]
      clear hcell
      have HE := Lib.hid ej
      have HJ := Lib.hid hj
      clear ej hj
      gi_wp2
      refine hR.mono ?_
      rintro e W3 (⟨rfl, hJ3, hk3⟩ | ⟨rfl, hJx3⟩)
      · gi_wp2
        go_roundw
        case rel => exact ⟨k + 1, by omega, by have := HE.out; congr 1; omega, by rw [uptoA_succ, HB.out]; exact hJ3, hnx.t hk3⟩
        case measure => simp [intOf]
      · gi_wp2
        refine bodyPost_ret (results_none rfl _ _ _) rfl ?_
        exact ⟨⟨_, rfl⟩, .inr ⟨_, ⟨k + 1, by omega, by rw [uptoA_succ, HB.out]⟩, hJx3⟩⟩
    · obtain rfl : k = len := by omega
      have ek : (k : Int) - 1 - k = -1 := by omega
      rw [ek]
      clear ek
      gi_wp2
      go_end0
      exact ⟨⟨_, rfl⟩, .inl ⟨_, rfl, hJs⟩⟩
end Go.Proofs.YtdlmjjlejkkniaaGreat
