/- poly.Add, poly.Slope. -/
import Derived.Test.YtnejnoiogojplaaTrim
import Derived.Test.YtnejnoiogojplaaPol
import Derived.Test.YtnejnoiogojplaaField2
import Derived.Laws.CopyOwn
namespace Go.Proofs.Ytnejnoiogojplaa
open Go.RowKit

theorem Keep.toBelow {w w' : World} (h : Keep (fun _ => False) w w') : Below w.heap.size w w' := h.below (fun _ hi => hi.elim) (Nat.le_refl _)
def uList (p : Nat → Nat) (n : Nat) : List Value := (List.range n).map fun i => Value.int .u16 (p i)
theorem uList_get (p : Nat → Nat) (n j : Nat) : (uList p n)[j]? = if j < n then some (.int .u16 (p j)) else none := by
  unfold uList
  by_cases h : j < n
  · simp [h]
  · simp [h]
theorem uArr_get (p : Nat → Nat) (n j : Nat) : (uArr p n)[j]? = if j < n then some (.int .u16 (p j)) else none := by
  by_cases h : j < n
  · rw [if_pos h]; exact valsArr_get _ _ _ h
  · rw [if_neg h]; exact Array.getElem?_eq_none (by rw [uArr, valsArr_size]; omega)
theorem splice_u (p q : Nat → Nat) (m n : Nat) (h : n ≤ m) : (splice (uArr p m).toList 0 (uList q n)).toArray = uArr (fun i => if i < n then q i else p i) m := by
  apply Array.ext_getElem?
  intro j
  rw [List.getElem?_toArray, uArr_get]
  have hl : (uList q n).length = n := by simp [uList]
  unfold splice
  simp only [List.take_zero, List.nil_append, Nat.zero_add, hl]
  by_cases hj : j < n
  · rw [List.getElem?_append_left (by omega), uList_get, if_pos hj, if_pos (by omega), if_pos hj]
  · rw [List.getElem?_append_right (by omega), hl, List.getElem?_drop, Array.getElem?_toList, uArr_get, show n + (j - n) = j by omega]
    simp [hj]

theorem wpList_copy_u {w : World} {ops : Array Oper} {rest : List Oper} {o : Oper} {a : Act} {Q : Exit → Act → World → Prop} (hgd : o.guard = none) (d s : Operand)
    (ho : o.op = .call { callee := .builtin .copy, args := #[d, s], argTypes := #[22, 22] })
    (g m : Nat) (sp : Option Addr) (n c : Nat) (hd : a.eval d = .slice (some ⟨g, 0, none⟩) m m) (hs : a.eval s = .slice sp n c) (f p : Nat → Nat) (hb : Blk w g 23 (uArr f m)) (hp : ArgU w sp n p) (hnm : n ≤ m)
    (W : World) (hk : Keep (fun _ => False) W w) (hW : W.heap.size ≤ g)
    (h : ∀ w', Blk w' g 23 (uArr (fun i => if i < n then p i else f i) m) → Keep (fun _ => False) W w' → wpList Try.prog ops Q rest (a.put o.dst (goInt n)) w') :
    wpList Try.prog ops Q (o :: rest) a w := by
  have hl : (uList p n).length = n := by simp [uList]
  have hc : (uArr f m).toList.length = m := by simp [uArr, valsArr]
  refine wpList_copy_splice hgd d s 22 22 ho 23 Try.underlying22 (by kernel_rfl) (some ⟨g, 0, none⟩) sp m m n c hd hs g 0 (uArr f m).toList 23 (by rw [Array.toArray_toList]; exact hb) (uList p n) (by rw [hl]; exact (Nat.min_eq_left hnm).symm) ?_ (by rw [hl, hc]; omega) ?_ W.heap.size W hk.toBelow hW ?_
  · intro h0
    rw [hl] at h0
    obtain ⟨b, off, rfl, _, hcell⟩ := hp.at_ h0
    refine ⟨rfl, _, rfl, fun j v hj => ?_⟩
    rw [uList_get] at hj
    split at hj
    · rename_i hjn
      have hv := hcell j hjn
      have e : Addr.add ⟨b, off, none⟩ j = ⟨b, off + j, none⟩ := by
        unfold Addr.add
        split
        · rename_i h1; subst h1; rfl
        · rfl
      rw [e, hv]
      exact hj
    · cases hj
  · intro v hv
    simp only [uList, List.mem_map] at hv
    obtain ⟨i, _, rfl⟩ := hv
    rfl
  · intro w' hb' hk'
    have h1 := hb'.out
    rw [splice_u f p m n hnm] at h1
    have := h w' h1 (Keep.ofBelow hk')
    rwa [hl]

def addMid (p q : Nat → Nat) (na j : Nat) : Nat → Nat := fun i => if i < j then ((if i < na then p i else 0) ^^^ q i) % 1024 else if i < na then p i else 0
theorem addMid_next (p q : Nat → Nat) (na j i : Nat) : addMid p q na (j + 1) i = if i = j then (addMid p q na j j ^^^ q j) % 1024 else addMid p q na j i := by
  unfold addMid
  by_cases e : i = j
  · subst e; simp
  · by_cases e2 : i < j
    · simp [e, e2, show i < j + 1 by omega]
    · simp [e, e2, show ¬ i < j + 1 by omega]
theorem addMid_cut (p q : Nat → Nat) (na nb m : Nat) (ha : na ≤ m) (hb : nb ≤ m) : cut (addMid p q na nb) m = padd (cut p na) (cut q nb) := by
  funext i
  unfold cut addMid padd
  by_cases h : i < m
  · by_cases h1 : i < nb <;> by_cases h2 : i < na <;> simp [h, h1, h2, xor_mod]
  · simp [h, show ¬ i < na by omega, show ¬ i < nb by omega]

set_option maxHeartbeats 2000000 in
set_option maxRecDepth 100000 in
theorem add_any (a b : Option Addr) (na nb ca cb : Nat) (p q : Nat → Nat) (w : World) (ha : ArgU w a na p) (hb : ArgU w b nb q) (hna : na ≤ 1000000) (hnb : nb ≤ 1000000) :
    Calls Try.prog 56 #[.slice a na ca, .slice b nb cb] w fun e w' => ∃ a' m, e = .returned (.slice a' m m) ∧ ResU w' w.heap.size a' m (padd (cut p na) (cut q nb)) ∧ IsPol (padd (cut p na) (cut q nb)) m ∧ m ≤ max na nb ∧ Keep (fun _ => False) w w' := by
  have HA := Lib.hid ha
  have HB := Lib.hid hb
  obtain ⟨m, hm⟩ : ∃ m, m = max na nb := ⟨_, rfl⟩
  have hma : na ≤ m := by omega
  have hmb : nb ≤ m := by omega
  have hml : m ≤ 1000000 := by omega
  have HM := Lib.hid (show m ≤ max na nb by omega)
  have HC := Lib.hid (addMid_cut p q na nb m hma hmb)
  have hmk := make_u m m rfl (by omega)
  have hmx : (if na < nb then (nb : Int) else (na : Int)) = (m : Int) := by split <;> omega
  have k0 := (Keep.refl (fun _ => False) w).alloc (.cells (uArr (fun _ => 0) m) 23)
  have b0 := Blk.new w 23 (uArr (fun _ => 0) m)
  have ha1 := ha.keep k0
  clear ha hb hm
  go_enter Try.func56, Try.ntmps56
  go_wp2_with (with_reducible refine wpList_copy_u rfl (.tmp 14) (.tmp 15) rfl w.heap.size _ _ _ _ rfl rfl _ p b0 ha1 hma w k0 (Nat.le_refl _) ?_)
  intro w1 b1 k1
  clear ha1 b0 k0 hmk hmx
  go_wp2_with fail
  go_loopw [19] (fun v wr => ∃ j : Nat, j ≤ nb ∧ v = .int .i64 j ∧ Blk wr w.heap.size 23 (uArr (addMid p q na j) m) ∧ Keep (fun _ => False) w wr) (fun v _ => nb - (intOf v).toNat)
  case atStart =>
    refine ⟨0, by omega, rfl, ?_, k1⟩
    rw [uArr_congr (g := fun i => if i < na then p i else 0) (fun i hi => by simp [addMid])]
    exact b1
  case round =>
    clear b1 k1
    obtain ⟨j, hj, rfl, hR, hk⟩ := hrel
    have hs := hk.size
    have hgs := hR.lt
    by_cases hjn : j < nb
    · have hjm : j < m := by omega
      obtain ⟨bb, off, rfl, hb, hcell⟩ := HB.out.at_ (by omega)
      have hc1 := (hk.cell (p := ⟨bb, off + j, none⟩) hb (by simp)).trans (hcell j hjn)
      have hc2 := hR.val hjm
      have hz := hR.frozen j
      have hjn' : (j : Int) < (nb : Int) := by omega
      have hjm' : (j : Int) < (m : Int) := by omega
      have hq := HB.out.lt j hjn
      have hp : addMid p q na j j < 65536 := by
        have hpa := HA.out.lt j
        unfold addMid
        simp only [Nat.lt_irrefl, if_false]
        split
        · exact hpa ‹_›
        · omega
      have HN := Lib.hid (hR.storeU j ((addMid p q na j j ^^^ q j) % 1024) (f' := addMid p q na (j + 1)) (fun i _ => addMid_next p q na j i))
      clear hcell
      go_wp2_with fail
      refine (fadd_any _ _ _ hp hq).mono ?_
      rintro e w2 ⟨rfl, rfl⟩
      go_wp2_with fail
      go_roundw
      case rel => exact ⟨j + 1, by omega, by go_num, HN.out, hk.setCell (p := ⟨w.heap.size, j, none⟩) (.inr (Nat.le_refl _)) _⟩
      case measure => simp [intOf]; omega
    · obtain rfl : j = nb := by omega
      have hjn' : ¬ (j : Int) < (j : Int) := by omega
      have hp16 : ∀ i, i < m → addMid p q na j i < 65536 := fun i _ => by
        have hpa := HA.out.lt i
        unfold addMid
        split
        · omega
        · split
          · exact hpa ‹_›
          · omega
      have HR := Lib.hid (hR.argU (by omega) hp16)
      clear hp16
      go_wp2_with fail
      refine (trim_any _ _ _ _ _ HR.out (by omega) (Nat.le_refl _)).mono ?_
      rintro e w2 ⟨a', m', rfl, hres, hpol, hle, k2⟩
      rw [HC.out] at hres hpol
      go_wp2_with fail
      go_ret
      exact ⟨a', m', rfl, hres.more hs, hpol, by have := HM.out; omega, hk.trans k2 (fun _ hi => .inl hi)⟩
end Go.Proofs.Ytnejnoiogojplaa
