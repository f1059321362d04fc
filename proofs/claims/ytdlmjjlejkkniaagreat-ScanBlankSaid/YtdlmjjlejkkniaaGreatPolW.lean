/- The program's polynomials: Trim, Add, Slope, Mul. -/
import Derived.Test.YtdlmjjlejkkniaaGreatU
import Derived.Test.YtdlmjjlejkkniaaGreatPol
import Derived.Test.YtdlmjjlejkkniaaGreatField2
import Derived.Laws.CopyOwn
import Derived.Test.YtdlmjjlejkkniaaGreatKeptTail
namespace Go.Proofs.YtdlmjjlejkkniaaGreat
open Go.RowKit

set_option maxHeartbeats 2000000 in
set_option maxRecDepth 100000 in
theorem trim_any (a : Option Addr) (n c : Nat) (p : Nat → Nat) (w : World) (ha : ArgU w a n p) (hn : n ≤ 1000000) (hc : n ≤ c) :
    Calls Tryz.prog 132 #[.slice a n c] w fun e w' => ∃ a' m, e = .returned (.slice a' m m) ∧ ResU w' w.heap.size a' m (cut p n) ∧ IsPol (cut p n) m ∧ m ≤ n ∧ Keep (fun _ => False) w w' := by
  have HA := Lib.hid ha
  have hc' : (n : Int) ≤ (c : Int) := by omega
  clear ha
  go_enter Tryz.func132, Tryz.ntmps132
  go_upto_block 0 with (fail)
  go_cut [3] (fun v wc => ∃ k : Nat, k ≤ n ∧ v = .int .i64 k ∧ w = wc ∧ Hid (IsPol (cut p n) k))
  case first =>
    go_wp2
    go_loop [3] (fun v => ∃ k : Nat, k ≤ n ∧ v = .int .i64 k ∧ Hid (∀ i, k ≤ i → cut p n i = 0)) (fun v => (intOf v).toNat)
    case atStart => exact ⟨n, Nat.le_refl _, rfl, Lib.hid fun i hi => cut_zero p hi⟩
    case round =>
      obtain ⟨k, hk, rfl, HZ⟩ := hrel
      by_cases h0 : k = 0
      · subst h0
        go_wp2
        go_meet
        case rel => exact ⟨0, by omega, by rfl, rfl, Lib.hid ⟨cut_lt p n, HZ.out, fun h => by omega⟩⟩
      · obtain ⟨b, off, rfl, hb, hcell⟩ := HA.out.at_ (by omega)
        obtain ⟨j, rfl⟩ : ∃ j, k = j + 1 := ⟨k - 1, by omega⟩
        have hj := hcell j (by omega)
        have e1 : cut p n j = p j % 1024 := cut_in p (by omega)
        have h3 : (((j + 1 : Nat) : Int) - 1) = (j : Int) := by omega
        clear hcell h0
        by_cases hz : p j % 1024 = 0
        · have HE := Lib.hid (e1.trans hz)
          have hb1 : (((p j : Nat) : Int) % 1024 == 0) = true := by simp; omega
          have hb2 : (((p j : Nat) : Int) % 1024) = 0 := by omega
          clear e1 hz
          go_wp2
          exact ⟨⟨j, by omega, rfl, Lib.hid fun i hi => by
            by_cases e : i = j
            · rw [e]; exact HE.out
            · exact HZ.out i (by omega)⟩, by simp [intOf]⟩
        · have HE := Lib.hid (fun h => hz (e1.symm.trans h) : cut p n j ≠ 0)
          have hb1 : (((p j : Nat) : Int) % 1024 == 0) = false := by simp; omega
          have hb2 : ¬ (((p j : Nat) : Int) % 1024) = 0 := by omega
          clear e1 hz
          go_wp2
          go_meet
          case rel => exact ⟨j + 1, by omega, by rfl, rfl, Lib.hid ⟨cut_lt p n, HZ.out, fun _ => HE.out⟩⟩
  case rest =>
    obtain ⟨k, hk0, rfl, hw, HP⟩ := hcut
    subst hw
    by_cases h0 : k = 0
    · subst h0
      go_wp2
      go_ret
      exact ⟨none, 0, rfl, .inl ⟨rfl, rfl⟩, HP.out, by omega, Keep.refl _ _⟩
    · obtain ⟨b, off, rfl, hb, hcell⟩ := HA.out.at_ (by omega)
      have hm := make_u k k rfl (by omega)
      have h1 : ¬ ((k : Int) = 0) := by omega
      have h2 : (k : Int) ≤ (c : Int) := by omega
      go_wp2
      clear hm
      go_loopw [30] (fun v wr => ∃ j : Nat, j ≤ k ∧ v = .int .i64 j ∧ Blk wr w.heap.size 25 (uArr (fun i => if i < j then p i % 1024 else 0) k) ∧ Keep (fun _ => False) w wr) (fun v _ => k - (intOf v).toNat)
      case atStart =>
        refine ⟨0, Nat.zero_le _, rfl, ?_, (Keep.refl _ _).alloc _⟩
        have := Blk.new w 25 (uArr (fun _ => 0) k)
        simpa using this
      case round =>
        obtain ⟨j, hj, rfl, hB, hk⟩ := hrel
        by_cases hjk : j < k
        · have hs := hk.size
          have hc1 := (hk.cell (p := ⟨b, off + j, none⟩) hb (by simp)).trans (hcell j (by omega))
          have hc2 := hB.val hjk
          have hz := hB.frozen j
          have hjk' : (j : Int) < (k : Int) := by omega
          have hjc : (j : Int) < (c : Int) := by omega
          clear hcell
          go_wp2
          go_roundw
          case rel =>
            refine ⟨j + 1, by omega, by go_num, ?_, hk.setCell (p := ⟨w.heap.size, j, none⟩) (.inr (Nat.le_refl _)) _⟩
            exact hB.storeU j (p j % 1024) (fun i hi => by
              by_cases e : i = j
              · subst e; simp
              · by_cases e2 : i < j
                · simp [e, e2, show i < j + 1 by omega]
                · simp [e, e2, show ¬ i < j + 1 by omega])
          case measure => simp [intOf]; omega
        · have hjk' : ¬ (j : Int) < (k : Int) := by omega
          clear hcell
          go_wp2
          go_ret
          refine ⟨some ⟨w.heap.size, 0, none⟩, k, rfl, .inr ⟨_, rfl, Nat.le_refl _, ?_⟩, HP.out, hk0, hk⟩
          rw [uArr_congr (g := fun i => if i < j then p i % 1024 else 0)]
          · exact hB
          · intro i hi
            simp [cut, show i < n by omega, show i < j by omega]
end Go.Proofs.YtdlmjjlejkkniaaGreat

namespace Go.Proofs.YtdlmjjlejkkniaaGreat
open Go.RowKit

theorem Keep.toBelow {w w' : World} (h : Keep (fun _ => False) w w') : Below w.heap.size w w' := h.below (fun _ hi => hi.elim) (Nat.le_refl _)
def uList (p : Nat → Nat) (n : Nat) : List Value := (List.range n).map fun i => Value.int .u16 (p i)
theorem uList_get (p : Nat → Nat) (n j : Nat) : (uList p n)[j]? = if j < n then some (.int .u16 (p j)) else none := by
  unfold uList
  by_cases h : j < n
  · simp [h]
  · simp [h]
theorem uArr_get (p : Nat → Nat) (n j : Nat) : (uArr p n)[j]? = if j < n then some (.int .u16 (p j)) else none := by
  by_cases h : j < n
  · rw [if_pos h]; exact valsArr_get _ _ _ h
  · rw [if_neg h]; exact Array.getElem?_eq_none (by rw [uArr, valsArr_size]; omega)
theorem splice_u (p q : Nat → Nat) (m n : Nat) (h : n ≤ m) : (splice (uArr p m).toList 0 (uList q n)).toArray = uArr (fun i => if i < n then q i else p i) m := by
  apply Array.ext_getElem?
  intro j
  rw [List.getElem?_toArray, uArr_get]
  have hl : (uList q n).length = n := by simp [uList]
  unfold splice
  simp only [List.take_zero, List.nil_append, Nat.zero_add, hl]
  by_cases hj : j < n
  · rw [List.getElem?_append_left (by omega), uList_get, if_pos hj, if_pos (by omega), if_pos hj]
  · rw [List.getElem?_append_right (by omega), hl, List.getElem?_drop, Array.getElem?_toList, uArr_get, show n + (j - n) = j by omega]
    simp [hj]

theorem wpList_copy_u {w : World} {ops : Array Oper} {rest : List Oper} {o : Oper} {a : Act} {Q : Exit → Act → World → Prop} (hgd : o.guard = none) (d s : Operand)
    (ho : o.op = .call { callee := .builtin .copy, args := #[d, s], argTypes := #[31, 31] })
    (g m : Nat) (sp : Option Addr) (n c : Nat) (hd : a.eval d = .slice (some ⟨g, 0, none⟩) m m) (hs : a.eval s = .slice sp n c) (f p : Nat → Nat) (hb : Blk w g 25 (uArr f m)) (hp : ArgU w sp n p) (hnm : n ≤ m)
    (W : World) (hk : Keep (fun _ => False) W w) (hW : W.heap.size ≤ g)
    (h : ∀ w', Blk w' g 25 (uArr (fun i => if i < n then p i else f i) m) → Keep (fun _ => False) W w' → wpList Tryz.prog ops Q rest (a.put o.dst (goInt n)) w') :
    wpList Tryz.prog ops Q (o :: rest) a w := by
  have hl : (uList p n).length = n := by simp [uList]
  have hc : (uArr f m).toList.length = m := by simp [uArr, valsArr]
  refine wpList_copy_splice hgd d s 31 31 ho 25 Tryz.underlying31 (by kernel_rfl) (some ⟨g, 0, none⟩) sp m m n c hd hs g 0 (uArr f m).toList 25 (by rw [Array.toArray_toList]; exact hb) (uList p n) (by rw [hl]; exact (Nat.min_eq_left hnm).symm) ?_ (by rw [hl, hc]; omega) ?_ W.heap.size W hk.toBelow hW ?_
  · intro h0
    rw [hl] at h0
    obtain ⟨b, off, rfl, _, hcell⟩ := hp.at_ h0
    refine ⟨rfl, _, rfl, fun j v hj => ?_⟩
    rw [uList_get] at hj
    split at hj
    · rename_i hjn
      have hv := hcell j hjn
      have e : Addr.add ⟨b, off, none⟩ j = ⟨b, off + j, none⟩ := by
        unfold Addr.add
        split
        · rename_i h1; subst h1; rfl
        · rfl
      rw [e, hv]
      exact hj
    · cases hj
  · intro v hv
    simp only [uList, List.mem_map] at hv
    obtain ⟨i, _, rfl⟩ := hv
    rfl
  · intro w' hb' hk'
    have h1 := hb'.out
    rw [splice_u f p m n hnm] at h1
    have := h w' h1 (Keep.ofBelow hk')
    rwa [hl]

def addMid (p q : Nat → Nat) (na j : Nat) : Nat → Nat := fun i => if i < j then ((if i < na then p i else 0) ^^^ q i) % 1024 else if i < na then p i else 0
theorem addMid_next (p q : Nat → Nat) (na j i : Nat) : addMid p q na (j + 1) i = if i = j then (addMid p q na j j ^^^ q j) % 1024 else addMid p q na j i := by
  unfold addMid
  by_cases e : i = j
  · subst e; simp
  · by_cases e2 : i < j
    · simp [e, e2, show i < j + 1 by omega]
    · simp [e, e2, show ¬ i < j + 1 by omega]
theorem addMid_cut (p q : Nat → Nat) (na nb m : Nat) (ha : na ≤ m) (hb : nb ≤ m) : cut (addMid p q na nb) m = padd (cut p na) (cut q nb) := by
  funext i
  unfold cut addMid padd
  by_cases h : i < m
  · by_cases h1 : i < nb <;> by_cases h2 : i < na <;> simp [h, h1, h2, xor_mod]
  · simp [h, show ¬ i < na by omega, show ¬ i < nb by omega]

set_option maxHeartbeats 2000000 in
set_option maxRecDepth 100000 in
theorem add_any (a b : Option Addr) (na nb ca cb : Nat) (p q : Nat → Nat) (w : World) (ha : ArgU w a na p) (hb : ArgU w b nb q) (hna : na ≤ 1000000) (hnb : nb ≤ 1000000) :
    Calls Tryz.prog 119 #[.slice a na ca, .slice b nb cb] w fun e w' => ∃ a' m, e = .returned (.slice a' m m) ∧ ResU w' w.heap.size a' m (padd (cut p na) (cut q nb)) ∧ IsPol (padd (cut p na) (cut q nb)) m ∧ m ≤ max na nb ∧ Keep (fun _ => False) w w' := by
  have HA := Lib.hid ha
  have HB := Lib.hid hb
  obtain ⟨m, hm⟩ : ∃ m, m = max na nb := ⟨_, rfl⟩
  have hma : na ≤ m := by omega
  have hmb : nb ≤ m := by omega
  have hml : m ≤ 1000000 := by omega
  have HM := Lib.hid (show m ≤ max na nb by omega)
  have HC := Lib.hid (addMid_cut p q na nb m hma hmb)
  have hmk := make_u m m rfl (by omega)
  have hmx : (if na < nb then (nb : Int) else (na : Int)) = (m : Int) := by split <;> omega
  have k0 := (Keep.refl (fun _ => False) w).alloc (.cells (uArr (fun _ => 0) m) 25)
  have b0 := Blk.new w 25 (uArr (fun _ => 0) m)
  have ha1 := ha.keep k0
  clear ha hb hm
  go_enter Tryz.func119, Tryz.ntmps119
  go_wp2_with (with_reducible refine wpList_copy_u rfl (.tmp 14) (.tmp 15) rfl w.heap.size _ _ _ _ rfl rfl _ p b0 ha1 hma w k0 (Nat.le_refl _) ?_)
  intro w1 b1 k1
  clear ha1 b0 k0 hmk hmx
  go_wp2_with fail
  go_loopw [19] (fun v wr => ∃ j : Nat, j ≤ nb ∧ v = .int .i64 j ∧ Blk wr w.heap.size 25 (uArr (addMid p q na j) m) ∧ Keep (fun _ => False) w wr) (fun v _ => nb - (intOf v).toNat)
  case atStart =>
    refine ⟨0, by omega, rfl, ?_, k1⟩
    rw [uArr_congr (g := fun i => if i < na then p i else 0) (fun i hi => by simp [addMid])]
    exact b1
  case round =>
    clear b1 k1
    obtain ⟨j, hj, rfl, hR, hk⟩ := hrel
    have hs := hk.size
    have hgs := hR.lt
    by_cases hjn : j < nb
    · have hjm : j < m := by omega
      obtain ⟨bb, off, rfl, hb, hcell⟩ := HB.out.at_ (by omega)
      have hc1 := (hk.cell (p := ⟨bb, off + j, none⟩) hb (by simp)).trans (hcell j hjn)
      have hc2 := hR.val hjm
      have hz := hR.frozen j
      have hjn' : (j : Int) < (nb : Int) := by omega
      have hjm' : (j : Int) < (m : Int) := by omega
      have hq := HB.out.lt j hjn
      have hp : addMid p q na j j < 65536 := by
        have hpa := HA.out.lt j
        unfold addMid
        simp only [Nat.lt_irrefl, if_false]
        split
        · exact hpa ‹_›
        · omega
      have HN := Lib.hid (hR.storeU j ((addMid p q na j j ^^^ q j) % 1024) (f' := addMid p q na (j + 1)) (fun i _ => addMid_next p q na j i))
      clear hcell
      go_wp2_with fail
      refine (fadd_any _ _ _ hp hq).mono ?_
      rintro e w2 ⟨rfl, rfl⟩
      go_wp2_with fail
      go_roundw
      case rel => exact ⟨j + 1, by omega, by go_num, HN.out, hk.setCell (p := ⟨w.heap.size, j, none⟩) (.inr (Nat.le_refl _)) _⟩
      case measure => simp [intOf]; omega
    · obtain rfl : j = nb := by omega
      have hjn' : ¬ (j : Int) < (j : Int) := by omega
      have hp16 : ∀ i, i < m → addMid p q na j i < 65536 := fun i _ => by
        have hpa := HA.out.lt i
        unfold addMid
        split
        · omega
        · split
          · exact hpa ‹_›
          · omega
      have HR := Lib.hid (hR.argU (by omega) hp16)
      clear hp16
      go_wp2_with fail
      refine (trim_any _ _ _ _ _ HR.out (by omega) (Nat.le_refl _)).mono ?_
      rintro e w2 ⟨a', m', rfl, hres, hpol, hle, k2⟩
      rw [HC.out] at hres hpol
      go_wp2_with fail
      go_ret
      exact ⟨a', m', rfl, hres.more hs, hpol, by have := HM.out; omega, hk.trans k2 (fun _ hi => .inl hi)⟩
end Go.Proofs.YtdlmjjlejkkniaaGreat

namespace Go.Proofs.YtdlmjjlejkkniaaGreat
open Go.RowKit

def slopeMid (p : Nat → Nat) (j : Nat) : Nat → Nat := fun i => if i < j ∧ i % 2 = 0 then p (i + 1) else 0
theorem slopeMid_even (p : Nat → Nat) {j : Nat} (h : j % 2 = 0) (i : Nat) : slopeMid p (j + 1) i = if i = j then p (j + 1) else slopeMid p j i := by
  unfold slopeMid
  by_cases e : i = j
  · subst e; simp [h]
  · by_cases e2 : i < j
    · simp [e, e2, show i < j + 1 by omega]
    · simp [e, e2, show ¬ i < j + 1 by omega]
theorem slopeMid_odd (p : Nat → Nat) {j : Nat} (h : ¬ j % 2 = 0) : slopeMid p (j + 1) = slopeMid p j := by
  funext i
  unfold slopeMid
  by_cases e : i = j
  · subst e; simp [h]
  · by_cases e2 : i < j
    · simp [e2, show i < j + 1 by omega]
    · simp [e2, show ¬ i < j + 1 by omega]
theorem slope_cut (p : Nat → Nat) (n : Nat) : cut (slopeMid p (n - 1)) (n - 1) = pslope (cut p n) := by
  funext i
  unfold cut slopeMid pslope
  by_cases h : i < n - 1
  · by_cases h2 : i % 2 = 0
    · simp [h, h2, show i + 1 < n by omega]
    · simp [h, h2]
  · simp [h, show ¬ i + 1 < n by omega]

set_option maxHeartbeats 2000000 in
set_option maxRecDepth 100000 in
theorem slope_any (a : Option Addr) (n c : Nat) (p : Nat → Nat) (w : World) (ha : ArgU w a n p) (hn : n ≤ 1000000) :
    Calls Tryz.prog 123 #[.slice a n c] w fun e w' => ∃ a' m, e = .returned (.slice a' m m) ∧ ResU w' w.heap.size a' m (pslope (cut p n)) ∧ IsPol (pslope (cut p n)) m ∧ m ≤ n - 1 ∧ Keep (fun _ => False) w w' := by
  have HA := Lib.hid ha
  have HC := Lib.hid (slope_cut p n)
  clear ha
  by_cases h0 : n = 0
  · subst h0
    go_enter Tryz.func123, Tryz.ntmps123
    go_wp2
    go_ret
    exact ⟨none, 0, rfl, .inl ⟨rfl, rfl⟩, ⟨fun i => by unfold pslope; split <;> first | exact cut_lt _ _ _ | omega, fun i _ => by simp [pslope, cut], fun h => by omega⟩, by omega, Keep.refl _ _⟩
  · obtain ⟨m, rfl⟩ : ∃ m, n = m + 1 := ⟨n - 1, by omega⟩
    have hmk := make_u m m rfl (by omega)
    have h1 : ¬ (((m + 1 : Nat) : Int)) = 0 := by omega
    go_enter Tryz.func123, Tryz.ntmps123
    go_wp2_with fail
    clear hmk
    go_loopw [14] (fun v wr => ∃ j : Nat, j ≤ m ∧ v = .int .i64 j ∧ Blk wr w.heap.size 25 (uArr (slopeMid p j) m) ∧ Keep (fun _ => False) w wr) (fun v _ => m - (intOf v).toNat)
    case atStart =>
      refine ⟨0, by omega, rfl, ?_, (Keep.refl _ _).alloc _⟩
      have := Blk.new w 25 (uArr (fun _ => 0) m)
      rwa [uArr_congr (g := slopeMid p 0) (fun i hi => by simp [slopeMid])] at this
    case round =>
      obtain ⟨j, hj, rfl, hR, hk⟩ := hrel
      have hs := hk.size
      by_cases hjm : j < m
      · have hjm' : (j : Int) < (m : Int) := by omega
        by_cases h2 : j % 2 = 0
        · obtain ⟨bb, off, rfl, hb, hcell⟩ := HA.out.at_ (by omega)
          have hc1 := (hk.cell (p := ⟨bb, off + (j + 1), none⟩) hb (by simp)).trans (hcell (j + 1) (by omega))
          have hc2 := hR.val hjm
          have hz := hR.frozen j
          have h3 : (j : Int) % 2 = 0 := by omega
          have h4 : (j : Int) + 1 < ((m + 1 : Nat) : Int) := by omega
          have h5 : (((j : Int) + 1)).toNat = j + 1 := by omega
          have HN := Lib.hid (hR.storeU j (p (j + 1)) (f' := slopeMid p (j + 1)) (fun i _ => slopeMid_even p h2 i))
          clear hcell
          go_wp2_with fail
          go_roundw
          case rel => exact ⟨j + 1, by omega, by go_num, HN.out, hk.setCell (p := ⟨w.heap.size, j, none⟩) (.inr (Nat.le_refl _)) _⟩
          case measure => simp [intOf]; omega
        · have h3 : ¬ (j : Int) % 2 = 0 := by omega
          have HN := Lib.hid (slopeMid_odd p h2)
          go_wp2_with fail
          go_roundw
          case rel => exact ⟨j + 1, by omega, by go_num, by rw [HN.out]; exact hR, hk⟩
          case measure => simp [intOf]; omega
      · obtain rfl : j = m := by omega
        have hp16 : ∀ i, i < j → slopeMid p j i < 65536 := fun i hi => by
          have hpa := HA.out.lt (i + 1) (by omega)
          unfold slopeMid
          split
          · exact hpa
          · omega
        have HR := Lib.hid (hR.argU (by omega) hp16)
        clear hp16
        go_wp2_with fail
        refine (trim_any _ _ _ _ _ HR.out (by omega) (Nat.le_refl _)).mono ?_
        rintro e w2 ⟨a', m', rfl, hres, hpol, hle, k2⟩
        have hc := HC.out
        rw [Nat.add_sub_cancel] at hc
        rw [hc] at hres hpol
        clear hc
        go_wp2_with fail
        go_ret
        exact ⟨a', m', rfl, hres.more hs, hpol, by omega, hk.trans k2 (fun _ hi => .inl hi)⟩
end Go.Proofs.YtdlmjjlejkkniaaGreat

namespace Go.Proofs.YtdlmjjlejkkniaaGreat
open Go.RowKit
attribute [local go_sem ↓] Go.wp_at_zero Go.wp_at_succ

theorem tmul_lt (V : Value) (a b : Nat) (w : World) (hT : HasT w V) (ha : a < 1024) (hb : b < 1024) :
    Calls Tryz.prog 121 #[V, .int .u16 a, .int .u16 b] w fun e w' => e = .returned (.int .u16 (gm a b : Nat)) ∧ Keep (fun _ => False) w w' := by
  have := tmul_any V a b w hT
  rwa [Nat.mod_eq_of_lt ha, Nat.mod_eq_of_lt hb] at this
theorem fadd_lt (a b : Nat) (w : World) (ha : a < 1024) (hb : b < 1024) :
    Calls Tryz.prog 124 #[.int .u16 a, .int .u16 b] w fun e w' => e = .returned (.int .u16 (a ^^^ b : Nat)) ∧ w = w' := by
  have := fadd_any a b w (by omega) (by omega)
  rwa [Nat.mod_eq_of_lt (xor_lt ha hb)] at this

theorem fadd_kept (a b : Nat) (w : World) (ha : a < 1024) (hb : b < 1024) :
    Calls Tryz.prog 124 #[.int .u16 a, .int .u16 b] w fun e w' => e = .returned (.int .u16 (a ^^^ b : Nat)) ∧ Keep (fun _ => False) w w' :=
  (fadd_lt a b w ha hb).mono fun _ _ ⟨he, hw⟩ => ⟨he, by subst hw; exact Keep.refl _ _⟩

theorem pol_none : IsPol (fun _ => 0) 0 := ⟨fun _ => by omega, fun _ _ => rfl, fun h => by omega⟩
/-- The product of what two rows say; none, if it is too long. -/
def pmulM (f : Nat → Nat) (la : Nat) (g : Nat → Nat) (lb : Nat) : Nat → Nat := if la = 0 ∨ lb = 0 ∨ 4097 < la + lb then fun _ => 0 else pmul f g
def mulMid (f g : Nat → Nat) (i j : Nat) : Nat → Nat := fun k => pacc f g i k ^^^ (if i ≤ k ∧ k < i + j then gm (f i) (g (k - i)) else 0)
theorem mulMid_lt {f g : Nat → Nat} (hf : ∀ i, f i < 1024) (i j k : Nat) : mulMid f g i j k < 1024 := by
  refine xor_lt (pacc_lt hf i k) ?_
  split
  · exact gm_lt (hf i) _
  · omega
theorem mulMid_start (f g : Nat → Nat) (i : Nat) : mulMid f g i 0 = fun k => pacc f g i k := by
  funext k
  unfold mulMid
  rw [if_neg (by omega), Nat.xor_zero]
theorem mulMid_next (f g : Nat → Nat) (i j k : Nat) : mulMid f g i (j + 1) k = if k = i + j then mulMid f g i j (i + j) ^^^ gm (f i) (g j) else mulMid f g i j k := by
  unfold mulMid
  by_cases e : k = i + j
  · subst e
    rw [if_pos ⟨by omega, by omega⟩, if_pos rfl, if_neg (by omega), Nat.xor_zero, Nat.add_sub_cancel_left]
  · rw [if_neg e]
    by_cases h : i ≤ k ∧ k < i + j
    · rw [if_pos h, if_pos ⟨h.1, by omega⟩]
    · rw [if_neg h, if_neg (by omega)]
theorem mulMid_row {f g : Nat → Nat} {lb : Nat} (hg : ∀ i, lb ≤ i → g i = 0) (i : Nat) : mulMid f g i lb = fun k => pacc f g (i + 1) k := by
  funext k
  unfold mulMid pacc
  rw [xs]
  congr 1
  by_cases h : i ≤ k
  · rw [if_pos h]
    by_cases h2 : k < i + lb
    · rw [if_pos ⟨h, h2⟩]
    · rw [if_neg (by omega), hg (k - i) (by omega), gm_zero_right]
  · rw [if_neg h, if_neg (by omega)]

set_option maxHeartbeats 4000000 in
set_option maxRecDepth 100000 in
theorem mul_any (V : Value) (a b : Option Addr) (na nb ca cb : Nat) (p q : Nat → Nat) (la lb : Nat) (hla : IsPol (cut p na) la) (hlb : IsPol (cut q nb) lb) (w : World) (hT : HasT w V) (ha : ArgU w a na p) (hb : ArgU w b nb q)
    (hna : na ≤ 1000000) (hnb : nb ≤ 1000000) (hca : na ≤ ca) (hcb : nb ≤ cb) :
    Calls Tryz.prog 122 #[V, .slice a na ca, .slice b nb cb] w fun e w' => ∃ a' m, e = .returned (.slice a' m m) ∧ ResU w' w.heap.size a' m (pmulM (cut p na) la (cut q nb) lb) ∧
      IsPol (pmulM (cut p na) la (cut q nb) lb) m ∧ m ≤ 4096 ∧ Keep (fun _ => False) w w' := by
  have k0 := Keep.refl (fun _ => False) w
  obtain ⟨a1, n1, c1, a2, n2, c2, rfl⟩ := hT.form
  have b0 := Blk.new w 49 #[.slice a1 n1 c1, .slice a2 n2 c2]
  have k1 := k0.alloc (.cells #[.slice a1 n1 c1, .slice a2 n2 c2] 49)
  have HT := Lib.hid (hT.keep k1)
  have HA := Lib.hid (ha.keep k1)
  have HB := Lib.hid (hb.keep k1)
  have hla0 := Lib.hid hla
  have hlb0 := Lib.hid hlb
  clear hT ha hb k0 hla hlb
  go_enter Tryz.func122, Tryz.ntmps122
  go_wp2_with fail
  refine (trim_any _ _ _ _ _ HA.out hna hca).mono ?_
  rintro e w1 ⟨aA, la', rfl, rA, pA, lA, k2⟩
  obtain rfl := hla0.out.uniq pA
  have T1 := Lib.hid (HT.out.keep k2)
  have B1 := Lib.hid (HB.out.keep k2)
  have b1 := b0.keep k2 (by simp)
  have kk1 := k1.trans k2 (fun _ hi => .inl hi)
  clear HT HB HA b0 k1 k2
  go_wp2_with fail
  refine (trim_any _ _ _ _ _ B1.out hnb hcb).mono ?_
  rintro e w2 ⟨aB, lb', rfl, rB, pB, lB, k2⟩
  obtain rfl := hlb0.out.uniq pB
  have T2 := Lib.hid (T1.out.keep k2)
  have HA := Lib.hid ((rA.keep k2).arg (by omega) pA.lt16)
  have HB := Lib.hid (rB.arg (by omega) pB.lt16)
  have b2 := b1.keep k2 (by simp)
  have kk2 := kk1.trans k2 (fun _ hi => .inl hi)
  have hfl := Lib.hid pA.lt
  have hgl := Lib.hid pB.lt
  have hfz := Lib.hid pA.zero
  have hgz := Lib.hid pB.zero
  clear T1 B1 b1 kk1 k2 rA rB pA pB hla0 hlb0
  by_cases c0 : la = 0
  · have HM := Lib.hid (show pmulM (cut p na) la (cut q nb) lb = fun _ => 0 by simp [pmulM, c0])
    subst c0
    go_wp2_with fail
    go_ret
    rw [HM.out]
    exact ⟨none, 0, rfl, .inl ⟨rfl, rfl⟩, pol_none, by omega, kk2⟩
  · by_cases c1 : lb = 0
    · have HM := Lib.hid (show pmulM (cut p na) la (cut q nb) lb = fun _ => 0 by simp [pmulM, c1])
      subst c1
      have d0 : ((la : Int) == 0) = false := beq_eq_false_iff_ne.2 (by omega)
      go_wp2_with fail
      go_ret
      rw [HM.out]
      exact ⟨none, 0, rfl, .inl ⟨rfl, rfl⟩, pol_none, by omega, kk2⟩
    · by_cases c2 : 4097 < la + lb
      · have HM := Lib.hid (show pmulM (cut p na) la (cut q nb) lb = fun _ => 0 by simp [pmulM, c2])
        have d0 : ((la : Int) == 0) = false := beq_eq_false_iff_ne.2 (by omega)
        have d1 : ((lb : Int) == 0) = false := beq_eq_false_iff_ne.2 (by omega)
        have d4 : decide ((4096 : Int) < (la : Int) + (lb : Int) - 1) = true := by simp; omega
        clear c0 c1 c2
        go_wp2_with fail
        go_ret
        rw [HM.out]
        exact ⟨none, 0, rfl, .inl ⟨rfl, rfl⟩, pol_none, by omega, kk2⟩
      · have HM := Lib.hid (show pmulM (cut p na) la (cut q nb) lb = pmul (cut p na) (cut q nb) by simp [pmulM, c0, c1, c2])
        obtain ⟨m, hm⟩ : ∃ m, la + lb = m + 1 := ⟨la + lb - 1, by omega⟩
        have d0 : ((la : Int) == 0) = false := beq_eq_false_iff_ne.2 (by omega)
        have d1 : ((lb : Int) == 0) = false := beq_eq_false_iff_ne.2 (by omega)
        have d2 : (la : Int) + (lb : Int) - 1 = (m : Int) := by omega
        have d4 : decide ((4096 : Int) < (m : Int)) = false := by simp; omega
        have hmk := make_u m m rfl (by omega)
        have hm2 : m ≤ 4096 := by omega
        generalize hf : cut p na = f at *
        generalize hg : cut q nb = g at *
        clear c0 c1 c2
        have bo := Blk.new w2 25 (uArr (fun _ => 0) m)
        have k3 := (Keep.refl (fun _ => False) w2).alloc (.cells (uArr (fun _ => 0) m) 25)
        go_wp2_with fail
        clear d0 d1 d4 hmk
        go_loopw [42] (fun v wr => ∃ i : Nat, i ≤ la ∧ v = .int .i64 i ∧ Blk wr w2.heap.size 25 (uArr (fun k => pacc f g i k) m) ∧ Keep (fun _ => False) w2 wr) (fun v _ => la - (intOf v).toNat)
        case atStart =>
          refine ⟨0, by omega, rfl, ?_, k3⟩
          rwa [uArr_congr (g := fun k => pacc f g 0 k) (fun i hi => by simp [pacc, xs])] at bo
        case round =>
          clear bo k3
          obtain ⟨i, hi, rfl, hR, hk⟩ := hrel
          by_cases hil : i < la
          · have hil' : (i : Int) < (la : Int) := by omega
            obtain ⟨bA, oA, rfl, hbA, hcA⟩ := HA.out.at_ (by omega)
            have hxi := (hk.cell (p := ⟨bA, oA + i, none⟩) hbA (by simp)).trans (hcA i hil)
            clear hcA
            go_wp2_with fail
            clear hxi
            obtain ⟨wo, hwo⟩ : ∃ wo : World, wo = wr := ⟨_, rfl⟩
            go_loopw [49] (fun v wr => ∃ j : Nat, j ≤ lb ∧ v = .int .i64 j ∧ Blk wr w2.heap.size 25 (uArr (mulMid f g i j) m) ∧ Keep (fun _ => False) w2 wr) (fun v _ => lb - (intOf v).toNat)
            case atStart =>
              refine ⟨0, by omega, rfl, ?_, hk⟩
              rw [mulMid_start]
              exact hR
            case round =>
              clear hR hk hwo
              obtain ⟨j, hj, rfl, hR, hk⟩ := hrel
              have hs := hk.size
              by_cases hjl : j < lb
              · have hjl' : (j : Int) < (lb : Int) := by omega
                obtain ⟨bB, oB, rfl, hbB, hcB⟩ := HB.out.at_ (by omega)
                have hyj := (hk.cell (p := ⟨bB, oB + j, none⟩) hbB (by simp)).trans (hcB j hjl)
                have hijm : i + j < m := by omega
                have hout := hR.val hijm
                have hz := hR.frozen (i + j)
                have hfi := hfl.out i
                have hgj := hgl.out j
                have hml := mulMid_lt (g := g) hfl.out i j (i + j)
                have b3 := b2.keep hk (by simp)
                have q0 : ∀ p : KeptBy wr, p.v.cell? ⟨w.heap.size, 0, none⟩ = some (.slice a1 n1 c1) := fun p => p.cell b3.lt (by rw [b3.cell]; rfl)
                have q1 : ∀ p : KeptBy wr, p.v.cell? ⟨w.heap.size, 1, none⟩ = some (.slice a2 n2 c2) := fun p => p.cell b3.lt (by rw [b3.cell]; rfl)
                have q2 : ∀ p : KeptBy wr, p.v.cell? ⟨w2.heap.size, i + j, none⟩ = some (.int .u16 (mulMid f g i j (i + j) : Nat)) := fun p => p.cell hR.lt hout
                have e1 : (i : Int) + (j : Int) < (m : Int) := by omega
                have e2 : (0 : Int) ≤ (i : Int) + (j : Int) := by omega
                have e3 : ((i : Int) + (j : Int)).toNat = i + j := by omega
                have T3 := Lib.hid (T2.out.keep hk)
                clear hcB
                go_upto_region 11 with fail
                have e0 : IntKind.i64.wrap ((i : Int) + (j : Int)) = (i : Int) + (j : Int) := wraps_i64 _ (by omega) (by omega)
                refine wp_region_kept_tail 16 (by kernel_rfl) (by kernel_rfl) ?_
                simp only [List.take_succ_cons, List.take_zero, List.drop_succ_cons, List.drop_zero]
                repeat (quiet_step (first
                  | (go_at_call 121; exact kept_of (tmul_lt _ _ _ _ (T3.out.keep (KeptBy.h _)) hfi hgj))
                  | (go_at_call 124; exact kept_of (fadd_kept _ _ _ hml (gm_lt hfi _)))))
                refine wpQuiet_nil ?_
                rintro _ ⟨⟨w5, k5⟩, rfl⟩
                clear q0 q1 q2 e0
                have hR5 := hR.keep k5 (by simp)
                have c5 := hR5.val hijm
                have z5 := hR5.frozen (i + j)
                have k6 := hk.trans k5 (fun _ hi => .inl hi)
                have HN := Lib.hid (hR5.storeU (i + j) (mulMid f g i j (i + j) ^^^ gm (f i) (g j)) (f' := mulMid f g i (j + 1)) (fun k _ => mulMid_next f g i j k))
                go_wp2_with fail
                exact ⟨⟨j + 1, by omega, by go_num, HN.out, k6.setCell (p := ⟨w2.heap.size, i + j, none⟩) (.inr (Nat.le_refl _)) _⟩, by simp [intOf]; omega⟩
              · obtain rfl : j = lb := by omega
                have hR2 := hR
                rw [mulMid_row hgz.out] at hR2
                have HR := Lib.hid hR2
                clear hR hR2
                go_wp2_with fail
                exact ⟨⟨i + 1, by omega, by go_num, HR.out, hk⟩, by simp [intOf]; omega⟩
          · obtain rfl : i = la := by omega
            have HR := Lib.hid (hR.argU (by omega) (fun k _ => by have := pacc_lt (g := g) hfl.out i k; omega))
            have hs := hk.size
            have HC := Lib.hid (show cut (fun k => pacc f g i k) m = pmul f g by
              have e : (fun k => pacc f g i k) = pmul f g := funext fun k => pacc_full hfz.out k
              rw [e]
              exact cut_of_lt (fun k => pmul_lt hfl.out k) (fun k hk => pmul_zero hfz.out hgz.out (by omega)))
            have hs2 := kk2.size
            go_wp2_with fail
            refine (trim_any _ _ _ _ _ HR.out (by omega) (Nat.le_refl _)).mono ?_
            rintro e w4 ⟨a', m', rfl, hres, hpol, hle, k4⟩
            rw [HC.out] at hres hpol
            go_wp2_with fail
            go_ret
            subst hf hg
            rw [HM.out]
            exact ⟨a', m', rfl, hres.more (by omega), hpol, by omega, (kk2.trans hk (fun _ hi => .inl hi)).trans k4 (fun _ hi => .inl hi)⟩
end Go.Proofs.YtdlmjjlejkkniaaGreat
