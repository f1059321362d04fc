/- Contracts of the reference's map (blackboardref15.Map). -/
import Derived.Test.YtipfpcfepfkehaaDoorLm4
import Derived.OwnWalk
import Derived.Deep.AppendLies
namespace Go.Proofs.YtipfpcfepfkehaaDoor
open Go.RowKit

structure IsRef (w : World) (kb g : Nat) (a : Option Addr) (cap L P : Nat) (A : Nat → Option Nat) : Prop where
  hL : L ≤ 1000
  ha : 0 < L → a = some ⟨g, 0, none⟩
  hk : Blk w kb 41 #[.slice a L cap, .int .i64 P]
  hr : 0 < L → ∃ cur, Blk w g 3 cur ∧ ∀ i, i < L → cur[i]? = some (.int .i64 (optI (A i)))

set_option maxHeartbeats 1000000 in
theorem newref (L P : Nat) (hL : L ≤ 1000) (w : World) :
    Calls Tryd.prog 8 #[.int .i64 L, .int .i64 P] w fun e w' => ∃ g a cap, e = .returned (.pointer (some ⟨w.heap.size, 0, none⟩)) ∧ IsRef w' w.heap.size g a cap L P (fun _ => none) ∧ (0 < L → w.heap.size < g) ∧ Keep (fun _ => False) w w' := by
  obtain ⟨i0, hi, hz0, hz1, hz2⟩ := info_parts Tryd.info_int
  go_enter Tryd.func8, Tryd.ntmps8
  go_wp2_with fail
  go_loopw [6] (fun i wr => ∃ (j : Nat) (a : Option Addr) (cap : Nat), j ≤ L ∧ i = .int .i64 j ∧ Blk wr w.heap.size 41 #[.slice a j cap, .int .i64 P] ∧ wr.ownsRow (w.heap.size + 1) 3 1 (.slice a j cap) j (List.replicate j (.int .i64 (-1))) ∧ Keep (fun _ => False) w wr) (fun i _ => L - (intOf i).toNat)
  case atStart =>
    exact ⟨0, none, 0, Nat.zero_le _, rfl, Blk.new w _ _, World.ownsRow_nil _ _ _ _, (Keep.refl _ _).alloc _⟩
  case round =>
    obtain ⟨j, a, cap, hj, rfl, hb, hown, hk⟩ := hrel
    have zb := hb.lt
    by_cases hjl : j < L
    · have c0 : wr.cell? ⟨w.heap.size, 0, none⟩ = some (.slice a j cap) := by rw [hb.cell]; rfl
      have hjl' : (j : Int) < (L : Int) := by omega
      go_wp2_with (first
        | (at_builtin; refine wpList_append_own _ rfl _ _ 39 rfl (w.heap.size + 1) 3 i0 (.int .i64 0) 1 8 Tryd.underlying39 hi hz0 hz1 hz2 rfl (by decide) _ _ _ rfl (hown.alloc _) ⟨wr.heap.size, 0, none⟩ 1 1 [.int .i64 (-1)] rfl rfl ?c1 ?c2 ?c3 ?c4 ?c5 ?_))
      case c1 =>
        intro j u hj
        match j, hj with
        | 0, hj => simp at hj; subst hj; simp [Addr.add]
      case c2 => intro u hu; simp at hu; subst hu; rfl
      case c3 => unfold maxLen; omega
      case c4 => omega
      case c5 => simp; omega
      · intro v' w1 hown' hgrow _
        obtain ⟨g, cap', hv, hg1, hg2⟩ := hown'.form (by omega)
        subst hv
        have hbg : (Value.slice a j cap).ownBlock ≠ some w.heap.size := by
          intro e
          have := hown.lt _ e
          omega
        have hb1 : Blk w1 w.heap.size 41 #[.slice a j cap, .int .i64 P] := by
          have h1 := (hb.alloc (.cells #[.int .i64 (-1)] 3))
          exact (hgrow.block w.heap.size h1.lt (fun e => hbg e.symm)).trans h1
        have fz := hb1.frozen 0
        have cz : w1.cell? ⟨w.heap.size, 0, none⟩ = some (.slice a j cap) := by rw [hb1.cell]; rfl
        have hk1 : Keep (fun _ => False) w w1 := (hk.alloc _).grown hgrow (fun k e => .inr (by have := hown.lt _ e; omega))
        have hrow := ownsRow_setCell_below hown' (a := ⟨w.heap.size, 0, none⟩) (by simp) (.slice (some ⟨g, 0, none⟩) (j + 1) cap')
        clear hown' hgrow hown hb hk c0
        go_wp2_with fail
        go_roundw
        case rel =>
          refine ⟨j + 1, some ⟨g, 0, none⟩, cap', by omega, by go_num, ?_, ?_, hk1.setCell (p := ⟨w.heap.size, 0, none⟩) (.inr (Nat.le_refl _)) _⟩
          · exact hb1.put 0 (.slice (some ⟨g, 0, none⟩) (j + 1) cap')
          · rw [List.replicate_succ']
            exact hrow
        case measure => simp [intOf]; omega
    · have hje : j = L := by omega
      subst hje
      go_wp2_with fail
      go_ret
      by_cases h0 : 0 < j
      · obtain ⟨g, cap', hv, hg1, hg2⟩ := hown.form h0
        injection hv with e1 e2 e3
        subst e1
        refine ⟨g, _, cap, rfl, ⟨hL, fun _ => rfl, hb, fun _ => ?_⟩, fun _ => by omega, hk⟩
        rcases hown.2 with ⟨_, hn⟩ | ⟨g', cap2, cur, hv2, _, hcur, hl1, hl2, hsz, htk⟩
        · omega
        · injection hv2 with e4 e5 e6
          have e7 : g' = g := by injection e4 with e4; injection e4 with e4; exact e4.symm
          subst e7
          refine ⟨cur, hcur, fun i hi => ?_⟩
          have : (cur.toList.take (j * 1))[i]? = some (.int .i64 (-1)) := by rw [htk]; simp [hi]
          rw [List.getElem?_take] at this
          simp [hi] at this
          simpa [optI] using this
      · exact ⟨0, a, cap, rfl, ⟨hL, fun h => absurd h h0, hb, fun h => absurd h h0⟩, fun h => absurd h h0, hk⟩

theorem IsRef.keep {S : Nat → Prop} {w w' : World} {kb g : Nat} {a : Option Addr} {cap L P : Nat} {A : Nat → Option Nat} (h : IsRef w kb g a cap L P A) (hk : Keep S w w') (h1 : ¬ S kb) (h2 : 0 < L → ¬ S g) : IsRef w' kb g a cap L P A :=
  ⟨h.hL, h.ha, h.hk.keep hk h1, fun h0 => by
    obtain ⟨cur, hc, hi⟩ := h.hr h0
    exact ⟨cur, hc.keep hk (h2 h0), hi⟩⟩
theorem IsRef.drewN {w : World} {kb g : Nat} {a : Option Addr} {cap L P : Nat} {A : Nat → Option Nat} (h : IsRef w kb g a cap L P A) (k : Nat) : IsRef (w.drewN k) kb g a cap L P A := h.keep (S := fun _ => False) ((Keep.refl _ w).drewN k) (by simp) (by simp)
theorem IsRef.c0 {w : World} {kb g : Nat} {a : Option Addr} {cap L P : Nat} {A : Nat → Option Nat} (h : IsRef w kb g a cap L P A) : w.cell? ⟨kb, 0, none⟩ = some (.slice a L cap) := by rw [h.hk.cell]; rfl
theorem IsRef.c1 {w : World} {kb g : Nat} {a : Option Addr} {cap L P : Nat} {A : Nat → Option Nat} (h : IsRef w kb g a cap L P A) : w.cell? ⟨kb, 1, none⟩ = some (.int .i64 P) := by rw [h.hk.cell]; rfl
theorem IsRef.at_ {w : World} {kb g : Nat} {a : Option Addr} {cap L P : Nat} {A : Nat → Option Nat} (h : IsRef w kb g a cap L P A) {i : Nat} (hi : i < L) : w.cell? ⟨g, i, none⟩ = some (.int .i64 (optI (A i))) ∧ w.frozen? ⟨g, i, none⟩ = false := by
  obtain ⟨cur, hc, hx⟩ := h.hr (by omega)
  exact ⟨by rw [hc.cell]; exact hx i hi, hc.frozen i⟩
theorem IsRef.store {w : World} {kb g : Nat} {a : Option Addr} {cap L P : Nat} {A : Nat → Option Nat} (h : IsRef w kb g a cap L P A) {l : Nat} (hl : l < L) (v : Option Nat) : IsRef (w.setCell ⟨g, l, none⟩ (.int .i64 (optI v))) kb g a cap L P (updO A l v) := by
  obtain ⟨cur, hc, hx⟩ := h.hr (by omega)
  refine ⟨h.hL, h.ha, h.hk.far (p := ⟨g, l, none⟩) (h.hk.ne hc (by decide)) _, fun _ => ⟨_, hc.put l _, fun i hi => ?_⟩⟩
  rw [Array.getElem?_setIfInBounds]
  have hsz : l < cur.size := by
    have := hx l hl
    exact (Array.getElem?_eq_some_iff.1 this).1
  by_cases e : l = i
  · subst e
    rw [if_pos rfl, if_pos hsz, updO_same]
  · rw [if_neg e, hx i hi, updO_ne _ _ (fun h => e h.symm)]

theorem refowner_yes (kb g : Nat) (a : Option Addr) (cap L P : Nat) (A : Nat → Option Nat) (p l : Nat) (w : World) (h : IsRef w kb g a cap L P A) (hl : l < L) (hA : Hid (∀ k, k < L → (A k = some p ↔ k = l))) :
    Calls Tryd.prog 13 #[.pointer (some ⟨kb, 0, none⟩), .int .i64 p] w fun e w' => e = .returned (.tuple #[.int .i64 l, .bool true]) ∧ w = w' := by
  have hLL := h.hL
  obtain rfl := h.ha (by omega)
  have c0 := h.c0
  go_enter Tryd.func13, Tryd.ntmps13
  go_wp2_with fail
  go_loop [6] (fun i => ∃ j : Nat, j ≤ l ∧ i = .int .i64 j) (fun i => L - (intOf i).toNat)
  case atStart => exact ⟨0, Nat.zero_le _, rfl⟩
  case round =>
    obtain ⟨j, hj, rfl⟩ := hrel
    have hjL : (j : Int) < (L : Int) := by omega
    have cj := (h.at_ (i := j) (by omega)).1
    by_cases hjl : j = l
    · subst hjl
      rw [(hA.out j hl).2 rfl] at cj
      change _ = some (Value.int .i64 (p : Int)) at cj
      go_wp2_with fail
      go_ret2
      exact ⟨rfl, rfl⟩
    · have hne : (optI (A j) == (p : Int)) = false := by
        rcases hAj : A j with _ | q
        · simp [optI]
        · have : q ≠ p := fun e => hjl ((hA.out j (by omega)).1 (by rw [hAj, e]))
          simp [optI]
          omega
      go_wp2_with fail
      go_round
      case rel => exact ⟨j + 1, by omega, by go_num⟩
      case measure => simp [intOf]; omega

theorem refowner_no (kb g : Nat) (a : Option Addr) (cap L P : Nat) (A : Nat → Option Nat) (p : Int) (w : World) (h : IsRef w kb g a cap L P A) (hA : p < 0 ∨ Hid (0 ≤ p ∧ ∀ k, k < L → A k ≠ some p.toNat)) :
    Calls Tryd.prog 13 #[.pointer (some ⟨kb, 0, none⟩), .int .i64 p] w fun e w' => e = .returned (.tuple #[.int .i64 0, .bool false]) ∧ w = w' := by
  have hLL := h.hL
  have c0 := h.c0
  go_enter Tryd.func13, Tryd.ntmps13
  go_wp2_with fail
  go_loop [6] (fun i => ∃ j : Nat, j ≤ L ∧ i = .int .i64 j) (fun i => L - (intOf i).toNat)
  case atStart => exact ⟨0, Nat.zero_le _, rfl⟩
  case round =>
    obtain ⟨j, hj, rfl⟩ := hrel
    by_cases hjL : j < L
    · obtain rfl := h.ha (by omega)
      have hjL' : (j : Int) < (L : Int) := by omega
      have cj := (h.at_ (i := j) hjL).1
      rcases hA with hp | hA
      · rcases hb : (optI (A j) == p) with _ | _
        · go_wp2_with fail
          go_round
          case rel => exact ⟨j + 1, by omega, by go_num⟩
          case measure => simp [intOf]; omega
        · go_wp2_with fail
          go_round
          case rel => exact ⟨j + 1, by omega, by go_num⟩
          case measure => simp [intOf]; omega
      · have hne : (optI (A j) == p) = false := by
          obtain ⟨h0, h1⟩ := hA.out
          rcases hAj : A j with _ | q
          · simp [optI]
            omega
          · have : q ≠ p.toNat := fun e => h1 j hjL (by rw [hAj, e])
            simp [optI]
            omega
        go_wp2_with fail
        go_round
        case rel => exact ⟨j + 1, by omega, by go_num⟩
        case measure => simp [intOf]; omega
    · clear hA
      go_wp2_with fail
      go_ret2
      exact ⟨rfl, rfl⟩
end Go.Proofs.YtipfpcfepfkehaaDoor
