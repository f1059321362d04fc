/- Contracts of package lmap: Owner; awake of blackboardlaw15. -/
import Derived.Test.YtipfpcfepfkehaaDoorLm3
namespace Go.Proofs.YtipfpcfepfkehaaDoor
open Go.RowKit

theorem owner_yes (m : LM) (A O : Nat → Option Nat) (l p : Nat) (w : World) (h : IsMap m A O w) (hA : Hid (O p = some l)) :
    Calls Tryd.prog 12 #[.pointer (some ⟨m.mb, 0, none⟩), .int .i64 p] w fun e w' => e = .returned (.tuple #[.int .i64 l, .bool true]) ∧ w = w' := by
  have hd := h.dom l p ((h.con l p).2 hA.out)
  have c1 := h.raw.c1
  have ca := h.raw.own hd.2
  rw [hA.out] at ca
  change _ = some (Value.int .i64 (l : Int)) at ca
  have hP := h.raw.hP
  obtain ⟨hd1, hd2⟩ := hd
  have hl : (p : Int) < (m.P : Int) := by omega
  have b1 : decide ((p : Int) < 0) = false := by simp
  have b2 : decide (m.P ≤ p) = false := by simpa using hd2
  have b3 : ((l : Int) == -1) = false := by simp
  go_enter Tryd.func12, Tryd.ntmps12
  go_wp2
  go_ret2
  exact ⟨rfl, rfl⟩
theorem owner_no (m : LM) (A O : Nat → Option Nat) (p : Int) (w : World) (h : IsMap m A O w) (hA : p < 0 ∨ (m.P : Int) ≤ p ∨ Hid (O p.toNat = none)) :
    Calls Tryd.prog 12 #[.pointer (some ⟨m.mb, 0, none⟩), .int .i64 p] w fun e w' => e = .returned (.tuple #[.int .i64 0, .bool false]) ∧ w = w' := by
  have c1 := h.raw.c1
  have hP := h.raw.hP
  by_cases h0 : p < 0
  · clear hA
    go_enter Tryd.func12, Tryd.ntmps12
    go_wp2
    go_ret2
    exact ⟨rfl, rfl⟩
  · obtain ⟨k, rfl⟩ := Int.eq_ofNat_of_zero_le (show 0 ≤ p by omega)
    by_cases h1 : m.P ≤ k
    · clear hA
      go_enter Tryd.func12, Tryd.ntmps12
      go_wp2
      go_ret2
      exact ⟨rfl, rfl⟩
    · have hk : k < m.P := by omega
      have hA2 : O k = none := by
        rcases hA with hA | hA | hA
        · omega
        · omega
        · simpa using hA.out
      have ca := h.raw.own hk
      rw [hA2] at ca
      change _ = some (Value.int .i64 (-1)) at ca
      have hd : decide (m.P ≤ k) = false := by simpa using hk
      clear hA hA2
      go_enter Tryd.func12, Tryd.ntmps12
      go_wp2
      go_ret2
      exact ⟨rfl, rfl⟩

/-- The owner of a page, by who lies there. -/
theorem own_none {A O : Nat → Option Nat} (con : ∀ l p, A l = some p ↔ O p = some l) {p : Nat} (h : ∀ l, A l ≠ some p) : O p = none := by
  rcases ho : O p with _ | l
  · rfl
  · exact absurd ((con l p).2 ho) (h l)

/-- A new map lies in new blocks: what only writes there leaves alone what was there. -/
def NewLM (w : World) (m : LM) : Prop := w.heap.size ≤ m.mb ∧ w.heap.size ≤ m.ab ∧ w.heap.size ≤ m.ob ∧ w.heap.size ≤ m.pb ∧ w.heap.size ≤ m.sb
theorem NewLM.trans {w w' w'' : World} {m : LM} (h : NewLM w m) (k : Keep (fun _ => False) w w') (k2 : Keep (mapS m) w' w'') : Keep (fun _ => False) w w'' :=
  k.trans k2 (fun i hi => .inr (by
    obtain ⟨h1, h2, h3, h4, h5⟩ := h
    rcases hi with rfl | rfl | rfl | rfl
    · exact h1
    · exact h2
    · exact h3
    · exact h5))

theorem lawake_true (w : World) :
    Calls Tryd.prog 6 #[] w fun e w' => e = .returned (.bool true) ∧ Keep (fun _ => False) w w' := by
  go_enter Tryd.func6, Tryd.ntmps6
  go_wp2_with fail
  refine (new_map 9 20 (by decide) (by decide) w).mono ?_
  rintro e w1 ⟨m, rfl, h1, k1, hL, hP, hnew⟩
  go_wp2_with fail
  refine (put_free m _ _ 3 7 w1 h1 (by omega) (by omega) (Lib.hid rfl)).mono ?_
  rintro e w2 ⟨rfl, ⟨O2, h2⟩, k2⟩
  have e2 := NewLM.trans hnew k1 k2
  have ho : O2 8 = none := own_none h2.con (fun l => by
    unfold updO
    split <;> simp)
  have HO := Lib.hid ho
  clear ho
  go_wp2_with fail
  refine (put_free m _ _ 3 8 w2 h2 (by omega) (by omega) HO).mono ?_
  rintro e w3 ⟨rfl, ⟨O3, h3⟩, k3⟩
  have e3 := NewLM.trans hnew e2 k3
  have HO3 : Hid (O3 8 = some 3) := Lib.hid ((h3.con 3 8).1 (updO_same _ _ _))
  have hm : (mny (updO (updO (fun _ => none) 3 (some 7)) 3 (some 8)) m.L : Int) = 1 := by rw [hL]; decide
  have ha : optI (updO (fun _ => none) 3 (some 7) 3) = 7 := rfl
  have hb : optI ((fun _ => none : Nat → Option Nat) 3) = -1 := rfl
  rw [ha, hb]
  go_wp2_with fail
  refine (owner_yes m _ _ 3 8 w3 h3 HO3).mono ?_
  rintro e w' ⟨rfl, rfl⟩
  go_wp2_with (first | (go_at_call 17; refine (many_any m _ _ w3 h3).mono ?_; rintro e w' ⟨rfl, rfl⟩))
  go_ret
  exact ⟨rfl, e3⟩
end Go.Proofs.YtipfpcfepfkehaaDoor
