/- Contracts of the reference's map: Put, Drop. -/
import Derived.Test.YtipfpcfepfkehaaDoorLref
namespace Go.Proofs.YtipfpcfepfkehaaDoor
open Go.RowKit

theorem refput_range (kb g : Nat) (a : Option Addr) (cap L P : Nat) (A : Nat → Option Nat) (l p : Int) (w : World) (h : IsRef w kb g a cap L P A) (hr : l < 0 ∨ (L : Int) ≤ l ∨ p < 0 ∨ (P : Int) ≤ p) :
    Calls Tryd.prog 10 #[.pointer (some ⟨kb, 0, none⟩), .int .i64 l, .int .i64 p] w fun e w' => e = .returned (.tuple #[.int .i64 0, .int .i64 2]) ∧ w = w' := by
  have c0 := h.c0
  have c1 := h.c1
  by_cases h1 : l < 0
  · clear hr
    go_enter Tryd.func10, Tryd.ntmps10
    go_wp2
    go_ret2
    exact ⟨rfl, rfl⟩
  obtain ⟨i, rfl⟩ := Int.eq_ofNat_of_zero_le (show 0 ≤ l by omega)
  by_cases h2 : L ≤ i
  · clear hr
    have b1 : decide ((i : Int) < 0) = false := by simp
    have b2 : decide (L ≤ i) = true := by simpa using h2
    go_enter Tryd.func10, Tryd.ntmps10
    go_wp2
    go_ret2
    exact ⟨rfl, rfl⟩
  have b1 : decide ((i : Int) < 0) = false := by simp
  have b2 : decide (L ≤ i) = false := by simpa using h2
  by_cases h3 : p < 0
  · clear hr
    have b3 : decide (p < 0) = true := by simpa using h3
    go_enter Tryd.func10, Tryd.ntmps10
    go_wp2
    go_ret2
    exact ⟨rfl, rfl⟩
  obtain ⟨j, rfl⟩ := Int.eq_ofNat_of_zero_le (show 0 ≤ p by omega)
  have h4 : P ≤ j := by omega
  clear hr
  have b3 : decide ((j : Int) < 0) = false := by simp
  have b4 : decide (P ≤ j) = true := by simpa using h4
  go_enter Tryd.func10, Tryd.ntmps10
  go_wp2
  go_ret2
  exact ⟨rfl, rfl⟩

theorem refput_other (kb g : Nat) (a : Option Addr) (cap L P : Nat) (A : Nat → Option Nat) (l p o : Nat) (w : World) (h : IsRef w kb g a cap L P A) (hl : l < L) (hp : p < P) (ho : o < L) (hol : o ≠ l) (hA : Hid (∀ k, k < L → (A k = some p ↔ k = o))) :
    Calls Tryd.prog 10 #[.pointer (some ⟨kb, 0, none⟩), .int .i64 l, .int .i64 p] w fun e w' => e = .returned (.tuple #[.int .i64 0, .int .i64 1]) ∧ w = w' := by
  have c0 := h.c0
  have c1 := h.c1
  have b1 : decide ((l : Int) < 0) = false := by simp
  have b2 : decide (L ≤ l) = false := by simpa using hl
  have b3 : decide ((p : Int) < 0) = false := by simp
  have b4 : decide (P ≤ p) = false := by simpa using hp
  go_enter Tryd.func10, Tryd.ntmps10
  go_wp2_with fail
  refine (refowner_yes kb g a cap L P A p o w h ho hA).mono ?_
  rintro e w' ⟨rfl, rfl⟩
  go_wp2_with fail
  go_ret2
  exact ⟨rfl, rfl⟩

theorem refput_same (kb g : Nat) (a : Option Addr) (cap L P : Nat) (A : Nat → Option Nat) (l p : Nat) (w : World) (h : IsRef w kb g a cap L P A) (hl : l < L) (hp : p < P) (hA : Hid (∀ k, k < L → (A k = some p ↔ k = l))) :
    Calls Tryd.prog 10 #[.pointer (some ⟨kb, 0, none⟩), .int .i64 l, .int .i64 p] w fun e w' => e = .returned (.tuple #[.int .i64 (-1), .int .i64 0]) ∧ IsRef w' kb g a cap L P (updO A l (some p)) ∧ Keep (· = g) w w' := by
  obtain rfl := h.ha (by omega)
  have c0 := h.c0
  have c1 := h.c1
  have hLL := h.hL
  have b1 : decide ((l : Int) < 0) = false := by simp
  have b2 : decide (L ≤ l) = false := by simpa using hl
  have b3 : decide ((p : Int) < 0) = false := by simp
  have b4 : decide (P ≤ p) = false := by simpa using hp
  have hl' : (l : Int) < (L : Int) := by omega
  obtain ⟨cl, fl⟩ := h.at_ hl
  rw [(hA.out l hl).2 rfl] at cl
  change _ = some (Value.int .i64 (p : Int)) at cl
  have R := h.store hl (some p)
  go_enter Tryd.func10, Tryd.ntmps10
  go_wp2_with fail
  refine (refowner_yes kb g _ cap L P A p l w h hl hA).mono ?_
  rintro e w' ⟨rfl, rfl⟩
  go_wp2_with fail
  go_ret2
  exact ⟨rfl, R, (Keep.refl (· = g) w).setCell (p := ⟨g, l, none⟩) (.inl rfl) _⟩

theorem refput_free (kb g : Nat) (a : Option Addr) (cap L P : Nat) (A : Nat → Option Nat) (l p : Nat) (w : World) (h : IsRef w kb g a cap L P A) (hl : l < L) (hp : p < P) (hA : Hid (∀ k, k < L → A k ≠ some p)) :
    Calls Tryd.prog 10 #[.pointer (some ⟨kb, 0, none⟩), .int .i64 l, .int .i64 p] w fun e w' => e = .returned (.tuple #[.int .i64 (optI (A l)), .int .i64 0]) ∧ IsRef w' kb g a cap L P (updO A l (some p)) ∧ Keep (· = g) w w' := by
  obtain rfl := h.ha (by omega)
  have c0 := h.c0
  have c1 := h.c1
  have hLL := h.hL
  have b1 : decide ((l : Int) < 0) = false := by simp
  have b2 : decide (L ≤ l) = false := by simpa using hl
  have b3 : decide ((p : Int) < 0) = false := by simp
  have b4 : decide (P ≤ p) = false := by simpa using hp
  have hl' : (l : Int) < (L : Int) := by omega
  obtain ⟨cl, fl⟩ := h.at_ hl
  have hne : (optI (A l) == (p : Int)) = false := by
    rcases hAj : A l with _ | q
    · simp [optI]
    · have : q ≠ p := fun e => hA.out l hl (by rw [hAj, e])
      simp [optI]
      omega
  have R := h.store hl (some p)
  have HN : Hid (0 ≤ (p : Int) ∧ ∀ k, k < L → A k ≠ some (p : Int).toNat) := Lib.hid ⟨by omega, fun k hk => by simpa using hA.out k hk⟩
  go_enter Tryd.func10, Tryd.ntmps10
  go_wp2_with fail
  refine (refowner_no kb g _ cap L P A p w h (.inr HN)).mono ?_
  rintro e w' ⟨rfl, rfl⟩
  go_wp2_with fail
  go_ret2
  exact ⟨rfl, R, (Keep.refl (· = g) w).setCell (p := ⟨g, l, none⟩) (.inl rfl) _⟩

theorem refdrop_yes (kb g : Nat) (a : Option Addr) (cap L P : Nat) (A : Nat → Option Nat) (l p : Nat) (w : World) (h : IsRef w kb g a cap L P A) (hl : l < L) (hA : Hid (A l = some p)) :
    Calls Tryd.prog 15 #[.pointer (some ⟨kb, 0, none⟩), .int .i64 l] w fun e w' => e = .returned (.tuple #[.int .i64 p, .bool true]) ∧ IsRef w' kb g a cap L P (updO A l none) ∧ Keep (· = g) w w' := by
  obtain rfl := h.ha (by omega)
  have c0 := h.c0
  have hLL := h.hL
  have b1 : decide ((l : Int) < 0) = false := by simp
  have b2 : decide (L ≤ l) = false := by simpa using hl
  have hl' : (l : Int) < (L : Int) := by omega
  obtain ⟨cl, fl⟩ := h.at_ hl
  rw [hA.out] at cl
  change _ = some (Value.int .i64 (p : Int)) at cl
  have b3 : decide ((p : Int) < 0) = false := by simp
  have R := h.store hl none
  go_enter Tryd.func15, Tryd.ntmps15
  go_wp2_with fail
  go_ret2
  exact ⟨rfl, R, (Keep.refl (· = g) w).setCell (p := ⟨g, l, none⟩) (.inl rfl) _⟩

theorem refdrop_no (kb g : Nat) (a : Option Addr) (cap L P : Nat) (A : Nat → Option Nat) (l : Int) (w : World) (h : IsRef w kb g a cap L P A) (hA : l < 0 ∨ (L : Int) ≤ l ∨ Hid (A l.toNat = none)) :
    Calls Tryd.prog 15 #[.pointer (some ⟨kb, 0, none⟩), .int .i64 l] w fun e w' => e = .returned (.tuple #[.int .i64 0, .bool false]) ∧ w = w' := by
  have c0 := h.c0
  have hLL := h.hL
  by_cases h1 : l < 0
  · clear hA
    go_enter Tryd.func15, Tryd.ntmps15
    go_wp2_with fail
    go_ret2
    exact ⟨rfl, rfl⟩
  obtain ⟨i, rfl⟩ := Int.eq_ofNat_of_zero_le (show 0 ≤ l by omega)
  by_cases h2 : L ≤ i
  · clear hA
    have b1 : decide ((i : Int) < 0) = false := by simp
    have b2 : decide (L ≤ i) = true := by simpa using h2
    go_enter Tryd.func15, Tryd.ntmps15
    go_wp2_with fail
    go_ret2
    exact ⟨rfl, rfl⟩
  have hi : i < L := by omega
  obtain rfl := h.ha (by omega)
  have hA2 : A i = none := by
    rcases hA with hA | hA | hA
    · omega
    · omega
    · simpa using hA.out
  clear hA
  have b1 : decide ((i : Int) < 0) = false := by simp
  have b2 : decide (L ≤ i) = false := by simpa using hi
  have hi' : (i : Int) < (L : Int) := by omega
  obtain ⟨cl, fl⟩ := h.at_ hi
  rw [hA2] at cl
  change _ = some (Value.int .i64 (-1)) at cl
  clear hA2
  go_enter Tryd.func15, Tryd.ntmps15
  go_wp2_with fail
  go_ret2
  exact ⟨rfl, rfl⟩
end Go.Proofs.YtipfpcfepfkehaaDoor
