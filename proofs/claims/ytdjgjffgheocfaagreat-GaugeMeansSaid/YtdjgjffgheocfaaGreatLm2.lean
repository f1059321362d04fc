/- Contracts of package lmap: Get, Drop, Put, Many. -/
import Derived.Test.YtdjgjffgheocfaaGreatLm1
namespace Go.Proofs.YtdjgjffgheocfaaGreat
open Go.RowKit

theorem get_yes (m : LM) (A O : Nat → Option Nat) (l p : Nat) (w : World) (h : IsMap m A O w) (hA : Hid (A l = some p)) :
    Calls Tryz.prog 99 #[.pointer (some ⟨m.mb, 0, none⟩), .int .i64 l] w fun e w' => e = .returned (.tuple #[.int .i64 p, .bool true]) ∧ w = w' := by
  have hd := h.dom l p hA.out
  have c0 := h.raw.c0
  have ca := h.raw.at_ hd.1
  rw [hA.out] at ca
  change _ = some (Value.int .i64 (p : Int)) at ca
  have hL := h.raw.hL
  have hl : (l : Int) < (m.L : Int) := by omega
  obtain ⟨hd1, hd2⟩ := hd
  have b1 : decide ((l : Int) < 0) = false := by simp
  have b2 : decide (m.L ≤ l) = false := by simpa using hd1
  have b3 : ((p : Int) == -1) = false := by simp
  go_enter Tryz.func99, Tryz.ntmps99
  go_wp2
  go_ret2
  exact ⟨rfl, rfl⟩
theorem get_no (m : LM) (A O : Nat → Option Nat) (l : Int) (w : World) (h : IsMap m A O w) (hA : l < 0 ∨ (m.L : Int) ≤ l ∨ Hid (A l.toNat = none)) :
    Calls Tryz.prog 99 #[.pointer (some ⟨m.mb, 0, none⟩), .int .i64 l] w fun e w' => e = .returned (.tuple #[.int .i64 0, .bool false]) ∧ w = w' := by
  have c0 := h.raw.c0
  have hL := h.raw.hL
  by_cases h0 : l < 0
  · clear hA
    go_enter Tryz.func99, Tryz.ntmps99
    go_wp2
    go_ret2
    exact ⟨rfl, rfl⟩
  · obtain ⟨k, rfl⟩ := Int.eq_ofNat_of_zero_le (show 0 ≤ l by omega)
    by_cases h1 : m.L ≤ k
    · clear hA
      go_enter Tryz.func99, Tryz.ntmps99
      go_wp2
      go_ret2
      exact ⟨rfl, rfl⟩
    · have hk : k < m.L := by omega
      have hA2 : A k = none := by
        rcases hA with hA | hA | hA
        · omega
        · omega
        · simpa using hA.out
      have ca := h.raw.at_ hk
      rw [hA2] at ca
      change _ = some (Value.int .i64 (-1)) at ca
      have hd : decide (m.L ≤ k) = false := by simpa using hk
      clear hA hA2
      go_enter Tryz.func99, Tryz.ntmps99
      go_wp2
      go_ret2
      exact ⟨rfl, rfl⟩

/-- What a drop leaves agrees. -/
theorem drop_con {A O : Nat → Option Nat} {l p : Nat} (con : ∀ l p, A l = some p ↔ O p = some l) (hA : A l = some p) : ∀ i j, updO A l none i = some j ↔ updO O p none j = some i := by
  intro i j
  unfold updO
  have h1 := con l p
  by_cases hi : i = l
  · subst hi
    simp only [if_true]
    constructor
    · intro h; cases h
    · intro h
      split at h
      · cases h
      · rename_i hj
        have := (con i j).2 h
        rw [hA] at this
        exact absurd (Option.some.inj this).symm hj
  · simp only [hi, if_false]
    by_cases hj : j = p
    · subst hj
      simp only [if_true]
      constructor
      · intro h
        have := (con i j).1 h
        rw [h1.1 hA] at this
        exact absurd (Option.some.inj this).symm hi
      · intro h; cases h
    · simp only [hj, if_false]
      exact con i j
theorem drop_bits {O : Nat → Option Nat} {p n : Nat} (hp : p < n) : setF n (fun q => (O q).isSome) (p : Int) false = fun q => (updO O p none q).isSome := by
  funext k
  unfold setF updO
  by_cases hk : k = p
  · subst hk; simp [hp]
  · simp [hk]
theorem put_con {A O : Nat → Option Nat} {l p : Nat} (con : ∀ l p, A l = some p ↔ O p = some l) (hA : A l = none) (hO : O p = none) : ∀ i j, updO A l (some p) i = some j ↔ updO O p (some l) j = some i := by
  intro i j
  unfold updO
  by_cases hi : i = l
  · subst hi
    simp only [if_true]
    by_cases hj : j = p
    · subst hj; simp
    · simp only [hj, if_false]
      constructor
      · intro h; exact absurd (Option.some.inj h).symm hj
      · intro h
        have := (con i j).2 h
        rw [hA] at this; cases this
  · simp only [hi, if_false]
    by_cases hj : j = p
    · subst hj
      simp only [if_true]
      constructor
      · intro h
        have := (con i j).1 h
        rw [hO] at this; cases this
      · intro h; exact absurd (Option.some.inj h).symm hi
    · simp only [hj, if_false]
      exact con i j
theorem put_bits {O : Nat → Option Nat} {p n l : Nat} (hp : p < n) : setF n (fun q => (O q).isSome) (p : Int) true = fun q => (updO O p (some l) q).isSome := by
  funext k
  unfold setF updO
  by_cases hk : k = p
  · subst hk; simp [hp]
  · simp [hk]

theorem drop_yes (m : LM) (A O : Nat → Option Nat) (l p : Nat) (w : World) (h : IsMap m A O w) (hA : Hid (A l = some p)) :
    Calls Tryz.prog 95 #[.pointer (some ⟨m.mb, 0, none⟩), .int .i64 l] w fun e w' => e = .returned (.tuple #[.int .i64 p, .bool true]) ∧ IsMap m (updO A l none) (updO O p none) w' ∧ Keep (mapS m) w w' := by
  have hd := h.dom l p hA.out
  have c0 := h.raw.c0
  have c1 := h.raw.c1
  have c2 := h.raw.c2
  have ca := h.raw.at_ hd.1
  have co := h.raw.own hd.2
  have fa := h.raw.ha.frozen l
  have fo := h.raw.ho.frozen p
  have hL := h.raw.hL
  have hP := h.raw.hP
  obtain ⟨i1, i2, i3, i4, i5, i6, i7, i8, i9⟩ := h.raw.ids
  have i0 := h.raw.ne
  obtain ⟨hd1, hd2⟩ := hd
  have hl : (l : Int) < (m.L : Int) := by omega
  have hp : (p : Int) < (m.P : Int) := by omega
  have R := ((h.raw.setAt l none).setOwn p none).drew
  have hbit : setB m.P (fun q => (O q).isSome) (p : Int) false = true := by
    have := (h.con l p).1 hA.out
    simp [setB, hd2, this]
  have HB := Lib.hid hbit
  clear hbit
  have HE := Lib.hid (drop_bits (O := O) hd2)
  go_enter Tryz.func95, Tryz.ntmps95
  go_wp2_with fail
  refine (get_yes m A O l p w h hA).mono ?_
  rintro e w' ⟨rfl, rfl⟩
  go_wp2_with fail
  go_region
  go_wp2_with fail
  refine (set_yes _ _ _ _ _ _ _ R.hb HB).mono ?_
  rintro e w2 ⟨rfl, b2, k2⟩
  rw [HE.out] at b2
  have R2 := R.setBits k2 b2
  have c3 := R2.c3
  have f3 := R2.hm.frozen 3
  have hle := mny_le A m.L
  have hmu := mny_upd A l none m.L
  have hAo := hA.out
  rw [hAo] at hmu
  simp [hd1] at hmu
  have HM : Hid ((mny A m.L : Int) - 1 = (mny (updO A l none) m.L : Int)) := Lib.hid (by omega)
  have hge : 0 ≤ (mny A m.L : Int) := by omega
  clear hmu hAo
  go_wp2_with fail
  go_ret2
  have R3 := R2.setMany ((mny A m.L : Int) - 1)
  rw [HM.out] at R3
  rw [HM.out]
  refine ⟨rfl, ⟨R3, drop_con h.con hA.out, fun i j hij => ?_⟩, ?_⟩
  · unfold updO at hij
    split at hij
    · cases hij
    · exact h.dom i j hij
  · refine (((((Keep.refl (mapS m) w).setCell (p := ⟨m.ab, l, none⟩) (.inl (.inr (.inl rfl))) _).setCell (p := ⟨m.ob, p, none⟩) (.inl (.inr (.inr (.inl rfl)))) _).drew).trans k2 (fun i hi => .inl (.inr (.inr (.inr hi))))).setCell (p := ⟨m.mb, 3, none⟩) (.inl (.inl rfl)) _
end Go.Proofs.YtdjgjffgheocfaaGreat
