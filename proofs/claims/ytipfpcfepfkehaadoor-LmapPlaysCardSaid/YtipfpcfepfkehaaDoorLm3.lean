/- Contracts of package lmap: Drop and Put in every case. -/
import Derived.Test.YtipfpcfepfkehaaDoorLm2
namespace Go.Proofs.YtipfpcfepfkehaaDoor
open Go.RowKit

theorem drop_no (m : LM) (A O : Nat → Option Nat) (l : Int) (w : World) (h : IsMap m A O w) (hA : l < 0 ∨ (m.L : Int) ≤ l ∨ Hid (A l.toNat = none)) :
    Calls Tryd.prog 14 #[.pointer (some ⟨m.mb, 0, none⟩), .int .i64 l] w fun e w' => e = .returned (.tuple #[.int .i64 0, .bool false]) ∧ w = w' := by
  go_enter Tryd.func14, Tryd.ntmps14
  go_wp2_with fail
  refine (get_no m A O l w h hA).mono ?_
  rintro e w' ⟨rfl, rfl⟩
  go_wp2_with fail
  go_ret2
  exact ⟨rfl, rfl⟩

/-- Put: there is no such host page, or no such page. -/
theorem put_range (m : LM) (A O : Nat → Option Nat) (l p : Int) (w : World) (h : IsMap m A O w) (hr : l < 0 ∨ (m.L : Int) ≤ l ∨ p < 0 ∨ (m.P : Int) ≤ p) :
    Calls Tryd.prog 9 #[.pointer (some ⟨m.mb, 0, none⟩), .int .i64 l, .int .i64 p] w fun e w' => e = .returned (.tuple #[.int .i64 0, .int .i64 2]) ∧ w = w' := by
  have c0 := h.raw.c0
  have c1 := h.raw.c1
  have hL := h.raw.hL
  have hP := h.raw.hP
  by_cases h1 : l < 0
  · clear hr
    go_enter Tryd.func9, Tryd.ntmps9
    go_wp2
    go_ret2
    exact ⟨rfl, rfl⟩
  obtain ⟨i, rfl⟩ := Int.eq_ofNat_of_zero_le (show 0 ≤ l by omega)
  by_cases h2 : m.L ≤ i
  · clear hr
    have b1 : decide ((i : Int) < 0) = false := by simp
    have b2 : decide (m.L ≤ i) = true := by simpa using h2
    go_enter Tryd.func9, Tryd.ntmps9
    go_wp2
    go_ret2
    exact ⟨rfl, rfl⟩
  have b1 : decide ((i : Int) < 0) = false := by simp
  have b2 : decide (m.L ≤ i) = false := by simpa using h2
  by_cases h3 : p < 0
  · clear hr
    have b3 : decide (p < 0) = true := by simpa using h3
    go_enter Tryd.func9, Tryd.ntmps9
    go_wp2
    go_ret2
    exact ⟨rfl, rfl⟩
  obtain ⟨j, rfl⟩ := Int.eq_ofNat_of_zero_le (show 0 ≤ p by omega)
  have h4 : m.P ≤ j := by omega
  clear hr
  have b3 : decide ((j : Int) < 0) = false := by simp
  have b4 : decide (m.P ≤ j) = true := by simpa using h4
  go_enter Tryd.func9, Tryd.ntmps9
  go_wp2
  go_ret2
  exact ⟨rfl, rfl⟩

/-- Put: it lies there already. -/
theorem put_same (m : LM) (A O : Nat → Option Nat) (l p : Nat) (w : World) (h : IsMap m A O w) (hA : Hid (A l = some p)) :
    Calls Tryd.prog 9 #[.pointer (some ⟨m.mb, 0, none⟩), .int .i64 l, .int .i64 p] w fun e w' => e = .returned (.tuple #[.int .i64 (-1), .int .i64 0]) ∧ w = w' := by
  obtain ⟨hd1, hd2⟩ := h.dom l p hA.out
  have c0 := h.raw.c0
  have c1 := h.raw.c1
  have hL := h.raw.hL
  have hP := h.raw.hP
  have co := h.raw.own hd2
  rw [(h.con l p).1 hA.out] at co
  change _ = some (Value.int .i64 (l : Int)) at co
  have b1 : decide ((l : Int) < 0) = false := by simp
  have b2 : decide (m.L ≤ l) = false := by simpa using hd1
  have b3 : decide ((p : Int) < 0) = false := by simp
  have b4 : decide (m.P ≤ p) = false := by simpa using hd2
  go_enter Tryd.func9, Tryd.ntmps9
  go_wp2
  go_ret2
  exact ⟨rfl, rfl⟩

/-- Put: the page has another owner. -/
theorem put_other (m : LM) (A O : Nat → Option Nat) (l p k : Nat) (w : World) (h : IsMap m A O w) (hl : l < m.L) (hp : p < m.P) (hO : Hid (O p = some k)) (hk : k ≠ l) :
    Calls Tryd.prog 9 #[.pointer (some ⟨m.mb, 0, none⟩), .int .i64 l, .int .i64 p] w fun e w' => e = .returned (.tuple #[.int .i64 0, .int .i64 1]) ∧ w = w' := by
  have c0 := h.raw.c0
  have c1 := h.raw.c1
  have hL := h.raw.hL
  have hP := h.raw.hP
  have co := h.raw.own hp
  rw [hO.out] at co
  change _ = some (Value.int .i64 (k : Int)) at co
  have b1 : decide ((l : Int) < 0) = false := by simp
  have b2 : decide (m.L ≤ l) = false := by simpa using hl
  have b3 : decide ((p : Int) < 0) = false := by simp
  have b4 : decide (m.P ≤ p) = false := by simpa using hp
  have b5 : ((k : Int) == (l : Int)) = false := by simp; omega
  have b6 : ((k : Int) == -1) = false := by simp
  go_enter Tryd.func9, Tryd.ntmps9
  go_wp2
  go_ret2
  exact ⟨rfl, rfl⟩

/-- Put: the page is free: where it lay before, and where it lies now. -/
theorem put_free (m : LM) (A O : Nat → Option Nat) (l p : Nat) (w : World) (h : IsMap m A O w) (hl : l < m.L) (hp : p < m.P) (hO : Hid (O p = none)) :
    Calls Tryd.prog 9 #[.pointer (some ⟨m.mb, 0, none⟩), .int .i64 l, .int .i64 p] w fun e w' => e = .returned (.tuple #[.int .i64 (optI (A l)), .int .i64 0]) ∧
      (∃ O', IsMap m (updO A l (some p)) O' w') ∧ Keep (mapS m) w w' := by
  have c0 := h.raw.c0
  have c1 := h.raw.c1
  have hL := h.raw.hL
  have hP := h.raw.hP
  have co := h.raw.own hp
  rw [hO.out] at co
  change _ = some (Value.int .i64 (-1)) at co
  obtain ⟨i1, i2, i3, i4, i5, i6, i7, i8, i9⟩ := h.raw.ids
  have i0 := h.raw.ne
  have hl' : (l : Int) < (m.L : Int) := by omega
  have hp' : (p : Int) < (m.P : Int) := by omega
  have b1 : decide ((l : Int) < 0) = false := by simp
  have b2 : decide (m.L ≤ l) = false := by simpa using hl
  have b3 : decide ((p : Int) < 0) = false := by simp
  have b4 : decide (m.P ≤ p) = false := by simpa using hp
  have b5 : ((-1 : Int) == (l : Int)) = false := by simp
  -- behind the drop: l lies nowhere, p has no owner
  have step : ∀ (A' O' : Nat → Option Nat) (w1 : World), IsMap m A' O' w1 → Keep (mapS m) w w1 → A' l = none → O' p = none → updO A' l (some p) = updO A l (some p) →
      ∀ w2, w2 = ((w1.setCell ⟨m.ab, l, none⟩ (.int .i64 (p : Int))).setCell ⟨m.ob, p, none⟩ (.int .i64 (l : Int))).drew → ∀ w3, IsBits w3 m.pb m.sb m.P (setF m.P (fun q => (O' q).isSome) (p : Int) true) → Keep (· = m.sb) w2 w3 →
      IsMap m (updO A l (some p)) (updO O' p (some l)) (w3.setCell ⟨m.mb, 3, none⟩ (.int .i64 ((mny A' m.L : Int) + 1))) ∧ Keep (mapS m) w (w3.setCell ⟨m.mb, 3, none⟩ (.int .i64 ((mny A' m.L : Int) + 1))) := by
    intro A' O' w1 h1 k1 hA' hO' hupd w2 hw2 w3 hb3 k3
    subst hw2
    have R := (((h1.raw.setAt l (some p)).setOwn p (some l)).drew.setBits k3 hb3).setMany ((mny A' m.L : Int) + 1)
    rw [put_bits (l := l) hp] at R
    have hmu := mny_upd A' l (some p) m.L
    simp [hl, hA'] at hmu
    have hmm : ((mny A' m.L : Int) + 1) = ((mny (updO A' l (some p)) m.L : Nat) : Int) := by rw [hmu]; simp
    rw [hmm, hupd] at R ⊢
    refine ⟨⟨R, ?_, fun i j hij => ?_⟩, ?_⟩
    · rw [← hupd]
      exact put_con h1.con hA' hO'
    · rw [← hupd] at hij
      unfold updO at hij
      split at hij
      · rename_i hi
        subst hi
        rw [← Option.some.inj hij]
        exact ⟨hl, hp⟩
      · exact h1.dom i j hij
    · exact ((((k1.setCell (p := ⟨m.ab, l, none⟩) (.inl (.inr (.inl rfl))) _).setCell (p := ⟨m.ob, p, none⟩) (.inl (.inr (.inr (.inl rfl)))) _).drew).trans k3 (fun i hi => .inl (.inr (.inr (.inr hi))))).setCell (p := ⟨m.mb, 3, none⟩) (.inl (.inl rfl)) _
  rcases hAl : A l with _ | p0
  · have HD : Hid (A ((l : Nat) : Int).toNat = none) := Lib.hid hAl
    have STEP := Lib.hid (step A O w h (Keep.refl _ _) hAl hO.out rfl _ rfl)
    have R := ((h.raw.setAt l (some p)).setOwn p (some l)).drew
    have ca := h.raw.at_ hl
    have fa := h.raw.ha.frozen l
    have fo := h.raw.ho.frozen p
    have c2 := h.raw.c2
    have HB : Hid (setB m.P (fun q => (O q).isSome) (p : Int) true = true) := Lib.hid (by simp [setB, hp, hO.out])
    have hle := mny_le A m.L
    clear hAl step
    go_enter Tryd.func9, Tryd.ntmps9
    go_wp2_with fail
    refine (drop_no m A O l w h (.inr (.inr HD))).mono ?_
    rintro e w' ⟨rfl, rfl⟩
    go_wp2_with fail
    go_region
    go_wp2_with fail
    refine (set_yes _ _ _ _ _ _ _ R.hb HB).mono ?_
    rintro e w2 ⟨rfl, b2, k2⟩
    have R2 := R.setBits k2 b2
    have c3 := R2.c3
    have f3 := R2.hm.frozen 3
    go_wp2_with fail
    go_ret2
    have := STEP.out _ b2 k2
    exact ⟨rfl, ⟨_, this.1⟩, this.2⟩
  · have HD := Lib.hid hAl
    have hp0 : p ≠ p0 := by
      intro e
      have := (h.con l p0).1 hAl
      rw [← e, hO.out] at this
      cases this
    have HO : Hid (updO O p0 none p = none) := Lib.hid (by rw [updO_ne _ _ hp0]; exact hO.out)
    have HS : Hid (updO (updO A l none) l (some p) = updO A l (some p)) := Lib.hid (by
      funext k
      unfold updO
      split <;> rfl)
    have HB : Hid (setB m.P (fun q => (updO O p0 none q).isSome) (p : Int) true = true) := Lib.hid (by simp [setB, hp, HO.out])
    have hle := mny_le (updO A l none) m.L
    have STEP := Lib.hid step
    clear hAl step
    go_enter Tryd.func9, Tryd.ntmps9
    go_wp2_with fail
    refine (drop_yes m A O l p0 w h HD).mono ?_
    rintro e w1 ⟨rfl, h1, k1⟩
    have c0' := h1.raw.c0
    have c1' := h1.raw.c1
    have c2' := h1.raw.c2
    have ca := h1.raw.at_ hl
    have co' := h1.raw.own hp
    have fa := h1.raw.ha.frozen l
    have fo := h1.raw.ho.frozen p
    have R := ((h1.raw.setAt l (some p)).setOwn p (some l)).drew
    have ST := Lib.hid (STEP.out _ _ w1 h1 k1 (updO_same _ _ _) HO.out HS.out _ rfl)
    clear c0 c1 co
    go_wp2_with fail
    go_region
    go_wp2_with fail
    refine (set_yes _ _ _ _ _ _ _ R.hb HB).mono ?_
    rintro e w2 ⟨rfl, b2, k2⟩
    have R2 := R.setBits k2 b2
    have c3 := R2.c3
    have f3 := R2.hm.frozen 3
    go_wp2_with fail
    go_ret2
    have := ST.out _ b2 k2
    exact ⟨rfl, ⟨_, this.1⟩, this.2⟩
end Go.Proofs.YtipfpcfepfkehaaDoor
