/- The map and the reference's map answer alike, and go on alike. -/
import Derived.Test.YtipfpcfepfkehaaDoorLlawWays
import Derived.Test.YtipfpcfepfkehaaDoorLref2
namespace Go.Proofs.YtipfpcfepfkehaaDoor
open Go.RowKit

theorem updO_self {A : Nat → Option Nat} {l : Nat} {v : Option Nat} (h : A l = v) : updO A l v = A := by
  funext k
  unfold updO
  split
  · rename_i e; rw [e, h]
  · rfl
theorem uniq {A O : Nat → Option Nat} {p o : Nat} (con : ∀ l p, A l = some p ↔ O p = some l) (hO : O p = some o) : ∀ k, A k = some p ↔ k = o := by
  intro k
  rw [con k p, hO]
  constructor
  · intro h; exact (Option.some.inj h).symm
  · intro h; rw [h]

/-- Both maps, in one world. -/
structure Two (m : LM) (kb g : Nat) (a : Option Addr) (cap : Nat) (A O : Nat → Option Nat) (w : World) : Prop where
  map : IsMap m A O w
  ref : IsRef w kb g a cap m.L m.P A

theorem both_put (m : LM) (kb g : Nat) (a : Option Addr) (cap : Nat) (A O : Nat → Option Nat) (con : ∀ l p, A l = some p ↔ O p = some l) (dom : ∀ l p, A l = some p → l < m.L ∧ p < m.P) (x y : Int) :
    ∃ (r f : Int) (A' : Nat → Option Nat),
      (∀ w, IsMap m A O w → Calls Tryd.prog 9 #[.pointer (some ⟨m.mb, 0, none⟩), .int .i64 x, .int .i64 y] w fun e w' => e = .returned (.tuple #[.int .i64 r, .int .i64 f]) ∧ (∃ O', IsMap m A' O' w') ∧ Keep (mapS m) w w') ∧
      (∀ w, IsRef w kb g a cap m.L m.P A → Calls Tryd.prog 10 #[.pointer (some ⟨kb, 0, none⟩), .int .i64 x, .int .i64 y] w fun e w' => e = .returned (.tuple #[.int .i64 r, .int .i64 f]) ∧ IsRef w' kb g a cap m.L m.P A' ∧ (0 < m.L ∨ w = w') ∧ Keep (· = g) w w') := by
  by_cases hr : x < 0 ∨ (m.L : Int) ≤ x ∨ y < 0 ∨ (m.P : Int) ≤ y
  · exact ⟨0, 2, A, fun w h => (put_range m A O x y w h hr).mono fun e w' ⟨he, hw⟩ => ⟨he, ⟨O, hw ▸ h⟩, hw ▸ Keep.refl _ _⟩,
      fun w h => (refput_range kb g a cap m.L m.P A x y w h hr).mono fun e w' ⟨he, hw⟩ => ⟨he, hw ▸ h, .inr hw, hw ▸ Keep.refl _ _⟩⟩
  · obtain ⟨l, rfl⟩ := Int.eq_ofNat_of_zero_le (show 0 ≤ x by omega)
    obtain ⟨p, rfl⟩ := Int.eq_ofNat_of_zero_le (show 0 ≤ y by omega)
    have hl : l < m.L := by omega
    have hp : p < m.P := by omega
    have h0 : 0 < m.L := by omega
    rcases hO : O p with _ | o
    · refine ⟨optI (A l), 0, updO A l (some p), fun w h => put_free m A O l p w h hl hp (Lib.hid hO), fun w h => (refput_free kb g a cap m.L m.P A l p w h hl hp (Lib.hid fun k _ e => ?_)).mono fun e w' ⟨h1, h2, h3⟩ => ⟨h1, h2, .inl h0, h3⟩⟩
      have := (con k p).1 e
      rw [hO] at this
      cases this
    · have hu := uniq con hO
      have ho : o < m.L := (dom o p ((hu o).2 rfl)).1
      by_cases hol : o = l
      · subst hol
        have hs : updO A o (some p) = A := updO_self ((hu o).2 rfl)
        refine ⟨-1, 0, A, fun w h => (put_same m A O o p w h (Lib.hid ((hu o).2 rfl))).mono fun e w' ⟨he, hw⟩ => ⟨he, ⟨O, hw ▸ h⟩, hw ▸ Keep.refl _ _⟩,
          fun w h => (refput_same kb g a cap m.L m.P A o p w h hl hp (Lib.hid fun k _ => hu k)).mono fun e w' ⟨h1, h2, h3⟩ => ⟨h1, ?_, .inl h0, h3⟩⟩
        rw [hs] at h2
        exact h2
      · exact ⟨0, 1, A, fun w h => (put_other m A O l p o w h hl hp (Lib.hid hO) hol).mono fun e w' ⟨he, hw⟩ => ⟨he, ⟨O, hw ▸ h⟩, hw ▸ Keep.refl _ _⟩,
          fun w h => (refput_other kb g a cap m.L m.P A l p o w h hl hp ho hol (Lib.hid fun k _ => hu k)).mono fun e w' ⟨he, hw⟩ => ⟨he, hw ▸ h, .inr hw, hw ▸ Keep.refl _ _⟩⟩

theorem both_drop (m : LM) (kb g : Nat) (a : Option Addr) (cap : Nat) (A O : Nat → Option Nat) (dom : ∀ l p, A l = some p → l < m.L ∧ p < m.P) (x : Int) :
    ∃ (r : Int) (f : Bool) (A' : Nat → Option Nat),
      (∀ w, IsMap m A O w → Calls Tryd.prog 14 #[.pointer (some ⟨m.mb, 0, none⟩), .int .i64 x] w fun e w' => e = .returned (.tuple #[.int .i64 r, .bool f]) ∧ (∃ O', IsMap m A' O' w') ∧ Keep (mapS m) w w') ∧
      (∀ w, IsRef w kb g a cap m.L m.P A → Calls Tryd.prog 15 #[.pointer (some ⟨kb, 0, none⟩), .int .i64 x] w fun e w' => e = .returned (.tuple #[.int .i64 r, .bool f]) ∧ IsRef w' kb g a cap m.L m.P A' ∧ (0 < m.L ∨ w = w') ∧ Keep (· = g) w w') := by
  have hno : (x < 0 ∨ (m.L : Int) ≤ x ∨ Hid (A x.toNat = none)) → ∃ (r : Int) (f : Bool) (A' : Nat → Option Nat),
      (∀ w, IsMap m A O w → Calls Tryd.prog 14 #[.pointer (some ⟨m.mb, 0, none⟩), .int .i64 x] w fun e w' => e = .returned (.tuple #[.int .i64 r, .bool f]) ∧ (∃ O', IsMap m A' O' w') ∧ Keep (mapS m) w w') ∧
      (∀ w, IsRef w kb g a cap m.L m.P A → Calls Tryd.prog 15 #[.pointer (some ⟨kb, 0, none⟩), .int .i64 x] w fun e w' => e = .returned (.tuple #[.int .i64 r, .bool f]) ∧ IsRef w' kb g a cap m.L m.P A' ∧ (0 < m.L ∨ w = w') ∧ Keep (· = g) w w') := fun hx =>
    ⟨0, false, A, fun w h => (drop_no m A O x w h hx).mono fun e w' ⟨he, hw⟩ => ⟨he, ⟨O, hw ▸ h⟩, hw ▸ Keep.refl _ _⟩,
      fun w h => (refdrop_no kb g a cap m.L m.P A x w h hx).mono fun e w' ⟨he, hw⟩ => ⟨he, hw ▸ h, .inr hw, hw ▸ Keep.refl _ _⟩⟩
  by_cases h0 : x < 0
  · exact hno (.inl h0)
  · obtain ⟨l, rfl⟩ := Int.eq_ofNat_of_zero_le (show 0 ≤ x by omega)
    rcases hA : A l with _ | p
    · exact hno (.inr (.inr (Lib.hid (by simpa using hA))))
    · have hl := (dom l p hA).1
      exact ⟨p, true, updO A l none, fun w h => (drop_yes m A O l p w h (Lib.hid hA)).mono fun e w' ⟨he, hi, hk⟩ => ⟨he, ⟨_, hi⟩, hk⟩,
        fun w h => (refdrop_yes kb g a cap m.L m.P A l p w h hl (Lib.hid hA)).mono fun e w' ⟨h1, h2, h3⟩ => ⟨h1, h2, .inl (by omega), h3⟩⟩

theorem both_owner (m : LM) (kb g : Nat) (a : Option Addr) (cap : Nat) (A O : Nat → Option Nat) (con : ∀ l p, A l = some p ↔ O p = some l) (dom : ∀ l p, A l = some p → l < m.L ∧ p < m.P) (y : Int) :
    ∃ (r : Int) (f : Bool),
      (∀ w, IsMap m A O w → Calls Tryd.prog 12 #[.pointer (some ⟨m.mb, 0, none⟩), .int .i64 y] w fun e w' => e = .returned (.tuple #[.int .i64 r, .bool f]) ∧ w = w') ∧
      (∀ w, IsRef w kb g a cap m.L m.P A → Calls Tryd.prog 13 #[.pointer (some ⟨kb, 0, none⟩), .int .i64 y] w fun e w' => e = .returned (.tuple #[.int .i64 r, .bool f]) ∧ w = w') := by
  by_cases h0 : y < 0
  · exact ⟨0, false, fun w h => owner_no m A O y w h (.inl h0), fun w h => refowner_no kb g a cap m.L m.P A y w h (.inl h0)⟩
  · obtain ⟨p, rfl⟩ := Int.eq_ofNat_of_zero_le (show 0 ≤ y by omega)
    rcases hO : O p with _ | o
    · refine ⟨0, false, fun w h => owner_no m A O p w h (.inr (.inr (Lib.hid (by simpa using hO)))), fun w h => refowner_no kb g a cap m.L m.P A p w h (.inr (Lib.hid ⟨by omega, fun k _ e => ?_⟩))⟩
      have := (con k p).1 (by simpa using e)
      rw [hO] at this
      cases this
    · have hu := uniq con hO
      have ho : o < m.L := (dom o p ((hu o).2 rfl)).1
      exact ⟨o, true, fun w h => owner_yes m A O o p w h (Lib.hid hO), fun w h => refowner_yes kb g a cap m.L m.P A p o w h ho (Lib.hid fun k _ => hu k)⟩

/-- The law's own count, up to J. -/
def cntA (A : Nat → Option Nat) (x y : Int) : Nat → Nat
  | 0 => 0
  | J + 1 => cntA A x y J + if 0 ≤ optI (A J) ∧ x ≤ optI (A J) ∧ optI (A J) < y then 1 else 0
theorem cntA_le (A : Nat → Option Nat) (x y : Int) (J : Nat) : cntA A x y J ≤ J := by
  induction J with
  | zero => simp [cntA]
  | succ J ih => unfold cntA; split <;> omega
def inA (x y : Int) (p : Nat) : Bool := decide (x ≤ p) && decide ((p : Int) < y)
theorem cntA_mny (A : Nat → Option Nat) (x y : Int) (n : Nat) : cntA A x y n = mny (fun l => (A l).filter (inA x y)) n := by
  induction n with
  | zero => rfl
  | succ n ih =>
    show cntA A x y n + _ = mny _ n + _
    rw [ih]
    congr 1
    show _ = if (Option.filter (inA x y) (A n)).isSome = true then 1 else 0
    rcases hA : A n with _ | p
    · simp [optI]
    · by_cases h1 : x ≤ p <;> by_cases h2 : (p : Int) < y <;> simp [optI, inA, h1, h2, Option.filter]
theorem countN_mny (O : Nat → Option Nat) (n : Nat) (x y : Int) : countN n (fun p => (O p).isSome) x y = mny (fun p => if inA x y p then O p else none) n := by
  induction n with
  | zero => simp [countN, cntF_self, mny]
  | succ n ih =>
    show _ = mny _ n + _
    rw [← ih]
    unfold countN inA
    by_cases h1 : (n : Int) < y
    · rw [show min (n + 1) y.toNat = n + 1 by omega, show min n y.toNat = n by omega]
      by_cases h2 : x ≤ n
      · rw [cntF_succ _ _ _ (by omega)]
        simp [h1, h2]
      · rw [cntF_self _ _ _ (by omega), cntF_self _ _ _ (by omega)]
        simp [h2]
    · rw [show min (n + 1) y.toNat = min n y.toNat by omega]
      simp [h1]
theorem cntA_count {m : LM} {A O : Nat → Option Nat} (con : ∀ l p, A l = some p ↔ O p = some l) (dom : ∀ l p, A l = some p → l < m.L ∧ p < m.P) (x y : Int) : cntA A x y m.L = countN m.P (fun p => (O p).isSome) x y := by
  rw [cntA_mny, countN_mny]
  refine mny_both (fun l p => ?_) (fun l p h => ?_)
  · rw [Option.filter_eq_some_iff]
    constructor
    · rintro ⟨h1, h2⟩
      simp only [h2, if_true]
      exact (con l p).1 h1
    · intro h
      split at h
      · rename_i h2
        exact ⟨(con l p).2 h, h2⟩
      · cases h
  · rw [Option.filter_eq_some_iff] at h
    exact dom l p h.1
end Go.Proofs.YtipfpcfepfkehaaDoor
