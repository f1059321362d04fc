/- Contracts of package valid: Next at any number, Count, New. -/
import Derived.Test.YtipfpcfepfkehaaDoorVnext
namespace Go.Proofs.YtipfpcfepfkehaaDoor
open Go.RowKit

theorem next_any (pb sb n : Nat) (f : Nat → Bool) (i : Int) (w : World) (h : IsBits w pb sb n f) (hT : TabAt 0 Lib.deBruijn64tab w) :
    Calls Tryd.prog 24 #[.pointer (some ⟨pb, 0, none⟩), .int .i64 i] w fun e w' => e = .returned (nextVal (nextO n f i.toNat)) ∧ w = w' := by
  by_cases ha : i.toNat < n
  · exact next_in pb sb n f i i.toNat w h hT (by omega) ha
  · have hno : nextO n f i.toNat = none := nextO_none fun k h1 h2 => by omega
    rw [hno]
    have hl := h.len
    have hn := h.hn
    clear h hT hno
    by_cases hi : i < 0
    · have hn0 : n = 0 := by omega
      subst hn0
      clear ha
      go_enter Tryd.func24, Tryd.ntmps24
      go_wp2
      go_ret2
      exact ⟨rfl, rfl⟩
    · obtain ⟨a, rfl⟩ := Int.eq_ofNat_of_zero_le (show 0 ≤ i by omega)
      simp only [Int.toNat_natCast] at ha
      go_enter Tryd.func24, Tryd.ntmps24
      go_wp2
      go_ret2
      exact ⟨rfl, rfl⟩

theorem next_no (pb sb n : Nat) (f : Nat → Bool) (i : Int) (w : World) (h : IsBits w pb sb n f) (hT : TabAt 0 Lib.deBruijn64tab w) (hx : Hid (nextO n f i.toNat = none)) :
    Calls Tryd.prog 24 #[.pointer (some ⟨pb, 0, none⟩), .int .i64 i] w fun e w' => e = .returned (.tuple #[.int .i64 0, .bool false]) ∧ w = w' := by
  have := next_any pb sb n f i w h hT
  rw [hx.out] at this
  exact this
theorem next_yes (pb sb n : Nat) (f : Nat → Bool) (i : Int) (k : Nat) (w : World) (h : IsBits w pb sb n f) (hT : TabAt 0 Lib.deBruijn64tab w) (hx : Hid (nextO n f i.toNat = some k)) :
    Calls Tryd.prog 24 #[.pointer (some ⟨pb, 0, none⟩), .int .i64 i] w fun e w' => e = .returned (.tuple #[.int .i64 k, .bool true]) ∧ w = w' := by
  have := next_any pb sb n f i w h hT
  rw [hx.out] at this
  exact this

/-- How many are set from a on below b. -/
def cntF (f : Nat → Bool) (a b : Nat) : Nat := (List.range' a (b - a)).countP f
theorem cntF_le (f : Nat → Bool) (a b : Nat) : cntF f a b ≤ b - a := by
  unfold cntF
  exact Nat.le_trans List.countP_le_length (by simp)
theorem cntF_succ (f : Nat → Bool) (a b : Nat) (h : a ≤ b) : cntF f a (b + 1) = cntF f a b + if f b then 1 else 0 := by
  unfold cntF
  rw [show b + 1 - a = (b - a) + 1 by omega, List.range'_concat, List.countP_append]
  simp [show a + (b - a) = b by omega, List.countP_cons]
theorem cntF_gap (f : Nat → Bool) (a b c : Nat) (h1 : a ≤ b) (h2 : b ≤ c) (h : ∀ k, b ≤ k → k < c → f k = false) : cntF f a c = cntF f a b := by
  obtain ⟨d, rfl⟩ : ∃ d, c = b + d := ⟨c - b, by omega⟩
  clear h2
  induction d with
  | zero => rfl
  | succ d ih =>
    rw [← Nat.add_assoc, cntF_succ f a _ (by omega), ih (fun k h3 h4 => h k h3 (by omega)), h (b + d) (by omega) (by omega)]
    simp
theorem cntF_self (f : Nat → Bool) (a b : Nat) (h : b ≤ a) : cntF f a b = 0 := by
  unfold cntF
  rw [show b - a = 0 by omega]
  rfl

/-- What Count tells. -/
def countN (n : Nat) (f : Nat → Bool) (frm to : Int) : Nat := cntF f frm.toNat (min n to.toNat)

/-- The state of Count's loop: what is found next, and how many so far. -/
structure CountAt (n : Nat) (f : Nat → Bool) (a : Nat) (to : Int) (c : Nat) (x : Option Nat) : Prop where
  none_ : x = none → c = countN n f a to
  some_ : ∀ k, x = some k → a ≤ k ∧ k < n ∧ f k = true ∧ c = cntF f a k ∧ cntF f a k = cntF f a (min k to.toNat)

theorem countAt_start (n : Nat) (f : Nat → Bool) (a : Nat) (to : Int) : CountAt n f a to 0 (nextO n f a) := by
  refine ⟨fun h => ?_, fun k h => ?_⟩
  · have h1 := nextO_iff_none h
    unfold countN
    simp only [Int.toNat_natCast]
    by_cases h2 : a ≤ min n to.toNat
    · rw [cntF_gap f a a _ (Nat.le_refl _) h2 (fun k h3 h4 => h1 k h3 (by omega)), cntF_self f a a (Nat.le_refl _)]
    · rw [cntF_self f a _ (by omega)]
  · obtain ⟨h1, h2, h3, h4⟩ := nextO_iff h
    have e : cntF f a k = 0 := by rw [cntF_gap f a a k (Nat.le_refl _) h1 h4, cntF_self f a a (Nat.le_refl _)]
    refine ⟨h1, h2, h3, e.symm, ?_⟩
    rw [e]
    by_cases h5 : a ≤ min k to.toNat
    · rw [cntF_gap f a a _ (Nat.le_refl _) h5 (fun j h6 h7 => h4 j h6 (by omega)), cntF_self f a a (Nat.le_refl _)]
    · rw [cntF_self f a _ (by omega)]
theorem countAt_step {n : Nat} {f : Nat → Bool} {a : Nat} {to : Int} {c k : Nat} (h : CountAt n f a to c (some k)) (hk : (k : Int) < to) : CountAt n f a to (c + 1) (nextO n f (k + 1)) := by
  obtain ⟨h1, h2, h3, h4, h5⟩ := h.some_ k rfl
  have e1 : cntF f a (k + 1) = c + 1 := by rw [cntF_succ f a k h1, h3, h4]; simp
  refine ⟨fun h => ?_, fun j h => ?_⟩
  · have g := nextO_iff_none h
    unfold countN
    simp only [Int.toNat_natCast]
    rw [cntF_gap f a (k + 1) _ (by omega) (by omega) (fun i h6 h7 => g i h6 (by omega)), e1]
  · obtain ⟨g1, g2, g3, g4⟩ := nextO_iff h
    have e2 : cntF f a j = c + 1 := by rw [cntF_gap f a (k + 1) j (by omega) g1 g4, e1]
    refine ⟨by omega, g2, g3, e2.symm, ?_⟩
    rw [e2, cntF_gap f a (k + 1) _ (by omega) (by omega) (fun i h6 h7 => g4 i h6 (by omega)), e1]
theorem countAt_stop {n : Nat} {f : Nat → Bool} {a : Nat} {to : Int} {c k : Nat} (h : CountAt n f a to c (some k)) (hk : to ≤ (k : Int)) : c = countN n f a to := by
  obtain ⟨h1, h2, h3, h4, h5⟩ := h.some_ k rfl
  unfold countN
  simp only [Int.toNat_natCast]
  rw [h4, h5, show min k to.toNat = min n to.toNat by omega]
theorem ret_num {a b : Int} (h : a = b) : Ending.returned (.int .i64 a) = .returned (.int .i64 b) := by rw [h]
theorem countN_toNat (n : Nat) (f : Nat → Bool) (frm to : Int) : countN n f (frm.toNat : Int) to = countN n f frm to := by unfold countN; rw [Int.toNat_natCast]

/-- What the loop's slots hold. -/
def CountSlots (n : Nat) (f : Nat → Bool) (a : Nat) (to : Int) (v i ok : Value) : Prop :=
  ∃ (c : Nat) (x : Option Nat), c ≤ n ∧ CountAt n f a to c x ∧ v = .int .i64 c ∧ ((x = none ∧ i = .int .i64 0 ∧ ok = .bool false) ∨ ∃ k, x = some k ∧ i = .int .i64 k ∧ ok = .bool true)
theorem countAt_le {n : Nat} {f : Nat → Bool} {a : Nat} {to : Int} {c k : Nat} (h : CountAt n f a to c (some k)) : c ≤ k ∧ k < n := by
  obtain ⟨h1, h2, h3, h4, h5⟩ := h.some_ k rfl
  have := cntF_le f a k
  omega
theorem countSlots_no {n : Nat} {f : Nat → Bool} {a : Nat} {to : Int} {c : Nat} (hc : c ≤ n) (h : CountAt n f a to c none) : CountSlots n f a to (.int .i64 c) (.int .i64 0) (.bool false) := ⟨c, none, hc, h, rfl, .inl ⟨rfl, rfl, rfl⟩⟩
theorem countSlots_yes {n : Nat} {f : Nat → Bool} {a : Nat} {to : Int} {c k : Nat} (hc : c ≤ n) (h : CountAt n f a to c (some k)) : CountSlots n f a to (.int .i64 c) (.int .i64 k) (.bool true) := ⟨c, some k, hc, h, rfl, .inr ⟨k, rfl, rfl, rfl⟩⟩

theorem count_any (pb sb n : Nat) (f : Nat → Bool) (frm to : Int) (w : World) (h : IsBits w pb sb n f) (hT : TabAt 0 Lib.deBruijn64tab w) :
    Calls Tryd.prog 21 #[.pointer (some ⟨pb, 0, none⟩), .int .i64 frm, .int .i64 to] w fun e w' => e = .returned (.int .i64 (countN n f frm to)) ∧ w = w' := by
  have hn := h.hn
  have hstart := countAt_start n f frm.toNat to
  rcases hx : nextO n f frm.toNat with _ | k0
  all_goals
    rw [hx] at hstart
    have HX := Lib.hid hx
    clear hx
    go_enter Tryd.func21, Tryd.ntmps21
    go_wp2_with (go_at_call 24; first | (refine (next_no _ _ _ _ _ _ h hT HX).mono ?_; rintro e w' ⟨rfl, rfl⟩) | (refine (next_yes _ _ _ _ _ _ _ h hT HX).mono ?_; rintro e w' ⟨rfl, rfl⟩))
    go_loop [7, 8, 9] (fun v i ok => CountSlots n f frm.toNat to v i ok) (fun _ i ok => match ok with | .bool true => n + 1 - (intOf i).toNat | _ => 0)
    case atStart => first | exact countSlots_no (Nat.zero_le _) hstart | exact countSlots_yes (Nat.zero_le _) hstart
    case round =>
      obtain ⟨c, x, hc, hat, rfl, ⟨rfl, rfl, rfl⟩ | ⟨k, rfl, rfl, rfl⟩⟩ := hrel
      · have HE := Lib.hid (hat.none_ rfl)
        clear hat hstart
        go_wp2
        go_ret
        exact ⟨ret_num (by rw [HE.out, countN_toNat]), rfl⟩
      · have hle := countAt_le hat
        by_cases hk : (k : Int) < to
        · have hst := countAt_step hat hk
          have h0 : 0 ≤ (k : Int) + 1 := by omega
          rcases hy : nextO n f (k + 1) with _ | j
          · rw [hy] at hst
            have HY : Hid (nextO n f ((k : Int) + 1).toNat = none) := Lib.hid (by rw [show ((k : Int) + 1).toNat = k + 1 by omega]; exact hy)
            clear hy hat hstart
            go_wp2_with (go_at_call 24; (refine (next_no _ _ _ _ _ _ h hT HY).mono ?_; rintro e w' ⟨rfl, rfl⟩))
            go_round
            case rel => exact countSlots_no (c := c + 1) (by omega) hst
            case measure => simp [intOf]; omega
          · rw [hy] at hst
            have hj := countAt_le hst
            have HY : Hid (nextO n f ((k : Int) + 1).toNat = some j) := Lib.hid (by rw [show ((k : Int) + 1).toNat = k + 1 by omega]; exact hy)
            have hjk := (nextO_iff hy).1
            clear hy hat hstart
            go_wp2_with (go_at_call 24; (refine (next_yes _ _ _ _ _ _ _ h hT HY).mono ?_; rintro e w' ⟨rfl, rfl⟩))
            go_round
            case rel => exact countSlots_yes (c := c + 1) (by omega) hst
            case measure => simp [intOf]; omega
        · have HE := Lib.hid (countAt_stop hat (by omega))
          clear hat hstart
          go_wp2
          go_ret
          exact ⟨ret_num (by rw [HE.out, countN_toNat]), rfl⟩
end Go.Proofs.YtipfpcfepfkehaaDoor
