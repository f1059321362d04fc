/- Contracts of package valid: Set. -/
import Derived.Test.YtdjgjffgheocfaaGreatVb1
import Derived.Lib.Hide
namespace Go.Proofs.YtdjgjffgheocfaaGreat
open Go.RowKit

def setB (n : Nat) (f : Nat → Bool) (i : Int) (on : Bool) : Bool := decide (0 ≤ i) && decide (i < n) && (f i.toNat != on)
def setF (n : Nat) (f : Nat → Bool) (i : Int) (on : Bool) : Nat → Bool := fun k => if 0 ≤ i ∧ i < n ∧ k = i.toNat then on else f k

theorem words_set (f : Nat → Bool) (nw n j : Nat) (on : Bool) (hj : j < n) (hnw : nw = (n + 63) / 64) :
    (wordsArr f nw).setIfInBounds (j / 64) (.int .u64 (wordOf (fun k => if k = j then on else f k) (j / 64) : Int)) = wordsArr (setF n f j on) nw := by
  have e : setF n f j on = fun k => if k = j then on else f k := by
    funext k
    simp [setF, hj]
  rw [e]
  apply Array.ext_getElem?
  intro i
  rw [Array.getElem?_setIfInBounds]
  by_cases hi : i < nw
  · by_cases h : j / 64 = i
    · subst h
      simp [wordsArr, hi]
    · rw [if_neg h]
      have : wordOf (fun k => if k = j then on else f k) i = wordOf f i := wordOf_ext i fun k hk => by
        have : ¬ 64 * i + k = j := by omega
        simp [this]
      simp [wordsArr, hi, this]
  · have : j / 64 ≠ i := by omega
    simp [wordsArr, hi, this]

theorem set_flip (pb sb n : Nat) (f : Nat → Bool) (j : Nat) (on : Bool) (w : World) (h : IsBits w pb sb n f) (hj : j < n) (hf : (f j == on) = false) :
    Calls Tryz.prog 96 #[.pointer (some ⟨pb, 0, none⟩), .int .i64 j, .bool on] w fun e w' => e = .returned (.bool true) ∧ IsBits w' pb sb n (setF n f j on) ∧ Keep (· = sb) w w' := by
  have hn := h.hn
  have hl := h.len
  have hs := h.sl
  have hc := h.word (j := j / 64) (by omega)
  have hz := h.hs.frozen (j / 64)
  have hh : hasB n f j = f j := by simp [hasB, hj]
  go_enter Tryz.func96, Tryz.ntmps96
  go_wp2_with (first | (go_at_call 109; refine (there_in _ _ _ _ (by omega) (by omega) hl).mono ?_; rintro e w' ⟨rfl, rfl⟩) | (go_at_call 110; refine (has_any _ _ _ _ _ _ h).mono ?_; rintro e w' ⟨rfl, rfl⟩))
  go_region
  go_wp2
  go_ret
  refine ⟨rfl, ⟨hn, (h.hp.far (p := ⟨sb, j / 64, none⟩) (h.hp.ne h.hs (by decide)) _).drew, ?_, ?_⟩, ((Keep.refl (· = sb) w).setCell (p := ⟨sb, j / 64, none⟩) (.inl rfl) _).drew⟩
  · have hb := (h.hs.put (j / 64) (.int .u64 (bits BinOp.xor IntKind.u64 (wordOf f (j / 64) : Int) (IntKind.u64.wrap (2 ^ (j % 64)))))).drew
    rw [xor_word f j on hf, words_set f _ n j on hj rfl] at hb
    rw [xor_word f j on hf]
    exact hb
  · intro k hk
    have := h.hf k hk
    unfold setF
    rw [if_neg (by omega)]
    exact this

theorem set_not (pb sb n : Nat) (f : Nat → Bool) (i : Int) (on : Bool) (w : World) (h : IsBits w pb sb n f) (hf : setB n f i on = false) :
    Calls Tryz.prog 96 #[.pointer (some ⟨pb, 0, none⟩), .int .i64 i, .bool on] w fun e w' => e = .returned (.bool false) ∧ w = w' := by
  have hl := h.len
  by_cases h0 : 0 ≤ i ∧ i < n
  · obtain ⟨j, rfl⟩ := Int.eq_ofNat_of_zero_le h0.1
    have h1 : j < n := by omega
    have hh : hasB n f j = f j := by simp [hasB, h1]
    have h2 : (f j == on) = true := by
      simp [setB, h1] at hf
      simp [hf]
    clear hf h0
    go_enter Tryz.func96, Tryz.ntmps96
    go_wp2_with (first | (go_at_call 109; refine (there_in _ _ _ _ (by omega) (by omega) hl).mono ?_; rintro e w' ⟨rfl, rfl⟩) | (go_at_call 110; refine (has_any _ _ _ _ _ _ h).mono ?_; rintro e w' ⟨rfl, rfl⟩))
    go_ret
    exact ⟨rfl, rfl⟩
  · have h2 : i < 0 ∨ (n : Int) ≤ i := by omega
    clear hf h0
    go_enter Tryz.func96, Tryz.ntmps96
    go_wp2_with (first | (go_at_call 109; refine (there_out _ _ _ _ h2 hl).mono ?_; rintro e w' ⟨rfl, rfl⟩))
    go_ret
    exact ⟨rfl, rfl⟩

theorem set_any (pb sb n : Nat) (f : Nat → Bool) (i : Int) (on : Bool) (w : World) (h : IsBits w pb sb n f) :
    Calls Tryz.prog 96 #[.pointer (some ⟨pb, 0, none⟩), .int .i64 i, .bool on] w fun e w' => e = .returned (.bool (setB n f i on)) ∧ IsBits w' pb sb n (setF n f i on) ∧ Keep (· = sb) w w' := by
  by_cases hf : setB n f i on
  · have hf' := hf
    simp only [setB, Bool.and_eq_true, decide_eq_true_eq] at hf'
    obtain ⟨j, rfl⟩ := Int.eq_ofNat_of_zero_le hf'.1.1
    rw [hf]
    exact set_flip pb sb n f j on w h (by omega) (by simpa using hf'.2)
  · have hf' : setB n f i on = false := by simpa using hf
    rw [hf']
    refine (set_not pb sb n f i on w h hf').mono ?_
    rintro e w' ⟨rfl, rfl⟩
    have e : setF n f i on = f := by
      funext k
      unfold setF
      split
      · rename_i hk
        obtain ⟨h1, h2, rfl⟩ := hk
        simp [setB, h1, h2] at hf'
        exact hf'.symm
      · rfl
    rw [e]
    exact ⟨rfl, h, Keep.refl _ _⟩

theorem set_yes (pb sb n : Nat) (f : Nat → Bool) (i : Int) (on : Bool) (w : World) (h : IsBits w pb sb n f) (hf : Hid (setB n f i on = true)) :
    Calls Tryz.prog 96 #[.pointer (some ⟨pb, 0, none⟩), .int .i64 i, .bool on] w fun e w' => e = .returned (.bool true) ∧ IsBits w' pb sb n (setF n f i on) ∧ Keep (· = sb) w w' := by
  have := set_any pb sb n f i on w h
  rw [hf.out] at this
  exact this
theorem set_no (pb sb n : Nat) (f : Nat → Bool) (i : Int) (on : Bool) (w : World) (h : IsBits w pb sb n f) (hf : Hid (setB n f i on = false)) :
    Calls Tryz.prog 96 #[.pointer (some ⟨pb, 0, none⟩), .int .i64 i, .bool on] w fun e w' => e = .returned (.bool false) ∧ w = w' := set_not pb sb n f i on w h hf.out
end Go.Proofs.YtdjgjffgheocfaaGreat
