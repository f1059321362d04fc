/- Contracts of package valid: Set, Next, Count, Len, New. -/
import Derived.Test.YtkkjfooijegpoaaDoorVb1
import Derived.Test.YtkkjfooijegpoaaDoorShelf29
import Derived.Shelf.Spec.TrailingZeros
import Derived.Outline
import Derived.Lib.Hide
namespace Go.Proofs.YtkkjfooijegpoaaDoor
open Go.RowKit

def setB (n : Nat) (f : Nat → Bool) (i : Int) (on : Bool) : Bool := decide (0 ≤ i) && decide (i < n) && (f i.toNat != on)
def setF (n : Nat) (f : Nat → Bool) (i : Int) (on : Bool) : Nat → Bool := fun k => if 0 ≤ i ∧ i < n ∧ k = i.toNat then on else f k

theorem words_set (f : Nat → Bool) (nw n j : Nat) (on : Bool) (hj : j < n) (hnw : nw = (n + 63) / 64) :
    (wordsArr f nw).setIfInBounds (j / 64) (.int .u64 (wordOf (fun k => if k = j then on else f k) (j / 64) : Int)) = wordsArr (setF n f j on) nw := by
  have e : setF n f j on = fun k => if k = j then on else f k := by
    funext k
    simp [setF, hj]
  rw [e]
  apply Array.ext_getElem?
  intro i
  rw [Array.getElem?_setIfInBounds]
  by_cases hi : i < nw
  · by_cases h : j / 64 = i
    · subst h
      simp [wordsArr, hi]
    · rw [if_neg h]
      have : wordOf (fun k => if k = j then on else f k) i = wordOf f i := wordOf_ext i fun k hk => by
        have : ¬ 64 * i + k = j := by omega
        simp [this]
      simp [wordsArr, hi, this]
  · have : j / 64 ≠ i := by omega
    simp [wordsArr, hi, this]

theorem set_flip (pb sb n : Nat) (f : Nat → Bool) (j : Nat) (on : Bool) (w : World) (h : IsBits w pb sb n f) (hj : j < n) (hf : (f j == on) = false) :
    Calls Tryd.prog 9 #[.pointer (some ⟨pb, 0, none⟩), .int .i64 j, .bool on] w fun e w' => e = .returned (.bool true) ∧ IsBits w' pb sb n (setF n f j on) ∧ Keep (· = sb) w w' := by
  have hn := h.hn
  have hl := h.len
  have hs := h.sl
  have hc := h.word (j := j / 64) (by omega)
  have hz := h.hs.frozen (j / 64)
  have hh : hasB n f j = f j := by simp [hasB, hj]
  go_enter Tryd.func9, Tryd.ntmps9
  go_wp2_with (first | (go_at_call 14; refine (there_in _ _ _ _ (by omega) (by omega) hl).mono ?_; rintro e w' ⟨rfl, rfl⟩) | (go_at_call 10; refine (has_any _ _ _ _ _ _ h).mono ?_; rintro e w' ⟨rfl, rfl⟩))
  go_region
  go_wp2
  go_ret
  refine ⟨rfl, ⟨hn, (h.hp.far (p := ⟨sb, j / 64, none⟩) (h.hp.ne h.hs (by decide)) _).drew, ?_, ?_⟩, ((Keep.refl (· = sb) w).setCell (p := ⟨sb, j / 64, none⟩) (.inl rfl) _).drew⟩
  · have hb := (h.hs.put (j / 64) (.int .u64 (bits BinOp.xor IntKind.u64 (wordOf f (j / 64) : Int) (IntKind.u64.wrap (2 ^ (j % 64)))))).drew
    rw [xor_word f j on hf, words_set f _ n j on hj rfl] at hb
    rw [xor_word f j on hf]
    exact hb
  · intro k hk
    have := h.hf k hk
    unfold setF
    rw [if_neg (by omega)]
    exact this

theorem set_not (pb sb n : Nat) (f : Nat → Bool) (i : Int) (on : Bool) (w : World) (h : IsBits w pb sb n f) (hf : setB n f i on = false) :
    Calls Tryd.prog 9 #[.pointer (some ⟨pb, 0, none⟩), .int .i64 i, .bool on] w fun e w' => e = .returned (.bool false) ∧ w = w' := by
  have hl := h.len
  by_cases h0 : 0 ≤ i ∧ i < n
  · obtain ⟨j, rfl⟩ := Int.eq_ofNat_of_zero_le h0.1
    have h1 : j < n := by omega
    have hh : hasB n f j = f j := by simp [hasB, h1]
    have h2 : (f j == on) = true := by
      simp [setB, h1] at hf
      simp [hf]
    clear hf h0
    go_enter Tryd.func9, Tryd.ntmps9
    go_wp2_with (first | (go_at_call 14; refine (there_in _ _ _ _ (by omega) (by omega) hl).mono ?_; rintro e w' ⟨rfl, rfl⟩) | (go_at_call 10; refine (has_any _ _ _ _ _ _ h).mono ?_; rintro e w' ⟨rfl, rfl⟩))
    go_ret
    exact ⟨rfl, rfl⟩
  · have h2 : i < 0 ∨ (n : Int) ≤ i := by omega
    clear hf h0
    go_enter Tryd.func9, Tryd.ntmps9
    go_wp2_with (first | (go_at_call 14; refine (there_out _ _ _ _ h2 hl).mono ?_; rintro e w' ⟨rfl, rfl⟩))
    go_ret
    exact ⟨rfl, rfl⟩

theorem set_any (pb sb n : Nat) (f : Nat → Bool) (i : Int) (on : Bool) (w : World) (h : IsBits w pb sb n f) :
    Calls Tryd.prog 9 #[.pointer (some ⟨pb, 0, none⟩), .int .i64 i, .bool on] w fun e w' => e = .returned (.bool (setB n f i on)) ∧ IsBits w' pb sb n (setF n f i on) ∧ Keep (· = sb) w w' := by
  by_cases hf : setB n f i on
  · have hf' := hf
    simp only [setB, Bool.and_eq_true, decide_eq_true_eq] at hf'
    obtain ⟨j, rfl⟩ := Int.eq_ofNat_of_zero_le hf'.1.1
    rw [hf]
    exact set_flip pb sb n f j on w h (by omega) (by simpa using hf'.2)
  · have hf' : setB n f i on = false := by simpa using hf
    rw [hf']
    refine (set_not pb sb n f i on w h hf').mono ?_
    rintro e w' ⟨rfl, rfl⟩
    have e : setF n f i on = f := by
      funext k
      unfold setF
      split
      · rename_i hk
        obtain ⟨h1, h2, rfl⟩ := hk
        simp [setB, h1, h2] at hf'
        exact hf'.symm
      · rfl
    rw [e]
    exact ⟨rfl, h, Keep.refl _ _⟩

theorem len_any (pb sb n : Nat) (f : Nat → Bool) (w : World) (h : IsBits w pb sb n f) :
    Calls Tryd.prog 13 #[.pointer (some ⟨pb, 0, none⟩)] w fun e w' => e = .returned (.int .i64 n) ∧ w = w' := by
  have hl := h.len
  clear h
  go_enter Tryd.func13, Tryd.ntmps13
  go_wp2
  go_ret
  exact ⟨rfl, rfl⟩

/-- The first bit that is set, from a on. -/
def nextO (n : Nat) (f : Nat → Bool) (a : Nat) : Option Nat := (List.range' a (n - a)).find? f
theorem nextO_none {n : Nat} {f : Nat → Bool} {a : Nat} (h : ∀ k, a ≤ k → k < n → f k = false) : nextO n f a = none := by
  unfold nextO
  rw [List.find?_eq_none]
  intro k hk
  rw [List.mem_range'_1] at hk
  simp [h k hk.1 (by omega)]
theorem nextO_some {n : Nat} {f : Nat → Bool} {a k : Nat} (h1 : a ≤ k) (h2 : k < n) (h3 : f k = true) (h4 : ∀ j, a ≤ j → j < k → f j = false) : nextO n f a = some k := by
  unfold nextO
  rw [List.find?_eq_some_iff_getElem]
  refine ⟨h3, k - a, by simp; omega, by simp; omega, fun j hj => ?_⟩
  simp [h4 (a + j) (by omega) (by omega)]
theorem nextO_iff {n : Nat} {f : Nat → Bool} {a k : Nat} (h : nextO n f a = some k) : a ≤ k ∧ k < n ∧ f k = true ∧ ∀ j, a ≤ j → j < k → f j = false := by
  unfold nextO at h
  rw [List.find?_eq_some_iff_getElem] at h
  obtain ⟨h1, j, hj, h2, h3⟩ := h
  simp at hj h2
  refine ⟨by omega, by omega, h1, fun i hi hlt => ?_⟩
  have := h3 (i - a) (by omega)
  simp at this
  rwa [show a + (i - a) = i by omega] at this
theorem nextO_iff_none {n : Nat} {f : Nat → Bool} {a : Nat} (h : nextO n f a = none) : ∀ k, a ≤ k → k < n → f k = false := by
  unfold nextO at h
  rw [List.find?_eq_none] at h
  intro k h1 h2
  simpa using h k (by rw [List.mem_range'_1]; omega)
def nextVal : Option Nat → Value
  | none => .tuple #[.int .i64 0, .bool false]
  | some k => .tuple #[.int .i64 k, .bool true]
theorem next_end {n : Nat} {f : Nat → Bool} {a j nw : Nat} (hnw : nw = (n + 63) / 64) (hj : j + 1 = nw) (hz : wordOf (maskF a f) j = 0) (hb : ∀ k, a ≤ k → k < 64 * j → f k = false) : nextO n f a = none := by
  apply nextO_none
  intro k h1 h2
  by_cases hk : k < 64 * j
  · exact hb k h1 hk
  · have := (wordOf_zero _ _).1 hz (k - 64 * j) (by omega)
    simpa [maskF, show 64 * j + (k - 64 * j) = k by omega, h1] using this
theorem next_hit {n : Nat} {f : Nat → Bool} {a j : Nat} (hz : wordOf (maskF a f) j ≠ 0) (hb : ∀ k, a ≤ k → k < 64 * j → f k = false) (hf : ∀ k, n ≤ k → f k = false) :
    nextO n f a = some (64 * j + Lib.ctz 64 (wordOf (maskF a f) j)) ∧ Lib.ctz 64 (wordOf (maskF a f) j) < 64 ∧ 64 * j + Lib.ctz 64 (wordOf (maskF a f) j) < n := by
  obtain ⟨h1, h2, h3⟩ := ctz_word _ _ hz
  simp only [maskF, Bool.and_eq_true, decide_eq_true_eq] at h2
  have hlt : 64 * j + Lib.ctz 64 (wordOf (maskF a f) j) < n := by
    rcases Nat.lt_or_ge (64 * j + Lib.ctz 64 (wordOf (maskF a f) j)) n with h | h
    · exact h
    · have := hf _ h
      rw [this] at h2
      exact absurd h2.2 (by simp)
  refine ⟨nextO_some h2.1 hlt h2.2 fun i hi hlt => ?_, h1, hlt⟩
  by_cases hk : i < 64 * j
  · exact hb i hi hk
  · have := h3 (i - 64 * j) (by omega)
    simpa [maskF, show 64 * j + (i - 64 * j) = i by omega, hi] using this
theorem next_more {f : Nat → Bool} {a j : Nat} (hz : wordOf (maskF a f) j = 0) (hb : ∀ k, a ≤ k → k < 64 * j → f k = false) : ∀ k, a ≤ k → k < 64 * (j + 1) → f k = false := by
  intro k h1 h2
  by_cases hk : k < 64 * j
  · exact hb k h1 hk
  · have := (wordOf_zero _ _).1 hz (k - 64 * j) (by omega)
    simpa [maskF, show 64 * j + (k - 64 * j) = k by omega, h1] using this
theorem tz_any (x : Nat) (hx : x < 18446744073709551616) (w : World) (hT : TabAt 0 Lib.deBruijn64tab w) :
    Calls Tryd.prog 15 #[.int .u64 x] w fun e w' => e = .returned (.int .i64 (Lib.ctz 64 x)) ∧ w = w' :=
  (Any7.bits_TrailingZeros64 Tryd.lays29 x hx w (fun _ => hT)).mono fun _ _ h => ⟨h.1, h.2.symm⟩
theorem ret_tup {v v' : Value} (h : v = v') : Ending.returned v = .returned v' := by rw [h]

theorem next_in (pb sb n : Nat) (f : Nat → Bool) (i : Int) (a : Nat) (w : World) (h : IsBits w pb sb n f) (hT : TabAt 0 Lib.deBruijn64tab w) (hi : (i < 0 ∧ a = 0) ∨ i = a) (ha : a < n) :
    Calls Tryd.prog 12 #[.pointer (some ⟨pb, 0, none⟩), .int .i64 i] w fun e w' => e = .returned (nextVal (nextO n f a)) ∧ w = w' := by
  have hl := h.len
  have hs := h.sl
  have hn := h.hn
  have HF := Lib.hid h.hf
  have HW : ∀ j, j < (n + 63) / 64 → w.cell? ⟨sb, j, none⟩ = some (.int .u64 (wordOf f j)) := fun j hj => h.word hj
  have hc := HW (a / 64) (by omega)
  have HH := Lib.hid HW
  clear HW h
  have HM : Hid (Value.int .u64 (IntKind.u64.wrap ((wordOf f (a / 64) : Int) / 2 ^ (a % 64) * 2 ^ (a % 64))) = .int .u64 (wordOf (maskF a f) (a / 64))) := Lib.hid (by rw [mask_word])
  have hc0 := HH.out 0 (by omega)
  have HM0 : Hid (a = 0 → Value.int .u64 (IntKind.u64.wrap (wordOf f 0)) = .int .u64 (wordOf (maskF a f) 0)) := Lib.hid fun h => by
    subst h
    have := mask_word f 0
    simp at this
    rw [this]
  rcases hi with ⟨hi, ha0⟩ | rfl
  · have H0 := Lib.hid ha0
    clear ha0
    go_enter Tryd.func12, Tryd.ntmps12
    go_wp2_with (fail)
    go_loop [6, 7] (fun at_ v => ∃ j : Nat, j < (n + 63) / 64 ∧ a ≤ 64 * (j + 1) ∧ at_ = .int .i64 j ∧ v = .int .u64 (wordOf (maskF a f) j) ∧ Hid (∀ k, a ≤ k → k < 64 * j → f k = false)) (fun at_ _ => (n + 63) / 64 - (intOf at_).toNat)
    case atStart =>
      exact ⟨0, by omega, by have := H0.out; omega, rfl, HM0.out H0.out, Lib.hid fun k h1 h2 => by omega⟩
    case round =>
      obtain ⟨j, hj, hja, rfl, rfl, hb⟩ := hrel
      by_cases hz : wordOf (maskF a f) j = 0
      · by_cases hend : j + 1 = (n + 63) / 64
        · have hno := Lib.hid (next_end rfl hend hz hb.out)
          have hend2 : ((n + 63) / 64 : Nat) = j + 1 := hend.symm
          clear hend
          go_wp2
          go_ret2
          exact ⟨ret_tup (by rw [hno.out]; rfl), rfl⟩
        · have hc2 := HH.out (j + 1) (by omega)
          have hmo := Lib.hid (next_more hz hb.out)
          have hmn := Lib.hid (mask_next f a (j + 1) hja)
          go_wp2
          go_round
          case rel => exact ⟨j + 1, by omega, by omega, by go_num, by rw [hmn.out], hmo⟩
          case measure => simp [intOf]; omega
      · have hhit := next_hit hz hb.out HF.out
        have hlt := wordOf_lt (maskF a f) j
        have h1 := hhit.2.1
        have h2 := hhit.2.2
        have HI := Lib.hid hhit.1
        clear hhit
        go_wp2_with (go_at_call 15; refine (tz_any _ hlt _ hT).mono ?_; rintro e w' ⟨rfl, rfl⟩)
        go_ret2
        exact ⟨ret_tup (by rw [HI.out]; simp [nextVal, Int.mul_comm]), rfl⟩
  · go_enter Tryd.func12, Tryd.ntmps12
    go_wp2_with (fail)
    go_loop [6, 7] (fun at_ v => ∃ j : Nat, j < (n + 63) / 64 ∧ a ≤ 64 * (j + 1) ∧ at_ = .int .i64 j ∧ v = .int .u64 (wordOf (maskF a f) j) ∧ Hid (∀ k, a ≤ k → k < 64 * j → f k = false)) (fun at_ _ => (n + 63) / 64 - (intOf at_).toNat)
    case atStart =>
      exact ⟨a / 64, by omega, by omega, by simp, HM.out, Lib.hid fun k h1 h2 => by omega⟩
    case round =>
      obtain ⟨j, hj, hja, rfl, rfl, hb⟩ := hrel
      by_cases hz : wordOf (maskF a f) j = 0
      · by_cases hend : j + 1 = (n + 63) / 64
        · have hno := Lib.hid (next_end rfl hend hz hb.out)
          have hend2 : ((n + 63) / 64 : Nat) = j + 1 := hend.symm
          clear hend
          go_wp2
          go_ret2
          exact ⟨ret_tup (by rw [hno.out]; rfl), rfl⟩
        · have hc2 := HH.out (j + 1) (by omega)
          have hmo := Lib.hid (next_more hz hb.out)
          have hmn := Lib.hid (mask_next f a (j + 1) hja)
          go_wp2
          go_round
          case rel => exact ⟨j + 1, by omega, by omega, by go_num, by rw [hmn.out], hmo⟩
          case measure => simp [intOf]; omega
      · have hhit := next_hit hz hb.out HF.out
        have hlt := wordOf_lt (maskF a f) j
        have h1 := hhit.2.1
        have h2 := hhit.2.2
        have HI := Lib.hid hhit.1
        clear hhit
        go_wp2_with (go_at_call 15; refine (tz_any _ hlt _ hT).mono ?_; rintro e w' ⟨rfl, rfl⟩)
        go_ret2
        exact ⟨ret_tup (by rw [HI.out]; simp [nextVal, Int.mul_comm]), rfl⟩
end Go.Proofs.YtkkjfooijegpoaaDoor
