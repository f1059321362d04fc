/- Contracts of package valid: Next. -/
import Derived.Test.YtipfpcfepfkehaaDoorVb1
import Derived.Test.YtipfpcfepfkehaaDoorShelf29
import Derived.Shelf.Spec.TrailingZeros
import Derived.Lib.Hide
namespace Go.Proofs.YtipfpcfepfkehaaDoor
open Go.RowKit

/-- The first bit that is set, from a on. -/
def nextO (n : Nat) (f : Nat → Bool) (a : Nat) : Option Nat := (List.range' a (n - a)).find? f
theorem nextO_none {n : Nat} {f : Nat → Bool} {a : Nat} (h : ∀ k, a ≤ k → k < n → f k = false) : nextO n f a = none := by
  unfold nextO
  rw [List.find?_eq_none]
  intro k hk
  rw [List.mem_range'_1] at hk
  simp [h k hk.1 (by omega)]
theorem nextO_some {n : Nat} {f : Nat → Bool} {a k : Nat} (h1 : a ≤ k) (h2 : k < n) (h3 : f k = true) (h4 : ∀ j, a ≤ j → j < k → f j = false) : nextO n f a = some k := by
  unfold nextO
  rw [List.find?_eq_some_iff_getElem]
  refine ⟨h3, k - a, by simp; omega, by simp; omega, fun j hj => ?_⟩
  simp [h4 (a + j) (by omega) (by omega)]
theorem nextO_iff {n : Nat} {f : Nat → Bool} {a k : Nat} (h : nextO n f a = some k) : a ≤ k ∧ k < n ∧ f k = true ∧ ∀ j, a ≤ j → j < k → f j = false := by
  unfold nextO at h
  rw [List.find?_eq_some_iff_getElem] at h
  obtain ⟨h1, j, hj, h2, h3⟩ := h
  simp at hj h2
  refine ⟨by omega, by omega, h1, fun i hi hlt => ?_⟩
  have := h3 (i - a) (by omega)
  simp at this
  rwa [show a + (i - a) = i by omega] at this
theorem nextO_iff_none {n : Nat} {f : Nat → Bool} {a : Nat} (h : nextO n f a = none) : ∀ k, a ≤ k → k < n → f k = false := by
  unfold nextO at h
  rw [List.find?_eq_none] at h
  intro k h1 h2
  simpa using h k (by rw [List.mem_range'_1]; omega)
def nextVal : Option Nat → Value
  | none => .tuple #[.int .i64 0, .bool false]
  | some k => .tuple #[.int .i64 k, .bool true]
theorem next_end {n : Nat} {f : Nat → Bool} {a j nw : Nat} (hnw : nw = (n + 63) / 64) (hj : j + 1 = nw) (hz : wordOf (maskF a f) j = 0) (hb : ∀ k, a ≤ k → k < 64 * j → f k = false) : nextO n f a = none := by
  apply nextO_none
  intro k h1 h2
  by_cases hk : k < 64 * j
  · exact hb k h1 hk
  · have := (wordOf_zero _ _).1 hz (k - 64 * j) (by omega)
    simpa [maskF, show 64 * j + (k - 64 * j) = k by omega, h1] using this
theorem next_hit {n : Nat} {f : Nat → Bool} {a j : Nat} (hz : wordOf (maskF a f) j ≠ 0) (hb : ∀ k, a ≤ k → k < 64 * j → f k = false) (hf : ∀ k, n ≤ k → f k = false) :
    nextO n f a = some (64 * j + Lib.ctz 64 (wordOf (maskF a f) j)) ∧ Lib.ctz 64 (wordOf (maskF a f) j) < 64 ∧ 64 * j + Lib.ctz 64 (wordOf (maskF a f) j) < n := by
  obtain ⟨h1, h2, h3⟩ := ctz_word _ _ hz
  simp only [maskF, Bool.and_eq_true, decide_eq_true_eq] at h2
  have hlt : 64 * j + Lib.ctz 64 (wordOf (maskF a f) j) < n := by
    rcases Nat.lt_or_ge (64 * j + Lib.ctz 64 (wordOf (maskF a f) j)) n with h | h
    · exact h
    · have := hf _ h
      rw [this] at h2
      exact absurd h2.2 (by simp)
  refine ⟨nextO_some h2.1 hlt h2.2 fun i hi hlt => ?_, h1, hlt⟩
  by_cases hk : i < 64 * j
  · exact hb i hi hk
  · have := h3 (i - 64 * j) (by omega)
    simpa [maskF, show 64 * j + (i - 64 * j) = i by omega, hi] using this
theorem next_more {f : Nat → Bool} {a j : Nat} (hz : wordOf (maskF a f) j = 0) (hb : ∀ k, a ≤ k → k < 64 * j → f k = false) : ∀ k, a ≤ k → k < 64 * (j + 1) → f k = false := by
  intro k h1 h2
  by_cases hk : k < 64 * j
  · exact hb k h1 hk
  · have := (wordOf_zero _ _).1 hz (k - 64 * j) (by omega)
    simpa [maskF, show 64 * j + (k - 64 * j) = k by omega, h1] using this
theorem tz_any (x : Nat) (hx : x < 18446744073709551616) (w : World) (hT : TabAt 0 Lib.deBruijn64tab w) :
    Calls Tryd.prog 25 #[.int .u64 x] w fun e w' => e = .returned (.int .i64 (Lib.ctz 64 x)) ∧ w = w' :=
  (Any7.bits_TrailingZeros64 Tryd.lays29 x hx w (fun _ => hT)).mono fun _ _ h => ⟨h.1, h.2.symm⟩
theorem ret_tup {v v' : Value} (h : v = v') : Ending.returned v = .returned v' := by rw [h]

theorem next_in (pb sb n : Nat) (f : Nat → Bool) (i : Int) (a : Nat) (w : World) (h : IsBits w pb sb n f) (hT : TabAt 0 Lib.deBruijn64tab w) (hi : (i < 0 ∧ a = 0) ∨ i = a) (ha : a < n) :
    Calls Tryd.prog 24 #[.pointer (some ⟨pb, 0, none⟩), .int .i64 i] w fun e w' => e = .returned (nextVal (nextO n f a)) ∧ w = w' := by
  have hl := h.len
  have hs := h.sl
  have hn := h.hn
  have HF := Lib.hid h.hf
  have HW : ∀ j, j < (n + 63) / 64 → w.cell? ⟨sb, j, none⟩ = some (.int .u64 (wordOf f j)) := fun j hj => h.word hj
  have hc := HW (a / 64) (by omega)
  have HH := Lib.hid HW
  clear HW h
  have HM : Hid (Value.int .u64 (IntKind.u64.wrap ((wordOf f (a / 64) : Int) / 2 ^ (a % 64) * 2 ^ (a % 64))) = .int .u64 (wordOf (maskF a f) (a / 64))) := Lib.hid (by rw [mask_word])
  have hc0 := HH.out 0 (by omega)
  have HM0 : Hid (a = 0 → Value.int .u64 (IntKind.u64.wrap (wordOf f 0)) = .int .u64 (wordOf (maskF a f) 0)) := Lib.hid fun h => by
    subst h
    have := mask_word f 0
    simp at this
    rw [this]
  rcases hi with ⟨hi, ha0⟩ | rfl
  · have H0 := Lib.hid ha0
    clear ha0
    go_enter Tryd.func24, Tryd.ntmps24
    go_wp2_with (fail)
    go_loop [6, 7] (fun at_ v => ∃ j : Nat, j < (n + 63) / 64 ∧ a ≤ 64 * (j + 1) ∧ at_ = .int .i64 j ∧ v = .int .u64 (wordOf (maskF a f) j) ∧ Hid (∀ k, a ≤ k → k < 64 * j → f k = false)) (fun at_ _ => (n + 63) / 64 - (intOf at_).toNat)
    case atStart =>
      exact ⟨0, by omega, by have := H0.out; omega, rfl, HM0.out H0.out, Lib.hid fun k h1 h2 => by omega⟩
    case round =>
      obtain ⟨j, hj, hja, rfl, rfl, hb⟩ := hrel
      by_cases hz : wordOf (maskF a f) j = 0
      · by_cases hend : j + 1 = (n + 63) / 64
        · have hno := Lib.hid (next_end rfl hend hz hb.out)
          have hend2 : ((n + 63) / 64 : Nat) = j + 1 := hend.symm
          clear hend
          go_wp2
          go_ret2
          exact ⟨ret_tup (by rw [hno.out]; rfl), rfl⟩
        · have hc2 := HH.out (j + 1) (by omega)
          have hmo := Lib.hid (next_more hz hb.out)
          have hmn := Lib.hid (mask_next f a (j + 1) hja)
          go_wp2
          go_round
          case rel => exact ⟨j + 1, by omega, by omega, by go_num, by rw [hmn.out], hmo⟩
          case measure => simp [intOf]; omega
      · have hhit := next_hit hz hb.out HF.out
        have hlt := wordOf_lt (maskF a f) j
        have h1 := hhit.2.1
        have h2 := hhit.2.2
        have HI := Lib.hid hhit.1
        clear hhit
        go_wp2_with (go_at_call 25; refine (tz_any _ hlt _ hT).mono ?_; rintro e w' ⟨rfl, rfl⟩)
        go_ret2
        exact ⟨ret_tup (by rw [HI.out]; simp [nextVal, Int.mul_comm]), rfl⟩
  · go_enter Tryd.func24, Tryd.ntmps24
    go_wp2_with (fail)
    go_loop [6, 7] (fun at_ v => ∃ j : Nat, j < (n + 63) / 64 ∧ a ≤ 64 * (j + 1) ∧ at_ = .int .i64 j ∧ v = .int .u64 (wordOf (maskF a f) j) ∧ Hid (∀ k, a ≤ k → k < 64 * j → f k = false)) (fun at_ _ => (n + 63) / 64 - (intOf at_).toNat)
    case atStart =>
      exact ⟨a / 64, by omega, by omega, by simp, HM.out, Lib.hid fun k h1 h2 => by omega⟩
    case round =>
      obtain ⟨j, hj, hja, rfl, rfl, hb⟩ := hrel
      by_cases hz : wordOf (maskF a f) j = 0
      · by_cases hend : j + 1 = (n + 63) / 64
        · have hno := Lib.hid (next_end rfl hend hz hb.out)
          have hend2 : ((n + 63) / 64 : Nat) = j + 1 := hend.symm
          clear hend
          go_wp2
          go_ret2
          exact ⟨ret_tup (by rw [hno.out]; rfl), rfl⟩
        · have hc2 := HH.out (j + 1) (by omega)
          have hmo := Lib.hid (next_more hz hb.out)
          have hmn := Lib.hid (mask_next f a (j + 1) hja)
          go_wp2
          go_round
          case rel => exact ⟨j + 1, by omega, by omega, by go_num, by rw [hmn.out], hmo⟩
          case measure => simp [intOf]; omega
      · have hhit := next_hit hz hb.out HF.out
        have hlt := wordOf_lt (maskF a f) j
        have h1 := hhit.2.1
        have h2 := hhit.2.2
        have HI := Lib.hid hhit.1
        clear hhit
        go_wp2_with (go_at_call 25; refine (tz_any _ hlt _ hT).mono ?_; rintro e w' ⟨rfl, rfl⟩)
        go_ret2
        exact ⟨ret_tup (by rw [HI.out]; simp [nextVal, Int.mul_comm]), rfl⟩
end Go.Proofs.YtipfpcfepfkehaaDoor
