/- The reference's products, powers and inverses of symbols. -/
import Derived.Test.YtnejnoiogojplaaField2
namespace Go.Proofs.Ytnejnoiogojplaa
open Go.RowKit

theorem gmr_odd (k x y : Nat) (h : y % 2 = 1) : gmr (k + 1) x y = x ^^^ gmr k (xt x) (y / 2) := by simp [gmr, h]
theorem gmr_even (k x y : Nat) (h : ¬ y % 2 = 1) : gmr (k + 1) x y = gmr k (xt x) (y / 2) := by simp [gmr, h]

theorem xor_two {x : Nat} (h : x < 4096) : bits .xor .i64 ((x : Int) * 2) 1033 = (((2 * x) ^^^ 1033 : Nat) : Int) := by
  have b2 := xor_i64 (a := 2 * x) (b := 1033) (by omega) (by omega)
  have b3 : (((2 * x : Nat) : Int)) = (x : Int) * 2 := by omega
  rw [b3] at b2
  exact b2

set_option maxRecDepth 100000 in
set_option maxHeartbeats 2000000 in
theorem rmul_any (a b : Nat) (w : World) (ha : a < 65536) (hb : b < 65536) :
    Calls Try.prog 29 #[.int .u16 a, .int .u16 b] w fun e w' => e = .returned (.int .u16 (gm (a % 1024) (b % 1024) : Nat)) ∧ w = w' := by
  have h1 := and_1023 ha
  have h2 := and_1023 hb
  have hA : a % 1024 < 1024 := Nat.mod_lt _ (by omega)
  have hB : b % 1024 < 1024 := Nat.mod_lt _ (by omega)
  have e1 : IntKind.i64.wrap ((a % 1024 : Nat) : Int) = ((a % 1024 : Nat) : Int) := wraps_i64 _ (by omega) (by omega)
  have e2 : IntKind.i64.wrap ((b % 1024 : Nat) : Int) = ((b % 1024 : Nat) : Int) := wraps_i64 _ (by omega) (by omega)
  generalize a % 1024 = A at *
  generalize b % 1024 = B at *
  clear ha hb
  go_enter Try.func29, Try.ntmps29
  go_wp2
  clear h1 h2 e1 e2
  go_loop [5, 6, 7] (fun vx vy vo => ∃ k x y o : Nat, vx = .int .i64 x ∧ vy = .int .i64 y ∧ vo = .int .i64 o ∧ x < 1024 ∧ o < 1024 ∧ y < 1024 ∧ y < 2 ^ k ∧ Hid (o ^^^ gmr k x y = gm A B)) (fun _ vy _ => (intOf vy).toNat)
  case atStart => exact ⟨10, A, B, 0, rfl, rfl, rfl, hA, by omega, hB, by simpa using hB, Lib.hid (by rw [Nat.zero_xor]; rfl)⟩
  case round =>
    obtain ⟨k, x, y, o, rfl, rfl, rfl, hx, ho, hy, hyk, HE⟩ := hrel
    by_cases hy0 : y = 0
    · subst hy0
      have HO := Lib.hid (show o = gm A B by have := HE.out; rwa [gmr_zero_right, Nat.xor_zero] at this)
      have e3 : IntKind.u16.wrap ((o : Nat) : Int) = (o : Int) := wraps_u16 _ (by omega) (by omega)
      go_wp2
      go_ret
      rw [HO.out]
      exact ⟨rfl, rfl⟩
    · obtain ⟨k, rfl⟩ : ∃ j, k = j + 1 := by
        rcases k with _ | k
        · simp at hyk; omega
        · exact ⟨k, rfl⟩
      have hyk2 : y / 2 < 2 ^ k := by rw [Nat.pow_succ] at hyk; omega
      have hy1 : (0 : Int) < (y : Int) := by omega
      have a1 := and_one (show y < 4294967296 by omega)
      clear hyk
      have hxt := xt_lt hx
      by_cases h1 : y % 2 = 1
      · have HG := Lib.hid (gmr_odd k x y h1)
        have a2 : (((y % 2 : Nat) : Int) == 1) = true := by rw [h1]; rfl
        have hox := xor_lt ho hx
        have a3 := xor_i64 (a := o) (b := x) (by omega) (by omega)
        have b2 := xor_two (show x < 4096 by omega)
        go_wp2
        · have h2 : 1024 ≤ 2 * x := by omega
          have HX := Lib.hid (xt_big h2)
          exact ⟨⟨k, (2 * x) ^^^ 1033, y / 2, o ^^^ x, rfl, by congr 1, rfl, by rw [← HX.out]; exact hxt, hox, by omega, hyk2, Lib.hid (by have := HE.out; rw [HG.out] at this; rw [← HX.out, Nat.xor_assoc]; exact this)⟩, by simp [intOf]; omega⟩
        · have h2 : ¬ 1024 ≤ 2 * x := by omega
          have HX := Lib.hid (xt_small h2)
          exact ⟨⟨k, 2 * x, y / 2, o ^^^ x, by congr 1; omega, by congr 1, rfl, by omega, hox, by omega, hyk2, Lib.hid (by have := HE.out; rw [HG.out] at this; rw [← HX.out, Nat.xor_assoc]; exact this)⟩, by simp [intOf]; omega⟩
      · have HG := Lib.hid (gmr_even k x y h1)
        have a2 : (((y % 2 : Nat) : Int) == 1) = false := by
          have : y % 2 = 0 := by omega
          rw [this]; rfl
        have b2 := xor_two (show x < 4096 by omega)
        go_wp2
        · have h2 : 1024 ≤ 2 * x := by omega
          have HX := Lib.hid (xt_big h2)
          exact ⟨⟨k, (2 * x) ^^^ 1033, y / 2, o, rfl, by congr 1, rfl, by rw [← HX.out]; exact hxt, ho, by omega, hyk2, Lib.hid (by have := HE.out; rw [HG.out] at this; rw [← HX.out]; exact this)⟩, by simp [intOf]; omega⟩
        · have h2 : ¬ 1024 ≤ 2 * x := by omega
          have HX := Lib.hid (xt_small h2)
          exact ⟨⟨k, 2 * x, y / 2, o, by congr 1; omega, by congr 1, rfl, by omega, ho, by omega, hyk2, Lib.hid (by have := HE.out; rw [HG.out] at this; rw [← HX.out]; exact this)⟩, by simp [intOf]; omega⟩

theorem rmul_lt (a b : Nat) (w : World) (ha : a < 1024) (hb : b < 1024) :
    Calls Try.prog 29 #[.int .u16 a, .int .u16 b] w fun e w' => e = .returned (.int .u16 (gm a b : Nat)) ∧ w = w' := by
  have := rmul_any a b w (by omega) (by omega)
  rwa [Nat.mod_eq_of_lt ha, Nat.mod_eq_of_lt hb] at this

set_option maxRecDepth 100000 in
set_option maxHeartbeats 2000000 in
theorem rpower_any (i n : Nat) (w : World) (hn : n < 60000) :
    Calls Try.prog 59 #[.int .u16 (ex i : Nat), .int .i64 n] w fun e w' => e = .returned (.int .u16 (ex (i * n) : Nat)) ∧ w = w' := by
  go_enter Try.func59, Try.ntmps59
  go_wp2
  go_loop [0, 1, 5] (fun va vn vx => ∃ j m e : Nat, va = .int .u16 (ex j : Nat) ∧ vn = .int .i64 m ∧ vx = .int .u16 (ex e : Nat) ∧ m < 60000 ∧ Hid (e + j * m = i * n)) (fun _ vn _ => (intOf vn).toNat)
  case atStart => exact ⟨i, n, 0, rfl, rfl, rfl, hn, Lib.hid (by omega)⟩
  case round =>
    obtain ⟨j, m, e, rfl, rfl, rfl, hm, HE⟩ := hrel
    have hj := ex_lt j
    have he := ex_lt e
    by_cases hm0 : m = 0
    · subst hm0
      have HO := Lib.hid (show e = i * n by have := HE.out; omega)
      go_wp2
      go_ret
      rw [← HO.out]
      exact ⟨rfl, rfl⟩
    · have hm1 : (0 : Int) < (m : Int) := by omega
      have a1 := and_one (show m < 4294967296 by omega)
      by_cases h1 : m % 2 = 1
      · have a2 : (((m % 2 : Nat) : Int) == 1) = true := by rw [h1]; rfl
        go_wp2_with fail
        refine (rmul_lt (ex e) (ex j) _ he hj).mono ?_
        rintro e1 w1 ⟨rfl, rfl⟩
        go_wp2_with fail
        refine (rmul_lt (ex j) (ex j) _ hj hj).mono ?_
        rintro e1 w1 ⟨rfl, rfl⟩
        go_wp2_with fail
        refine ⟨⟨j + j, m / 2, e + j, by rw [ex_add], by congr 1, by rw [ex_add], by omega, Lib.hid ?_⟩, by simp [intOf]; omega⟩
        have h2 := HE.out
        obtain ⟨q, hq⟩ : ∃ q, m = 2 * q + 1 := ⟨m / 2, by omega⟩
        subst hq
        rw [show (2 * q + 1) / 2 = q by omega]
        rw [Nat.mul_add, Nat.mul_one] at h2
        rw [Nat.add_mul]
        have h3 : j * (2 * q) = j * q + j * q := by rw [Nat.two_mul, Nat.mul_add]
        omega
      · have a2 : (((m % 2 : Nat) : Int) == 1) = false := by
          have : m % 2 = 0 := by omega
          rw [this]; rfl
        go_wp2_with fail
        refine (rmul_lt (ex j) (ex j) _ hj hj).mono ?_
        rintro e1 w1 ⟨rfl, rfl⟩
        go_wp2_with fail
        refine ⟨⟨j + j, m / 2, e, by rw [ex_add], by congr 1, rfl, by omega, Lib.hid ?_⟩, by simp [intOf]; omega⟩
        have h2 := HE.out
        obtain ⟨q, hq⟩ : ∃ q, m = 2 * q := ⟨m / 2, by omega⟩
        subst hq
        rw [show 2 * q / 2 = q by omega]
        rw [Nat.add_mul]
        have h3 : j * (2 * q) = j * q + j * q := by rw [Nat.two_mul, Nat.mul_add]
        omega

theorem rinv_ex {a : Nat} (h : a % 1024 ≠ 0) : ex (lg (a % 1024) * 1022) = gi (a % 1024) := by
  unfold gi
  rw [if_neg h, ex_mod]
  have h1 := lg_lt (a % 1024)
  congr 1
  omega

set_option maxRecDepth 100000 in
set_option maxHeartbeats 2000000 in
theorem rinv_any (a : Nat) (w : World) (ha : a < 65536) (x : Bool) (hx : Hid ((a % 1024 != 0) = x)) :
    Calls Try.prog 44 #[.int .u16 a] w fun e w' => e = .returned (.tuple #[.int .u16 (gi (a % 1024) : Nat), .bool x]) ∧ w = w' := by
  have h1 := and_1023 ha
  clear ha
  rcases x with _ | _
  · have h0 : a % 1024 = 0 := by simpa using hx.out
    have HG := Lib.hid (show gi (a % 1024) = 0 by rw [h0, gi_zero])
    rw [h0] at h1
    clear h0
    go_enter Try.func44, Try.ntmps44
    go_wp2
    go_ret2
    exact ⟨by rw [HG.out]; rfl, rfl⟩
  · have h0 : a % 1024 ≠ 0 := by simpa using hx.out
    have HG := Lib.hid (rinv_ex h0)
    have hl : a % 1024 < 1024 := Nat.mod_lt _ (by omega)
    have he := (lg_spec hl h0).2
    rw [← he] at h1
    have h2 : ¬ ((ex (lg (a % 1024)) : Nat) : Int) = 0 := by have := ex_pos (lg (a % 1024)); omega
    clear h0 hl he
    go_enter Try.func44, Try.ntmps44
    go_wp2_with fail
    refine (rpower_any (lg (a % 1024)) 1022 _ (by omega)).mono ?_
    rintro e w1 ⟨rfl, rfl⟩
    go_wp2_with fail
    go_ret2
    exact ⟨by rw [HG.out]; rfl, rfl⟩
end Go.Proofs.Ytnejnoiogojplaa
