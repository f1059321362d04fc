/- The reference's field and polynomials. -/
import Derived.Test.YtnejnoiogojplaaField2
import Derived.Test.YtnejnoiogojplaaPolW
import Derived.Test.YtnejnoiogojplaaKeptTail
import Derived.Test.YtnejnoiogojplaaDiv
namespace Go.Proofs.Ytnejnoiogojplaa
open Go.RowKit

theorem gmr_odd (k x y : Nat) (h : y % 2 = 1) : gmr (k + 1) x y = x ^^^ gmr k (xt x) (y / 2) := by simp [gmr, h]
theorem gmr_even (k x y : Nat) (h : ¬ y % 2 = 1) : gmr (k + 1) x y = gmr k (xt x) (y / 2) := by simp [gmr, h]

theorem xor_two {x : Nat} (h : x < 4096) : bits .xor .i64 ((x : Int) * 2) 1033 = (((2 * x) ^^^ 1033 : Nat) : Int) := by
  have b2 := xor_i64 (a := 2 * x) (b := 1033) (by omega) (by omega)
  have b3 : (((2 * x : Nat) : Int)) = (x : Int) * 2 := by omega
  rw [b3] at b2
  exact b2

set_option maxRecDepth 100000 in
set_option maxHeartbeats 2000000 in
theorem rmul_any (a b : Nat) (w : World) (ha : a < 65536) (hb : b < 65536) :
    Calls Try.prog 29 #[.int .u16 a, .int .u16 b] w fun e w' => e = .returned (.int .u16 (gm (a % 1024) (b % 1024) : Nat)) ∧ w = w' := by
  have h1 := and_1023 ha
  have h2 := and_1023 hb
  have hA : a % 1024 < 1024 := Nat.mod_lt _ (by omega)
  have hB : b % 1024 < 1024 := Nat.mod_lt _ (by omega)
  have e1 : IntKind.i64.wrap ((a % 1024 : Nat) : Int) = ((a % 1024 : Nat) : Int) := wraps_i64 _ (by omega) (by omega)
  have e2 : IntKind.i64.wrap ((b % 1024 : Nat) : Int) = ((b % 1024 : Nat) : Int) := wraps_i64 _ (by omega) (by omega)
  generalize a % 1024 = A at *
  generalize b % 1024 = B at *
  clear ha hb
  go_enter Try.func29, Try.ntmps29
  go_wp2
  clear h1 h2 e1 e2
  go_loop [5, 6, 7] (fun vx vy vo => ∃ k x y o : Nat, vx = .int .i64 x ∧ vy = .int .i64 y ∧ vo = .int .i64 o ∧ x < 1024 ∧ o < 1024 ∧ y < 1024 ∧ y < 2 ^ k ∧ Hid (o ^^^ gmr k x y = gm A B)) (fun _ vy _ => (intOf vy).toNat)
  case atStart => exact ⟨10, A, B, 0, rfl, rfl, rfl, hA, by omega, hB, by simpa using hB, Lib.hid (by rw [Nat.zero_xor]; rfl)⟩
  case round =>
    obtain ⟨k, x, y, o, rfl, rfl, rfl, hx, ho, hy, hyk, HE⟩ := hrel
    by_cases hy0 : y = 0
    · subst hy0
      have HO := Lib.hid (show o = gm A B by have := HE.out; rwa [gmr_zero_right, Nat.xor_zero] at this)
      have e3 : IntKind.u16.wrap ((o : Nat) : Int) = (o : Int) := wraps_u16 _ (by omega) (by omega)
      go_wp2
      go_ret
      rw [HO.out]
      exact ⟨rfl, rfl⟩
    · obtain ⟨k, rfl⟩ : ∃ j, k = j + 1 := by
        rcases k with _ | k
        · simp at hyk; omega
        · exact ⟨k, rfl⟩
      have hyk2 : y / 2 < 2 ^ k := by rw [Nat.pow_succ] at hyk; omega
      have hy1 : (0 : Int) < (y : Int) := by omega
      have a1 := and_one (show y < 4294967296 by omega)
      clear hyk
      have hxt := xt_lt hx
      by_cases h1 : y % 2 = 1
      · have HG := Lib.hid (gmr_odd k x y h1)
        have a2 : (((y % 2 : Nat) : Int) == 1) = true := by rw [h1]; rfl
        have hox := xor_lt ho hx
        have a3 := xor_i64 (a := o) (b := x) (by omega) (by omega)
        have b2 := xor_two (show x < 4096 by omega)
        go_wp2
        · have h2 : 1024 ≤ 2 * x := by omega
          have HX := Lib.hid (xt_big h2)
          exact ⟨⟨k, (2 * x) ^^^ 1033, y / 2, o ^^^ x, rfl, by congr 1, rfl, by rw [← HX.out]; exact hxt, hox, by omega, hyk2, Lib.hid (by have := HE.out; rw [HG.out] at this; rw [← HX.out, Nat.xor_assoc]; exact this)⟩, by simp [intOf]; omega⟩
        · have h2 : ¬ 1024 ≤ 2 * x := by omega
          have HX := Lib.hid (xt_small h2)
          exact ⟨⟨k, 2 * x, y / 2, o ^^^ x, by congr 1; omega, by congr 1, rfl, by omega, hox, by omega, hyk2, Lib.hid (by have := HE.out; rw [HG.out] at this; rw [← HX.out, Nat.xor_assoc]; exact this)⟩, by simp [intOf]; omega⟩
      · have HG := Lib.hid (gmr_even k x y h1)
        have a2 : (((y % 2 : Nat) : Int) == 1) = false := by
          have : y % 2 = 0 := by omega
          rw [this]; rfl
        have b2 := xor_two (show x < 4096 by omega)
        go_wp2
        · have h2 : 1024 ≤ 2 * x := by omega
          have HX := Lib.hid (xt_big h2)
          exact ⟨⟨k, (2 * x) ^^^ 1033, y / 2, o, rfl, by congr 1, rfl, by rw [← HX.out]; exact hxt, ho, by omega, hyk2, Lib.hid (by have := HE.out; rw [HG.out] at this; rw [← HX.out]; exact this)⟩, by simp [intOf]; omega⟩
        · have h2 : ¬ 1024 ≤ 2 * x := by omega
          have HX := Lib.hid (xt_small h2)
          exact ⟨⟨k, 2 * x, y / 2, o, by congr 1; omega, by congr 1, rfl, by omega, ho, by omega, hyk2, Lib.hid (by have := HE.out; rw [HG.out] at this; rw [← HX.out]; exact this)⟩, by simp [intOf]; omega⟩

theorem rmul_lt (a b : Nat) (w : World) (ha : a < 1024) (hb : b < 1024) :
    Calls Try.prog 29 #[.int .u16 a, .int .u16 b] w fun e w' => e = .returned (.int .u16 (gm a b : Nat)) ∧ w = w' := by
  have := rmul_any a b w (by omega) (by omega)
  rwa [Nat.mod_eq_of_lt ha, Nat.mod_eq_of_lt hb] at this

set_option maxRecDepth 100000 in
set_option maxHeartbeats 2000000 in
theorem rpower_any (i n : Nat) (w : World) (hn : n < 60000) :
    Calls Try.prog 59 #[.int .u16 (ex i : Nat), .int .i64 n] w fun e w' => e = .returned (.int .u16 (ex (i * n) : Nat)) ∧ w = w' := by
  go_enter Try.func59, Try.ntmps59
  go_wp2
  go_loop [0, 1, 5] (fun va vn vx => ∃ j m e : Nat, va = .int .u16 (ex j : Nat) ∧ vn = .int .i64 m ∧ vx = .int .u16 (ex e : Nat) ∧ m < 60000 ∧ Hid (e + j * m = i * n)) (fun _ vn _ => (intOf vn).toNat)
  case atStart => exact ⟨i, n, 0, rfl, rfl, rfl, hn, Lib.hid (by omega)⟩
  case round =>
    obtain ⟨j, m, e, rfl, rfl, rfl, hm, HE⟩ := hrel
    have hj := ex_lt j
    have he := ex_lt e
    by_cases hm0 : m = 0
    · subst hm0
      have HO := Lib.hid (show e = i * n by have := HE.out; omega)
      go_wp2
      go_ret
      rw [← HO.out]
      exact ⟨rfl, rfl⟩
    · have hm1 : (0 : Int) < (m : Int) := by omega
      have a1 := and_one (show m < 4294967296 by omega)
      by_cases h1 : m % 2 = 1
      · have a2 : (((m % 2 : Nat) : Int) == 1) = true := by rw [h1]; rfl
        go_wp2_with fail
        refine (rmul_lt (ex e) (ex j) _ he hj).mono ?_
        rintro e1 w1 ⟨rfl, rfl⟩
        go_wp2_with fail
        refine (rmul_lt (ex j) (ex j) _ hj hj).mono ?_
        rintro e1 w1 ⟨rfl, rfl⟩
        go_wp2_with fail
        refine ⟨⟨j + j, m / 2, e + j, by rw [ex_add], by congr 1, by rw [ex_add], by omega, Lib.hid ?_⟩, by simp [intOf]; omega⟩
        have h2 := HE.out
        obtain ⟨q, hq⟩ : ∃ q, m = 2 * q + 1 := ⟨m / 2, by omega⟩
        subst hq
        rw [show (2 * q + 1) / 2 = q by omega]
        rw [Nat.mul_add, Nat.mul_one] at h2
        rw [Nat.add_mul]
        have h3 : j * (2 * q) = j * q + j * q := by rw [Nat.two_mul, Nat.mul_add]
        omega
      · have a2 : (((m % 2 : Nat) : Int) == 1) = false := by
          have : m % 2 = 0 := by omega
          rw [this]; rfl
        go_wp2_with fail
        refine (rmul_lt (ex j) (ex j) _ hj hj).mono ?_
        rintro e1 w1 ⟨rfl, rfl⟩
        go_wp2_with fail
        refine ⟨⟨j + j, m / 2, e, by rw [ex_add], by congr 1, rfl, by omega, Lib.hid ?_⟩, by simp [intOf]; omega⟩
        have h2 := HE.out
        obtain ⟨q, hq⟩ : ∃ q, m = 2 * q := ⟨m / 2, by omega⟩
        subst hq
        rw [show 2 * q / 2 = q by omega]
        rw [Nat.add_mul]
        have h3 : j * (2 * q) = j * q + j * q := by rw [Nat.two_mul, Nat.mul_add]
        omega

theorem rinv_ex {a : Nat} (h : a % 1024 ≠ 0) : ex (lg (a % 1024) * 1022) = gi (a % 1024) := by
  unfold gi
  rw [if_neg h, ex_mod]
  have h1 := lg_lt (a % 1024)
  congr 1
  omega

set_option maxRecDepth 100000 in
set_option maxHeartbeats 2000000 in
theorem rinv_any (a : Nat) (w : World) (ha : a < 65536) (x : Bool) (hx : Hid ((a % 1024 != 0) = x)) :
    Calls Try.prog 44 #[.int .u16 a] w fun e w' => e = .returned (.tuple #[.int .u16 (gi (a % 1024) : Nat), .bool x]) ∧ w = w' := by
  have h1 := and_1023 ha
  clear ha
  rcases x with _ | _
  · have h0 : a % 1024 = 0 := by simpa using hx.out
    have HG := Lib.hid (show gi (a % 1024) = 0 by rw [h0, gi_zero])
    rw [h0] at h1
    clear h0
    go_enter Try.func44, Try.ntmps44
    go_wp2
    go_ret2
    exact ⟨by rw [HG.out]; rfl, rfl⟩
  · have h0 : a % 1024 ≠ 0 := by simpa using hx.out
    have HG := Lib.hid (rinv_ex h0)
    have hl : a % 1024 < 1024 := Nat.mod_lt _ (by omega)
    have he := (lg_spec hl h0).2
    rw [← he] at h1
    have h2 : ¬ ((ex (lg (a % 1024)) : Nat) : Int) = 0 := by have := ex_pos (lg (a % 1024)); omega
    clear h0 hl he
    go_enter Try.func44, Try.ntmps44
    go_wp2_with fail
    refine (rpower_any (lg (a % 1024)) 1022 _ (by omega)).mono ?_
    rintro e w1 ⟨rfl, rfl⟩
    go_wp2_with fail
    go_ret2
    exact ⟨by rw [HG.out]; rfl, rfl⟩
end Go.Proofs.Ytnejnoiogojplaa

namespace Go.Proofs.Ytnejnoiogojplaa
open Go.RowKit

set_option maxHeartbeats 2000000 in
set_option maxRecDepth 100000 in
theorem rtrim_any (a : Option Addr) (n c : Nat) (p : Nat → Nat) (w : World) (ha : ArgU w a n p) (hn : n ≤ 1000000) :
    Calls Try.prog 40 #[.slice a n c] w fun e w' => ∃ a' m, e = .returned (.slice a' m m) ∧ ResU w' w.heap.size a' m (cut p n) ∧ IsPol (cut p n) m ∧ m ≤ n ∧ Keep (fun _ => False) w w' := by
  have HA := Lib.hid ha
  clear ha
  go_enter Try.func40, Try.ntmps40
  go_upto_block 0 with (fail)
  go_cut [3] (fun v wc => ∃ k : Nat, k ≤ n ∧ v = .int .i64 k ∧ w = wc ∧ Hid (IsPol (cut p n) k))
  case first =>
    go_wp2
    go_loop [3] (fun v => ∃ k : Nat, k ≤ n ∧ v = .int .i64 k ∧ Hid (∀ i, k ≤ i → cut p n i = 0)) (fun v => (intOf v).toNat)
    case atStart => exact ⟨n, Nat.le_refl _, rfl, Lib.hid fun i hi => cut_zero p hi⟩
    case round =>
      obtain ⟨k, hk, rfl, HZ⟩ := hrel
      by_cases h0 : k = 0
      · subst h0
        go_wp2
        go_meet
        case rel => exact ⟨0, by omega, by rfl, rfl, Lib.hid ⟨cut_lt p n, HZ.out, fun h => by omega⟩⟩
      · obtain ⟨b, off, rfl, hb, hcell⟩ := HA.out.at_ (by omega)
        obtain ⟨j, rfl⟩ : ∃ j, k = j + 1 := ⟨k - 1, by omega⟩
        have hj := hcell j (by omega)
        have e1 : cut p n j = p j % 1024 := cut_in p (by omega)
        have h3 : (((j + 1 : Nat) : Int) - 1) = (j : Int) := by omega
        have h4 := and_1023 (HA.out.lt j (by omega))
        clear hcell h0
        by_cases hz : p j % 1024 = 0
        · have HE := Lib.hid (e1.trans hz)
          rw [hz] at h4
          clear e1 hz
          go_wp2
          exact ⟨⟨j, by omega, rfl, Lib.hid fun i hi => by
            by_cases e : i = j
            · rw [e]; exact HE.out
            · exact HZ.out i (by omega)⟩, by simp [intOf]⟩
        · have HE := Lib.hid (fun h => hz (e1.symm.trans h) : cut p n j ≠ 0)
          have hb1 : (((p j % 1024 : Nat) : Int) == 0) = false := by simp; omega
          have hb2 : ¬ (((p j % 1024 : Nat) : Int)) = 0 := by omega
          clear e1 hz
          go_wp2
          go_meet
          case rel => exact ⟨j + 1, by omega, by rfl, rfl, Lib.hid ⟨cut_lt p n, HZ.out, fun _ => HE.out⟩⟩
  case rest =>
    obtain ⟨k, hk0, rfl, hw, HP⟩ := hcut
    subst hw
    have hm := make_u k k rfl (by omega)
    go_wp2
    clear hm
    go_loopw [5] (fun v wr => ∃ j : Nat, j ≤ k ∧ v = .int .i64 j ∧ Blk wr w.heap.size 23 (uArr (fun i => if i < j then p i % 1024 else 0) k) ∧ Keep (fun _ => False) w wr) (fun v _ => k - (intOf v).toNat)
    case atStart =>
      refine ⟨0, Nat.zero_le _, rfl, ?_, (Keep.refl _ _).alloc _⟩
      have := Blk.new w 23 (uArr (fun _ => 0) k)
      simpa using this
    case round =>
      obtain ⟨j, hj, rfl, hB, hk⟩ := hrel
      by_cases hjk : j < k
      · obtain ⟨b, off, rfl, hb, hcell⟩ := HA.out.at_ (by omega)
        have hs := hk.size
        have hc1 := (hk.cell (p := ⟨b, off + j, none⟩) hb (by simp)).trans (hcell j (by omega))
        have hc2 := hB.val hjk
        have hz := hB.frozen j
        have hjk' : (j : Int) < (k : Int) := by omega
        have hjn : (j : Int) < (n : Int) := by omega
        have h4 := and_1023 (HA.out.lt j (by omega))
        clear hcell
        go_wp2
        go_roundw
        case rel =>
          refine ⟨j + 1, by omega, by go_num, ?_, hk.setCell (p := ⟨w.heap.size, j, none⟩) (.inr (Nat.le_refl _)) _⟩
          exact hB.storeU j (p j % 1024) (fun i hi => by
            by_cases e : i = j
            · subst e; simp
            · by_cases e2 : i < j
              · simp [e, e2, show i < j + 1 by omega]
              · simp [e, e2, show ¬ i < j + 1 by omega])
        case measure => simp [intOf]; omega
      · have hjk' : ¬ (j : Int) < (k : Int) := by omega
        go_wp2
        go_ret
        refine ⟨some ⟨w.heap.size, 0, none⟩, k, rfl, .inr ⟨_, rfl, Nat.le_refl _, ?_⟩, HP.out, hk0, hk⟩
        rw [uArr_congr (g := fun i => if i < j then p i % 1024 else 0)]
        · exact hB
        · intro i hi
          simp [cut, show i < n by omega, show i < j by omega]

theorem ret_int {k : IntKind} {a b : Int} (h : a = b) : Ending.returned (.int k a) = .returned (.int k b) := by rw [h]
set_option maxHeartbeats 2000000 in
set_option maxRecDepth 100000 in
theorem rdist_any (a b : Option Addr) (na nb ca cb : Nat) (p q : Nat → Nat) (w : World) (ha : ArgU w a na p) (hb : ArgU w b nb q) (hna : na ≤ 1000000) (hnb : nb ≤ 1000000) :
    Calls Try.prog 30 #[.slice a na ca, .slice b nb cb] w fun e w' => e = .returned (.int .i64 (max na nb - min na nb + cntNe p q (min na nb) : Nat)) ∧ Keep (fun _ => False) w w' := by
  have HA := Lib.hid ha
  have HB := Lib.hid hb
  obtain ⟨m, hm⟩ : ∃ m, m = max na nb := ⟨_, rfl⟩
  obtain ⟨l, hl⟩ : ∃ l, l = min na nb := ⟨_, rfl⟩
  have hml : m ≤ 1000000 := by omega
  have hlm : l ≤ m := by omega
  have hla : l ≤ na := by omega
  have hlb : l ≤ nb := by omega
  have hor : l = na ∨ l = nb := by omega
  have hmx : (if na < nb then (nb : Int) else (na : Int)) = (m : Int) := by split <;> omega
  have hmn : (if nb < na then (nb : Int) else (na : Int)) = (l : Int) := by split <;> omega
  have HR := Lib.hid (And.intro hm hl)
  clear ha hb hm hl
  go_enter Try.func30, Try.ntmps30
  go_wp2_with fail
  clear hmx hmn
  go_loopw [5, 6] (fun v5 v6 wr => ∃ j : Nat, j ≤ l ∧ v6 = .int .i64 j ∧ v5 = .int .i64 (m - l + cntNe p q j : Nat) ∧ Keep (fun _ => False) w wr) (fun _ v6 _ => l - (intOf v6).toNat)
  case atStart => exact ⟨0, by omega, rfl, by simp [cntNe]; omega, Keep.refl _ _⟩
  case round =>
    obtain ⟨j, hj, rfl, rfl, hk⟩ := hrel
    by_cases hjl : j < l
    · obtain ⟨bA, oA, rfl, hbA, hcA⟩ := HA.out.at_ (by omega)
      obtain ⟨bB, oB, rfl, hbB, hcB⟩ := HB.out.at_ (by omega)
      have c1 := (hk.cell (p := ⟨bA, oA + j, none⟩) hbA (by simp)).trans (hcA j (by omega))
      have c2 := (hk.cell (p := ⟨bB, oB + j, none⟩) hbB (by simp)).trans (hcB j (by omega))
      have h1 : (j : Int) < (na : Int) := by omega
      have h2 : (j : Int) < (nb : Int) := by omega
      have hcj := cntNe_le p q j
      clear hcA hcB
      by_cases hpq : p j = q j
      · have HN := Lib.hid (show cntNe p q (j + 1) = cntNe p q j by simp [cntNe, hpq])
        have e1 : (((p j : Nat) : Int) != ((q j : Nat) : Int)) = false := by simp [hpq]
        rw [hpq] at c1 e1
        clear hpq
        go_wp2_with fail
        go_quiet (fail)
        go_wp2_with fail
        go_roundw
        case rel => exact ⟨j + 1, by omega, by go_num, by rw [HN.out], hk.drewN _⟩
        case measure => simp [intOf]; omega
      · have HN := Lib.hid (show cntNe p q (j + 1) = cntNe p q j + 1 by simp [cntNe, hpq])
        have e1 : (((p j : Nat) : Int) != ((q j : Nat) : Int)) = true := by simp; omega
        have e2 : ¬ ((p j : Nat) : Int) = ((q j : Nat) : Int) := by omega
        go_wp2_with fail
        go_quiet (fail)
        go_wp2_with fail
        go_roundw
        case rel => exact ⟨j + 1, by omega, by go_num, by rw [HN.out]; go_num, hk.drewN _⟩
        case measure => simp [intOf]; omega
    · obtain rfl : j = l := by omega
      have e0 : m - j + cntNe p q j = max na nb - min na nb + cntNe p q (min na nb) := by rw [← HR.out.1, ← HR.out.2]
      have HE := Lib.hid e0
      clear e0
      rcases hor with h | h
      · have h1 : ¬ (j : Int) < (na : Int) := by omega
        go_wp2_with fail
        go_ret
        exact ⟨ret_int (by have h9 := HE.out; rw [h] at h9; omega), hk⟩
      · have h1 : ¬ (j : Int) < (nb : Int) := by omega
        by_cases h2 : j < na
        · have h3 : (j : Int) < (na : Int) := by omega
          go_wp2_with fail
          go_ret
          exact ⟨ret_int (by have h9 := HE.out; rw [h] at h9; omega), hk⟩
        · have h3 : ¬ (j : Int) < (na : Int) := by omega
          go_wp2_with fail
          go_ret
          exact ⟨ret_int (by have h9 := HE.out; rw [h] at h9; omega), hk⟩

set_option maxHeartbeats 2000000 in
theorem same_any (a b : Option Addr) (na nb ca cb : Nat) (p q : Nat → Nat) (w : World) (ha : ArgU w a na p) (hb : ArgU w b nb q) (hna : na ≤ 1000000) (hnb : nb ≤ 1000000) (x : Bool) (hx : Hid ((decide (na = nb) && (cntNe p q na == 0)) = x)) :
    Calls Try.prog 15 #[.slice a na ca, .slice b nb cb] w fun e w' => e = .returned (.bool x) ∧ Keep (fun _ => False) w w' := by
  have HA := Lib.hid ha
  have HB := Lib.hid hb
  clear ha hb
  by_cases h : na = nb
  · subst h
    have h1 := cntNe_le p q na
    have hx1 : (cntNe p q na == 0) = x := by simpa using hx.out
    have hx2 : (((cntNe p q na : Nat) : Int) == 0) = x := by rw [← hx1]; rw [Bool.eq_iff_iff, beq_iff_eq, beq_iff_eq]; omega
    have HX := Lib.hid hx2
    have hd := rdist_any a b na na ca cb p q w HA.out HB.out hna hnb
    rw [Nat.max_self, Nat.min_self, Nat.sub_self, Nat.zero_add] at hd
    have HD := Lib.hid hd
    clear hd hx1 hx2
    go_enter Try.func15, Try.ntmps15
    go_wp2_with fail
    refine HD.out.mono ?_
    rintro e w1 ⟨rfl, k⟩
    go_wp2_with fail
    go_ret
    exact ⟨by rw [← HX.out]; rfl, k⟩
  · have HX := Lib.hid (show false = x by have := hx.out; simpa [h] using this)
    have h1 : ((na : Int) == (nb : Int)) = false := beq_eq_false_iff_ne.2 (by omega)
    have h2 : ¬ (na : Int) = (nb : Int) := by omega
    go_enter Try.func15, Try.ntmps15
    go_wp2_with fail
    go_ret
    exact ⟨by rw [← HX.out]; rfl, Keep.refl _ _⟩
theorem same_yes (a b : Option Addr) (n ca cb : Nat) (p q : Nat → Nat) (w : World) (ha : ArgU w a n p) (hb : ArgU w b n q) (hn : n ≤ 1000000) (he : ∀ i, i < n → p i = q i) :
    Calls Try.prog 15 #[.slice a n ca, .slice b n cb] w fun e w' => e = .returned (.bool true) ∧ Keep (fun _ => False) w w' :=
  same_any a b n n ca cb p q w ha hb hn hn true (Lib.hid (by simp [cntNe_zero.2 he]))

set_option maxHeartbeats 2000000 in
set_option maxRecDepth 100000 in
theorem radd_any (a b : Option Addr) (na nb ca cb : Nat) (p q : Nat → Nat) (w : World) (ha : ArgU w a na p) (hb : ArgU w b nb q) (hna : na ≤ 1000000) (hnb : nb ≤ 1000000) :
    Calls Try.prog 42 #[.slice a na ca, .slice b nb cb] w fun e w' => ∃ a' m, e = .returned (.slice a' m m) ∧ ResU w' w.heap.size a' m (padd (cut p na) (cut q nb)) ∧ IsPol (padd (cut p na) (cut q nb)) m ∧ Keep (fun _ => False) w w' := by
  have HA := Lib.hid ha
  have HB := Lib.hid hb
  obtain ⟨m, hm⟩ : ∃ m, m = max na nb := ⟨_, rfl⟩
  have hma : na ≤ m := by omega
  have hmb : nb ≤ m := by omega
  have hml : m ≤ 1000000 := by omega
  have hmk := make_u m m rfl (by omega)
  have hmx : (if na < nb then (nb : Int) else (na : Int)) = (m : Int) := by split <;> omega
  have HC := Lib.hid (show cut (fun i => if i < nb then (if i < na then p i else 0) ^^^ q i else if i < na then p i else 0) m = padd (cut p na) (cut q nb) by
    funext i
    unfold cut padd
    by_cases h : i < m
    · by_cases h1 : i < nb <;> by_cases h2 : i < na <;> simp [h, h1, h2, xor_mod]
    · simp [h, show ¬ i < na by omega, show ¬ i < nb by omega])
  clear ha hb hm
  go_enter Try.func42, Try.ntmps42
  go_wp2_with fail
  clear hmk hmx
  go_loopw [6] (fun v wr => ∃ j : Nat, j ≤ na ∧ v = .int .i64 j ∧ Blk wr w.heap.size 23 (uArr (fun i => if i < j then p i else 0) m) ∧ Keep (fun _ => False) w wr) (fun v _ => na - (intOf v).toNat)
  case atStart =>
    refine ⟨0, by omega, rfl, ?_, (Keep.refl _ _).alloc _⟩
    have := Blk.new w 23 (uArr (fun _ => 0) m)
    simpa using this
  case round =>
    obtain ⟨j, hj, rfl, hR, hk⟩ := hrel
    by_cases hjn : j < na
    · have hs := hk.size
      obtain ⟨bb, off, rfl, hb, hcell⟩ := HA.out.at_ (by omega)
      have hc1 := (hk.cell (p := ⟨bb, off + j, none⟩) hb (by simp)).trans (hcell j hjn)
      have hc2 := hR.val (show j < m by omega)
      have hz := hR.frozen j
      have hjn' : (j : Int) < (na : Int) := by omega
      have hjm' : (j : Int) < (m : Int) := by omega
      have HN := Lib.hid (hR.storeU j (p j) (f' := fun i => if i < j + 1 then p i else 0) (fun i _ => by
        by_cases e : i = j
        · subst e; simp
        · by_cases e2 : i < j
          · simp [e, e2, show i < j + 1 by omega]
          · simp [e, e2, show ¬ i < j + 1 by omega]))
      clear hcell
      go_wp2_with fail
      go_roundw
      case rel => exact ⟨j + 1, by omega, by go_num, HN.out, hk.setCell (p := ⟨w.heap.size, j, none⟩) (.inr (Nat.le_refl _)) _⟩
      case measure => simp [intOf]; omega
    · obtain rfl : j = na := by omega
      go_wp2_with fail
      go_loopw [7] (fun v wr => ∃ t : Nat, t ≤ nb ∧ v = .int .i64 t ∧ Blk wr w.heap.size 23 (uArr (fun i => if i < t then (if i < j then p i else 0) ^^^ q i else if i < j then p i else 0) m) ∧ Keep (fun _ => False) w wr) (fun v _ => nb - (intOf v).toNat)
      case atStart =>
        refine ⟨0, by omega, rfl, ?_, hk⟩
        simpa using hR
      case round =>
        clear hR hk
        obtain ⟨t, ht, rfl, hR, hk⟩ := hrel
        have hs := hk.size
        by_cases htn : t < nb
        · obtain ⟨bb, off, rfl, hb, hcell⟩ := HB.out.at_ (by omega)
          have hc1 := (hk.cell (p := ⟨bb, off + t, none⟩) hb (by simp)).trans (hcell t htn)
          have htm : t < m := by omega
          have hc2 := hR.val htm
          simp only [Nat.lt_irrefl, if_false] at hc2
          have htn' : (t : Int) < (nb : Int) := by omega
          have htm' : (t : Int) < (m : Int) := by omega
          have hq := HB.out.lt t htn
          have hp : (if t < j then p t else 0) < 65536 := by
            have hpa := HA.out.lt t
            split
            · exact hpa ‹_›
            · omega
          have hx := xor_u16 hp hq
          obtain ⟨u, hu⟩ : ∃ u, u = if t < j then p t else 0 := ⟨_, rfl⟩
          rw [← hu] at hx hc2
          have HN := Lib.hid (fun (W : World) (hW : Blk W w.heap.size 23 (uArr (fun i => if i < t then (if i < j then p i else 0) ^^^ q i else if i < j then p i else 0) m)) => hW.storeU t (u ^^^ q t) (f' := fun i => if i < t + 1 then (if i < j then p i else 0) ^^^ q i else if i < j then p i else 0) (fun i _ => by
            by_cases e : i = t
            · subst e; simp [hu]
            · by_cases e2 : i < t
              · simp [e, e2, show i < t + 1 by omega]
              · simp [e, e2, show ¬ i < t + 1 by omega]))
          have q0 : ∀ z : KeptBy wr, z.v.cell? ⟨bb, off + t, none⟩ = some (.int .u16 (q t)) := fun z => z.cell (show bb < wr.heap.size by omega) hc1
          have q1 : ∀ z : KeptBy wr, z.v.cell? ⟨w.heap.size, t, none⟩ = some (.int .u16 u) := fun z => z.cell hR.lt hc2
          clear hcell hp hq hu
          go_upto_region 9 with fail
          refine wp_region_kept_tail 12 (by kernel_rfl) (by kernel_rfl) ?_
          simp only [List.take_succ_cons, List.take_zero, List.drop_succ_cons, List.drop_zero]
          repeat (quiet_step (fail))
          refine wpQuiet_nil ?_
          rintro w7 ⟨⟨_, k7⟩, rfl⟩
          clear q0 q1
          have dR := hR.keep k7 (by simp)
          have c7 := dR.val htm
          have z7 := dR.frozen t
          have HN2 := Lib.hid (HN.out _ dR)
          have k8 := hk.trans k7 (fun _ hi => .inl hi)
          go_wp2_with fail
          exact ⟨⟨t + 1, by omega, by go_num, HN2.out, k8.setCell (p := ⟨w.heap.size, t, none⟩) (.inr (Nat.le_refl _)) _⟩, by simp [intOf]; omega⟩
        · obtain rfl : t = nb := by omega
          have HR := Lib.hid (hR.argU (by omega) (fun i _ => by
            have hpa := HA.out.lt i
            have hqa := HB.out.lt i
            show (if i < t then (if i < j then p i else 0) ^^^ q i else if i < j then p i else 0) < 65536
            by_cases h1 : i < t <;> by_cases h2 : i < j <;> simp only [h1, h2, if_true, if_false]
            · exact xor_lt16 (hpa h2) (hqa h1)
            · exact xor_lt16 (by omega) (hqa h1)
            · exact hpa h2
            · omega))
          go_wp2_with fail
          refine (rtrim_any _ _ _ _ _ HR.out (by omega)).mono ?_
          rintro e w2 ⟨a', m', rfl, hres, hpol, hle, k2⟩
          rw [HC.out] at hres hpol
          go_wp2_with fail
          go_ret
          exact ⟨a', m', rfl, hres.more hs, hpol, hk.trans k2 (fun _ hi => .inl hi)⟩

def rslopeMid (p : Nat → Nat) (j : Nat) : Nat → Nat := fun i => if i + 1 < j ∧ i % 2 = 0 then p (i + 1) else 0
set_option maxHeartbeats 2000000 in
set_option maxRecDepth 100000 in
theorem rslope_any (a : Option Addr) (n c : Nat) (p : Nat → Nat) (w : World) (ha : ArgU w a n p) (hn : n ≤ 1000000) :
    Calls Try.prog 43 #[.slice a n c] w fun e w' => ∃ a' m, e = .returned (.slice a' m m) ∧ ResU w' w.heap.size a' m (pslope (cut p n)) ∧ IsPol (pslope (cut p n)) m ∧ Keep (fun _ => False) w w' := by
  have HA := Lib.hid ha
  have hmk := make_u n n rfl (by omega)
  clear ha
  go_enter Try.func43, Try.ntmps43
  go_wp2_with fail
  clear hmk
  go_loopw [4] (fun v wr => ∃ j : Nat, j % 2 = 1 ∧ j ≤ n + 1 ∧ v = .int .i64 j ∧ Blk wr w.heap.size 23 (uArr (rslopeMid p j) n) ∧ Keep (fun _ => False) w wr) (fun v _ => n + 1 - (intOf v).toNat)
  case atStart =>
    refine ⟨1, by omega, by omega, rfl, ?_, (Keep.refl _ _).alloc _⟩
    have := Blk.new w 23 (uArr (fun _ => 0) n)
    rwa [uArr_congr (g := rslopeMid p 1) (fun i hi => by simp [rslopeMid])] at this
  case round =>
    obtain ⟨j, hj2, hj, rfl, hR, hk⟩ := hrel
    have hs := hk.size
    by_cases hjn : j < n
    · obtain ⟨bb, off, rfl, hb, hcell⟩ := HA.out.at_ (by omega)
      have hc1 := (hk.cell (p := ⟨bb, off + j, none⟩) hb (by simp)).trans (hcell j hjn)
      have hc2 := hR.val (show j - 1 < n by omega)
      have hz := hR.frozen (j - 1)
      have hjn' : (j : Int) < (n : Int) := by omega
      have e1 : (j : Int) - 1 = ((j - 1 : Nat) : Int) := by omega
      have e2 : ((j - 1 : Nat) : Int) < (n : Int) := by omega
      have HN := Lib.hid (hR.storeU (j - 1) (p j) (f' := rslopeMid p (j + 2)) (fun i _ => by
        unfold rslopeMid
        by_cases e : i = j - 1
        · subst e
          rw [if_pos ⟨by omega, by omega⟩, if_pos rfl, show j - 1 + 1 = j by omega]
        · rw [if_neg e]
          by_cases h : i + 1 < j ∧ i % 2 = 0
          · rw [if_pos h, if_pos ⟨by omega, h.2⟩]
          · rw [if_neg h, if_neg (by omega)]))
      clear hcell
      go_wp2_with fail
      go_roundw
      case rel => exact ⟨j + 2, by omega, by omega, by go_num, HN.out, hk.setCell (p := ⟨w.heap.size, j - 1, none⟩) (.inr (Nat.le_refl _)) _⟩
      case measure => simp [intOf]; omega
    · have hjn' : ¬ (j : Int) < (n : Int) := by omega
      have HR := Lib.hid (hR.argU (by omega) (fun i hi => by
        unfold rslopeMid
        by_cases h : i + 1 < n
        · have := HA.out.lt (i + 1) h
          split <;> omega
        · rw [if_neg (by omega)]; omega))
      have HC := Lib.hid (show cut (rslopeMid p j) n = pslope (cut p n) by
        funext i
        unfold cut rslopeMid pslope
        by_cases h : i + 1 < n
        · by_cases h2 : i % 2 = 0
          · simp [h, h2, show i < n by omega, show i + 1 < j by omega]
          · simp [h2]
        · simp only [h, if_false]
          by_cases h3 : i < n
          · rw [if_pos h3, if_neg (by omega)]; split <;> rfl
          · rw [if_neg h3]; split <;> rfl)
      go_wp2_with fail
      refine (rtrim_any _ _ _ _ _ HR.out (by omega)).mono ?_
      rintro e w2 ⟨a', m', rfl, hres, hpol, hle, k2⟩
      rw [HC.out] at hres hpol
      go_wp2_with fail
      go_ret
      exact ⟨a', m', rfl, hres.more hs, hpol, hk.trans k2 (fun _ hi => .inl hi)⟩
end Go.Proofs.Ytnejnoiogojplaa

namespace Go.Proofs.Ytnejnoiogojplaa
open Go.RowKit

theorem rmul_q (a b : Nat) (w : World) (ha : a < 65536) (hb : b < 65536) :
    Calls Try.prog 29 #[.int .u16 a, .int .u16 b] w fun e w' => e = .returned (.int .u16 (gm (a % 1024) (b % 1024) : Nat)) ∧ w' = w :=
  (rmul_any a b w ha hb).mono fun _ _ ⟨h, e⟩ => ⟨h, e.symm⟩
theorem rmul_kept (a b : Nat) (w : World) (ha : a < 1024) (hb : b < 1024) :
    Calls Try.prog 29 #[.int .u16 a, .int .u16 b] w fun e w' => e = .returned (.int .u16 (gm a b : Nat)) ∧ Keep (fun _ => False) w w' :=
  (rmul_lt a b w ha hb).mono fun _ _ ⟨h, e⟩ => ⟨h, by subst e; exact Keep.refl _ _⟩

set_option maxHeartbeats 2000000 in
set_option maxRecDepth 100000 in
theorem rat_any (a : Option Addr) (n c x : Nat) (p : Nat → Nat) (w : World) (ha : ArgU w a n p) (hn : n ≤ 1000000) (hx : x < 65536) :
    Calls Try.prog 45 #[.slice a n c, .int .u16 x] w fun e w' => e = .returned (.int .u16 (hor (cut p n) (x % 1024) 0 n : Nat)) ∧ Keep (fun _ => False) w w' := by
  have HA := Lib.hid ha
  have HX := Lib.hid hx
  clear ha hx
  go_enter Try.func45, Try.ntmps45
  go_wp2_with fail
  go_loopw [5, 6] (fun v i wr => ∃ k : Nat, k ≤ n ∧ i = .int .i64 ((n : Int) - 1 - k) ∧ v = .int .u16 (hor (cut p n) (x % 1024) (n - k) k : Nat) ∧ Keep (fun _ => False) w wr) (fun _ i _ => ((intOf i) + 1).toNat)
  case atStart => exact ⟨0, by omega, by simp, rfl, Keep.refl _ _⟩
  case round =>
    obtain ⟨k, hk, rfl, rfl, hK⟩ := hrel
    by_cases hkn : k < n
    · obtain ⟨b, off, rfl, hb, hcell⟩ := HA.out.at_ (by omega)
      obtain ⟨j, hj⟩ : ∃ j, j = n - 1 - k := ⟨_, rfl⟩
      have hjl : j < n := by omega
      have hc := (hK.cell (p := ⟨b, off + j, none⟩) hb (by simp)).trans (hcell j hjl)
      have hpj := HA.out.lt j hjl
      have h1 := and_1023 hpj
      have hh : hor (cut p n) (x % 1024) (n - k) k < 1024 := hor_lt (cut_lt p n) _ _
      have hg : gm (hor (cut p n) (x % 1024) (n - k) k) (x % 1024) < 1024 := gm_lt hh _
      have hm : p j % 1024 < 1024 := Nat.mod_lt _ (by omega)
      have h2 := xor_u16 (a := gm (hor (cut p n) (x % 1024) (n - k) k) (x % 1024)) (b := p j % 1024) (by omega) (by omega)
      have HN := Lib.hid (show hor (cut p n) (x % 1024) (n - (k + 1)) (k + 1) = gm (hor (cut p n) (x % 1024) (n - k) k) (x % 1024) ^^^ p j % 1024 by
        rw [hor, show n - (k + 1) + 1 = n - k by omega, show n - (k + 1) = j by omega, cut_in p hjl])
      have hr := fun W : World => rmul_q (hor (cut p n) (x % 1024) (n - k) k) x W (by omega) HX.out
      have hr1 : hor (cut p n) (x % 1024) (n - k) k % 1024 = hor (cut p n) (x % 1024) (n - k) k := Nat.mod_eq_of_lt hh
      simp only [hr1] at hr
      clear hr1
      have HR := Lib.hid hr
      have ej : (n : Int) - 1 - k = (j : Int) := by omega
      have hj0 : (0 : Int) ≤ (j : Int) := by omega
      have hj1 : (j : Int) < (n : Int) := by omega
      rw [ej]
      have HE := Lib.hid ej
      have HJ := Lib.hid hj
      generalize hor (cut p n) (x % 1024) (n - k) k = V at *
      clear hcell ej hj hr hh hpj hm
      generalize hP : p j % 1024 = P at *
      clear hP hg
      go_wp2_with fail
      go_quiet ((go_at_call 29; exact Calls.quiet_of_same (HR.out _)))
      go_wp2_with fail
      go_roundw
      case rel => exact ⟨k + 1, by omega, by have := HE.out; congr 1; omega, by rw [HN.out], hK.drewN _⟩
      case measure => simp [intOf]
    · obtain rfl : k = n := by omega
      have ek : (k : Int) - 1 - k = -1 := by omega
      rw [ek, Nat.sub_self]
      clear ek
      go_wp2_with fail
      go_ret
      exact ⟨rfl, hK⟩

set_option maxHeartbeats 4000000 in
set_option maxRecDepth 100000 in
theorem rpmul_any (a b : Option Addr) (na nb ca cb : Nat) (p q : Nat → Nat) (la lb : Nat) (hla : IsPol (cut p na) la) (hlb : IsPol (cut q nb) lb) (w : World) (ha : ArgU w a na p) (hb : ArgU w b nb q) (hna : na ≤ 1000000) (hnb : nb ≤ 1000000) :
    Calls Try.prog 33 #[.slice a na ca, .slice b nb cb] w fun e w' => ∃ a' m, e = .returned (.slice a' m m) ∧ ResU w' w.heap.size a' m (pmulM (cut p na) la (cut q nb) lb) ∧
      IsPol (pmulM (cut p na) la (cut q nb) lb) m ∧ Keep (fun _ => False) w w' := by
  have HA := Lib.hid ha
  have HB := Lib.hid hb
  have hla0 := Lib.hid hla
  have hlb0 := Lib.hid hlb
  clear ha hb hla hlb
  go_enter Try.func33, Try.ntmps33
  go_wp2_with fail
  refine (rtrim_any _ _ _ _ _ HA.out hna).mono ?_
  rintro e w1 ⟨aA, la', rfl, rA, pA, lA, k2⟩
  obtain rfl := hla0.out.uniq pA
  have B1 := Lib.hid (HB.out.keep k2)
  have kk1 := k2
  clear HB HA k2
  go_wp2_with fail
  refine (rtrim_any _ _ _ _ _ B1.out hnb).mono ?_
  rintro e w2 ⟨aB, lb', rfl, rB, pB, lB, k2⟩
  obtain rfl := hlb0.out.uniq pB
  have HA := Lib.hid ((rA.keep k2).arg (by omega) pA.lt16)
  have HB := Lib.hid (rB.arg (by omega) pB.lt16)
  have kk2 := kk1.trans k2 (fun _ hi => .inl hi)
  have hfl := Lib.hid pA.lt
  have hgl := Lib.hid pB.lt
  have hfz := Lib.hid pA.zero
  have hgz := Lib.hid pB.zero
  clear B1 kk1 k2 rA rB pA pB hla0 hlb0
  by_cases c0 : la = 0
  · have HM := Lib.hid (show pmulM (cut p na) la (cut q nb) lb = fun _ => 0 by simp [pmulM, c0])
    subst c0
    go_wp2_with fail
    go_ret
    rw [HM.out]
    exact ⟨none, 0, rfl, .inl ⟨rfl, rfl⟩, pol_none, kk2⟩
  · by_cases c1 : lb = 0
    · have HM := Lib.hid (show pmulM (cut p na) la (cut q nb) lb = fun _ => 0 by simp [pmulM, c1])
      subst c1
      have d0 : ((la : Int) == 0) = false := beq_eq_false_iff_ne.2 (by omega)
      go_wp2_with fail
      go_ret
      rw [HM.out]
      exact ⟨none, 0, rfl, .inl ⟨rfl, rfl⟩, pol_none, kk2⟩
    · by_cases c2 : 4097 < la + lb
      · have HM := Lib.hid (show pmulM (cut p na) la (cut q nb) lb = fun _ => 0 by simp [pmulM, c2])
        have d0 : ((la : Int) == 0) = false := beq_eq_false_iff_ne.2 (by omega)
        have d1 : ((lb : Int) == 0) = false := beq_eq_false_iff_ne.2 (by omega)
        have d4 : decide ((4096 : Int) < (la : Int) + (lb : Int) - 1) = true := by simp; omega
        clear c0 c1 c2
        go_wp2_with fail
        go_ret
        rw [HM.out]
        exact ⟨none, 0, rfl, .inl ⟨rfl, rfl⟩, pol_none, kk2⟩
      · have HM := Lib.hid (show pmulM (cut p na) la (cut q nb) lb = pmul (cut p na) (cut q nb) by simp [pmulM, c0, c1, c2])
        obtain ⟨m, hm⟩ : ∃ m, la + lb = m + 1 := ⟨la + lb - 1, by omega⟩
        have d0 : ((la : Int) == 0) = false := beq_eq_false_iff_ne.2 (by omega)
        have d1 : ((lb : Int) == 0) = false := beq_eq_false_iff_ne.2 (by omega)
        have d2 : (la : Int) + (lb : Int) - 1 = (m : Int) := by omega
        have d4 : decide ((4096 : Int) < (m : Int)) = false := by simp; omega
        have hmk := make_u m m rfl (by omega)
        have hm2 : m ≤ 4096 := by omega
        generalize hf : cut p na = f at *
        generalize hg : cut q nb = g at *
        clear c0 c1 c2
        have bo := Blk.new w2 23 (uArr (fun _ => 0) m)
        have k3 := (Keep.refl (fun _ => False) w2).alloc (.cells (uArr (fun _ => 0) m) 23)
        go_wp2_with fail
        clear d0 d1 d4 hmk
        go_loopw [6] (fun v wr => ∃ i : Nat, i ≤ la ∧ v = .int .i64 i ∧ Blk wr w2.heap.size 23 (uArr (fun k => pacc f g i k) m) ∧ Keep (fun _ => False) w2 wr) (fun v _ => la - (intOf v).toNat)
        case atStart =>
          refine ⟨0, by omega, rfl, ?_, k3⟩
          rwa [uArr_congr (g := fun k => pacc f g 0 k) (fun i hi => by simp [pacc, xs])] at bo
        case round =>
          clear bo k3
          obtain ⟨i, hi, rfl, hR, hk⟩ := hrel
          by_cases hil : i < la
          · have hil' : (i : Int) < (la : Int) := by omega
            obtain ⟨bA, oA, rfl, hbA, hcA⟩ := HA.out.at_ (by omega)
            have hcAi := hcA i hil
            clear hcA
            go_wp2_with fail
            obtain ⟨wo, hwo⟩ : ∃ wo : World, wo = wr := ⟨_, rfl⟩
            go_loopw [7] (fun v wr => ∃ j : Nat, j ≤ lb ∧ v = .int .i64 j ∧ Blk wr w2.heap.size 23 (uArr (mulMid f g i j) m) ∧ Keep (fun _ => False) w2 wr) (fun v _ => lb - (intOf v).toNat)
            case atStart =>
              refine ⟨0, by omega, rfl, ?_, hk⟩
              rw [mulMid_start]
              exact hR
            case round =>
              clear hR hk hwo
              obtain ⟨j, hj, rfl, hR, hk⟩ := hrel
              have hs := hk.size
              by_cases hjl : j < lb
              · have hjl' : (j : Int) < (lb : Int) := by omega
                obtain ⟨bB, oB, rfl, hbB, hcB⟩ := HB.out.at_ (by omega)
                have hxi := (hk.cell (p := ⟨bA, oA + i, none⟩) hbA (by simp)).trans hcAi
                have hyj := (hk.cell (p := ⟨bB, oB + j, none⟩) hbB (by simp)).trans (hcB j hjl)
                have hijm : i + j < m := by omega
                have hout := hR.val hijm
                have hfi := hfl.out i
                have hgj := hgl.out j
                have hml := mulMid_lt (g := g) hfl.out i j (i + j)
                have hx := xor_u16 (a := mulMid f g i j (i + j)) (b := gm (f i) (g j)) (by omega) (by have := gm_lt hfi (g j); omega)
                have q0 : ∀ z : KeptBy wr, z.v.cell? ⟨bA, oA + i, none⟩ = some (.int .u16 (f i : Nat)) := fun z => z.cell (show bA < wr.heap.size by omega) hxi
                have q1 : ∀ z : KeptBy wr, z.v.cell? ⟨bB, oB + j, none⟩ = some (.int .u16 (g j : Nat)) := fun z => z.cell (show bB < wr.heap.size by omega) hyj
                have q2 : ∀ z : KeptBy wr, z.v.cell? ⟨w2.heap.size, i + j, none⟩ = some (.int .u16 (mulMid f g i j (i + j) : Nat)) := fun z => z.cell hR.lt hout
                have e1 : (i : Int) + (j : Int) < (m : Int) := by omega
                have e2 : (0 : Int) ≤ (i : Int) + (j : Int) := by omega
                have e3 : ((i : Int) + (j : Int)).toNat = i + j := by omega
                clear hcB
                go_upto_region 11 with fail
                have e0 : IntKind.i64.wrap ((i : Int) + (j : Int)) = (i : Int) + (j : Int) := wraps_i64 _ (by omega) (by omega)
                refine wp_region_kept_tail 21 (by kernel_rfl) (by kernel_rfl) ?_
                simp only [List.take_succ_cons, List.take_zero, List.drop_succ_cons, List.drop_zero]
                repeat (quiet_step (first
                  | (go_at_call 29; exact kept_of (rmul_kept _ _ _ hfi hgj))))
                refine wpQuiet_nil ?_
                rintro w5 ⟨⟨_, k5⟩, rfl⟩
                clear q0 q1 q2 e0
                have hR5 := hR.keep k5 (by simp)
                have c5 := hR5.val hijm
                have z5 := hR5.frozen (i + j)
                have k6 := hk.trans k5 (fun _ hi => .inl hi)
                have HN := Lib.hid (hR5.storeU (i + j) (mulMid f g i j (i + j) ^^^ gm (f i) (g j)) (f' := mulMid f g i (j + 1)) (fun k _ => mulMid_next f g i j k))
                go_wp2_with fail
                exact ⟨⟨j + 1, by omega, by go_num, HN.out, k6.setCell (p := ⟨w2.heap.size, i + j, none⟩) (.inr (Nat.le_refl _)) _⟩, by simp [intOf]; omega⟩
              · obtain rfl : j = lb := by omega
                have hR2 := hR
                rw [mulMid_row hgz.out] at hR2
                have HR := Lib.hid hR2
                clear hR hR2
                go_wp2_with fail
                exact ⟨⟨i + 1, by omega, by go_num, HR.out, hk⟩, by simp [intOf]; omega⟩
          · obtain rfl : i = la := by omega
            have HR := Lib.hid (hR.argU (by omega) (fun k _ => by have := pacc_lt (g := g) hfl.out i k; omega))
            have hs := hk.size
            have HC := Lib.hid (show cut (fun k => pacc f g i k) m = pmul f g by
              have e : (fun k => pacc f g i k) = pmul f g := funext fun k => pacc_full hfz.out k
              rw [e]
              exact cut_of_lt (fun k => pmul_lt hfl.out k) (fun k hk => pmul_zero hfz.out hgz.out (by omega)))
            have hs2 := kk2.size
            go_wp2_with fail
            refine (rtrim_any _ _ _ _ _ HR.out (by omega)).mono ?_
            rintro e w4 ⟨a', m', rfl, hres, hpol, hle, k4⟩
            rw [HC.out] at hres hpol
            go_wp2_with fail
            go_ret
            subst hf hg
            rw [HM.out]
            exact ⟨a', m', rfl, hres.more (by omega), hpol, (kk2.trans hk (fun _ hi => .inl hi)).trans k4 (fun _ hi => .inl hi)⟩
end Go.Proofs.Ytnejnoiogojplaa

namespace Go.Proofs.Ytnejnoiogojplaa
open Go.RowKit

theorem rinv_lt (a : Nat) (w : World) (ha : a < 1024) (h0 : a ≠ 0) :
    Calls Try.prog 44 #[.int .u16 a] w fun e w' => e = .returned (.tuple #[.int .u16 (gi a : Nat), .bool true]) ∧ w = w' := by
  have := rinv_any a w (by omega) true (Lib.hid (by rw [Nat.mod_eq_of_lt ha]; simpa using h0))
  rwa [Nat.mod_eq_of_lt ha] at this

set_option maxHeartbeats 8000000 in
set_option maxRecDepth 100000 in
theorem rdiv_any (a b : Option Addr) (na nb ca cb : Nat) (p q : Nat → Nat) (la lb : Nat) (hla : IsPol (cut p na) la) (hlb : IsPol (cut q nb) lb) (w : World) (ha : ArgU w a na p) (hb : ArgU w b nb q) (hna : na ≤ 1000000) (hnb : nb ≤ 1000000) :
    Calls Try.prog 41 #[.slice a na ca, .slice b nb cb] w fun e w' => ∃ aq nq ar nr, e = .returned (.tuple #[.slice aq nq nq, .slice ar nr nr, .bool (lb != 0)]) ∧
      ResU w' w.heap.size aq nq (quo (cut p na) la (cut q nb) lb) ∧ IsPol (quo (cut p na) la (cut q nb) lb) nq ∧ ResU w' w.heap.size ar nr (rst (cut p na) la (cut q nb) lb) ∧ IsPol (rst (cut p na) la (cut q nb) lb) nr ∧ Keep (fun _ => False) w w' := by
  have HA := Lib.hid ha
  have HB := Lib.hid hb
  have hla0 := Lib.hid hla
  have hlb0 := Lib.hid hlb
  clear ha hb hla hlb
  generalize hf : cut p na = f at *
  generalize hg : cut q nb = g at *
  have HF := Lib.hid hf
  have HG := Lib.hid hg
  have hlam : la ≤ na := by
    rcases Nat.lt_or_ge na la with h | h
    · exact absurd (by rw [← hf]; exact cut_zero p (by omega)) (hla0.out.lead (by omega))
    · exact h
  have hlbm : lb ≤ nb := by
    rcases Nat.lt_or_ge nb lb with h | h
    · exact absurd (by rw [← hg]; exact cut_zero q (by omega)) (hlb0.out.lead (by omega))
    · exact h
  clear hf hg
  go_enter Try.func41, Try.ntmps41
  go_wp2_with fail
  refine (rtrim_any _ _ _ _ _ HA.out hna).mono ?_
  rintro e w1 ⟨aR, la', rfl, rA, pA, lA, k2⟩
  rw [HF.out] at rA pA
  obtain rfl := hla0.out.uniq pA
  have B1 := Lib.hid (HB.out.keep k2)
  have kk1 := k2
  clear HB HA k2
  go_wp2_with fail
  refine (rtrim_any _ _ _ _ _ B1.out hnb).mono ?_
  rintro e w2 ⟨aB, lb', rfl, rB, pB, lB, k2⟩
  rw [HG.out] at rB pB
  obtain rfl := hlb0.out.uniq pB
  by_cases hb0 : lb = 0
  · subst hb0
    have kk2 := kk1.trans k2 (fun _ hi => .inl hi)
    clear rA rB
    go_wp2_with fail
    go_ret3
    refine ⟨none, 0, none, 0, rfl, .inl ⟨rfl, rfl⟩, ?_, .inl ⟨rfl, rfl⟩, ?_, kk2⟩
    · unfold quo
      rw [if_pos rfl]
      exact pol_none
    · unfold rst
      rw [if_pos rfl]
      exact pol_none
  · obtain ⟨gB, rfl, nB, bB⟩ : ∃ gB, aB = some ⟨gB, 0, none⟩ ∧ w1.heap.size ≤ gB ∧ Blk w2 gB 23 (uArr g lb) := by
      rcases rB with h | h
      · omega
      · exact h
    have farA : ∀ gR, aR = some ⟨gR, 0, none⟩ → gR < gB := by
      intro gR e
      rcases rA with ⟨h, _⟩ | ⟨g', h, _, hb⟩
      · rw [h] at e; cases e
      · rw [h] at e
        obtain rfl : g' = gR := by injection e with e; injection e
        have := hb.lt
        omega
    have rA2 := rA.keep k2
    have kk2 := kk1.trans k2 (fun _ hi => .inl hi)
    clear B1 kk1 k2 rA rB
    have cB := bB.val (show lb - 1 < lb by omega)
    have hgl := hlb0.out.lt (lb - 1)
    have hgn := hlb0.out.lead (by omega)
    have e1 : (lb : Int) - 1 = ((lb - 1 : Nat) : Int) := by omega
    have e2 : ((lb - 1 : Nat) : Int) < (lb : Int) := by omega
    have d1 : ¬ (lb : Int) = 0 := by omega
    go_wp2_with fail
    refine (rinv_lt _ _ hgl hgn).mono ?_
    rintro e w3 ⟨rfl, hw⟩
    subst hw
    clear e1 e2 cB hgl hgn
    obtain ⟨m, hm⟩ : ∃ m, m = quoN la lb := ⟨_, rfl⟩
    have hml : m = la + 1 - lb := hm
    have HMQ := Lib.hid hm
    have hmm : m ≤ 1000000 := by omega
    have hmk := make_u m m rfl (by omega)
    have hmx : (if (la : Int) - (lb : Int) + 1 < 0 then 0 else (la : Int) - (lb : Int) + 1) = (m : Int) := by split <;> omega
    have HMm := Lib.hid hml
    clear hm hml
    have kA := (Keep.refl (fun _ => False) w2).alloc (.cells (uArr (fun _ => 0) m) 23)
    have bq0 := Blk.new w2 23 (uArr (fun _ => 0) m)
    have rA3 := rA2.keep kA
    have bB3 := bB.alloc (.cells (uArr (fun _ => 0) m) 23)
    have kp3 := kk2.trans kA (fun _ hi => .inl hi)
    have nq := kk2.size
    have nqB : w2.heap.size ≠ gB := by have := bB.lt; omega
    have far2 : ∀ gR, aR = some ⟨gR, 0, none⟩ → gR ≠ gB ∧ gR ≠ w2.heap.size := fun gR e => ⟨by have := farA gR e; omega, by have := farA gR e; have := bB.lt; omega⟩
    clear rA2 bB kA kk2 farA
    go_wp2_with fail
    clear hmk hmx
    generalize w2.alloc (.cells (uArr (fun _ => 0) m) 23) = wA at bq0 rA3 bB3 kp3 ⊢
    generalize w2.heap.size = gq at bq0 nq nqB far2 ⊢
    go_loopw [10] (fun v wr => ∃ (k : Nat) (R Q : Nat → Nat), k ≤ m ∧ v = .int .i64 ((la : Int) - lb - m + k) ∧ Hid (divRun g lb k (R, Q) = divRun g lb m (f, fun _ => 0)) ∧ Hid (∀ i, R i < 1024) ∧ Hid (∀ i, la ≤ i → R i = 0) ∧ Hid (∀ i, Q i < 1024) ∧ Hid (∀ i, m ≤ i → Q i = 0) ∧
      ResU wr w.heap.size aR la R ∧ Blk wr gq 23 (uArr Q m) ∧ Blk wr gB 23 (uArr g lb) ∧ Keep (fun _ => False) w wr) (fun v _ => (intOf v + 1).toNat)
    case atStart => exact ⟨m, f, fun _ => 0, Nat.le_refl _, by congr 1; omega, Lib.hid rfl, hla0.out.lt |> Lib.hid, hla0.out.zero |> Lib.hid, Lib.hid (fun _ => show (0:Nat) < 1024 by omega), Lib.hid (fun _ _ => rfl), rA3, bq0, bB3, kp3⟩
    case round =>
      clear rA3 bq0 bB3 kp3
      obtain ⟨k, R, Q, hkm, rfl, Hrun, rl, Hrz, ql, Hqz, row, bq, bB, kp⟩ := hrel
      rcases k with _ | k
      · have hR := Lib.hid (row.arg (by omega) (fun i => by have := rl.out i; omega))
        have hQ := Lib.hid (bq.argU (by omega) (fun i _ => by have := ql.out i; omega))
        have eQ := Lib.hid (cut_of_lt ql.out Hqz.out)
        have eR := Lib.hid (cut_of_lt rl.out Hrz.out)
        have hsz := kp.size
        obtain ⟨z, hz⟩ : ∃ z : Int, z = (la : Int) - lb - m + (0 : Nat) := ⟨_, rfl⟩
        have hz0 : z < 0 := by have := HMm.out; omega
        rw [← hz]
        clear hz row bq bB
        go_wp2_with fail
        refine (rtrim_any _ _ _ _ _ hQ.out (by omega)).mono ?_
        rintro e W1 ⟨aq, nq', rfl, hq, pq, lq, k2⟩
        rw [eQ.out] at hq pq
        have hR1 := Lib.hid (hR.out.keep k2)
        go_wp2_with fail
        refine (rtrim_any _ _ _ _ _ hR1.out (by omega)).mono ?_
        rintro e W2 ⟨ar, nr, rfl, hr, pr, lr, k3⟩
        rw [eR.out] at hr pr
        have hsz2 := k2.size
        go_wp2_with fail
        go_ret3
        have e1 : quo f la g lb = Q := by
          have h := Hrun.out
          simp only [divRun] at h
          unfold quo
          rw [if_neg hb0, ← HMQ.out, ← h]
        have e2 : rst f la g lb = R := by
          have h := Hrun.out
          simp only [divRun] at h
          unfold rst
          rw [if_neg hb0, ← HMQ.out, ← h]
        rw [e1, e2]
        refine ⟨aq, nq', ar, nr, ?_, (hq.keep k3).more hsz, pq, hr.more (by omega), pr, (kp.trans k2 (fun _ hi => .inl hi)).trans k3 (fun _ hi => .inl hi)⟩
        have e3 : (lb != 0) = true := by simpa using hb0
        rw [e3]
        rfl
      · have hlal : lb ≤ la := by have := HMm.out; omega
        obtain ⟨gR, eaR, hNR, bR⟩ : ∃ gR, aR = some ⟨gR, 0, none⟩ ∧ w.heap.size ≤ gR ∧ Blk wr gR 23 (uArr R la) := by
          rcases row with h | ⟨gR, h1, h2, h3⟩
          · omega
          · exact ⟨gR, h1, h2, h3⟩
        obtain ⟨nRB, nRq⟩ := far2 gR eaR
        subst eaR
        clear row
        have hik : k + lb - 1 < la := by have := HMm.out; omega
        have ek : ((la : Int) - lb - m + ((k + 1 : Nat) : Int)) = (k : Int) := by have := HMm.out; omega
        have e1 : (k : Int) + (lb : Int) - 1 = ((k + lb - 1 : Nat) : Int) := by omega
        have HkI := Lib.hid ek
        rw [ek]
        clear ek
        have c2 := bR.val hik
        have hkm' : (k : Int) < (m : Int) := by omega
        have hkmn : k < m := by omega
        have hrk := rl.out (k + lb - 1)
        have hgi := gi_lt (g (lb - 1))
        obtain ⟨c, hc⟩ : ∃ c, c = divC g lb R k := ⟨_, rfl⟩
        have HC := Lib.hid hc
        have hcc : gm (R (k + lb - 1)) (gi (g (lb - 1))) = c := by rw [hc]; rfl
        have hcl : c < 1024 := by rw [hc]; exact gm_lt hrk _
        have e2 : ((k + lb - 1 : Nat) : Int) < (la : Int) := by omega
        have cq := bq.val hkmn
        have zq := bq.frozen k
        have HCC := Lib.hid hcc
        clear hc hcc
        go_wp2_with fail
        refine (rmul_lt _ _ _ hrk hgi).mono ?_
        rintro e w5 ⟨rfl, hw⟩
        subst hw
        rw [HCC.out]
        obtain ⟨Q', hQ'⟩ : ∃ Q', Q' = fun t => if t = k then c else Q t := ⟨_, rfl⟩
        have fq : Blk (wr.setCell ⟨gq, k, none⟩ (.int .u16 c)) gq 23 (uArr Q' m) := bq.storeU k _ (fun t _ => by rw [hQ'])
        have fR := bR.far (p := ⟨gq, k, none⟩) nRq (.int .u16 c)
        have fB := bB.far (p := ⟨gq, k, none⟩) (Ne.symm nqB) (.int .u16 c)
        have fK := kp.setCell (p := ⟨gq, k, none⟩) (.inr nq) (.int .u16 c)
        have hQk : Q' k = c := by rw [hQ']; simp
        have HQ := Lib.hid hQ'
        have HQk := Lib.hid hQk
        clear hQ' hQk bR bq bB kp e2 c2 e1
        have fR0 := fR
        rw [show uArr R la = uArr (divR g k c 0 R) la by rw [divR_zero]] at fR0
        clear fR
        go_wp2_with fail
        clear cq zq
        generalize wr.setCell ⟨gq, k, none⟩ (.int .u16 c) = w6 at fq fR0 fB fK ⊢
        obtain ⟨wo, hwo⟩ : ∃ wo : World, wo = wr := ⟨_, rfl⟩
        go_loopw [11] (fun v wr => ∃ j : Nat, j ≤ lb ∧ v = .int .i64 j ∧ Blk wr gR 23 (uArr (divR g k c j R) la) ∧ Blk wr gq 23 (uArr Q' m) ∧ Blk wr gB 23 (uArr g lb) ∧ Keep (fun _ => False) w wr) (fun v _ => lb - (intOf v).toNat)
        case atStart => exact ⟨0, by omega, rfl, fR0, fq, fB, fK⟩
        case round =>
          clear fR0 fq fB fK hwo
          obtain ⟨j, hj, rfl, fR, fq, fB, fK⟩ := hrel
          by_cases hjl : j < lb
          · have hjl' : (j : Int) < (lb : Int) := by omega
            have hkj : k + j < la := by have := HMm.out; omega
            have cg := fB.val hjl
            have cq := fq.val hkmn
            rw [HQk.out] at cq
            have cR := fR.val hkj
            have q2 : ∀ z : KeptBy wr, z.v.cell? ⟨gR, k + j, none⟩ = some (.int .u16 (divR g k c j R (k + j) : Nat)) := fun z => z.cell fR.lt cR
            have q3 : ∀ z : KeptBy wr, z.v.cell? ⟨gq, k, none⟩ = some (.int .u16 c) := fun z => z.cell fq.lt cq
            have q4 : ∀ z : KeptBy wr, z.v.cell? ⟨gB, j, none⟩ = some (.int .u16 (g j : Nat)) := fun z => z.cell fB.lt cg
            have hgj := hlb0.out.lt j
            have hrl := divR_lt (g := g) (k := k) (j := j) hcl rl.out (k + j)
            have hx := xor_u16 (a := divR g k c j R (k + j)) (b := gm c (g j)) (by omega) (by have := gm_lt hcl (g j); omega)
            have e1 : (k : Int) + (j : Int) < (la : Int) := by omega
            have e2 : (0 : Int) ≤ (k : Int) + (j : Int) := by omega
            have e3 : ((k : Int) + (j : Int)).toNat = k + j := by omega
            go_upto_region 13 with fail
            have e0 : IntKind.i64.wrap ((k : Int) + (j : Int)) = (k : Int) + (j : Int) := wraps_i64 _ (by omega) (by omega)
            refine wp_region_kept_tail 21 (by kernel_rfl) (by kernel_rfl) ?_
            simp only [List.take_succ_cons, List.take_zero, List.drop_succ_cons, List.drop_zero]
            repeat (quiet_step (first
              | (go_at_call 29; exact kept_of (rmul_kept _ _ _ hcl hgj))))
            refine wpQuiet_nil ?_
            rintro w7 ⟨⟨_, k7⟩, rfl⟩
            clear q2 q3 q4 e0
            have dR := fR.keep k7 (by simp)
            have cR7 := dR.val hkj
            have zR := dR.frozen (k + j)
            have HN := Lib.hid (dR.storeU (k + j) (divR g k c j R (k + j) ^^^ gm c (g j)) (f' := divR g k c (j + 1) R) (fun t _ => divR_next g k c j R t))
            have Hq := Lib.hid ((fq.keep k7 (by simp)).far (p := ⟨gR, k + j, none⟩) (Ne.symm nRq) (.int .u16 (divR g k c j R (k + j) ^^^ gm c (g j) : Nat)))
            have HBB := Lib.hid ((fB.keep k7 (by simp)).far (p := ⟨gR, k + j, none⟩) (Ne.symm nRB) (.int .u16 (divR g k c j R (k + j) ^^^ gm c (g j) : Nat)))
            have HK := Lib.hid ((fK.trans k7 (fun _ hi => .inl hi)).setCell (p := ⟨gR, k + j, none⟩) (.inr hNR) (.int .u16 (divR g k c j R (k + j) ^^^ gm c (g j) : Nat)))
            clear fR fq fB fK k7 dR
            go_wp2_with fail
            exact ⟨⟨j + 1, by omega, by go_num, HN.out, Hq.out, HBB.out, HK.out⟩, by simp [intOf]; omega⟩
          · obtain rfl : j = lb := by omega
            have hjl' : ¬ (j : Int) < (j : Int) := by omega
            have HD : Hid (ResU wr w.heap.size (some ⟨gR, 0, none⟩) la (divR g k c j R) ∧ Blk wr gq 23 (uArr Q' m) ∧ Blk wr gB 23 (uArr g j) ∧ Keep (fun _ => False) w wr) := Lib.hid ⟨.inr ⟨gR, rfl, hNR, fR⟩, fq, fB, fK⟩
            clear fR fq fB fK
            go_wp2_with fail
            refine ⟨⟨k, divR g k c j R, Q', by omega, ?_, Lib.hid ?_, Lib.hid (divR_lt hcl rl.out), Lib.hid (fun i hi => ?_), Lib.hid (fun i => ?_), Lib.hid (fun i hi => ?_), HD.out⟩, ?_⟩
            · have := HkI.out
              congr 1
              omega
            · have h := Hrun.out
              simp only [divRun] at h
              rw [← HC.out, ← HQ.out] at h
              exact h
            · unfold divR
              rw [if_neg (by have := HMm.out; omega)]
              exact Hrz.out i hi
            · rw [HQ.out]
              show (if i = k then c else Q i) < 1024
              split
              · exact hcl
              · exact ql.out i
            · rw [HQ.out]
              show (if i = k then c else Q i) = 0
              rw [if_neg (by omega)]
              exact Hqz.out i hi
            · simp [intOf]
end Go.Proofs.Ytnejnoiogojplaa
