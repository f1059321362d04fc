/- The reference's field and polynomials: products. -/
import Derived.Test.YtdlmjjlejkkniaaGreatField2
import Derived.Test.YtdlmjjlejkkniaaGreatPolW
import Derived.Test.YtdlmjjlejkkniaaGreatKeptTail
namespace Go.Proofs.YtdlmjjlejkkniaaGreat
open Go.RowKit

theorem gmr_odd (k x y : Nat) (h : y % 2 = 1) : gmr (k + 1) x y = x ^^^ gmr k (xt x) (y / 2) := by simp [gmr, h]
theorem gmr_even (k x y : Nat) (h : ¬ y % 2 = 1) : gmr (k + 1) x y = gmr k (xt x) (y / 2) := by simp [gmr, h]

theorem xor_two {x : Nat} (h : x < 4096) : bits .xor .i64 ((x : Int) * 2) 1033 = (((2 * x) ^^^ 1033 : Nat) : Int) := by
  have b2 := xor_i64 (a := 2 * x) (b := 1033) (by omega) (by omega)
  have b3 : (((2 * x : Nat) : Int)) = (x : Int) * 2 := by omega
  rw [b3] at b2
  exact b2

set_option maxRecDepth 100000 in
set_option maxHeartbeats 2000000 in
theorem rmul_any (a b : Nat) (w : World) (ha : a < 65536) (hb : b < 65536) :
    Calls Tryz.prog 57 #[.int .u16 a, .int .u16 b] w fun e w' => e = .returned (.int .u16 (gm (a % 1024) (b % 1024) : Nat)) ∧ w = w' := by
  have h1 := and_1023 ha
  have h2 := and_1023 hb
  have hA : a % 1024 < 1024 := Nat.mod_lt _ (by omega)
  have hB : b % 1024 < 1024 := Nat.mod_lt _ (by omega)
  have e1 : IntKind.i64.wrap ((a % 1024 : Nat) : Int) = ((a % 1024 : Nat) : Int) := wraps_i64 _ (by omega) (by omega)
  have e2 : IntKind.i64.wrap ((b % 1024 : Nat) : Int) = ((b % 1024 : Nat) : Int) := wraps_i64 _ (by omega) (by omega)
  generalize a % 1024 = A at *
  generalize b % 1024 = B at *
  clear ha hb
  go_enter Tryz.func57, Tryz.ntmps57
  go_wp2
  clear h1 h2 e1 e2
  go_loop [5, 6, 7] (fun vx vy vo => ∃ k x y o : Nat, vx = .int .i64 x ∧ vy = .int .i64 y ∧ vo = .int .i64 o ∧ x < 1024 ∧ o < 1024 ∧ y < 1024 ∧ y < 2 ^ k ∧ Hid (o ^^^ gmr k x y = gm A B)) (fun _ vy _ => (intOf vy).toNat)
  case atStart => exact ⟨10, A, B, 0, rfl, rfl, rfl, hA, by omega, hB, by simpa using hB, Lib.hid (by rw [Nat.zero_xor]; rfl)⟩
  case round =>
    obtain ⟨k, x, y, o, rfl, rfl, rfl, hx, ho, hy, hyk, HE⟩ := hrel
    by_cases hy0 : y = 0
    · subst hy0
      have HO := Lib.hid (show o = gm A B by have := HE.out; rwa [gmr_zero_right, Nat.xor_zero] at this)
      have e3 : IntKind.u16.wrap ((o : Nat) : Int) = (o : Int) := wraps_u16 _ (by omega) (by omega)
      go_wp2
      go_ret
      rw [HO.out]
      exact ⟨rfl, rfl⟩
    · obtain ⟨k, rfl⟩ : ∃ j, k = j + 1 := by
        rcases k with _ | k
        · simp at hyk; omega
        · exact ⟨k, rfl⟩
      have hyk2 : y / 2 < 2 ^ k := by rw [Nat.pow_succ] at hyk; omega
      have hy1 : (0 : Int) < (y : Int) := by omega
      have a1 := and_one (show y < 4294967296 by omega)
      clear hyk
      have hxt := xt_lt hx
      by_cases h1 : y % 2 = 1
      · have HG := Lib.hid (gmr_odd k x y h1)
        have a2 : (((y % 2 : Nat) : Int) == 1) = true := by rw [h1]; rfl
        have hox := xor_lt ho hx
        have a3 := xor_i64 (a := o) (b := x) (by omega) (by omega)
        have b2 := xor_two (show x < 4096 by omega)
        go_wp2
        · have h2 : 1024 ≤ 2 * x := by omega
          have HX := Lib.hid (xt_big h2)
          exact ⟨⟨k, (2 * x) ^^^ 1033, y / 2, o ^^^ x, rfl, by congr 1, rfl, by rw [← HX.out]; exact hxt, hox, by omega, hyk2, Lib.hid (by have := HE.out; rw [HG.out] at this; rw [← HX.out, Nat.xor_assoc]; exact this)⟩, by simp [intOf]; omega⟩
        · have h2 : ¬ 1024 ≤ 2 * x := by omega
          have HX := Lib.hid (xt_small h2)
          exact ⟨⟨k, 2 * x, y / 2, o ^^^ x, by congr 1; omega, by congr 1, rfl, by omega, hox, by omega, hyk2, Lib.hid (by have := HE.out; rw [HG.out] at this; rw [← HX.out, Nat.xor_assoc]; exact this)⟩, by simp [intOf]; omega⟩
      · have HG := Lib.hid (gmr_even k x y h1)
        have a2 : (((y % 2 : Nat) : Int) == 1) = false := by
          have : y % 2 = 0 := by omega
          rw [this]; rfl
        have b2 := xor_two (show x < 4096 by omega)
        go_wp2
        · have h2 : 1024 ≤ 2 * x := by omega
          have HX := Lib.hid (xt_big h2)
          exact ⟨⟨k, (2 * x) ^^^ 1033, y / 2, o, rfl, by congr 1, rfl, by rw [← HX.out]; exact hxt, ho, by omega, hyk2, Lib.hid (by have := HE.out; rw [HG.out] at this; rw [← HX.out]; exact this)⟩, by simp [intOf]; omega⟩
        · have h2 : ¬ 1024 ≤ 2 * x := by omega
          have HX := Lib.hid (xt_small h2)
          exact ⟨⟨k, 2 * x, y / 2, o, by congr 1; omega, by congr 1, rfl, by omega, ho, by omega, hyk2, Lib.hid (by have := HE.out; rw [HG.out] at this; rw [← HX.out]; exact this)⟩, by simp [intOf]; omega⟩

theorem rmul_lt (a b : Nat) (w : World) (ha : a < 1024) (hb : b < 1024) :
    Calls Tryz.prog 57 #[.int .u16 a, .int .u16 b] w fun e w' => e = .returned (.int .u16 (gm a b : Nat)) ∧ w = w' := by
  have := rmul_any a b w (by omega) (by omega)
  rwa [Nat.mod_eq_of_lt ha, Nat.mod_eq_of_lt hb] at this

set_option maxHeartbeats 2000000 in
set_option maxRecDepth 100000 in
theorem rtrim_any (a : Option Addr) (n c : Nat) (p : Nat → Nat) (w : World) (ha : ArgU w a n p) (hn : n ≤ 1000000) :
    Calls Tryz.prog 101 #[.slice a n c] w fun e w' => ∃ a' m, e = .returned (.slice a' m m) ∧ ResU w' w.heap.size a' m (cut p n) ∧ IsPol (cut p n) m ∧ m ≤ n ∧ Keep (fun _ => False) w w' := by
  have HA := Lib.hid ha
  clear ha
  go_enter Tryz.func101, Tryz.ntmps101
  go_upto_block 0 with (fail)
  go_cut [3] (fun v wc => ∃ k : Nat, k ≤ n ∧ v = .int .i64 k ∧ w = wc ∧ Hid (IsPol (cut p n) k))
  case first =>
    go_wp2
    go_loop [3] (fun v => ∃ k : Nat, k ≤ n ∧ v = .int .i64 k ∧ Hid (∀ i, k ≤ i → cut p n i = 0)) (fun v => (intOf v).toNat)
    case atStart => exact ⟨n, Nat.le_refl _, rfl, Lib.hid fun i hi => cut_zero p hi⟩
    case round =>
      obtain ⟨k, hk, rfl, HZ⟩ := hrel
      by_cases h0 : k = 0
      · subst h0
        go_wp2
        go_meet
        case rel => exact ⟨0, by omega, by rfl, rfl, Lib.hid ⟨cut_lt p n, HZ.out, fun h => by omega⟩⟩
      · obtain ⟨b, off, rfl, hb, hcell⟩ := HA.out.at_ (by omega)
        obtain ⟨j, rfl⟩ : ∃ j, k = j + 1 := ⟨k - 1, by omega⟩
        have hj := hcell j (by omega)
        have e1 : cut p n j = p j % 1024 := cut_in p (by omega)
        have h3 : (((j + 1 : Nat) : Int) - 1) = (j : Int) := by omega
        have h4 := and_1023 (HA.out.lt j (by omega))
        clear hcell h0
        by_cases hz : p j % 1024 = 0
        · have HE := Lib.hid (e1.trans hz)
          rw [hz] at h4
          clear e1 hz
          go_wp2
          exact ⟨⟨j, by omega, rfl, Lib.hid fun i hi => by
            by_cases e : i = j
            · rw [e]; exact HE.out
            · exact HZ.out i (by omega)⟩, by simp [intOf]⟩
        · have HE := Lib.hid (fun h => hz (e1.symm.trans h) : cut p n j ≠ 0)
          have hb1 : (((p j % 1024 : Nat) : Int) == 0) = false := by simp; omega
          have hb2 : ¬ (((p j % 1024 : Nat) : Int)) = 0 := by omega
          clear e1 hz
          go_wp2
          go_meet
          case rel => exact ⟨j + 1, by omega, by rfl, rfl, Lib.hid ⟨cut_lt p n, HZ.out, fun _ => HE.out⟩⟩
  case rest =>
    obtain ⟨k, hk0, rfl, hw, HP⟩ := hcut
    subst hw
    have hm := make_u k k rfl (by omega)
    go_wp2
    clear hm
    go_loopw [5] (fun v wr => ∃ j : Nat, j ≤ k ∧ v = .int .i64 j ∧ Blk wr w.heap.size 25 (uArr (fun i => if i < j then p i % 1024 else 0) k) ∧ Keep (fun _ => False) w wr) (fun v _ => k - (intOf v).toNat)
    case atStart =>
      refine ⟨0, Nat.zero_le _, rfl, ?_, (Keep.refl _ _).alloc _⟩
      have := Blk.new w 25 (uArr (fun _ => 0) k)
      simpa using this
    case round =>
      obtain ⟨j, hj, rfl, hB, hk⟩ := hrel
      by_cases hjk : j < k
      · obtain ⟨b, off, rfl, hb, hcell⟩ := HA.out.at_ (by omega)
        have hs := hk.size
        have hc1 := (hk.cell (p := ⟨b, off + j, none⟩) hb (by simp)).trans (hcell j (by omega))
        have hc2 := hB.val hjk
        have hz := hB.frozen j
        have hjk' : (j : Int) < (k : Int) := by omega
        have hjn : (j : Int) < (n : Int) := by omega
        have h4 := and_1023 (HA.out.lt j (by omega))
        clear hcell
        go_wp2
        go_roundw
        case rel =>
          refine ⟨j + 1, by omega, by go_num, ?_, hk.setCell (p := ⟨w.heap.size, j, none⟩) (.inr (Nat.le_refl _)) _⟩
          exact hB.storeU j (p j % 1024) (fun i hi => by
            by_cases e : i = j
            · subst e; simp
            · by_cases e2 : i < j
              · simp [e, e2, show i < j + 1 by omega]
              · simp [e, e2, show ¬ i < j + 1 by omega])
        case measure => simp [intOf]; omega
      · have hjk' : ¬ (j : Int) < (k : Int) := by omega
        go_wp2
        go_ret
        refine ⟨some ⟨w.heap.size, 0, none⟩, k, rfl, .inr ⟨_, rfl, Nat.le_refl _, ?_⟩, HP.out, hk0, hk⟩
        rw [uArr_congr (g := fun i => if i < j then p i % 1024 else 0)]
        · exact hB
        · intro i hi
          simp [cut, show i < n by omega, show i < j by omega]

theorem ret_int {k : IntKind} {a b : Int} (h : a = b) : Ending.returned (.int k a) = .returned (.int k b) := by rw [h]
theorem rmul_q (a b : Nat) (w : World) (ha : a < 65536) (hb : b < 65536) :
    Calls Tryz.prog 57 #[.int .u16 a, .int .u16 b] w fun e w' => e = .returned (.int .u16 (gm (a % 1024) (b % 1024) : Nat)) ∧ w' = w :=
  (rmul_any a b w ha hb).mono fun _ _ ⟨h, e⟩ => ⟨h, e.symm⟩
theorem rmul_kept (a b : Nat) (w : World) (ha : a < 1024) (hb : b < 1024) :
    Calls Tryz.prog 57 #[.int .u16 a, .int .u16 b] w fun e w' => e = .returned (.int .u16 (gm a b : Nat)) ∧ Keep (fun _ => False) w w' :=
  (rmul_lt a b w ha hb).mono fun _ _ ⟨h, e⟩ => ⟨h, by subst e; exact Keep.refl _ _⟩

set_option maxHeartbeats 4000000 in
set_option maxRecDepth 100000 in
theorem rpmul_any (a b : Option Addr) (na nb ca cb : Nat) (p q : Nat → Nat) (la lb : Nat) (hla : IsPol (cut p na) la) (hlb : IsPol (cut q nb) lb) (w : World) (ha : ArgU w a na p) (hb : ArgU w b nb q) (hna : na ≤ 1000000) (hnb : nb ≤ 1000000) :
    Calls Tryz.prog 82 #[.slice a na ca, .slice b nb cb] w fun e w' => ∃ a' m, e = .returned (.slice a' m m) ∧ ResU w' w.heap.size a' m (pmulM (cut p na) la (cut q nb) lb) ∧
      IsPol (pmulM (cut p na) la (cut q nb) lb) m ∧ Keep (fun _ => False) w w' := by
  have HA := Lib.hid ha
  have HB := Lib.hid hb
  have hla0 := Lib.hid hla
  have hlb0 := Lib.hid hlb
  clear ha hb hla hlb
  go_enter Tryz.func82, Tryz.ntmps82
  go_wp2_with fail
  refine (rtrim_any _ _ _ _ _ HA.out hna).mono ?_
  rintro e w1 ⟨aA, la', rfl, rA, pA, lA, k2⟩
  obtain rfl := hla0.out.uniq pA
  have B1 := Lib.hid (HB.out.keep k2)
  have kk1 := k2
  clear HB HA k2
  go_wp2_with fail
  refine (rtrim_any _ _ _ _ _ B1.out hnb).mono ?_
  rintro e w2 ⟨aB, lb', rfl, rB, pB, lB, k2⟩
  obtain rfl := hlb0.out.uniq pB
  have HA := Lib.hid ((rA.keep k2).arg (by omega) pA.lt16)
  have HB := Lib.hid (rB.arg (by omega) pB.lt16)
  have kk2 := kk1.trans k2 (fun _ hi => .inl hi)
  have hfl := Lib.hid pA.lt
  have hgl := Lib.hid pB.lt
  have hfz := Lib.hid pA.zero
  have hgz := Lib.hid pB.zero
  clear B1 kk1 k2 rA rB pA pB hla0 hlb0
  by_cases c0 : la = 0
  · have HM := Lib.hid (show pmulM (cut p na) la (cut q nb) lb = fun _ => 0 by simp [pmulM, c0])
    subst c0
    go_wp2_with fail
    go_ret
    rw [HM.out]
    exact ⟨none, 0, rfl, .inl ⟨rfl, rfl⟩, pol_none, kk2⟩
  · by_cases c1 : lb = 0
    · have HM := Lib.hid (show pmulM (cut p na) la (cut q nb) lb = fun _ => 0 by simp [pmulM, c1])
      subst c1
      have d0 : ((la : Int) == 0) = false := beq_eq_false_iff_ne.2 (by omega)
      go_wp2_with fail
      go_ret
      rw [HM.out]
      exact ⟨none, 0, rfl, .inl ⟨rfl, rfl⟩, pol_none, kk2⟩
    · by_cases c2 : 4097 < la + lb
      · have HM := Lib.hid (show pmulM (cut p na) la (cut q nb) lb = fun _ => 0 by simp [pmulM, c2])
        have d0 : ((la : Int) == 0) = false := beq_eq_false_iff_ne.2 (by omega)
        have d1 : ((lb : Int) == 0) = false := beq_eq_false_iff_ne.2 (by omega)
        have d4 : decide ((4096 : Int) < (la : Int) + (lb : Int) - 1) = true := by simp; omega
        clear c0 c1 c2
        go_wp2_with fail
        go_ret
        rw [HM.out]
        exact ⟨none, 0, rfl, .inl ⟨rfl, rfl⟩, pol_none, kk2⟩
      · have HM := Lib.hid (show pmulM (cut p na) la (cut q nb) lb = pmul (cut p na) (cut q nb) by simp [pmulM, c0, c1, c2])
        obtain ⟨m, hm⟩ : ∃ m, la + lb = m + 1 := ⟨la + lb - 1, by omega⟩
        have d0 : ((la : Int) == 0) = false := beq_eq_false_iff_ne.2 (by omega)
        have d1 : ((lb : Int) == 0) = false := beq_eq_false_iff_ne.2 (by omega)
        have d2 : (la : Int) + (lb : Int) - 1 = (m : Int) := by omega
        have d4 : decide ((4096 : Int) < (m : Int)) = false := by simp; omega
        have hmk := make_u m m rfl (by omega)
        have hm2 : m ≤ 4096 := by omega
        generalize hf : cut p na = f at *
        generalize hg : cut q nb = g at *
        clear c0 c1 c2
        have bo := Blk.new w2 25 (uArr (fun _ => 0) m)
        have k3 := (Keep.refl (fun _ => False) w2).alloc (.cells (uArr (fun _ => 0) m) 25)
        go_wp2_with fail
        clear d0 d1 d4 hmk
        go_loopw [6] (fun v wr => ∃ i : Nat, i ≤ la ∧ v = .int .i64 i ∧ Blk wr w2.heap.size 25 (uArr (fun k => pacc f g i k) m) ∧ Keep (fun _ => False) w2 wr) (fun v _ => la - (intOf v).toNat)
        case atStart =>
          refine ⟨0, by omega, rfl, ?_, k3⟩
          rwa [uArr_congr (g := fun k => pacc f g 0 k) (fun i hi => by simp [pacc, xs])] at bo
        case round =>
          clear bo k3
          obtain ⟨i, hi, rfl, hR, hk⟩ := hrel
          by_cases hil : i < la
          · have hil' : (i : Int) < (la : Int) := by omega
            obtain ⟨bA, oA, rfl, hbA, hcA⟩ := HA.out.at_ (by omega)
            have hcAi := hcA i hil
            clear hcA
            go_wp2_with fail
            obtain ⟨wo, hwo⟩ : ∃ wo : World, wo = wr := ⟨_, rfl⟩
            go_loopw [7] (fun v wr => ∃ j : Nat, j ≤ lb ∧ v = .int .i64 j ∧ Blk wr w2.heap.size 25 (uArr (mulMid f g i j) m) ∧ Keep (fun _ => False) w2 wr) (fun v _ => lb - (intOf v).toNat)
            case atStart =>
              refine ⟨0, by omega, rfl, ?_, hk⟩
              rw [mulMid_start]
              exact hR
            case round =>
              clear hR hk hwo
              obtain ⟨j, hj, rfl, hR, hk⟩ := hrel
              have hs := hk.size
              by_cases hjl : j < lb
              · have hjl' : (j : Int) < (lb : Int) := by omega
                obtain ⟨bB, oB, rfl, hbB, hcB⟩ := HB.out.at_ (by omega)
                have hxi := (hk.cell (p := ⟨bA, oA + i, none⟩) hbA (by simp)).trans hcAi
                have hyj := (hk.cell (p := ⟨bB, oB + j, none⟩) hbB (by simp)).trans (hcB j hjl)
                have hijm : i + j < m := by omega
                have hout := hR.val hijm
                have hfi := hfl.out i
                have hgj := hgl.out j
                have hml := mulMid_lt (g := g) hfl.out i j (i + j)
                have hx := xor_u16 (a := mulMid f g i j (i + j)) (b := gm (f i) (g j)) (by omega) (by have := gm_lt hfi (g j); omega)
                have q0 : ∀ z : KeptBy wr, z.v.cell? ⟨bA, oA + i, none⟩ = some (.int .u16 (f i : Nat)) := fun z => z.cell (show bA < wr.heap.size by omega) hxi
                have q1 : ∀ z : KeptBy wr, z.v.cell? ⟨bB, oB + j, none⟩ = some (.int .u16 (g j : Nat)) := fun z => z.cell (show bB < wr.heap.size by omega) hyj
                have q2 : ∀ z : KeptBy wr, z.v.cell? ⟨w2.heap.size, i + j, none⟩ = some (.int .u16 (mulMid f g i j (i + j) : Nat)) := fun z => z.cell hR.lt hout
                have e1 : (i : Int) + (j : Int) < (m : Int) := by omega
                have e2 : (0 : Int) ≤ (i : Int) + (j : Int) := by omega
                have e3 : ((i : Int) + (j : Int)).toNat = i + j := by omega
                clear hcB
                go_upto_region 11 with fail
                have e0 : IntKind.i64.wrap ((i : Int) + (j : Int)) = (i : Int) + (j : Int) := wraps_i64 _ (by omega) (by omega)
                refine wp_region_kept_tail 21 (by kernel_rfl) (by kernel_rfl) ?_
                simp only [List.take_succ_cons, List.take_zero, List.drop_succ_cons, List.drop_zero]
                repeat (quiet_step (first
                  | (go_at_call 57; exact kept_of (rmul_kept _ _ _ hfi hgj))))
                refine wpQuiet_nil ?_
                rintro w5 ⟨⟨_, k5⟩, rfl⟩
                clear q0 q1 q2 e0
                have hR5 := hR.keep k5 (by simp)
                have c5 := hR5.val hijm
                have z5 := hR5.frozen (i + j)
                have k6 := hk.trans k5 (fun _ hi => .inl hi)
                have HN := Lib.hid (hR5.storeU (i + j) (mulMid f g i j (i + j) ^^^ gm (f i) (g j)) (f' := mulMid f g i (j + 1)) (fun k _ => mulMid_next f g i j k))
                go_wp2_with fail
                exact ⟨⟨j + 1, by omega, by go_num, HN.out, k6.setCell (p := ⟨w2.heap.size, i + j, none⟩) (.inr (Nat.le_refl _)) _⟩, by simp [intOf]; omega⟩
              · obtain rfl : j = lb := by omega
                have hR2 := hR
                rw [mulMid_row hgz.out] at hR2
                have HR := Lib.hid hR2
                clear hR hR2
                go_wp2_with fail
                exact ⟨⟨i + 1, by omega, by go_num, HR.out, hk⟩, by simp [intOf]; omega⟩
          · obtain rfl : i = la := by omega
            have HR := Lib.hid (hR.argU (by omega) (fun k _ => by have := pacc_lt (g := g) hfl.out i k; omega))
            have hs := hk.size
            have HC := Lib.hid (show cut (fun k => pacc f g i k) m = pmul f g by
              have e : (fun k => pacc f g i k) = pmul f g := funext fun k => pacc_full hfz.out k
              rw [e]
              exact cut_of_lt (fun k => pmul_lt hfl.out k) (fun k hk => pmul_zero hfz.out hgz.out (by omega)))
            have hs2 := kk2.size
            go_wp2_with fail
            refine (rtrim_any _ _ _ _ _ HR.out (by omega)).mono ?_
            rintro e w4 ⟨a', m', rfl, hres, hpol, hle, k4⟩
            rw [HC.out] at hres hpol
            go_wp2_with fail
            go_ret
            subst hf hg
            rw [HM.out]
            exact ⟨a', m', rfl, hres.more (by omega), hpol, (kk2.trans hk (fun _ hi => .inl hi)).trans k4 (fun _ hi => .inl hi)⟩
end Go.Proofs.YtdlmjjlejkkniaaGreat
