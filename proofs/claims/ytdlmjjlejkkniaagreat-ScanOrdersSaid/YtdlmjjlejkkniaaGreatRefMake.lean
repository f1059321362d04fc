/- The reference: what makes a page. -/
import Derived.Test.YtdlmjjlejkkniaaGreatPolAll
import Derived.Test.YtdlmjjlejkkniaaGreatBase
import Derived.Test.YtdlmjjlejkkniaaGreatCodeW
import Derived.Deep.RegionHeld3
import Derived.Test.YtdlmjjlejkkniaaGreatHead
import Derived.Test.YtdlmjjlejkkniaaGreatGeo
namespace Go.Proofs.YtdlmjjlejkkniaaGreat
open Go.RowKit

theorem gmr_odd (k x y : Nat) (h : y % 2 = 1) : gmr (k + 1) x y = x ^^^ gmr k (xt x) (y / 2) := by simp [gmr, h]
theorem gmr_even (k x y : Nat) (h : ¬ y % 2 = 1) : gmr (k + 1) x y = gmr k (xt x) (y / 2) := by simp [gmr, h]

theorem xor_two {x : Nat} (h : x < 4096) : bits .xor .i64 ((x : Int) * 2) 1033 = (((2 * x) ^^^ 1033 : Nat) : Int) := by
  have b2 := xor_i64 (a := 2 * x) (b := 1033) (by omega) (by omega)
  have b3 : (((2 * x : Nat) : Int)) = (x : Int) * 2 := by omega
  rw [b3] at b2
  exact b2

set_option maxRecDepth 100000 in
set_option maxHeartbeats 2000000 in
theorem rmul_any (a b : Nat) (w : World) (ha : a < 65536) (hb : b < 65536) :
    Calls Tryz.prog 57 #[.int .u16 a, .int .u16 b] w fun e w' => e = .returned (.int .u16 (gm (a % 1024) (b % 1024) : Nat)) ∧ w = w' := by
  have h1 := and_1023 ha
  have h2 := and_1023 hb
  have hA : a % 1024 < 1024 := Nat.mod_lt _ (by omega)
  have hB : b % 1024 < 1024 := Nat.mod_lt _ (by omega)
  have e1 : IntKind.i64.wrap ((a % 1024 : Nat) : Int) = ((a % 1024 : Nat) : Int) := wraps_i64 _ (by omega) (by omega)
  have e2 : IntKind.i64.wrap ((b % 1024 : Nat) : Int) = ((b % 1024 : Nat) : Int) := wraps_i64 _ (by omega) (by omega)
  generalize a % 1024 = A at *
  generalize b % 1024 = B at *
  clear ha hb
  go_enter Tryz.func57, Tryz.ntmps57
  go_wp2
  clear h1 h2 e1 e2
  go_loop [5, 6, 7] (fun vx vy vo => ∃ k x y o : Nat, vx = .int .i64 x ∧ vy = .int .i64 y ∧ vo = .int .i64 o ∧ x < 1024 ∧ o < 1024 ∧ y < 1024 ∧ y < 2 ^ k ∧ Hid (o ^^^ gmr k x y = gm A B)) (fun _ vy _ => (intOf vy).toNat)
  case atStart => exact ⟨10, A, B, 0, rfl, rfl, rfl, hA, by omega, hB, by simpa using hB, Lib.hid (by rw [Nat.zero_xor]; rfl)⟩
  case round =>
    obtain ⟨k, x, y, o, rfl, rfl, rfl, hx, ho, hy, hyk, HE⟩ := hrel
    by_cases hy0 : y = 0
    · subst hy0
      have HO := Lib.hid (show o = gm A B by have := HE.out; rwa [gmr_zero_right, Nat.xor_zero] at this)
      have e3 : IntKind.u16.wrap ((o : Nat) : Int) = (o : Int) := wraps_u16 _ (by omega) (by omega)
      go_wp2
      go_ret
      rw [HO.out]
      exact ⟨rfl, rfl⟩
    · obtain ⟨k, rfl⟩ : ∃ j, k = j + 1 := by
        rcases k with _ | k
        · simp at hyk; omega
        · exact ⟨k, rfl⟩
      have hyk2 : y / 2 < 2 ^ k := by rw [Nat.pow_succ] at hyk; omega
      have hy1 : (0 : Int) < (y : Int) := by omega
      have a1 := and_one (show y < 4294967296 by omega)
      clear hyk
      have hxt := xt_lt hx
      by_cases h1 : y % 2 = 1
      · have HG := Lib.hid (gmr_odd k x y h1)
        have a2 : (((y % 2 : Nat) : Int) == 1) = true := by rw [h1]; rfl
        have hox := xor_lt ho hx
        have a3 := xor_i64 (a := o) (b := x) (by omega) (by omega)
        have b2 := xor_two (show x < 4096 by omega)
        go_wp2
        · have h2 : 1024 ≤ 2 * x := by omega
          have HX := Lib.hid (xt_big h2)
          exact ⟨⟨k, (2 * x) ^^^ 1033, y / 2, o ^^^ x, rfl, by congr 1, rfl, by rw [← HX.out]; exact hxt, hox, by omega, hyk2, Lib.hid (by have := HE.out; rw [HG.out] at this; rw [← HX.out, Nat.xor_assoc]; exact this)⟩, by simp [intOf]; omega⟩
        · have h2 : ¬ 1024 ≤ 2 * x := by omega
          have HX := Lib.hid (xt_small h2)
          exact ⟨⟨k, 2 * x, y / 2, o ^^^ x, by congr 1; omega, by congr 1, rfl, by omega, hox, by omega, hyk2, Lib.hid (by have := HE.out; rw [HG.out] at this; rw [← HX.out, Nat.xor_assoc]; exact this)⟩, by simp [intOf]; omega⟩
      · have HG := Lib.hid (gmr_even k x y h1)
        have a2 : (((y % 2 : Nat) : Int) == 1) = false := by
          have : y % 2 = 0 := by omega
          rw [this]; rfl
        have b2 := xor_two (show x < 4096 by omega)
        go_wp2
        · have h2 : 1024 ≤ 2 * x := by omega
          have HX := Lib.hid (xt_big h2)
          exact ⟨⟨k, (2 * x) ^^^ 1033, y / 2, o, rfl, by congr 1, rfl, by rw [← HX.out]; exact hxt, ho, by omega, hyk2, Lib.hid (by have := HE.out; rw [HG.out] at this; rw [← HX.out]; exact this)⟩, by simp [intOf]; omega⟩
        · have h2 : ¬ 1024 ≤ 2 * x := by omega
          have HX := Lib.hid (xt_small h2)
          exact ⟨⟨k, 2 * x, y / 2, o, by congr 1; omega, by congr 1, rfl, by omega, ho, by omega, hyk2, Lib.hid (by have := HE.out; rw [HG.out] at this; rw [← HX.out]; exact this)⟩, by simp [intOf]; omega⟩

theorem rmul_lt (a b : Nat) (w : World) (ha : a < 1024) (hb : b < 1024) :
    Calls Tryz.prog 57 #[.int .u16 a, .int .u16 b] w fun e w' => e = .returned (.int .u16 (gm a b : Nat)) ∧ w = w' := by
  have := rmul_any a b w (by omega) (by omega)
  rwa [Nat.mod_eq_of_lt ha, Nat.mod_eq_of_lt hb] at this

set_option maxHeartbeats 2000000 in
set_option maxRecDepth 100000 in
theorem rtrim_any (a : Option Addr) (n c : Nat) (p : Nat → Nat) (w : World) (ha : ArgU w a n p) (hn : n ≤ 1000000) :
    Calls Tryz.prog 101 #[.slice a n c] w fun e w' => ∃ a' m, e = .returned (.slice a' m m) ∧ ResU w' w.heap.size a' m (cut p n) ∧ IsPol (cut p n) m ∧ m ≤ n ∧ Keep (fun _ => False) w w' := by
  have HA := Lib.hid ha
  clear ha
  go_enter Tryz.func101, Tryz.ntmps101
  go_upto_block 0 with (fail)
  go_cut [3] (fun v wc => ∃ k : Nat, k ≤ n ∧ v = .int .i64 k ∧ w = wc ∧ Hid (IsPol (cut p n) k))
  case first =>
    go_wp2
    go_loop [3] (fun v => ∃ k : Nat, k ≤ n ∧ v = .int .i64 k ∧ Hid (∀ i, k ≤ i → cut p n i = 0)) (fun v => (intOf v).toNat)
    case atStart => exact ⟨n, Nat.le_refl _, rfl, Lib.hid fun i hi => cut_zero p hi⟩
    case round =>
      obtain ⟨k, hk, rfl, HZ⟩ := hrel
      by_cases h0 : k = 0
      · subst h0
        go_wp2
        go_meet
        case rel => exact ⟨0, by omega, by rfl, rfl, Lib.hid ⟨cut_lt p n, HZ.out, fun h => by omega⟩⟩
      · obtain ⟨b, off, rfl, hb, hcell⟩ := HA.out.at_ (by omega)
        obtain ⟨j, rfl⟩ : ∃ j, k = j + 1 := ⟨k - 1, by omega⟩
        have hj := hcell j (by omega)
        have e1 : cut p n j = p j % 1024 := cut_in p (by omega)
        have h3 : (((j + 1 : Nat) : Int) - 1) = (j : Int) := by omega
        have h4 := and_1023 (HA.out.lt j (by omega))
        clear hcell h0
        by_cases hz : p j % 1024 = 0
        · have HE := Lib.hid (e1.trans hz)
          rw [hz] at h4
          clear e1 hz
          go_wp2
          exact ⟨⟨j, by omega, rfl, Lib.hid fun i hi => by
            by_cases e : i = j
            · rw [e]; exact HE.out
            · exact HZ.out i (by omega)⟩, by simp [intOf]⟩
        · have HE := Lib.hid (fun h => hz (e1.symm.trans h) : cut p n j ≠ 0)
          have hb1 : (((p j % 1024 : Nat) : Int) == 0) = false := by simp; omega
          have hb2 : ¬ (((p j % 1024 : Nat) : Int)) = 0 := by omega
          clear e1 hz
          go_wp2
          go_meet
          case rel => exact ⟨j + 1, by omega, by rfl, rfl, Lib.hid ⟨cut_lt p n, HZ.out, fun _ => HE.out⟩⟩
  case rest =>
    obtain ⟨k, hk0, rfl, hw, HP⟩ := hcut
    subst hw
    have hm := make_u k k rfl (by omega)
    go_wp2
    clear hm
    go_loopw [5] (fun v wr => ∃ j : Nat, j ≤ k ∧ v = .int .i64 j ∧ Blk wr w.heap.size 25 (uArr (fun i => if i < j then p i % 1024 else 0) k) ∧ Keep (fun _ => False) w wr) (fun v _ => k - (intOf v).toNat)
    case atStart =>
      refine ⟨0, Nat.zero_le _, rfl, ?_, (Keep.refl _ _).alloc _⟩
      have := Blk.new w 25 (uArr (fun _ => 0) k)
      simpa using this
    case round =>
      obtain ⟨j, hj, rfl, hB, hk⟩ := hrel
      by_cases hjk : j < k
      · obtain ⟨b, off, rfl, hb, hcell⟩ := HA.out.at_ (by omega)
        have hs := hk.size
        have hc1 := (hk.cell (p := ⟨b, off + j, none⟩) hb (by simp)).trans (hcell j (by omega))
        have hc2 := hB.val hjk
        have hz := hB.frozen j
        have hjk' : (j : Int) < (k : Int) := by omega
        have hjn : (j : Int) < (n : Int) := by omega
        have h4 := and_1023 (HA.out.lt j (by omega))
        clear hcell
        go_wp2
        go_roundw
        case rel =>
          refine ⟨j + 1, by omega, by go_num, ?_, hk.setCell (p := ⟨w.heap.size, j, none⟩) (.inr (Nat.le_refl _)) _⟩
          exact hB.storeU j (p j % 1024) (fun i hi => by
            by_cases e : i = j
            · subst e; simp
            · by_cases e2 : i < j
              · simp [e, e2, show i < j + 1 by omega]
              · simp [e, e2, show ¬ i < j + 1 by omega])
        case measure => simp [intOf]; omega
      · have hjk' : ¬ (j : Int) < (k : Int) := by omega
        go_wp2
        go_ret
        refine ⟨some ⟨w.heap.size, 0, none⟩, k, rfl, .inr ⟨_, rfl, Nat.le_refl _, ?_⟩, HP.out, hk0, hk⟩
        rw [uArr_congr (g := fun i => if i < j then p i % 1024 else 0)]
        · exact hB
        · intro i hi
          simp [cut, show i < n by omega, show i < j by omega]

theorem ret_int {k : IntKind} {a b : Int} (h : a = b) : Ending.returned (.int k a) = .returned (.int k b) := by rw [h]
theorem rmul_q (a b : Nat) (w : World) (ha : a < 65536) (hb : b < 65536) :
    Calls Tryz.prog 57 #[.int .u16 a, .int .u16 b] w fun e w' => e = .returned (.int .u16 (gm (a % 1024) (b % 1024) : Nat)) ∧ w' = w :=
  (rmul_any a b w ha hb).mono fun _ _ ⟨h, e⟩ => ⟨h, e.symm⟩
theorem rmul_kept (a b : Nat) (w : World) (ha : a < 1024) (hb : b < 1024) :
    Calls Tryz.prog 57 #[.int .u16 a, .int .u16 b] w fun e w' => e = .returned (.int .u16 (gm a b : Nat)) ∧ Keep (fun _ => False) w w' :=
  (rmul_lt a b w ha hb).mono fun _ _ ⟨h, e⟩ => ⟨h, by subst e; exact Keep.refl _ _⟩

set_option maxHeartbeats 4000000 in
set_option maxRecDepth 100000 in
theorem rpmul_any (a b : Option Addr) (na nb ca cb : Nat) (p q : Nat → Nat) (la lb : Nat) (hla : IsPol (cut p na) la) (hlb : IsPol (cut q nb) lb) (w : World) (ha : ArgU w a na p) (hb : ArgU w b nb q) (hna : na ≤ 1000000) (hnb : nb ≤ 1000000) :
    Calls Tryz.prog 82 #[.slice a na ca, .slice b nb cb] w fun e w' => ∃ a' m, e = .returned (.slice a' m m) ∧ ResU w' w.heap.size a' m (pmulM (cut p na) la (cut q nb) lb) ∧
      IsPol (pmulM (cut p na) la (cut q nb) lb) m ∧ Keep (fun _ => False) w w' := by
  have HA := Lib.hid ha
  have HB := Lib.hid hb
  have hla0 := Lib.hid hla
  have hlb0 := Lib.hid hlb
  clear ha hb hla hlb
  go_enter Tryz.func82, Tryz.ntmps82
  go_wp2_with fail
  refine (rtrim_any _ _ _ _ _ HA.out hna).mono ?_
  rintro e w1 ⟨aA, la', rfl, rA, pA, lA, k2⟩
  obtain rfl := hla0.out.uniq pA
  have B1 := Lib.hid (HB.out.keep k2)
  have kk1 := k2
  clear HB HA k2
  go_wp2_with fail
  refine (rtrim_any _ _ _ _ _ B1.out hnb).mono ?_
  rintro e w2 ⟨aB, lb', rfl, rB, pB, lB, k2⟩
  obtain rfl := hlb0.out.uniq pB
  have HA := Lib.hid ((rA.keep k2).arg (by omega) pA.lt16)
  have HB := Lib.hid (rB.arg (by omega) pB.lt16)
  have kk2 := kk1.trans k2 (fun _ hi => .inl hi)
  have hfl := Lib.hid pA.lt
  have hgl := Lib.hid pB.lt
  have hfz := Lib.hid pA.zero
  have hgz := Lib.hid pB.zero
  clear B1 kk1 k2 rA rB pA pB hla0 hlb0
  by_cases c0 : la = 0
  · have HM := Lib.hid (show pmulM (cut p na) la (cut q nb) lb = fun _ => 0 by simp [pmulM, c0])
    subst c0
    go_wp2_with fail
    go_ret
    rw [HM.out]
    exact ⟨none, 0, rfl, .inl ⟨rfl, rfl⟩, pol_none, kk2⟩
  · by_cases c1 : lb = 0
    · have HM := Lib.hid (show pmulM (cut p na) la (cut q nb) lb = fun _ => 0 by simp [pmulM, c1])
      subst c1
      have d0 : ((la : Int) == 0) = false := beq_eq_false_iff_ne.2 (by omega)
      go_wp2_with fail
      go_ret
      rw [HM.out]
      exact ⟨none, 0, rfl, .inl ⟨rfl, rfl⟩, pol_none, kk2⟩
    · by_cases c2 : 4097 < la + lb
      · have HM := Lib.hid (show pmulM (cut p na) la (cut q nb) lb = fun _ => 0 by simp [pmulM, c2])
        have d0 : ((la : Int) == 0) = false := beq_eq_false_iff_ne.2 (by omega)
        have d1 : ((lb : Int) == 0) = false := beq_eq_false_iff_ne.2 (by omega)
        have d4 : decide ((4096 : Int) < (la : Int) + (lb : Int) - 1) = true := by simp; omega
        clear c0 c1 c2
        go_wp2_with fail
        go_ret
        rw [HM.out]
        exact ⟨none, 0, rfl, .inl ⟨rfl, rfl⟩, pol_none, kk2⟩
      · have HM := Lib.hid (show pmulM (cut p na) la (cut q nb) lb = pmul (cut p na) (cut q nb) by simp [pmulM, c0, c1, c2])
        obtain ⟨m, hm⟩ : ∃ m, la + lb = m + 1 := ⟨la + lb - 1, by omega⟩
        have d0 : ((la : Int) == 0) = false := beq_eq_false_iff_ne.2 (by omega)
        have d1 : ((lb : Int) == 0) = false := beq_eq_false_iff_ne.2 (by omega)
        have d2 : (la : Int) + (lb : Int) - 1 = (m : Int) := by omega
        have d4 : decide ((4096 : Int) < (m : Int)) = false := by simp; omega
        have hmk := make_u m m rfl (by omega)
        have hm2 : m ≤ 4096 := by omega
        generalize hf : cut p na = f at *
        generalize hg : cut q nb = g at *
        clear c0 c1 c2
        have bo := Blk.new w2 25 (uArr (fun _ => 0) m)
        have k3 := (Keep.refl (fun _ => False) w2).alloc (.cells (uArr (fun _ => 0) m) 25)
        go_wp2_with fail
        clear d0 d1 d4 hmk
        go_loopw [6] (fun v wr => ∃ i : Nat, i ≤ la ∧ v = .int .i64 i ∧ Blk wr w2.heap.size 25 (uArr (fun k => pacc f g i k) m) ∧ Keep (fun _ => False) w2 wr) (fun v _ => la - (intOf v).toNat)
        case atStart =>
          refine ⟨0, by omega, rfl, ?_, k3⟩
          rwa [uArr_congr (g := fun k => pacc f g 0 k) (fun i hi => by simp [pacc, xs])] at bo
        case round =>
          clear bo k3
          obtain ⟨i, hi, rfl, hR, hk⟩ := hrel
          by_cases hil : i < la
          · have hil' : (i : Int) < (la : Int) := by omega
            obtain ⟨bA, oA, rfl, hbA, hcA⟩ := HA.out.at_ (by omega)
            have hcAi := hcA i hil
            clear hcA
            go_wp2_with fail
            obtain ⟨wo, hwo⟩ : ∃ wo : World, wo = wr := ⟨_, rfl⟩
            go_loopw [7] (fun v wr => ∃ j : Nat, j ≤ lb ∧ v = .int .i64 j ∧ Blk wr w2.heap.size 25 (uArr (mulMid f g i j) m) ∧ Keep (fun _ => False) w2 wr) (fun v _ => lb - (intOf v).toNat)
            case atStart =>
              refine ⟨0, by omega, rfl, ?_, hk⟩
              rw [mulMid_start]
              exact hR
            case round =>
              clear hR hk hwo
              obtain ⟨j, hj, rfl, hR, hk⟩ := hrel
              have hs := hk.size
              by_cases hjl : j < lb
              · have hjl' : (j : Int) < (lb : Int) := by omega
                obtain ⟨bB, oB, rfl, hbB, hcB⟩ := HB.out.at_ (by omega)
                have hxi := (hk.cell (p := ⟨bA, oA + i, none⟩) hbA (by simp)).trans hcAi
                have hyj := (hk.cell (p := ⟨bB, oB + j, none⟩) hbB (by simp)).trans (hcB j hjl)
                have hijm : i + j < m := by omega
                have hout := hR.val hijm
                have hfi := hfl.out i
                have hgj := hgl.out j
                have hml := mulMid_lt (g := g) hfl.out i j (i + j)
                have hx := xor_u16 (a := mulMid f g i j (i + j)) (b := gm (f i) (g j)) (by omega) (by have := gm_lt hfi (g j); omega)
                have q0 : ∀ z : KeptBy wr, z.v.cell? ⟨bA, oA + i, none⟩ = some (.int .u16 (f i : Nat)) := fun z => z.cell (show bA < wr.heap.size by omega) hxi
                have q1 : ∀ z : KeptBy wr, z.v.cell? ⟨bB, oB + j, none⟩ = some (.int .u16 (g j : Nat)) := fun z => z.cell (show bB < wr.heap.size by omega) hyj
                have q2 : ∀ z : KeptBy wr, z.v.cell? ⟨w2.heap.size, i + j, none⟩ = some (.int .u16 (mulMid f g i j (i + j) : Nat)) := fun z => z.cell hR.lt hout
                have e1 : (i : Int) + (j : Int) < (m : Int) := by omega
                have e2 : (0 : Int) ≤ (i : Int) + (j : Int) := by omega
                have e3 : ((i : Int) + (j : Int)).toNat = i + j := by omega
                clear hcB
                go_upto_region 11 with fail
                have e0 : IntKind.i64.wrap ((i : Int) + (j : Int)) = (i : Int) + (j : Int) := wraps_i64 _ (by omega) (by omega)
                refine wp_region_kept_tail 21 (by kernel_rfl) (by kernel_rfl) ?_
                simp only [List.take_succ_cons, List.take_zero, List.drop_succ_cons, List.drop_zero]
                repeat (quiet_step (first
                  | (go_at_call 57; exact kept_of (rmul_kept _ _ _ hfi hgj))))
                refine wpQuiet_nil ?_
                rintro w5 ⟨⟨_, k5⟩, rfl⟩
                clear q0 q1 q2 e0
                have hR5 := hR.keep k5 (by simp)
                have c5 := hR5.val hijm
                have z5 := hR5.frozen (i + j)
                have k6 := hk.trans k5 (fun _ hi => .inl hi)
                have HN := Lib.hid (hR5.storeU (i + j) (mulMid f g i j (i + j) ^^^ gm (f i) (g j)) (f' := mulMid f g i (j + 1)) (fun k _ => mulMid_next f g i j k))
                go_wp2_with fail
                exact ⟨⟨j + 1, by omega, by go_num, HN.out, k6.setCell (p := ⟨w2.heap.size, i + j, none⟩) (.inr (Nat.le_refl _)) _⟩, by simp [intOf]; omega⟩
              · obtain rfl : j = lb := by omega
                have hR2 := hR
                rw [mulMid_row hgz.out] at hR2
                have HR := Lib.hid hR2
                clear hR hR2
                go_wp2_with fail
                exact ⟨⟨i + 1, by omega, by go_num, HR.out, hk⟩, by simp [intOf]; omega⟩
          · obtain rfl : i = la := by omega
            have HR := Lib.hid (hR.argU (by omega) (fun k _ => by have := pacc_lt (g := g) hfl.out i k; omega))
            have hs := hk.size
            have HC := Lib.hid (show cut (fun k => pacc f g i k) m = pmul f g by
              have e : (fun k => pacc f g i k) = pmul f g := funext fun k => pacc_full hfz.out k
              rw [e]
              exact cut_of_lt (fun k => pmul_lt hfl.out k) (fun k hk => pmul_zero hfz.out hgz.out (by omega)))
            have hs2 := kk2.size
            go_wp2_with fail
            refine (rtrim_any _ _ _ _ _ HR.out (by omega)).mono ?_
            rintro e w4 ⟨a', m', rfl, hres, hpol, hle, k4⟩
            rw [HC.out] at hres hpol
            go_wp2_with fail
            go_ret
            subst hf hg
            rw [HM.out]
            exact ⟨a', m', rfl, hres.more (by omega), hpol, (kk2.trans hk (fun _ hi => .inl hi)).trans k4 (fun _ hi => .inl hi)⟩
end Go.Proofs.YtdlmjjlejkkniaaGreat

namespace Go.Proofs.YtdlmjjlejkkniaaGreat
open Go.RowKit

theorem gm_two (i : Nat) : gm (ex i) 2 = ex (i + 1) := ex_add i 1
set_option maxHeartbeats 1000000 in
theorem rexp_any (n : Nat) (w : World) (hn : n < 1023) :
    Calls Tryz.prog 83 #[.int .i64 n] w fun e w' => e = .returned (.int .u16 (ex n : Nat)) ∧ w = w' := by
  have e1 : ((n : Int)).tmod 1023 = (n : Int) := by rw [Int.tmod_eq_emod_of_nonneg (by omega)]; omega
  have e2 : ((n : Int) + 1023).tmod 1023 = (n : Int) := by rw [Int.tmod_eq_emod_of_nonneg (by omega)]; omega
  go_enter Tryz.func83, Tryz.ntmps83
  go_wp2_with fail
  go_loopw [3, 4] (fun v3 v4 wr => ∃ i : Nat, i ≤ n ∧ v4 = .int .i64 i ∧ v3 = .int .u16 (ex i : Nat) ∧ w = wr) (fun _ v4 _ => n - (intOf v4).toNat)
  case atStart => exact ⟨0, by omega, rfl, rfl, rfl⟩
  case round =>
    obtain ⟨i, hi, rfl, rfl, rfl⟩ := hrel
    have hx := ex_lt i
    by_cases hin : i < n
    · have hin' : (i : Int) < (n : Int) := by omega
      have HG := Lib.hid (gm_two i)
      go_wp2_with fail
      refine (rmul_lt (ex i) 2 _ hx (by omega)).mono ?_
      rintro e w1 ⟨rfl, rfl⟩
      rw [HG.out]
      go_wp2_with fail
      exact ⟨⟨i + 1, by omega, by go_num, rfl, by first | rfl | trivial⟩, by simp [intOf]; omega⟩
    · obtain rfl : i = n := by omega
      have hin' : ¬ (i : Int) < (i : Int) := by omega
      go_wp2_with fail
      go_ret
      exact ⟨rfl, rfl⟩

set_option maxHeartbeats 2000000 in
theorem rgenerator_any (w : World) :
    Calls Tryz.prog 56 #[] w fun e w' => ∃ a', e = .returned (.slice a' 17 17) ∧ ResU w' w.heap.size a' 17 (genP 16) ∧ Keep (fun _ => False) w w' := by
  have A := Laid.pol w #[.int .u16 1] _ _ p1 (by omega) (uArr_one 1)
  have k0 := A.k
  have r0 : ResU (w.alloc (.cells #[.int .u16 1] 25)) w.heap.size (some ⟨w.heap.size, 0, none⟩) (0 + 1) (genP 0) := .inr ⟨w.heap.size, rfl, by omega, Blk.new w _ _⟩
  clear A
  go_enter Tryz.func56, Tryz.ntmps56
  go_wp2_with fail
  go_loopw [1, 2] (fun v3 v4 wr => ∃ (i : Nat) (aP : Option Addr), i ≤ 16 ∧ v3 = .slice aP (i + 1) (i + 1) ∧ v4 = .int .i64 ((i : Int) + 1) ∧ Hid (ResU wr w.heap.size aP (i + 1) (genP i)) ∧ Keep (fun _ => False) w wr) (fun _ v _ => 17 - (intOf v).toNat)
  case atStart => exact ⟨0, _, by omega, rfl, rfl, Lib.hid r0, k0⟩
  case round =>
    clear r0 k0
    obtain ⟨i, aP, hi, rfl, rfl, HP, kk⟩ := hrel
    by_cases hil : i < 16
    · have hil' : (i : Int) + 1 ≤ 16 := by omega
      have eM := Lib.hid (genM i hil)
      have HPP := Lib.hid (show IsPol (cut (genP i) (i + 1)) (i + 1) by rw [(genP_pol i).cut (Nat.le_refl _)]; exact genP_pol i)
      have hxl := ex_lt (i + 1)
      have A := Laid.new wr #[.int .u16 (ex (i + 1) : Nat), .int .u16 1] (lst [ex (i + 1), 1]) 2 (uArr_two _ _) (by omega) (fun j _ => lst_small [ex (i + 1), 1] (by simp; omega) j)
      have AP := Lib.hid ((HP.out.keep A.k).arg (by omega) (genP_pol i).lt16)
      have AA := Lib.hid (A.a _ rfl)
      have kA := kk.comp A.k
      have HE := Lib.hid (rexp_any (i + 1) wr (by omega))
      clear A HP
      go_wp2_with fail
      refine HE.out.mono ?_
      rintro e w1 ⟨rfl, rfl⟩
      go_wp2_with fail
      refine (rpmul_any _ _ (i + 1) 2 (i + 1) 2 _ _ (i + 1) 2 HPP.out (lin_pol (ex (i + 1))) _ AP.out AA.out (by omega) (by omega)).mono ?_
      rintro e w5 ⟨aQ, mQ, rfl, rQ, pQ, k5⟩
      rw [eM.out] at rQ pQ
      obtain rfl : mQ = i + 1 + 1 := pQ.uniq (genP_pol (i + 1))
      have R5 := Lib.hid (rQ.more (show w.heap.size ≤ _ from kA.size))
      have K5 := kA.comp k5
      clear rQ pQ kA kk k5 AP AA
      go_wp2_with fail
      go_roundw
      case rel => exact ⟨i + 1, aQ, by omega, rfl, by go_num, R5, K5⟩
      case measure => simp [intOf]; omega
    · obtain rfl : i = 16 := by omega
      have hil' : ¬ ((16 : Nat) : Int) + 1 ≤ 16 := by omega
      go_wp2_with fail
      go_ret
      exact ⟨aP, rfl, HP.out, kk⟩
end Go.Proofs.YtdlmjjlejkkniaaGreat

namespace Go.Proofs.YtdlmjjlejkkniaaGreat
open Go.RowKit

theorem prodP_monic (p : Nat → Nat) : ∀ n, prodP p n n = 1
  | 0 => rfl
  | n + 1 => by
    have h := pmul_lead (prodP_pol p n) (lin_pol (p n)) (by omega) (by omega)
    rw [show n + 1 + 2 - 2 = n + 1 by omega, show n + 1 - 1 = n by omega, prodP_monic p n, show lin (p n) (2 - 1) = 1 from by unfold lin; rw [cut_in _ (by omega)]; rfl] at h
    exact h.trans (gm_one_right 1)
/-- The rest, t of a row's seventeen being taken off. -/
def redK (R : Nat → Nat) (i f t : Nat) : Nat → Nat := fun s => if i ≤ s ∧ s < i + t then R s ^^^ gm f (genP 16 (16 - (s - i))) else R s
theorem redK_next (R : Nat → Nat) (i f t s : Nat) : redK R i f (t + 1) s = if s = i + t then redK R i f t (i + t) ^^^ gm f (genP 16 (16 - t)) else redK R i f t s := by
  unfold redK
  by_cases h : s = i + t
  · subst h
    rw [if_pos ⟨by omega, by omega⟩, if_pos rfl, if_neg (by omega), Nat.add_sub_cancel_left]
  · rw [if_neg h]
    by_cases h2 : i ≤ s ∧ s < i + t
    · rw [if_pos h2, if_pos ⟨h2.1, by omega⟩]
    · rw [if_neg h2, if_neg (by omega)]
theorem redK_lt {R : Nat → Nat} {i f : Nat} (hR : ∀ s, R s < 1024) (hf : f < 1024) (t s : Nat) : redK R i f t s < 1024 := by
  unfold redK
  split
  · exact xor_lt (hR s) (gm_lt hf _)
  · exact hR s
/-- The rest when the first i data have been taken off. -/
def rI (p : Nat → Nat) (k : Nat) : Nat → Nat → Nat
  | 0 => dat p k
  | i + 1 => redK (rI p k i) i (rI p k i i) 17
section
variable {p : Nat → Nat} {k : Nat}
theorem rI_lt (hp : ∀ i, i < k → p i < 1024) : ∀ i s, rI p k i s < 1024
  | 0, s => dat_lt hp s
  | i + 1, s => redK_lt (rI_lt hp i) (rI_lt hp i i) 17 s
theorem rI_zero (hp : ∀ i, i < k → p i < 1024) : ∀ i s, s < i → rI p k i s = 0
  | i + 1, s, h => by
    show redK (rI p k i) i (rI p k i i) 17 s = 0
    unfold redK
    by_cases e : s = i
    · subst e
      rw [if_pos ⟨by omega, by omega⟩, Nat.sub_self, Nat.sub_zero, show genP 16 16 = 1 from prodP_monic genR 16, gm_one_right, Nat.xor_self]
    · rw [if_neg (by omega)]
      exact rI_zero hp i s (by omega)
theorem redK_syn {R : Nat → Nat} {n i f j : Nat} (hR : ∀ s, R s < 1024) (hf : f < 1024) (hi : i + 17 ≤ n) (hj : j < 16) : synW (redK R i f 17) n j = synW R n j := by
  have hE : rv (redK R i f 17) n = padd (rv R n) (pmul (mono (n - 17 - i) f) (genP 16)) := funext fun m => by
    show rv (redK R i f 17) n m = rv R n m ^^^ pmul (mono (n - 17 - i) f) (genP 16) m
    rw [pmul_mono]
    unfold rv redK
    by_cases hm : m < n
    · rw [if_pos hm, if_pos hm]
      by_cases h2 : n - 17 - i ≤ m
      · rw [if_pos h2]
        by_cases h3 : i ≤ n - 1 - m
        · rw [if_pos ⟨h3, by omega⟩, show 16 - (n - 1 - m - i) = m - (n - 17 - i) by omega]
        · rw [if_neg (by omega), (genP_pol 16).zero _ (by omega), gm_zero_right, Nat.xor_zero]
      · rw [if_neg h2, if_neg (by omega), Nat.xor_zero]
    · rw [if_neg hm, if_neg hm, if_pos (by omega), (genP_pol 16).zero _ (by omega), gm_zero_right]
      rfl
  rw [← synW_hor (fun i _ => redK_lt hR hf 17 i), ← synW_hor (fun i _ => hR i), hE]
  have hmono : ∀ t, mono (n - 17 - i) f t < 1024 := fun t => by
    unfold mono
    split
    · exact hf
    · omega
  rw [hor_padd (rv_lt (fun i _ => hR i)) (pmul_lt hmono), hor_pmul (genP_pol 16).lt (genP_pol 16).zero (ex_lt _) (n - 17 - i + 1) (mono (n - 17 - i) f) hmono (fun t ht => by unfold mono; rw [if_neg (by omega)]) n (by omega), gen_zero hj, gm_zero_right, Nat.xor_zero]
theorem rI_syn (hp : ∀ i, i < k → p i < 1024) {j : Nat} (hj : j < 16) : ∀ i, i ≤ k → synW (rI p k i) (k + 16) j = synW (dat p k) (k + 16) j
  | 0, _ => rfl
  | i + 1, h => by
    rw [← rI_syn hp hj i (by omega)]
    exact redK_syn (rI_lt hp i) (rI_lt hp i i) (by omega) hj
def rencV (p : Nat → Nat) (k : Nat) : Nat → Nat := fun i => if i < k then p i else rI p k k i
theorem renc_is (hp : ∀ i, i < k → p i < 1024) : IsEnc p k (rencV p k) := by
  refine ⟨fun i _ => ?_, fun j hj => ?_, fun i hi => by unfold rencV; rw [if_pos hi]⟩
  · unfold rencV
    split
    · exact hp i ‹_›
    · exact rI_lt hp k i
  · have e : rv (rencV p k) (k + 16) = wr (dat p k) (rI p k k) (k + 16) := funext fun i => by
      unfold wr rv
      split
      · unfold rencV dat
        by_cases h : k + 16 - 1 - i < k
        · rw [if_pos h, if_pos h, rI_zero hp k _ h, Nat.xor_zero]
        · rw [if_neg h, if_neg h, Nat.zero_xor]
      · rfl
    show syn (rv (rencV p k) (k + 16)) (k + 16) j = 0
    rw [e, syn_wr (fun i _ => dat_lt hp i) (fun i _ => rI_lt hp k i), rI_syn hp hj k (Nat.le_refl _), Nat.xor_self]
end
theorem Blk.argOff {w : World} {g n i : Nat} {f : Nat → Nat} (hb : Blk w g 25 (uArr f n)) (hn : n ≤ 140737488355328) (hf : ∀ t, t < n → f t < 65536) : ArgU w (some ⟨g, i, none⟩) (n - i) (fun t => f (i + t)) :=
  ⟨by omega, fun _ => ⟨g, i, rfl, hb.lt, fun t ht => hb.val (by omega)⟩, fun t ht => hf _ (by omega)⟩
theorem step_append_r {w : World} {ops : Array Oper} {o : Oper} {a : Act} {K : Act → World → Prop} {Q : Exit → Act → World → Prop} {E : Prop} (hgd : o.guard = none) (s x : Operand)
    (ho : o.op = .call { callee := .builtin .append, args := #[s, x], argTypes := #[31, 31] })
    (N : Nat) (ao : Option Addr) (n co : Nat) (f : Nat → Nat) (hs : a.eval s = .slice ao n co) (hown : OwnU w N ao n co f) (ad : Addr) (m c : Nat) (p : Nat → Nat) (hx : a.eval x = .slice (some ad) m c) (hp : ArgU w (some ad) m p)
    (hnm : n + m ≤ 1000000) (hN : N ≤ w.heap.size)
    (h : ∀ a' c' w', OwnU w' N a' (n + m) c' (fun i => if i < n then f i else p (i - n)) → w.grownBy w' (Value.slice ao n co).ownBlock → K (a.put o.dst (.slice a' (n + m) c')) w') :
    if Region.wanted o (yielded ops a.tmps) = true then Oper.wp Tryz.prog o a w K Q else E := by
  have hw : Region.wanted o (yielded ops a.tmps) = true := by simp [Region.wanted, hgd]
  rw [if_pos hw]
  exact wp_append_u s x ho N ao n co f hs hown ad m c p hx hp hnm hN h

set_option maxHeartbeats 8000000 in
set_option maxRecDepth 100000 in
theorem renc_all (a : Option Addr) (k c : Nat) (p : Nat → Nat) (w : World) (ha : ArgU w a k p) (hkc : k ≤ c) :
    Calls Tryz.prog 27 #[.slice a k c] w fun e w' => EncA w' w.heap.size p k e ∧ Keep (fun _ => False) w w' := by
  have HA := Lib.hid ha
  clear ha
  by_cases h0 : k = 0
  · subst h0
    go_enter Tryz.func27, Tryz.ntmps27
    go_wp2_with fail
    go_ret2
    exact ⟨.inl ⟨.inl rfl, rfl⟩, Keep.refl _ _⟩
  have e1 : ((k : Int) == 0) = false := by simp; omega
  have e2 : ¬ (k : Int) = 0 := by omega
  by_cases h1 : 1007 < k
  · have e3 : (1007 : Int) < (k : Int) := by omega
    go_enter Tryz.func27, Tryz.ntmps27
    go_wp2_with fail
    go_ret2
    exact ⟨.inl ⟨.inr h1, rfl⟩, Keep.refl _ _⟩
  have e3 : ¬ (1007 : Int) < (k : Int) := by omega
  go_enter Tryz.func27, Tryz.ntmps27
  go_wp2_with fail
  clear e1 e2 e3
  go_loopw [4] (fun v wr => ∃ j : Nat, j ≤ k ∧ v = .int .i64 j ∧ Hid (∀ i, i < j → p i < 1024) ∧ Keep (fun _ => False) w wr) (fun v _ => k - (intOf v).toNat)
  case atStart => exact ⟨0, by omega, rfl, Lib.hid (fun i hi => by omega), Keep.refl _ _⟩
  case round =>
    obtain ⟨j, hj, rfl, HZ, kk⟩ := hrel
    by_cases hjk : j < k
    · have hjk' : (j : Int) < (k : Int) := by omega
      obtain ⟨bA, oA, rfl, hbA, hcA⟩ := HA.out.at_ (by omega)
      have c0 := (kk.cell (p := ⟨bA, oA + j, none⟩) hbA (by simp)).trans (hcA j hjk)
      clear hcA
      by_cases hx : 1024 ≤ p j
      · have f1 : (1024 : Int) ≤ ((p j : Nat) : Int) := by omega
        have HX := Lib.hid hx
        clear hx
        go_wp2_with fail
        go_ret2
        exact ⟨.inr (.inl ⟨by omega, by omega, ⟨j, hjk, HX.out⟩, rfl⟩), kk⟩
      · have f1 : ¬ (1024 : Int) ≤ ((p j : Nat) : Int) := by omega
        have HZ2 := Lib.hid (show ∀ i, i < j + 1 → p i < 1024 from fun i hi => by
          by_cases e : i = j
          · rw [e]; omega
          · exact HZ.out i (by omega))
        clear hx
        go_wp2_with fail
        exact ⟨⟨j + 1, by omega, by go_num, HZ2, kk⟩, by simp [intOf]; omega⟩
    · obtain rfl : j = k := by omega
      have hjk' : ¬ (j : Int) < (j : Int) := by omega
      have HP := HZ
      obtain ⟨n, hn⟩ : ∃ n, n = j + 16 := ⟨_, rfl⟩
      have hnI : (j : Int) + 16 = (n : Int) := by omega
      have hmk := make_u n n rfl (by omega)
      have hnl : n ≤ 1023 := by omega
      have hjn : j < n := by omega
      have HN := Lib.hid hn
      clear hn hjk hjk' hj
      go_wp2_with fail
      refine (rgenerator_any _).mono ?_
      rintro e w1 ⟨aG, rfl, rG, k1⟩
      have kk1 := kk.comp k1
      obtain ⟨gG, rfl, _, bG⟩ : ∃ g, aG = some ⟨g, 0, none⟩ ∧ wr.heap.size ≤ g ∧ Blk w1 g 25 (uArr (genP 16) 17) := by
        rcases rG with h | h
        · omega
        · exact h
      have A1 := HA.out.keep kk1
      have b0 := Blk.new w1 25 (uArr (fun _ => 0) n)
      have k0 := (Keep.refl (fun _ => False) w1).alloc (.cells (uArr (fun _ => 0) n) 25)
      have A0 := A1.keep k0
      clear kk k1 rG HZ
      go_wp2_with (with_reducible refine wpList_copy_u rfl (.tmp 34) (.tmp 35) rfl w1.heap.size _ _ _ _ rfl rfl _ p b0 A0 (by omega) w1 k0 (Nat.le_refl _) ?_)
      intro w2 b2 k2
      clear b0 k0 A0 hmk
      have r0 : Blk w2 w1.heap.size 25 (uArr (rI p j 0) n) := b2
      have A1' := Lib.hid A1
      have HRL := Lib.hid (rI_lt HP.out)
      have HBG := Lib.hid bG
      have hGl := (genP_pol 16).lt
      clear A1 b2 bG
      go_wp2_with fail
      go_loopw [7] (fun v wr => ∃ i : Nat, i ≤ j ∧ v = .int .i64 i ∧ Blk wr w1.heap.size 25 (uArr (rI p j i) n) ∧ Keep (fun _ => False) w1 wr) (fun v _ => j - (intOf v).toNat)
      case atStart => exact ⟨0, by omega, rfl, r0, k2⟩
      case round =>
        clear r0 k2
        obtain ⟨i, hi, rfl, hR, kk⟩ := hrel
        by_cases hij : i < j
        · have hij' : (i : Int) < (j : Int) := by omega
          have c0 := hR.val (show i < n by omega)
          have hin' : (i : Int) < (n : Int) := by omega
          obtain ⟨f, hf⟩ : ∃ f, f = rI p j i i := ⟨_, rfl⟩
          have hfl : f < 1024 := by rw [hf]; exact HRL.out i i
          rw [← hf] at c0
          have HF := Lib.hid (show redK (rI p j i) i f 17 = rI p j (i + 1) by rw [hf]; rfl)
          have hin17 : i + 17 ≤ n := by have := HN.out; omega
          clear hf
          go_wp2_with fail
          clear c0
          go_loopw [9] (fun v wr => ∃ t : Nat, t ≤ 17 ∧ v = .int .i64 t ∧ Blk wr w1.heap.size 25 (uArr (redK (rI p j i) i f t) n) ∧ Keep (fun _ => False) w1 wr) (fun v _ => 17 - (intOf v).toNat)
          case atStart =>
            refine ⟨0, by omega, rfl, ?_, kk⟩
            rw [show redK (rI p j i) i f 0 = rI p j i from funext fun s => by unfold redK; rw [if_neg (by omega)]]
            exact hR
          case round =>
            clear hR kk
            obtain ⟨t, ht, rfl, hR, kk⟩ := hrel
            by_cases hf0 : f = 0
            · subst hf0
              have HE := Lib.hid (show redK (rI p j i) i 0 t = rI p j (i + 1) by
                rw [← HF.out]
                funext s
                unfold redK
                rw [gm_zero_left, Nat.xor_zero]
                simp)
              rw [HE.out] at hR
              go_wp2_with fail
              exact ⟨⟨i + 1, by omega, by go_num, hR, kk⟩, by simp [intOf]; omega⟩
            · have f1 : ¬ ((f : Nat) : Int) = 0 := by omega
              have f2 : (((f : Nat) : Int) != 0) = true := by simpa using f1
              by_cases ht16 : t ≤ 16
              · have g1 : (t : Int) ≤ 16 := by omega
                have g2 : decide ((t : Int) ≤ 16) = true := by simpa using g1
                have hitn : i + t < n := by omega
                have cR := hR.val hitn
                have zR := hR.frozen (i + t)
                have hRt := redK_lt (i := i) (HRL.out i) hfl t (i + t)
                obtain ⟨v, hv⟩ : ∃ v, v = redK (rI p j i) i f t (i + t) := ⟨_, rfl⟩
                rw [← hv] at cR hRt
                have hbG := HBG.out.keep kk (by simp)
                obtain ⟨s, hs⟩ : ∃ s, s = 16 - t := ⟨_, rfl⟩
                have cG := hbG.val (show s < 17 by omega)
                obtain ⟨g, hg⟩ : ∃ g, g = genP 16 s := ⟨_, rfl⟩
                have hgl : g < 1024 := by rw [hg]; exact hGl s
                rw [← hg] at cG
                have HN1 := Lib.hid (fun x => show redK (rI p j i) i f (t + 1) x = if x = i + t then v ^^^ gm f g else redK (rI p j i) i f t x by rw [redK_next, hv, hg, hs])
                have hgm : gm f g < 1024 := gm_lt hfl _
                have hxor := xor_u16 (a := v) (b := gm f g) (by omega) (by omega)
                have e0 : IntKind.i64.wrap ((i : Int) + (t : Int)) = (i : Int) + (t : Int) := wraps_i64 _ (by omega) (by omega)
                have e1 : (i : Int) + (t : Int) < (n : Int) := by omega
                have e2 : (0 : Int) ≤ (i : Int) + (t : Int) := by omega
                have e3 : ((i : Int) + (t : Int)).toNat = i + t := by omega
                have e4 : IntKind.i64.wrap (16 - (t : Int)) = ((s : Nat) : Int) := by rw [wraps_i64 _ (by omega) (by omega)]; omega
                have e5 : ((s : Nat) : Int) < 17 := by omega
                have hlR := hR.lt
                have hlG := hbG.lt
                have q0 : ∀ z : KeptBy wr, z.v.cell? ⟨w1.heap.size, i + t, none⟩ = some (.int .u16 (v : Nat)) := fun z => z.cell hlR cR
                have q1 : ∀ z : KeptBy wr, z.v.cell? ⟨gG, s, none⟩ = some (.int .u16 (g : Nat)) := fun z => z.cell hlG cG
                clear hv hg hs cG
                go_upto_region 18 with fail
                refine wp_region_kept_tail 19 (by kernel_rfl) (by kernel_rfl) ?_
                simp only [List.take_succ_cons, List.take_zero, List.drop_succ_cons, List.drop_zero]
                repeat (quiet_step (first
                  | (go_at_call 57; exact kept_of (rmul_kept _ _ _ hfl hgl))))
                refine wpQuiet_nil ?_
                rintro w5 ⟨⟨_, k5⟩, rfl⟩
                clear q0 q1 e0 e4
                have R5 := hR.keep k5 (by simp)
                have c5 := R5.val hitn
                have z5 := R5.frozen (i + t)
                have K5 := Lib.hid ((kk.comp k5).setCell (p := ⟨w1.heap.size, i + t, none⟩) (.inr (Nat.le_refl _)) (.int .u16 (v ^^^ gm f g : Nat)))
                have R6 := Lib.hid (R5.storeU (i + t) (v ^^^ gm f g) (f' := redK (rI p j i) i f (t + 1)) (fun x _ => HN1.out x))
                clear R5 cR zR hR
                go_wp2_with fail
                exact ⟨⟨t + 1, by omega, by go_num, R6.out, K5.out⟩, by simp [intOf]; omega⟩
              · obtain rfl : t = 17 := by omega
                have g1 : ¬ ((17 : Nat) : Int) ≤ 16 := by omega
                have g2 : decide (((17 : Nat) : Int) ≤ 16) = false := by simp
                rw [HF.out] at hR
                go_wp2_with fail
                exact ⟨⟨i + 1, by omega, by go_num, hR, kk⟩, by simp [intOf]; omega⟩
        · obtain rfl : i = j := by omega
          have hij' : ¬ (i : Int) < (i : Int) := by omega
          have HRe := Lib.hid (renc_is HP.out)
          have hwk := (kk1.comp kk)
          have kd := hwk.drew
          obtain ⟨bA, oA, rfl, hbA, hcA⟩ := HA.out.at_ (by omega)
          have AD := Lib.hid (HA.out.keep kd)
          have hN1 : w.heap.size ≤ wr.drew.heap.size := kd.size
          have hRd := hR.drew
          have hin : i ≤ n := by omega
          have hin' : (i : Int) ≤ (n : Int) := by omega
          have hne : ¬ n = i := by omega
          have hne2 : ¬ i = n := by omega
          have hr16 : ∀ t, t < n → rI p i i t < 65536 := fun t _ => by have := HRL.out i t; omega
          have HR16 := Lib.hid hr16
          have hg1 : w.heap.size ≤ w1.heap.size := kk1.size
          clear hcA hr16 hij'
          go_wp2_with fail
          go_region_held3 (fun _ => True) (exact trivial)
            (first
              | (have _z := O5; refine step_append_r rfl _ _ rfl w.heap.size _ _ _ _ rfl O5 _ _ _ _ rfl AR5 (by omega) hN5 ?_; intro a6 c6 w6 o6 g6; have k6 : Keep (fun _ => False) w w6 := k5.grown g6 (fun t ht => .inr (O5.lt t ht).1))
              | (refine step_append_r rfl _ _ rfl w.heap.size none 0 0 p rfl (World.ownsRow_nil _ _ _ 1) _ i c p rfl AD.out (by omega) hN1 ?_; intro a5 c5 w5 o5 g5; have k5 : Keep (fun _ => False) w w5 := kd.grown g5 (fun t ht => by simp [Value.ownBlock] at ht); have O5 : OwnU w5 w.heap.size a5 (0 + i) c5 p := o5.congr (fun t ht => by simp); have hN5 := k5.size; have R5 : Blk w5 w1.heap.size 25 (uArr (rI p i i) n) := (g5.block w1.heap.size hRd.lt (by simp [Value.ownBlock])).trans hRd; have AR5 := R5.argOff (i := i) (by omega) HR16.out))
          have O6 : OwnU w6 w.heap.size a6 (0 + i + (n - i)) c6 (rencV p i) := o6.congr (fun t ht => by
            unfold rencV
            by_cases h : t < i
            · rw [if_pos (by omega), if_pos h]
            · rw [if_neg (by omega), if_neg h]
              congr 1
              omega)
          have en : 0 + i + (n - i) = i + 16 := by have := HN.out; omega
          rw [en] at O6
          have HO6 := Lib.hid O6
          have HEN := Lib.hid en
          clear O6 o6 g6 k5 O5 g5 o5 R5 AR5 hRd hR en
          go_wp2_with fail
          go_ret2
          refine ⟨.inr (.inr ⟨by omega, by omega, HP.out, rencV p i, a6, c6, HRe.out, ?_, HO6.out⟩), k6⟩
          rw [← HN.out]
          rfl
end Go.Proofs.YtdlmjjlejkkniaaGreat

namespace Go.Proofs.YtdlmjjlejkkniaaGreat
open Go.RowKit

section
variable {w w' : World} {N W : Nat} {A : Nat → Option Addr} {L C : Nat → Nat} {p : Nat → Nat → Nat}
/-- A row is put in another's place. -/
theorem Fam.put (h : Fam w N W A L C p) (hk : Keep (fun _ => False) w w') (hN : N ≤ w.heap.size) {r : Nat} (hr : r < W) {a : Option Addr} {n c : Nat} {q : Nat → Nat} (hq : OwnU w' w.heap.size a n c q) :
    Fam w' N W (updF A r a) (updF L r n) (updF C r c) (updF p r q) := by
  have key : ∀ j, j < W → A j = a → A j = none := fun j hj e => by
    rcases hq.blk with ⟨e1, _⟩ | ⟨g, e1, h1, _⟩
    · rw [e, e1]
    · rcases (h.own j hj).blk with ⟨e2, _⟩ | ⟨g2, e2, _, h2⟩
      · exact e2
      · rw [e2, e1] at e
        cases e
        omega
  refine ⟨fun i hi => ?_, fun i j hi hj hij e => ?_⟩
  · by_cases hir : i = r
    · subst hir
      simp only [updF_at]
      exact hq.more hN
    · simp only [updF_ne _ _ hir]
      exact (h.own i hi).keep hk
  · by_cases hir : i = r
    · subst hir
      rw [updF_at, updF_ne _ _ (fun e => hij e.symm)] at e
      rw [updF_at]
      have := key j hj e.symm
      rw [e]
      exact this
    · rw [updF_ne _ _ hir] at e ⊢
      by_cases hjr : j = r
      · subst hjr
        rw [updF_at] at e
        exact key i hi e
      · rw [updF_ne _ _ hjr] at e
        exact h.ne i j hi hj hij e
theorem OwnU.farT {a : Option Addr} {n c : Nat} {f : Nat → Nat} (h : OwnU w N a n c f) {g : Nat} {cs : Array Value} (hb : Blk w g 31 cs) (i : Nat) (u : Value) : OwnU (w.setCell ⟨g, i, none⟩ u) N a n c f := by
  refine ⟨h.1, ?_⟩
  rcases h.2 with e | ⟨g2, cap, cs2, e, hN, hb2, hr⟩
  · exact .inl e
  · have hb2' : Blk w g2 25 cs2 := hb2
    exact .inr ⟨g2, cap, cs2, e, hN, hb2'.far (p := ⟨g, i, none⟩) (hb2'.ne hb (by decide)) u, hr⟩
theorem Fam.farT (h : Fam w N W A L C p) {g : Nat} {cs : Array Value} (hb : Blk w g 31 cs) (i : Nat) (u : Value) : Fam (w.setCell ⟨g, i, none⟩ u) N W A L C p := ⟨fun j hj => (h.own j hj).farT hb i u, h.ne⟩
end
/-- What is said ahead of the codewords: the head, the data, noughts. -/
def pgD (k l s : Nat) (d : Nat → Nat) (n : Nat) : Nat → Nat := fun i => if i < 8 then hdS k l s i else if i < 8 + pkN n then pkS d n (i - 8) else 0
theorem pgD_lt {k l s : Nat} (h : MarkOk k l s) (d : Nat → Nat) (n i : Nat) : pgD k l s d n i < 1024 := by
  unfold pgD
  split
  · exact hdS_lt h i
  · split
    · exact pkS_lt _ _ _
    · omega
/-- A codeword's data. -/
def rowD (W : Nat) (D : Nat → Nat) (i : Nat) : Nat → Nat := fun j => D (j * W + i)
/-- A page: the codewords of its symbols, woven. -/
def pageS (W K : Nat) (D : Nat → Nat) : Nat → Nat := wovS W (fun i => rencV (rowD W D i) K)
theorem pageS_lt {W K : Nat} {D : Nat → Nat} (hD : ∀ i, D i < 1024) (hW : 1 ≤ W) {i : Nat} (hi : i < W * (K + 16)) : pageS W K D i < 1024 := by
  unfold pageS wovS
  refine (renc_is (fun _ _ => hD _)).lt _ ?_
  rw [Nat.div_lt_iff_lt_mul (by omega), Nat.mul_comm]
  exact hi
theorem szB_pk (W K : Nat) (h : 8 < W * K) : 8 + pkN (szB W K) ≤ W * K ∧ 1 ≤ szB W K := by
  unfold pkN szB
  omega
theorem szB_le {B P : Int} {W K : Nat} (h : GeoOk B P W K) : szB W K ≤ 400 := by
  have := geo_nat h
  unfold szB
  omega
def lenE (K r : Nat) : Nat → Nat := fun i => if i < r then K + 16 else K

theorem geo_cells' {w : World} {g : Nat} {B P W K : Int} (b : Blk w g 23 #[.int .i64 B, .int .i64 P, .int .i64 W, .int .i64 K]) :
    w.cell? ⟨g, 0, none⟩ = some (.int .i64 B) ∧ w.cell? ⟨g, 1, none⟩ = some (.int .i64 P) ∧ w.cell? ⟨g, 2, none⟩ = some (.int .i64 W) ∧ w.cell? ⟨g, 3, none⟩ = some (.int .i64 K) :=
  ⟨by rw [b.cell]; rfl, by rw [b.cell]; rfl, by rw [b.cell]; rfl, by rw [b.cell]; rfl⟩
set_option maxRecDepth 100000 in
set_option maxHeartbeats 8000000 in
theorem rmake_yes (B P : Int) (W K k l s : Nat) (a : Option Addr) (c : Nat) (d : Nat → Nat) (w : World) (h : GeoOk B P W K) (hm : MarkOk k l s) (ha : ArgV w a (szB W K) (fun i => .int .u8 (d i : Nat))) (hd : ∀ i, i < szB W K → d i < 256) :
    Calls Tryz.prog 12 #[geoV B P W K, markV k l s, .slice a (szB W K) c] w fun e w' => ∃ a' c', e = .returned (.tuple #[.slice a' (W * (K + 16)) c', .int .i64 0]) ∧ OwnU w' w.heap.size a' (W * (K + 16)) c' (pageS W K (pgD k l s d (szB W K))) ∧ Keep (fun _ => False) w w' := by
  obtain ⟨hw0, hw1, hk0, hk1, hwk, hwk2⟩ := geo_nat h
  obtain ⟨hz1, hz2⟩ := szB_pk W K hwk
  have hz3 := szB_le h
  have hmul : (W : Int) * (K : Int) = ((W * K : Nat) : Int) := (Int.natCast_mul W K).symm
  have m1 : decide ((k : Int) < 1) = false := decide_eq_false (by have := hm.k1; omega)
  have m2 : decide (1023 < (k : Int)) = false := decide_eq_false (by have := hm.k2; omega)
  have m3 : decide ((l : Int) < 0) = false := decide_eq_false (by omega)
  have m4 : decide (1048576 ≤ (l : Int)) = false := decide_eq_false (by have := hm.l; omega)
  have m5 : decide ((s : Int) < 0) = false := decide_eq_false (by omega)
  have m6 : decide (1099511627776 ≤ (s : Int)) = false := decide_eq_false (by have := hm.s; omega)
  obtain ⟨M, hM⟩ : ∃ M, M = (w.alloc (.cells #[.int .i64 B, .int .i64 P, .int .i64 W, .int .i64 K] 23)).alloc (.cells #[.int .i64 k, .int .i64 l, .int .i64 s] 30) := ⟨_, rfl⟩
  have kw : Keep (fun _ => False) w M := by rw [hM]; exact ((Keep.refl _ w).alloc _).alloc _
  have bG : Blk M w.heap.size 23 #[.int .i64 B, .int .i64 P, .int .i64 W, .int .i64 K] := by rw [hM]; exact (Blk.new w _ _).alloc _
  have bM : Blk M (w.heap.size + 1) 30 #[.int .i64 k, .int .i64 l, .int .i64 s] := by rw [hM]; exact Blk.here _ _ _ _ (by simp)
  have HA := Lib.hid (ha.keep kw)
  have HZ := Lib.hid kw.size
  have HD := Lib.hid hd
  have HY := Lib.hid (fun w => gmay_yes _ _ _ _ w h)
  have HS := Lib.hid (fun w => rsize_any _ _ _ _ w h)
  have HM := Lib.hid hm
  have HH := Lib.hid (fun w => rhead_any k l s hm w)
  have HP := Lib.hid (fun w ha => rpack_any a (szB W K) c d w ha hd (by omega))
  unfold markV at HH ⊢
  clear ha hd hm h
  go_enter Tryz.func12, Tryz.ntmps12
  obtain ⟨g0, g1, g2, g3⟩ := geo_cells bG
  have q0 : M.cell? ⟨w.heap.size + 1, 0, none⟩ = some (.int .i64 k) := by rw [bM.cell]; rfl
  have q1 : M.cell? ⟨w.heap.size + 1, 1, none⟩ = some (.int .i64 l) := by rw [bM.cell]; rfl
  have q2 : M.cell? ⟨w.heap.size + 1, 2, none⟩ = some (.int .i64 s) := by rw [bM.cell]; rfl
  generalize hsz : szB W K = z at *
  have HSZ := Lib.hid hsz
  have HMK := Lib.hid hmul
  clear hsz hmul
  go_wp2_with fail
  rw [← hM]
  clear hM
  go_wp2_with fail
  refine (HY.out _).mono ?_
  rintro e w1 ⟨rfl, k1⟩
  have bM1 := bM.keep k1 (by simp)
  have bG1 := bG.keep k1 (by simp)
  have p0 : w1.cell? ⟨w.heap.size + 1, 0, none⟩ = some (.int .i64 k) := by rw [bM1.cell]; rfl
  have p1 : w1.cell? ⟨w.heap.size + 1, 1, none⟩ = some (.int .i64 l) := by rw [bM1.cell]; rfl
  have p2 : w1.cell? ⟨w.heap.size + 1, 2, none⟩ = some (.int .i64 s) := by rw [bM1.cell]; rfl
  obtain ⟨h0, h1, h2, h3⟩ := geo_cells bG1
  clear g0 g1 g2 g3 q0 q1 q2
  go_wp2_with fail
  clear m1 m2 m3 m4 m5 m6
  refine (HS.out _).mono ?_
  rintro e w2 ⟨rfl, k2⟩
  have k2 := k1.comp k2
  have bM2 := bM.keep k2 (by simp)
  have r0 : w2.cell? ⟨w.heap.size + 1, 0, none⟩ = some (.int .i64 k) := by rw [bM2.cell]; rfl
  have r1 : w2.cell? ⟨w.heap.size + 1, 1, none⟩ = some (.int .i64 l) := by rw [bM2.cell]; rfl
  have r2 : w2.cell? ⟨w.heap.size + 1, 2, none⟩ = some (.int .i64 s) := by rw [bM2.cell]; rfl
  clear h0 h1 h2 h3 p0 p1 p2 bM1 bG1
  go_wp2_with fail
  clear r0 r1 r2 bM2 bM
  refine (HH.out _).mono ?_
  rintro e w3 ⟨rfl, hlt3, bh, k3⟩
  have K3 := k2.comp k3
  have HA3 := HA.out.keep K3
  go_wp2_with fail
  refine (HP.out _ HA3).mono ?_
  rintro e w4 ⟨gP, rfl, hgP, bP, k4⟩
  have K4 := K3.comp k4
  have OH := Lib.hid (OwnU.of_row (RowU.of_blk (bh.keep k4 (by simp))) (show M.heap.size ≤ w2.heap.size + 1 by have := k2.size; omega) (by unfold maxLen; omega))
  have OP := Lib.hid (bP.argU (by omega) (fun i _ => by have := pkS_lt d z i; omega))
  have hs4 := K4.size
  clear bh bP k3 k4 HA3 K3 hlt3 hgP HA HP HH HS HY
  go_wp2_with (refine wpList_append_u rfl (.tmp 53) (.tmp 55) rfl M.heap.size _ 8 8 (hdS k l s) rfl OH.out _ (pkN z) (pkN z) (pkS d z) rfl OP.out (by omega) hs4 ?_)
  intro a5 c5 w5 o5 g5
  have O5 := Lib.hid (show OwnU w5 M.heap.size a5 (8 + pkN z) c5 (pgD k l s d z) from o5.congr (fun i hi => by
    unfold pgD
    by_cases h : i < 8
    · rw [if_pos h, if_pos h]
    · rw [if_neg h, if_neg h, if_pos hi]))
  have K5 := K4.grown g5 (fun t ht => .inr (OH.out.row_ge ht))
  clear o5 g5 OH OP K4 k2 k1 hs4
  obtain ⟨m, hm⟩ : ∃ m, m = W * K := ⟨_, rfl⟩
  have HMK2 := Lib.hid (show (W : Int) * (K : Int) = (m : Int) by rw [hm]; exact HMK.out)
  rw [← hm] at hz1 hwk hwk2
  have HEq := Lib.hid hm
  clear hm HMK
  go_wp2_with fail
  go_loopw [8] (fun v wr => ∃ (j : Nat) (ao : Option Addr) (co : Nat), 8 + pkN z ≤ j ∧ j ≤ m ∧ v = .slice ao j co ∧ Hid (OwnU wr M.heap.size ao j co (pgD k l s d z)) ∧ Keep (fun _ => False) M wr) (fun v _ => m - (match v with | .slice _ l _ => l | _ => 0))
  case atStart => exact ⟨_, a5, c5, Nat.le_refl _, hz1, rfl, O5, K5⟩
  case round =>
    clear O5 K5
    obtain ⟨j, ao, co, hj1, hj2, rfl, HO, kk⟩ := hrel
    obtain ⟨g0, g1, g2, g3⟩ := geo_cells (bG.keep kk (by simp))
    have hmul := HMK2.out
    by_cases hjm : j < m
    · have hjm' : (j : Int) < (m : Int) := by omega
      have kL := kk.alloc (.cells #[.int .u16 (0 : Nat)] 25)
      have OL := Lib.hid (HO.out.ownV.keep ((Keep.refl _ wr).alloc (.cells #[.int .u16 (0 : Nat)] 25)))
      have BL := Lib.hid (Blk.new wr 25 #[.int .u16 (0 : Nat)])
      have HV := Lib.hid (show pgD k l s d z j = 0 by unfold pgD; rw [if_neg (by omega), if_neg (by omega)])
      have hsL := kL.size
      clear HO kk
      go_wp2_with (refine wpList_append_1 ty_u rfl (.tmp 65) (.tmp 66) rfl M.heap.size ao j co (fun t => .int .u16 (pgD k l s d z t : Nat)) rfl OL.out wr.heap.size _ rfl BL.out rfl (by omega) hsL ?_)
      intro a3 c3 w6 o6 g6
      have O6 := Lib.hid (OwnV.ownU (o6.congr (f' := fun t => .int .u16 (pgD k l s d z t : Nat)) (fun t ht => by
        by_cases h : t < j
        · rw [if_pos h]
        · rw [if_neg h, show t = j by omega, HV.out]
          rfl)))
      have K6 := kL.grown g6 (fun t ht => .inr (OL.out.lt t ht).1)
      clear o6 g6 kL OL BL hsL g0 g1 g2 g3 hmul
      go_wp2_with fail
      exact ⟨⟨j + 1, a3, c3, by omega, by omega, rfl, O6, K6⟩, by simp; omega⟩
    · obtain rfl : j = m := by omega
      have hjm' : ¬ (j : Int) < (j : Int) := by omega
      go_wp2_with fail
      clear hmul g0 g1 g2 g3
      refine (rin_any W K j ao co (pgD k l s d z) _ (HO.out.arg (by omega) (fun i _ => by have := pgD_lt HM.out d z i; omega)) hw0 hw1 hk0 (by omega) HEq.out).mono ?_
      rintro e w6 ⟨gR, rfl, hgR, hrows, k6⟩
      have K6 := kk.comp k6
      have HR := Lib.hid hrows
      have hsz6 := kk.size
      clear hrows kk HO
      go_wp2_with fail
      go_loopw [11] (fun v wt => ∃ (r : Nat) (A : Nat → Option Addr) (C : Nat → Nat), r ≤ W ∧ v = .int .i64 r ∧ Hid (Blk wt gR 31 (valsArr (famV A (lenE K r) C) W)) ∧ Hid (Fam wt M.heap.size W A (lenE K r) C (fun i => if i < r then rencV (rowD W (pgD k l s d z) i) K else rowD W (pgD k l s d z) i)) ∧ Keep (fun _ => False) M wt) (fun v _ => W - (intOf v).toNat)
      case atStart =>
        obtain ⟨A, C, hb, hf⟩ := HR.out
        refine ⟨0, A, C, by omega, rfl, Lib.hid ?_, Lib.hid ?_, K6⟩
        · rwa [valsArr_congr (h := famV A (lenE K 0) C) (fun k _ => by unfold famV lenE; rw [if_neg (Nat.not_lt_zero k)])] at hb
        · exact (hf.more hsz6).congr (fun _ _ => rfl) (fun i _ => by unfold lenE; rw [if_neg (Nat.not_lt_zero i)]) (fun _ _ => rfl) (fun i _ j _ => by rw [if_neg (Nat.not_lt_zero i)]; rfl)
      case round =>
        obtain ⟨r, A, C, hr, rfl, HB, HF, kt⟩ := hrel
        obtain ⟨g0, g1, g2, g3⟩ := geo_cells (bG.keep kt (by simp))
        by_cases hrW : r < W
        · have hrW' : (r : Int) < (W : Int) := by omega
          have c0 := HB.out.val hrW
          rw [show famV A (lenE K r) C r = .slice (A r) K (C r) by unfold famV lenE; rw [if_neg (Nat.lt_irrefl r)]] at c0
          have OR := HF.out.own r hrW
          rw [show lenE K r r = K by unfold lenE; rw [if_neg (Nat.lt_irrefl r)], if_neg (Nat.lt_irrefl r)] at OR
          have HE := Lib.hid (renc_all (A r) K (C r) (rowD W (pgD k l s d z) r) wr (OR.arg (by omega) (fun i _ => by have := pgD_lt HM.out d z (i * W + r); unfold rowD; omega)) OR.le.1)
          clear OR
          go_wp2_with fail
          refine HE.out.mono ?_
          rintro e w7 ⟨hx, k7⟩
          rcases hx with ⟨h1, _⟩ | ⟨_, _, ⟨i, hi, h1⟩, _⟩ | ⟨_, _, _, q, a', c', hq, rfl, ho⟩
          · omega
          · have := pgD_lt HM.out d z (i * W + r)
            unfold rowD at h1
            omega
          have hnew := (HF.out.put k7 kt.size hrW ho)
          have hb7 := HB.out.keep k7 (by simp)
          have hfz := hb7.frozen r
          have c7 := hb7.val hrW
          have hb8 := Lib.hid (hb7.store r (.slice a' (K + 16) c'))
          have hf8 := Lib.hid (hnew.farT hb7 r (.slice a' (K + 16) c'))
          have K8 : Keep (fun _ => False) M (w7.setCell ⟨gR, r, none⟩ (.slice a' (K + 16) c')) := (kt.comp k7).setCell (.inr (Nat.le_trans hsz6 hgR)) _
          have HQ := Lib.hid hq
          clear hnew hb7 ho k7 HE hq c0
          go_wp2_with fail
          clear hfz c7
          refine ⟨⟨r + 1, updF A r a', updF C r c', by omega, by go_num, Lib.hid ?_, Lib.hid ?_, K8⟩, by simp [intOf]; omega⟩
          · have := hb8.out
            rwa [valsArr_congr (h := famV (updF A r a') (lenE K (r + 1)) (updF C r c')) (fun k _ => by
              rw [show lenE K (r + 1) = updF (lenE K r) r (K + 16) from funext fun i => by
                unfold lenE updF
                by_cases h : i = r
                · rw [if_pos h, if_pos (by omega)]
                · rw [if_neg h]
                  dsimp only
                  by_cases h2 : i < r
                  · rw [if_pos h2, if_pos (by omega)]
                  · rw [if_neg h2, if_neg (by omega)]]
              exact (famV_upd A (lenE K r) C r a' (K + 16) c' k).symm)] at this
          · refine hf8.out.congr (fun _ _ => rfl) (fun i _ => ?_) (fun _ _ => rfl) (fun i hi j hj => ?_)
            · unfold lenE updF
              by_cases h : i = r
              · rw [if_pos h, if_pos (by omega)]
              · rw [if_neg h]
                dsimp only
                by_cases h2 : i < r
                · rw [if_pos h2, if_pos (by omega)]
                · rw [if_neg h2, if_neg (by omega)]
            · by_cases h : i = r
              · subst h
                rw [updF_at] at hj ⊢
                rw [if_pos (by omega)]
                exact IsEnc.uniq (by omega) HQ.out (renc_is (fun t _ => pgD_lt HM.out d z _)) j hj
              · rw [updF_ne _ _ h]
                by_cases h2 : i < r
                · rw [if_pos h2, if_pos (by omega)]
                · rw [if_neg h2, if_neg (by omega)]
        · obtain rfl : r = W := by omega
          have hrW' : ¬ (r : Int) < (r : Int) := by omega
          have HRA := Lib.hid (show ArgRows wr (some ⟨gR, 0, none⟩) r (K + 16) (fun i => rencV (rowD r (pgD k l s d z) i) K) from by
            refine RowsAt.arg (N := M.heap.size) ⟨A, C, ?_, ?_⟩ (by omega) (by omega) (fun i _ j hj => by have := (renc_is (fun t _ => pgD_lt HM.out d z _) : IsEnc (rowD r (pgD k l s d z) i) K _).lt j hj; omega)
            · have := HB.out
              rwa [valsArr_congr (h := famV A (fun _ => K + 16) C) (fun k hk => by unfold famV lenE; rw [if_pos hk])] at this
            · exact HF.out.congr (fun _ _ => rfl) (fun i hi => by unfold lenE; rw [if_pos hi]) (fun _ _ => rfl) (fun i hi j _ => by rw [if_pos hi]))
          clear HB HF
          go_wp2_with fail
          refine (rout_any r (K + 16) _ _ _ _ HRA.out hw0 hw1 (by omega) (by omega)).mono ?_
          rintro e w9 ⟨a', c', rfl, ho, k9⟩
          have HO := Lib.hid (ho.more (Nat.le_trans HZ.out kt.size))
          have K9 := kw.comp (kt.comp k9)
          clear ho k9 kt g0 g1 g2 g3
          go_wp2_with fail
          go_ret2
          exact ⟨a', c', rfl, HO.out, K9⟩
/-- A head that may not be. -/
def MarkBad (k l s : Int) : Prop := k < 1 ∨ 1023 < k ∨ l < 0 ∨ 1048576 ≤ l ∨ s < 0 ∨ 1099511627776 ≤ s
set_option maxRecDepth 100000 in
set_option maxHeartbeats 4000000 in
theorem rmake_arg (B P W K k l s : Int) (v : Value) (w : World) (h : ¬ GeoOk B P W K ∨ MarkBad k l s) :
    Calls Tryz.prog 12 #[geoV B P W K, markV k l s, v] w fun e w' => e = .returned (.tuple #[.slice none 0 0, .int .i64 1]) ∧ Keep (fun _ => False) w w' := by
  obtain ⟨M, hM⟩ : ∃ M, M = (w.alloc (.cells #[.int .i64 B, .int .i64 P, .int .i64 W, .int .i64 K] 23)).alloc (.cells #[.int .i64 k, .int .i64 l, .int .i64 s] 30) := ⟨_, rfl⟩
  have kw : Keep (fun _ => False) w M := by rw [hM]; exact ((Keep.refl _ w).alloc _).alloc _
  have bG : Blk M w.heap.size 23 #[.int .i64 B, .int .i64 P, .int .i64 W, .int .i64 K] := by rw [hM]; exact (Blk.new w _ _).alloc _
  have bM : Blk M (w.heap.size + 1) 30 #[.int .i64 k, .int .i64 l, .int .i64 s] := by rw [hM]; exact Blk.here _ _ _ _ (by simp)
  obtain ⟨g0, g1, g2, g3⟩ := geo_cells' bG
  have HY := Lib.hid (fun w => gmay_yes B P W K w)
  have HN := Lib.hid (fun w => gmay_no B P W K w)
  have HH := Lib.hid h
  unfold markV
  clear h
  go_enter Tryz.func12, Tryz.ntmps12
  go_wp2_with fail
  rw [← hM]
  clear hM
  go_wp2_with fail
  by_cases hg : GeoOk B P W K
  · refine (HY.out _ hg).mono ?_
    rintro e w1 ⟨rfl, k1⟩
    have bM1 := bM.keep k1 (by simp)
    have p0 : w1.cell? ⟨w.heap.size + 1, 0, none⟩ = some (.int .i64 k) := by rw [bM1.cell]; rfl
    have p1 : w1.cell? ⟨w.heap.size + 1, 1, none⟩ = some (.int .i64 l) := by rw [bM1.cell]; rfl
    have p2 : w1.cell? ⟨w.heap.size + 1, 2, none⟩ = some (.int .i64 s) := by rw [bM1.cell]; rfl
    have hb : MarkBad k l s := HH.out.resolve_left (fun h => h hg)
    have HK := Lib.hid (kw.comp k1)
    clear g0 g1 g2 g3 hg k1 bM1 kw
    unfold MarkBad at hb
    cases d1 : decide (k < 1) with
    | true =>
      go_wp2_with fail
      go_ret2
      exact ⟨rfl, HK.out⟩
    | false =>
      cases d2 : decide (1023 < k) with
      | true =>
        go_wp2_with fail
        go_ret2
        exact ⟨rfl, HK.out⟩
      | false =>
        cases d3 : decide (l < 0) with
        | true =>
          go_wp2_with fail
          go_ret2
          exact ⟨rfl, HK.out⟩
        | false =>
          cases d4 : decide (1048576 ≤ l) with
          | true =>
            go_wp2_with fail
            go_ret2
            exact ⟨rfl, HK.out⟩
          | false =>
            cases d5 : decide (s < 0) with
            | true =>
              go_wp2_with fail
              go_ret2
              exact ⟨rfl, HK.out⟩
            | false =>
              have d6 : decide (1099511627776 ≤ s) = true := by
                simp only [decide_eq_false_iff_not] at d1 d2 d3 d4 d5
                exact decide_eq_true (by omega)
              clear hb
              go_wp2_with fail
              go_ret2
              exact ⟨rfl, HK.out⟩
  · refine (HN.out _ hg).mono ?_
    rintro e w1 ⟨rfl, k1⟩
    have HK := Lib.hid (kw.comp k1)
    clear g0 g1 g2 g3 hg k1 kw
    go_wp2_with fail
    go_ret2
    exact ⟨rfl, HK.out⟩
set_option maxRecDepth 100000 in
set_option maxHeartbeats 4000000 in
theorem rmake_size (B P : Int) (W K k l s n : Nat) (a : Option Addr) (c : Nat) (w : World) (h : GeoOk B P W K) (hm : MarkOk k l s) (hn : n ≠ szB W K) :
    Calls Tryz.prog 12 #[geoV B P W K, markV k l s, .slice a n c] w fun e w' => e = .returned (.tuple #[.slice none 0 0, .int .i64 3]) ∧ Keep (fun _ => False) w w' := by
  have m1 : decide ((k : Int) < 1) = false := decide_eq_false (by have := hm.k1; omega)
  have m2 : decide (1023 < (k : Int)) = false := decide_eq_false (by have := hm.k2; omega)
  have m3 : decide ((l : Int) < 0) = false := decide_eq_false (by omega)
  have m4 : decide (1048576 ≤ (l : Int)) = false := decide_eq_false (by have := hm.l; omega)
  have m5 : decide ((s : Int) < 0) = false := decide_eq_false (by omega)
  have m6 : decide (1099511627776 ≤ (s : Int)) = false := decide_eq_false (by have := hm.s; omega)
  obtain ⟨M, hM⟩ : ∃ M, M = (w.alloc (.cells #[.int .i64 B, .int .i64 P, .int .i64 W, .int .i64 K] 23)).alloc (.cells #[.int .i64 k, .int .i64 l, .int .i64 s] 30) := ⟨_, rfl⟩
  have kw : Keep (fun _ => False) w M := by rw [hM]; exact ((Keep.refl _ w).alloc _).alloc _
  have bG : Blk M w.heap.size 23 #[.int .i64 B, .int .i64 P, .int .i64 W, .int .i64 K] := by rw [hM]; exact (Blk.new w _ _).alloc _
  have bM : Blk M (w.heap.size + 1) 30 #[.int .i64 k, .int .i64 l, .int .i64 s] := by rw [hM]; exact Blk.here _ _ _ _ (by simp)
  obtain ⟨g0, g1, g2, g3⟩ := geo_cells bG
  have HY := Lib.hid (fun w => gmay_yes _ _ _ _ w h)
  have HS := Lib.hid (fun w => rsize_any _ _ _ _ w h)
  have HZ := Lib.hid (szB_le h)
  unfold markV
  clear h hm
  generalize szB W K = z at *
  have hne : ((n : Int) != (z : Int)) = true := by simp; omega
  have hne2 : ¬ (n : Int) = (z : Int) := by omega
  clear hn
  go_enter Tryz.func12, Tryz.ntmps12
  go_wp2_with fail
  rw [← hM]
  clear hM
  go_wp2_with fail
  refine (HY.out _).mono ?_
  rintro e w1 ⟨rfl, k1⟩
  have bM1 := bM.keep k1 (by simp)
  have bG1 := bG.keep k1 (by simp)
  have p0 : w1.cell? ⟨w.heap.size + 1, 0, none⟩ = some (.int .i64 k) := by rw [bM1.cell]; rfl
  have p1 : w1.cell? ⟨w.heap.size + 1, 1, none⟩ = some (.int .i64 l) := by rw [bM1.cell]; rfl
  have p2 : w1.cell? ⟨w.heap.size + 1, 2, none⟩ = some (.int .i64 s) := by rw [bM1.cell]; rfl
  obtain ⟨h0, h1, h2, h3⟩ := geo_cells bG1
  clear g0 g1 g2 g3
  go_wp2_with fail
  clear m1 m2 m3 m4 m5 m6
  refine (HS.out _).mono ?_
  rintro e w2 ⟨rfl, k2⟩
  have HK := Lib.hid (kw.comp (k1.comp k2))
  clear h0 h1 h2 h3 p0 p1 p2 k1 k2 kw
  go_wp2_with fail
  go_ret2
  exact ⟨rfl, HK.out⟩
theorem markBad_or (k l s : Int) : MarkBad k l s ∨ ∃ k' l' s' : Nat, k = k' ∧ l = l' ∧ s = s' ∧ MarkOk k' l' s' := by
  by_cases h : MarkBad k l s
  · exact .inl h
  · unfold MarkBad at h
    exact .inr ⟨k.toNat, l.toNat, s.toNat, by omega, by omega, by omega, ⟨by omega, by omega, by omega, by omega⟩⟩
theorem MarkOk.notBad {k l s : Nat} (h : MarkOk k l s) : ¬ MarkBad k l s := by
  have := h.k1
  have := h.k2
  have := h.l
  have := h.s
  unfold MarkBad
  omega
end Go.Proofs.YtdlmjjlejkkniaaGreat
