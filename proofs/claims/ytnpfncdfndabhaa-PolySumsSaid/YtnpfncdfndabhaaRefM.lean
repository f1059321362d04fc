/- The reference's At, PolyMul. -/
import Derived.Test.YtnpfncdfndabhaaRefP
import Derived.Test.YtnpfncdfndabhaaMul2
namespace Go.Proofs.Ytnpfncdfndabhaa
open Go.RowKit

theorem rmul_q (a b : Nat) (w : World) (ha : a < 65536) (hb : b < 65536) :
    Calls Try.prog 30 #[.int .u16 a, .int .u16 b] w fun e w' => e = .returned (.int .u16 (gm (a % 1024) (b % 1024) : Nat)) ∧ w' = w :=
  (rmul_any a b w ha hb).mono fun _ _ ⟨h, e⟩ => ⟨h, e.symm⟩
theorem rmul_kept (a b : Nat) (w : World) (ha : a < 1024) (hb : b < 1024) :
    Calls Try.prog 30 #[.int .u16 a, .int .u16 b] w fun e w' => e = .returned (.int .u16 (gm a b : Nat)) ∧ Keep (fun _ => False) w w' :=
  (rmul_lt a b w ha hb).mono fun _ _ ⟨h, e⟩ => ⟨h, by subst e; exact Keep.refl _ _⟩

set_option maxHeartbeats 2000000 in
set_option maxRecDepth 100000 in
theorem rat_any (a : Option Addr) (n c x : Nat) (p : Nat → Nat) (w : World) (ha : ArgU w a n p) (hn : n ≤ 1000000) (hx : x < 65536) :
    Calls Try.prog 23 #[.slice a n c, .int .u16 x] w fun e w' => e = .returned (.int .u16 (hor (cut p n) (x % 1024) 0 n : Nat)) ∧ Keep (fun _ => False) w w' := by
  have HA := Lib.hid ha
  have HX := Lib.hid hx
  clear ha hx
  go_enter Try.func23, Try.ntmps23
  go_wp2_with fail
  go_loopw [5, 6] (fun v i wr => ∃ k : Nat, k ≤ n ∧ i = .int .i64 ((n : Int) - 1 - k) ∧ v = .int .u16 (hor (cut p n) (x % 1024) (n - k) k : Nat) ∧ Keep (fun _ => False) w wr) (fun _ i _ => ((intOf i) + 1).toNat)
  case atStart => exact ⟨0, by omega, by simp, rfl, Keep.refl _ _⟩
  case round =>
    obtain ⟨k, hk, rfl, rfl, hK⟩ := hrel
    by_cases hkn : k < n
    · obtain ⟨b, off, rfl, hb, hcell⟩ := HA.out.at_ (by omega)
      obtain ⟨j, hj⟩ : ∃ j, j = n - 1 - k := ⟨_, rfl⟩
      have hjl : j < n := by omega
      have hc := (hK.cell (p := ⟨b, off + j, none⟩) hb (by simp)).trans (hcell j hjl)
      have hpj := HA.out.lt j hjl
      have h1 := and_1023 hpj
      have hh : hor (cut p n) (x % 1024) (n - k) k < 1024 := hor_lt (cut_lt p n) _ _
      have hg : gm (hor (cut p n) (x % 1024) (n - k) k) (x % 1024) < 1024 := gm_lt hh _
      have hm : p j % 1024 < 1024 := Nat.mod_lt _ (by omega)
      have h2 := xor_u16 (a := gm (hor (cut p n) (x % 1024) (n - k) k) (x % 1024)) (b := p j % 1024) (by omega) (by omega)
      have HN := Lib.hid (show hor (cut p n) (x % 1024) (n - (k + 1)) (k + 1) = gm (hor (cut p n) (x % 1024) (n - k) k) (x % 1024) ^^^ p j % 1024 by
        rw [hor, show n - (k + 1) + 1 = n - k by omega, show n - (k + 1) = j by omega, cut_in p hjl])
      have hr := fun W : World => rmul_q (hor (cut p n) (x % 1024) (n - k) k) x W (by omega) HX.out
      have hr1 : hor (cut p n) (x % 1024) (n - k) k % 1024 = hor (cut p n) (x % 1024) (n - k) k := Nat.mod_eq_of_lt hh
      simp only [hr1] at hr
      clear hr1
      have HR := Lib.hid hr
      have ej : (n : Int) - 1 - k = (j : Int) := by omega
      have hj0 : (0 : Int) ≤ (j : Int) := by omega
      have hj1 : (j : Int) < (n : Int) := by omega
      rw [ej]
      have HE := Lib.hid ej
      have HJ := Lib.hid hj
      generalize hor (cut p n) (x % 1024) (n - k) k = V at *
      clear hcell ej hj hr hh hpj hm
      generalize hP : p j % 1024 = P at *
      clear hP hg
      go_wp2_with fail
      go_quiet ((go_at_call 30; exact Calls.quiet_of_same (HR.out _)))
      go_wp2_with fail
      go_roundw
      case rel => exact ⟨k + 1, by omega, by have := HE.out; congr 1; omega, by rw [HN.out], hK.drewN _⟩
      case measure => simp [intOf]
    · obtain rfl : k = n := by omega
      have ek : (k : Int) - 1 - k = -1 := by omega
      rw [ek, Nat.sub_self]
      clear ek
      go_wp2_with fail
      go_ret
      exact ⟨rfl, hK⟩

set_option maxHeartbeats 4000000 in
set_option maxRecDepth 100000 in
theorem rpmul_any (a b : Option Addr) (na nb ca cb : Nat) (p q : Nat → Nat) (la lb : Nat) (hla : IsPol (cut p na) la) (hlb : IsPol (cut q nb) lb) (w : World) (ha : ArgU w a na p) (hb : ArgU w b nb q) (hna : na ≤ 1000000) (hnb : nb ≤ 1000000) :
    Calls Try.prog 22 #[.slice a na ca, .slice b nb cb] w fun e w' => ∃ a' m, e = .returned (.slice a' m m) ∧ ResU w' w.heap.size a' m (pmulM (cut p na) la (cut q nb) lb) ∧
      IsPol (pmulM (cut p na) la (cut q nb) lb) m ∧ Keep (fun _ => False) w w' := by
  have HA := Lib.hid ha
  have HB := Lib.hid hb
  have hla0 := Lib.hid hla
  have hlb0 := Lib.hid hlb
  clear ha hb hla hlb
  go_enter Try.func22, Try.ntmps22
  go_wp2_with fail
  refine (rtrim_any _ _ _ _ _ HA.out hna).mono ?_
  rintro e w1 ⟨aA, la', rfl, rA, pA, lA, k2⟩
  obtain rfl := hla0.out.uniq pA
  have B1 := Lib.hid (HB.out.keep k2)
  have kk1 := k2
  clear HB HA k2
  go_wp2_with fail
  refine (rtrim_any _ _ _ _ _ B1.out hnb).mono ?_
  rintro e w2 ⟨aB, lb', rfl, rB, pB, lB, k2⟩
  obtain rfl := hlb0.out.uniq pB
  have HA := Lib.hid ((rA.keep k2).arg (by omega) pA.lt16)
  have HB := Lib.hid (rB.arg (by omega) pB.lt16)
  have kk2 := kk1.trans k2 (fun _ hi => .inl hi)
  have hfl := Lib.hid pA.lt
  have hgl := Lib.hid pB.lt
  have hfz := Lib.hid pA.zero
  have hgz := Lib.hid pB.zero
  clear B1 kk1 k2 rA rB pA pB hla0 hlb0
  by_cases c0 : la = 0
  · have HM := Lib.hid (show pmulM (cut p na) la (cut q nb) lb = fun _ => 0 by simp [pmulM, c0])
    subst c0
    go_wp2_with fail
    go_ret
    rw [HM.out]
    exact ⟨none, 0, rfl, .inl ⟨rfl, rfl⟩, pol_none, kk2⟩
  · by_cases c1 : lb = 0
    · have HM := Lib.hid (show pmulM (cut p na) la (cut q nb) lb = fun _ => 0 by simp [pmulM, c1])
      subst c1
      have d0 : ((la : Int) == 0) = false := beq_eq_false_iff_ne.2 (by omega)
      go_wp2_with fail
      go_ret
      rw [HM.out]
      exact ⟨none, 0, rfl, .inl ⟨rfl, rfl⟩, pol_none, kk2⟩
    · by_cases c2 : 4097 < la + lb
      · have HM := Lib.hid (show pmulM (cut p na) la (cut q nb) lb = fun _ => 0 by simp [pmulM, c2])
        have d0 : ((la : Int) == 0) = false := beq_eq_false_iff_ne.2 (by omega)
        have d1 : ((lb : Int) == 0) = false := beq_eq_false_iff_ne.2 (by omega)
        have d4 : decide ((4096 : Int) < (la : Int) + (lb : Int) - 1) = true := by simp; omega
        clear c0 c1 c2
        go_wp2_with fail
        go_ret
        rw [HM.out]
        exact ⟨none, 0, rfl, .inl ⟨rfl, rfl⟩, pol_none, kk2⟩
      · have HM := Lib.hid (show pmulM (cut p na) la (cut q nb) lb = pmul (cut p na) (cut q nb) by simp [pmulM, c0, c1, c2])
        obtain ⟨m, hm⟩ : ∃ m, la + lb = m + 1 := ⟨la + lb - 1, by omega⟩
        have d0 : ((la : Int) == 0) = false := beq_eq_false_iff_ne.2 (by omega)
        have d1 : ((lb : Int) == 0) = false := beq_eq_false_iff_ne.2 (by omega)
        have d2 : (la : Int) + (lb : Int) - 1 = (m : Int) := by omega
        have d4 : decide ((4096 : Int) < (m : Int)) = false := by simp; omega
        have hmk := make_u m m rfl (by omega)
        have hm2 : m ≤ 4096 := by omega
        generalize hf : cut p na = f at *
        generalize hg : cut q nb = g at *
        clear c0 c1 c2
        have bo := Blk.new w2 23 (uArr (fun _ => 0) m)
        have k3 := (Keep.refl (fun _ => False) w2).alloc (.cells (uArr (fun _ => 0) m) 23)
        go_wp2_with fail
        clear d0 d1 d4 hmk
        go_loopw [6] (fun v wr => ∃ i : Nat, i ≤ la ∧ v = .int .i64 i ∧ Blk wr w2.heap.size 23 (uArr (fun k => pacc f g i k) m) ∧ Keep (fun _ => False) w2 wr) (fun v _ => la - (intOf v).toNat)
        case atStart =>
          refine ⟨0, by omega, rfl, ?_, k3⟩
          rwa [uArr_congr (g := fun k => pacc f g 0 k) (fun i hi => by simp [pacc, xs])] at bo
        case round =>
          clear bo k3
          obtain ⟨i, hi, rfl, hR, hk⟩ := hrel
          by_cases hil : i < la
          · have hil' : (i : Int) < (la : Int) := by omega
            obtain ⟨bA, oA, rfl, hbA, hcA⟩ := HA.out.at_ (by omega)
            have hcAi := hcA i hil
            clear hcA
            go_wp2_with fail
            obtain ⟨wo, hwo⟩ : ∃ wo : World, wo = wr := ⟨_, rfl⟩
            go_loopw [7] (fun v wr => ∃ j : Nat, j ≤ lb ∧ v = .int .i64 j ∧ Blk wr w2.heap.size 23 (uArr (mulMid f g i j) m) ∧ Keep (fun _ => False) w2 wr) (fun v _ => lb - (intOf v).toNat)
            case atStart =>
              refine ⟨0, by omega, rfl, ?_, hk⟩
              rw [mulMid_start]
              exact hR
            case round =>
              clear hR hk hwo
              obtain ⟨j, hj, rfl, hR, hk⟩ := hrel
              have hs := hk.size
              by_cases hjl : j < lb
              · have hjl' : (j : Int) < (lb : Int) := by omega
                obtain ⟨bB, oB, rfl, hbB, hcB⟩ := HB.out.at_ (by omega)
                have hxi := (hk.cell (p := ⟨bA, oA + i, none⟩) hbA (by simp)).trans hcAi
                have hyj := (hk.cell (p := ⟨bB, oB + j, none⟩) hbB (by simp)).trans (hcB j hjl)
                have hijm : i + j < m := by omega
                have hout := hR.val hijm
                have hfi := hfl.out i
                have hgj := hgl.out j
                have hml := mulMid_lt (g := g) hfl.out i j (i + j)
                have hx := xor_u16 (a := mulMid f g i j (i + j)) (b := gm (f i) (g j)) (by omega) (by have := gm_lt hfi (g j); omega)
                have q0 : ∀ z : KeptBy wr, z.v.cell? ⟨bA, oA + i, none⟩ = some (.int .u16 (f i : Nat)) := fun z => z.cell (show bA < wr.heap.size by omega) hxi
                have q1 : ∀ z : KeptBy wr, z.v.cell? ⟨bB, oB + j, none⟩ = some (.int .u16 (g j : Nat)) := fun z => z.cell (show bB < wr.heap.size by omega) hyj
                have q2 : ∀ z : KeptBy wr, z.v.cell? ⟨w2.heap.size, i + j, none⟩ = some (.int .u16 (mulMid f g i j (i + j) : Nat)) := fun z => z.cell hR.lt hout
                have e1 : (i : Int) + (j : Int) < (m : Int) := by omega
                have e2 : (0 : Int) ≤ (i : Int) + (j : Int) := by omega
                have e3 : ((i : Int) + (j : Int)).toNat = i + j := by omega
                clear hcB
                go_upto_region 11 with fail
                have e0 : IntKind.i64.wrap ((i : Int) + (j : Int)) = (i : Int) + (j : Int) := wraps_i64 _ (by omega) (by omega)
                refine wp_region_kept_tail 21 (by kernel_rfl) (by kernel_rfl) ?_
                simp only [List.take_succ_cons, List.take_zero, List.drop_succ_cons, List.drop_zero]
                repeat (quiet_step (first
                  | (go_at_call 30; exact kept_of (rmul_kept _ _ _ hfi hgj))))
                refine wpQuiet_nil ?_
                rintro w5 ⟨⟨_, k5⟩, rfl⟩
                clear q0 q1 q2 e0
                have hR5 := hR.keep k5 (by simp)
                have c5 := hR5.val hijm
                have z5 := hR5.frozen (i + j)
                have k6 := hk.trans k5 (fun _ hi => .inl hi)
                have HN := Lib.hid (hR5.storeU (i + j) (mulMid f g i j (i + j) ^^^ gm (f i) (g j)) (f' := mulMid f g i (j + 1)) (fun k _ => mulMid_next f g i j k))
                go_wp2_with fail
                exact ⟨⟨j + 1, by omega, by go_num, HN.out, k6.setCell (p := ⟨w2.heap.size, i + j, none⟩) (.inr (Nat.le_refl _)) _⟩, by simp [intOf]; omega⟩
              · obtain rfl : j = lb := by omega
                have hR2 := hR
                rw [mulMid_row hgz.out] at hR2
                have HR := Lib.hid hR2
                clear hR hR2
                go_wp2_with fail
                exact ⟨⟨i + 1, by omega, by go_num, HR.out, hk⟩, by simp [intOf]; omega⟩
          · obtain rfl : i = la := by omega
            have HR := Lib.hid (hR.argU (by omega) (fun k _ => by have := pacc_lt (g := g) hfl.out i k; omega))
            have hs := hk.size
            have HC := Lib.hid (show cut (fun k => pacc f g i k) m = pmul f g by
              have e : (fun k => pacc f g i k) = pmul f g := funext fun k => pacc_full hfz.out k
              rw [e]
              exact cut_of_lt (fun k => pmul_lt hfl.out k) (fun k hk => pmul_zero hfz.out hgz.out (by omega)))
            have hs2 := kk2.size
            go_wp2_with fail
            refine (rtrim_any _ _ _ _ _ HR.out (by omega)).mono ?_
            rintro e w4 ⟨a', m', rfl, hres, hpol, hle, k4⟩
            rw [HC.out] at hres hpol
            go_wp2_with fail
            go_ret
            subst hf hg
            rw [HM.out]
            exact ⟨a', m', rfl, hres.more (by omega), hpol, (kk2.trans hk (fun _ hi => .inl hi)).trans k4 (fun _ hi => .inl hi)⟩
end Go.Proofs.Ytnpfncdfndabhaa
