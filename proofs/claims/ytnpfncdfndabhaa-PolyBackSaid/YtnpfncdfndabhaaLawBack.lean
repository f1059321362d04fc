/- blackboardlaw3.PolyBack. -/
import Derived.Test.YtnpfncdfndabhaaPolyC
import Derived.Deep.RegionHeld3
namespace Go.Proofs.Ytnpfncdfndabhaa
open Go.ChangeShapes Go.WideShapes Go.ChangeAt Go.RowKit
attribute [local go_sem ↓] Go.wp_at_zero Go.wp_at_succ

set_option maxHeartbeats 8000000 in
theorem back_true (a b : Option Addr) (na nb ca cb x : Nat) (p q : Nat → Nat) (w : World) (ha : na ≤ 1000000 → ArgU w a na p) (hb : nb ≤ 1000000 → ArgU w b nb q) (hca : na ≤ ca) (hcb : nb ≤ cb) :
    Calls Try.prog 7 #[.slice a na ca, .slice b nb cb, .int .u16 x] w fun e w' => e = .returned (.bool true) ∧ Keep (fun _ => False) w w' := by
  have HA' := Lib.hid ha
  have HB' := Lib.hid hb
  clear ha hb
  by_cases h1 : 100 < na
  · have e1 : (100 : Int) < (na : Int) := by omega
    go_enter Try.func7, Try.ntmps7
    go_wp2_with fail
    refine (awake_true _).mono ?_
    rintro e w1 ⟨rfl, k1⟩
    go_wp2_with fail
    go_ret
    exact ⟨rfl, k1⟩
  by_cases h2 : 100 < nb
  · have e1 : ¬ (100 : Int) < (na : Int) := by omega
    have e2 : (100 : Int) < (nb : Int) := by omega
    go_enter Try.func7, Try.ntmps7
    go_wp2_with fail
    refine (awake_true _).mono ?_
    rintro e w1 ⟨rfl, k1⟩
    go_wp2_with fail
    go_ret
    exact ⟨rfl, k1⟩
  have e1 : ¬ (100 : Int) < (na : Int) := by omega
  have e2 : ¬ (100 : Int) < (nb : Int) := by omega
  have HA0 := Lib.hid (Says.of (HA'.out (by omega)) (by omega))
  have HB0 := Lib.hid (Says.of (HB'.out (by omega)) (by omega))
  clear HA' HB'
  generalize cut p na = F at *
  generalize cut q nb = G at *
  generalize topB F na = la at *
  generalize topB G nb = lb at *
  have PF := Lib.hid HA0.out.pol
  have PG := Lib.hid HB0.out.pol
  have lla := HA0.out.le
  have llb := HB0.out.le
  go_enter Try.func7, Try.ntmps7
  go_wp2_with fail
  refine (awake_true _).mono ?_
  rintro e w1 ⟨rfl, k1⟩
  go_wp2_with fail
  clear e1 e2
  refine (make_any _).mono ?_
  rintro e w2 ⟨g1, g2, rfl, T, _, _, k2⟩
  obtain ⟨TV, k3⟩ := TVar.new T
  have k := (k1.comp k2).comp k3
  have HA := Lib.hid (HA0.out.keep k)
  have HB := Lib.hid (HB0.out.keep k)
  clear k1 k2 k3 HA0 HB0 T
  unfold tabV
  go_wp2_with fail
  generalize w2.alloc (.cells #[.slice (some ⟨g1, 0, none⟩) 1023 1023, .slice (some ⟨g2, 0, none⟩) 1024 1024] 27) = W at *
  generalize w2.heap.size = gt at *
  refine (mul_p TV.t.has HA.out HB.out hca hcb (by omega)).mono ?_
  rintro e w3 ⟨aM, lm, rfl, rM, pM, lM, k3⟩
  have TV1 := TV.keep k3
  have HA1 := Lib.hid (HA.out.keep k3)
  have HB1 := Lib.hid (HB.out.keep k3)
  have HM1 := Lib.hid (Says.res rM pM (by omega))
  have PM := Lib.hid pM
  have K1 := k.comp k3
  clear TV HA HB k k3 rM pM
  go_wp2_with fail
  refine (slope_p HM1.out).mono ?_
  rintro e w4 ⟨aL, lL, rfl, rL, pL, lL', k3⟩
  have kd := (Keep.refl (fun _ => False) w4).drew
  have kk := k3.comp kd
  have TV := TV1.keep k3
  have TVd := TV1.keep kk
  have HA := Lib.hid (HA1.out.keep kk)
  have HB := Lib.hid (HB1.out.keep kk)
  have HM := Lib.hid (HM1.out.keep kk)
  have RL := Lib.hid (rL.keep kd)
  have PL := Lib.hid pL
  have K2 := K1.comp kk
  clear TV1 HA1 HB1 HM1 K1 k3 kk kd rL pL
  go_wp2_with fail
  go_region_held3 (fun w' => w'.cell? ⟨gt, 0, none⟩ = some (.slice (some ⟨g1, 0, none⟩) 1023 1023) ∧ w'.cell? ⟨gt, 1, none⟩ = some (.slice (some ⟨g2, 0, none⟩) 1024 1024))
    (first | exact tab_cells TV9.b | exact tab_cells TV8.b | exact tab_cells TV7.b | exact tab_cells TV6.b | exact tab_cells TV5.b | exact tab_cells TVd.b)
    (first
      | (have _z := K8; go_at_call 13; refine (add_p HX8.out HY8.out).mono ?_; rintro e w9 ⟨a9, l9, rfl, r9, p9, l9', k9⟩; have TV9 := TV8.keep k9; have HA9 := Lib.hid (HA8.out.keep k9); have HB9 := Lib.hid (HB8.out.keep k9); have HM9 := Lib.hid (HM8.out.keep k9); have RL9 := Lib.hid (RL8.out.keep k9); have K9 := K8.comp k9)
      | (have _z := K7; go_at_call 11; refine (mul_p TV7.t.has HA7.out HS7.out hca (Nat.le_refl _) (by omega)).mono ?_; rintro e w8 ⟨a8, l8, rfl, r8, p8, l8', k8⟩; have TV8 := TV7.keep k8; have HA8 := Lib.hid (HA7.out.keep k8); have HB8 := Lib.hid (HB7.out.keep k8); have HM8 := Lib.hid (HM7.out.keep k8); have RL8 := Lib.hid (RL7.out.keep k8); have HX8 := Lib.hid (HX7.out.keep k8); have HY8 := Lib.hid (Says.res r8 p8 (by omega)); have K8 := K7.comp k8)
      | (have _z := K6; go_at_call 16; refine (slope_p HB6.out).mono ?_; rintro e w7 ⟨a7, l7, rfl, r7, p7, l7', k7⟩; have TV7 := TV6.keep k7; have HA7 := Lib.hid (HA6.out.keep k7); have HB7 := Lib.hid (HB6.out.keep k7); have HM7 := Lib.hid (HM6.out.keep k7); have RL7 := Lib.hid (RL6.out.keep k7); have HX7 := Lib.hid (HX6.out.keep k7); have HS7 := Lib.hid (Says.res r7 p7 (by omega)); have K7 := K6.comp k7)
      | (have _z := K5; go_at_call 11; refine (mul_p TV5.t.has HS5.out HB5.out (Nat.le_refl _) hcb (by omega)).mono ?_; rintro e w6 ⟨a6, l6, rfl, r6, p6, l6', k6⟩; have TV6 := TV5.keep k6; have HA6 := Lib.hid (HA5.out.keep k6); have HB6 := Lib.hid (HB5.out.keep k6); have HM6 := Lib.hid (HM5.out.keep k6); have RL6 := Lib.hid (RL5.out.keep k6); have HX6 := Lib.hid (Says.res r6 p6 (by omega)); have K6 := K5.comp k6)
      | (go_at_call 16; refine (slope_p HA.out).mono ?_; rintro e w5 ⟨a5, l5, rfl, r5, p5, l5', k5⟩; have TV5 := TVd.keep k5; have HA5 := Lib.hid (HA.out.keep k5); have HB5 := Lib.hid (HB.out.keep k5); have HM5 := Lib.hid (HM.out.keep k5); have RL5 := Lib.hid (RL.out.keep k5); have HS5 := Lib.hid (Says.res r5 p5 (by omega)); have K5 := K2.comp k5))
  have eS := slope_pmul G la F PF.out.lt PF.out.zero
  rw [← eS] at r9 p9
  obtain rfl := PL.out.uniq p9
  have kd := (Keep.refl (fun _ => False) w9).drew
  have TVd := TV9.keep kd
  have HA := Lib.hid (HA9.out.keep kd)
  have HB := Lib.hid (HB9.out.keep kd)
  have HM := Lib.hid (HM9.out.keep kd)
  have RL := Lib.hid (RL9.out.keep kd)
  have RR := Lib.hid (r9.keep kd)
  have K2 := K9.comp kd
  have lVA := ev_lt PF.out.lt x la
  have lVB := ev_lt PG.out.lt x lb
  obtain ⟨P, hP⟩ : ∃ P, P = gm (ev F x la) (ev G x lb) := ⟨_, rfl⟩
  have EM : Hid (ev (pmul F G) x lm = P) := Lib.hid (by rw [hP]; exact ev_pmul PF.out PG.out PM.out x)
  have EP : Hid (gm (ev F x la) (ev G x lb) = P) := Lib.hid hP.symm
  clear hP eS p9 kd r9 TV TV5 TV6 TV7 TV8 K5 K6 K7 K8 HA5 HA6 HA7 HA8 HA9 HB5 HB6 HB7 HB8 HB9 HM5 HM6 HM7 HM8 HM9 RL5 RL6 RL7 RL8 RL9 HX6 HX7 HX8 HY8 HS5 HS7 r5 p5 r6 p6 r7 p7 r8 p8 k5 k6 k7 k8 k9 l5' l6' l7' l8' l9'
  obtain ⟨VA, hVA⟩ : ∃ V, V = ev F x la := ⟨_, rfl⟩
  obtain ⟨VB, hVB⟩ : ∃ V, V = ev G x lb := ⟨_, rfl⟩
  have EA : Hid (ev F x la = VA) := Lib.hid hVA.symm
  have EB : Hid (ev G x lb = VB) := Lib.hid hVB.symm
  rw [EA.out] at lVA EP
  rw [EB.out] at lVB EP
  clear hVA hVB
  go_wp2_with fail
  go_region_held3 (fun w' => w'.cell? ⟨gt, 0, none⟩ = some (.slice (some ⟨g1, 0, none⟩) 1023 1023) ∧ w'.cell? ⟨gt, 1, none⟩ = some (.slice (some ⟨g2, 0, none⟩) 1024 1024))
    (first | exact tab_cells TV15.b | exact tab_cells TV14.b | exact tab_cells TV13.b | exact tab_cells TV12.b | exact tab_cells TV11.b | exact tab_cells TVd.b)
    (first
      | (have _z := K14; go_at_call 15; refine (same_p RL14.out RR14.out PL.out (by omega)).mono ?_; rintro e w15 ⟨rfl, k15⟩; have TV15 := TV14.keep k15; have HA15 := Lib.hid (HA14.out.keep k15); have HB15 := Lib.hid (HB14.out.keep k15); have K15 := K14.comp k15)
      | (have _z := K13; go_at_call 25; refine (tmul_lt _ _ _ _ TV13.t.has lVA lVB).mono ?_; rw [EP.out]; rintro e w14 ⟨rfl, k14⟩; have TV14 := TV13.keep k14; have HA14 := Lib.hid (HA13.out.keep k14); have HB14 := Lib.hid (HB13.out.keep k14); have RL14 := Lib.hid (RL13.out.keep k14); have RR14 := Lib.hid (RR13.out.keep k14); have K14 := K13.comp k14)
      | (have _z := K12; go_at_call 12; refine (at_p TV12.t.has HB12.out).mono ?_; rw [EB.out]; rintro e w13 ⟨rfl, k13⟩; have TV13 := TV12.keep k13; have HA13 := Lib.hid (HA12.out.keep k13); have HB13 := Lib.hid (HB12.out.keep k13); have RL13 := Lib.hid (RL12.out.keep k13); have RR13 := Lib.hid (RR12.out.keep k13); have K13 := K12.comp k13)
      | (have _z := K11; go_at_call 12; refine (at_p TV11.t.has HA11.out).mono ?_; rw [EA.out]; rintro e w12 ⟨rfl, k12⟩; have TV12 := TV11.keep k12; have HA12 := Lib.hid (HA11.out.keep k12); have HB12 := Lib.hid (HB11.out.keep k12); have RL12 := Lib.hid (RL11.out.keep k12); have RR12 := Lib.hid (RR11.out.keep k12); have K12 := K11.comp k12)
      | (go_at_call 12; refine (at_p TVd.t.has HM.out).mono ?_; rw [EM.out]; rintro e w11 ⟨rfl, k11⟩; have TV11 := TVd.keep k11; have HA11 := Lib.hid (HA.out.keep k11); have HB11 := Lib.hid (HB.out.keep k11); have RL11 := Lib.hid (RL.out.keep k11); have RR11 := Lib.hid (RR.out.keep k11); have K11 := K2.comp k11))
  clear TVd HA HB HM RL RR K2 TV9 K9 EA EB EP EM lVA lVB TV11 TV12 TV13 TV14 K11 K12 K13 K14 HA11 HA12 HA13 HA14 HB11 HB12 HB13 HB14 RL11 RL12 RL13 RL14 RR11 RR12 RR13 RR14 k11 k12 k13 k14 k15
  obtain ⟨d0, d1⟩ := tab_cells TV15.b
  by_cases hb0 : lb = 0
  · have o1 : (lb != 0) = false := by simp [hb0]
    have o2 : ((lb : Int) == 0) = true := by simp [hb0]
    go_wp2_with fail
    clear d0 d1
    refine (div_p TV15.t.has HA15.out HB15.out hca hcb).mono ?_
    rintro e w16 ⟨aq, nq, ar, nr, rfl, _, _, _, _, _, _, k⟩
    have K := K15.comp k
    have HB := Lib.hid (HB15.out.keep k)
    go_wp2_with fail
    refine (trim_p HB.out hcb).mono ?_
    rintro e w17 ⟨aT, rfl, _, k'⟩
    go_wp2_with fail
    go_ret
    exact ⟨rfl, K.comp k'⟩
  · have o1 : (lb != 0) = true := by simp [hb0]
    go_wp2_with fail
    clear d0 d1
    refine (div_p TV15.t.has HA15.out HB15.out hca hcb).mono ?_
    rintro e w16 ⟨aq, nq, ar, nr, rfl, rq, pq, rr, pr, lq, lr, k⟩
    have hds := Lib.hid (div_sum PF.out PG.out (show 0 < lb by omega))
    have hrl := rst_len PF.out PG.out (by omega) pr
    have HQ := Lib.hid (Says.res rq pq (by omega))
    have HR := Lib.hid (Says.res rr pr (by omega))
    have TV16 := TV15.keep k
    have HA := Lib.hid (HA15.out.keep k)
    have HB := Lib.hid (HB15.out.keep k)
    have K := K15.comp k
    have o3 : (nr : Int) < (lb : Int) := by omega
    clear TV15 HA15 HB15 K15 k rq pq rr pr hrl
    obtain ⟨d0, d1⟩ := tab_cells TV16.b
    go_wp2_with fail
    clear d0 d1
    refine (mul_p TV16.t.has HQ.out HB.out (Nat.le_refl _) hcb (by omega)).mono ?_
    rintro e w17 ⟨aX, lX, rfl, rX, pX, lX', k⟩
    have HX := Lib.hid (Says.res rX pX (by omega))
    have HR1 := Lib.hid (HR.out.keep k)
    have HA1 := Lib.hid (HA.out.keep k)
    have HB1 := Lib.hid (HB.out.keep k)
    have K1 := K.comp k
    clear TV16 HR HA HB K k rX pX HQ
    go_wp2_with fail
    refine (add_p HX.out HR1.out).mono ?_
    rw [hds.out]
    rintro e w18 ⟨aY, lY, rfl, rY, pY, lY', k⟩
    obtain rfl := PF.out.uniq pY
    have HA := Lib.hid (HA1.out.keep k)
    have HB := Lib.hid (HB1.out.keep k)
    have K := K1.comp k
    clear HX HR1 HA1 HB1 K1 k
    have RY := Lib.hid rY
    clear rY
    go_wp2_with fail
    refine (trim_p HA.out hca).mono ?_
    rintro e w19 ⟨aZ, rfl, rZ, k⟩
    have RY1 := Lib.hid (RY.out.keep k)
    have HB1 := Lib.hid (HB.out.keep k)
    have K1 := K.comp k
    have RZ := Lib.hid rZ
    clear RY HA HB K k rZ
    go_wp2_with fail
    refine (same_p RY1.out RZ.out PF.out (by omega)).mono ?_
    rintro e w20 ⟨rfl, k⟩
    have HB := Lib.hid (HB1.out.keep k)
    have K := K1.comp k
    clear RY1 HB1 K1 k RZ
    go_wp2_with fail
    refine (trim_p HB.out hcb).mono ?_
    rintro e w21 ⟨aT, rfl, _, k⟩
    go_wp2_with fail
    go_ret
    exact ⟨rfl, K.comp k⟩

theorem back_of {H : Type} {enc : TypeId × Value → H} (w : World) {base b0 : Nat} {a b : Option Addr} {na nb ca cb : Nat} {d d' : DataW H} {ps ps' : List MemPlace} {sp sp' : Nat → Bool} (x : Int) (hx : (Lit.int .u16 x).wf = true)
    (ha : DataW.Trod enc Try.prog w base sp true 22 (.slice a na ca) d ps) (hb : DataW.Trod enc Try.prog w b0 sp' true 22 (.slice b nb cb) d' ps') :
    Calls Try.prog 7 #[.slice a na ca, .slice b nb cb, .int .u16 x] w fun e w' => e = .returned (.bool true) ∧ Keep (fun _ => False) w w' := by
  obtain ⟨p, hp, lp⟩ := argU_of ha
  obtain ⟨q, hq, lq⟩ := argU_of hb
  obtain ⟨x, rfl, _⟩ := word_of hx
  exact back_true a b na nb ca cb x p q w hp hq lp lq
end Go.Proofs.Ytnpfncdfndabhaa
