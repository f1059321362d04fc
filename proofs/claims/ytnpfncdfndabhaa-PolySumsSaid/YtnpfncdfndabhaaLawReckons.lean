/- blackboardlaw3.PolyReckons. -/
import Derived.Test.YtnpfncdfndabhaaLawP0
import Derived.Test.YtnpfncdfndabhaaArgsU
namespace Go.Proofs.Ytnpfncdfndabhaa
open Go.ChangeShapes Go.WideShapes Go.ChangeAt Go.RowKit
attribute [local go_sem ↓] Go.wp_at_zero Go.wp_at_succ

/-- The tables, and the variable that holds them. -/
structure TVar (w : World) (gt g1 g2 : Nat) : Prop where
  b : Blk w gt 27 #[.slice (some ⟨g1, 0, none⟩) 1023 1023, .slice (some ⟨g2, 0, none⟩) 1024 1024]
  t : Tab w g1 g2
theorem TVar.keep {w w' : World} {gt g1 g2 : Nat} (h : TVar w gt g1 g2) (k : Keep (fun _ => False) w w') : TVar w' gt g1 g2 := ⟨h.b.keep k (by simp), h.t.keep k⟩
theorem TVar.new {w : World} {g1 g2 : Nat} (t : Tab w g1 g2) :
    TVar (w.alloc (.cells #[.slice (some ⟨g1, 0, none⟩) 1023 1023, .slice (some ⟨g2, 0, none⟩) 1024 1024] 27)) w.heap.size g1 g2 ∧
    Keep (fun _ => False) w (w.alloc (.cells #[.slice (some ⟨g1, 0, none⟩) 1023 1023, .slice (some ⟨g2, 0, none⟩) 1024 1024] 27)) := by
  have k := (Keep.refl (fun _ => False) w).alloc (.cells #[.slice (some ⟨g1, 0, none⟩) 1023 1023, .slice (some ⟨g2, 0, none⟩) 1024 1024] 27)
  exact ⟨⟨Blk.new w _ _, t.keep k⟩, k⟩
theorem Keep.comp {w w1 w2 : World} (h : Keep (fun _ => False) w w1) (k : Keep (fun _ => False) w1 w2) : Keep (fun _ => False) w w2 := h.trans k (fun _ hi => .inl hi)

set_option maxHeartbeats 4000000 in
theorem reckons_true (a b : Option Addr) (na nb ca cb x : Nat) (p q : Nat → Nat) (w : World) (ha : na ≤ 1000000 → ArgU w a na p) (hb : nb ≤ 1000000 → ArgU w b nb q) (hca : na ≤ ca) (hcb : nb ≤ cb) (hx : x < 65536) :
    Calls Try.prog 6 #[.slice a na ca, .slice b nb cb, .int .u16 x] w fun e w' => e = .returned (.bool true) ∧ Keep (fun _ => False) w w' := by
  have HA' := Lib.hid ha
  have HB' := Lib.hid hb
  have HX := Lib.hid hx
  clear ha hb hx
  by_cases h1 : 200 < na
  · have e1 : (200 : Int) < (na : Int) := by omega
    go_enter Try.func6, Try.ntmps6
    go_wp2_with fail
    refine (awake_true _).mono ?_
    rintro e w1 ⟨rfl, k1⟩
    go_wp2_with fail
    go_ret
    exact ⟨rfl, k1⟩
  by_cases h2 : 200 < nb
  · have e1 : ¬ (200 : Int) < (na : Int) := by omega
    have e2 : (200 : Int) < (nb : Int) := by omega
    go_enter Try.func6, Try.ntmps6
    go_wp2_with fail
    refine (awake_true _).mono ?_
    rintro e w1 ⟨rfl, k1⟩
    go_wp2_with fail
    go_ret
    exact ⟨rfl, k1⟩
  have e1 : ¬ (200 : Int) < (na : Int) := by omega
  have e2 : ¬ (200 : Int) < (nb : Int) := by omega
  have HA := Lib.hid (HA'.out (by omega))
  have HB := Lib.hid (HB'.out (by omega))
  have hla : IsPol (cut p na) (topB (cut p na) na) := topB_pol (cut_lt p na) (fun i hi => cut_zero p hi)
  have hlb : IsPol (cut q nb) (topB (cut q nb) nb) := topB_pol (cut_lt q nb) (fun i hi => cut_zero q hi)
  go_enter Try.func6, Try.ntmps6
  go_wp2_with fail
  refine (awake_true _).mono ?_
  rintro e w1 ⟨rfl, k1⟩
  go_wp2_with fail
  clear e1 e2
  refine (make_any _).mono ?_
  rintro e w2 ⟨g1, g2, rfl, T, _, _, k2⟩
  obtain ⟨TV, k3⟩ := TVar.new T
  have k := (k1.comp k2).comp k3
  have HA1 := Lib.hid (HA.out.keep k)
  have HB1 := Lib.hid (HB.out.keep k)
  clear k1 k2 k3 HA HB T
  unfold tabV
  go_wp2_with fail
  generalize w2.alloc (.cells #[.slice (some ⟨g1, 0, none⟩) 1023 1023, .slice (some ⟨g2, 0, none⟩) 1024 1024] 27) = W at *
  generalize w2.heap.size = gt at *
  refine (div_any _ _ _ _ _ _ _ _ _ _ _ hla hlb _ TV.t.has HA1.out HB1.out (by omega) (by omega) hca hcb).mono ?_
  rintro e w3 ⟨aq, nq, ar, nr, rfl, rq, pq, rr, pr, lq, lr, k3⟩
  have lla := topB_le (cut p na) na
  have llq : nq ≤ 1000 := by unfold quoN at lq; omega
  have llr : nr ≤ 1000 := by omega
  have RQ := Lib.hid (rq.arg (by omega) pq.lt16)
  have RR := Lib.hid (rr.arg (by omega) pr.lt16)
  have PQ := Lib.hid pq
  have PR := Lib.hid pr
  have TV1 := TV.keep k3
  have HA := Lib.hid (HA1.out.keep k3)
  have HB := Lib.hid (HB1.out.keep k3)
  have K1 := k.comp k3
  clear lq lr rq rr pq pr TV HA1 HB1 k k3
  go_wp2_with fail
  refine (rdiv_any _ _ _ _ _ _ _ _ _ _ hla hlb _ HA.out HB.out (by omega) (by omega)).mono ?_
  rintro e w4 ⟨au, nu, av, nv, rfl, ru, pu, rv, pv, k4⟩
  obtain rfl := PQ.out.uniq pu
  obtain rfl := PR.out.uniq pv
  have RQ1 := Lib.hid (RQ.out.keep k4)
  have RR1 := Lib.hid (RR.out.keep k4)
  have RU := Lib.hid (ru.arg (by omega) pu.lt16)
  have RV := Lib.hid (rv.arg (by omega) pv.lt16)
  have HA1 := Lib.hid (HA.out.keep k4)
  have HB1 := Lib.hid (HB.out.keep k4)
  have TV2 := TV1.keep k4
  have K2 := K1.comp k4
  clear PQ PR pu pv ru rv RQ RR HA HB TV1 K1 k4
  generalize quo (cut p na) (topB (cut p na) na) (cut q nb) (topB (cut q nb) nb) = Q at *
  generalize rst (cut p na) (topB (cut p na) na) (cut q nb) (topB (cut q nb) nb) = R at *
  go_wp2_with fail
  refine (trim_any _ _ _ _ _ HA1.out (by omega) hca).mono ?_
  rintro e w5 ⟨a5, m5, rfl, r5, p5, l5, k5⟩
  have A5 := Lib.hid (r5.arg (by omega) p5.lt16)
  go_wp2_with fail
  refine (rtrim_any _ _ _ _ _ (HA1.out.keep k5) (by omega)).mono ?_
  rintro e w6 ⟨a6, m6, rfl, r6, p6, l6, k6⟩
  obtain rfl := p5.uniq p6
  have A6 := Lib.hid (r6.arg (by omega) p6.lt16)
  have A5' := Lib.hid (A5.out.keep k6)
  go_wp2_with fail
  refine (same_yes _ _ _ _ _ _ _ _ A5'.out A6.out (by omega) (fun _ _ => rfl)).mono ?_
  rintro e w7 ⟨rfl, k7⟩
  have k := (k5.comp k6).comp k7
  have K3 := K2.comp k
  have HA2 := Lib.hid (HA1.out.keep k)
  have HB2 := Lib.hid (HB1.out.keep k)
  have RQ2 := Lib.hid (RQ1.out.keep k)
  have RR2 := Lib.hid (RR1.out.keep k)
  have RU2 := Lib.hid (RU.out.keep k)
  have RV2 := Lib.hid (RV.out.keep k)
  have TV3 := TV2.keep k
  clear r5 p5 l5 k5 A5 A6 A5' r6 p6 l6 k6 k7 k K2 HA1 HB1 RQ1 RR1 RU RV TV2
  go_wp2_with fail
  refine (add_any _ _ _ _ _ _ _ _ _ HA2.out HB2.out (by omega) (by omega)).mono ?_
  rintro e w5 ⟨a5, m5, rfl, r5, p5, l5, k5⟩
  have A5 := Lib.hid (r5.arg (by omega) p5.lt16)
  have HA2' := Lib.hid (HA2.out.keep k5)
  have HB2' := Lib.hid (HB2.out.keep k5)
  go_wp2_with fail
  refine (radd_any _ _ _ _ _ _ _ _ _ HA2'.out HB2'.out (by omega) (by omega)).mono ?_
  rintro e w6 ⟨a6, m6, rfl, r6, p6, k6⟩
  obtain rfl := p5.uniq p6
  have A6 := Lib.hid (r6.arg (by omega) p6.lt16)
  have A5' := Lib.hid (A5.out.keep k6)
  go_wp2_with fail
  refine (same_yes _ _ _ _ _ _ _ _ A5'.out A6.out (by omega) (fun _ _ => rfl)).mono ?_
  rintro e w8 ⟨rfl, k7⟩
  have k := (k5.comp k6).comp k7
  have K4 := K3.comp k
  have HA3 := Lib.hid (HA2.out.keep k)
  have HB3 := Lib.hid (HB2.out.keep k)
  have RQ3 := Lib.hid (RQ2.out.keep k)
  have RR3 := Lib.hid (RR2.out.keep k)
  have RU3 := Lib.hid (RU2.out.keep k)
  have RV3 := Lib.hid (RV2.out.keep k)
  have TV4 := TV3.keep k
  clear r5 p5 l5 k5 A5 A6 A5' r6 p6 k6 k7 k K3 HA2 HB2 HA2' HB2' RQ2 RR2 RU2 RV2 TV3
  obtain ⟨d0, d1⟩ := tab_cells TV4.b
  go_wp2_with fail
  clear d0 d1
  refine (mul_any _ _ _ _ _ _ _ _ _ _ _ hla hlb _ TV4.t.has HA3.out HB3.out (by omega) (by omega) hca hcb).mono ?_
  rintro e w5 ⟨a5, m5, rfl, r5, p5, l5, k5⟩
  have A5 := Lib.hid (r5.arg (by omega) p5.lt16)
  have HA2' := Lib.hid (HA3.out.keep k5)
  have HB2' := Lib.hid (HB3.out.keep k5)
  go_wp2_with fail
  refine (rpmul_any _ _ _ _ _ _ _ _ _ _ hla hlb _ HA2'.out HB2'.out (by omega) (by omega)).mono ?_
  rintro e w6 ⟨a6, m6, rfl, r6, p6, k6⟩
  obtain rfl := p5.uniq p6
  have A6 := Lib.hid (r6.arg (by omega) p6.lt16)
  have A5' := Lib.hid (A5.out.keep k6)
  go_wp2_with fail
  refine (same_yes _ _ _ _ _ _ _ _ A5'.out A6.out (by omega) (fun _ _ => rfl)).mono ?_
  rintro e w9 ⟨rfl, k7⟩
  have k := (k5.comp k6).comp k7
  have K5 := K4.comp k
  have HA4 := Lib.hid (HA3.out.keep k)
  have RQ4 := Lib.hid (RQ3.out.keep k)
  have RR4 := Lib.hid (RR3.out.keep k)
  have RU4 := Lib.hid (RU3.out.keep k)
  have RV4 := Lib.hid (RV3.out.keep k)
  have TV5 := TV4.keep k
  clear r5 p5 l5 k5 A5 A6 A5' r6 p6 k6 k7 k K4 HA3 HB3 HA2' HB2' RQ3 RR3 RU3 RV3 TV4
  go_wp2_with fail
  refine (same_yes _ _ _ _ _ _ _ _ RQ4.out RU4.out (by omega) (fun _ _ => rfl)).mono ?_
  rintro e w10 ⟨rfl, k⟩
  have K6 := K5.comp k
  have HA5 := Lib.hid (HA4.out.keep k)
  have RR5 := Lib.hid (RR4.out.keep k)
  have RV5 := Lib.hid (RV4.out.keep k)
  have TV6 := TV5.keep k
  clear k K5 HA4 RR4 RV4 TV5 RQ4 RU4
  go_wp2_with fail
  refine (same_yes _ _ _ _ _ _ _ _ RR5.out RV5.out (by omega) (fun _ _ => rfl)).mono ?_
  rintro e w11 ⟨rfl, k⟩
  have K7 := K6.comp k
  have HA6 := Lib.hid (HA5.out.keep k)
  have TV7 := TV6.keep k
  clear k K6 HA5 TV6 RR5 RV5
  obtain ⟨d0, d1⟩ := tab_cells TV7.b
  go_wp2_with fail
  clear d0 d1
  refine (at_any _ _ _ _ _ _ _ TV7.t.has HA6.out).mono ?_
  rintro e w12 ⟨rfl, k⟩
  have K8 := K7.comp k
  have HA7 := Lib.hid (HA6.out.keep k)
  clear k K7 HA6 TV7
  go_wp2_with fail
  rw [and_1023 HX.out]
  refine (rat_any _ _ _ _ _ _ HA7.out (by omega) (by have := HX.out; omega)).mono ?_
  rw [Nat.mod_mod]
  rintro e w13 ⟨rfl, k⟩
  have K9 := K8.comp k
  have HA8 := Lib.hid (HA7.out.keep k)
  clear k K8 HA7
  generalize hor (cut p na) (x % 1024) 0 na = V at *
  have eV : ((V : Int) == (V : Int)) = true := by simp
  go_wp2_with fail
  refine (slope_any _ _ _ _ _ HA8.out (by omega)).mono ?_
  rintro e w5 ⟨a5, m5, rfl, r5, p5, l5, k5⟩
  have A5 := Lib.hid (r5.arg (by omega) p5.lt16)
  have HA2' := Lib.hid (HA8.out.keep k5)
  go_wp2_with fail
  refine (rslope_any _ _ _ _ _ HA2'.out (by omega)).mono ?_
  rintro e w6 ⟨a6, m6, rfl, r6, p6, k6⟩
  obtain rfl := p5.uniq p6
  have A6 := Lib.hid (r6.arg (by omega) p6.lt16)
  have A5' := Lib.hid (A5.out.keep k6)
  go_wp2_with fail
  refine (same_yes _ _ _ _ _ _ _ _ A5'.out A6.out (by omega) (fun _ _ => rfl)).mono ?_
  rintro e w9 ⟨rfl, k7⟩
  go_wp2_with fail
  go_ret
  exact ⟨rfl, ((K9.comp k5).comp k6).comp k7⟩

theorem reckons_of {H : Type} {enc : TypeId × Value → H} (w : World) {base b0 : Nat} {a b : Option Addr} {na nb ca cb : Nat} {d d' : DataW H} {ps ps' : List MemPlace} {sp sp' : Nat → Bool} (x : Int) (hx : (Lit.int .u16 x).wf = true)
    (ha : DataW.Trod enc Try.prog w base sp true 22 (.slice a na ca) d ps) (hb : DataW.Trod enc Try.prog w b0 sp' true 22 (.slice b nb cb) d' ps') :
    Calls Try.prog 6 #[.slice a na ca, .slice b nb cb, .int .u16 x] w fun e w' => e = .returned (.bool true) ∧ Keep (fun _ => False) w w' := by
  obtain ⟨p, hp, lp⟩ := argU_of ha
  obtain ⟨q, hq, lq⟩ := argU_of hb
  obtain ⟨x, rfl, lx⟩ := word_of hx
  exact reckons_true a b na nb ca cb x p q w hp hq lp lq lx
end Go.Proofs.Ytnpfncdfndabhaa
