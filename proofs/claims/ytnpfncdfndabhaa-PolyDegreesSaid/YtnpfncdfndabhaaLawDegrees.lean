/- blackboardlaw3.PolyDegrees. -/
import Derived.Test.YtnpfncdfndabhaaLawReckons
import Derived.Test.YtnpfncdfndabhaaPoly
namespace Go.Proofs.Ytnpfncdfndabhaa
open Go.ChangeShapes Go.WideShapes Go.ChangeAt Go.RowKit
attribute [local go_sem ↓] Go.wp_at_zero Go.wp_at_succ

set_option maxHeartbeats 8000000 in
theorem degrees_true (a b : Option Addr) (na nb ca cb : Nat) (p q : Nat → Nat) (w : World) (ha : na ≤ 1000000 → ArgU w a na p) (hb : nb ≤ 1000000 → ArgU w b nb q) (hca : na ≤ ca) (hcb : nb ≤ cb) :
    Calls Try.prog 5 #[.slice a na ca, .slice b nb cb] w fun e w' => e = .returned (.bool true) ∧ Keep (fun _ => False) w w' := by
  have HA' := Lib.hid ha
  have HB' := Lib.hid hb
  clear ha hb
  by_cases h1 : 100 < na
  · have e1 : (100 : Int) < (na : Int) := by omega
    go_enter Try.func5, Try.ntmps5
    go_wp2_with fail
    refine (awake_true _).mono ?_
    rintro e w1 ⟨rfl, k1⟩
    go_wp2_with fail
    go_ret
    exact ⟨rfl, k1⟩
  by_cases h2 : 100 < nb
  · have e1 : ¬ (100 : Int) < (na : Int) := by omega
    have e2 : (100 : Int) < (nb : Int) := by omega
    go_enter Try.func5, Try.ntmps5
    go_wp2_with fail
    refine (awake_true _).mono ?_
    rintro e w1 ⟨rfl, k1⟩
    go_wp2_with fail
    go_ret
    exact ⟨rfl, k1⟩
  have e1 : ¬ (100 : Int) < (na : Int) := by omega
  have e2 : ¬ (100 : Int) < (nb : Int) := by omega
  have HA := Lib.hid (HA'.out (by omega))
  have HB := Lib.hid (HB'.out (by omega))
  have hla : IsPol (cut p na) (topB (cut p na) na) := topB_pol (cut_lt p na) (fun i hi => cut_zero p hi)
  have hlb : IsPol (cut q nb) (topB (cut q nb) nb) := topB_pol (cut_lt q nb) (fun i hi => cut_zero q hi)
  have lla := topB_le (cut p na) na
  have llb := topB_le (cut q nb) nb
  generalize topB (cut p na) na = la at *
  generalize topB (cut q nb) nb = lb at *
  go_enter Try.func5, Try.ntmps5
  go_wp2_with fail
  refine (awake_true _).mono ?_
  rintro e w1 ⟨rfl, k1⟩
  go_wp2_with fail
  clear e1 e2
  refine (make_any _).mono ?_
  rintro e w2 ⟨g1, g2, rfl, T, _, _, k2⟩
  obtain ⟨TV, k3⟩ := TVar.new T
  have k := (k1.comp k2).comp k3
  have HA1 := Lib.hid (HA.out.keep k)
  have HB1 := Lib.hid (HB.out.keep k)
  clear k1 k2 k3 HA HB T HA' HB'
  unfold tabV
  go_wp2_with fail
  generalize w2.alloc (.cells #[.slice (some ⟨g1, 0, none⟩) 1023 1023, .slice (some ⟨g2, 0, none⟩) 1024 1024] 27) = W at *
  generalize w2.heap.size = gt at *
  refine (trim_any _ _ _ _ _ HA1.out (by omega) hca).mono ?_
  rintro e w3 ⟨aX, la', rfl, _, pX, _, k3⟩
  obtain rfl := hla.uniq pX
  have TV1 := TV.keep k3
  have HA := Lib.hid (HA1.out.keep k3)
  have HB := Lib.hid (HB1.out.keep k3)
  have K1 := k.comp k3
  clear pX TV HA1 HB1 k k3
  go_wp2_with fail
  refine (trim_any _ _ _ _ _ HB.out (by omega) hcb).mono ?_
  rintro e w4 ⟨aY, lb', rfl, _, pY, _, k3⟩
  obtain rfl := hlb.uniq pY
  have TV2 := TV1.keep k3
  have HA1 := Lib.hid (HA.out.keep k3)
  have HB1 := Lib.hid (HB.out.keep k3)
  have K2 := K1.comp k3
  clear pY TV1 HA HB K1 k3
  obtain ⟨d0, d1⟩ := tab_cells TV2.b
  go_wp2_with fail
  clear d0 d1
  refine (mul_any _ _ _ _ _ _ _ _ _ _ _ hla hlb _ TV2.t.has HA1.out HB1.out (by omega) (by omega) hca hcb).mono ?_
  rintro e w5 ⟨aM, lm, rfl, _, pM, _, k3⟩
  have hlm := pmulM_len hla hlb (by omega) pM
  have TV1 := TV2.keep k3
  have HA := Lib.hid (HA1.out.keep k3)
  have HB := Lib.hid (HB1.out.keep k3)
  have K1 := K2.comp k3
  clear pM TV2 HA1 HB1 K2 k3
  have Hlm := Lib.hid hlm
  clear hlm
  go_wp2_with fail
  refine (add_any _ _ _ _ _ _ _ _ _ HA.out HB.out (by omega) (by omega)).mono ?_
  rintro e w6 ⟨aS, ls, rfl, _, pS, _, k3⟩
  have Hls := Lib.hid (padd_len hla hlb pS)
  have Hne := Lib.hid (padd_len_ne hla hlb pS)
  have TV2 := TV1.keep k3
  have HA1 := Lib.hid (HA.out.keep k3)
  have HB1 := Lib.hid (HB.out.keep k3)
  have K2 := K1.comp k3
  clear pS TV1 HA HB K1 k3
  obtain ⟨d0, d1⟩ := tab_cells TV2.b
  by_cases hb0 : lb = 0
  · subst hb0
    by_cases ha0 : la = 0
    · subst ha0
      obtain rfl : lm = 0 := by have := Hlm.out; simpa using this
      obtain rfl : ls = 0 := by have := Hls.out; omega
      go_wp2_with fail
      clear d0 d1 
      refine (div_any _ _ _ _ _ _ _ _ _ _ _ hla hlb _ TV2.t.has HA1.out HB1.out (by omega) (by omega) hca hcb).mono ?_
      rintro e w7 ⟨aq, nq, ar, nr, rfl, _, pq, _, pr, _, _, k3⟩
      have K3 := K2.comp k3
      obtain rfl : nq = 0 := by
        rw [show quo (cut p na) _ (cut q nb) 0 = fun _ => 0 from if_pos rfl] at pq
        exact pq.uniq pol_none
      obtain rfl : nr = 0 := by
        rw [show rst (cut p na) _ (cut q nb) 0 = fun _ => 0 from if_pos rfl] at pr
        exact pr.uniq pol_none
      have o1 : ((0 : Nat) != 0) = false := rfl
      go_wp2_with fail
      go_ret
      exact ⟨rfl, K3⟩
    · obtain rfl : lm = 0 := by have := Hlm.out; simpa using this
      obtain rfl : la = ls := by have := Hne.out ha0; omega
      have f1 : (0 : Int) < (la : Int) := by omega
      have f2 : ((la : Int) == 0) = false := beq_eq_false_iff_ne.2 (by omega)
      have f3 : ¬ (la : Int) < 0 := by omega
      go_wp2_with fail
      clear d0 d1 f1 f2 f3
      refine (div_any _ _ _ _ _ _ _ _ _ _ _ hla hlb _ TV2.t.has HA1.out HB1.out (by omega) (by omega) hca hcb).mono ?_
      rintro e w7 ⟨aq, nq, ar, nr, rfl, _, pq, _, pr, _, _, k3⟩
      have K3 := K2.comp k3
      obtain rfl : nq = 0 := by
        rw [show quo (cut p na) _ (cut q nb) 0 = fun _ => 0 from if_pos rfl] at pq
        exact pq.uniq pol_none
      obtain rfl : nr = 0 := by
        rw [show rst (cut p na) _ (cut q nb) 0 = fun _ => 0 from if_pos rfl] at pr
        exact pr.uniq pol_none
      have o1 : ((0 : Nat) != 0) = false := rfl
      go_wp2_with fail
      go_ret
      exact ⟨rfl, K3⟩
  · by_cases ha0 : la = 0
    · subst ha0
      obtain rfl : lm = 0 := by have := Hlm.out; simpa using this
      obtain rfl : lb = ls := by have := Hne.out (Ne.symm hb0); omega
      have f1 : (0 : Int) < (lb : Int) := by omega
      have f2 : ((0 : Int) == (lb : Int)) = false := beq_eq_false_iff_ne.2 (by omega)
      have f3 : ((lb : Int) == 0) = false := beq_eq_false_iff_ne.2 (by omega)
      go_wp2_with fail
      clear d0 d1 f1 f2 f3
      refine (div_any _ _ _ _ _ _ _ _ _ _ _ hla hlb _ TV2.t.has HA1.out HB1.out (by omega) (by omega) hca hcb).mono ?_
      rintro e w7 ⟨aq, nq, ar, nr, rfl, _, pq, _, pr, _, _, k3⟩
      have K3 := K2.comp k3
      have hnq := pq.uniq (quo_pol hla hlb (by omega))
      have hnr := rst_len hla hlb (by omega) pr
      have o1 : (lb != 0) = true := by simpa using hb0
      have o2 : (nr : Int) < (lb : Int) := by omega
      obtain rfl : nq = 0 := by unfold quoN at hnq; omega
      have o5 : ¬ (0 : Int) < -(lb : Int) + 1 := by omega
      clear hnq hnr
      go_wp2_with fail
      go_ret
      exact ⟨rfl, K3⟩
    · by_cases hab : la = lb
      · subst hab
        have f0 : lm = la + la - 1 := by have := Hlm.out; rw [if_neg (by omega)] at this; omega
        have f1 : (0 : Int) < (la : Int) := by omega
        have f2 : (la : Int) + (la : Int) - 1 = (lm : Int) := by omega
        have f3 : ¬ (la : Int) < (ls : Int) := by have := Hls.out; omega
        clear f0
        go_wp2_with fail
        clear d0 d1 f1 f2 f3
        refine (div_any _ _ _ _ _ _ _ _ _ _ _ hla hlb _ TV2.t.has HA1.out HB1.out (by omega) (by omega) hca hcb).mono ?_
        rintro e w7 ⟨aq, nq, ar, nr, rfl, _, pq, _, pr, _, _, k3⟩
        have K3 := K2.comp k3
        have hnq := pq.uniq (quo_pol hla hlb (by omega))
        have hnr := rst_len hla hlb (by omega) pr
        have o1 : (la != 0) = true := by simpa using hb0
        have o2 : (nr : Int) < (la : Int) := by omega
        obtain rfl : nq = 1 := by unfold quoN at hnq; omega
        clear hnq hnr
        go_wp2_with fail
        go_ret
        exact ⟨rfl, K3⟩
      · by_cases hlt : la < lb
        · obtain rfl : lb = ls := by have := Hne.out hab; omega
          have f0 : lm = la + lb - 1 := by have := Hlm.out; rw [if_neg (by omega)] at this; omega
          have f1 : (0 : Int) < (la : Int) := by omega
          have f2 : (0 : Int) < (lb : Int) := by omega
          have f3 : (la : Int) + (lb : Int) - 1 = (lm : Int) := by omega
          have f4 : ((la : Int) == (lb : Int)) = false := beq_eq_false_iff_ne.2 (by omega)
          have f5 : (la : Int) < (lb : Int) := by omega
          clear f0 hlt
          go_wp2_with fail
          clear d0 d1 f1 f2 f3 f4 f5
          refine (div_any _ _ _ _ _ _ _ _ _ _ _ hla hlb _ TV2.t.has HA1.out HB1.out (by omega) (by omega) hca hcb).mono ?_
          rintro e w7 ⟨aq, nq, ar, nr, rfl, _, pq, _, pr, _, _, k3⟩
          have K3 := K2.comp k3
          have hnq := pq.uniq (quo_pol hla hlb (by omega))
          have hnr := rst_len hla hlb (by omega) pr
          have o1 : (lb != 0) = true := by simpa using hb0
          have o2 : (nr : Int) < (lb : Int) := by omega
          have o3 : (if 0 < (la : Int) - (lb : Int) + 1 then (la : Int) - (lb : Int) + 1 else 0) = (nq : Int) := by unfold quoN at hnq; split <;> omega
          have o4 : (if (la : Int) - (lb : Int) + 1 < 0 then 0 else (la : Int) - (lb : Int) + 1) = (nq : Int) := by unfold quoN at hnq; split <;> omega
          clear hnq hnr
          go_wp2_with fail
          go_ret
          exact ⟨rfl, K3⟩
        · obtain rfl : la = ls := by have := Hne.out hab; omega
          have f0 : lm = la + lb - 1 := by have := Hlm.out; rw [if_neg (by omega)] at this; omega
          have f1 : (0 : Int) < (la : Int) := by omega
          have f2 : (0 : Int) < (lb : Int) := by omega
          have f3 : (la : Int) + (lb : Int) - 1 = (lm : Int) := by omega
          have f4 : ((la : Int) == (lb : Int)) = false := beq_eq_false_iff_ne.2 (by omega)
          have f5 : ¬ (la : Int) < (lb : Int) := by omega
          clear f0 hlt
          go_wp2_with fail
          clear d0 d1 f1 f2 f3 f4 f5
          refine (div_any _ _ _ _ _ _ _ _ _ _ _ hla hlb _ TV2.t.has HA1.out HB1.out (by omega) (by omega) hca hcb).mono ?_
          rintro e w7 ⟨aq, nq, ar, nr, rfl, _, pq, _, pr, _, _, k3⟩
          have K3 := K2.comp k3
          have hnq := pq.uniq (quo_pol hla hlb (by omega))
          have hnr := rst_len hla hlb (by omega) pr
          have o1 : (lb != 0) = true := by simpa using hb0
          have o2 : (nr : Int) < (lb : Int) := by omega
          have o3 : (if 0 < (la : Int) - (lb : Int) + 1 then (la : Int) - (lb : Int) + 1 else 0) = (nq : Int) := by unfold quoN at hnq; split <;> omega
          have o4 : (if (la : Int) - (lb : Int) + 1 < 0 then 0 else (la : Int) - (lb : Int) + 1) = (nq : Int) := by unfold quoN at hnq; split <;> omega
          have o7 : ((nq : Int) == (la : Int) - (lb : Int) + 1) = true := by unfold quoN at hnq; rw [beq_iff_eq]; omega
          clear hnq hnr
          go_wp2_with fail
          go_ret
          exact ⟨rfl, K3⟩

theorem degrees_of {H : Type} {enc : TypeId × Value → H} (w : World) {base b0 : Nat} {a b : Option Addr} {na nb ca cb : Nat} {d d' : DataW H} {ps ps' : List MemPlace} {sp sp' : Nat → Bool}
    (ha : DataW.Trod enc Try.prog w base sp true 22 (.slice a na ca) d ps) (hb : DataW.Trod enc Try.prog w b0 sp' true 22 (.slice b nb cb) d' ps') :
    Calls Try.prog 5 #[.slice a na ca, .slice b nb cb] w fun e w' => e = .returned (.bool true) ∧ Keep (fun _ => False) w w' := by
  obtain ⟨p, hp, lp⟩ := argU_of ha
  obtain ⟨q, hq, lq⟩ := argU_of hb
  exact degrees_true a b na nb ca cb p q w hp hq lp lq
end Go.Proofs.Ytnpfncdfndabhaa
