/- drive.Format. -/
import Derived.Test.YtdjgjffgheocfaaGreatDrv3
namespace Go.Proofs.YtdjgjffgheocfaaGreat
open Go.RowKit

/-- The chip when b of its blocks were wiped. -/
def fmC (C : ChipS) : Nat → ChipS
  | 0 => C
  | b + 1 => if C.bad b = true then (fmC C b).tick else (fmC C b).tick.tick.wiped b C.P
theorem fmC_same (C : ChipS) : ∀ b, (fmC C b).B = C.B ∧ (fmC C b).P = C.P ∧ (fmC C b).W = C.W ∧ (fmC C b).K = C.K ∧ (fmC C b).bad = C.bad ∧ (fmC C b).bk = C.bk ∧ (fmC C b).F = C.F ∧ (fmC C b).dark = C.dark ∧ (fmC C b).ops ≤ C.ops + 2 * b ∧ (fmC C b).rf = C.rf
  | 0 => ⟨rfl, rfl, rfl, rfl, rfl, rfl, rfl, rfl, Nat.le_refl _, rfl⟩
  | b + 1 => by
    obtain ⟨h1, h2, h3, h4, h5, h6, h7, h8, h9, h10⟩ := fmC_same C b
    unfold fmC
    split
    · exact ⟨h1, h2, h3, h4, h5, h6, h7, h8, by show (fmC C b).ops + 1 ≤ _; omega, h10⟩
    · exact ⟨h1, h2, h3, h4, h5, h6, h7, h8, by show (fmC C b).ops + 1 + 1 ≤ _; omega, h10⟩
theorem fmC_used (C : ChipS) : ∀ b x, CR.used (fmC C b) x → CR.used C x
  | 0, _, h => h
  | b + 1, x, h => by
    unfold fmC at h
    split at h
    · exact fmC_used C b x (used_tick h)
    · exact fmC_used C b x (used_tick (used_tick (used_wiped h)))
theorem fmC_blank (C : ChipS) (h : ∀ i j, C.pg i j = PgS.blank) : ∀ b i j, (fmC C b).pg i j = PgS.blank
  | 0, i, j => h i j
  | b + 1, i, j => by
    have ih := fmC_blank C h b i j
    unfold fmC
    split
    · exact ih
    · show (if i = b ∧ j < C.P then PgS.blank else (fmC C b).pg i j) = PgS.blank
      split
      · rfl
      · exact ih
/-- How many blocks are bad. -/
def badN (bad : Nat → Bool) : Nat → Nat
  | 0 => 0
  | b + 1 => if bad b = true then badN bad b + 1 else badN bad b
theorem badN_le (bad : Nat → Bool) : ∀ b, badN bad b ≤ b
  | 0 => Nat.le_refl _
  | b + 1 => by
    have := badN_le bad b
    unfold badN
    split <;> omega
def fmD (bad : Nat → Bool) (s L b : Nat) : DrvS :=
  ⟨s, badN bad b, 0, L, fun _ => 0, fun _ => 0, fun _ => false, fun _ => none, fun _ => none, fun k => if k < b ∧ bad k = true then 4 else 1, fun k => if k < b ∧ bad k = false then 1 else 0, -1, 0, 0, decide (s < badN bad b), false⟩
theorem fmD_zero (bad : Nat → Bool) (s L : Nat) : DrvS.new s L = fmD bad s L 0 := by
  unfold DrvS.new fmD
  have e1 : (fun k => if k < 0 ∧ bad k = true then 4 else 1 : Nat → Nat) = fun _ => 1 := funext fun k => if_neg (by omega)
  have e2 : (fun k => if k < 0 ∧ bad k = false then 1 else 0 : Nat → Nat) = fun _ => 0 := funext fun k => if_neg (by omega)
  rw [e1, e2]
  rfl
theorem fmD_bad (bad : Nat → Bool) (s L b : Nat) (h : bad b = true) :
    { fmD bad s L b with st := updN (fmD bad s L b).st b 4, lost := (fmD bad s L b).lost + 1, ro := (fmD bad s L b).ro || decide ((fmD bad s L b).sp < (fmD bad s L b).lost + 1) } = fmD bad s L (b + 1) := by
  have e1 : updN (fun k => if k < b ∧ bad k = true then 4 else 1) b 4 = fun k => if k < b + 1 ∧ bad k = true then 4 else 1 := funext fun k => by
    show (if k = b then 4 else if k < b ∧ bad k = true then 4 else 1) = if k < b + 1 ∧ bad k = true then 4 else 1
    by_cases e : k = b
    · rw [if_pos e, if_pos ⟨by omega, by rw [e]; exact h⟩]
    · rw [if_neg e]
      by_cases e2 : k < b ∧ bad k = true
      · rw [if_pos e2, if_pos ⟨by omega, e2.2⟩]
      · rw [if_neg e2, if_neg (fun x => e2 ⟨by omega, x.2⟩)]
  have e2 : (fun k => if k < b ∧ bad k = false then 1 else 0 : Nat → Nat) = fun k => if k < b + 1 ∧ bad k = false then 1 else 0 := funext fun k => by
    by_cases e : k = b
    · rw [e, if_neg (by omega), if_neg (by rw [h]; simp)]
    · by_cases e2 : k < b ∧ bad k = false
      · rw [if_pos e2, if_pos ⟨by omega, e2.2⟩]
      · rw [if_neg e2, if_neg (fun x => e2 ⟨by omega, x.2⟩)]
  have e3 : badN bad (b + 1) = badN bad b + 1 := if_pos h
  have e4 : (decide (s < badN bad b) || decide (s < badN bad b + 1)) = decide (s < badN bad b + 1) := by
    by_cases e : s < badN bad b
    · rw [decide_eq_true e, decide_eq_true (show s < badN bad b + 1 by omega)]
      rfl
    · rw [decide_eq_false e, Bool.false_or]
  show (⟨s, badN bad b + 1, 0, L, _, _, _, _, _, updN (fun k => if k < b ∧ bad k = true then 4 else 1) b 4, _, -1, 0, 0, decide (s < badN bad b) || decide (s < badN bad b + 1), false⟩ : DrvS) = _
  unfold fmD
  rw [e1, e4, ← e2, e3]
theorem fmD_good (bad : Nat → Bool) (s L b : Nat) (h : bad b = false) :
    { fmD bad s L b with st := freeSt (fmD bad s L b).st b, er := updN (fmD bad s L b).er b ((fmD bad s L b).er b + 1) } = fmD bad s L (b + 1) := by
  have hb : (fmD bad s L b).st b = 1 := if_neg (by omega)
  have e0 : freeSt (fmD bad s L b).st b = (fmD bad s L b).st := by
    unfold freeSt
    rw [hb]
    rfl
  have he : (fmD bad s L b).er b = 0 := if_neg (by omega)
  have e1 : (fun k => if k < b ∧ bad k = true then 4 else 1 : Nat → Nat) = fun k => if k < b + 1 ∧ bad k = true then 4 else 1 := funext fun k => by
    by_cases e : k = b
    · rw [e, if_neg (by omega), if_neg (by rw [h]; simp)]
    · by_cases e2 : k < b ∧ bad k = true
      · rw [if_pos e2, if_pos ⟨by omega, e2.2⟩]
      · rw [if_neg e2, if_neg (fun x => e2 ⟨by omega, x.2⟩)]
  have e2 : updN (fun k => if k < b ∧ bad k = false then 1 else 0) b 1 = fun k => if k < b + 1 ∧ bad k = false then 1 else 0 := funext fun k => by
    show (if k = b then 1 else if k < b ∧ bad k = false then 1 else 0) = if k < b + 1 ∧ bad k = false then 1 else 0
    by_cases e : k = b
    · rw [if_pos e, if_pos ⟨by omega, by rw [e]; exact h⟩]
    · rw [if_neg e]
      by_cases e2 : k < b ∧ bad k = false
      · rw [if_pos e2, if_pos ⟨by omega, e2.2⟩]
      · rw [if_neg e2, if_neg (fun x => e2 ⟨by omega, x.2⟩)]
  have e3 : badN bad (b + 1) = badN bad b := if_neg (by rw [h]; simp)
  rw [e0, he]
  show (⟨s, badN bad b, 0, L, _, _, _, _, _, fun k => if k < b ∧ bad k = true then 4 else 1, updN (fun k => if k < b ∧ bad k = false then 1 else 0) b 1, -1, 0, 0, decide (s < badN bad b), false⟩ : DrvS) = _
  unfold fmD
  rw [e1, e2, e3]
set_option maxRecDepth 100000 in
set_option maxHeartbeats 2000000 in
theorem format_ok (num : CR → Nat) (C : ChipS) (w : World) (hM : ChipM num w C) (s : Nat) (hs : s ≤ C.B) (hL : 0 < lpN C.B C.P s) (hd : C.dark = false) (hops : C.ops ≤ 1000000) (hF : ∀ n, C.F n = none) (hbk : ∀ i, C.bk i = false) :
    Calls Tryz.prog 13 #[.pointer (some ⟨num .chip, 0, none⟩), .int .i64 s] w fun e w' => ∃ r : DR, e = .returned (.tuple #[.pointer (some ⟨r.db, 0, none⟩), .int .i64 0]) ∧
      ChipM num w' (fmC C C.B) ∧ DrvM r (num .chip) C.B C.P C.W C.K (fmD C.bad s (lpN C.B C.P s) C.B) w' ∧ (∀ k, drvB r k → w.heap.size ≤ k) ∧ Keep (Own num C) w w' := by
  obtain ⟨s0, s1, s2, s3, s4, s5, s6, s7, s8⟩ := hM.small
  have hmd := Lib.hid (made_ok num C w hM s hs hL)
  have HM := Lib.hid hM
  have HF := Lib.hid (And.intro hd (And.intro hops (And.intro hF hbk)))
  obtain ⟨L, hLe⟩ : ∃ L, L = lpN C.B C.P s := ⟨_, rfl⟩
  rw [← hLe] at hmd ⊢
  clear hLe
  clear hM hs hL hd hops hF hbk s2 s3 s4 s5 s6 s7 s8
  go_enter Tryz.func13, Tryz.ntmps13
  go_wp2_with fail
  refine hmd.out.mono ?_
  rintro e w1 ⟨r, rfl, h1, hlo, k1⟩
  rw [fmD_zero C.bad] at h1
  have hap0 : DApart r num C := fun k hk ⟨x, hx, e⟩ => by
    have := HM.out.lt x hx
    have := hlo k hk
    omega
  have hap : ∀ b, DApart r num (fmC C b) := fun b k hk ⟨x, hx, e⟩ => hap0 k hk ⟨x, fmC_used C b x hx, e⟩
  have HA := Lib.hid hap
  have HLO := Lib.hid hlo
  have K1 := Lib.hid k1
  have HD := Lib.hid h1
  have c3 := h1.hc.c3
  have HM1 := Lib.hid (HM.out.keepF k1)
  clear hap0 hap h1 hlo k1 hmd
  go_wp2_with fail
  clear c3
  go_loopw [26] (fun v wr => ∃ b : Nat, b ≤ C.B ∧ v = .int .i64 b ∧ ChipM num wr (fmC C b) ∧ DrvM r (num .chip) C.B C.P C.W C.K (fmD C.bad s L b) wr ∧ Keep (dcB r num C) w1 wr) (fun v _ => C.B - (intOf v).toNat)
  case atStart => exact ⟨0, by omega, rfl, HM1.out, HD.out, Keep.refl _ _⟩
  case round =>
    obtain ⟨b, hb, rfl, hm, hD, hk⟩ := hrel
    by_cases hbB : b < C.B
    · have hbB' : (b : Int) < (C.B : Int) := by omega
      obtain ⟨q1, q2, q3, q4, q5, q6, q7, q8, q9, q10⟩ := fmC_same C b
      obtain ⟨f1, f2, f3, f4⟩ := HF.out
      have hmk := marked_ok num (fmC C b) wr hm (by rw [q8]; exact f1) (by omega) 0 0 0 (by rw [q7, f3]; rfl) (by omega) b (by rw [q1]; exact hbB)
      rw [q5] at hmk
      have HMK := Lib.hid hmk
      have HDD := Lib.hid hD
      have HKK := Lib.hid hk
      have hsub : ∀ k, Own num (fmC C b) k → dcB r num C k := fun k ⟨x, hx, e⟩ => .inr ⟨x, fmC_used C b x hx, e⟩
      have HSUB := Lib.hid hsub
      have HQ := Lib.hid (fmC_same C b)
      clear hm hD hk hmk hsub q1 q2 q3 q4 q5 q6 q7 q8 q9 q10 f1 f2 f3 f4
      obtain ⟨bad, hbad⟩ : ∃ bad, bad = C.bad b := ⟨_, rfl⟩
      rw [← hbad] at HMK
      have HBAD := Lib.hid hbad
      clear hbad
      cases bad
      · go_wp2_with fail
        refine HMK.out.mono ?_
        rintro e w2 ⟨rfl, hm2, k2⟩
        have hd2 := HDD.out.keep k2 (HA.out b)
        obtain ⟨q1, q2, q3, q4, q5, q6, q7, q8, q9, q10⟩ := HQ.out
        obtain ⟨f1, f2, f3, f4⟩ := HF.out
        have hwp := wipe_ok r num (fmC C b).tick (fmD C.bad s L b) w2 hm2 (by show DrvM r (num .chip) (fmC C b).B (fmC C b).P (fmC C b).W (fmC C b).K _ w2; rw [q1, q2, q3, q4]; exact hd2) (HA.out b).tick (by show (fmC C b).dark = false; rw [q8]; exact f1) (by show (fmC C b).ops + 1 < _; omega) (by show (fmC C b).F _ = none; rw [q7, f3]) b (by show b < (fmC C b).B; rw [q1]; exact hbB) (by show (fmC C b).bad b = false; rw [q5]; exact HBAD.out.symm) (by show (fmC C b).bk b = false; rw [q6, f4]) (by show (if b < b ∧ C.bad b = false then 1 else 0) < _; rw [if_neg (by omega)]; omega)
        have HWP := Lib.hid hwp
        have K2 := Lib.hid (HKK.out.trans k2 (fun i e => .inl (HSUB.out i e)))
        clear hm2 k2 hd2 hwp HMK HDD HKK q1 q2 q3 q4 q5 q6 q7 q8 q9 q10 f1 f2 f3 f4
        go_wp2_with fail
        refine HWP.out.mono ?_
        rintro e w3 ⟨rfl, hm3, hd3, k3⟩
        have HE := Lib.hid (show ChipM num w3 (fmC C (b + 1)) ∧ DrvM r (num .chip) C.B C.P C.W C.K (fmD C.bad s L (b + 1)) w3 ∧ Keep (dcB r num C) w1 w3 from by
          obtain ⟨q1, q2, q3, q4, q5, q6, q7, q8, q9, q10⟩ := HQ.out
          have e1 : fmC C (b + 1) = (fmC C b).tick.tick.wiped b C.P := if_neg (by rw [← HBAD.out]; simp)
          change ChipM num w3 ((fmC C b).tick.tick.wiped b (fmC C b).P) at hm3
          change DrvM r (num .chip) (fmC C b).B (fmC C b).P (fmC C b).W (fmC C b).K _ w3 at hd3
          rw [q2] at hm3
          rw [q1, q2, q3, q4, fmD_good C.bad s L b HBAD.out.symm] at hd3
          refine ⟨by rw [e1]; exact hm3, hd3, K2.out.trans k3 (fun i e => .inl ?_)⟩
          rcases e with e | ⟨x, hx, e⟩
          · exact .inl e
          · exact HSUB.out i ⟨x, used_tick hx, e⟩)
        clear hm3 hd3 k3 HWP K2
        go_wp2_with fail
        go_roundw
        case rel => exact ⟨b + 1, by omega, by go_num, HE.out⟩
        case measure => simp [intOf]; omega
      · go_wp2_with fail
        refine HMK.out.mono ?_
        rintro e w2 ⟨rfl, hm2, k2⟩
        have hd2 := HDD.out.keep k2 (HA.out b)
        have hls := lose_ok r (num .chip) C.B C.P C.W C.K (fmD C.bad s L b) w2 hd2 b hbB (by show (if b < b ∧ C.bad b = true then 4 else 1) ≠ 4; rw [if_neg (by omega)]; omega) (by show badN C.bad b < _; have := badN_le C.bad b; omega)
        rw [fmD_bad C.bad s L b HBAD.out.symm] at hls
        have HLS := Lib.hid hls
        have HM2 := Lib.hid hm2
        have K2 := Lib.hid (HKK.out.trans k2 (fun i e => .inl (HSUB.out i e)))
        clear hm2 k2 hd2 hls HMK HDD HKK
        go_wp2_with fail
        refine HLS.out.mono ?_
        rintro e w3 ⟨rfl, hd3, k3⟩
        have HE := Lib.hid (show ChipM num w3 (fmC C (b + 1)) ∧ DrvM r (num .chip) C.B C.P C.W C.K (fmD C.bad s L (b + 1)) w3 ∧ Keep (dcB r num C) w1 w3 from by
          have e1 : fmC C (b + 1) = (fmC C b).tick := if_pos HBAD.out.symm
          have hS : ∀ k, (k = r.db ∨ k = r.y.sb) → drvB r k := fun k e => by rcases e with e | e <;> rw [e] <;> simp [drvB]
          exact ⟨by rw [e1]; exact HM2.out.off (HA.out b).tick k3 hS, hd3, K2.out.trans k3 (fun i e => .inl (.inl (hS i e)))⟩)
        clear hd3 k3 HLS K2 HM2
        go_wp2_with fail
        go_roundw
        case rel => exact ⟨b + 1, by omega, by go_num, HE.out⟩
        case measure => simp [intOf]; omega
    · obtain rfl : b = C.B := by omega
      have hbB' : ¬ (C.B : Int) < (C.B : Int) := by omega
      have HE := Lib.hid (And.intro hm (And.intro hD (show Keep (Own num C) w wr from (K1.out.more (fun _ e => e.elim) : Keep (Own num C) w w1).trans hk (fun i e => by
        rcases e with e | e
        · exact .inr (HLO.out i e)
        · exact .inl e))))
      clear hm hD hk
      go_wp2_with fail
      go_ret2
      exact ⟨r, rfl, HE.out.1, HE.out.2.1, HLO.out, HE.out.2.2⟩
end Go.Proofs.YtdjgjffgheocfaaGreat
