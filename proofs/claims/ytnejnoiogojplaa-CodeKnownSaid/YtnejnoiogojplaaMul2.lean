/- poly.Mul. -/
import Derived.Test.YtnejnoiogojplaaMul
import Derived.Test.YtnejnoiogojplaaKeptTail
namespace Go.Proofs.Ytnejnoiogojplaa
open Go.RowKit
attribute [local go_sem ↓] Go.wp_at_zero Go.wp_at_succ

theorem tmul_lt (V : Value) (a b : Nat) (w : World) (hT : HasT w V) (ha : a < 1024) (hb : b < 1024) :
    Calls Try.prog 23 #[V, .int .u16 a, .int .u16 b] w fun e w' => e = .returned (.int .u16 (gm a b : Nat)) ∧ Keep (fun _ => False) w w' := by
  have := tmul_any V a b w hT
  rwa [Nat.mod_eq_of_lt ha, Nat.mod_eq_of_lt hb] at this
theorem fadd_lt (a b : Nat) (w : World) (ha : a < 1024) (hb : b < 1024) :
    Calls Try.prog 51 #[.int .u16 a, .int .u16 b] w fun e w' => e = .returned (.int .u16 (a ^^^ b : Nat)) ∧ w = w' := by
  have := fadd_any a b w (by omega) (by omega)
  rwa [Nat.mod_eq_of_lt (xor_lt ha hb)] at this

theorem fadd_kept (a b : Nat) (w : World) (ha : a < 1024) (hb : b < 1024) :
    Calls Try.prog 51 #[.int .u16 a, .int .u16 b] w fun e w' => e = .returned (.int .u16 (a ^^^ b : Nat)) ∧ Keep (fun _ => False) w w' :=
  (fadd_lt a b w ha hb).mono fun _ _ ⟨he, hw⟩ => ⟨he, by subst hw; exact Keep.refl _ _⟩

theorem pol_none : IsPol (fun _ => 0) 0 := ⟨fun _ => by omega, fun _ _ => rfl, fun h => by omega⟩
/-- The product of what two rows say; none, if it is too long. -/
def pmulM (f : Nat → Nat) (la : Nat) (g : Nat → Nat) (lb : Nat) : Nat → Nat := if la = 0 ∨ lb = 0 ∨ 4097 < la + lb then fun _ => 0 else pmul f g
def mulMid (f g : Nat → Nat) (i j : Nat) : Nat → Nat := fun k => pacc f g i k ^^^ (if i ≤ k ∧ k < i + j then gm (f i) (g (k - i)) else 0)
theorem mulMid_lt {f g : Nat → Nat} (hf : ∀ i, f i < 1024) (i j k : Nat) : mulMid f g i j k < 1024 := by
  refine xor_lt (pacc_lt hf i k) ?_
  split
  · exact gm_lt (hf i) _
  · omega
theorem mulMid_start (f g : Nat → Nat) (i : Nat) : mulMid f g i 0 = fun k => pacc f g i k := by
  funext k
  unfold mulMid
  rw [if_neg (by omega), Nat.xor_zero]
theorem mulMid_next (f g : Nat → Nat) (i j k : Nat) : mulMid f g i (j + 1) k = if k = i + j then mulMid f g i j (i + j) ^^^ gm (f i) (g j) else mulMid f g i j k := by
  unfold mulMid
  by_cases e : k = i + j
  · subst e
    rw [if_pos ⟨by omega, by omega⟩, if_pos rfl, if_neg (by omega), Nat.xor_zero, Nat.add_sub_cancel_left]
  · rw [if_neg e]
    by_cases h : i ≤ k ∧ k < i + j
    · rw [if_pos h, if_pos ⟨h.1, by omega⟩]
    · rw [if_neg h, if_neg (by omega)]
theorem mulMid_row {f g : Nat → Nat} {lb : Nat} (hg : ∀ i, lb ≤ i → g i = 0) (i : Nat) : mulMid f g i lb = fun k => pacc f g (i + 1) k := by
  funext k
  unfold mulMid pacc
  rw [xs]
  congr 1
  by_cases h : i ≤ k
  · rw [if_pos h]
    by_cases h2 : k < i + lb
    · rw [if_pos ⟨h, h2⟩]
    · rw [if_neg (by omega), hg (k - i) (by omega), gm_zero_right]
  · rw [if_neg h, if_neg (by omega)]

set_option maxHeartbeats 4000000 in
set_option maxRecDepth 100000 in
theorem mul_any (V : Value) (a b : Option Addr) (na nb ca cb : Nat) (p q : Nat → Nat) (la lb : Nat) (hla : IsPol (cut p na) la) (hlb : IsPol (cut q nb) lb) (w : World) (hT : HasT w V) (ha : ArgU w a na p) (hb : ArgU w b nb q)
    (hna : na ≤ 1000000) (hnb : nb ≤ 1000000) (hca : na ≤ ca) (hcb : nb ≤ cb) :
    Calls Try.prog 31 #[V, .slice a na ca, .slice b nb cb] w fun e w' => ∃ a' m, e = .returned (.slice a' m m) ∧ ResU w' w.heap.size a' m (pmulM (cut p na) la (cut q nb) lb) ∧
      IsPol (pmulM (cut p na) la (cut q nb) lb) m ∧ m ≤ 4096 ∧ Keep (fun _ => False) w w' := by
  have k0 := Keep.refl (fun _ => False) w
  obtain ⟨a1, n1, c1, a2, n2, c2, rfl⟩ := hT.form
  have b0 := Blk.new w 27 #[.slice a1 n1 c1, .slice a2 n2 c2]
  have k1 := k0.alloc (.cells #[.slice a1 n1 c1, .slice a2 n2 c2] 27)
  have HT := Lib.hid (hT.keep k1)
  have HA := Lib.hid (ha.keep k1)
  have HB := Lib.hid (hb.keep k1)
  have hla0 := Lib.hid hla
  have hlb0 := Lib.hid hlb
  clear hT ha hb k0 hla hlb
  go_enter Try.func31, Try.ntmps31
  go_wp2_with fail
  refine (trim_any _ _ _ _ _ HA.out hna hca).mono ?_
  rintro e w1 ⟨aA, la', rfl, rA, pA, lA, k2⟩
  obtain rfl := hla0.out.uniq pA
  have T1 := Lib.hid (HT.out.keep k2)
  have B1 := Lib.hid (HB.out.keep k2)
  have b1 := b0.keep k2 (by simp)
  have kk1 := k1.trans k2 (fun _ hi => .inl hi)
  clear HT HB HA b0 k1 k2
  go_wp2_with fail
  refine (trim_any _ _ _ _ _ B1.out hnb hcb).mono ?_
  rintro e w2 ⟨aB, lb', rfl, rB, pB, lB, k2⟩
  obtain rfl := hlb0.out.uniq pB
  have T2 := Lib.hid (T1.out.keep k2)
  have HA := Lib.hid ((rA.keep k2).arg (by omega) pA.lt16)
  have HB := Lib.hid (rB.arg (by omega) pB.lt16)
  have b2 := b1.keep k2 (by simp)
  have kk2 := kk1.trans k2 (fun _ hi => .inl hi)
  have hfl := Lib.hid pA.lt
  have hgl := Lib.hid pB.lt
  have hfz := Lib.hid pA.zero
  have hgz := Lib.hid pB.zero
  clear T1 B1 b1 kk1 k2 rA rB pA pB hla0 hlb0
  by_cases c0 : la = 0
  · have HM := Lib.hid (show pmulM (cut p na) la (cut q nb) lb = fun _ => 0 by simp [pmulM, c0])
    subst c0
    go_wp2_with fail
    go_ret
    rw [HM.out]
    exact ⟨none, 0, rfl, .inl ⟨rfl, rfl⟩, pol_none, by omega, kk2⟩
  · by_cases c1 : lb = 0
    · have HM := Lib.hid (show pmulM (cut p na) la (cut q nb) lb = fun _ => 0 by simp [pmulM, c1])
      subst c1
      have d0 : ((la : Int) == 0) = false := beq_eq_false_iff_ne.2 (by omega)
      go_wp2_with fail
      go_ret
      rw [HM.out]
      exact ⟨none, 0, rfl, .inl ⟨rfl, rfl⟩, pol_none, by omega, kk2⟩
    · by_cases c2 : 4097 < la + lb
      · have HM := Lib.hid (show pmulM (cut p na) la (cut q nb) lb = fun _ => 0 by simp [pmulM, c2])
        have d0 : ((la : Int) == 0) = false := beq_eq_false_iff_ne.2 (by omega)
        have d1 : ((lb : Int) == 0) = false := beq_eq_false_iff_ne.2 (by omega)
        have d4 : decide ((4096 : Int) < (la : Int) + (lb : Int) - 1) = true := by simp; omega
        clear c0 c1 c2
        go_wp2_with fail
        go_ret
        rw [HM.out]
        exact ⟨none, 0, rfl, .inl ⟨rfl, rfl⟩, pol_none, by omega, kk2⟩
      · have HM := Lib.hid (show pmulM (cut p na) la (cut q nb) lb = pmul (cut p na) (cut q nb) by simp [pmulM, c0, c1, c2])
        obtain ⟨m, hm⟩ : ∃ m, la + lb = m + 1 := ⟨la + lb - 1, by omega⟩
        have d0 : ((la : Int) == 0) = false := beq_eq_false_iff_ne.2 (by omega)
        have d1 : ((lb : Int) == 0) = false := beq_eq_false_iff_ne.2 (by omega)
        have d2 : (la : Int) + (lb : Int) - 1 = (m : Int) := by omega
        have d4 : decide ((4096 : Int) < (m : Int)) = false := by simp; omega
        have hmk := make_u m m rfl (by omega)
        have hm2 : m ≤ 4096 := by omega
        generalize hf : cut p na = f at *
        generalize hg : cut q nb = g at *
        clear c0 c1 c2
        have bo := Blk.new w2 23 (uArr (fun _ => 0) m)
        have k3 := (Keep.refl (fun _ => False) w2).alloc (.cells (uArr (fun _ => 0) m) 23)
        go_wp2_with fail
        clear d0 d1 d4 hmk
        go_loopw [42] (fun v wr => ∃ i : Nat, i ≤ la ∧ v = .int .i64 i ∧ Blk wr w2.heap.size 23 (uArr (fun k => pacc f g i k) m) ∧ Keep (fun _ => False) w2 wr) (fun v _ => la - (intOf v).toNat)
        case atStart =>
          refine ⟨0, by omega, rfl, ?_, k3⟩
          rwa [uArr_congr (g := fun k => pacc f g 0 k) (fun i hi => by simp [pacc, xs])] at bo
        case round =>
          clear bo k3
          obtain ⟨i, hi, rfl, hR, hk⟩ := hrel
          by_cases hil : i < la
          · have hil' : (i : Int) < (la : Int) := by omega
            obtain ⟨bA, oA, rfl, hbA, hcA⟩ := HA.out.at_ (by omega)
            have hxi := (hk.cell (p := ⟨bA, oA + i, none⟩) hbA (by simp)).trans (hcA i hil)
            clear hcA
            go_wp2_with fail
            clear hxi
            obtain ⟨wo, hwo⟩ : ∃ wo : World, wo = wr := ⟨_, rfl⟩
            go_loopw [49] (fun v wr => ∃ j : Nat, j ≤ lb ∧ v = .int .i64 j ∧ Blk wr w2.heap.size 23 (uArr (mulMid f g i j) m) ∧ Keep (fun _ => False) w2 wr) (fun v _ => lb - (intOf v).toNat)
            case atStart =>
              refine ⟨0, by omega, rfl, ?_, hk⟩
              rw [mulMid_start]
              exact hR
            case round =>
              clear hR hk hwo
              obtain ⟨j, hj, rfl, hR, hk⟩ := hrel
              have hs := hk.size
              by_cases hjl : j < lb
              · have hjl' : (j : Int) < (lb : Int) := by omega
                obtain ⟨bB, oB, rfl, hbB, hcB⟩ := HB.out.at_ (by omega)
                have hyj := (hk.cell (p := ⟨bB, oB + j, none⟩) hbB (by simp)).trans (hcB j hjl)
                have hijm : i + j < m := by omega
                have hout := hR.val hijm
                have hz := hR.frozen (i + j)
                have hfi := hfl.out i
                have hgj := hgl.out j
                have hml := mulMid_lt (g := g) hfl.out i j (i + j)
                have b3 := b2.keep hk (by simp)
                have q0 : ∀ p : KeptBy wr, p.v.cell? ⟨w.heap.size, 0, none⟩ = some (.slice a1 n1 c1) := fun p => p.cell b3.lt (by rw [b3.cell]; rfl)
                have q1 : ∀ p : KeptBy wr, p.v.cell? ⟨w.heap.size, 1, none⟩ = some (.slice a2 n2 c2) := fun p => p.cell b3.lt (by rw [b3.cell]; rfl)
                have q2 : ∀ p : KeptBy wr, p.v.cell? ⟨w2.heap.size, i + j, none⟩ = some (.int .u16 (mulMid f g i j (i + j) : Nat)) := fun p => p.cell hR.lt hout
                have e1 : (i : Int) + (j : Int) < (m : Int) := by omega
                have e2 : (0 : Int) ≤ (i : Int) + (j : Int) := by omega
                have e3 : ((i : Int) + (j : Int)).toNat = i + j := by omega
                have T3 := Lib.hid (T2.out.keep hk)
                clear hcB
                go_upto_region 11 with fail
                have e0 : IntKind.i64.wrap ((i : Int) + (j : Int)) = (i : Int) + (j : Int) := wraps_i64 _ (by omega) (by omega)
                refine wp_region_kept_tail 16 (by kernel_rfl) (by kernel_rfl) ?_
                simp only [List.take_succ_cons, List.take_zero, List.drop_succ_cons, List.drop_zero]
                repeat (quiet_step (first
                  | (go_at_call 23; exact kept_of (tmul_lt _ _ _ _ (T3.out.keep (KeptBy.h _)) hfi hgj))
                  | (go_at_call 51; exact kept_of (fadd_kept _ _ _ hml (gm_lt hfi _)))))
                refine wpQuiet_nil ?_
                rintro _ ⟨⟨w5, k5⟩, rfl⟩
                clear q0 q1 q2 e0
                have hR5 := hR.keep k5 (by simp)
                have c5 := hR5.val hijm
                have z5 := hR5.frozen (i + j)
                have k6 := hk.trans k5 (fun _ hi => .inl hi)
                have HN := Lib.hid (hR5.storeU (i + j) (mulMid f g i j (i + j) ^^^ gm (f i) (g j)) (f' := mulMid f g i (j + 1)) (fun k _ => mulMid_next f g i j k))
                go_wp2_with fail
                exact ⟨⟨j + 1, by omega, by go_num, HN.out, k6.setCell (p := ⟨w2.heap.size, i + j, none⟩) (.inr (Nat.le_refl _)) _⟩, by simp [intOf]; omega⟩
              · obtain rfl : j = lb := by omega
                have hR2 := hR
                rw [mulMid_row hgz.out] at hR2
                have HR := Lib.hid hR2
                clear hR hR2
                go_wp2_with fail
                exact ⟨⟨i + 1, by omega, by go_num, HR.out, hk⟩, by simp [intOf]; omega⟩
          · obtain rfl : i = la := by omega
            have HR := Lib.hid (hR.argU (by omega) (fun k _ => by have := pacc_lt (g := g) hfl.out i k; omega))
            have hs := hk.size
            have HC := Lib.hid (show cut (fun k => pacc f g i k) m = pmul f g by
              have e : (fun k => pacc f g i k) = pmul f g := funext fun k => pacc_full hfz.out k
              rw [e]
              exact cut_of_lt (fun k => pmul_lt hfl.out k) (fun k hk => pmul_zero hfz.out hgz.out (by omega)))
            have hs2 := kk2.size
            go_wp2_with fail
            refine (trim_any _ _ _ _ _ HR.out (by omega) (Nat.le_refl _)).mono ?_
            rintro e w4 ⟨a', m', rfl, hres, hpol, hle, k4⟩
            rw [HC.out] at hres hpol
            go_wp2_with fail
            go_ret
            subst hf hg
            rw [HM.out]
            exact ⟨a', m', rfl, hres.more (by omega), hpol, by omega, (kk2.trans hk (fun _ hi => .inl hi)).trans k4 (fun _ hi => .inl hi)⟩
end Go.Proofs.Ytnejnoiogojplaa
