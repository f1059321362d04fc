/- code.mended. -/
import Derived.Test.YtnejnoiogojplaaLocator
namespace Go.Proofs.Ytnejnoiogojplaa
open Go.RowKit

theorem OwnU.take {w : World} {N : Nat} {a : Option Addr} {n m c : Nat} {f : Nat → Nat} (h : OwnU w N a n c f) (hm : m ≤ n) : OwnU w N a m c f := by
  refine ⟨by simp [uList], ?_⟩
  rcases h.2 with ⟨e, e0⟩ | ⟨g, cap, cs, e, hN, hb, hn, hx, hs, ht⟩
  · injection e with e1 e2 e3
    obtain rfl : m = 0 := by omega
    exact .inl ⟨by rw [e1, e3], rfl⟩
  · injection e with e1 e2 e3
    refine .inr ⟨g, cap, cs, by rw [e1, e3], hN, hb, by omega, hx, hs, ?_⟩
    apply List.ext_getElem?
    intro i
    have e4 := congrArg (fun l => l[i]?) ht
    simp only [List.getElem?_take, uList_get] at e4 ⊢
    by_cases hi : i < m
    · rw [if_pos (by omega), if_pos (show i < n by omega)] at e4
      rw [if_pos (by omega), if_pos hi]
      exact e4
    · rw [if_neg (by omega), if_neg hi]
theorem exp_neg (k : Nat) (hk : k ≤ 1022) : ex ((-(k : Int)) % 1023).toNat = inv k := by
  refine gm_cancel (ex_lt k) (ex_lt _) (inv_lt k) (ex_pos k) ?_
  rw [inv_mul, ex_add]
  rcases Nat.eq_zero_or_pos k with h | h
  · subst h
    rfl
  · rw [show k + ((-(k : Int)) % 1023).toNat = 1023 by omega, ex_1023]
/-- The evaluator, and the slope of the locator, at y. -/
def evalE (loc S : Nat → Nat) (y : Nat) : Nat := xs 16 (fun j => gm (pmul loc S j) (yp y j))
def slopeE (loc : Nat → Nat) (y : Nat) : Nat := xs 16 (fun j => gm (pslope loc j) (yp y j))
/-- Symbol i of the mended word. -/
noncomputable def mendV (p : Nat → Nat) (n : Nat) (loc S : Nat → Nat) (m : Nat) : Nat → Nat := fun i =>
  if hor loc (inv (n - 1 - i)) 0 m = 0 then p i ^^^ gm (evalE loc S (inv (n - 1 - i))) (gi (slopeE loc (inv (n - 1 - i)))) else p i
/-- How many places are roots. -/
noncomputable def rootN (n : Nat) (loc : Nat → Nat) (m : Nat) : Nat → Nat
  | 0 => 0
  | i + 1 => rootN n loc m i + if hor loc (inv (n - 1 - i)) 0 m = 0 then 1 else 0
theorem rootN_le (n : Nat) (loc : Nat → Nat) (m i : Nat) : rootN n loc m i ≤ i := by
  induction i with
  | zero => simp [rootN]
  | succ i ih => unfold rootN; split <;> omega
noncomputable def mendK (p : Nat → Nat) (n : Nat) (loc S : Nat → Nat) (m i : Nat) : Nat → Nat := fun k => if k < i then mendV p n loc S m k else p k
theorem mendK_next (p : Nat → Nat) (n : Nat) (loc S : Nat → Nat) (m i k : Nat) : mendK p n loc S m (i + 1) k = if k = i then mendV p n loc S m i else mendK p n loc S m i k := by
  unfold mendK
  by_cases h : k = i
  · subst h
    rw [if_pos (by omega), if_pos rfl]
  · rw [if_neg h]
    by_cases h2 : k < i
    · rw [if_pos h2, if_pos (by omega)]
    · rw [if_neg h2, if_neg (by omega)]
theorem mendK_same (p : Nat → Nat) (n : Nat) (loc S : Nat → Nat) (m i : Nat) (h : hor loc (inv (n - 1 - i)) 0 m ≠ 0) (k : Nat) : mendK p n loc S m (i + 1) k = mendK p n loc S m i k := by
  rw [mendK_next]
  by_cases e : k = i
  · subst e
    rw [if_pos rfl]
    unfold mendK mendV
    rw [if_neg h, if_neg (by omega)]
  · rw [if_neg e]
/-- What the values' row says at y. -/
theorem values_at {loc S : Nat → Nat} {m mv lS y : Nat} (hl : IsPol loc m) (hm : m ≤ 17) (hS : ∀ i, S i < 1024) (hy : y < 1024) (hls : IsPol (cut S 16) lS) (hl16 : lS ≤ 16) (hv : IsPol (pmulM (cut S 16) lS loc m) mv) :
    hor (cut (pmulM (cut S 16) lS loc m) (min mv 16)) y 0 (min mv 16) = evalE loc S y := by
  rw [pmulM_eq hls hl (by omega)] at hv ⊢
  rw [← yp_hor (m := min mv 16) (fun i => cut_lt _ _ i) hy (by omega) (fun i h1 _ => cut_zero _ h1)]
  unfold evalE
  exact xs_congr 16 fun j hj => by
    show gm (cut (pmul (cut S 16) loc) (min mv 16) j) (yp y j) = gm (pmul loc S j) (yp y j)
    congr 1
    have e : pmul loc S j = pmul (cut S 16) loc j := by
      rw [pmul_comm (cut_lt S 16) hl.lt]
      exact pmul_low hj fun i hi => by rw [cut_in _ hi, Nat.mod_eq_of_lt (hS i)]
    by_cases h : j < min mv 16
    · rw [cut_in _ h, Nat.mod_eq_of_lt (hv.lt j), e]
    · rw [cut_zero _ (by omega), e, hv.zero j (by omega)]
theorem slope_at {loc : Nat → Nat} {ms y : Nat} (hy : y < 1024) (hs : IsPol (pslope loc) ms) (hms : ms ≤ 16) : hor (cut (pslope loc) ms) y 0 ms = slopeE loc y := by
  rw [hs.cut (Nat.le_refl _), ← yp_hor (m := ms) hs.lt hy hms (fun i h1 _ => hs.zero i h1)]
  rfl
theorem evalE_lt {loc S : Nat → Nat} (hl : ∀ i, loc i < 1024) (y : Nat) : evalE loc S y < 1024 := xs_lt _ fun j _ => gm_lt (pmul_lt hl j) _
theorem slopeE_lt {loc : Nat → Nat} (hl : ∀ i, loc i < 1024) (y : Nat) : slopeE loc y < 1024 := xs_lt _ fun j _ => gm_lt (slope_lt hl j) _
theorem mendV_lt {p loc S : Nat → Nat} {n m : Nat} (hp : ∀ i, i < n → p i < 1024) (hl : ∀ i, loc i < 1024) (i : Nat) (hi : i < n) : mendV p n loc S m i < 1024 := by
  unfold mendV
  split
  · exact xor_lt (hp i hi) (gm_lt (evalE_lt hl _) _)
  · exact hp i hi

set_option maxHeartbeats 8000000 in
set_option maxRecDepth 100000 in
theorem mended_any (V : Value) (a al s : Option Addr) (n c m cs : Nat) (p loc S : Nat → Nat) (w : World) (hT : HasT w V) (ha : ArgU w a n p) (hl : ArgU w al m loc) (hs : ArgU w s 16 S) (hn : n ≤ 1023) (h0 : 0 < n)
    (hp : ∀ i, i < n → p i < 1024) (hloc : IsPol loc m) (hm : m ≤ 17) (hS : ∀ i, S i < 1024) (hcs : 16 ≤ cs) :
    Calls Try.prog 38 #[V, .slice a n c, .slice al m m, .slice s 16 cs] w fun e w' => ∃ a' c', e = .returned (.tuple #[.slice a' n c', .int .i64 (rootN n loc m n : Nat)]) ∧ OwnU w' w.heap.size a' n c' (mendV p n loc S m) ∧ Keep (fun _ => False) w w' := by
  obtain ⟨a1, n1, c1, a2, n2, c2, rfl⟩ := hT.form
  obtain ⟨W, hW⟩ : ∃ W, W = w.alloc (.cells #[.slice a1 n1 c1, .slice a2 n2 c2] 27) := ⟨_, rfl⟩
  have hws : W.heap.size = w.heap.size + 1 := by rw [hW]; simp
  have kw : Keep (fun _ => False) w W := by rw [hW]; exact (Keep.refl _ w).alloc _
  have b0 : Blk W w.heap.size 27 #[.slice a1 n1 c1, .slice a2 n2 c2] := by rw [hW]; exact Blk.new w _ _
  have HT := Lib.hid (hT.keep kw)
  have HA := Lib.hid (ha.keep kw)
  have HL := Lib.hid (hl.keep kw)
  have HS := Lib.hid (hs.keep kw)
  have HSl := Lib.hid hS
  have HP := Lib.hid hp
  have HLP := Lib.hid hloc
  clear hT ha hl hs hS hp hloc
  go_enter Try.func38, Try.ntmps38
  go_wp2_with fail
  rw [← hW]
  clear hW
  refine (clone_any _ _ _ _ _ HA.out (by omega)).mono ?_
  rintro e w1 ⟨aO, cO, rfl, o1, k1⟩
  obtain ⟨gO, rfl, hgO, hcO, r1⟩ := o1.row h0
  have b1 := b0.keep k1 (by simp)
  have hg1 : gO < w1.heap.size := r1.lt
  have d0 : w1.cell? ⟨w.heap.size, 0, none⟩ = some (.slice a1 n1 c1) := by rw [b1.cell]; rfl
  have d1 : w1.cell? ⟨w.heap.size, 1, none⟩ = some (.slice a2 n2 c2) := by rw [b1.cell]; rfl
  obtain ⟨lS, hlS⟩ : ∃ lS, lS = topB (cut S 16) 16 := ⟨_, rfl⟩
  have HLS := Lib.hid (show IsPol (cut S 16) lS by rw [hlS]; exact topB_pol (cut_lt S 16) (fun i hi => cut_zero S hi))
  have hls16 : lS ≤ 16 := by rw [hlS]; exact topB_le _ _
  have HCL := Lib.hid (show IsPol (cut loc m) m by rw [HLP.out.cut (Nat.le_refl _)]; exact HLP.out)
  have T1 := Lib.hid (HT.out.keep k1)
  have S1 := Lib.hid (HS.out.keep k1)
  have L1 := Lib.hid (HL.out.keep k1)
  clear o1 hlS HA
  go_wp2_with fail
  refine (mul_any _ _ _ 16 m cs m _ _ lS m HLS.out HCL.out _ T1.out S1.out L1.out (by omega) (by omega) hcs (Nat.le_refl _)).mono ?_
  rintro e w2 ⟨aV, mv, rfl, rV, pV, lV, k2⟩
  rw [HLP.out.cut (Nat.le_refl _)] at rV pV
  have hmn : (if 16 < (mv : Int) then 16 else (mv : Int)) = ((min mv 16 : Nat) : Int) := by split <;> omega
  have hmn2 : (if (16 : Int) < (mv : Int) then (16 : Int) else (mv : Int)) = ((min mv 16 : Nat) : Int) := by split <;> omega
  have OV := Lib.hid (((rV.own (by unfold maxLen; omega)).take (show min mv 16 ≤ mv by omega)).more (show gO + 1 ≤ w1.heap.size by omega))
  have PV := Lib.hid pV
  have L2 := Lib.hid (L1.out.keep k2)
  have r2 := r1.keep k2 (by simp)
  have k12 := k1.comp k2
  obtain ⟨kv, hkv⟩ : ∃ kv, kv = min mv 16 := ⟨_, rfl⟩
  rw [← hkv] at hmn hmn2 OV
  have HKV := Lib.hid hkv
  have hkv1 : (kv : Int) ≤ (mv : Int) := by omega
  have hkv2 : kv ≤ 16 := by omega
  clear d0 d1 b1 rV pV L1 S1 T1 r1 hkv
  go_wp2_with fail
  refine (slope_any _ _ _ _ _ L2.out (by omega)).mono ?_
  rintro e w3 ⟨aS, ms, rfl, rS, pS, lS2, k3⟩
  rw [HLP.out.cut (Nat.le_refl _)] at rS pS
  have PS := Lib.hid pS
  have OS := Lib.hid ((rS.own (by unfold maxLen; omega)).more (show gO + 1 ≤ w2.heap.size by have := r2.lt; omega))
  have OV3 := Lib.hid (OV.out.keep k3)
  have r3 := Lib.hid (r2.keep k3 (by simp))
  have k13 := k12.comp k3
  clear r2 k12 k1 k2 k3 OV rS pS L2 hmn hmn2 hkv1
  generalize hv : pmulM (cut S 16) lS loc m = v at *
  have HV := Lib.hid (fun y (hy : y < 1024) => show hor (cut v kv) y 0 kv = evalE loc S y by
    have h := values_at HLP.out hm HSl.out hy HLS.out hls16 (by rw [hv]; exact PV.out)
    rw [hv, ← HKV.out] at h
    exact h)
  have HVS := Lib.hid (fun y (hy : y < 1024) => slope_at (loc := loc) hy PS.out (by omega))
  have HVl := Lib.hid PV.out.lt16
  have HSlt := Lib.hid PS.out.lt16
  clear hv
  have hms : ms ≤ 16 := by omega
  clear lS2 lV
  go_wp2_with fail
  go_loopw [13, 33] (fun v13 v33 wr => ∃ i : Nat, i ≤ n ∧ v33 = .int .i64 i ∧ v13 = .int .i64 (rootN n loc m i : Nat) ∧ Hid (RowU wr gO cO n (mendK p n loc S m i)) ∧ Hid (OwnU wr (gO + 1) aV kv mv v) ∧ Hid (OwnU wr (gO + 1) aS ms ms (pslope loc)) ∧ Keep (fun _ => False) W wr) (fun _ v33 _ => n - (intOf v33).toNat)
  case atStart =>
    refine ⟨0, by omega, rfl, rfl, Lib.hid (r3.out.congr (fun i _ => ?_)), OV3, OS, k13⟩
    unfold mendK
    rw [if_neg (by omega)]
  case round =>
    clear r3 OV3 OS k13
    obtain ⟨i, hi, rfl, rfl, HR, OV, OS, kk⟩ := hrel
    by_cases hin : i < n
    · have hin' : (i : Int) < (n : Int) := by omega
      have b1 := b0.keep kk (by simp)
      have d0 : wr.cell? ⟨w.heap.size, 0, none⟩ = some (.slice a1 n1 c1) := by rw [b1.cell]; rfl
      have d1 : wr.cell? ⟨w.heap.size, 1, none⟩ = some (.slice a2 n2 c2) := by rw [b1.cell]; rfl
      have e1 : (n : Int) - 1 - (i : Int) = ((n - 1 - i : Nat) : Int) := by omega
      have HY := Lib.hid (exp_neg (n - 1 - i) (by omega))
      have TW := Lib.hid (HT.out.keep kk)
      have hrl := rootN_le n loc m i
      have HRN := Lib.hid (show rootN n loc m (i + 1) = rootN n loc m i + if hor loc (inv (n - 1 - i)) 0 m = 0 then 1 else 0 from rfl)
      have hy := inv_lt (n - 1 - i)
      go_wp2_with fail
      refine (exp_any _ _ _ TW.out).mono ?_
      rintro e w4 ⟨rfl, k4⟩
      rw [HY.out]
      clear HY e1
      obtain ⟨y, hyy⟩ : ∃ y, y = inv (n - 1 - i) := ⟨_, rfl⟩
      rw [← hyy] at hy HRN
      rw [← hyy]
      have HYY := Lib.hid hyy
      clear hyy
      have hym : y % 1024 = y := Nat.mod_eq_of_lt hy
      have kk4 := kk.comp k4
      have b4 := b1.keep k4 (by simp)
      have f0 : w4.cell? ⟨w.heap.size, 0, none⟩ = some (.slice a1 n1 c1) := by rw [b4.cell]; rfl
      have f1 : w4.cell? ⟨w.heap.size, 1, none⟩ = some (.slice a2 n2 c2) := by rw [b4.cell]; rfl
      have T4 := Lib.hid (TW.out.keep k4)
      have R4 := Lib.hid (HR.out.keep k4 (by simp))
      have OV4 := Lib.hid (OV.out.keep k4)
      have OS4 := Lib.hid (OS.out.keep k4)
      have L4 := Lib.hid (HL.out.keep kk4)
      have HYM := Lib.hid hym
      clear d0 d1 b1 k4 kk TW HR OV OS hym
      go_wp2_with fail
      refine (at_any _ _ _ _ _ _ _ T4.out L4.out).mono ?_
      rw [HYM.out, HLP.out.cut (Nat.le_refl _)]
      rintro e w5 ⟨rfl, k5⟩
      have kk5 := kk4.comp k5
      have b5 := b4.keep k5 (by simp)
      have T5 := Lib.hid (T4.out.keep k5)
      have R5 := Lib.hid (R4.out.keep k5 (by simp))
      have OV5 := Lib.hid (OV4.out.keep k5)
      have OS5 := Lib.hid (OS4.out.keep k5)
      clear f0 f1 b4 k5 kk4 T4 R4 OV4 OS4 L4
      obtain ⟨r, hr⟩ : ∃ r, r = hor loc y 0 m := ⟨_, rfl⟩
      rw [← hr]
      rw [← hr] at HRN
      have HRR := Lib.hid hr
      clear hr
      by_cases hr0 : r = 0
      · subst hr0
        have HN := Lib.hid (show mendV p n loc S m i = p i ^^^ gm (evalE loc S y) (gi (slopeE loc y)) by
          unfold mendV
          rw [← HYY.out, if_pos HRR.out.symm])
        have HRN1 := Lib.hid (show rootN n loc m (i + 1) = rootN n loc m i + 1 by rw [HRN.out, if_pos rfl])
        clear HRN
        go_upto_region 11 with fail
        have q0 : ∀ z : KeptBy w5, z.v.cell? ⟨w.heap.size, 0, none⟩ = some (.slice a1 n1 c1) := fun z => z.cell b5.lt (by rw [b5.cell]; rfl)
        have q1 : ∀ z : KeptBy w5, z.v.cell? ⟨w.heap.size, 1, none⟩ = some (.slice a2 n2 c2) := fun z => z.cell b5.lt (by rw [b5.cell]; rfl)
        have HSA := Lib.hid (HVS.out y hy)
        have hsl := slopeE_lt HLP.out.lt y
        have HSM := Lib.hid (Nat.mod_eq_of_lt hsl)
        obtain ⟨D, hD⟩ : ∃ D, D = slopeE loc y := ⟨_, rfl⟩
        rw [← hD] at hsl HSM HSA HN
        clear hD
        have hAt : ∀ z : KeptBy w5, Calls Try.prog 35 #[.agg #[.slice a1 n1 c1, .slice a2 n2 c2], .slice aS ms ms, .int .u16 y] z.v fun e w' => e = .returned (.int .u16 (D : Nat)) ∧ Keep (fun _ => False) z.v w' := fun z => by
          have h := at_any _ aS ms ms y (pslope loc) z.v (T5.out.keep z.h) ((OS5.out.keep z.h).arg (by omega) (fun i _ => HSlt.out i))
          rw [HYM.out, HSA.out] at h
          exact h
        have hInv : ∀ z : KeptBy w5, Calls Try.prog 50 #[.agg #[.slice a1 n1 c1, .slice a2 n2 c2], .int .u16 D] z.v fun e w' => e = .returned (.tuple #[.int .u16 (gi D : Nat), .bool (D % 1024 != 0)]) ∧ Keep (fun _ => False) z.v w' := fun z => by
          have h := tinv_any _ D z.v (T5.out.keep z.h) _ (Lib.hid rfl)
          rw [show gi (D % 1024) = gi D by rw [HSM.out]] at h
          exact h
        refine wp_region_kept (by kernel_rfl) (by kernel_rfl) ?_
        repeat (quiet_step (first
          | (go_at_call 35; exact kept_of (hAt _))
          | (go_at_call 50; exact kept_of (hInv _))))
        refine wpQuiet_nil ?_
        rintro w6 ⟨⟨_, k6⟩, rfl⟩
        clear q0 q1 hAt hInv
        have kk6 := kk5.comp k6
        have b6 := b5.keep k6 (by simp)
        have T6 := Lib.hid (T5.out.keep k6)
        have R6 := R5.out.keep k6 (by simp)
        have OV6 := Lib.hid (OV5.out.keep k6)
        have OS6 := Lib.hid (OS5.out.keep k6)
        have hpi := HP.out i hin
        have hmk : mendK p n loc S m i i = p i := by unfold mendK; rw [if_neg (by omega)]
        have cR := R6.val hin
        rw [hmk] at cR
        have zR := R6.frozen i
        have lR := R6.lt
        have R6H := Lib.hid R6
        clear hmk R6 b5 k6 kk5 T5 R5 OV5 OS5
        have q0 : ∀ z : KeptBy w6, z.v.cell? ⟨w.heap.size, 0, none⟩ = some (.slice a1 n1 c1) := fun z => z.cell b6.lt (by rw [b6.cell]; rfl)
        have q1 : ∀ z : KeptBy w6, z.v.cell? ⟨w.heap.size, 1, none⟩ = some (.slice a2 n2 c2) := fun z => z.cell b6.lt (by rw [b6.cell]; rfl)
        have q2 : ∀ z : KeptBy w6, z.v.cell? ⟨gO, i, none⟩ = some (.int .u16 (p i : Nat)) := fun z => z.cell lR cR
        have HVA := Lib.hid (HV.out y hy)
        have hel := evalE_lt (S := S) HLP.out.lt y
        obtain ⟨E, hE⟩ : ∃ E, E = evalE loc S y := ⟨_, rfl⟩
        rw [← hE] at hel HVA HN
        clear hE
        have hgD : gi D < 1024 := gi_lt _
        obtain ⟨ID, hID⟩ : ∃ ID, ID = gi D := ⟨_, rfl⟩
        rw [← hID] at hgD HN
        rw [← hID]
        clear hID
        have hgm : gm E ID < 1024 := gm_lt hel _
        have hAt : ∀ z : KeptBy w6, Calls Try.prog 35 #[.agg #[.slice a1 n1 c1, .slice a2 n2 c2], .slice aV kv mv, .int .u16 y] z.v fun e w' => e = .returned (.int .u16 (E : Nat)) ∧ Keep (fun _ => False) z.v w' := fun z => by
          have h := at_any _ aV kv mv y v z.v (T6.out.keep z.h) ((OV6.out.keep z.h).arg (by omega) (fun i _ => HVl.out i))
          rw [HYM.out, HVA.out] at h
          exact h
        go_upto_region 12 with fail
        refine wp_region_kept_tail 15 (by kernel_rfl) (by kernel_rfl) ?_
        simp only [List.take_succ_cons, List.take_zero, List.drop_succ_cons, List.drop_zero]
        repeat (quiet_step (first
          | (go_at_call 35; exact kept_of (hAt _))
          | (go_at_call 23; exact kept_of (tmul_lt _ _ _ _ (T6.out.keep (KeptBy.h _)) hel hgD))
          | (go_at_call 51; exact kept_of (fadd_kept _ _ _ hpi hgm))))
        refine wpQuiet_nil ?_
        rintro w7 ⟨⟨_, k7⟩, rfl⟩
        clear q0 q1 q2 hAt cR zR
        have R7 := R6H.out.keep k7 (by simp)
        have cR := R7.val hin
        have zR := R7.frozen i
        have OV7 := Lib.hid ((OV6.out.keep k7).far (p := ⟨gO, i, none⟩) (Nat.lt_succ_self gO) (.int .u16 (p i ^^^ gm E ID : Nat)))
        have OS7 := Lib.hid ((OS6.out.keep k7).far (p := ⟨gO, i, none⟩) (Nat.lt_succ_self gO) (.int .u16 (p i ^^^ gm E ID : Nat)))
        have K7 := Lib.hid ((kk6.comp k7).setCell (p := ⟨gO, i, none⟩) (.inr hgO) (.int .u16 (p i ^^^ gm E ID : Nat)))
        have HR7 := Lib.hid (R7.store i (p i ^^^ gm E ID) (f' := mendK p n loc S m (i + 1)) (fun k _ => by rw [mendK_next, HN.out]))
        clear R7 b6 kk6 k7 T6 OV6 OS6 R6H
        go_wp2_with fail
        exact ⟨⟨i + 1, by omega, by go_num, by rw [HRN1.out]; go_num, HR7, OV7, OS7, K7.out⟩, by simp [intOf]; omega⟩
      · have e3 : ¬ ((r : Nat) : Int) = 0 := by omega
        have e4 : (((r : Nat) : Int) != 0) = true := by simpa using e3
        have HN := Lib.hid (R5.out.congr (fun k _ => (mendK_same p n loc S m i (by rw [← HYY.out, ← HRR.out]; exact hr0) k).symm))
        have HRN1 := Lib.hid (show rootN n loc m (i + 1) = rootN n loc m i by rw [HRN.out, if_neg hr0, Nat.add_zero])
        go_wp2_with fail
        exact ⟨⟨i + 1, by omega, by go_num, by rw [HRN1.out], HN, OV5, OS5, kk5⟩, by simp [intOf]; omega⟩
    · obtain rfl : i = n := by omega
      have hin' : ¬ (i : Int) < (i : Int) := by omega
      go_wp2_with fail
      go_ret2
      exact ⟨_, cO, rfl, OwnU.of_row (HR.out.congr (fun k hk => by unfold mendK; rw [if_pos hk])) (by omega) hcO, kw.comp kk⟩
end Go.Proofs.Ytnejnoiogojplaa
