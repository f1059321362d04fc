/- The reference's Decode. -/
import Derived.Test.YtnejnoiogojplaaRefC
import Derived.Deep.RegionHeld3
namespace Go.Proofs.Ytnejnoiogojplaa
open Go.RowKit

theorem evalE_euc {S a b u v : Nat → Nat} {la lb lu lv y : Nat} (he : Euc S a b u v la lb lu lv) (hy : y < 1024) (hb : lb ≤ 16) : hor b y 0 lb = evalE v S y := by
  unfold evalE
  rw [xs_congr 16 (k := fun j => gm (b j) (yp y j)) (fun j hj => by rw [he.av j hj]), yp_hor he.pb.lt hy hb (fun j hj _ => he.pb.zero j hj)]
/-- Where a word of the code is near, what the divisions found passes each test. -/
theorem euc_pass {p q a b u v : Nat → Nat} {n d la lb lu lv : Nat} (hn : n ≤ 1023) (hp : ∀ i, i < n → p i < 1024) (h : Near p n q d) (he : Euc (synW p n) a b u v la lb lu lv) (hb : lb ≤ 8) (h0 : ¬ ∀ j, j < 16 → synW p n j = 0) :
    (2 ≤ lv ∧ lv ≤ 9) ∧ rootN n v lv n = lv - 1 ∧ (∀ i, i < n → hor v (inv (n - 1 - i)) 0 lv = 0 → slopeE v (inv (n - 1 - i)) ≠ 0) ∧ (∀ i, i < n → mendV p n v (synW p n) lv i = q i) ∧ cntNe (mendV p n v (synW p n) lv) p n = d := by
  obtain ⟨h1, h2, h3⟩ := euc_near hn hp h he hb
  have hle := h.le
  have hd : 1 ≤ d := by
    rcases Nat.eq_zero_or_pos d with e | e
    · exfalso
      refine h0 fun j hj => ?_
      rw [← synW_congr (cntNe_zero.1 (h.dist.trans e))]
      exact h.word j hj
    · exact e
  have hv : ∀ i, val v (lv - 1) (inv i) = hor v (inv i) 0 lv := fun i => by
    have := val_hor (L := lv - 1) he.pv.lt (inv_lt i)
    rwa [show lv - 1 + 1 = lv by omega] at this
  have hmv : ∀ i, i < n → mendV p n v (synW p n) lv i = q i := fun i hi => by
    unfold mendV
    by_cases e : hor v (inv (n - 1 - i)) 0 lv = 0
    · rw [if_pos e, ← evalE_euc he (inv_lt _) (by omega)]
      exact (h3 i hi (by rw [hv]; exact e)).2.symm
    · rw [if_neg e]
      by_cases hpq : p i = q i
      · exact hpq
      · exact absurd ((hv _).symm.trans ((h2 i hi).2 hpq)) e
  refine ⟨by omega, ?_, fun i hi e => (h3 i hi (by rw [hv]; exact e)).1, hmv, ?_⟩
  · rw [rootN_cnt n (Nat.le_refl _) (fun i hi => by rw [← hv]; exact h2 i hi), cntNe_comm, h.dist]
    omega
  · rw [cntNe_congr n hmv (fun _ _ => rfl), h.dist]
def x16 : Nat → Nat := fun i => if i = 16 then 1 else 0
theorem x16_pol : IsPol x16 17 := ⟨fun i => by unfold x16; split <;> omega, fun i hi => by unfold x16; rw [if_neg (by omega)], fun _ => by decide⟩
theorem Euc.begin {S : Nat → Nat} {lb : Nat} (hS : ∀ i, S i < 1024) (hb : IsPol (cut S 16) lb) (hlb : lb ≤ 16) : Euc S x16 (cut S 16) (fun _ => 0) (lst [1]) 17 lb 0 1 := by
  refine ⟨x16_pol, hb, pol_none, p1, by omega, by omega, by omega, fun j hj => ?_, fun j hj => ?_, by omega⟩
  · have h := xs_one (h := fun i => gm (lst [1] i) (S (j - i))) (j + 1) 0 (by omega) (fun i _ hi => by
      show gm (lst [1] i) _ = 0
      rw [p1.zero i (by omega), gm_zero_left])
    rw [cut_in _ hj, Nat.mod_eq_of_lt (hS j)]
    show xs (j + 1) (fun i => gm (lst [1] i) (S (j - i))) = S j
    rw [h]
    exact gm_one_left (hS j)
  · rw [show pmul (fun _ => 0) S j = 0 from congrFun (pmul_nil_left S) j]
    unfold x16
    rw [if_neg (by omega)]
theorem slope_len {f : Nat → Nat} {l m : Nat} (hf : IsPol f l) (hm : IsPol (pslope f) m) : m ≤ l := by
  rcases Nat.lt_or_ge l m with h | h
  · exfalso
    refine hm.lead (by omega) ?_
    unfold pslope
    split
    · exact hf.zero _ (by omega)
    · rfl
  · exact h
def lenV : Value → Nat
  | .slice _ n _ => n
  | _ => 0
/-- The rows of the divisions. -/
structure EucSt (w : World) (N : Nat) (S : Nat → Nat) (a b u v : Nat → Nat) (la lb lu lv : Nat) (aA aB aU aV : Option Addr) : Prop where
  e : Euc S a b u v la lb lu lv
  ra : OwnU w N aA la la a
  rb : OwnU w N aB lb lb b
  ru : OwnU w N aU lu lu u
  rv : OwnU w N aV lv lv v

set_option maxHeartbeats 4000000 in
theorem rdec_size (a : Option Addr) (n c : Nat) (w : World) (hn : n ≤ 16 ∨ 1023 < n) :
    Calls Try.prog 21 #[.slice a n c] w fun e w' => e = .returned (.tuple #[.slice none 0 0, .int .i64 0, .int .i64 3]) ∧ Keep (fun _ => False) w w' := by
  by_cases h : n ≤ 16
  · have e1 : decide ((n : Int) < 17) = true := by simp; omega
    have e2 : (n : Int) < 17 := by omega
    go_enter Try.func21, Try.ntmps21
    go_wp2_with fail
    go_ret3
    exact ⟨rfl, Keep.refl _ w⟩
  · have e1 : decide ((n : Int) < 17) = false := by simp; omega
    have e2 : ¬ (n : Int) < 17 := by omega
    have e3 : (1023 : Int) < (n : Int) := by omega
    go_enter Try.func21, Try.ntmps21
    go_wp2_with fail
    go_ret3
    exact ⟨rfl, Keep.refl _ w⟩

set_option maxHeartbeats 8000000 in
set_option maxRecDepth 100000 in
theorem rdec_all (a : Option Addr) (n c : Nat) (p : Nat → Nat) (w : World) (ha : ArgU w a n p) :
    Calls Try.prog 21 #[.slice a n c] w fun e w' => DecA w' w.heap.size p n e ∧ Keep (fun _ => False) w w' := by
  by_cases hsz : n ≤ 16 ∨ 1023 < n
  · exact (rdec_size a n c w hsz).mono fun _ _ ⟨h1, h2⟩ => ⟨.inl ⟨hsz, h1⟩, h2⟩
  have hn16 : 16 < n := by omega
  have hn2 : n ≤ 1023 := by omega
  have HA := Lib.hid ha
  have e1 : decide ((n : Int) < 17) = false := by simp; omega
  have e2 : ¬ (n : Int) < 17 := by omega
  have e3 : ¬ (1023 : Int) < (n : Int) := by omega
  clear ha hsz
  go_enter Try.func21, Try.ntmps21
  go_wp2_with fail
  clear e1 e2 e3
  go_loopw [5] (fun v wr => ∃ j : Nat, j ≤ n ∧ v = .int .i64 j ∧ Hid (∀ i, i < j → p i < 1024) ∧ Keep (fun _ => False) w wr) (fun v _ => n - (intOf v).toNat)
  case atStart => exact ⟨0, by omega, rfl, Lib.hid (fun i hi => by omega), Keep.refl _ _⟩
  case round =>
    obtain ⟨j, hj, rfl, HZ, kk⟩ := hrel
    by_cases hjk : j < n
    · have hjk' : (j : Int) < (n : Int) := by omega
      obtain ⟨bA, oA, rfl, hbA, hcA⟩ := HA.out.at_ (by omega)
      have c0 := (kk.cell (p := ⟨bA, oA + j, none⟩) hbA (by simp)).trans (hcA j hjk)
      clear hcA
      by_cases hx : 1024 ≤ p j
      · have f1 : (1024 : Int) ≤ ((p j : Nat) : Int) := by omega
        have HX := Lib.hid hx
        clear hx
        go_wp2_with fail
        go_ret3
        exact ⟨.inr (.inl ⟨hn16, hn2, ⟨j, hjk, HX.out⟩, rfl⟩), kk⟩
      · have f1 : ¬ (1024 : Int) ≤ ((p j : Nat) : Int) := by omega
        have HZ2 := Lib.hid (show ∀ i, i < j + 1 → p i < 1024 from fun i hi => by
          by_cases e : i = j
          · rw [e]; omega
          · exact HZ.out i (by omega))
        clear hx
        go_wp2_with fail
        exact ⟨⟨j + 1, by omega, by go_num, HZ2, kk⟩, by simp [intOf]; omega⟩
    · obtain rfl : j = n := by omega
      have hjk' : ¬ (j : Int) < (j : Int) := by omega
      have HP := HZ
      obtain ⟨bA, oA, rfl, hbA, _⟩ := HA.out.at_ (by omega)
      have AD := Lib.hid (HA.out.keep kk)
      have hN1 : w.heap.size ≤ wr.heap.size := kk.size
      go_wp2_with (refine wpList_append_u rfl (.const (.slice none 0 0)) (.tmp 43) rfl wr.heap.size none 0 0 p rfl (World.ownsRow_nil _ _ _ 1) _ j c p rfl AD.out (by omega) (Nat.le_refl _) ?_)
      intro a5 c5 w5 o5 g5
      have k5 : Keep (fun _ => False) wr w5 := (Keep.refl _ wr).grown g5 (fun t ht => by simp [Value.ownBlock] at ht)
      have O5 : OwnU w5 wr.heap.size a5 j c5 p := o5
      obtain ⟨gO, rfl, hgO, hcO, rO⟩ := O5.row (by omega)
      have AD5 := Lib.hid (AD.out.keep k5)
      have hgO5 := rO.lt
      clear AD o5 g5 O5 hbA hj hjk hjk' HZ
      go_wp2_with fail
      refine (rsyn_any _ _ _ _ _ AD5.out (by omega)).mono ?_
      rintro e w6 ⟨aS, cS, rfl, oS, k6⟩
      rw [synW_mod HP.out] at oS
      have HSl := Lib.hid (fun i => synW_lt HP.out i)
      have AS := Lib.hid (oS.arg (by omega) (fun i _ => by have := HSl.out i; omega))
      have rO6 := rO.keep k6 (by simp)
      have k56 := k5.comp k6
      clear oS rO k5 AD5
      go_wp2_with fail
      refine (clean_any _ _ _ _ _ AS.out (by omega)).mono ?_
      rintro e w7 ⟨bb, rfl, hbb, k7⟩
      have rO7 := rO6.keep k7 (by simp)
      have k57 := k56.comp k7
      have AS7 := Lib.hid (AS.out.keep k7)
      have hgO7 : gO < w7.heap.size := rO7.lt
      clear AS rO6 k56 k6 k7
      cases bb with
      | true =>
        have HN := Lib.hid (near_self HP.out (hbb.1 rfl))
        clear hbb
        go_wp2_with fail
        go_ret3
        exact ⟨.inr (.inr ⟨hn16, hn2, HP.out, .inl ⟨p, 0, _, _, HN.out, rfl, (OwnU.of_row rO7 hgO hcO).more hN1⟩⟩), kk.comp k57⟩
      | false =>
      have HS0 := Lib.hid (fun h => Bool.false_ne_true (hbb.2 h))
      clear hbb
      have hmk := make_u 17 17 rfl (by omega)
      have b0 := Blk.new w7 23 (uArr (fun _ => 0) 17)
      have k0 := (Keep.refl (fun _ => False) w7).alloc (.cells (uArr (fun _ => 0) 17) 23)
      have AS0 := Lib.hid (AS7.out.keep k0)
      go_upto_region 13 with (fail)
      generalize w7.alloc (.cells (uArr (fun _ => 0) 17) 23) = W7 at *
      have c16 := b0.val (show 16 < 17 by omega)
      have z16 := b0.frozen 16
      have b1 := b0.storeU 16 1 (f' := x16) (fun t _ => rfl)
      have k1 := k0.setCell (p := ⟨w7.heap.size, 16, none⟩) (.inr (Nat.le_refl _)) (.int .u16 1)
      have B1 := Lib.hid b1
      have K1 := Lib.hid k1
      have AS8 := Lib.hid (AS7.out.keep k1)
      clear AS7 AS0 b0 k0 b1 k1
      go_wp2_with fail
      clear c16 z16
      refine (rtrim_any _ _ _ _ _ AS8.out (by omega)).mono ?_
      rintro e w8 ⟨aB, lb, rfl, rB, pB, lB, k8⟩
      have A := Laid.pol w8 #[.int .u16 1] _ _ p1 (by omega) (uArr_one 1)
      have kA := (K1.out.comp k8).comp A.k
      have EU := Lib.hid (show EucSt (w8.alloc (.cells #[.int .u16 1] 23)) (gO + 1) (synW p j) x16 (cut (synW p j) 16) (fun _ => 0) (lst [1]) 17 lb 0 1 (some ⟨w7.heap.size, 0, none⟩) aB none (some ⟨w8.heap.size, 0, none⟩) from
        ⟨Euc.begin HSl.out pB lB, OwnU.of_row (((RowU.of_blk B1.out).keep k8 (by simp)).keep A.k (by simp)) (by omega) (by unfold maxLen; omega), (((rB.own (by unfold maxLen; omega)).more (by have := K1.out.size; omega)).keep A.k), World.ownsRow_nil _ _ _ 1,
          OwnU.of_row (RowU.of_blk (Blk.new w8 _ _)) (by have := (K1.out.comp k8).size; omega) (by unfold maxLen; omega)⟩)
      clear AS8 B1 K1 rB pB k8 A
      go_wp2_with fail
      go_loopw [8, 9, 10, 11] (fun v8 v9 v10 v11 wr => ∃ (a b u v : Nat → Nat) (la lb lu lv : Nat) (aA aB aU aV : Option Addr), v8 = .slice aA la la ∧ v9 = .slice aB lb lb ∧ v10 = .slice aU lu lu ∧ v11 = .slice aV lv lv ∧ Hid (EucSt wr (gO + 1) (synW p j) a b u v la lb lu lv aA aB aU aV) ∧ Keep (fun _ => False) w7 wr) (fun _ v9 _ _ _ => lenV v9)
      case atStart => exact ⟨_, _, _, _, 17, lb, 0, 1, _, aB, none, _, rfl, rfl, rfl, rfl, EU, kA⟩
      case round =>
        clear EU kA
        obtain ⟨a, b, u, v, la, lb, lu, lv, aA, aB, aU, aV, rfl, rfl, rfl, rfl, HE, kr⟩ := hrel
        have hdown := HE.out.e.down
        have hv0 := HE.out.e.v0
        have hbig := HE.out.e.big
        have hlv9 : lv ≤ 9 := by have := HE.out.e.sum; omega
        have hla17 : la ≤ 17 := by have := HE.out.e.sum; omega
        by_cases hlb : 8 < lb
        · have hlb' : (8 : Int) < (lb : Int) := by omega
          have PA := Lib.hid HE.out.e.pa
          have PB := Lib.hid HE.out.e.pb
          have PU := Lib.hid HE.out.e.pu
          have PV := Lib.hid HE.out.e.pv
          have AA := Lib.hid (HE.out.ra.arg (by omega) (fun i _ => PA.out.lt16 i))
          have AB := Lib.hid (HE.out.rb.arg (by omega) (fun i _ => PB.out.lt16 i))
          have AU := Lib.hid (HE.out.ru.arg (by omega) (fun i _ => PU.out.lt16 i))
          have AV := Lib.hid (HE.out.rv.arg (by omega) (fun i _ => PV.out.lt16 i))
          have HCA := Lib.hid (show IsPol (cut a la) la by rw [PA.out.cut (Nat.le_refl _)]; exact PA.out)
          have HCB := Lib.hid (show IsPol (cut b lb) lb by rw [PB.out.cut (Nat.le_refl _)]; exact PB.out)
          have hgr : gO < wr.heap.size := by have := kr.size; omega
          go_wp2_with fail
          refine (rdiv_any _ _ la lb la lb a b la lb HCA.out HCB.out _ AA.out AB.out (by omega) (by omega)).mono ?_
          rw [PA.out.cut (Nat.le_refl _), PB.out.cut (Nat.le_refl _)]
          rintro e w9 ⟨aq, nq, ar, nr, rfl, rq, pq, rr, pr, k9⟩
          have hqp := quo_pol PA.out PB.out (by omega)
          obtain rfl := pq.uniq hqp
          have hrl := rst_len PA.out PB.out (by omega) pr
          have hds := div_sum PA.out PB.out (by omega)
          have hq2 : quoN la lb = la - lb + 1 := by unfold quoN; omega
          have hnq : quoN la lb ≤ 17 := by omega
          have hnq0 : 0 < quoN la lb := by omega
          generalize quo a la b lb = q at *
          generalize rst a la b lb = r at *
          generalize quoN la lb = nq at *
          have HQ2 := Lib.hid hq2
          clear hq2
          have AQ := Lib.hid (rq.arg (by omega) (fun i => by have := pq.lt i; omega))
          have PQ := Lib.hid pq
          have PR := Lib.hid pr
          have HDS := Lib.hid hds
          have RB9 := Lib.hid (HE.out.rb.keep k9)
          have RV9 := Lib.hid (HE.out.rv.keep k9)
          have RR9 := Lib.hid ((rr.own (by unfold maxLen; omega)).more (show gO + 1 ≤ wr.heap.size by omega))
          have AU9 := Lib.hid (AU.out.keep k9)
          have AV9 := Lib.hid (AV.out.keep k9)
          have hb0 : (lb != 0) = true := by simp; omega
          have HPM := Lib.hid (show pmulM (cut q nq) nq (cut v lv) lv = pmul q v by rw [PQ.out.cut (Nat.le_refl _), PV.out.cut (Nat.le_refl _)]; exact pmulM_eq PQ.out PV.out (by omega))
          have HCQ := Lib.hid (show IsPol (cut q nq) nq by rw [PQ.out.cut (Nat.le_refl _)]; exact PQ.out)
          have HCV := Lib.hid (show IsPol (cut v lv) lv by rw [PV.out.cut (Nat.le_refl _)]; exact PV.out)
          have kr9 := kr.comp k9
          clear rq pq rr pr hqp hds AA AB AU AV HCA HCB k9 kr
          go_wp2_with fail
          refine (rpmul_any _ _ nq lv nq lv q v nq lv HCQ.out HCV.out _ AQ.out AV9.out (by omega) (by omega)).mono ?_
          rw [HPM.out]
          rintro e w10 ⟨aP, mP, rfl, rP, pP, k10⟩
          have hmP : mP ≤ 100 := by
            have := pP.uniq (pmul_pol PQ.out PV.out (by omega) (by omega))
            omega
          have AP := Lib.hid (rP.arg (by omega) pP.lt16)
          have PP := Lib.hid pP
          have AU10 := Lib.hid (AU9.out.keep k10)
          have RB10 := Lib.hid (RB9.out.keep k10)
          have RV10 := Lib.hid (RV9.out.keep k10)
          have RR10 := Lib.hid (RR9.out.keep k10)
          have kr10 := kr9.comp k10
          clear rP pP AU9 RB9 RV9 RR9 k10 kr9 AQ AV9
          go_wp2_with fail
          refine (radd_any _ _ lu mP lu mP u (pmul q v) _ AU10.out AP.out (by omega) (by omega)).mono ?_
          rw [PU.out.cut (Nat.le_refl _), PP.out.cut (Nat.le_refl _)]
          rintro e w11 ⟨aU2, lu2, rfl, rU2, pU2, k11⟩
          have hE2 := HE.out.e.step HSl.out hlb (by rw [← HQ2.out]; exact PQ.out) PR.out hrl HDS.out pU2 rfl
          have hlu2 : lu2 ≤ 18 := by have := hE2.sum; omega
          have HE2 := Lib.hid (show EucSt w11 (gO + 1) (synW p j) b r v (padd u (pmul q v)) lb nr lv lu2 aB ar aV aU2 from
            ⟨hE2, RB10.out.keep k11, RR10.out.keep k11, RV10.out.keep k11, (rU2.own (by unfold maxLen; omega)).more (by have := kr10.size; omega)⟩)
          have kr11 := kr10.comp k11
          clear rU2 pU2 hE2 k11 kr10 RB10 RV10 RR10 HE
          go_wp2_with fail
          exact ⟨⟨_, _, _, _, lb, nr, lv, lu2, aB, ar, aV, aU2, rfl, rfl, rfl, rfl, HE2, kr11⟩, by simp [lenV]; omega⟩
        · have hlb' : ¬ (8 : Int) < (lb : Int) := by omega
          have PV := Lib.hid HE.out.e.pv
          have PB := Lib.hid HE.out.e.pb
          have hpass : Hid ((∃ q d, Near p j q d) → (2 ≤ lv ∧ lv ≤ 9) ∧ rootN j v lv j = lv - 1 ∧ (∀ i, i < j → hor v (inv (j - 1 - i)) 0 lv = 0 → slopeE v (inv (j - 1 - i)) ≠ 0) ∧ cntNe (mendV p j v (synW p j) lv) p j ≤ 8 ∧ ∀ t, t < 16 → synW (mendV p j v (synW p j) lv) j t = 0) := Lib.hid (by
            rintro ⟨q, d, h⟩
            obtain ⟨h1, h2, h3, h4, h5⟩ := euc_pass hn2 HP.out h HE.out.e (by omega) HS0.out
            exact ⟨h1, h2, h3, by rw [h5]; exact h.le, fun t ht => by rw [synW_congr h4]; exact h.word t ht⟩)
          have HEV := Lib.hid (fun y (hy : y < 1024) => evalE_euc HE.out.e hy (by omega))
          have kw7 := (kk.comp k57).comp kr
          have hgw : w.heap.size ≤ gO := Nat.le_trans hN1 hgO
          have rOr := Lib.hid (rO7.keep kr (by simp))
          have OVr := Lib.hid HE.out.rv
          have OBr := Lib.hid HE.out.rb
          have AVr := Lib.hid (HE.out.rv.arg (by omega) (fun t _ => PV.out.lt16 t))
          clear HE kr rO7 kk k57 hgO hN1
          by_cases hv2 : lv < 2
          · have f1 : (lv : Int) < 2 := by omega
            go_wp2_with fail
            go_ret3
            exact ⟨.inr (.inr ⟨hn16, hn2, HP.out, .inr ⟨fun q d h => by have := (hpass.out ⟨q, d, h⟩).1; omega, rfl⟩⟩), kw7⟩
          have f1 : ¬ (lv : Int) < 2 := by omega
          have f2 : ¬ (9 : Int) < (lv : Int) := by omega
          go_wp2_with fail
          refine (rslope_any _ _ _ _ _ AVr.out (by omega)).mono ?_
          rw [PV.out.cut (Nat.le_refl _)]
          rintro e w8 ⟨aD, md, rfl, rD, pD, k8⟩
          have hmd : md ≤ 16 := by have := slope_len PV.out pD; omega
          have hgr : gO < wr.heap.size := rOr.out.lt
          have PD := Lib.hid pD
          have HDA := Lib.hid (fun y (hy : y < 1024) => slope_at (loc := v) hy PD.out hmd)
          have ODr := Lib.hid ((rD.own (by unfold maxLen; omega)).more (show gO + 1 ≤ wr.heap.size by omega))
          have rO8 := Lib.hid (rOr.out.keep k8 (by simp))
          have OV8 := Lib.hid (OVr.out.keep k8)
          have OB8 := Lib.hid (OBr.out.keep k8)
          have kw8 := kw7.comp k8
          clear rD pD k8 kw7 rOr OVr OBr AVr hgr
          go_wp2_with fail
          go_loopw [16, 18] (fun v16 v18 wr => ∃ i : Nat, i ≤ j ∧ v18 = .int .i64 i ∧ v16 = .int .i64 (rootN j v lv i : Nat) ∧ Hid (RowU wr gO c5 j (mendK p j v (synW p j) lv i)) ∧ Hid (OwnU wr (gO + 1) aV lv lv v) ∧ Hid (OwnU wr (gO + 1) aB lb lb b) ∧ Hid (OwnU wr (gO + 1) aD md md (pslope v)) ∧ Keep (fun _ => False) w wr) (fun _ v18 _ => j - (intOf v18).toNat)
          case atStart =>
            refine ⟨0, by omega, rfl, rfl, Lib.hid (rO8.out.congr (fun t _ => ?_)), OV8, OB8, ODr, kw8⟩
            unfold mendK
            rw [if_neg (by omega)]
          case round =>
            clear rO8 OV8 OB8 ODr kw8
            obtain ⟨i, hi, rfl, rfl, HR, OV, OB, OD, kx⟩ := hrel
            by_cases hij : i < j
            · have hij' : (i : Int) < (j : Int) := by omega
              have e1 : (j : Int) - 1 - (i : Int) = ((j - 1 - i : Nat) : Int) := by omega
              have hrl := rootN_le j v lv i
              have HRN := Lib.hid (show rootN j v lv (i + 1) = rootN j v lv i + if hor v (inv (j - 1 - i)) 0 lv = 0 then 1 else 0 from rfl)
              obtain ⟨t, ht⟩ : ∃ t, t = j - 1 - i := ⟨_, rfl⟩
              rw [← ht] at e1 HRN
              have htl : t < 1023 := by omega
              have HT := Lib.hid ht
              clear ht
              go_wp2_with fail
              refine (rexp_any t _ htl).mono ?_
              rintro e x1 ⟨rfl, rfl⟩
              have hxl := ex_lt t
              have hxp := ex_pos t
              have HI := Lib.hid (rinv_lt (ex t) wr hxl hxp)
              clear e1 hxp
              go_wp2_with fail
              refine HI.out.mono ?_
              rintro e x2 ⟨rfl, rfl⟩
              rw [show gi (ex t) = inv t from rfl]
              have hy := inv_lt t
              obtain ⟨y, hyy⟩ : ∃ y, y = inv t := ⟨_, rfl⟩
              rw [← hyy] at hy HRN ⊢
              have HYY := Lib.hid hyy
              have HYM := Lib.hid (Nat.mod_eq_of_lt hy)
              clear hyy HI
              have AV := Lib.hid (OV.out.arg (by omega) (fun s _ => PV.out.lt16 s))
              go_wp2_with fail
              refine (rat_any _ _ _ _ _ _ AV.out (by omega) (by omega)).mono ?_
              rw [HYM.out, PV.out.cut (Nat.le_refl _)]
              rintro e w9 ⟨rfl, k9⟩
              have R9 := Lib.hid (HR.out.keep k9 (by simp))
              have OV9 := Lib.hid (OV.out.keep k9)
              have OB9 := Lib.hid (OB.out.keep k9)
              have OD9 := Lib.hid (OD.out.keep k9)
              have kx9 := kx.comp k9
              clear HR OV OB OD kx k9 AV
              obtain ⟨r, hr⟩ : ∃ r, r = hor v y 0 lv := ⟨_, rfl⟩
              rw [← hr] at HRN ⊢
              have HRR := Lib.hid hr
              clear hr
              by_cases hr0 : r = 0
              · subst hr0
                have HN := Lib.hid (show mendV p j v (synW p j) lv i = p i ^^^ gm (evalE v (synW p j) y) (gi (slopeE v y)) by
                  unfold mendV
                  rw [← HT.out, ← HYY.out, if_pos HRR.out.symm])
                have HRN1 := Lib.hid (show rootN j v lv (i + 1) = rootN j v lv i + 1 by rw [HRN.out, if_pos rfl])
                have AD := Lib.hid (OD9.out.arg (by omega) (fun s _ => PD.out.lt16 s))
                have HDY := Lib.hid (HDA.out y hy)
                have hsl := slopeE_lt PV.out.lt y
                obtain ⟨D, hD⟩ : ∃ D, D = slopeE v y := ⟨_, rfl⟩
                rw [← hD] at hsl HDY HN
                have HD := Lib.hid hD
                clear hD HRN
                go_wp2_with fail
                refine (rat_any _ _ _ _ _ _ AD.out (by omega) (by omega)).mono ?_
                rw [HYM.out, HDY.out]
                rintro e w10 ⟨rfl, k10⟩
                have R10 := Lib.hid (R9.out.keep k10 (by simp))
                have OV10 := Lib.hid (OV9.out.keep k10)
                have OB10 := Lib.hid (OB9.out.keep k10)
                have OD10 := Lib.hid (OD9.out.keep k10)
                have kx10 := kx9.comp k10
                clear R9 OV9 OB9 OD9 kx9 k10 AD
                by_cases hD0 : D = 0
                · have HIn := Lib.hid (rinv_any D w10 (by omega) false (Lib.hid (by simp [hD0])))
                  have HD0 := Lib.hid hD0
                  clear hD0
                  go_wp2_with fail
                  refine HIn.out.mono ?_
                  rintro e x3 ⟨rfl, rfl⟩
                  go_wp2_with fail
                  go_ret3
                  refine ⟨.inr (.inr ⟨hn16, hn2, HP.out, .inr ⟨fun q d h => ?_, rfl⟩⟩), kx10⟩
                  refine (hpass.out ⟨q, d, h⟩).2.2.1 i hij ?_ ?_
                  · rw [← HT.out, ← HYY.out]
                    exact HRR.out.symm
                  · rw [← HT.out, ← HYY.out, ← HD.out]
                    exact HD0.out
                · have HIn := Lib.hid (rinv_lt D w10 hsl hD0)
                  have HEY := Lib.hid (HEV.out y hy)
                  have hel := evalE_lt (S := synW p j) PV.out.lt y
                  obtain ⟨E, hE⟩ : ∃ E, E = evalE v (synW p j) y := ⟨_, rfl⟩
                  rw [← hE] at hel HEY HN
                  clear hE hD0
                  have hgD : gi D < 1024 := gi_lt _
                  obtain ⟨G, hG⟩ : ∃ G, G = gi D := ⟨_, rfl⟩
                  rw [← hG] at hgD HN HIn
                  clear hG
                  have hgm : gm E G < 1024 := gm_lt hel _
                  have hpi := HP.out i hij
                  have hxor := xor_u16 (a := p i) (b := gm E G) (by omega) (by omega)
                  go_wp2_with fail
                  refine HIn.out.mono ?_
                  rintro e x3 ⟨rfl, rfl⟩
                  have hmk : mendK p j v (synW p j) lv i i = p i := by unfold mendK; rw [if_neg (by omega)]
                  have cR := R10.out.val hij
                  rw [hmk] at cR
                  have lR := R10.out.lt
                  have hAt : ∀ z : KeptBy w10, Calls Try.prog 45 #[.slice aB lb lb, .int .u16 y] z.v fun e w' => e = .returned (.int .u16 (E : Nat)) ∧ Keep (fun _ => False) z.v w' := fun z => by
                    have h := rat_any aB lb lb y b z.v ((OB10.out.keep z.h).arg (by omega) (fun s _ => PB.out.lt16 s)) (by omega) (by omega)
                    rw [HYM.out, PB.out.cut (Nat.le_refl _), HEY.out] at h
                    exact h
                  have q0 : ∀ z : KeptBy w10, z.v.cell? ⟨gO, i, none⟩ = some (.int .u16 (p i : Nat)) := fun z => z.cell lR cR
                  clear hmk HIn
                  go_upto_region 36 with fail
                  refine wp_region_kept_tail 13 (by kernel_rfl) (by kernel_rfl) ?_
                  simp only [List.take_succ_cons, List.take_zero, List.drop_succ_cons, List.drop_zero]
                  repeat (quiet_step (first
                    | (go_at_call 45; exact kept_of (hAt _))
                    | (go_at_call 29; exact kept_of (rmul_kept _ _ _ hel hgD))))
                  refine wpQuiet_nil ?_
                  rintro w11 ⟨⟨_, k11⟩, rfl⟩
                  clear q0 hAt cR
                  have R11 := R10.out.keep k11 (by simp)
                  have cR := R11.val hij
                  have zR := R11.frozen i
                  have OV11 := Lib.hid ((OV10.out.keep k11).far (p := ⟨gO, i, none⟩) (Nat.lt_succ_self gO) (.int .u16 (p i ^^^ gm E G : Nat)))
                  have OB11 := Lib.hid ((OB10.out.keep k11).far (p := ⟨gO, i, none⟩) (Nat.lt_succ_self gO) (.int .u16 (p i ^^^ gm E G : Nat)))
                  have OD11 := Lib.hid ((OD10.out.keep k11).far (p := ⟨gO, i, none⟩) (Nat.lt_succ_self gO) (.int .u16 (p i ^^^ gm E G : Nat)))
                  have K11 := Lib.hid ((kx10.comp k11).setCell (p := ⟨gO, i, none⟩) (.inr hgw) (.int .u16 (p i ^^^ gm E G : Nat)))
                  have HR11 := Lib.hid (R11.store i (p i ^^^ gm E G) (f' := mendK p j v (synW p j) lv (i + 1)) (fun s _ => by rw [mendK_next, HN.out]))
                  clear R11 R10 kx10 k11 OV10 OB10 OD10
                  go_wp2_with fail
                  exact ⟨⟨i + 1, by omega, by go_num, by rw [HRN1.out]; go_num, HR11, OV11, OB11, OD11, K11.out⟩, by simp [intOf]; omega⟩
              · have e3 : ¬ ((r : Nat) : Int) = 0 := by omega
                have e4 : (((r : Nat) : Int) != 0) = true := by simpa using e3
                have HN := Lib.hid (R9.out.congr (fun s _ => (mendK_same p j v (synW p j) lv i (by rw [← HT.out, ← HYY.out, ← HRR.out]; exact hr0) s).symm))
                have HRN1 := Lib.hid (show rootN j v lv (i + 1) = rootN j v lv i by rw [HRN.out, if_neg hr0, Nat.add_zero])
                go_wp2_with fail
                exact ⟨⟨i + 1, by omega, by go_num, by rw [HRN1.out], HN, OV9, OB9, OD9, kx9⟩, by simp [intOf]; omega⟩
            · obtain rfl : i = j := by omega
              have hij' : ¬ (i : Int) < (i : Int) := by omega
              have HQ := Lib.hid (fun s (hs : s < i) => mendV_lt (S := synW p i) (m := lv) HP.out PV.out.lt s hs)
              have HR2 := Lib.hid (HR.out.congr (f' := mendV p i v (synW p i) lv) (fun s hs => by unfold mendK; rw [if_pos hs]))
              clear HR OV OB OD hij hij'
              generalize hq : mendV p i v (synW p i) lv = q at *
              generalize hr : rootN i v lv i = r at *
              clear hq hr
              by_cases hr1 : r = lv - 1
              · have AO := Lib.hid (HR2.out.argU (by omega) (fun s hs => by have := HQ.out s hs; omega))
                have f3 : (lv : Int) - 1 = (r : Int) := by omega
                have HR1 := Lib.hid hr1
                clear hr1
                go_wp2_with fail
                refine (rsyn_any _ _ _ _ _ AO.out (by omega)).mono ?_
                rintro e w9 ⟨aT, cT, rfl, oT, k9⟩
                rw [synW_mod HQ.out] at oT
                have AT := Lib.hid (oT.arg (by omega) (fun s _ => by have := synW_lt HQ.out s; omega))
                have AO9 := Lib.hid (AO.out.keep k9)
                have R9 := Lib.hid (HR2.out.keep k9 (by simp))
                have kx9 := kx.comp k9
                clear oT k9 AO HR2 kx
                go_wp2_with fail
                refine (clean_any _ _ _ _ _ AT.out (by omega)).mono ?_
                rintro e w10 ⟨bb, rfl, hbb, k10⟩
                have AO10 := Lib.hid (AO9.out.keep k10)
                have R10 := Lib.hid (R9.out.keep k10 (by simp))
                have kx10 := kx9.comp k10
                clear k10 AO9 R9 kx9 AT
                cases bb with
                | false =>
                  have HB := Lib.hid (fun h : ∀ s, s < 16 → synW q i s = 0 => Bool.false_ne_true (hbb.2 h))
                  clear hbb
                  go_wp2_with fail
                  go_ret3
                  exact ⟨.inr (.inr ⟨hn16, hn2, HP.out, .inr ⟨fun q' d h => HB.out (hpass.out ⟨q', d, h⟩).2.2.2.2, rfl⟩⟩), kx10⟩
                | true =>
                  have HB := Lib.hid (hbb.1 rfl)
                  have AD := Lib.hid (HA.out.keep kx10)
                  clear hbb
                  go_wp2_with fail
                  have hd := rdist_any _ _ i i c5 c q p _ AO10.out AD.out (by omega) (by omega)
                  rw [Nat.max_self, Nat.min_self, Nat.sub_self, Nat.zero_add] at hd
                  refine hd.mono ?_
                  rintro e w11 ⟨rfl, k11⟩
                  have AO11 := Lib.hid (AO10.out.keep k11)
                  have AD11 := Lib.hid (AD.out.keep k11)
                  have R11 := Lib.hid (R10.out.keep k11 (by simp))
                  have kx11 := kx10.comp k11
                  obtain ⟨d, hdd⟩ : ∃ d, d = cntNe q p i := ⟨_, rfl⟩
                  rw [← hdd] at hpass ⊢
                  have HDD := Lib.hid hdd
                  clear hd hdd AO10 AD R10 kx10 k11
                  by_cases hd8 : 8 < d
                  · have g1 : (8 : Int) < (d : Int) := by omega
                    have g2 : decide ((8 : Int) < (d : Int)) = true := by simpa using g1
                    go_wp2_with fail
                    go_ret3
                    exact ⟨.inr (.inr ⟨hn16, hn2, HP.out, .inr ⟨fun q' d' h => by have := (hpass.out ⟨q', d', h⟩).2.2.2.1; omega, rfl⟩⟩), kx11⟩
                  · have g1 : ¬ (8 : Int) < (d : Int) := by omega
                    have g2 : decide ((8 : Int) < (d : Int)) = false := by simpa using g1
                    have HNear := Lib.hid (show Near p i q d from ⟨HQ.out, HB.out, HDD.out.symm, by omega⟩)
                    go_wp2_with fail
                    have hd := rdist_any _ _ i i c5 c q p _ AO11.out AD11.out (by omega) (by omega)
                    rw [Nat.max_self, Nat.min_self, Nat.sub_self, Nat.zero_add, ← HDD.out] at hd
                    refine hd.mono ?_
                    rintro e w12 ⟨rfl, k12⟩
                    have kx12 := kx11.comp k12
                    have O12 := Lib.hid (OwnU.of_row (R11.out.keep k12 (by simp)) hgw hcO)
                    clear hd k12 kx11 R11 AO11 AD11
                    go_wp2_with fail
                    go_ret3
                    exact ⟨.inr (.inr ⟨hn16, hn2, HP.out, .inl ⟨q, d, _, c5, HNear.out, rfl, O12.out⟩⟩), kx12⟩
              · have f3 : ¬ (r : Int) = (lv : Int) - 1 := by omega
                have f4 : ((r : Int) != (lv : Int) - 1) = true := by simpa using f3
                have HR1 := Lib.hid hr1
                clear hr1
                go_wp2_with fail
                go_ret3
                exact ⟨.inr (.inr ⟨hn16, hn2, HP.out, .inr ⟨fun q' d h => HR1.out (hpass.out ⟨q', d, h⟩).2.1, rfl⟩⟩), kx⟩
end Go.Proofs.Ytnejnoiogojplaa
