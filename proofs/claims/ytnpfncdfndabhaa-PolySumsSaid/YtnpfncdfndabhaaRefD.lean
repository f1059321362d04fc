/- The reference's PolyDiv. -/
import Derived.Test.YtnpfncdfndabhaaRefM
import Derived.Test.YtnpfncdfndabhaaDiv
namespace Go.Proofs.Ytnpfncdfndabhaa
open Go.RowKit

theorem rinv_lt (a : Nat) (w : World) (ha : a < 1024) (h0 : a ≠ 0) :
    Calls Try.prog 29 #[.int .u16 a] w fun e w' => e = .returned (.tuple #[.int .u16 (gi a : Nat), .bool true]) ∧ w = w' := by
  have := rinv_any a w (by omega) true (Lib.hid (by rw [Nat.mod_eq_of_lt ha]; simpa using h0))
  rwa [Nat.mod_eq_of_lt ha] at this

set_option maxHeartbeats 8000000 in
set_option maxRecDepth 100000 in
theorem rdiv_any (a b : Option Addr) (na nb ca cb : Nat) (p q : Nat → Nat) (la lb : Nat) (hla : IsPol (cut p na) la) (hlb : IsPol (cut q nb) lb) (w : World) (ha : ArgU w a na p) (hb : ArgU w b nb q) (hna : na ≤ 1000000) (hnb : nb ≤ 1000000) :
    Calls Try.prog 19 #[.slice a na ca, .slice b nb cb] w fun e w' => ∃ aq nq ar nr, e = .returned (.tuple #[.slice aq nq nq, .slice ar nr nr, .bool (lb != 0)]) ∧
      ResU w' w.heap.size aq nq (quo (cut p na) la (cut q nb) lb) ∧ IsPol (quo (cut p na) la (cut q nb) lb) nq ∧ ResU w' w.heap.size ar nr (rst (cut p na) la (cut q nb) lb) ∧ IsPol (rst (cut p na) la (cut q nb) lb) nr ∧ Keep (fun _ => False) w w' := by
  have HA := Lib.hid ha
  have HB := Lib.hid hb
  have hla0 := Lib.hid hla
  have hlb0 := Lib.hid hlb
  clear ha hb hla hlb
  generalize hf : cut p na = f at *
  generalize hg : cut q nb = g at *
  have HF := Lib.hid hf
  have HG := Lib.hid hg
  have hlam : la ≤ na := by
    rcases Nat.lt_or_ge na la with h | h
    · exact absurd (by rw [← hf]; exact cut_zero p (by omega)) (hla0.out.lead (by omega))
    · exact h
  have hlbm : lb ≤ nb := by
    rcases Nat.lt_or_ge nb lb with h | h
    · exact absurd (by rw [← hg]; exact cut_zero q (by omega)) (hlb0.out.lead (by omega))
    · exact h
  clear hf hg
  go_enter Try.func19, Try.ntmps19
  go_wp2_with fail
  refine (rtrim_any _ _ _ _ _ HA.out hna).mono ?_
  rintro e w1 ⟨aR, la', rfl, rA, pA, lA, k2⟩
  rw [HF.out] at rA pA
  obtain rfl := hla0.out.uniq pA
  have B1 := Lib.hid (HB.out.keep k2)
  have kk1 := k2
  clear HB HA k2
  go_wp2_with fail
  refine (rtrim_any _ _ _ _ _ B1.out hnb).mono ?_
  rintro e w2 ⟨aB, lb', rfl, rB, pB, lB, k2⟩
  rw [HG.out] at rB pB
  obtain rfl := hlb0.out.uniq pB
  by_cases hb0 : lb = 0
  · subst hb0
    have kk2 := kk1.trans k2 (fun _ hi => .inl hi)
    clear rA rB
    go_wp2_with fail
    go_ret3
    refine ⟨none, 0, none, 0, rfl, .inl ⟨rfl, rfl⟩, ?_, .inl ⟨rfl, rfl⟩, ?_, kk2⟩
    · unfold quo
      rw [if_pos rfl]
      exact pol_none
    · unfold rst
      rw [if_pos rfl]
      exact pol_none
  · obtain ⟨gB, rfl, nB, bB⟩ : ∃ gB, aB = some ⟨gB, 0, none⟩ ∧ w1.heap.size ≤ gB ∧ Blk w2 gB 23 (uArr g lb) := by
      rcases rB with h | h
      · omega
      · exact h
    have farA : ∀ gR, aR = some ⟨gR, 0, none⟩ → gR < gB := by
      intro gR e
      rcases rA with ⟨h, _⟩ | ⟨g', h, _, hb⟩
      · rw [h] at e; cases e
      · rw [h] at e
        obtain rfl : g' = gR := by injection e with e; injection e
        have := hb.lt
        omega
    have rA2 := rA.keep k2
    have kk2 := kk1.trans k2 (fun _ hi => .inl hi)
    clear B1 kk1 k2 rA rB
    have cB := bB.val (show lb - 1 < lb by omega)
    have hgl := hlb0.out.lt (lb - 1)
    have hgn := hlb0.out.lead (by omega)
    have e1 : (lb : Int) - 1 = ((lb - 1 : Nat) : Int) := by omega
    have e2 : ((lb - 1 : Nat) : Int) < (lb : Int) := by omega
    have d1 : ¬ (lb : Int) = 0 := by omega
    go_wp2_with fail
    refine (rinv_lt _ _ hgl hgn).mono ?_
    rintro e w3 ⟨rfl, hw⟩
    subst hw
    clear e1 e2 cB hgl hgn
    obtain ⟨m, hm⟩ : ∃ m, m = quoN la lb := ⟨_, rfl⟩
    have hml : m = la + 1 - lb := hm
    have HMQ := Lib.hid hm
    have hmm : m ≤ 1000000 := by omega
    have hmk := make_u m m rfl (by omega)
    have hmx : (if (la : Int) - (lb : Int) + 1 < 0 then 0 else (la : Int) - (lb : Int) + 1) = (m : Int) := by split <;> omega
    have HMm := Lib.hid hml
    clear hm hml
    have kA := (Keep.refl (fun _ => False) w2).alloc (.cells (uArr (fun _ => 0) m) 23)
    have bq0 := Blk.new w2 23 (uArr (fun _ => 0) m)
    have rA3 := rA2.keep kA
    have bB3 := bB.alloc (.cells (uArr (fun _ => 0) m) 23)
    have kp3 := kk2.trans kA (fun _ hi => .inl hi)
    have nq := kk2.size
    have nqB : w2.heap.size ≠ gB := by have := bB.lt; omega
    have far2 : ∀ gR, aR = some ⟨gR, 0, none⟩ → gR ≠ gB ∧ gR ≠ w2.heap.size := fun gR e => ⟨by have := farA gR e; omega, by have := farA gR e; have := bB.lt; omega⟩
    clear rA2 bB kA kk2 farA
    go_wp2_with fail
    clear hmk hmx
    generalize w2.alloc (.cells (uArr (fun _ => 0) m) 23) = wA at bq0 rA3 bB3 kp3 ⊢
    generalize w2.heap.size = gq at bq0 nq nqB far2 ⊢
    go_loopw [10] (fun v wr => ∃ (k : Nat) (R Q : Nat → Nat), k ≤ m ∧ v = .int .i64 ((la : Int) - lb - m + k) ∧ Hid (divRun g lb k (R, Q) = divRun g lb m (f, fun _ => 0)) ∧ Hid (∀ i, R i < 1024) ∧ Hid (∀ i, la ≤ i → R i = 0) ∧ Hid (∀ i, Q i < 1024) ∧ Hid (∀ i, m ≤ i → Q i = 0) ∧
      ResU wr w.heap.size aR la R ∧ Blk wr gq 23 (uArr Q m) ∧ Blk wr gB 23 (uArr g lb) ∧ Keep (fun _ => False) w wr) (fun v _ => (intOf v + 1).toNat)
    case atStart => exact ⟨m, f, fun _ => 0, Nat.le_refl _, by congr 1; omega, Lib.hid rfl, hla0.out.lt |> Lib.hid, hla0.out.zero |> Lib.hid, Lib.hid (fun _ => show (0:Nat) < 1024 by omega), Lib.hid (fun _ _ => rfl), rA3, bq0, bB3, kp3⟩
    case round =>
      clear rA3 bq0 bB3 kp3
      obtain ⟨k, R, Q, hkm, rfl, Hrun, rl, Hrz, ql, Hqz, row, bq, bB, kp⟩ := hrel
      rcases k with _ | k
      · have hR := Lib.hid (row.arg (by omega) (fun i => by have := rl.out i; omega))
        have hQ := Lib.hid (bq.argU (by omega) (fun i _ => by have := ql.out i; omega))
        have eQ := Lib.hid (cut_of_lt ql.out Hqz.out)
        have eR := Lib.hid (cut_of_lt rl.out Hrz.out)
        have hsz := kp.size
        obtain ⟨z, hz⟩ : ∃ z : Int, z = (la : Int) - lb - m + (0 : Nat) := ⟨_, rfl⟩
        have hz0 : z < 0 := by have := HMm.out; omega
        rw [← hz]
        clear hz row bq bB
        go_wp2_with fail
        refine (rtrim_any _ _ _ _ _ hQ.out (by omega)).mono ?_
        rintro e W1 ⟨aq, nq', rfl, hq, pq, lq, k2⟩
        rw [eQ.out] at hq pq
        have hR1 := Lib.hid (hR.out.keep k2)
        go_wp2_with fail
        refine (rtrim_any _ _ _ _ _ hR1.out (by omega)).mono ?_
        rintro e W2 ⟨ar, nr, rfl, hr, pr, lr, k3⟩
        rw [eR.out] at hr pr
        have hsz2 := k2.size
        go_wp2_with fail
        go_ret3
        have e1 : quo f la g lb = Q := by
          have h := Hrun.out
          simp only [divRun] at h
          unfold quo
          rw [if_neg hb0, ← HMQ.out, ← h]
        have e2 : rst f la g lb = R := by
          have h := Hrun.out
          simp only [divRun] at h
          unfold rst
          rw [if_neg hb0, ← HMQ.out, ← h]
        rw [e1, e2]
        refine ⟨aq, nq', ar, nr, ?_, (hq.keep k3).more hsz, pq, hr.more (by omega), pr, (kp.trans k2 (fun _ hi => .inl hi)).trans k3 (fun _ hi => .inl hi)⟩
        have e3 : (lb != 0) = true := by simpa using hb0
        rw [e3]
        rfl
      · have hlal : lb ≤ la := by have := HMm.out; omega
        obtain ⟨gR, eaR, hNR, bR⟩ : ∃ gR, aR = some ⟨gR, 0, none⟩ ∧ w.heap.size ≤ gR ∧ Blk wr gR 23 (uArr R la) := by
          rcases row with h | ⟨gR, h1, h2, h3⟩
          · omega
          · exact ⟨gR, h1, h2, h3⟩
        obtain ⟨nRB, nRq⟩ := far2 gR eaR
        subst eaR
        clear row
        have hik : k + lb - 1 < la := by have := HMm.out; omega
        have ek : ((la : Int) - lb - m + ((k + 1 : Nat) : Int)) = (k : Int) := by have := HMm.out; omega
        have e1 : (k : Int) + (lb : Int) - 1 = ((k + lb - 1 : Nat) : Int) := by omega
        have HkI := Lib.hid ek
        rw [ek]
        clear ek
        have c2 := bR.val hik
        have hkm' : (k : Int) < (m : Int) := by omega
        have hkmn : k < m := by omega
        have hrk := rl.out (k + lb - 1)
        have hgi := gi_lt (g (lb - 1))
        obtain ⟨c, hc⟩ : ∃ c, c = divC g lb R k := ⟨_, rfl⟩
        have HC := Lib.hid hc
        have hcc : gm (R (k + lb - 1)) (gi (g (lb - 1))) = c := by rw [hc]; rfl
        have hcl : c < 1024 := by rw [hc]; exact gm_lt hrk _
        have e2 : ((k + lb - 1 : Nat) : Int) < (la : Int) := by omega
        have cq := bq.val hkmn
        have zq := bq.frozen k
        have HCC := Lib.hid hcc
        clear hc hcc
        go_wp2_with fail
        refine (rmul_lt _ _ _ hrk hgi).mono ?_
        rintro e w5 ⟨rfl, hw⟩
        subst hw
        rw [HCC.out]
        obtain ⟨Q', hQ'⟩ : ∃ Q', Q' = fun t => if t = k then c else Q t := ⟨_, rfl⟩
        have fq : Blk (wr.setCell ⟨gq, k, none⟩ (.int .u16 c)) gq 23 (uArr Q' m) := bq.storeU k _ (fun t _ => by rw [hQ'])
        have fR := bR.far (p := ⟨gq, k, none⟩) nRq (.int .u16 c)
        have fB := bB.far (p := ⟨gq, k, none⟩) (Ne.symm nqB) (.int .u16 c)
        have fK := kp.setCell (p := ⟨gq, k, none⟩) (.inr nq) (.int .u16 c)
        have hQk : Q' k = c := by rw [hQ']; simp
        have HQ := Lib.hid hQ'
        have HQk := Lib.hid hQk
        clear hQ' hQk bR bq bB kp e2 c2 e1
        have fR0 := fR
        rw [show uArr R la = uArr (divR g k c 0 R) la by rw [divR_zero]] at fR0
        clear fR
        go_wp2_with fail
        clear cq zq
        generalize wr.setCell ⟨gq, k, none⟩ (.int .u16 c) = w6 at fq fR0 fB fK ⊢
        obtain ⟨wo, hwo⟩ : ∃ wo : World, wo = wr := ⟨_, rfl⟩
        go_loopw [11] (fun v wr => ∃ j : Nat, j ≤ lb ∧ v = .int .i64 j ∧ Blk wr gR 23 (uArr (divR g k c j R) la) ∧ Blk wr gq 23 (uArr Q' m) ∧ Blk wr gB 23 (uArr g lb) ∧ Keep (fun _ => False) w wr) (fun v _ => lb - (intOf v).toNat)
        case atStart => exact ⟨0, by omega, rfl, fR0, fq, fB, fK⟩
        case round =>
          clear fR0 fq fB fK hwo
          obtain ⟨j, hj, rfl, fR, fq, fB, fK⟩ := hrel
          by_cases hjl : j < lb
          · have hjl' : (j : Int) < (lb : Int) := by omega
            have hkj : k + j < la := by have := HMm.out; omega
            have cg := fB.val hjl
            have cq := fq.val hkmn
            rw [HQk.out] at cq
            have cR := fR.val hkj
            have q2 : ∀ z : KeptBy wr, z.v.cell? ⟨gR, k + j, none⟩ = some (.int .u16 (divR g k c j R (k + j) : Nat)) := fun z => z.cell fR.lt cR
            have q3 : ∀ z : KeptBy wr, z.v.cell? ⟨gq, k, none⟩ = some (.int .u16 c) := fun z => z.cell fq.lt cq
            have q4 : ∀ z : KeptBy wr, z.v.cell? ⟨gB, j, none⟩ = some (.int .u16 (g j : Nat)) := fun z => z.cell fB.lt cg
            have hgj := hlb0.out.lt j
            have hrl := divR_lt (g := g) (k := k) (j := j) hcl rl.out (k + j)
            have hx := xor_u16 (a := divR g k c j R (k + j)) (b := gm c (g j)) (by omega) (by have := gm_lt hcl (g j); omega)
            have e1 : (k : Int) + (j : Int) < (la : Int) := by omega
            have e2 : (0 : Int) ≤ (k : Int) + (j : Int) := by omega
            have e3 : ((k : Int) + (j : Int)).toNat = k + j := by omega
            go_upto_region 13 with fail
            have e0 : IntKind.i64.wrap ((k : Int) + (j : Int)) = (k : Int) + (j : Int) := wraps_i64 _ (by omega) (by omega)
            refine wp_region_kept_tail 21 (by kernel_rfl) (by kernel_rfl) ?_
            simp only [List.take_succ_cons, List.take_zero, List.drop_succ_cons, List.drop_zero]
            repeat (quiet_step (first
              | (go_at_call 30; exact kept_of (rmul_kept _ _ _ hcl hgj))))
            refine wpQuiet_nil ?_
            rintro w7 ⟨⟨_, k7⟩, rfl⟩
            clear q2 q3 q4 e0
            have dR := fR.keep k7 (by simp)
            have cR7 := dR.val hkj
            have zR := dR.frozen (k + j)
            have HN := Lib.hid (dR.storeU (k + j) (divR g k c j R (k + j) ^^^ gm c (g j)) (f' := divR g k c (j + 1) R) (fun t _ => divR_next g k c j R t))
            have Hq := Lib.hid ((fq.keep k7 (by simp)).far (p := ⟨gR, k + j, none⟩) (Ne.symm nRq) (.int .u16 (divR g k c j R (k + j) ^^^ gm c (g j) : Nat)))
            have HBB := Lib.hid ((fB.keep k7 (by simp)).far (p := ⟨gR, k + j, none⟩) (Ne.symm nRB) (.int .u16 (divR g k c j R (k + j) ^^^ gm c (g j) : Nat)))
            have HK := Lib.hid ((fK.trans k7 (fun _ hi => .inl hi)).setCell (p := ⟨gR, k + j, none⟩) (.inr hNR) (.int .u16 (divR g k c j R (k + j) ^^^ gm c (g j) : Nat)))
            clear fR fq fB fK k7 dR
            go_wp2_with fail
            exact ⟨⟨j + 1, by omega, by go_num, HN.out, Hq.out, HBB.out, HK.out⟩, by simp [intOf]; omega⟩
          · obtain rfl : j = lb := by omega
            have hjl' : ¬ (j : Int) < (j : Int) := by omega
            have HD : Hid (ResU wr w.heap.size (some ⟨gR, 0, none⟩) la (divR g k c j R) ∧ Blk wr gq 23 (uArr Q' m) ∧ Blk wr gB 23 (uArr g j) ∧ Keep (fun _ => False) w wr) := Lib.hid ⟨.inr ⟨gR, rfl, hNR, fR⟩, fq, fB, fK⟩
            clear fR fq fB fK
            go_wp2_with fail
            refine ⟨⟨k, divR g k c j R, Q', by omega, ?_, Lib.hid ?_, Lib.hid (divR_lt hcl rl.out), Lib.hid (fun i hi => ?_), Lib.hid (fun i => ?_), Lib.hid (fun i hi => ?_), HD.out⟩, ?_⟩
            · have := HkI.out
              congr 1
              omega
            · have h := Hrun.out
              simp only [divRun] at h
              rw [← HC.out, ← HQ.out] at h
              exact h
            · unfold divR
              rw [if_neg (by have := HMm.out; omega)]
              exact Hrz.out i hi
            · rw [HQ.out]
              show (if i = k then c else Q i) < 1024
              split
              · exact hcl
              · exact ql.out i
            · rw [HQ.out]
              show (if i = k then c else Q i) = 0
              rw [if_neg (by omega)]
              exact Hqz.out i hi
            · simp [intOf]
end Go.Proofs.Ytnpfncdfndabhaa
