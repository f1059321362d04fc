/- blackboardlaw25.GaugeMeans: points moved all by the same whole step. -/
import Derived.Test.YtdjgjffgheocfaaGreatLawTurns25
import Derived.Deep.AppendLies
namespace Go.Proofs.YtdjgjffgheocfaaGreat
open Go.RowKit Ieee

/-- append of one value, just laid, onto a row of the call's own: where the new row lies. -/
theorem wpList_append_1l {w : World} {ops : Array Oper} {rest : List Oper} {o : Oper} {a : Act} {Q : Exit → Act → World → Prop} {L T : TypeId} (ty : RowTy L T) (hgd : o.guard = none) (s x : Operand)
    (ho : o.op = .call { callee := .builtin .append, args := #[s, x], argTypes := #[L, L] })
    (N : Nat) (ao : Option Addr) (n co : Nat) (f : Nat → Value) (hs : a.eval s = .slice ao n co) (hown : OwnV w T N ao n co f) (g : Nat) (v : Value) (hx : a.eval x = .slice (some ⟨g, 0, none⟩) 1 1) (hp : Blk w g T #[v])
    (h1 : v.oneCell' = true) (hv : v = f n) (hnm : n + 1 ≤ 1000000) (hN : N ≤ w.heap.size)
    (h : ∀ g2 c' w', OwnV w' T N (some ⟨g2, 0, none⟩) (n + 1) c' f → w.grownBy w' (Value.slice ao n co).ownBlock → ((Value.slice ao n co).ownBlock = some g2 ∨ g2 = w.heap.size) → g2 < w'.heap.size → wpList Tryz.prog ops Q rest (a.put o.dst (.slice (some ⟨g2, 0, none⟩) (n + 1) c')) w') :
    wpList Tryz.prog ops Q (o :: rest) a w := by
  obtain ⟨i, z, b, hi, hz, hsz, hby, hzs, hb⟩ := ty.i
  refine wpList_append_lies w hgd s x L ho N T i z 1 b ty.u hi hz hsz hby hzs (by omega) (.slice ao n co) n (vList f n) hs hown ⟨g, 0, none⟩ 1 1 [v] hx rfl ?_ ?_ (by omega) (by unfold maxLen; omega) (Nat.le_trans (Nat.mul_le_mul hnm hb) (by omega)) hN _ rfl ?_
  · intro j u hj
    rcases j with _ | j
    · simp at hj
      subst hj
      rw [show (⟨g, 0, none⟩ : Addr).add 0 = ⟨g, 0, none⟩ from rfl, hp.cell]
      rfl
    · simp at hj
  · intro u hu
    simp at hu
    subst hu
    exact h1
  · intro g2 cap w' h1 h2 h3 h4
    refine h g2 cap w' ?_ h2 h3 h4
    have e : vList f (n + 1) = vList f n ++ [v] := by
      unfold vList
      rw [List.range_succ, List.map_append, hv]
      rfl
    unfold OwnV
    rw [e]
    exact h1
/-- Two rows in two blocks. -/
def ApartV (v u : Value) : Prop := ∀ k, v.ownBlock = some k → u.ownBlock ≠ some k
theorem ApartV.symm {v u : Value} (h : ApartV v u) : ApartV u v := fun k hu hv => h k hv hu
theorem ApartV.kept {w w' : World} {T : TypeId} {N : Nat} {v : Value} {a : Option Addr} {n c : Nat} {f : Nat → Value} (h : ApartV v (.slice a n c)) (o : OwnV w T N a n c f) (g : w.grownBy w' v.ownBlock) : OwnV w' T N a n c f :=
  World.ownsRow.kept o g (by
    cases e : (Value.slice a n c).ownBlock with
    | none => exact .inl rfl
    | some k => exact .inr (fun e2 => h k e2.symm e))
theorem ApartV.new {w : World} {T : TypeId} {N : Nat} {v : Value} {a : Option Addr} {g n c m c' H : Nat} {f : Nat → Value} (h : ApartV v (.slice a m c')) (hat : v.ownBlock = some g ∨ g = H) (hH : w.heap.size = H) (o : OwnV w T N a m c' f) : ApartV (.slice (some ⟨g, 0, none⟩) n c) (.slice a m c') := fun k hk hu => by
  simp [Value.ownBlock] at hk
  subst hk
  rcases hat with hv | rfl
  · exact h g hv hu
  · have := (o.lt _ hu).2
    omega
/-- The mean of 64 points, moved. -/
theorem mean_64 {S d : Int} (hS : S.natAbs ≤ 1048576000) (hd : d.natAbs ≤ 1000) :
    double.div (fp 0 S) (fp 0 ((64 : Nat) : Int)) = some (fp (-6) S) ∧ double.add (fp (-6) S) (fp 0 d) = some (fp (-6) (S + d * 64)) := by
  have p6 : Pp (-6) := ⟨by omega, by omega⟩
  have f1 := fp_fine (p := 0) pp0 (n := S) (by unfold Sm; omega) 6
  have f2 := fp_fine (p := 0) pp0 (n := d) (by unfold Sm; omega) 6
  have e64 : (2 : Int) ^ 6 = 64 := by decide
  rw [e64] at f1 f2
  have hp : (0 : Int) - ((6 : Nat) : Int) = -6 := by decide
  rw [hp] at f1 f2
  refine ⟨?_, ?_⟩
  · rw [← f1]
    exact fp_div p6 pp0 p6 (by unfold Sm; omega) (by unfold Sm; decide) (by decide) (by unfold Sm; omega)
  · rw [← f2]
    exact fp_add p6 (by unfold Sm; omega) (by unfold Sm; omega) (by unfold Sm; omega)
/-- All alike. -/
theorem mean_same {d : Int} {n : Nat} (hd : d.natAbs ≤ 1000) (h0 : 0 < n) (hn : n ≤ 1000) : double.div (fp 0 (d * (n : Int))) (fp 0 (n : Nat)) = some (fp 0 d) := by
  have hm : (d * (n : Int)).natAbs ≤ 1000000 := by
    rw [Int.natAbs_mul]
    exact Nat.mul_le_mul hd (show (n : Int).natAbs ≤ 1000 by omega)
  exact fp_div pp0 pp0 pp0 (by unfold Sm; omega) (by unfold Sm; omega) (by omega) (by unfold Sm; omega)
/-- The law's points: round and round; moved. -/
def rnd (n : Nat) (X : Nat → Int) : Nat → Int := fun i => X (i % n)
def mvd (n : Nat) (X : Nat → Int) (d : Int) : Nat → Int := fun i => X (i % n) + d
theorem i8s_of {n : Int} (h : (Lit.int .i8 n).wf = true) : -128 ≤ n ∧ n < 128 := by
  have := Go.bounds_i8 h
  omega
/-- The two rows. -/
structure MnS (w : World) (N : Nat) (X Y : Nat → Int) (n : Nat) (dx dy : Int) (ap aq : Option Addr) (cp cq j : Nat) : Prop where
  p : OwnV w 27 N ap j cp (wpV (rnd n X) (rnd n Y))
  q : OwnV w 27 N aq j cq (wpV (mvd n X dx) (mvd n Y dy))
  a : ApartV (.slice ap j cp) (.slice aq j cq)
set_option maxRecDepth 100000 in
set_option maxHeartbeats 4000000 in
theorem means25_true (HAw : ∀ w, Calls Tryz.prog 7 #[] w fun e w' => e = .returned (.bool true) ∧ Keep (fun _ => False) w w') (w : World) (a : Option Addr) (n c : Nat) (X Y : Nat → Int) (dx dy : Int) (ha : ArgPairs .i8 w a n X Y) (hdx : -128 ≤ dx ∧ dx < 128) (hdy : -128 ≤ dy ∧ dy < 128) :
    Calls Tryz.prog 6 #[.slice a n c, .agg #[.int .i8 dx, .int .i8 dy]] w fun e w' => e = .returned (.bool true) ∧ Keep (fun _ => False) w w' := by
  have hsm : n ≤ maxLen := ha.small
  have HB := Lib.hid (show ∀ i, i < n → (-128 ≤ X i ∧ X i < 128) ∧ (-128 ≤ Y i ∧ Y i < 128) from fun i hi => ⟨i8s_of (ha.wf i hi).1, i8s_of (ha.wf i hi).2⟩)
  have HA := Lib.hid ha
  have HAW := Lib.hid HAw
  have hb0 := Blk.new w 35 #[.int .i8 dx, .int .i8 dy]
  have k0 := (Keep.refl (fun _ => False) w).alloc (.cells #[.int .i8 dx, .int .i8 dy] 35)
  clear ha HAw
  go_enter Tryz.func6, Tryz.ntmps6
  go_wp2_with fail
  refine (HAW.out _).mono ?_
  rintro e w1 ⟨rfl, k1'⟩
  have k1 := k0.comp k1'
  have hb1 := hb0.keep k1' (by simp)
  clear hb0 k0 k1'
  by_cases hn0 : n = 0
  · subst hn0
    go_wp2_with fail
    go_ret
    exact ⟨rfl, k1⟩
  have hn0b : ((n : Int) == 0) = false := by simp; omega
  by_cases hn : 200 < n
  · have hn' : (200 : Int) < (n : Int) := by omega
    go_wp2_with fail
    go_ret
    exact ⟨rfl, k1⟩
  have hn' : ¬ (200 : Int) < (n : Int) := by omega
  have hn3 : n ≤ 200 := by omega
  have c0 : w1.cell? ⟨w.heap.size, 0, none⟩ = some (.int .i8 dx) := by rw [hb1.cell]; rfl
  have c1 : w1.cell? ⟨w.heap.size, 1, none⟩ = some (.int .i8 dy) := by rw [hb1.cell]; rfl
  have f0 : floatOfInt .f64 dx = fp 0 dx := rfl
  have f1 : floatOfInt .f64 dy = fp 0 dy := rfl
  have HK1 := Lib.hid k1
  clear hb1 k1
  generalize hDX : fp 0 dx = DX at *
  generalize hDY : fp 0 dy = DY at *
  have HD := Lib.hid (And.intro hDX hDY)
  clear hDX hDY
  go_wp2_with fail
  clear c0 c1 f0 f1
  go_loopw [5, 6, 8] (fun v5 v6 v8 wr => ∃ (j : Nat) (ap aq : Option Addr) (cp cq : Nat), j ≤ 64 ∧ v5 = .slice ap j cp ∧ v6 = .slice aq j cq ∧ v8 = .int .i64 j ∧ Hid (MnS wr w1.heap.size X Y n dx dy ap aq cp cq j) ∧ Keep (fun _ => False) w1 wr) (fun _ _ v _ => 64 - (intOf v).toNat)
  case atStart => exact ⟨0, none, none, 0, 0, by omega, rfl, rfl, rfl, Lib.hid ⟨OwnV.nil _ _ _ _, OwnV.nil _ _ _ _, fun k hk => by simp [Value.ownBlock] at hk⟩, Keep.refl _ _⟩
  case round =>
    obtain ⟨j, ap, aq, cp, cq, hj, rfl, rfl, rfl, HO, kk⟩ := hrel
    by_cases hjn : j < 64
    · have hjn' : (j : Int) < 64 := by omega
      obtain ⟨bA, oA, rfl, hbA, hcA⟩ := HA.out.at_ (by omega)
      obtain ⟨m, hm⟩ : ∃ m, m = j % n := ⟨_, rfl⟩
      have hmn : m < n := by rw [hm]; exact Nat.mod_lt _ (by omega)
      have kd := HK1.out.comp kk
      have c0 := (kd.cell (p := ⟨bA, oA + m * 2, none⟩) hbA (by simp)).trans (hcA m hmn).1
      have c1 := (kd.cell (p := ⟨bA, oA + m * 2 + 1, none⟩) hbA (by simp)).trans (hcA m hmn).2
      have hXY := HB.out m hmn
      have f0 : floatOfInt .f64 (X m) = fp 0 (X m) := rfl
      have f1 : floatOfInt .f64 (Y m) = fp 0 (Y m) := rfl
      have HV := Lib.hid (show wpV (rnd n X) (rnd n Y) j = .complex .f64 (fp 0 (X m)) (fp 0 (Y m)) by rw [hm]; rfl)
      have HV2 := Lib.hid (show wpV (mvd n X dx) (mvd n Y dy) j = .complex .f64 (fp 0 (X m + dx)) (fp 0 (Y m + dy)) by rw [hm]; rfl)
      have sm : ∀ a : Int, a.natAbs ≤ 1000 → Sm a := fun a h => by unfold Sm; omega
      have hop := fun t w => c_addW (sm (X m) (by omega)) (sm (Y m) (by omega)) (Wp.of pp0 (sm dx (by omega))) (Wp.of pp0 (sm dy (by omega))) (sm (X m + dx) (by omega)) (sm (Y m + dy) (by omega)) t w
      rw [HD.out.1, HD.out.2] at hop
      have e7 : (j : Int).tmod (n : Int) = (m : Int) := by rw [Int.tmod_eq_emod_of_nonneg (by omega), hm]; rfl
      have e7' : (j : Int) % (n : Int) = (m : Int) := by rw [hm]; rfl
      have hnz : ¬ (n : Int) = 0 := by omega
      have hnm1 : ¬ (n : Int) = -1 := by omega
      have hmn' : (m : Int) < (n : Int) := by omega
      generalize fp 0 (X m) = FX at *
      generalize fp 0 (Y m) = FY at *
      generalize fp 0 (X m + dx) = GX at *
      generalize fp 0 (Y m + dy) = GY at *
      generalize X m = x at *
      generalize Y m = y at *
      have HKK := Lib.hid kk
      clear hcA kk hm sm
      go_wp2_with fail
      go_quiet (fail)
      have kL := (HKK.out.drewN nq).alloc (.cells #[.complex .f64 FX FY] 27)
      have kq : Keep (fun _ => False) wr ((wr.drewN nq).alloc (.cells #[.complex .f64 FX FY] 27)) := ((Keep.refl (fun _ => False) wr).drewN nq).alloc _
      have OL := Lib.hid (HO.out.p.keep kq)
      have OQ := Lib.hid (HO.out.q.keep kq)
      have OA := Lib.hid HO.out.a
      have BL := Lib.hid (Blk.new (wr.drewN nq) 27 #[.complex .f64 FX FY])
      have hsL := kL.size
      clear c0 c1 kq HO e7 e7' hnz hnm1
      go_wp2_with (refine wpList_append_1l ty_c rfl (.tmp 52) (.tmp 54) rfl w1.heap.size ap j cp (wpV (rnd n X) (rnd n Y)) rfl OL.out (wr.drewN nq).heap.size _ rfl BL.out rfl HV.out.symm (by omega) hsL ?_)
      intro g2 c2 w6 o6 gr6 at6 lt6
      have OQ6 := Lib.hid (OA.out.kept OQ.out gr6)
      have OA6 := Lib.hid (OA.out.new (n := j + 1) (c := c2) at6 (by simp) OQ.out)
      have O6 := Lib.hid o6
      have K6 := Lib.hid (kL.grown gr6 (fun t ht => .inr (OL.out.lt t ht).1))
      clear o6 gr6 at6 kL OL BL hsL OQ OA
      have kL := K6.out.alloc (.cells #[.complex .f64 GX GY] 27)
      have kq : Keep (fun _ => False) w6 (w6.alloc (.cells #[.complex .f64 GX GY] 27)) := (Keep.refl (fun _ => False) w6).alloc _
      have OP7 := Lib.hid (O6.out.keep kq)
      have OQ7 := Lib.hid (OQ6.out.keep kq)
      have BL := Lib.hid (Blk.new w6 27 #[.complex .f64 GX GY])
      have hsL := kL.size
      clear kq O6 OQ6
      go_wp2_with (refine wpList_append_1l ty_c rfl (.tmp 56) (.tmp 60) rfl w1.heap.size aq j cq (wpV (mvd n X dx) (mvd n Y dy)) rfl OQ7.out w6.heap.size _ rfl BL.out rfl HV2.out.symm (by omega) hsL ?_)
      intro g3 c3 w7 o7 gr7 at7 lt7
      have OP8 := OA6.out.symm.kept OP7.out gr7
      have OA8 := (OA6.out.symm.new (n := j + 1) (c := c3) at7 (by simp) OP7.out).symm
      have H8 := Lib.hid (show MnS w7 w1.heap.size X Y n dx dy (some ⟨g2, 0, none⟩) (some ⟨g3, 0, none⟩) c2 c3 (j + 1) from ⟨OP8, o7, OA8⟩)
      have K8 := Lib.hid (kL.grown gr7 (fun t ht => .inr (OQ7.out.lt t ht).1))
      clear OP8 OA8 o7 gr7 at7 kL OP7 OQ7 OA6 BL hsL
      go_wp2_with fail
      go_roundw
      case rel => exact ⟨j + 1, _, _, c2, c3, by omega, rfl, rfl, by go_num, H8, K8.out⟩
      case measure => simp [intOf]; omega
    · obtain rfl : j = 64 := by omega
      have hjn' : ¬ (64 : Int) < 64 := by omega
      have KR := Lib.hid (HK1.out.comp kk)
      have HPQ := Lib.hid (And.intro (HO.out.p.arg (by omega)) (HO.out.q.arg (by omega)))
      have hzR := KR.out.size
      clear kk HO
      go_wp2_with fail
      obtain ⟨wA, hwA⟩ : ∃ wA, wA = wr := ⟨_, rfl⟩
      subst hwA
      go_loopw [10, 11] (fun v10 v11 wt => ∃ (i : Nat) (ao : Option Addr) (co : Nat), i ≤ n ∧ v10 = .slice ao i co ∧ v11 = .int .i64 i ∧ Hid (OwnV wt 27 wA.heap.size ao i co (wpV (fun _ => dx) (fun _ => dy))) ∧ Keep (fun _ => False) wA wt) (fun _ v _ => n - (intOf v).toNat)
      case atStart => exact ⟨0, none, 0, by omega, rfl, rfl, Lib.hid (OwnV.nil _ _ _ _), Keep.refl _ _⟩
      case round =>
        obtain ⟨i, ao, co, hi, rfl, rfl, HO, kk⟩ := hrel
        by_cases hin : i < n
        · have hin' : (i : Int) < (n : Int) := by omega
          have kL := kk.alloc (.cells #[.complex .f64 DX DY] 27)
          have OL := Lib.hid (HO.out.keep ((Keep.refl (fun _ => False) wr).alloc (.cells #[.complex .f64 DX DY] 27)))
          have BL := Lib.hid (Blk.new wr 27 #[.complex .f64 DX DY])
          have hsL := kL.size
          have HV := Lib.hid (show wpV (fun _ => dx) (fun _ => dy) i = .complex .f64 DX DY by rw [← HD.out.1, ← HD.out.2]; rfl)
          clear kk HO
          go_wp2_with (refine wpList_append_1l ty_c rfl (.tmp 68) (.tmp 70) rfl wA.heap.size ao i co (wpV (fun _ => dx) (fun _ => dy)) rfl OL.out wr.heap.size _ rfl BL.out rfl HV.out.symm (by omega) hsL ?_)
          intro g2 c2 w6 o6 gr6 at6 lt6
          have O6 := Lib.hid o6
          have K6 := Lib.hid (kL.grown gr6 (fun t ht => .inr (OL.out.lt t ht).1))
          clear o6 gr6 at6 kL OL BL hsL
          go_wp2_with fail
          go_roundw
          case rel => exact ⟨i + 1, _, c2, by omega, rfl, by go_num, O6, K6.out⟩
          case measure => simp [intOf]; omega
        · obtain rfl : i = n := by omega
          have hin' : ¬ (i : Int) < (i : Int) := by omega
          have bp1 : Bd 64 (rnd i X) := fun t ht => by have := (HB.out (t % i) (Nat.mod_lt _ (by omega))).1; show (X (t % i)).natAbs ≤ _; omega
          have bp2 : Bd 64 (rnd i Y) := fun t ht => by have := (HB.out (t % i) (Nat.mod_lt _ (by omega))).2; show (Y (t % i)).natAbs ≤ _; omega
          have bq1 : Bd 64 (mvd i X dx) := fun t ht => by have := (HB.out (t % i) (Nat.mod_lt _ (by omega))).1; show (X (t % i) + dx).natAbs ≤ _; omega
          have bq2 : Bd 64 (mvd i Y dy) := fun t ht => by have := (HB.out (t % i) (Nat.mod_lt _ (by omega))).2; show (Y (t % i) + dy).natAbs ≤ _; omega
          have hs1 : sumI (mvd i X dx) 64 = sumI (rnd i X) 64 + dx * 64 := by
            rw [show mvd i X dx = fun t => rnd i X t + (fun _ => dx) t from rfl, sumI_add, sumI_const]
            rfl
          have hs2 : sumI (mvd i Y dy) 64 = sumI (rnd i Y) 64 + dy * 64 := by
            rw [show mvd i Y dy = fun t => rnd i Y t + (fun _ => dy) t from rfl, sumI_add, sumI_const]
            rfl
          have l1 := sumI_sm (n := 64) (by omega) bp1
          have l2 := sumI_sm (n := 64) (by omega) bp2
          have l3 := sumI_sm (n := 64) (by omega) bq1
          have l4 := sumI_sm (n := 64) (by omega) bq2
          have mp1 := mean_64 (d := dx) l1 (by omega)
          have mp2 := mean_64 (d := dy) l2 (by omega)
          have mq1 := mean_64 (d := dx) l3 (by omega)
          have mq2 := mean_64 (d := dy) l4 (by omega)
          have kt := kk
          have TQ := Lib.hid (mean_any aq 64 cq _ _ wr (HPQ.out.2.keep kt) (by omega) (by omega) bq1 bq2 _ _ mq1.1 mq2.1)
          have TP := Lib.hid (mean_any ap 64 cp _ _ wr (HPQ.out.1.keep kt) (by omega) (by omega) bp1 bp2 _ _ mp1.1 mp2.1)
          have s1 : double.div (fp 0 (sumI (fun _ => dx) i)) (fp 0 (i : Nat)) = some DX := by rw [sumI_const, ← HD.out.1]; exact mean_same (by omega) (by omega) (by omega)
          have s2 : double.div (fp 0 (sumI (fun _ => dy) i)) (fp 0 (i : Nat)) = some DY := by rw [sumI_const, ← HD.out.2]; exact mean_same (by omega) (by omega) (by omega)
          have TS := Lib.hid (mean_any ao i co _ _ wr (HO.out.arg (by omega)) (by omega) (by omega) (fun t ht => by show dx.natAbs ≤ _; omega) (fun t ht => by show dy.natAbs ≤ _; omega) _ _ s1 s2)
          have p6 : Pp (-6) := ⟨by omega, by omega⟩
          have hop : ∀ t' w, (binOp .add t' (.complex .f64 (fp (-6) (sumI (rnd i X) 64)) (fp (-6) (sumI (rnd i Y) 64))) (.complex .f64 DX DY)).run Tryz.prog w = .ok (.complex .f64 (fp (-6) (sumI (mvd i X dx) 64)) (fp (-6) (sumI (mvd i Y dy) 64))) w := fun t' w => run_complex_sum w .add (.inl rfl) t' .f64 _ _ _ _ _ _ (by
            have h1 := mp1.2
            have h2 := mp2.2
            rw [← hs1, HD.out.1] at h1
            rw [← hs2, HD.out.2] at h2
            unfold cSumBits
            rw [show floatBits .add .f64 (fp (-6) (sumI (rnd i X) 64)) DX = some _ from h1, show floatBits .add .f64 (fp (-6) (sumI (rnd i Y) 64)) DY = some _ from h2]
            rfl)
          have o1 := order_fp p6 (show Sm (sumI (mvd i X dx) 64) by unfold Sm; omega) (show Sm (sumI (mvd i X dx) 64) by unfold Sm; omega) rfl
          have o2 := order_fp p6 (show Sm (sumI (mvd i Y dy) 64) by unfold Sm; omega) (show Sm (sumI (mvd i Y dy) 64) by unfold Sm; omega) rfl
          have o3 := order_fp pp0 (show Sm dx by unfold Sm; omega) (show Sm dx by unfold Sm; omega) rfl
          have o4 := order_fp pp0 (show Sm dy by unfold Sm; omega) (show Sm dy by unfold Sm; omega) rfl
          rw [HD.out.1] at o3
          rw [HD.out.2] at o4
          have KE := Lib.hid (KR.out.comp kk)
          clear hs1 hs2 l1 l2 l3 l4 mp1 mp2 mq1 mq2 kt s1 s2 p6 bp1 bp2 bq1 bq2 kk HO HPQ KR
          generalize fp (-6) (sumI (mvd i X dx) 64) = QX at *
          generalize fp (-6) (sumI (mvd i Y dy) 64) = QY at *
          generalize fp (-6) (sumI (rnd i X) 64) = PX at *
          generalize fp (-6) (sumI (rnd i Y) 64) = PY at *
          go_wp2_with fail
          refine TQ.out.mono ?_
          rintro e w2 ⟨rfl, rfl⟩
          go_wp2_with fail
          refine TP.out.mono ?_
          rintro e w2 ⟨rfl, rfl⟩
          go_wp2_with fail
          refine TS.out.mono ?_
          rintro e w2 ⟨rfl, rfl⟩
          go_wp2_with fail
          go_ret
          exact ⟨rfl, KE.out⟩
set_option maxRecDepth 100000 in
theorem i8pair_of {H : Type} {enc : TypeId × Value → H} {w : World} {base b0 : Nat} {v : Value} {d : DataW H} {ps : List MemPlace} {sp : Nat → Bool}
    (hv : Value.okWide Tryz.prog w .any b0 35 v) (h : DataW.Trod enc Tryz.prog w base sp true 35 v d ps) :
    ∃ n0 n1 : Int, (-128 ≤ n0 ∧ n0 < 128) ∧ (-128 ≤ n1 ∧ n1 < 128) ∧ v = .agg #[.int .i8 n0, .int .i8 n1] := by
  simp only [Value.okWide, Tryz.underlying35] at hv
  obtain ⟨cs, rfl, h2, _⟩ := hv
  obtain ⟨fuel, hf⟩ := h
  obtain ⟨xs, m, _, _, _, hlen, hf2⟩ := DataW.trod_array Tryz.underlying35 hf
  have c1 : Tryz.prog.cellsOf 34 = 1 := by kernel_rfl
  have c2 : Tryz.prog.cellsOf 35 = 2 := by kernel_rfl
  rw [c2] at h2
  have h0 := hf2 0 (by omega)
  have h1 := hf2 1 (by omega)
  rw [c1, List.getElem?_eq_getElem (by omega)] at h0 h1
  obtain ⟨a, e0, _, wa⟩ := DataW.trod_int Tryz.underlying34 h0
  obtain ⟨b, e1, _, wb⟩ := DataW.trod_int Tryz.underlying34 h1
  refine ⟨a, b, i8s_of wa, i8s_of wb, ?_⟩
  obtain ⟨x, y, rfl⟩ : ∃ x y, cs = #[x, y] := by
    rcases cs with ⟨l⟩
    match l, h2 with
    | [x, y], _ => exact ⟨x, y, rfl⟩
  simp [Value.cells] at e0 e1
  rw [e0, e1]
set_option maxRecDepth 100000 in
theorem means25_of (HAw : ∀ w, Calls Tryz.prog 7 #[] w fun e w' => e = .returned (.bool true) ∧ Keep (fun _ => False) w w') {H : Type} {enc : TypeId × Value → H} {base base' b0 : Nat} {a : Option Addr} {len cap : Nat} {v : Value} {d d' : DataW H} {ps ps' : List MemPlace} {sp sp' : Nat → Bool} (w : World)
    (h : DataW.Trod enc Tryz.prog w base sp true 33 (.slice a len cap) d ps) (hv : Value.okWide Tryz.prog w .any b0 35 v) (h' : DataW.Trod enc Tryz.prog w base' sp' true 35 v d' ps') :
    Calls Tryz.prog 6 #[.slice a len cap, v] w fun e w' => e = .returned (.bool true) ∧ Keep (fun _ => False) w w' := by
  obtain ⟨X, Y, hz⟩ := pairs_of Tryz.underlying33 Tryz.underlying35 Tryz.underlying34 (by kernel_rfl) (by kernel_rfl) h
  obtain ⟨n0, n1, l0, l1, rfl⟩ := i8pair_of hv h'
  exact means25_true HAw w a len cap X Y n0 n1 hz l0 l1
end Go.Proofs.YtdjgjffgheocfaaGreat
