/- The reference's Make: a page. -/
import Derived.Test.YtdlmjjlejkkniaaGreatRefOut
import Derived.Test.YtdlmjjlejkkniaaGreatRefE
import Derived.Test.YtdlmjjlejkkniaaGreatSize
namespace Go.Proofs.YtdlmjjlejkkniaaGreat
open Go.RowKit

section
variable {w w' : World} {N W : Nat} {A : Nat → Option Addr} {L C : Nat → Nat} {p : Nat → Nat → Nat}
/-- A row is put in another's place. -/
theorem Fam.put (h : Fam w N W A L C p) (hk : Keep (fun _ => False) w w') (hN : N ≤ w.heap.size) {r : Nat} (hr : r < W) {a : Option Addr} {n c : Nat} {q : Nat → Nat} (hq : OwnU w' w.heap.size a n c q) :
    Fam w' N W (updF A r a) (updF L r n) (updF C r c) (updF p r q) := by
  have key : ∀ j, j < W → A j = a → A j = none := fun j hj e => by
    rcases hq.blk with ⟨e1, _⟩ | ⟨g, e1, h1, _⟩
    · rw [e, e1]
    · rcases (h.own j hj).blk with ⟨e2, _⟩ | ⟨g2, e2, _, h2⟩
      · exact e2
      · rw [e2, e1] at e
        cases e
        omega
  refine ⟨fun i hi => ?_, fun i j hi hj hij e => ?_⟩
  · by_cases hir : i = r
    · subst hir
      simp only [updF_at]
      exact hq.more hN
    · simp only [updF_ne _ _ hir]
      exact (h.own i hi).keep hk
  · by_cases hir : i = r
    · subst hir
      rw [updF_at, updF_ne _ _ (fun e => hij e.symm)] at e
      rw [updF_at]
      have := key j hj e.symm
      rw [e]
      exact this
    · rw [updF_ne _ _ hir] at e ⊢
      by_cases hjr : j = r
      · subst hjr
        rw [updF_at] at e
        exact key i hi e
      · rw [updF_ne _ _ hjr] at e
        exact h.ne i j hi hj hij e
theorem OwnU.farT {a : Option Addr} {n c : Nat} {f : Nat → Nat} (h : OwnU w N a n c f) {g : Nat} {cs : Array Value} (hb : Blk w g 31 cs) (i : Nat) (u : Value) : OwnU (w.setCell ⟨g, i, none⟩ u) N a n c f := by
  refine ⟨h.1, ?_⟩
  rcases h.2 with e | ⟨g2, cap, cs2, e, hN, hb2, hr⟩
  · exact .inl e
  · have hb2' : Blk w g2 25 cs2 := hb2
    exact .inr ⟨g2, cap, cs2, e, hN, hb2'.far (p := ⟨g, i, none⟩) (hb2'.ne hb (by decide)) u, hr⟩
theorem Fam.farT (h : Fam w N W A L C p) {g : Nat} {cs : Array Value} (hb : Blk w g 31 cs) (i : Nat) (u : Value) : Fam (w.setCell ⟨g, i, none⟩ u) N W A L C p := ⟨fun j hj => (h.own j hj).farT hb i u, h.ne⟩
end
/-- What is said ahead of the codewords: the head, the data, noughts. -/
def pgD (k l s : Nat) (d : Nat → Nat) (n : Nat) : Nat → Nat := fun i => if i < 8 then hdS k l s i else if i < 8 + pkN n then pkS d n (i - 8) else 0
theorem pgD_lt {k l s : Nat} (h : MarkOk k l s) (d : Nat → Nat) (n i : Nat) : pgD k l s d n i < 1024 := by
  unfold pgD
  split
  · exact hdS_lt h i
  · split
    · exact pkS_lt _ _ _
    · omega
/-- A codeword's data. -/
def rowD (W : Nat) (D : Nat → Nat) (i : Nat) : Nat → Nat := fun j => D (j * W + i)
/-- A page: the codewords of its symbols, woven. -/
def pageS (W K : Nat) (D : Nat → Nat) : Nat → Nat := wovS W (fun i => rencV (rowD W D i) K)
theorem pageS_lt {W K : Nat} {D : Nat → Nat} (hD : ∀ i, D i < 1024) (hW : 1 ≤ W) {i : Nat} (hi : i < W * (K + 16)) : pageS W K D i < 1024 := by
  unfold pageS wovS
  refine (renc_is (fun _ _ => hD _)).lt _ ?_
  rw [Nat.div_lt_iff_lt_mul (by omega), Nat.mul_comm]
  exact hi
theorem szB_pk (W K : Nat) (h : 8 < W * K) : 8 + pkN (szB W K) ≤ W * K ∧ 1 ≤ szB W K := by
  unfold pkN szB
  omega
theorem szB_le {B P : Int} {W K : Nat} (h : GeoOk B P W K) : szB W K ≤ 400 := by
  have := geo_nat h
  unfold szB
  omega
def lenE (K r : Nat) : Nat → Nat := fun i => if i < r then K + 16 else K

theorem geo_cells' {w : World} {g : Nat} {B P W K : Int} (b : Blk w g 23 #[.int .i64 B, .int .i64 P, .int .i64 W, .int .i64 K]) :
    w.cell? ⟨g, 0, none⟩ = some (.int .i64 B) ∧ w.cell? ⟨g, 1, none⟩ = some (.int .i64 P) ∧ w.cell? ⟨g, 2, none⟩ = some (.int .i64 W) ∧ w.cell? ⟨g, 3, none⟩ = some (.int .i64 K) :=
  ⟨by rw [b.cell]; rfl, by rw [b.cell]; rfl, by rw [b.cell]; rfl, by rw [b.cell]; rfl⟩
set_option maxRecDepth 100000 in
set_option maxHeartbeats 8000000 in
theorem rmake_yes (B P : Int) (W K k l s : Nat) (a : Option Addr) (c : Nat) (d : Nat → Nat) (w : World) (h : GeoOk B P W K) (hm : MarkOk k l s) (ha : ArgV w a (szB W K) (fun i => .int .u8 (d i : Nat))) (hd : ∀ i, i < szB W K → d i < 256) :
    Calls Tryz.prog 12 #[geoV B P W K, markV k l s, .slice a (szB W K) c] w fun e w' => ∃ a' c', e = .returned (.tuple #[.slice a' (W * (K + 16)) c', .int .i64 0]) ∧ OwnU w' w.heap.size a' (W * (K + 16)) c' (pageS W K (pgD k l s d (szB W K))) ∧ Keep (fun _ => False) w w' := by
  obtain ⟨hw0, hw1, hk0, hk1, hwk, hwk2⟩ := geo_nat h
  obtain ⟨hz1, hz2⟩ := szB_pk W K hwk
  have hz3 := szB_le h
  have hmul : (W : Int) * (K : Int) = ((W * K : Nat) : Int) := (Int.natCast_mul W K).symm
  have m1 : decide ((k : Int) < 1) = false := decide_eq_false (by have := hm.k1; omega)
  have m2 : decide (1023 < (k : Int)) = false := decide_eq_false (by have := hm.k2; omega)
  have m3 : decide ((l : Int) < 0) = false := decide_eq_false (by omega)
  have m4 : decide (1048576 ≤ (l : Int)) = false := decide_eq_false (by have := hm.l; omega)
  have m5 : decide ((s : Int) < 0) = false := decide_eq_false (by omega)
  have m6 : decide (1099511627776 ≤ (s : Int)) = false := decide_eq_false (by have := hm.s; omega)
  obtain ⟨M, hM⟩ : ∃ M, M = (w.alloc (.cells #[.int .i64 B, .int .i64 P, .int .i64 W, .int .i64 K] 23)).alloc (.cells #[.int .i64 k, .int .i64 l, .int .i64 s] 30) := ⟨_, rfl⟩
  have kw : Keep (fun _ => False) w M := by rw [hM]; exact ((Keep.refl _ w).alloc _).alloc _
  have bG : Blk M w.heap.size 23 #[.int .i64 B, .int .i64 P, .int .i64 W, .int .i64 K] := by rw [hM]; exact (Blk.new w _ _).alloc _
  have bM : Blk M (w.heap.size + 1) 30 #[.int .i64 k, .int .i64 l, .int .i64 s] := by rw [hM]; exact Blk.here _ _ _ _ (by simp)
  have HA := Lib.hid (ha.keep kw)
  have HZ := Lib.hid kw.size
  have HD := Lib.hid hd
  have HY := Lib.hid (fun w => gmay_yes _ _ _ _ w h)
  have HS := Lib.hid (fun w => rsize_any _ _ _ _ w h)
  have HM := Lib.hid hm
  have HH := Lib.hid (fun w => rhead_any k l s hm w)
  have HP := Lib.hid (fun w ha => rpack_any a (szB W K) c d w ha hd (by omega))
  unfold markV at HH ⊢
  clear ha hd hm h
  go_enter Tryz.func12, Tryz.ntmps12
  obtain ⟨g0, g1, g2, g3⟩ := geo_cells bG
  have q0 : M.cell? ⟨w.heap.size + 1, 0, none⟩ = some (.int .i64 k) := by rw [bM.cell]; rfl
  have q1 : M.cell? ⟨w.heap.size + 1, 1, none⟩ = some (.int .i64 l) := by rw [bM.cell]; rfl
  have q2 : M.cell? ⟨w.heap.size + 1, 2, none⟩ = some (.int .i64 s) := by rw [bM.cell]; rfl
  generalize hsz : szB W K = z at *
  have HSZ := Lib.hid hsz
  have HMK := Lib.hid hmul
  clear hsz hmul
  go_wp2_with fail
  rw [← hM]
  clear hM
  go_wp2_with fail
  refine (HY.out _).mono ?_
  rintro e w1 ⟨rfl, k1⟩
  have bM1 := bM.keep k1 (by simp)
  have bG1 := bG.keep k1 (by simp)
  have p0 : w1.cell? ⟨w.heap.size + 1, 0, none⟩ = some (.int .i64 k) := by rw [bM1.cell]; rfl
  have p1 : w1.cell? ⟨w.heap.size + 1, 1, none⟩ = some (.int .i64 l) := by rw [bM1.cell]; rfl
  have p2 : w1.cell? ⟨w.heap.size + 1, 2, none⟩ = some (.int .i64 s) := by rw [bM1.cell]; rfl
  obtain ⟨h0, h1, h2, h3⟩ := geo_cells bG1
  clear g0 g1 g2 g3 q0 q1 q2
  go_wp2_with fail
  clear m1 m2 m3 m4 m5 m6
  refine (HS.out _).mono ?_
  rintro e w2 ⟨rfl, k2⟩
  have k2 := k1.comp k2
  have bM2 := bM.keep k2 (by simp)
  have r0 : w2.cell? ⟨w.heap.size + 1, 0, none⟩ = some (.int .i64 k) := by rw [bM2.cell]; rfl
  have r1 : w2.cell? ⟨w.heap.size + 1, 1, none⟩ = some (.int .i64 l) := by rw [bM2.cell]; rfl
  have r2 : w2.cell? ⟨w.heap.size + 1, 2, none⟩ = some (.int .i64 s) := by rw [bM2.cell]; rfl
  clear h0 h1 h2 h3 p0 p1 p2 bM1 bG1
  go_wp2_with fail
  clear r0 r1 r2 bM2 bM
  refine (HH.out _).mono ?_
  rintro e w3 ⟨rfl, hlt3, bh, k3⟩
  have K3 := k2.comp k3
  have HA3 := HA.out.keep K3
  go_wp2_with fail
  refine (HP.out _ HA3).mono ?_
  rintro e w4 ⟨gP, rfl, hgP, bP, k4⟩
  have K4 := K3.comp k4
  have OH := Lib.hid (OwnU.of_row (RowU.of_blk (bh.keep k4 (by simp))) (show M.heap.size ≤ w2.heap.size + 1 by have := k2.size; omega) (by unfold maxLen; omega))
  have OP := Lib.hid (bP.argU (by omega) (fun i _ => by have := pkS_lt d z i; omega))
  have hs4 := K4.size
  clear bh bP k3 k4 HA3 K3 hlt3 hgP HA HP HH HS HY
  go_wp2_with (refine wpList_append_u rfl (.tmp 53) (.tmp 55) rfl M.heap.size _ 8 8 (hdS k l s) rfl OH.out _ (pkN z) (pkN z) (pkS d z) rfl OP.out (by omega) hs4 ?_)
  intro a5 c5 w5 o5 g5
  have O5 := Lib.hid (show OwnU w5 M.heap.size a5 (8 + pkN z) c5 (pgD k l s d z) from o5.congr (fun i hi => by
    unfold pgD
    by_cases h : i < 8
    · rw [if_pos h, if_pos h]
    · rw [if_neg h, if_neg h, if_pos hi]))
  have K5 := K4.grown g5 (fun t ht => .inr (OH.out.row_ge ht))
  clear o5 g5 OH OP K4 k2 k1 hs4
  obtain ⟨m, hm⟩ : ∃ m, m = W * K := ⟨_, rfl⟩
  have HMK2 := Lib.hid (show (W : Int) * (K : Int) = (m : Int) by rw [hm]; exact HMK.out)
  rw [← hm] at hz1 hwk hwk2
  have HEq := Lib.hid hm
  clear hm HMK
  go_wp2_with fail
  go_loopw [8] (fun v wr => ∃ (j : Nat) (ao : Option Addr) (co : Nat), 8 + pkN z ≤ j ∧ j ≤ m ∧ v = .slice ao j co ∧ Hid (OwnU wr M.heap.size ao j co (pgD k l s d z)) ∧ Keep (fun _ => False) M wr) (fun v _ => m - (match v with | .slice _ l _ => l | _ => 0))
  case atStart => exact ⟨_, a5, c5, Nat.le_refl _, hz1, rfl, O5, K5⟩
  case round =>
    clear O5 K5
    obtain ⟨j, ao, co, hj1, hj2, rfl, HO, kk⟩ := hrel
    obtain ⟨g0, g1, g2, g3⟩ := geo_cells (bG.keep kk (by simp))
    have hmul := HMK2.out
    by_cases hjm : j < m
    · have hjm' : (j : Int) < (m : Int) := by omega
      have kL := kk.alloc (.cells #[.int .u16 (0 : Nat)] 25)
      have OL := Lib.hid (HO.out.ownV.keep ((Keep.refl _ wr).alloc (.cells #[.int .u16 (0 : Nat)] 25)))
      have BL := Lib.hid (Blk.new wr 25 #[.int .u16 (0 : Nat)])
      have HV := Lib.hid (show pgD k l s d z j = 0 by unfold pgD; rw [if_neg (by omega), if_neg (by omega)])
      have hsL := kL.size
      clear HO kk
      go_wp2_with (refine wpList_append_1 ty_u rfl (.tmp 65) (.tmp 66) rfl M.heap.size ao j co (fun t => .int .u16 (pgD k l s d z t : Nat)) rfl OL.out wr.heap.size _ rfl BL.out rfl (by omega) hsL ?_)
      intro a3 c3 w6 o6 g6
      have O6 := Lib.hid (OwnV.ownU (o6.congr (f' := fun t => .int .u16 (pgD k l s d z t : Nat)) (fun t ht => by
        by_cases h : t < j
        · rw [if_pos h]
        · rw [if_neg h, show t = j by omega, HV.out]
          rfl)))
      have K6 := kL.grown g6 (fun t ht => .inr (OL.out.lt t ht).1)
      clear o6 g6 kL OL BL hsL g0 g1 g2 g3 hmul
      go_wp2_with fail
      exact ⟨⟨j + 1, a3, c3, by omega, by omega, rfl, O6, K6⟩, by simp; omega⟩
    · obtain rfl : j = m := by omega
      have hjm' : ¬ (j : Int) < (j : Int) := by omega
      go_wp2_with fail
      clear hmul g0 g1 g2 g3
      refine (rin_any W K j ao co (pgD k l s d z) _ (HO.out.arg (by omega) (fun i _ => by have := pgD_lt HM.out d z i; omega)) hw0 hw1 hk0 (by omega) HEq.out).mono ?_
      rintro e w6 ⟨gR, rfl, hgR, hrows, k6⟩
      have K6 := kk.comp k6
      have HR := Lib.hid hrows
      have hsz6 := kk.size
      clear hrows kk HO
      go_wp2_with fail
      go_loopw [11] (fun v wt => ∃ (r : Nat) (A : Nat → Option Addr) (C : Nat → Nat), r ≤ W ∧ v = .int .i64 r ∧ Hid (Blk wt gR 31 (valsArr (famV A (lenE K r) C) W)) ∧ Hid (Fam wt M.heap.size W A (lenE K r) C (fun i => if i < r then rencV (rowD W (pgD k l s d z) i) K else rowD W (pgD k l s d z) i)) ∧ Keep (fun _ => False) M wt) (fun v _ => W - (intOf v).toNat)
      case atStart =>
        obtain ⟨A, C, hb, hf⟩ := HR.out
        refine ⟨0, A, C, by omega, rfl, Lib.hid ?_, Lib.hid ?_, K6⟩
        · rwa [valsArr_congr (h := famV A (lenE K 0) C) (fun k _ => by unfold famV lenE; rw [if_neg (Nat.not_lt_zero k)])] at hb
        · exact (hf.more hsz6).congr (fun _ _ => rfl) (fun i _ => by unfold lenE; rw [if_neg (Nat.not_lt_zero i)]) (fun _ _ => rfl) (fun i _ j _ => by rw [if_neg (Nat.not_lt_zero i)]; rfl)
      case round =>
        obtain ⟨r, A, C, hr, rfl, HB, HF, kt⟩ := hrel
        obtain ⟨g0, g1, g2, g3⟩ := geo_cells (bG.keep kt (by simp))
        by_cases hrW : r < W
        · have hrW' : (r : Int) < (W : Int) := by omega
          have c0 := HB.out.val hrW
          rw [show famV A (lenE K r) C r = .slice (A r) K (C r) by unfold famV lenE; rw [if_neg (Nat.lt_irrefl r)]] at c0
          have OR := HF.out.own r hrW
          rw [show lenE K r r = K by unfold lenE; rw [if_neg (Nat.lt_irrefl r)], if_neg (Nat.lt_irrefl r)] at OR
          have HE := Lib.hid (renc_all (A r) K (C r) (rowD W (pgD k l s d z) r) wr (OR.arg (by omega) (fun i _ => by have := pgD_lt HM.out d z (i * W + r); unfold rowD; omega)) OR.le.1)
          clear OR
          go_wp2_with fail
          refine HE.out.mono ?_
          rintro e w7 ⟨hx, k7⟩
          rcases hx with ⟨h1, _⟩ | ⟨_, _, ⟨i, hi, h1⟩, _⟩ | ⟨_, _, _, q, a', c', hq, rfl, ho⟩
          · omega
          · have := pgD_lt HM.out d z (i * W + r)
            unfold rowD at h1
            omega
          have hnew := (HF.out.put k7 kt.size hrW ho)
          have hb7 := HB.out.keep k7 (by simp)
          have hfz := hb7.frozen r
          have c7 := hb7.val hrW
          have hb8 := Lib.hid (hb7.store r (.slice a' (K + 16) c'))
          have hf8 := Lib.hid (hnew.farT hb7 r (.slice a' (K + 16) c'))
          have K8 : Keep (fun _ => False) M (w7.setCell ⟨gR, r, none⟩ (.slice a' (K + 16) c')) := (kt.comp k7).setCell (.inr (Nat.le_trans hsz6 hgR)) _
          have HQ := Lib.hid hq
          clear hnew hb7 ho k7 HE hq c0
          go_wp2_with fail
          clear hfz c7
          refine ⟨⟨r + 1, updF A r a', updF C r c', by omega, by go_num, Lib.hid ?_, Lib.hid ?_, K8⟩, by simp [intOf]; omega⟩
          · have := hb8.out
            rwa [valsArr_congr (h := famV (updF A r a') (lenE K (r + 1)) (updF C r c')) (fun k _ => by
              rw [show lenE K (r + 1) = updF (lenE K r) r (K + 16) from funext fun i => by
                unfold lenE updF
                by_cases h : i = r
                · rw [if_pos h, if_pos (by omega)]
                · rw [if_neg h]
                  dsimp only
                  by_cases h2 : i < r
                  · rw [if_pos h2, if_pos (by omega)]
                  · rw [if_neg h2, if_neg (by omega)]]
              exact (famV_upd A (lenE K r) C r a' (K + 16) c' k).symm)] at this
          · refine hf8.out.congr (fun _ _ => rfl) (fun i _ => ?_) (fun _ _ => rfl) (fun i hi j hj => ?_)
            · unfold lenE updF
              by_cases h : i = r
              · rw [if_pos h, if_pos (by omega)]
              · rw [if_neg h]
                dsimp only
                by_cases h2 : i < r
                · rw [if_pos h2, if_pos (by omega)]
                · rw [if_neg h2, if_neg (by omega)]
            · by_cases h : i = r
              · subst h
                rw [updF_at] at hj ⊢
                rw [if_pos (by omega)]
                exact IsEnc.uniq (by omega) HQ.out (renc_is (fun t _ => pgD_lt HM.out d z _)) j hj
              · rw [updF_ne _ _ h]
                by_cases h2 : i < r
                · rw [if_pos h2, if_pos (by omega)]
                · rw [if_neg h2, if_neg (by omega)]
        · obtain rfl : r = W := by omega
          have hrW' : ¬ (r : Int) < (r : Int) := by omega
          have HRA := Lib.hid (show ArgRows wr (some ⟨gR, 0, none⟩) r (K + 16) (fun i => rencV (rowD r (pgD k l s d z) i) K) from by
            refine RowsAt.arg (N := M.heap.size) ⟨A, C, ?_, ?_⟩ (by omega) (by omega) (fun i _ j hj => by have := (renc_is (fun t _ => pgD_lt HM.out d z _) : IsEnc (rowD r (pgD k l s d z) i) K _).lt j hj; omega)
            · have := HB.out
              rwa [valsArr_congr (h := famV A (fun _ => K + 16) C) (fun k hk => by unfold famV lenE; rw [if_pos hk])] at this
            · exact HF.out.congr (fun _ _ => rfl) (fun i hi => by unfold lenE; rw [if_pos hi]) (fun _ _ => rfl) (fun i hi j _ => by rw [if_pos hi]))
          clear HB HF
          go_wp2_with fail
          refine (rout_any r (K + 16) _ _ _ _ HRA.out hw0 hw1 (by omega) (by omega)).mono ?_
          rintro e w9 ⟨a', c', rfl, ho, k9⟩
          have HO := Lib.hid (ho.more (Nat.le_trans HZ.out kt.size))
          have K9 := kw.comp (kt.comp k9)
          clear ho k9 kt g0 g1 g2 g3
          go_wp2_with fail
          go_ret2
          exact ⟨a', c', rfl, HO.out, K9⟩
/-- A head that may not be. -/
def MarkBad (k l s : Int) : Prop := k < 1 ∨ 1023 < k ∨ l < 0 ∨ 1048576 ≤ l ∨ s < 0 ∨ 1099511627776 ≤ s
set_option maxRecDepth 100000 in
set_option maxHeartbeats 4000000 in
theorem rmake_arg (B P W K k l s : Int) (v : Value) (w : World) (h : ¬ GeoOk B P W K ∨ MarkBad k l s) :
    Calls Tryz.prog 12 #[geoV B P W K, markV k l s, v] w fun e w' => e = .returned (.tuple #[.slice none 0 0, .int .i64 1]) ∧ Keep (fun _ => False) w w' := by
  obtain ⟨M, hM⟩ : ∃ M, M = (w.alloc (.cells #[.int .i64 B, .int .i64 P, .int .i64 W, .int .i64 K] 23)).alloc (.cells #[.int .i64 k, .int .i64 l, .int .i64 s] 30) := ⟨_, rfl⟩
  have kw : Keep (fun _ => False) w M := by rw [hM]; exact ((Keep.refl _ w).alloc _).alloc _
  have bG : Blk M w.heap.size 23 #[.int .i64 B, .int .i64 P, .int .i64 W, .int .i64 K] := by rw [hM]; exact (Blk.new w _ _).alloc _
  have bM : Blk M (w.heap.size + 1) 30 #[.int .i64 k, .int .i64 l, .int .i64 s] := by rw [hM]; exact Blk.here _ _ _ _ (by simp)
  obtain ⟨g0, g1, g2, g3⟩ := geo_cells' bG
  have HY := Lib.hid (fun w => gmay_yes B P W K w)
  have HN := Lib.hid (fun w => gmay_no B P W K w)
  have HH := Lib.hid h
  unfold markV
  clear h
  go_enter Tryz.func12, Tryz.ntmps12
  go_wp2_with fail
  rw [← hM]
  clear hM
  go_wp2_with fail
  by_cases hg : GeoOk B P W K
  · refine (HY.out _ hg).mono ?_
    rintro e w1 ⟨rfl, k1⟩
    have bM1 := bM.keep k1 (by simp)
    have p0 : w1.cell? ⟨w.heap.size + 1, 0, none⟩ = some (.int .i64 k) := by rw [bM1.cell]; rfl
    have p1 : w1.cell? ⟨w.heap.size + 1, 1, none⟩ = some (.int .i64 l) := by rw [bM1.cell]; rfl
    have p2 : w1.cell? ⟨w.heap.size + 1, 2, none⟩ = some (.int .i64 s) := by rw [bM1.cell]; rfl
    have hb : MarkBad k l s := HH.out.resolve_left (fun h => h hg)
    have HK := Lib.hid (kw.comp k1)
    clear g0 g1 g2 g3 hg k1 bM1 kw
    unfold MarkBad at hb
    cases d1 : decide (k < 1) with
    | true =>
      go_wp2_with fail
      go_ret2
      exact ⟨rfl, HK.out⟩
    | false =>
      cases d2 : decide (1023 < k) with
      | true =>
        go_wp2_with fail
        go_ret2
        exact ⟨rfl, HK.out⟩
      | false =>
        cases d3 : decide (l < 0) with
        | true =>
          go_wp2_with fail
          go_ret2
          exact ⟨rfl, HK.out⟩
        | false =>
          cases d4 : decide (1048576 ≤ l) with
          | true =>
            go_wp2_with fail
            go_ret2
            exact ⟨rfl, HK.out⟩
          | false =>
            cases d5 : decide (s < 0) with
            | true =>
              go_wp2_with fail
              go_ret2
              exact ⟨rfl, HK.out⟩
            | false =>
              have d6 : decide (1099511627776 ≤ s) = true := by
                simp only [decide_eq_false_iff_not] at d1 d2 d3 d4 d5
                exact decide_eq_true (by omega)
              clear hb
              go_wp2_with fail
              go_ret2
              exact ⟨rfl, HK.out⟩
  · refine (HN.out _ hg).mono ?_
    rintro e w1 ⟨rfl, k1⟩
    have HK := Lib.hid (kw.comp k1)
    clear g0 g1 g2 g3 hg k1 kw
    go_wp2_with fail
    go_ret2
    exact ⟨rfl, HK.out⟩
set_option maxRecDepth 100000 in
set_option maxHeartbeats 4000000 in
theorem rmake_size (B P : Int) (W K k l s n : Nat) (a : Option Addr) (c : Nat) (w : World) (h : GeoOk B P W K) (hm : MarkOk k l s) (hn : n ≠ szB W K) :
    Calls Tryz.prog 12 #[geoV B P W K, markV k l s, .slice a n c] w fun e w' => e = .returned (.tuple #[.slice none 0 0, .int .i64 3]) ∧ Keep (fun _ => False) w w' := by
  have m1 : decide ((k : Int) < 1) = false := decide_eq_false (by have := hm.k1; omega)
  have m2 : decide (1023 < (k : Int)) = false := decide_eq_false (by have := hm.k2; omega)
  have m3 : decide ((l : Int) < 0) = false := decide_eq_false (by omega)
  have m4 : decide (1048576 ≤ (l : Int)) = false := decide_eq_false (by have := hm.l; omega)
  have m5 : decide ((s : Int) < 0) = false := decide_eq_false (by omega)
  have m6 : decide (1099511627776 ≤ (s : Int)) = false := decide_eq_false (by have := hm.s; omega)
  obtain ⟨M, hM⟩ : ∃ M, M = (w.alloc (.cells #[.int .i64 B, .int .i64 P, .int .i64 W, .int .i64 K] 23)).alloc (.cells #[.int .i64 k, .int .i64 l, .int .i64 s] 30) := ⟨_, rfl⟩
  have kw : Keep (fun _ => False) w M := by rw [hM]; exact ((Keep.refl _ w).alloc _).alloc _
  have bG : Blk M w.heap.size 23 #[.int .i64 B, .int .i64 P, .int .i64 W, .int .i64 K] := by rw [hM]; exact (Blk.new w _ _).alloc _
  have bM : Blk M (w.heap.size + 1) 30 #[.int .i64 k, .int .i64 l, .int .i64 s] := by rw [hM]; exact Blk.here _ _ _ _ (by simp)
  obtain ⟨g0, g1, g2, g3⟩ := geo_cells bG
  have HY := Lib.hid (fun w => gmay_yes _ _ _ _ w h)
  have HS := Lib.hid (fun w => rsize_any _ _ _ _ w h)
  have HZ := Lib.hid (szB_le h)
  unfold markV
  clear h hm
  generalize szB W K = z at *
  have hne : ((n : Int) != (z : Int)) = true := by simp; omega
  have hne2 : ¬ (n : Int) = (z : Int) := by omega
  clear hn
  go_enter Tryz.func12, Tryz.ntmps12
  go_wp2_with fail
  rw [← hM]
  clear hM
  go_wp2_with fail
  refine (HY.out _).mono ?_
  rintro e w1 ⟨rfl, k1⟩
  have bM1 := bM.keep k1 (by simp)
  have bG1 := bG.keep k1 (by simp)
  have p0 : w1.cell? ⟨w.heap.size + 1, 0, none⟩ = some (.int .i64 k) := by rw [bM1.cell]; rfl
  have p1 : w1.cell? ⟨w.heap.size + 1, 1, none⟩ = some (.int .i64 l) := by rw [bM1.cell]; rfl
  have p2 : w1.cell? ⟨w.heap.size + 1, 2, none⟩ = some (.int .i64 s) := by rw [bM1.cell]; rfl
  obtain ⟨h0, h1, h2, h3⟩ := geo_cells bG1
  clear g0 g1 g2 g3
  go_wp2_with fail
  clear m1 m2 m3 m4 m5 m6
  refine (HS.out _).mono ?_
  rintro e w2 ⟨rfl, k2⟩
  have HK := Lib.hid (kw.comp (k1.comp k2))
  clear h0 h1 h2 h3 p0 p1 p2 k1 k2 kw
  go_wp2_with fail
  go_ret2
  exact ⟨rfl, HK.out⟩
theorem markBad_or (k l s : Int) : MarkBad k l s ∨ ∃ k' l' s' : Nat, k = k' ∧ l = l' ∧ s = s' ∧ MarkOk k' l' s' := by
  by_cases h : MarkBad k l s
  · exact .inl h
  · unfold MarkBad at h
    exact .inr ⟨k.toNat, l.toNat, s.toNat, by omega, by omega, by omega, ⟨by omega, by omega, by omega, by omega⟩⟩
theorem MarkOk.notBad {k l s : Nat} (h : MarkOk k l s) : ¬ MarkBad k l s := by
  have := h.k1
  have := h.k2
  have := h.l
  have := h.s
  unfold MarkBad
  omega
end Go.Proofs.YtdlmjjlejkkniaaGreat
