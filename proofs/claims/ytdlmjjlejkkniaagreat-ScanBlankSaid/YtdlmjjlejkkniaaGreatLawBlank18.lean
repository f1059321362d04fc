/- blackboardlaw18.ScanBlank: blocks that are blank, that are bad, whose pages were wiped. -/
import Derived.Test.YtdlmjjlejkkniaaGreatScan
namespace Go.Proofs.YtdlmjjlejkkniaaGreat
open Go.RowKit

def sightE : Ending := .returned (.tuple #[.agg #[.slice none 0 0, .int .i64 0, .int .i64 0], .int .i64 1])
set_option maxRecDepth 100000 in
set_option maxHeartbeats 1000000 in
theorem scan_nil (V : Value) (w : World) (hT : HasT w V) :
    Calls Tryz.prog 16 #[V, .pointer none, .int .i64 0] w fun e w' => e = sightE ∧ Keep (fun _ => False) w w' := by
  obtain ⟨a1, n1, c1, a2, n2, c2, rfl⟩ := hT.form
  clear hT
  obtain ⟨W, hW⟩ : ∃ W, W = (w.alloc (.cells #[.slice a1 n1 c1, .slice a2 n2 c2] 49)).alloc (.cells #[.slice none 0 0, .int .i64 0, .int .i64 0] 44) := ⟨_, rfl⟩
  have kW : Keep (fun _ => False) w W := by rw [hW]; exact ((Keep.refl _ w).alloc _).alloc _
  have bR : Blk W (w.heap.size + 1) 44 #[.slice none 0 0, .int .i64 0, .int .i64 0] := by rw [hW]; exact Blk.here _ _ _ _ (by simp)
  obtain ⟨⟨⟨p0, f0⟩, ⟨p1, f1⟩, p2, f2⟩, bF⟩ := sight_put bR (.slice none 0 0) (.int .i64 0) (.int .i64 0)
  have kF : Keep (fun _ => False) w (((W.setCell ⟨w.heap.size + 1, 0, none⟩ (.slice none 0 0)).setCell ⟨w.heap.size + 1, 1, none⟩ (.int .i64 0)).setCell ⟨w.heap.size + 1, 2, none⟩ (.int .i64 0)) :=
    kW.drop ((((Keep.refl (· = w.heap.size + 1) W).setCell (p := ⟨w.heap.size + 1, 0, none⟩) (.inl rfl) _).setCell (p := ⟨w.heap.size + 1, 1, none⟩) (.inl rfl) _).setCell (p := ⟨w.heap.size + 1, 2, none⟩) (.inl rfl) _) (fun k e => by omega)
  have HBF := Lib.hid bF
  have HKF := Lib.hid kF
  clear bR bF kF kW
  go_enter Tryz.func16, Tryz.ntmps16
  go_upto_region 1 with (fail)
  rw [← hW]
  clear hW
  go_wp2_with fail
  refine bodyPost_ret (results_cell_row2 rfl _ _ (w.heap.size + 1) 44 _ (0, 0) _ rfl HBF.out Tryz.underlying44 rfl (by kernel_rfl)) rfl ?_
  exact ⟨rfl, HKF.out⟩
set_option maxRecDepth 100000 in
set_option maxHeartbeats 1000000 in
theorem scan_no (V : Value) (num : CR → Nat) (C : ChipS) (w : World) (h : ChipM num w C) (hT : HasT w V) (hdk : C.dark = false) (hops : C.ops < 549755813888) (i : Int) (hi : ¬ (0 ≤ i ∧ i < C.B)) :
    Calls Tryz.prog 16 #[V, .pointer (some ⟨num .chip, 0, none⟩), .int .i64 i] w fun e w' => e = sightE ∧ Keep (Own num C) w w' := by
  obtain ⟨a1, n1, c1, a2, n2, c2, rfl⟩ := hT.form
  have hlo : ∀ k, Own num C k → k < w.heap.size := fun k e => e.lt h
  obtain ⟨W, hW⟩ : ∃ W, W = ((w.alloc (.cells #[.slice a1 n1 c1, .slice a2 n2 c2] 49)).alloc (.cells #[.slice none 0 0, .int .i64 0, .int .i64 0] 44)).alloc (.cells #[.slice none 0 0, .int .i64 0, .int .i64 0] 44) := ⟨_, rfl⟩
  have kW : Keep (fun _ => False) w W := by rw [hW]; exact (((Keep.refl _ w).alloc _).alloc _).alloc _
  have bR : Blk W (w.heap.size + 1) 44 #[.slice none 0 0, .int .i64 0, .int .i64 0] := by rw [hW]; exact (Blk.here _ _ _ _ (by simp)).alloc _
  have HM := Lib.hid (h.keepF kW)
  have hG := fun w' => cgeo_any num C w'
  have HLO := Lib.hid hlo
  have HK := Lib.hid kW
  have hsm := h.small
  have hgeo := h.geo
  have HSN := Lib.hid (fun w' (hm : ChipM num w' C) => sense_no num C w' hm hdk (by omega) i 0 (fun e => hi ⟨e.1, e.2.1⟩))
  clear h hlo kW hT hdk hi
  go_enter Tryz.func16, Tryz.ntmps16
  go_upto_region 4 with (fail)
  rw [← hW]
  clear hW
  have hsg : w.heap.size + 1 + 1 = w.heap.size + 2 := rfl
  rw [hsg]
  clear hsg
  go_wp2_with fail
  refine (hG _ HM.out).mono ?_
  rintro e w1 ⟨rfl, k1⟩
  obtain ⟨W1, hW1⟩ : ∃ W1, W1 = w1.alloc (.cells #[.int .i64 (C.B : Nat), .int .i64 (C.P : Nat), .int .i64 (C.W : Nat), .int .i64 (C.K : Nat)] 23) := ⟨_, rfl⟩
  have k2 : Keep (fun _ => False) W W1 := by rw [hW1]; exact k1.alloc _
  have bG : Blk W1 w1.heap.size 23 #[.int .i64 (C.B : Nat), .int .i64 (C.P : Nat), .int .i64 (C.W : Nat), .int .i64 (C.K : Nat)] := by rw [hW1]; exact Blk.new _ _ _
  obtain ⟨g0, g1, g2, g3⟩ := geo_cells bG
  have bR1 := bR.keep k2 (by simp)
  have HM1 := Lib.hid (HM.out.keepF k2)
  have HK1 := Lib.hid (HK.out.comp k2)
  generalize hgb : w1.heap.size = gb at *
  have HGB := Lib.hid hgb
  clear hgb bR bG k1 k2 hG HM HK
  go_upto_region 5 with (fail)
  rw [← hW1, HGB.out]
  clear hW1
  go_wp2_with fail
  clear g0 g1 g2 g3
  have hp0 : (0 : Int) < (C.P : Int) := by have := hgeo.p0; omega
  refine wp_loop_rounds 1 ?_
  rw [rounds_succ]
  go_wp2_with fail
  refine (HSN.out _ HM1.out).mono ?_
  rintro e w2 ⟨rfl, _, k2⟩
  have b2 := bR1.keep k2 (fun e => by have := HLO.out _ e; omega)
  obtain ⟨⟨⟨p0, f0⟩, ⟨p1, f1⟩, p2, f2⟩, bF⟩ := sight_put b2 (.slice none 0 0) (.int .i64 0) (.int .i64 0)
  have HBF := Lib.hid bF
  have kS : Keep (· = w.heap.size + 1) w2 (((w2.setCell ⟨w.heap.size + 1, 0, none⟩ (.slice none 0 0)).setCell ⟨w.heap.size + 1, 1, none⟩ (.int .i64 0)).setCell ⟨w.heap.size + 1, 2, none⟩ (.int .i64 0)) :=
    (((Keep.refl (· = w.heap.size + 1) w2).setCell (p := ⟨w.heap.size + 1, 0, none⟩) (.inl rfl) _).setCell (p := ⟨w.heap.size + 1, 1, none⟩) (.inl rfl) _).setCell (p := ⟨w.heap.size + 1, 2, none⟩) (.inl rfl) _
  have HKF := Lib.hid (((HK1.out.more (fun k e => by cases e) : Keep (Own num C) w W1).trans k2 (fun k e => .inl e)).trans kS (fun k e => .inr (by omega)))
  clear b2 bF kS k2 bR1
  unfold nilC
  go_wp2_with fail
  refine bodyPost_ret (results_cell_row2 rfl _ _ (w.heap.size + 1) 44 _ (0, 0) _ rfl HBF.out Tryz.underlying44 rfl (by kernel_rfl)) rfl ?_
  exact ⟨rfl, HKF.out⟩

/-- Block i's first pages programmed, all alike. -/
def bkC (B P W K i m : Nat) (S : Nat → Nat) : Nat → ChipS
  | 0 => ChipS.new B P W K (fun _ => false) (fun _ => none)
  | t + 1 => (bkC B P W K i m S t).tick.setPg i t (PgS.prog S m m)
structure BkF (B P W K i m : Nat) (S : Nat → Nat) (t : Nat) (C : ChipS) : Prop where
  b : C.B = B
  p : C.P = P
  w : C.W = W
  k : C.K = K
  d : C.dark = false
  o : C.ops = t
  f : ∀ x, C.F x = none
  mm : ∀ x, C.bad x = false
  g : ∀ x, C.bk x = false
  s : ∀ j, C.pg i j = if j < t then PgS.prog S m m else PgS.blank
section
variable {B P W K i m t : Nat} {S : Nat → Nat} {num : CR → Nat}
theorem bkC_f : ∀ t, BkF B P W K i m S t (bkC B P W K i m S t)
  | 0 => ⟨rfl, rfl, rfl, rfl, rfl, rfl, fun _ => rfl, fun _ => rfl, fun _ => rfl, fun j => by rw [if_neg (by omega)]; rfl⟩
  | t + 1 => by
    have h := bkC_f t
    refine ⟨h.b, h.p, h.w, h.k, h.d, congrArg (· + 1) h.o, h.f, h.mm, h.g, fun j => ?_⟩
    show (if i = i ∧ j = t then PgS.prog S m m else (bkC B P W K i m S t).pg i j) = _
    by_cases e : j = t
    · rw [if_pos ⟨rfl, e⟩, if_pos (by omega)]
    · rw [if_neg (fun x => e x.2), h.s j]
      by_cases e2 : j < t
      · rw [if_pos e2, if_pos (by omega)]
      · rw [if_neg e2, if_neg (by omega)]
theorem bk_new (w : World) (hg : GeoOk (B : Int) P W K) :
    Calls Tryz.prog 13 #[geoV B P W K, .slice none 0 0, .slice none 0 0] w fun e w' => ∃ num : CR → Nat, e = .returned (.tuple #[.pointer (some ⟨num .chip, 0, none⟩), .int .i64 0]) ∧ ChipM num w' (bkC B P W K i m S 0) ∧ Keep (fun _ => False) w w' ∧ ∀ k, Own num (bkC B P W K i m S 0) k → w.heap.size ≤ k := by
  refine (chipnew_yes B P W K none 0 0 (fun _ => 0) none 0 0 (fun _ => 0) (fun _ => 0) (fun _ => 0) w hg (by omega) (ArgV.nil _ _) (fun i hi => by omega) (ArgFates.nil _ _ _ _) (by omega) (fun i hi => by omega) rfl).mono ?_
  rintro e w' ⟨num, he, hm, hk, hlo⟩
  exact ⟨num, he, hm, hk, fun k ⟨r, hr, e⟩ => by rw [← e]; exact hlo r hr⟩
theorem bk_prog (w : World) (hmm : m = W * (K + 16)) (hm0 : 0 < m) (hm : ChipM num w (bkC B P W K i m S t)) (hi : i < B) (ht : t < P) (hP : P ≤ 32) (g cS : Nat) (ha : ArgU w (some ⟨g, 0, none⟩) m S) (hlt : ∀ i, i < m → S i < 1024) (hno : ¬ Own num (bkC B P W K i m S t) g) :
    Calls Tryz.prog 14 #[.pointer (some ⟨num .chip, 0, none⟩), .int .i64 i, .int .i64 t, .slice (some ⟨g, 0, none⟩) m cS] w fun e w' => ∃ num2 : CR → Nat, e = .returned (.int .i64 0) ∧ ChipM num2 w' (bkC B P W K i m S (t + 1)) ∧ num2 .chip = num .chip ∧ Keep (Own num (bkC B P W K i m S t)) w w' ∧
      ∀ k, Own num2 (bkC B P W K i m S (t + 1)) k → Own num (bkC B P W K i m S t) k ∨ w.heap.size ≤ k := by
  have F := bkC_f (B := B) (P := P) (W := W) (K := K) (i := i) (m := m) (S := S) t
  have hn : (bkC B P W K i m S t).n = m := by unfold ChipS.n; rw [F.w, F.k]; exact hmm.symm
  have h := program_yes num (bkC B P W K i m S t) w hm F.d (by rw [F.o]; omega) 0 0 0 (by rw [F.f]; rfl) (by decide) i t ⟨g, 0, none⟩ cS S
    ⟨by rw [F.b]; exact hi, by rw [F.p]; exact ht, by rw [hn]; exact hlt, F.mm _, F.g _, fun j h1 _ => by rw [F.s, if_neg (by omega)]; rfl, by
      rcases Nat.eq_zero_or_pos t with e | e
      · exact .inl e
      · refine .inr ?_
        rw [F.s, if_pos (by omega)]
        show (if (m : Int) ≤ 0 then 0 else if (m : Int) ≤ m then 1 else 2) ≠ 0
        rw [if_neg (by omega), if_pos (by omega)]
        decide⟩ (by rw [hn]; exact ha) hno
  rw [hn] at h
  refine h.mono ?_
  rintro e w' ⟨e2, num2, C2, ⟨rfl, rfl⟩, rfl, hm2, hn2, hk, ho⟩
  rw [hn, show keptI 0 0 m = (m : Int) from rfl] at hm2 ho
  exact ⟨num2, rfl, hm2, hn2, hk, fun k ⟨r, hr, e⟩ => by rw [← e]; exact ho r hr⟩
def bkR (t : Nat) : Nat → RdO := fun j => if j < t then .found 1 3 0 0 else .blank
theorem bkR_ans (t : Nat) : ∀ q, usedR (bkR t) q = min q t ∧ tornR (bkR t) q = 0 ∧ cntF (bkR t) q = min q t
  | 0 => ⟨(Nat.zero_min _).symm, rfl, (Nat.zero_min _).symm⟩
  | q + 1 => by
    obtain ⟨h1, h2, h3⟩ := bkR_ans t q
    unfold usedR tornR cntF
    by_cases h : q < t
    · rw [show bkR t q = .found 1 3 0 0 from if_pos h]
      dsimp only
      omega
    · rw [show bkR t q = .blank from if_neg h]
      dsimp only
      omega
theorem own_ticks {C : ChipS} {q k : Nat} (h : Own num (C.ticks q) k) : Own num C k := by
  obtain ⟨r, hr, e⟩ := h
  exact ⟨r, by cases r <;> exact hr, e⟩
theorem own_wiped {C : ChipS} {a b k : Nat} (h : Own num (C.tick.wiped a b) k) : Own num C k := by
  obtain ⟨r, hr, e⟩ := h
  refine ⟨r, ?_, e⟩
  cases r with
  | sym x y =>
    obtain ⟨h1, h2, h3⟩ := hr
    refine ⟨h1, h2, ?_⟩
    have h3' : (if x = a ∧ y < b then PgS.blank else C.pg x y).st = 1 := h3
    split at h3'
    · exact absurd h3' (by decide)
    · exact h3'
  | _ => exact hr
/-- All its pages wiped behind a scan. -/
def bkE (B P W K i m : Nat) (S : Nat → Nat) (t : Nat) : ChipS := ((bkC B P W K i m S t).ticks P).tick.wiped i P
theorem own_bkE {k : Nat} (h : Own num (bkE B P W K i m S t) k) : Own num (bkC B P W K i m S t) k := own_ticks (own_wiped h)
theorem bk_scan (w : World) (V : Value) (hm : ChipM num w (bkC B P W K i m S t)) (hT : HasT w V) (hTo : ∀ w', Keep (Own num (bkC B P W K i m S t)) w w' → HasT w' V) (hi : i < B) (ht : t ≤ P) (hP : P ≤ 32) (hr : Reads (tnX S m) (tnY S m) W K (.found 1 3 0 0)) :
    Calls Tryz.prog 16 #[V, .pointer (some ⟨num .chip, 0, none⟩), .int .i64 i] w fun e w' => ∃ a c, e = .returned (.tuple #[.agg #[.slice a t c, .int .i64 t, .int .i64 0], .int .i64 0]) ∧ ChipM num w' ((bkC B P W K i m S t).ticks P) ∧ Keep (Own num (bkC B P W K i m S t)) w w' := by
  have F := bkC_f (B := B) (P := P) (W := W) (K := K) (i := i) (m := m) (S := S) t
  refine (block_any V num (bkC B P W K i m S t) w hm hT hTo F.d (by rw [F.o]; omega) (fun _ _ => F.f _) i (by rw [F.b]; exact hi) (bkR t) (fun j _ => ?_) (fun j _ q _ => ?_)).mono ?_
  · rw [F.s, F.w, F.k]
    unfold bkR
    by_cases h : j < t
    · rw [if_pos h, if_pos h, (prog_pts S m m).1, (prog_pts S m m).2, show keepN (m : Int) m = m from by unfold keepN; omega]
      exact hr
    · rw [if_neg h, if_neg h]
      exact blank_reads W K
  · rw [F.s]
    by_cases h : j < t
    · rw [if_pos h, (prog_pts S m m).1, (prog_pts S m m).2]
      exact tn_pm S _ q
    · rw [if_neg h]
      exact ⟨(by unfold Pm; decide : Pm 0), (by unfold Pm; decide : Pm 0)⟩
  · rintro e w' ⟨a, c, he, _, hm2, hk⟩
    obtain ⟨h1, h2, h3⟩ := bkR_ans t P
    rw [F.p, h1, h2, h3, Nat.min_eq_right ht] at he
    rw [F.p] at hm2
    exact ⟨a, c, he, hm2, hk⟩
theorem bk_erase (w : World) (hm : ChipM num w ((bkC B P W K i m S t).ticks P)) (hi : i < B) (ht : t ≤ P) (hP : P ≤ 32) :
    Calls Tryz.prog 19 #[.pointer (some ⟨num .chip, 0, none⟩), .int .i64 i] w fun e w' => e = .returned (.int .i64 0) ∧ ChipM num w' (bkE B P W K i m S t) ∧ Keep (Own num (bkC B P W K i m S t)) w w' := by
  have F := bkC_f (B := B) (P := P) (W := W) (K := K) (i := i) (m := m) (S := S) t
  refine (erase_yes num ((bkC B P W K i m S t).ticks P) w hm F.d (by show (bkC B P W K i m S t).ops + P < _; rw [F.o]; omega) 0 0 0 (by show ((bkC B P W K i m S t).F _).getD _ = _; rw [F.f]; rfl) (by decide) (by decide) i (by show i < (bkC B P W K i m S t).B; rw [F.b]; exact hi) (F.mm _) (F.g _)).mono ?_
  rintro e w' ⟨he, hm2, hk⟩
  have eP : ((bkC B P W K i m S t).ticks P).P = P := F.p
  rw [eP] at hm2
  exact ⟨he, hm2, hk.more (fun k h => .inl (own_ticks h))⟩
theorem bk_scan2 (w : World) (V : Value) (hm : ChipM num w (bkE B P W K i m S t)) (hT : HasT w V) (hTo : ∀ w', Keep (Own num (bkE B P W K i m S t)) w w' → HasT w' V) (hi : i < B) (ht : t ≤ P) (hP : P ≤ 32) :
    Calls Tryz.prog 16 #[V, .pointer (some ⟨num .chip, 0, none⟩), .int .i64 i] w fun e w' => ∃ a c, e = .returned (.tuple #[.agg #[.slice a 0 c, .int .i64 0, .int .i64 0], .int .i64 0]) ∧ ChipM num w' ((bkE B P W K i m S t).ticks P) ∧ Keep (Own num (bkC B P W K i m S t)) w w' := by
  have F := bkC_f (B := B) (P := P) (W := W) (K := K) (i := i) (m := m) (S := S) t
  have eP : (bkE B P W K i m S t).P = P := F.p
  have hpg : ∀ j, j < P → (bkE B P W K i m S t).pg i j = PgS.blank := fun j hj => if_pos ⟨rfl, hj⟩
  refine (block_any V num (bkE B P W K i m S t) w hm hT hTo F.d (by show (bkC B P W K i m S t).ops + P + 1 < _; rw [F.o]; omega) (fun _ _ => F.f _) i (by show i < (bkC B P W K i m S t).B; rw [F.b]; exact hi) (fun _ => .blank) (fun j hj => ?_) (fun j hj q _ => ?_)).mono ?_
  · rw [hpg j (by rw [← eP]; exact hj)]
    exact blank_reads _ _
  · rw [hpg j (by rw [← eP]; exact hj)]
    exact ⟨(by unfold Pm; decide : Pm 0), (by unfold Pm; decide : Pm 0)⟩
  · rintro e w' ⟨a, c, he, _, hm2, hk⟩
    have hz : ∀ q, usedR (fun _ => .blank) q = 0 ∧ tornR (fun _ => .blank) q = 0 ∧ cntF (fun _ => .blank) q = 0 := fun q => by
      induction q with
      | zero => exact ⟨rfl, rfl, rfl⟩
      | succ q ih => exact ih
    obtain ⟨h1, h2, h3⟩ := hz (bkE B P W K i m S t).P
    rw [h1, h2, h3] at he
    rw [eP] at hm2
    exact ⟨a, c, he, hm2, hk.more (fun k h => .inl (own_bkE h))⟩
theorem bk_no (w : World) (V : Value) (hm : ChipM num w ((bkE B P W K i m S t).ticks P)) (hT : HasT w V) (ht : t ≤ P) (hP : P ≤ 32) :
    Calls Tryz.prog 16 #[V, .pointer (some ⟨num .chip, 0, none⟩), .int .i64 B] w fun e w' => e = sightE ∧ Keep (Own num (bkC B P W K i m S t)) w w' := by
  have F := bkC_f (B := B) (P := P) (W := W) (K := K) (i := i) (m := m) (S := S) t
  have eB : ((bkE B P W K i m S t).ticks P).B = B := F.b
  refine (scan_no V num ((bkE B P W K i m S t).ticks P) w hm hT F.d (by show (bkC B P W K i m S t).ops + P + 1 + P < _; rw [F.o]; omega) B (by rw [eB]; omega)).mono ?_
  rintro e w' ⟨he, hk⟩
  exact ⟨he, hk.more (fun k h => .inl (own_bkE (own_ticks h)))⟩
theorem bk_ops (w : World) (C : ChipS) (hm : ChipM num w C) (n : Nat) (hn : C.ops = n) :
    Calls Tryz.prog 18 #[.pointer (some ⟨num .chip, 0, none⟩)] w fun e w' => e = .returned (.int .i64 n) ∧ w = w' := by
  have := ops_any num C w hm
  rw [hn] at this
  exact this
end
end Go.Proofs.YtdlmjjlejkkniaaGreat

namespace Go.Proofs.YtdlmjjlejkkniaaGreat
open Go.ChangeShapes Go.WideShapes Go.ChangeAt Go.RowKit

theorem TVar.keepO {S : Nat → Prop} {w w' : World} {gt g1 g2 : Nat} (h : TVar w gt g1 g2) (k : Keep S w w') (h0 : ¬ S gt) (h1 : ¬ S g1) (h2 : ¬ S g2) : TVar w' gt g1 g2 :=
  ⟨h.b.keep k h0, h.t.keepS k h1 h2⟩
/-- At the head of the loop: t pages are programmed. -/
def BkRel (w0 : World) (cb B P W K i m : Nat) (S : Nat → Nat) (gS n g : Nat) (v : Value) (wr : World) : Prop :=
  ∃ (t : Nat) (num : CR → Nat), t ≤ n ∧ v = .int .i64 (t : Nat) ∧ num .chip = cb ∧ ChipM num wr (bkC B P W K i m S t) ∧ ArgU wr (some ⟨gS, 0, none⟩) m S ∧ (∀ k, Own num (bkC B P W K i m S t) k → w0.heap.size + 1 ≤ k ∧ k ≠ gS) ∧ Keep (fun _ => False) w0 wr ∧
    Blk wr g 23 #[.int .i64 B, .int .i64 P, .int .i64 W, .int .i64 K] ∧ gS < wr.heap.size
set_option maxRecDepth 100000 in
set_option maxHeartbeats 1600000 in
theorem blank18_true (w : World) (B P W K : Int) (x y : Nat) (hx : x < 256) (hy : y < 256) :
    Calls Tryz.prog 4 #[geoV B P W K, .int .u8 x, .int .u8 y] w fun e w' => e = .returned (.bool true) ∧ Keep (fun _ => False) w w' := by
  have k0 := (Keep.refl (fun _ => False) w).alloc (.cells #[.int .i64 B, .int .i64 P, .int .i64 W, .int .i64 K] 23)
  have b0 := Blk.new w 23 #[.int .i64 B, .int .i64 P, .int .i64 W, .int .i64 K]
  go_enter Tryz.func4, Tryz.ntmps4
  go_wp2_with fail
  refine (awake18_true _).mono ?_
  rintro e w1 ⟨rfl, q1⟩
  have k1 := k0.comp q1
  have b1 := b0.keep q1 (by simp)
  clear b0 k0 q1
  have a0 : w1.cell? ⟨w.heap.size, 0, none⟩ = some (.int .i64 B) := (geo_cells' b1).1
  have a1 : w1.cell? ⟨w.heap.size, 1, none⟩ = some (.int .i64 P) := (geo_cells' b1).2.1
  have a2 : w1.cell? ⟨w.heap.size, 2, none⟩ = some (.int .i64 W) := (geo_cells' b1).2.2.1
  have a3 : w1.cell? ⟨w.heap.size, 3, none⟩ = some (.int .i64 K) := (geo_cells' b1).2.2.2
  have u0 : ∀ p : KeptBy w1, p.v.cell? ⟨w.heap.size, 0, none⟩ = some (.int .i64 B) := fun p => p.cell b1.lt a0
  have u1 : ∀ p : KeptBy w1, p.v.cell? ⟨w.heap.size, 1, none⟩ = some (.int .i64 P) := fun p => p.cell b1.lt a1
  have u2 : ∀ p : KeptBy w1, p.v.cell? ⟨w.heap.size, 2, none⟩ = some (.int .i64 W) := fun p => p.cell b1.lt a2
  have u3 : ∀ p : KeptBy w1, p.v.cell? ⟨w.heap.size, 3, none⟩ = some (.int .i64 K) := fun p => p.cell b1.lt a3
  clear a0 a1 a2 a3
  go_upto_region 3 with (fail)
  by_cases hg : GeoOk B P W K
  rotate_left
  · refine wp_region_kept (by kernel_rfl) (by kernel_rfl) ?_
    repeat (go_big_quiet_step (first | (go_at_call 9; exact kept_of (gmay_no _ _ _ _ _ hg))))
    refine wpQuiet_nil ?_
    rintro w2 ⟨⟨_, k2⟩, rfl⟩
    have kf := k1.comp k2
    clear u0 u1 u2 u3 b1 k1 k2
    go_wp2_with fail
    go_ret
    exact ⟨rfl, kf⟩
  obtain ⟨Bn, rfl⟩ : ∃ X : Nat, B = X := ⟨B.toNat, by have := hg.b0; omega⟩
  obtain ⟨Pn, rfl⟩ : ∃ X : Nat, P = X := ⟨P.toNat, by have := hg.p0; omega⟩
  obtain ⟨Wn, rfl⟩ : ∃ X : Nat, W = X := ⟨W.toNat, by have := hg.w0; omega⟩
  obtain ⟨Kn, rfl⟩ : ∃ X : Nat, K = X := ⟨K.toNat, by have := hg.k0; omega⟩
  obtain ⟨hw0, hw1, hk0, hk1, hwk, hwk2⟩ := geo_nat hg
  obtain ⟨m, hmm⟩ : ∃ m, m = Wn * (Kn + 16) := ⟨_, rfl⟩
  have hmi : (Wn : Int) * ((Kn : Int) + 16) = (m : Int) := by rw [hmm, Int.natCast_mul]; rfl
  have HRC := Lib.hid (fun w => rcells_any (Bn : Int) Pn Wn Kn w hg)
  rw [hmi] at HRC
  have hm320 : m ≤ 320 := by rw [hmm]; exact Nat.mul_le_mul hw1 (show Kn + 16 ≤ 80 by omega)
  have hB64 : Bn ≤ 64 := by have := hg.b1; omega
  have hP32 : Pn ≤ 32 := by have := hg.p1; omega
  obtain ⟨X, hX⟩ : ∃ X, X = Bn * Pn := ⟨_, rfl⟩
  have hX2 : X ≤ 2048 := by rw [hX]; exact Nat.mul_le_mul hB64 hP32
  obtain ⟨Y, hY⟩ : ∃ Y, Y = X * m := ⟨_, rfl⟩
  have hY2 : Y ≤ 655360 := by rw [hY]; exact Nat.mul_le_mul hX2 hm320
  have e1 : IntKind.i64.wrap ((Bn : Int) * (Pn : Int)) = (X : Int) := by rw [hX, ← Int.natCast_mul]; exact wraps_i64 _ (by omega) (by omega)
  have e2 : IntKind.i64.wrap ((X : Int) * (m : Int)) = (Y : Int) := by rw [hY, ← Int.natCast_mul]; exact wraps_i64 _ (by omega) (by omega)
  have HHG := Lib.hid hg
  have HMM := Lib.hid hmm
  clear hmi hX hY hX2 hmm
  by_cases hY6 : 6000 < Y
  · have hd6 : decide ((6000 : Int) < (Y : Int)) = true := decide_eq_true (by omega)
    clear hY2 hg
    refine wp_region_kept (by kernel_rfl) (by kernel_rfl) ?_
    repeat (go_big_quiet_step (first | (go_at_call 9; exact kept_of (gmay_yes _ _ _ _ _ HHG.out)) | (go_at_call 10; exact kept_of (HRC.out _))))
    refine wpQuiet_nil ?_
    rintro w2 ⟨⟨_, k2⟩, rfl⟩
    have kf := k1.comp k2
    clear u0 u1 u2 u3 b1 k1 k2
    go_wp2_with fail
    go_ret
    exact ⟨rfl, kf⟩
  have hd6 : decide ((6000 : Int) < (Y : Int)) = false := decide_eq_false (by omega)
  clear hY2 hg
  refine wp_region_kept (by kernel_rfl) (by kernel_rfl) ?_
  repeat (go_big_quiet_step (first | (go_at_call 9; exact kept_of (gmay_yes _ _ _ _ _ HHG.out)) | (go_at_call 10; exact kept_of (HRC.out _))))
  refine wpQuiet_nil ?_
  rintro w2 ⟨⟨_, k2⟩, rfl⟩
  have k3 := k1.comp k2
  have b3 := b1.keep k2 (by simp)
  clear u0 u1 u2 u3 b1 k1 k2 e1 e2
  obtain ⟨g0, g1, g2, g3⟩ := geo_cells b3
  have hB4 : 4 ≤ Bn := by have := HHG.out.b0; omega
  have hP2 : 2 ≤ Pn := by have := HHG.out.p0; omega
  have r1 : ¬ (Bn : Int) = 0 := by omega
  have r2 : ¬ (Bn : Int) = -1 := by omega
  have f1 : IntKind.i64.wrap (x : Int) = (x : Int) := wraps_i64 _ (by omega) (by omega)
  have hr1 : (x : Int).tmod (Bn : Int) = ((x % Bn : Nat) : Int) := by rw [Int.tmod_eq_emod_of_nonneg (by omega)]; rfl
  have hi : x % Bn < Bn := Nat.mod_lt x (by omega)
  generalize x % Bn = i at *
  go_upto_region 6 with (fail)
  clear r1 r2 f1 hr1 hd6
  have HMK : MarkOk 1 3 0 := ⟨by omega, by omega, by omega, by omega⟩
  have hz := szB_le HHG.out
  have hz1 := (szB_pk Wn Kn hwk).2
  have hm17 : 17 ≤ m := by
    have h1 : 1 * (1 + 16) ≤ Wn * (Kn + 16) := Nat.mul_le_mul hw0 (by omega)
    rw [HMM.out]
    omega
  have hm1 : ∀ w a c, ArgV w a (szB Wn Kn) (fun _ => .int .u8 0) → Calls Tryz.prog 12 #[geoV Bn Pn Wn Kn, markV ((1 : Nat) : Int) ((3 : Nat) : Int) ((0 : Nat) : Int), .slice a (szB Wn Kn) c] w fun e w' => ∃ a' c', e = .returned (.tuple #[.slice a' m c', .int .i64 0]) ∧ OwnU w' w.heap.size a' m c' (pageS Wn Kn (pgD 1 3 0 (fun _ => 0) (szB Wn Kn))) ∧ Keep (fun _ => False) w w' := by
    rw [HMM.out]
    exact fun w a c ha => rmake_yes Bn Pn Wn Kn 1 3 0 a c (fun _ => 0) w HHG.out HMK ha (fun i _ => by omega)
  have hs1 : ∀ i, i < m → pageS Wn Kn (pgD 1 3 0 (fun _ => 0) (szB Wn Kn)) i < 1024 := by
    rw [HMM.out]
    exact fun i hi => pageS_lt (pgD_lt HMK _ _) hw0 hi
  have hr2 : Reads (tnX (pageS Wn Kn (pgD 1 3 0 (fun _ => 0) (szB Wn Kn))) m) (tnY (pageS Wn Kn (pgD 1 3 0 (fun _ => 0) (szB Wn Kn))) m) Wn Kn (.found 1 3 0 0) := by
    have := reads_prog (kk := Wn * (Kn + 16)) (d := fun _ => 0) HMK (fun i (_ : i < szB Wn Kn) => by omega) hw0 hk1 hwk
    unfold progO at this
    rw [if_neg (by have := HMM.out; omega), tn_start_most (Nat.le_refl _), if_pos (Nat.zero_le _), ← HMM.out] at this
    exact this
  generalize pageS Wn Kn (pgD 1 3 0 (fun _ => 0) (szB Wn Kn)) = S at *
  have HM1 := Lib.hid hm1
  have HS1 := Lib.hid hs1
  have HR2 := Lib.hid hr2
  have HSZ := Lib.hid (fun w => rsize_any (Bn : Int) Pn Wn Kn w HHG.out)
  clear hm1 hs1 hr2 HMK HRC
  generalize szB Wn Kn = z at *
  go_wp2_with fail
  clear g0 g1 g2 g3
  refine (bk_new (i := i) (m := m) (S := S) _ HHG.out).mono ?_
  rintro e w4 ⟨num, rfl, hC4, q4, hlo⟩
  have k4 := k3.comp q4
  have b4 := b3.keep q4 (by simp)
  have hgl := b3.lt
  have hlo4 : ∀ k, Own num (bkC Bn Pn Wn Kn i m S 0) k → w.heap.size + 1 ≤ k := fun k h => by have := hlo k h; omega
  have HLO4 := Lib.hid hlo4
  have HC4 := Lib.hid hC4
  clear b3 k3 q4 hlo hlo4 hC4
  go_upto_region 9 with (fail)
  have hmk := make_by (z : Nat) z rfl (by omega)
  go_cut [10] (fun v wc => ∃ (aS : Option Addr) (cS : Nat), v = .slice aS m cS ∧ Hid (OwnU wc w4.heap.size aS m cS S) ∧ Keep (fun _ => False) w4 wc)
  case first =>
    have kd := (Keep.refl (fun _ => False) w4).drew
    obtain ⟨g0, g1, g2, g3⟩ := geo_cells (b4.keep kd (by simp))
    go_region_held3 (fun w' => w'.cell? ⟨w.heap.size, 0, none⟩ = some (.int .i64 Bn) ∧ w'.cell? ⟨w.heap.size, 1, none⟩ = some (.int .i64 Pn) ∧ w'.cell? ⟨w.heap.size, 2, none⟩ = some (.int .i64 Wn) ∧ w'.cell? ⟨w.heap.size, 3, none⟩ = some (.int .i64 Kn))
      (first | with_reducible exact ⟨g0, g1, g2, g3⟩ | with_reducible exact geo_cells (b4.keep q5 (by simp)) | with_reducible exact geo_cells (b4.keep q6 (by simp)) | exact geo_cells (b4.keep (q5.alloc _) (by simp)))
      (first
        | (go_at_call 11
           refine (HSZ.out _).mono ?_
           rintro e w5 ⟨rfl, q5'⟩
           have q5 : Keep (fun _ => False) w4 w5 := kd.comp q5')
        | (go_at_call 12
           refine (HM1.out _ _ _ ((RowV.of_blk (Blk.new w5 5 (valsArr (fun _ => .int .u8 0) z))).arg (by omega))).mono ?_
           rintro e w6 ⟨aS, cS, rfl, oS, q6'⟩
           have q6 : Keep (fun _ => False) w4 w6 := (q5.alloc _).comp q6'
           have z6 := (q5.alloc (.cells (valsArr (fun _ => .int .u8 0) z) 5)).size))
    all_goals
      go_wp2_with fail
      go_meet
      exact ⟨aS, cS, rfl, Lib.hid (oS.more z6), q6⟩
  case rest =>
  obtain ⟨aS, cS, rfl, oS, q5⟩ := hcut
  have oS := oS.out
  obtain ⟨gS, rfl, hgS, _, _⟩ := oS.row (by omega)
  have A5 := oS.arg (by omega) (fun i hi => by have := HS1.out i hi; omega)
  have hgS0 : ∀ k, Own num (bkC Bn Pn Wn Kn i m S 0) k → w.heap.size + 1 ≤ k ∧ k ≠ gS := fun k h => ⟨HLO4.out k h, by have := h.lt HC4.out; omega⟩
  have hC5 := HC4.out.keepF q5
  have b5 := b4.keep q5 (by simp)
  have k5 := k4.comp q5
  obtain ⟨_, _, ee, hgS2, _⟩ := A5.at_ (by omega)
  cases ee
  have hgw := b5.lt
  have r1 : ¬ (Pn : Int) + 1 = 0 := by omega
  have r2 : ¬ (Pn : Int) + 1 = -1 := by omega
  have f1 : IntKind.i64.wrap (y : Int) = (y : Int) := wraps_i64 _ (by omega) (by omega)
  have hr1 : (y : Int).tmod ((Pn : Int) + 1) = ((y % (Pn + 1) : Nat) : Int) := by rw [Int.tmod_eq_emod_of_nonneg (by omega)]; rfl
  have hn : y % (Pn + 1) < Pn + 1 := Nat.mod_lt y (by omega)
  generalize y % (Pn + 1) = n at *
  obtain ⟨g0, g1, g2, g3⟩ := geo_cells b5
  have HREL := Lib.hid (show BkRel w (num .chip) Bn Pn Wn Kn i m S gS n w.heap.size (.int .i64 0) wc from ⟨0, num, Nat.zero_le _, rfl, rfl, hC5, A5, hgS0, k5, b5, hgS2⟩)
  generalize num .chip = cb at *
  go_upto_region 11 with (fail)
  clear r1 r2 f1 hr1 hC5 A5 hgS0 k5 b5 hgS2 g0 g1 g2 g3 oS hgS HLO4 HC4 k4 b4 HM1 HSZ hmk
  go_wp2_with fail
  go_loopw [13] (fun v wr => BkRel w cb Bn Pn Wn Kn i m S gS n w.heap.size v wr) (fun v _ => n - (intOf v).toNat)
  case atStart => exact HREL.out
  case round =>
    clear HREL
    obtain ⟨t, num, ht, rfl, hcb, hm, ha, ho, hk, hb, hgs⟩ := hrel
    by_cases htn : t < n
    · have htn' : (t : Int) < (n : Int) := by omega
      have hp := bk_prog wr HMM.out (by omega) hm hi (by omega) hP32 gS cS ha HS1.out (fun e => (ho _ e).2 rfl)
      rw [hcb] at hp
      have HP := Lib.hid hp
      have HX := Lib.hid (And.intro ha (And.intro ho (And.intro hk hb)))
      clear hp hm ha ho hk hb
      go_wp2_with fail
      refine HP.out.mono ?_
      rintro e w2 ⟨num2, rfl, hm2, hcb2, hk2, ho2⟩
      obtain ⟨ha, ho, hk, hb⟩ := HX.out
      have hz := hk.size
      have HN := Lib.hid (show BkRel w cb Bn Pn Wn Kn i m S gS n w.heap.size (.int .i64 (t + 1 : Nat)) w2 from
        ⟨t + 1, num2, by omega, rfl, hcb2, hm2, ha.keepS hk2 (fun e => (ho _ e).2 rfl), fun k h => (ho2 k h).elim (ho k) (fun h => ⟨by have := hb.lt; omega, by omega⟩), hk.drop hk2 (fun k h => by have := (ho k h).1; omega), hb.keep hk2 (fun e => by have := (ho _ e).1; omega), Nat.lt_of_lt_of_le hgs hk2.size⟩)
      clear hm2 hcb2 hk2 ho2 ha ho hk hb HX HP
      go_wp2_with fail
      go_roundw
      case rel => exact HN.out
      case measure => simp [intOf]; omega
    · obtain rfl : t = n := by omega
      have htn' : ¬ (t : Int) < (t : Int) := by omega
      have HCM := Lib.hid hm
      have HO := Lib.hid (fun k (h : Own num (bkC Bn Pn Wn Kn i m S t) k) => And.intro (ho k h).1 (h.lt hm))
      clear hm ho ha hgs
      go_wp2_with fail
      refine (make_any _).mono ?_
      rintro e w6 ⟨t1, t2, rfl, T, ht1, ht2, q6⟩
      obtain ⟨TV, q7⟩ := TVar.new T
      have q67 := q6.comp q7
      have hb7 := hb.keep q67 (by simp)
      have hk7 := hk.comp q67
      have hz6 := q6.size
      have HC7 := Lib.hid (HCM.out.keepF q67)
      unfold tabV
      clear HCM q67 q7 hb hk T q6
      go_upto_region 17 with (fail)
      generalize w6.alloc (.cells #[.slice (some ⟨t1, 0, none⟩) 1023 1023, .slice (some ⟨t2, 0, none⟩) 1024 1024] 49) = w7 at *
      generalize w6.heap.size = gt at *
      obtain ⟨q, hq⟩ : ∃ q, q = t + Pn := ⟨_, rfl⟩
      have hF := bkC_f (B := Bn) (P := Pn) (W := Wn) (K := Kn) (i := i) (m := m) (S := S) t
      have hO1 := bk_ops w7 _ HC7.out t hF.o
      have hS1 := bk_scan w7 (tabV t1 t2) HC7.out TV.t.has (fun w' hk => (TV.t.keepS hk (fun e => by have := (HO.out _ e).2; omega) (fun e => by have := (HO.out _ e).2; omega)).has) hi (by omega) hP32 HR2.out
      rw [hcb] at hO1 hS1
      have HO1 := Lib.hid hO1
      have HS2 := Lib.hid hS1
      obtain ⟨d0, d1⟩ := tab_cells TV.b
      clear hO1 hS1 htn htn'
      unfold tabV at HS2
      go_wp2_with fail
      refine HO1.out.mono ?_
      rintro e w8 ⟨rfl, rfl⟩
      clear HO1
      go_wp2_with fail
      refine HS2.out.mono ?_
      rintro e w9 ⟨a9, c9, rfl, hC9, q9⟩
      have hnO : ∀ g, wr.heap.size ≤ g → ¬ Own num (bkC Bn Pn Wn Kn i m S t) g := fun g hg e => by have := (HO.out _ e).2; omega
      have TV9 := TV.keepO q9 (hnO _ hz6) (hnO _ ht1) (hnO _ ht2)
      have hb9 := hb7.keep q9 (fun e => by have := (HO.out _ e).1; omega)
      have hk9 := hk7.drop q9 (fun k h => by have := (HO.out k h).1; omega)
      have hz9 := q9.size
      have hz7 := TV.b.lt
      have kA := (Keep.refl (fun _ => False) w9).alloc (.cells #[.slice a9 t c9, .int .i64 t, .int .i64 0] 44)
      have sA := Blk.new w9 44 #[.slice a9 t c9, .int .i64 t, .int .i64 0]
      have TVA := TV9.keep kA
      have hbA := hb9.keep kA (by simp)
      have hkA := hk9.comp kA
      have HCA := Lib.hid (hC9.keepF kA)
      have hzA := kA.size
      clear TV TV9 hb7 hb9 hk7 hk9 hC9 kA q9 d0 d1 HS2 HC7
      go_upto_region 19 with (fail)
      generalize w9.alloc (.cells #[.slice a9 t c9, .int .i64 t, .int .i64 0] 44) = wA at *
      generalize w9.heap.size = gX at *
      have hO2 := bk_ops wA _ HCA.out q (by show (bkC Bn Pn Wn Kn i m S t).ops + Pn = q; rw [hF.o, hq])
      have hE := bk_erase wA HCA.out hi (by omega) hP32
      rw [hcb] at hO2 hE
      have HO2 := Lib.hid hO2
      have HE := Lib.hid hE
      have f2 : IntKind.i64.wrap ((q : Int) - (t : Int)) = (Pn : Int) := by rw [hq, show ((t + Pn : Nat) : Int) - t = (Pn : Int) by omega]; exact wraps_i64 _ (by omega) (by omega)
      have HF := Lib.hid hF
      clear hO2 hE hq hF
      go_wp2_with fail
      refine HO2.out.mono ?_
      rintro e w10 ⟨rfl, rfl⟩
      obtain ⟨s0, s1, s2⟩ := sight_cells sA
      obtain ⟨g0, g1, g2, g3⟩ := geo_cells hbA
      clear HO2
      go_wp2_with fail
      clear f2 s0 s1 s2 g0 g1 g2 g3 sA
      refine HE.out.mono ?_
      rintro e wB ⟨rfl, hCB, qB⟩
      have TVB := TVA.keepO qB (hnO _ hz6) (hnO _ ht1) (hnO _ ht2)
      have hbB := hbA.keep qB (fun e => by have := (HO.out _ e).1; omega)
      have hkB := hkA.drop qB (fun k h => by have := (HO.out k h).1; omega)
      have hS2 := bk_scan2 wB (tabV t1 t2) hCB TVB.t.has (fun w' hk => (TVB.t.keepS hk (fun e => hnO _ ht1 (own_bkE e)) (fun e => hnO _ ht2 (own_bkE e))).has) hi (by omega) hP32
      rw [hcb] at hS2
      unfold tabV at hS2
      have HS2 := Lib.hid hS2
      have hzB := qB.size
      obtain ⟨d0, d1⟩ := tab_cells TVB.b
      clear hS2 hCB TVA hbA hkA qB HE HCA
      go_wp2_with fail
      refine HS2.out.mono ?_
      rintro e wC ⟨aC, cC, rfl, hCC, qC⟩
      have TVC := TVB.keepO qC (hnO _ hz6) (hnO _ ht1) (hnO _ ht2)
      have hbC := hbB.keep qC (fun e => by have := (HO.out _ e).1; omega)
      have hkC := hkB.drop qC (fun k h => by have := (HO.out k h).1; omega)
      have hzC := qC.size
      have kD := (Keep.refl (fun _ => False) wC).alloc (.cells #[.slice aC 0 cC, .int .i64 0, .int .i64 0] 44)
      have sD := Blk.new wC 44 #[.slice aC 0 cC, .int .i64 0, .int .i64 0]
      have TVD := TVC.keep kD
      have hbD := hbC.keep kD (by simp)
      have hkD := hkC.comp kD
      have HCD := Lib.hid (hCC.keepF kD)
      clear TVB TVC hbB hbC hkB hkC hCC kD qC d0 d1 HS2
      go_upto_region 23 with (fail)
      generalize wC.alloc (.cells #[.slice aC 0 cC, .int .i64 0, .int .i64 0] 44) = wD at *
      generalize wC.heap.size = gY at *
      have hS3 := bk_no wD (tabV t1 t2) HCD.out TVD.t.has (by omega) hP32
      rw [hcb] at hS3
      unfold tabV sightE at hS3
      have HS3 := Lib.hid hS3
      obtain ⟨d0, d1⟩ := tab_cells TVD.b
      obtain ⟨g0, g1, g2, g3⟩ := geo_cells hbD
      clear hS3 HCD
      go_wp2_with fail
      refine HS3.out.mono ?_
      rintro e wE ⟨rfl, qE⟩
      have TVE := TVD.keepO qE (hnO _ hz6) (hnO _ ht1) (hnO _ ht2)
      have sE := sD.keep qE (hnO _ (by omega))
      have hkE := hkD.drop qE (fun k h => by have := (HO.out k h).1; omega)
      have kF := (Keep.refl (fun _ => False) wE).alloc (.cells #[.slice none 0 0, .int .i64 0, .int .i64 0] 44)
      have TVF := TVE.keep kF
      have sF := sE.keep kF (by simp)
      have hkF := hkE.comp kF
      clear TVD TVE sD sE hbD hkD hkE qE kF d0 d1 g0 g1 g2 g3 HS3
      go_upto_region 24 with (fail)
      generalize wE.alloc (.cells #[.slice none 0 0, .int .i64 0, .int .i64 0] 44) = wF at *
      generalize wE.heap.size = gE at *
      have hS4 := scan_nil (tabV t1 t2) wF TVF.t.has
      unfold tabV sightE at hS4
      have HS4 := Lib.hid hS4
      obtain ⟨d0, d1⟩ := tab_cells TVF.b
      clear hS4
      go_wp2_with fail
      refine HS4.out.mono ?_
      rintro e wG ⟨rfl, qG⟩
      have qH := qG.alloc (.cells #[.slice none 0 0, .int .i64 0, .int .i64 0] 44)
      have sH := sF.keep qH (by simp)
      have hkH := hkF.comp qH
      obtain ⟨s0, s1, s2⟩ := sight_cells sH
      clear TVF sF hkF qG qH sH d0 d1 HS4
      go_wp2_with fail
      go_ret
      exact ⟨rfl, hkH⟩
set_option maxRecDepth 100000 in
theorem blank18_of {H : Type} {enc : TypeId × Value → H} {base b0 : Nat} {d0 : DataW H} {ps0 : List MemPlace} {sp0 : Nat → Bool} (w : World) {v : Value} {x y : Int} (hx : (Lit.int .u8 x).wf = true) (hy : (Lit.int .u8 y).wf = true)
    (hv : Value.okWide Tryz.prog w .any b0 23 v) (hg : DataW.Trod enc Tryz.prog w base sp0 true 23 v d0 ps0) :
    Calls Tryz.prog 4 #[v, .int .u8 x, .int .u8 y] w fun e w' => e = .returned (.bool true) ∧ Keep (fun _ => False) w w' := by
  obtain ⟨B, P, W, K, rfl⟩ := geo4_of hv hg
  obtain ⟨x, rfl, hx1⟩ := byte_nat hx
  obtain ⟨y, rfl, hy1⟩ := byte_nat hy
  exact blank18_true w B P W K x y hx1 hy1
end Go.Proofs.YtdlmjjlejkkniaaGreat
