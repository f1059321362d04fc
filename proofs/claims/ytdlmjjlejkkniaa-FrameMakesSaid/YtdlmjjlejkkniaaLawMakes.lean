/- blackboardlaw11.FrameMakes: any head, any data: the page, or why there is none; read it is the same. -/
import Derived.Test.YtdlmjjlejkkniaaFrSays
namespace Go.Proofs.Ytdlmjjlejkkniaa
open Go.ChangeShapes Go.WideShapes Go.ChangeAt Go.RowKit

theorem ArgU.empty (w : World) (p : Nat → Nat) : ArgU w none 0 p := ArgU.nil w p
set_option maxRecDepth 100000 in
set_option maxHeartbeats 4000000 in
/-- Not small: nothing is asked. -/
theorem makes_great (w : World) (B P W K k l s : Int) (a : Option Addr) (n c : Nat)
    (hS : ∀ w, Calls Try.prog 15 #[geoV B P W K] w fun e w' => e = .returned (.bool false) ∧ Keep (fun _ => False) w w') :
    Calls Try.prog 3 #[geoV B P W K, markV k l s, .slice a n c] w fun e w' => e = .returned (.bool true) ∧ Keep (fun _ => False) w w' := by
  have HS := Lib.hid hS
  have k0 := ((Keep.refl (fun _ => False) w).alloc (.cells #[.int .i64 B, .int .i64 P, .int .i64 W, .int .i64 K] 23)).alloc (.cells #[.int .i64 k, .int .i64 l, .int .i64 s] 25)
  have b0 := (Blk.new w 23 #[.int .i64 B, .int .i64 P, .int .i64 W, .int .i64 K]).alloc (.cells #[.int .i64 k, .int .i64 l, .int .i64 s] 25)
  unfold markV
  clear hS
  go_enter Try.func3, Try.ntmps3
  go_wp2_with fail
  refine (awake11_true _).mono ?_
  rintro e w1 ⟨rfl, q1⟩
  have k1 := k0.comp q1
  have b1 := b0.keep q1 (by simp)
  clear b0 k0 q1
  obtain ⟨g0, g1, g2, g3⟩ := geo_cells' b1
  go_wp2_with fail
  refine (HS.out _).mono ?_
  rintro e w2 ⟨rfl, q2⟩
  have k2 := k1.comp q2
  clear b1 k1 q2 g0 g1 g2 g3
  go_wp2_with fail
  go_ret
  exact ⟨rfl, k2⟩
set_option maxRecDepth 100000 in
set_option maxHeartbeats 8000000 in
/-- No page: both say why. -/
theorem makes_err (w : World) (B P W K k l s z : Int) (a : Option Addr) (n c : Nat) (hz : z = 1 ∨ z = 3)
    (hS : ∀ w, Calls Try.prog 15 #[geoV B P W K] w fun e w' => e = .returned (.bool true) ∧ Keep (fun _ => False) w w')
    (hF : ∀ w V, HasT w V → Calls Try.prog 17 #[V, geoV B P W K, markV k l s, .slice a n c] w fun e w' => e = .returned (.tuple #[.slice none 0 0, .int .i64 z]) ∧ Keep (fun _ => False) w w')
    (hR : ∀ w, Calls Try.prog 18 #[geoV B P W K, markV k l s, .slice a n c] w fun e w' => e = .returned (.tuple #[.slice none 0 0, .int .i64 z]) ∧ Keep (fun _ => False) w w') :
    Calls Try.prog 3 #[geoV B P W K, markV k l s, .slice a n c] w fun e w' => e = .returned (.bool true) ∧ Keep (fun _ => False) w w' := by
  have HS := Lib.hid hS
  have HF := Lib.hid hF
  have HR := Lib.hid hR
  have k0 := ((Keep.refl (fun _ => False) w).alloc (.cells #[.int .i64 B, .int .i64 P, .int .i64 W, .int .i64 K] 23)).alloc (.cells #[.int .i64 k, .int .i64 l, .int .i64 s] 25)
  have b0 := (Blk.new w 23 #[.int .i64 B, .int .i64 P, .int .i64 W, .int .i64 K]).alloc (.cells #[.int .i64 k, .int .i64 l, .int .i64 s] 25)
  have m0 : Blk ((w.alloc (.cells #[.int .i64 B, .int .i64 P, .int .i64 W, .int .i64 K] 23)).alloc (.cells #[.int .i64 k, .int .i64 l, .int .i64 s] 25)) (w.heap.size + 1) 25 #[.int .i64 k, .int .i64 l, .int .i64 s] := Blk.here _ _ _ _ (by simp)
  unfold markV at HF HR ⊢
  clear hS hF hR
  go_enter Try.func3, Try.ntmps3
  go_wp2_with fail
  refine (awake11_true _).mono ?_
  rintro e w1 ⟨rfl, q1⟩
  have k1 := k0.comp q1
  have b1 := b0.keep q1 (by simp)
  have m1 := m0.keep q1 (by simp)
  clear b0 k0 q1 m0
  obtain ⟨g0, g1, g2, g3⟩ := geo_cells' b1
  go_wp2_with fail
  refine (HS.out _).mono ?_
  rintro e w2 ⟨rfl, q2⟩
  have k2 := k1.comp q2
  have b2 := b1.keep q2 (by simp)
  have m2 := m1.keep q2 (by simp)
  clear b1 k1 q2 g0 g1 g2 g3 m1
  by_cases hn1 : 1000 < n
  · have hn1' : (1000 : Int) < (n : Int) := by omega
    go_wp2_with fail
    go_ret
    exact ⟨rfl, k2⟩
  have hn1' : ¬ (1000 : Int) < (n : Int) := by omega
  go_wp2_with fail
  clear hn1'
  refine (make_any _).mono ?_
  rintro e w3 ⟨t1, t2, rfl, T, _, _, q3⟩
  unfold tabV
  obtain ⟨TV, q4⟩ := TVar.new T
  have k4 := k2.comp (q3.comp q4)
  have b4 := b2.keep (q3.comp q4) (by simp)
  have m4 := m2.keep (q3.comp q4) (by simp)
  go_upto_region 6 with (fail)
  generalize w3.alloc (.cells #[.slice (some ⟨t1, 0, none⟩) 1023 1023, .slice (some ⟨t2, 0, none⟩) 1024 1024] 32) = w4 at *
  generalize w3.heap.size = gt at *
  obtain ⟨d0, d1⟩ := tab_cells TV.b
  obtain ⟨g0, g1, g2, g3⟩ := geo_cells' b4
  obtain ⟨p0, p1, p2⟩ := mark_cells m4
  clear k2 b2 m2 T q3 q4
  go_wp2_with fail
  refine (HF.out _ _ TV.t.has).mono ?_
  rintro e w5 ⟨rfl, q5⟩
  have k5 := k4.comp q5
  have b5 := b4.keep q5 (by simp)
  have m5 := m4.keep q5 (by simp)
  clear d0 d1 g0 g1 g2 g3 p0 p1 p2 k4 b4 m4 TV q5
  obtain ⟨g0, g1, g2, g3⟩ := geo_cells' b5
  obtain ⟨p0, p1, p2⟩ := mark_cells m5
  go_wp2_with fail
  refine (HR.out _).mono ?_
  rintro e w6 ⟨rfl, q6⟩
  have k6 := k5.comp q6
  clear g0 g1 g2 g3 p0 p1 p2 k5 b5 m5 q6 HF HR HS
  obtain rfl | rfl := hz
  · go_wp2_with fail
    refine (same_yes none none 0 0 0 (fun _ => 0) (fun _ => 0) w6 (ArgU.nil _ _) (ArgU.nil _ _) (by omega) (fun _ _ => rfl)).mono ?_
    rintro e w7 ⟨rfl, q7⟩
    go_wp2_with fail
    go_ret
    exact ⟨rfl, k6.comp q7⟩
  · go_wp2_with fail
    refine (same_yes none none 0 0 0 (fun _ => 0) (fun _ => 0) w6 (ArgU.nil _ _) (ArgU.nil _ _) (by omega) (fun _ _ => rfl)).mono ?_
    rintro e w7 ⟨rfl, q7⟩
    go_wp2_with fail
    go_ret
    exact ⟨rfl, k6.comp q7⟩
set_option maxRecDepth 100000 in
set_option maxHeartbeats 16000000 in
/-- A page, made and read. -/
theorem makes_ok (w : World) (B P : Int) (W K k l s : Nat) (a : Option Addr) (c : Nat) (d : Nat → Nat) (hg : GeoOk B P W K) (hs2 : W * (K + 16) ≤ 200) (hm : MarkOk k l s) (ha : ArgV w a (szB W K) (fun i => .int .u8 (d i : Nat))) (hd : ∀ i, i < szB W K → d i < 256) :
    Calls Try.prog 3 #[geoV B P W K, markV k l s, .slice a (szB W K) c] w fun e w' => e = .returned (.bool true) ∧ Keep (fun _ => False) w w' := by
  obtain ⟨hw0, hw1, hk0, hk1, hwk, hwk2⟩ := geo_nat hg
  have hz := szB_le hg
  have hz1 := (szB_pk W K hwk).2
  have HS := Lib.hid (fun w => small_yes B P W K w hg)
  rw [decide_eq_true hs2] at HS
  have HF := Lib.hid (fun w V (hT : HasT w V) ha => fmake_yes V B P W K k l s a c d w hg hm hT ha hd)
  have HR := Lib.hid (fun w ha => rmake_yes B P W K k l s a c d w hg hm ha hd)
  have hD : ∀ i, pgD k l s d (szB W K) i < 1024 := pgD_lt hm d _
  have HSl := Lib.hid (fun i (hi : i < W * (K + 16)) => pageS_lt hD hw0 hi)
  have HFS := Lib.hid (fresh_says hm hd hw0 hk1 hwk)
  obtain ⟨m, hmm⟩ : ∃ m, m = W * (K + 16) := ⟨_, rfl⟩
  have HMm := Lib.hid hmm
  have hm0 : 0 < m := by rw [hmm]; exact Nat.mul_pos hw0 (by omega)
  obtain ⟨S, hSe⟩ : ∃ S, S = pageS W K (pgD k l s d (szB W K)) := ⟨_, rfl⟩
  rw [← hmm] at HSl hs2
  rw [← hSe] at HSl HFS
  have HFm : ∀ w V, HasT w V → ArgV w a (szB W K) (fun i => .int .u8 (d i : Nat)) → Calls Try.prog 17 #[V, geoV B P W K, markV k l s, .slice a (szB W K) c] w fun e w' => ∃ a' c', e = .returned (.tuple #[.slice a' m c', .int .i64 0]) ∧ OwnU w' w.heap.size a' m c' S ∧ Keep (fun _ => False) w w' := by
    rw [hmm, hSe]
    exact HF.out
  have HRm : ∀ w, ArgV w a (szB W K) (fun i => .int .u8 (d i : Nat)) → Calls Try.prog 18 #[geoV B P W K, markV k l s, .slice a (szB W K) c] w fun e w' => ∃ a' c', e = .returned (.tuple #[.slice a' m c', .int .i64 0]) ∧ OwnU w' w.heap.size a' m c' S ∧ Keep (fun _ => False) w w' := by
    rw [hmm, hSe]
    exact HR.out
  clear HF HR
  have HF := Lib.hid HFm
  have HR := Lib.hid HRm
  have HRD := read_says (n := m) hg hmm (fun i _ => ⟨(Pu_re (S i)).pm, (Pu_im (S i)).pm⟩) HFS.out
  clear HFm HRm hSe hmm hD HFS
  have HA := Lib.hid ha
  have HD := Lib.hid hd
  generalize szB W K = z at *
  have k0 := ((Keep.refl (fun _ => False) w).alloc (.cells #[.int .i64 B, .int .i64 P, .int .i64 W, .int .i64 K] 23)).alloc (.cells #[.int .i64 k, .int .i64 l, .int .i64 s] 25)
  have b0 := (Blk.new w 23 #[.int .i64 B, .int .i64 P, .int .i64 W, .int .i64 K]).alloc (.cells #[.int .i64 k, .int .i64 l, .int .i64 s] 25)
  have m0 : Blk ((w.alloc (.cells #[.int .i64 B, .int .i64 P, .int .i64 W, .int .i64 K] 23)).alloc (.cells #[.int .i64 k, .int .i64 l, .int .i64 s] 25)) (w.heap.size + 1) 25 #[.int .i64 k, .int .i64 l, .int .i64 s] := Blk.here _ _ _ _ (by simp)
  have hn1' : ¬ (1000 : Int) < (z : Int) := by omega
  unfold markV at HF HR ⊢
  clear ha hd hm hg
  go_enter Try.func3, Try.ntmps3
  go_wp2_with fail
  refine (awake11_true _).mono ?_
  rintro e w1 ⟨rfl, q1⟩
  have k1 := k0.comp q1
  have b1 := b0.keep q1 (by simp)
  have m1 := m0.keep q1 (by simp)
  clear b0 k0 q1 m0
  obtain ⟨g0, g1, g2, g3⟩ := geo_cells b1
  go_wp2_with fail
  refine (HS.out _).mono ?_
  rintro e w2 ⟨rfl, q2⟩
  have k2 := k1.comp q2
  have b2 := b1.keep q2 (by simp)
  have m2 := m1.keep q2 (by simp)
  clear b1 k1 q2 g0 g1 g2 g3 m1
  go_wp2_with fail
  clear hn1'
  refine (make_any _).mono ?_
  rintro e w3 ⟨t1, t2, rfl, T, _, _, q3⟩
  unfold tabV
  obtain ⟨TV, q4⟩ := TVar.new T
  have k4 := k2.comp (q3.comp q4)
  have b4 := b2.keep (q3.comp q4) (by simp)
  have m4 := m2.keep (q3.comp q4) (by simp)
  go_upto_region 6 with (fail)
  generalize w3.alloc (.cells #[.slice (some ⟨t1, 0, none⟩) 1023 1023, .slice (some ⟨t2, 0, none⟩) 1024 1024] 32) = w4 at *
  generalize w3.heap.size = gt at *
  obtain ⟨d0, d1⟩ := tab_cells TV.b
  obtain ⟨g0, g1, g2, g3⟩ := geo_cells b4
  obtain ⟨p0, p1, p2⟩ := mark_cells m4
  clear k2 b2 m2 T q3 q4
  go_wp2_with fail
  refine (HF.out _ _ TV.t.has (HA.out.keep k4)).mono ?_
  rintro e w5 ⟨aS, cS, rfl, oS, q5⟩
  have k5 := k4.comp q5
  have b5 := b4.keep q5 (by simp)
  have m5 := m4.keep q5 (by simp)
  have TV5 := TV.keep q5
  have AS5 := Lib.hid (oS.arg (by omega) (fun i hi => by have := HSl.out i hi; omega))
  clear d0 d1 g0 g1 g2 g3 p0 p1 p2 k4 b4 m4 TV q5 oS HF
  obtain ⟨g0, g1, g2, g3⟩ := geo_cells b5
  obtain ⟨p0, p1, p2⟩ := mark_cells m5
  go_wp2_with fail
  refine (HR.out _ (HA.out.keep k5)).mono ?_
  rintro e w6 ⟨aR, cR, rfl, oR, q6⟩
  have k6 := k5.comp q6
  have b6 := b5.keep q6 (by simp)
  have m6 := m5.keep q6 (by simp)
  have TV6 := TV5.keep q6
  have AS6 := Lib.hid (AS5.out.keep q6)
  have AR6 := Lib.hid (oR.arg (by omega) (fun i hi => by have := HSl.out i hi; omega))
  clear g0 g1 g2 g3 p0 p1 p2 k5 b5 m5 TV5 AS5 q6 HR HS oR
  go_wp2_with fail
  refine (same_yes aS aR m cS cR S S w6 AS6.out AR6.out (by omega) (fun _ _ => rfl)).mono ?_
  rintro e w7 ⟨rfl, q7⟩
  have k7 := k6.comp q7
  have b7 := b6.keep q7 (by simp)
  have m7 := m6.keep q7 (by simp)
  have TV7 := TV6.keep q7
  have HAS := Lib.hid (AS6.out.keep q7)
  clear k6 b6 m6 TV6 AS6 AR6 q7
  have HPT := points_says aS m cS S (by omega)
  go_upto_region 12 with (fail)
  go_cut [12, 13, 14, 15] (fun v5 v6 v7 v8 wc => ∃ (g5 : Nat) (aD : Option Addr) (cD : Nat), v5 = .pointer (some ⟨g5, 0, none⟩) ∧ v6 = .slice aD z cD ∧ v7 = .int .i64 0 ∧ v8 = .int .i64 0 ∧ Hid (Blk wc g5 25 #[.int .i64 k, .int .i64 l, .int .i64 s]) ∧ Hid (OwnV wc 5 w7.heap.size aD z cD (fun j => .int .u8 (d j : Nat))) ∧ Keep (fun _ => False) w7 wc)
  case first =>
    have kd := (Keep.refl (fun _ => False) w7).drew
    have kz := kd.alloc (.cells #[.int .i64 0, .int .i64 0, .int .i64 0] 25)
    have bz : Blk (w7.drew.alloc (.cells #[.int .i64 0, .int .i64 0, .int .i64 0] 25)) w7.heap.size 25 #[.int .i64 0, .int .i64 0, .int .i64 0] := Blk.new w7.drew _ _
    obtain ⟨q0, q1, q2, q3⟩ := geo_cells (b7.keep kd (by simp))
    obtain ⟨d0, d1⟩ := tab_cells (TV7.keep kd).b
    go_region_held3 (fun w' => (w'.cell? ⟨gt, 0, none⟩ = some (.slice (some ⟨t1, 0, none⟩) 1023 1023) ∧ w'.cell? ⟨gt, 1, none⟩ = some (.slice (some ⟨t2, 0, none⟩) 1024 1024)) ∧ w'.cell? ⟨w.heap.size, 0, none⟩ = some (.int .i64 B) ∧ w'.cell? ⟨w.heap.size, 1, none⟩ = some (.int .i64 P) ∧ w'.cell? ⟨w.heap.size, 2, none⟩ = some (.int .i64 W) ∧ w'.cell? ⟨w.heap.size, 3, none⟩ = some (.int .i64 K))
      (first | with_reducible exact ⟨⟨d0, d1⟩, q0, q1, q2, q3⟩ | with_reducible exact ⟨tab_cells (TV7.keep K5).b, geo_cells (b7.keep K5 (by simp))⟩ | with_reducible exact ⟨tab_cells (TV7.keep K6).b, geo_cells (b7.keep K6 (by simp))⟩ | exact ⟨tab_cells (TV7.keep (K6.mark hg5 _ _ _)).b, geo_cells (b7.keep (K6.mark hg5 _ _ _) (by simp))⟩ | exact ⟨tab_cells (TV7.keep (K6.alloc _)).b, geo_cells (b7.keep (K6.alloc _) (by simp))⟩ | exact ⟨tab_cells (TV7.keep (K5.alloc _)).b, geo_cells (b7.keep (K5.alloc _) (by simp))⟩ | exact ⟨tab_cells (TV7.keep kz).b, geo_cells (b7.keep kz (by simp))⟩)
      (first
        | (go_at_call 21
           refine (HPT.out _ ?hA).mono ?_
           case hA => first | exact HAS.out.keep kd | exact HAS.out.keep kz
           rintro e w5 ⟨aP, cP, rfl, oP, k5⟩
           have K5 : Keep (fun _ => False) w7 w5 := by first | exact kd.comp k5 | exact kz.comp k5
           try have b5 := bz.keep k5 (by simp))
        | (go_at_call 20
           refine (HRD.out _ _ _ _ ?hT ?hA).mono ?_
           case hT => first | exact (TV7.keep K5).t.has | exact (TV7.keep (K5.alloc _)).t.has
           case hA => first | exact oP.arg (by omega) | exact (oP.keep ((Keep.refl _ w5).alloc _)).arg (by omega)
           rintro e w6 ⟨⟨aD, cD, rfl, oD⟩, k6⟩
           have K6 : Keep (fun _ => False) w7 w6 := by first | exact K5.comp k6 | exact (K5.alloc _).comp k6
           try (have b6 := (Blk.new w5 25 #[.int .i64 0, .int .i64 0, .int .i64 0]).keep k6 (by simp); have hg5 := K5.size; have hl6 := (Blk.new w5 25 #[.int .i64 0, .int .i64 0, .int .i64 0]).lt)
           try (have b6 := b5.keep k6 (by simp); have hg5 := Nat.le_refl w7.heap.size; have hl6 := b5.lt)
           try (have bX := mark_put b6 (k) (l) (s); obtain ⟨⟨⟨p0, f0⟩, ⟨p1, f1⟩, p2, f2⟩, bF⟩ := bX)))
    all_goals
      go_wp2_with fail
      go_meet
      first
        | (have bG5 := bF; clear kd kz bz; exact ⟨_, aD, cD, rfl, rfl, rfl, rfl, Lib.hid bG5, Lib.hid ((((oD.far (p := ⟨_, 0, none⟩) hl6 _).far (p := ⟨_, 1, none⟩) hl6 _).far (p := ⟨_, 2, none⟩) hl6 _).more (by first | exact K5.size | exact (K5.alloc _).size)), K6.mark hg5 _ _ _⟩)
        | exact ⟨_, aD, cD, rfl, rfl, rfl, rfl, Lib.hid (Blk.new w6 _ _), Lib.hid ((oD.more K5.size).keep ((Keep.refl _ w6).alloc _)), K6.alloc _⟩
  case rest =>
  obtain ⟨g5, aD, cD, rfl, rfl, rfl, rfl, BM, OD, kc⟩ := hcut
  have kf := k7.comp kc
  have m8 := m7.keep kc (by simp)
  obtain ⟨p0, p1, p2⟩ := mark_cells m8
  obtain ⟨r0, r1, r2⟩ := mark_cells BM.out
  have hstr := str_any aD z cD d wc (OD.out.arg (by omega)) (by omega) HD.out
  have hstr2 := str_any a z c d wc (HA.out.keep kf) (by omega) HD.out
  clear OD HA HAS BM m7 b7 TV7 k7 kc m8 HPT HRD
  generalize strS d z = str at *
  go_wp2_with fail
  go_ret
  exact ⟨rfl, kf⟩
set_option maxRecDepth 100000 in
theorem makes_of {H : Type} {enc : TypeId × Value → H} {base b0 b1 : Nat} {d0 d1 d2 : DataW H} {ps0 ps1 ps2 : List MemPlace} {sp0 sp1 sp2 : Nat → Bool} (w : World) {v u : Value} {a : Option Addr} {n c : Nat}
    (hv : Value.okWide Try.prog w .any b0 23 v) (hg : DataW.Trod enc Try.prog w base sp0 true 23 v d0 ps0)
    (hu : Value.okWide Try.prog w .any b1 25 u) (hk : DataW.Trod enc Try.prog w base sp1 true 25 u d1 ps1)
    (h : DataW.Trod enc Try.prog w base sp2 true 26 (.slice a n c) d2 ps2) :
    Calls Try.prog 3 #[v, u, .slice a n c] w fun e w' => e = .returned (.bool true) ∧ Keep (fun _ => False) w w' := by
  obtain ⟨B, P, W, K, rfl⟩ := geo4_of hv hg
  obtain ⟨k, l, s, rfl⟩ := mark3_of hu hk
  obtain ⟨d, _, hA, hd⟩ := argB_of h
  by_cases hg : GeoOk B P W K
  rotate_left
  · exact makes_err w B P W K k l s 1 a n c (.inl rfl) (fun w => small_no B P W K w hg) (fun w V hT => fmake_arg V B P W K k l s _ w hT (.inl hg)) (fun w => rmake_arg B P W K k l s _ w (.inl hg))
  obtain ⟨W, rfl⟩ : ∃ X : Nat, W = X := ⟨W.toNat, by have := hg.w0; omega⟩
  obtain ⟨K, rfl⟩ : ∃ X : Nat, K = X := ⟨K.toNat, by have := hg.k0; omega⟩
  by_cases hs2 : W * (K + 16) ≤ 200
  rotate_left
  · exact makes_great w B P W K k l s a n c (fun w => by have := small_yes B P W K w hg; rwa [decide_eq_false hs2] at this)
  have hS : ∀ w, Calls Try.prog 15 #[geoV B P W K] w fun e w' => e = .returned (.bool true) ∧ Keep (fun _ => False) w w' := fun w => by
    have := small_yes B P W K w hg
    rwa [decide_eq_true hs2] at this
  rcases markBad_or k l s with hb | ⟨k, l, s, rfl, rfl, rfl, hm⟩
  · exact makes_err w B P W K k l s 1 a n c (.inl rfl) hS (fun w V hT => fmake_arg V B P W K k l s _ w hT (.inr hb)) (fun w => rmake_arg B P W K k l s _ w (.inr hb))
  by_cases hn : n = szB W K
  · subst hn
    have := szB_le hg
    exact makes_ok w B P W K k l s a c d hg hs2 hm (hA (by omega)) hd
  · exact makes_err w B P W K k l s 3 a n c (.inr rfl) hS (fun w V hT => fmake_size V B P W K k l s n a c w hT hg hm hn) (fun w => rmake_size B P W K k l s n a c w hg hm hn)
end Go.Proofs.Ytdlmjjlejkkniaa
