/- blackboardlaw11.FrameAgain: the same head and data make the same page, by tables that were made and by those that were not. -/
import Derived.Test.YtdlmjjlejkkniaaFrSays
namespace Go.Proofs.Ytdlmjjlejkkniaa
open Go.ChangeShapes Go.WideShapes Go.ChangeAt Go.RowKit

theorem str_of (a : Option Addr) (n c : Nat) (d : Nat → Nat) (w : World) (ha : ArgV w a n (fun i => .int .u8 (d i : Nat))) (hd : ∀ i, i < n → d i < 256) :
    (convert 26 9 (.slice a n c)).run Try.prog w = .ok (.string (strS d n)) w := by
  rcases Nat.eq_zero_or_pos n with rfl | h0
  · cases a with
    | none =>
      rw [run_convert_bytes_string w 26 9 5 none 0 c Try.underlying26 Try.underlying5 (by kernel_rfl)]
      rfl
    | some x =>
      exact run_convert_bytes_back (P := Try.prog) w 26 9 5 x c [] Try.underlying26 Try.underlying5 (by kernel_rfl) (fun j hj => absurd hj (Nat.not_lt_zero j))
  · exact str_any a n c d w ha h0 hd
set_option maxRecDepth 100000 in
set_option maxHeartbeats 4000000 in
theorem again_great (w : World) (B P W K k l s : Int) (a : Option Addr) (n c : Nat)
    (hS : ∀ w, Calls Try.prog 15 #[geoV B P W K] w fun e w' => e = .returned (.bool false) ∧ Keep (fun _ => False) w w') :
    Calls Try.prog 9 #[geoV B P W K, markV k l s, .slice a n c] w fun e w' => e = .returned (.bool true) ∧ Keep (fun _ => False) w w' := by
  have HS := Lib.hid hS
  have k0 := ((Keep.refl (fun _ => False) w).alloc (.cells #[.int .i64 B, .int .i64 P, .int .i64 W, .int .i64 K] 23)).alloc (.cells #[.int .i64 k, .int .i64 l, .int .i64 s] 25)
  have b0 := (Blk.new w 23 #[.int .i64 B, .int .i64 P, .int .i64 W, .int .i64 K]).alloc (.cells #[.int .i64 k, .int .i64 l, .int .i64 s] 25)
  unfold markV
  clear hS
  go_enter Try.func9, Try.ntmps9
  go_wp2_with fail
  refine (awake11_true _).mono ?_
  rintro e w1 ⟨rfl, q1⟩
  have k1 := k0.comp q1
  have b1 := b0.keep q1 (by simp)
  clear b0 k0 q1
  obtain ⟨g0, g1, g2, g3⟩ := geo_cells' b1
  go_wp2_with fail
  refine (HS.out _).mono ?_
  rintro e w2 ⟨rfl, q2⟩
  have k2 := k1.comp q2
  clear b1 k1 q2 g0 g1 g2 g3
  go_wp2_with fail
  go_ret
  exact ⟨rfl, k2⟩
set_option maxRecDepth 100000 in
set_option maxHeartbeats 16000000 in
theorem again_gen (w : World) (B P W K k l s ev : Int) (a : Option Addr) (n c m : Nat) (d S : Nat → Nat) (rk rl rs : Int) (z : Nat) (dd : Nat → Nat) (rf : Int)
    (ha : n ≤ 1000000 → ArgV w a n (fun i => .int .u8 (d i : Nat))) (hm : m ≤ 1000) (hSl : ∀ i, i < m → S i < 1024) (hz : z ≤ 1000) (hdd : ∀ i, i < z → dd i < 256)
    (hS : ∀ w, Calls Try.prog 15 #[geoV B P W K] w fun e w' => e = .returned (.bool true) ∧ Keep (fun _ => False) w w')
    (hF : ∀ w V, HasT w V → ArgV w a n (fun i => .int .u8 (d i : Nat)) → Calls Try.prog 17 #[V, geoV B P W K, markV k l s, .slice a n c] w fun e w' => ∃ a' c', e = .returned (.tuple #[.slice a' m c', .int .i64 ev]) ∧ OwnU w' w.heap.size a' m c' S ∧ Keep (fun _ => False) w w')
    (hR : ∀ w V a c, HasT w V → ArgV w a m (ptsV (fun i => reS (S i)) (fun i => imS (S i))) → Calls Try.prog 20 #[V, geoV B P W K, .slice a m c] w fun e w' => SaysR w' w.heap.size e rk rl rs z dd 0 rf ∧ Keep (fun _ => False) w w') :
    Calls Try.prog 9 #[geoV B P W K, markV k l s, .slice a n c] w fun e w' => e = .returned (.bool true) ∧ Keep (fun _ => False) w w' := by
  have HS := Lib.hid hS
  have HF := Lib.hid hF
  have HRD := Lib.hid hR
  have HA := Lib.hid ha
  have HSl := Lib.hid hSl
  have HD := Lib.hid hdd
  have k0 := ((Keep.refl (fun _ => False) w).alloc (.cells #[.int .i64 B, .int .i64 P, .int .i64 W, .int .i64 K] 23)).alloc (.cells #[.int .i64 k, .int .i64 l, .int .i64 s] 25)
  have b0 := (Blk.new w 23 #[.int .i64 B, .int .i64 P, .int .i64 W, .int .i64 K]).alloc (.cells #[.int .i64 k, .int .i64 l, .int .i64 s] 25)
  have m0 : Blk ((w.alloc (.cells #[.int .i64 B, .int .i64 P, .int .i64 W, .int .i64 K] 23)).alloc (.cells #[.int .i64 k, .int .i64 l, .int .i64 s] 25)) (w.heap.size + 1) 25 #[.int .i64 k, .int .i64 l, .int .i64 s] := Blk.here _ _ _ _ (by simp)
  unfold markV at HF ⊢
  clear hS hF hR ha hSl hdd
  go_enter Try.func9, Try.ntmps9
  go_wp2_with fail
  refine (awake11_true _).mono ?_
  rintro e w1 ⟨rfl, q1⟩
  have k1 := k0.comp q1
  have b1 := b0.keep q1 (by simp)
  have m1 := m0.keep q1 (by simp)
  clear b0 k0 q1 m0
  obtain ⟨g0, g1, g2, g3⟩ := geo_cells' b1
  go_wp2_with fail
  refine (HS.out _).mono ?_
  rintro e w2 ⟨rfl, q2⟩
  have k2 := k1.comp q2
  have b2 := b1.keep q2 (by simp)
  have m2 := m1.keep q2 (by simp)
  clear b1 k1 q2 g0 g1 g2 g3 m1
  by_cases hn1 : 1000 < n
  · have hn1' : (1000 : Int) < (n : Int) := by omega
    go_wp2_with fail
    go_ret
    exact ⟨rfl, k2⟩
  have hn1' : ¬ (1000 : Int) < (n : Int) := by omega
  have HA2 := Lib.hid ((HA.out (by omega)).keep k2)
  have q3 := (Keep.refl (fun _ => False) w2).alloc (.cells #[.slice none 0 0, .slice none 0 0] 32)
  have b3 := b2.keep q3 (by simp)
  have m3 := m2.keep q3 (by simp)
  have n3 := Blk.new w2 32 #[.slice none 0 0, .slice none 0 0]
  have HA3 := Lib.hid (HA2.out.keep q3)
  have k3 := k2.comp q3
  clear HA HA2 b2 m2 k2 q3
  go_upto_region 6 with (fail)
  generalize w2.alloc (.cells #[.slice none 0 0, .slice none 0 0] 32) = w3 at *
  generalize w2.heap.size = gn at *
  clear hn1'
  have kd := (Keep.refl (fun _ => False) w3).drew
  have b3d := b3.keep kd (by simp)
  have m3d := m3.keep kd (by simp)
  go_region_held3 (fun w' => (w'.cell? ⟨w.heap.size, 0, none⟩ = some (.int .i64 B) ∧ w'.cell? ⟨w.heap.size, 1, none⟩ = some (.int .i64 P) ∧ w'.cell? ⟨w.heap.size, 2, none⟩ = some (.int .i64 W) ∧ w'.cell? ⟨w.heap.size, 3, none⟩ = some (.int .i64 K)) ∧ w'.cell? ⟨w.heap.size + 1, 0, none⟩ = some (.int .i64 k) ∧ w'.cell? ⟨w.heap.size + 1, 1, none⟩ = some (.int .i64 l) ∧ w'.cell? ⟨w.heap.size + 1, 2, none⟩ = some (.int .i64 s))
    (first | with_reducible exact ⟨geo_cells' b3d, mark_cells m3d⟩ | with_reducible exact ⟨geo_cells' b4, mark_cells m4⟩ | with_reducible exact ⟨geo_cells' b5, mark_cells m5⟩)
    (first
      | (go_at_call 16
         refine (make_any _).mono ?_
         rintro e w4 ⟨t1, t2, rfl, T, _, _, q4⟩
         unfold tabV
         have q4d := kd.comp q4
         have b4 := b3.keep q4d (by simp)
         have m4 := m3.keep q4d (by simp))
      | (go_at_call 17
         refine (HF.out _ _ T.has (HA3.out.keep q4d)).mono ?_
         rintro e w5 ⟨aS, cS, rfl, oS, q5⟩
         have q5d := q4d.comp q5
         have b5 := b3.keep q5d (by simp)
         have m5 := m3.keep q5d (by simp)))
  have AS5 := Lib.hid (oS.arg (by omega) (fun i hi => by have := HSl.out i hi; omega))
  have k5 := k3.comp q5d
  have n5 := n3.keep q5d (by simp)
  have HA5 := Lib.hid (HA3.out.keep q5d)
  clear oS q5 q4 q4d q5d k3 b4 m4 b3 m3 b3d m3d n3 HA3 T kd
  obtain ⟨d0, d1⟩ := tabs_cells n5
  obtain ⟨g0, g1, g2, g3⟩ := geo_cells' b5
  obtain ⟨p0, p1, p2⟩ := mark_cells m5
  go_wp2_with fail
  refine (HF.out _ _ (.inr rfl) HA5.out).mono ?_
  rintro e w6 ⟨aR, cR, rfl, oR, q6⟩
  have k6 := k5.comp q6
  have b6 := b5.keep q6 (by simp)
  have n6 := n5.keep q6 (by simp)
  have AS6 := Lib.hid (AS5.out.keep q6)
  have AR6 := Lib.hid (oR.arg (by omega) (fun i hi => by have := HSl.out i hi; omega))
  clear g0 g1 g2 g3 p0 p1 p2 d0 d1 k5 b5 m5 n5 AS5 q6 HS oR HF HA5
  go_wp2_with fail
  refine (same_yes aS aR m cS cR S S w6 AS6.out AR6.out (by omega) (fun _ _ => rfl)).mono ?_
  rintro e w7 ⟨rfl, q7⟩
  have k7 := k6.comp q7
  have b7 := b6.keep q7 (by simp)
  have n7 := n6.keep q7 (by simp)
  have HAS := Lib.hid (AS6.out.keep q7)
  clear k6 b6 n6 AS6 AR6 q7
  have HPT := points_says aS m cS S (by omega)
  go_upto_region 10 with (fail)
  go_cut [12, 13, 14, 15] (fun v5 v6 v7 v8 wc => ∃ (g5 : Nat) (aD : Option Addr) (cD : Nat), v5 = .pointer (some ⟨g5, 0, none⟩) ∧ v6 = .slice aD z cD ∧ v7 = .int .i64 0 ∧ v8 = .int .i64 rf ∧ Hid (Blk wc g5 25 #[.int .i64 rk, .int .i64 rl, .int .i64 rs]) ∧ Hid (OwnV wc 5 w7.heap.size aD z cD (fun j => .int .u8 (dd j : Nat))) ∧ Keep (fun _ => False) w7 wc)
  case first =>
    have kd := (Keep.refl (fun _ => False) w7).drew
    have kz := kd.alloc (.cells #[.int .i64 0, .int .i64 0, .int .i64 0] 25)
    have bz : Blk (w7.drew.alloc (.cells #[.int .i64 0, .int .i64 0, .int .i64 0] 25)) w7.heap.size 25 #[.int .i64 0, .int .i64 0, .int .i64 0] := Blk.new w7.drew _ _
    obtain ⟨q0, q1, q2, q3⟩ := geo_cells' (b7.keep kd (by simp))
    go_region_held3 (fun w' => w'.cell? ⟨w.heap.size, 0, none⟩ = some (.int .i64 B) ∧ w'.cell? ⟨w.heap.size, 1, none⟩ = some (.int .i64 P) ∧ w'.cell? ⟨w.heap.size, 2, none⟩ = some (.int .i64 W) ∧ w'.cell? ⟨w.heap.size, 3, none⟩ = some (.int .i64 K))
      (first | with_reducible exact ⟨q0, q1, q2, q3⟩ | with_reducible exact geo_cells' (b7.keep K5 (by simp)) | with_reducible exact geo_cells' (b7.keep K6 (by simp)) | exact geo_cells' (b7.keep (K6.mark hg5 _ _ _) (by simp)) | exact geo_cells' (b7.keep (K6.alloc _) (by simp)) | exact geo_cells' (b7.keep (K5.alloc _) (by simp)) | exact geo_cells' (b7.keep kz (by simp)))
      (first
        | (go_at_call 16
           refine (make_any _).mono ?_
           rintro e w5 ⟨g1, g2, rfl, T, _, _, k5⟩
           unfold tabV
           have K5 : Keep (fun _ => False) w7 w5 := by first | exact kd.comp k5 | exact kz.comp k5
           try (have b5 := bz.keep k5 (by simp); have hg5 := Nat.le_refl w7.heap.size))
        | (go_at_call 21
           refine (HPT.out _ ?hA).mono ?_
           case hA => first | exact HAS.out.keep K5 | exact HAS.out.keep (K5.alloc _)
           rintro e w5b ⟨aP, cP, rfl, oP, k5b⟩
           have K5b : Keep (fun _ => False) w7 w5b := by first | exact K5.comp k5b | exact (K5.alloc _).comp k5b
           have T : Tab w5b g1 g2 := by first | exact T.keep k5b | exact (T.keep ((Keep.refl _ w5).alloc _)).keep k5b
           try (have b5b := (Blk.new w5 25 #[.int .i64 0, .int .i64 0, .int .i64 0]).keep k5b (by simp); have b5 := b5b; clear b5b; have hg5 := K5.size)
           try (have b5b := b5.keep k5b (by simp); clear b5; have b5 := b5b; clear b5b)
           clear K5; have K5 := K5b; clear K5b)
        | (go_at_call 20
           refine (HRD.out _ _ _ _ ?hT ?hA).mono ?_
           case hT => first | exact T.has | exact (T.keep ((Keep.refl _ w5b).alloc _)).has
           case hA => first | exact oP.arg (by omega) | exact (oP.keep ((Keep.refl _ w5b).alloc _)).arg (by omega)
           rintro e w6 ⟨⟨aD, cD, rfl, oD⟩, k6⟩
           have K6 : Keep (fun _ => False) w7 w6 := by first | exact K5.comp k6 | exact (K5.alloc _).comp k6
           try (have b6 := (Blk.new w5b 25 #[.int .i64 0, .int .i64 0, .int .i64 0]).keep k6 (by simp); have hg5 := K5.size; have hl6 := (Blk.new w5b 25 #[.int .i64 0, .int .i64 0, .int .i64 0]).lt)
           try (have b6 := b5.keep k6 (by simp); have hl6 := b5.lt)
           try (have bX := mark_put b6 (rk) (rl) (rs); obtain ⟨⟨⟨p0, f0⟩, ⟨p1, f1⟩, p2, f2⟩, bF⟩ := bX)))
    all_goals
      go_wp2_with fail
      go_meet
      first
        | (have bG5 := bF; clear bz; exact ⟨_, aD, cD, rfl, rfl, rfl, rfl, Lib.hid bG5, Lib.hid ((((oD.far (p := ⟨_, 0, none⟩) hl6 _).far (p := ⟨_, 1, none⟩) hl6 _).far (p := ⟨_, 2, none⟩) hl6 _).more (by first | exact K5.size | exact (K5.alloc _).size)), K6.mark hg5 _ _ _⟩)
        | exact ⟨_, aD, cD, rfl, rfl, rfl, rfl, Lib.hid (Blk.new w6 _ _), Lib.hid ((oD.more K5.size).keep ((Keep.refl _ w6).alloc _)), K6.alloc _⟩
  case rest =>
  obtain ⟨g5, aD, cD, rfl, rfl, rfl, rfl, BM, OD, kc⟩ := hcut
  have b8 := b7.keep kc (by simp)
  have n8 := n7.keep kc (by simp)
  have HAS8 := Lib.hid (HAS.out.keep kc)
  have k8 := k7.comp kc
  have HTB : Hid (∀ w', Keep (fun _ => False) wc w' → HasT w' (.agg #[.slice none 0 0, .slice none 0 0])) := Lib.hid (fun _ _ => .inr rfl)
  clear b7 n7 HAS k7
  obtain ⟨w8, hw8⟩ : ∃ w8, w8 = wc := ⟨_, rfl⟩
  subst hw8
  go_upto_region 11 with (fail)
  go_cut [16, 17, 18, 19] (fun v5 v6 v7 v8 wc => ∃ (g5 : Nat) (aD : Option Addr) (cD : Nat), v5 = .pointer (some ⟨g5, 0, none⟩) ∧ v6 = .slice aD z cD ∧ v7 = .int .i64 0 ∧ v8 = .int .i64 rf ∧ Hid (Blk wc g5 25 #[.int .i64 rk, .int .i64 rl, .int .i64 rs]) ∧ Hid (OwnV wc 5 w8.heap.size aD z cD (fun j => .int .u8 (dd j : Nat))) ∧ Keep (fun _ => False) w8 wc)
  case first =>
    have kd := (Keep.refl (fun _ => False) w8).drew
    have kz := kd.alloc (.cells #[.int .i64 0, .int .i64 0, .int .i64 0] 25)
    have bz : Blk (w8.drew.alloc (.cells #[.int .i64 0, .int .i64 0, .int .i64 0] 25)) w8.heap.size 25 #[.int .i64 0, .int .i64 0, .int .i64 0] := Blk.new w8.drew _ _
    obtain ⟨q0, q1, q2, q3⟩ := geo_cells' (b8.keep kd (by simp))
    obtain ⟨d0, d1⟩ := tabs_cells (n8.keep kd (by simp))
    go_region_held3 (fun w' => (w'.cell? ⟨gn, 0, none⟩ = some (.slice none 0 0) ∧ w'.cell? ⟨gn, 1, none⟩ = some (.slice none 0 0)) ∧ w'.cell? ⟨w.heap.size, 0, none⟩ = some (.int .i64 B) ∧ w'.cell? ⟨w.heap.size, 1, none⟩ = some (.int .i64 P) ∧ w'.cell? ⟨w.heap.size, 2, none⟩ = some (.int .i64 W) ∧ w'.cell? ⟨w.heap.size, 3, none⟩ = some (.int .i64 K))
      (first | with_reducible exact ⟨⟨d0, d1⟩, q0, q1, q2, q3⟩ | with_reducible exact ⟨tabs_cells (n8.keep K5 (by simp)), geo_cells' (b8.keep K5 (by simp))⟩ | with_reducible exact ⟨tabs_cells (n8.keep K6 (by simp)), geo_cells' (b8.keep K6 (by simp))⟩ | exact ⟨tabs_cells (n8.keep (K6.mark hg5 _ _ _) (by simp)), geo_cells' (b8.keep (K6.mark hg5 _ _ _) (by simp))⟩ | exact ⟨tabs_cells (n8.keep (K6.alloc _) (by simp)), geo_cells' (b8.keep (K6.alloc _) (by simp))⟩ | exact ⟨tabs_cells (n8.keep (K5.alloc _) (by simp)), geo_cells' (b8.keep (K5.alloc _) (by simp))⟩ | exact ⟨tabs_cells (n8.keep kz (by simp)), geo_cells' (b8.keep kz (by simp))⟩)
      (first
        | (go_at_call 21
           refine (HPT.out _ ?hA).mono ?_
           case hA => first | exact HAS8.out.keep kd | exact HAS8.out.keep kz
           rintro e w5 ⟨aP, cP, rfl, oP, k5⟩
           have K5 : Keep (fun _ => False) w8 w5 := by first | exact kd.comp k5 | exact kz.comp k5
           try (have b5 := bz.keep k5 (by simp); have hg5 := Nat.le_refl w8.heap.size))
        | (go_at_call 20
           refine (HRD.out _ _ _ _ ?hT ?hA).mono ?_
           case hT => first | exact HTB.out _ K5 | exact HTB.out _ (K5.alloc _)
           case hA => first | exact oP.arg (by omega) | exact (oP.keep ((Keep.refl _ w5).alloc _)).arg (by omega)
           rintro e w6 ⟨⟨aD, cD, rfl, oD⟩, k6⟩
           have K6 : Keep (fun _ => False) w8 w6 := by first | exact K5.comp k6 | exact (K5.alloc _).comp k6
           try (have b6 := (Blk.new w5 25 #[.int .i64 0, .int .i64 0, .int .i64 0]).keep k6 (by simp); have hg5 := K5.size; have hl6 := (Blk.new w5 25 #[.int .i64 0, .int .i64 0, .int .i64 0]).lt)
           try (have b6 := b5.keep k6 (by simp); have hl6 := b5.lt)
           try (have bX := mark_put b6 (rk) (rl) (rs); obtain ⟨⟨⟨p0, f0⟩, ⟨p1, f1⟩, p2, f2⟩, bF⟩ := bX)))
    all_goals
      go_wp2_with fail
      go_meet
      first
        | (have bG5 := bF; clear bz; exact ⟨_, aD, cD, rfl, rfl, rfl, rfl, Lib.hid bG5, Lib.hid ((((oD.far (p := ⟨_, 0, none⟩) hl6 _).far (p := ⟨_, 1, none⟩) hl6 _).far (p := ⟨_, 2, none⟩) hl6 _).more (by first | exact K5.size | exact (K5.alloc _).size)), K6.mark hg5 _ _ _⟩)
        | exact ⟨_, aD, cD, rfl, rfl, rfl, rfl, Lib.hid (Blk.new w6 _ _), Lib.hid ((oD.more K5.size).keep ((Keep.refl _ w6).alloc _)), K6.alloc _⟩
  case rest =>
  obtain ⟨g5b, aDb, cDb, rfl, rfl, rfl, rfl, BMb, ODb, kcb⟩ := hcut
  have BM8 := BM.out.keep kcb (by simp)
  have OD8 := OD.out.keep kcb
  obtain ⟨p0, p1, p2⟩ := mark_cells BM8
  obtain ⟨r0, r1, r2⟩ := mark_cells BMb.out
  have hstr := str_of aD z cD dd _ (OD8.arg (by omega)) HD.out
  have hstr2 := str_of aDb z cDb dd _ (ODb.out.arg (by omega)) HD.out
  have kf := k8.comp kcb
  clear OD ODb BM BMb BM8 OD8 k8 kcb HRD HPT HAS8 b8 n8
  generalize strS dd z = str at *
  go_wp2_with fail
  go_ret
  exact ⟨rfl, kf⟩
set_option maxRecDepth 100000 in
theorem again_of {H : Type} {enc : TypeId × Value → H} {base b0 b1 : Nat} {d0 d1 d2 : DataW H} {ps0 ps1 ps2 : List MemPlace} {sp0 sp1 sp2 : Nat → Bool} (w : World) {v u : Value} {a : Option Addr} {n c : Nat}
    (hv : Value.okWide Try.prog w .any b0 23 v) (hg : DataW.Trod enc Try.prog w base sp0 true 23 v d0 ps0)
    (hu : Value.okWide Try.prog w .any b1 25 u) (hk : DataW.Trod enc Try.prog w base sp1 true 25 u d1 ps1)
    (h : DataW.Trod enc Try.prog w base sp2 true 26 (.slice a n c) d2 ps2) :
    Calls Try.prog 9 #[v, u, .slice a n c] w fun e w' => e = .returned (.bool true) ∧ Keep (fun _ => False) w w' := by
  obtain ⟨B, P, W, K, rfl⟩ := geo4_of hv hg
  obtain ⟨k, l, s, rfl⟩ := mark3_of hu hk
  obtain ⟨d, _, hA, hd⟩ := argB_of h
  by_cases hg : GeoOk B P W K
  rotate_left
  · refine again_gen w B P W K k l s 1 a n c 0 d (fun _ => 0) 0 0 0 0 (fun _ => 0) 1 hA (by omega) (fun _ _ => by omega) (by omega) (fun _ _ => by omega) (fun w => small_no B P W K w hg) (fun w V hT _ => ?_) (fun w V a c hT _ => ?_)
    · exact (fmake_arg V B P W K k l s _ w hT (.inl hg)).mono fun e w' ⟨h1, h2⟩ => ⟨none, 0, h1, OwnV.ownU (OwnV.nil _ _ _ _), h2⟩
    · exact (read_arg V B P W K _ w hT hg).mono fun e w' ⟨h1, h2⟩ => ⟨SaysR.nothing _ h1, h2⟩
  obtain ⟨W, rfl⟩ : ∃ X : Nat, W = X := ⟨W.toNat, by have := hg.w0; omega⟩
  obtain ⟨K, rfl⟩ : ∃ X : Nat, K = X := ⟨K.toNat, by have := hg.k0; omega⟩
  by_cases hs2 : W * (K + 16) ≤ 200
  rotate_left
  · exact again_great w B P W K k l s a n c (fun w => by have := small_yes B P W K w hg; rwa [decide_eq_false hs2] at this)
  have hS : ∀ w, Calls Try.prog 15 #[geoV B P W K] w fun e w' => e = .returned (.bool true) ∧ Keep (fun _ => False) w w' := fun w => by
    have := small_yes B P W K w hg
    rwa [decide_eq_true hs2] at this
  obtain ⟨hw0, hw1, hk0, hk1, hwk, hwk2⟩ := geo_nat hg
  have hpos : 0 ≠ W * (K + 16) := by have := Nat.mul_pos hw0 (show 0 < K + 16 by omega); omega
  rcases markBad_or k l s with hb | ⟨k, l, s, rfl, rfl, rfl, hm⟩
  · refine again_gen w B P W K k l s 1 a n c 0 d (fun _ => 0) 0 0 0 0 (fun _ => 0) 3 hA (by omega) (fun _ _ => by omega) (by omega) (fun _ _ => by omega) hS (fun w V hT _ => ?_) (fun w V a c hT _ => ?_)
    · exact (fmake_arg V B P W K k l s _ w hT (.inr hb)).mono fun e w' ⟨h1, h2⟩ => ⟨none, 0, h1, OwnV.ownU (OwnV.nil _ _ _ _), h2⟩
    · exact (read_size V B P W K 0 a c w hT hg hpos).mono fun e w' ⟨h1, h2⟩ => ⟨SaysR.nothing _ h1, h2⟩
  by_cases hn : n = szB W K
  rotate_left
  · refine again_gen w B P W K k l s 3 a n c 0 d (fun _ => 0) 0 0 0 0 (fun _ => 0) 3 hA (by omega) (fun _ _ => by omega) (by omega) (fun _ _ => by omega) hS (fun w V hT _ => ?_) (fun w V a c hT _ => ?_)
    · exact (fmake_size V B P W K k l s n a c w hT hg hm hn).mono fun e w' ⟨h1, h2⟩ => ⟨none, 0, h1, OwnV.ownU (OwnV.nil _ _ _ _), h2⟩
    · exact (read_size V B P W K 0 a c w hT hg hpos).mono fun e w' ⟨h1, h2⟩ => ⟨SaysR.nothing _ h1, h2⟩
  subst hn
  have hz := szB_le hg
  have hD : ∀ i, pgD k l s d (szB W K) i < 1024 := pgD_lt hm d _
  refine again_gen w B P W K k l s 0 a (szB W K) c (W * (K + 16)) d (pageS W K (pgD k l s d (szB W K))) k l s (szB W K) d 0 hA (by omega) (fun i hi => pageS_lt hD hw0 hi) (by omega) hd hS (fun w V hT ha => ?_) (fun w V a c hT ha => ?_)
  · exact fmake_yes V B P W K k l s a c d w hg hm hT ha hd
  · exact (read_says hg rfl (fun i _ => ⟨(Pu_re _).pm, (Pu_im _).pm⟩) (fresh_says hm hd hw0 hk1 hwk)).out w V a c hT ha
end Go.Proofs.Ytdlmjjlejkkniaa
