/- blackboardlaw11.FrameApart: two pages that say something else are unlike in more than sixteen symbols of a codeword. -/
import Derived.Test.YtdlmjjlejkkniaaApartP
import Derived.Test.YtdlmjjlejkkniaaTornP
namespace Go.Proofs.Ytdlmjjlejkkniaa
open Go.ChangeShapes Go.WideShapes Go.ChangeAt Go.RowKit

theorem marks_cells {w : World} {g : Nat} {k l s k' l' s' : Int} (b : Blk w g 57 #[.int .i64 k, .int .i64 l, .int .i64 s, .int .i64 k', .int .i64 l', .int .i64 s']) :
    w.cell? ⟨g, 0, none⟩ = some (.int .i64 k) ∧ w.cell? ⟨g, 1, none⟩ = some (.int .i64 l) ∧ w.cell? ⟨g, 2, none⟩ = some (.int .i64 s) ∧ w.cell? ⟨g, 3, none⟩ = some (.int .i64 k') ∧ w.cell? ⟨g, 4, none⟩ = some (.int .i64 l') ∧ w.cell? ⟨g, 5, none⟩ = some (.int .i64 s') :=
  ⟨by rw [b.cell]; rfl, by rw [b.cell]; rfl, by rw [b.cell]; rfl, by rw [b.cell]; rfl, by rw [b.cell]; rfl, by rw [b.cell]; rfl⟩
theorem slices_cells {w : World} {g : Nat} {u v : Value} (b : Blk w g 58 #[u, v]) : w.cell? ⟨g, 0, none⟩ = some u ∧ w.cell? ⟨g, 1, none⟩ = some v := ⟨by rw [b.cell]; rfl, by rw [b.cell]; rfl⟩
/-- What frame.Make answers here: a page, or an error and no page. -/
def MakeR (w' : World) (N : Nat) (e : Ending) (ok : Bool) (m : Nat) (S : Nat → Nat) : Prop :=
  ∃ a' n' c' z, e = .returned (.tuple #[.slice a' n' c', .int .i64 z]) ∧ ((ok = true ∧ z = 0 ∧ n' = m ∧ OwnU w' N a' m c' S) ∨ (ok = false ∧ z = 1))
set_option maxRecDepth 100000 in
set_option maxHeartbeats 32000000 in
theorem apart11_true (w : World) (B P W K k l s k' l' s' : Int) (a a' : Option Addr) (n c n' c' : Nat) (d d' : Nat → Nat) (ha : n ≤ 1000000 → ArgV w a n (fun i => .int .u8 (d i : Nat))) (hd : ∀ i, i < n → d i < 256) (ha' : n' ≤ 1000000 → ArgV w a' n' (fun i => .int .u8 (d' i : Nat))) (hd' : ∀ i, i < n' → d' i < 256) :
    Calls Try.prog 7 #[geoV B P W K, .agg #[.int .i64 k, .int .i64 l, .int .i64 s, .int .i64 k', .int .i64 l', .int .i64 s'], .agg #[.slice a n c, .slice a' n' c']] w fun e w' => e = .returned (.bool true) ∧ Keep (fun _ => False) w w' := by
  have k0 := (((Keep.refl (fun _ => False) w).alloc (.cells #[.int .i64 B, .int .i64 P, .int .i64 W, .int .i64 K] 23)).alloc (.cells #[.int .i64 k, .int .i64 l, .int .i64 s, .int .i64 k', .int .i64 l', .int .i64 s'] 57)).alloc (.cells #[.slice a n c, .slice a' n' c'] 58)
  have b0 : Blk (((w.alloc (.cells #[.int .i64 B, .int .i64 P, .int .i64 W, .int .i64 K] 23)).alloc (.cells #[.int .i64 k, .int .i64 l, .int .i64 s, .int .i64 k', .int .i64 l', .int .i64 s'] 57)).alloc (.cells #[.slice a n c, .slice a' n' c'] 58)) w.heap.size 23 #[.int .i64 B, .int .i64 P, .int .i64 W, .int .i64 K] := ((Blk.new w _ _).alloc _).alloc _
  have m0 : Blk (((w.alloc (.cells #[.int .i64 B, .int .i64 P, .int .i64 W, .int .i64 K] 23)).alloc (.cells #[.int .i64 k, .int .i64 l, .int .i64 s, .int .i64 k', .int .i64 l', .int .i64 s'] 57)).alloc (.cells #[.slice a n c, .slice a' n' c'] 58)) (w.heap.size + 1) 57 #[.int .i64 k, .int .i64 l, .int .i64 s, .int .i64 k', .int .i64 l', .int .i64 s'] := (Blk.here _ _ _ _ (by simp)).alloc _
  have s0 : Blk (((w.alloc (.cells #[.int .i64 B, .int .i64 P, .int .i64 W, .int .i64 K] 23)).alloc (.cells #[.int .i64 k, .int .i64 l, .int .i64 s, .int .i64 k', .int .i64 l', .int .i64 s'] 57)).alloc (.cells #[.slice a n c, .slice a' n' c'] 58)) (w.heap.size + 2) 58 #[.slice a n c, .slice a' n' c'] := Blk.here _ _ _ _ (by simp)
  have HA := Lib.hid ha
  have HA' := Lib.hid ha'
  have HD := Lib.hid hd
  have HD' := Lib.hid hd'
  clear ha ha' hd hd'
  go_enter Try.func7, Try.ntmps7
  go_wp2_with fail
  refine (awake11_true _).mono ?_
  rintro e w1 ⟨rfl, q1⟩
  have k1 := k0.comp q1
  have b1 := b0.keep q1 (by simp)
  have m1 := m0.keep q1 (by simp)
  have s1 := s0.keep q1 (by simp)
  clear b0 k0 q1 m0 s0
  obtain ⟨g0, g1, g2, g3⟩ := geo_cells' b1
  go_wp2_with fail
  by_cases hg : GeoOk B P W K
  rotate_left
  · refine (small_no B P W K _ hg).mono ?_
    rintro e w2 ⟨rfl, q2⟩
    have k2 := k1.comp q2
    have b2 := b1.keep q2 (by simp)
    clear b1 k1 q2 g0 g1 g2 g3
    obtain ⟨g0, g1, g2, g3⟩ := geo_cells' b2
    go_wp2_with fail
    refine (gmay_no B P W K _ hg).mono ?_
    rintro e w3 ⟨rfl, q3⟩
    have k3 := k2.comp q3
    clear b2 k2 q3 g0 g1 g2 g3
    go_wp2_with fail
    go_ret
    exact ⟨rfl, k3⟩
  obtain ⟨Wn, rfl⟩ : ∃ X : Nat, W = X := ⟨W.toNat, by have := hg.w0; omega⟩
  obtain ⟨Kn, rfl⟩ : ∃ X : Nat, K = X := ⟨K.toNat, by have := hg.k0; omega⟩
  obtain ⟨hw0, hw1, hk0, hk1, hwk, hwk2⟩ := geo_nat hg
  refine (small_yes B P Wn Kn _ hg).mono ?_
  rintro e w2 ⟨rfl, q2⟩
  have k2 := k1.comp q2
  have b2 := b1.keep q2 (by simp)
  have m2 := m1.keep q2 (by simp)
  have s2 := s1.keep q2 (by simp)
  clear b1 k1 q2 g0 g1 g2 g3 m1 s1
  obtain ⟨g0, g1, g2, g3⟩ := geo_cells b2
  by_cases hs2 : Wn * (Kn + 16) ≤ 200
  rotate_left
  · rw [decide_eq_false hs2]
    go_wp2_with fail
    go_ret
    exact ⟨rfl, k2⟩
  rw [decide_eq_true hs2]
  go_wp2_with fail
  refine (gmay_yes B P Wn Kn _ hg).mono ?_
  rintro e w3 ⟨rfl, q3⟩
  have k3 := k2.comp q3
  have b3 := b2.keep q3 (by simp)
  have m3 := m2.keep q3 (by simp)
  have s3 := s2.keep q3 (by simp)
  clear b2 k2 q3 g0 g1 g2 g3 m2 s2
  obtain ⟨g0, g1, g2, g3⟩ := geo_cells b3
  obtain ⟨x0, x1⟩ := slices_cells s3
  by_cases hn1 : 1000 < n
  · have hn1' : (1000 : Int) < (n : Int) := by omega
    go_wp2_with fail
    go_ret
    exact ⟨rfl, k3⟩
  have hn1' : ¬ (1000 : Int) < (n : Int) := by omega
  by_cases hn2 : 1000 < n'
  · have hn2' : (1000 : Int) < (n' : Int) := by omega
    go_wp2_with fail
    go_ret
    exact ⟨rfl, k3⟩
  have hn2' : ¬ (1000 : Int) < (n' : Int) := by omega
  go_wp2_with fail
  clear hn1' hn2' x0 x1
  refine (rsize_any B P Wn Kn _ hg).mono ?_
  rintro e w4 ⟨rfl, q4⟩
  have k4 := k3.comp q4
  have b4 := b3.keep q4 (by simp)
  have m4 := m3.keep q4 (by simp)
  have s4 := s3.keep q4 (by simp)
  have HA4 := Lib.hid ((HA.out (by omega)).keep k4)
  have HA4' := Lib.hid ((HA'.out (by omega)).keep k4)
  have hz := szB_le hg
  have hz1 := (szB_pk Wn Kn hwk).2
  clear b3 k3 q4 g0 g1 g2 g3 m3 s3 HA HA'
  have HDD := Lib.hid (fun i => padB_lt HD.out i)
  have HDD' := Lib.hid (fun i => padB_lt HD'.out i)
  -- what the two pages are
  have HMK : ∀ (k l s : Int) (dd : Nat → Nat), (∀ i, dd i < 256) → ∃ ok S, (ok = true → ∃ kn ln sn : Nat, k = kn ∧ l = ln ∧ s = sn ∧ MarkOk kn ln sn ∧ S = pageS Wn Kn (pgD kn ln sn dd (szB Wn Kn))) ∧
      ∀ w V a c, HasT w V → ArgV w a (szB Wn Kn) (fun i => .int .u8 (dd i : Nat)) → Calls Try.prog 17 #[V, geoV B P Wn Kn, .agg #[.int .i64 k, .int .i64 l, .int .i64 s], .slice a (szB Wn Kn) c] w fun e w' => MakeR w' w.heap.size e ok (Wn * (Kn + 16)) S ∧ Keep (fun _ => False) w w' := by
    intro k l s dd hdd
    rcases markBad_or k l s with hb | ⟨k, l, s, rfl, rfl, rfl, hm⟩
    · exact ⟨false, fun _ => 0, fun h => (by cases h), fun w V a c hT _ => (fmake_arg V B P Wn Kn k l s _ w hT (.inr hb)).mono fun e w' ⟨h1, h2⟩ => ⟨⟨none, 0, 0, 1, h1, .inr ⟨rfl, rfl⟩⟩, h2⟩⟩
    · exact ⟨true, _, fun _ => ⟨k, l, s, rfl, rfl, rfl, hm, rfl⟩, fun w V a c hT ha => (fmake_yes V B P Wn Kn k l s a c dd w hg hm hT ha (fun i _ => hdd i)).mono fun e w' ⟨a', c', h1, h2, h3⟩ => ⟨⟨a', _, c', 0, h1, .inl ⟨rfl, rfl, rfl, h2⟩⟩, h3⟩⟩
  obtain ⟨ok, S, hS, hM⟩ := HMK k l s (padB d n) HDD.out
  obtain ⟨ok', S', hS', hM'⟩ := HMK k' l' s' (padB d' n') HDD'.out
  have HS := Lib.hid hS
  have HS' := Lib.hid hS'
  have HM := Lib.hid hM
  have HM' := Lib.hid hM'
  clear HMK hS hS' hM hM'
  have hmk := fun w => make_by (szB Wn Kn : Nat) (szB Wn Kn) rfl (by omega) w
  generalize hzz : szB Wn Kn = z at *
  have HZ := Lib.hid hzz
  clear hzz
  go_upto_region 6 with (fail)
  go_cut [8, 9] (fun v8 v9 wc => ∃ gA gB : Nat, v8 = .slice (some ⟨gA, 0, none⟩) z z ∧ v9 = .slice (some ⟨gB, 0, none⟩) z z ∧ gA ≠ gB ∧ w4.heap.size ≤ gA ∧ w4.heap.size ≤ gB ∧ Hid (Blk wc gA 5 (valsArr (fun _ => .int .u8 0) z)) ∧ Hid (Blk wc gB 5 (valsArr (fun _ => .int .u8 0) z)) ∧ Keep (fun _ => False) w4 wc)
  case first =>
    have kx := ((Keep.refl (fun _ => False) w4).drew.alloc (.cells (valsArr (fun _ => .int .u8 0) z) 5)).alloc (.cells (valsArr (fun _ => .int .u8 0) z) 5)
    have y0 : Blk ((w4.drew.alloc (.cells (valsArr (fun _ => .int .u8 0) z) 5)).alloc (.cells (valsArr (fun _ => .int .u8 0) z) 5)) w4.heap.size 5 (valsArr (fun _ => .int .u8 0) z) := (show Blk (w4.drew.alloc (.cells (valsArr (fun _ => .int .u8 0) z) 5)) w4.heap.size 5 (valsArr (fun _ => .int .u8 0) z) from Blk.new w4.drew _ _).alloc _
    have y1 : Blk ((w4.drew.alloc (.cells (valsArr (fun _ => .int .u8 0) z) 5)).alloc (.cells (valsArr (fun _ => .int .u8 0) z) 5)) (w4.heap.size + 1) 5 (valsArr (fun _ => .int .u8 0) z) := Blk.here _ _ _ _ (by simp)
    go_region
    all_goals
      go_wp2_with fail
      go_meet
      first
        | exact ⟨w4.heap.size, w4.heap.size + 1, rfl, rfl, by omega, by omega, by omega, Lib.hid y0, Lib.hid y1, kx⟩
        | exact ⟨w4.heap.size + 1, w4.heap.size, rfl, rfl, by omega, by omega, by omega, Lib.hid y1, Lib.hid y0, kx⟩
  case rest =>
  obtain ⟨gA, gB, rfl, rfl, hne, hA4, hB4, YA, YB, kc⟩ := hcut
  obtain ⟨x0, x1⟩ := slices_cells (s4.keep kc (by simp))
  have HA5 := Lib.hid (HA4.out.keep kc)
  clear hmk
  go_wp2_with (with_reducible refine wpList_copy_b3 rfl (.tmp 47) (.tmp 49) rfl gA z _ n c rfl rfl _ _ YA.out HA5.out (fun _ _ => rfl) w4 kc hA4 ?_)
  intro w6 rA oth q6
  rw [padB_vals] at rA
  have YB6 := Lib.hid (oth gB _ _ (Ne.symm hne) YB.out)
  have RA6 := Lib.hid rA
  clear x0 x1 YA YB HA5 kc oth rA
  obtain ⟨x0, x1⟩ := slices_cells (s4.keep q6 (by simp))
  have HA6 := Lib.hid (HA4'.out.keep q6)
  go_wp2_with (with_reducible refine wpList_copy_b3 rfl (.tmp 51) (.tmp 53) rfl gB z _ n' c' rfl rfl _ _ YB6.out HA6.out (fun _ _ => rfl) w4 q6 hB4 ?_)
  intro w7 rB oth q7
  rw [padB_vals] at rB
  have HX7 := Lib.hid ((RowV.of_blk (oth gA _ _ hne RA6.out)).arg (by omega))
  have HY7 := Lib.hid ((RowV.of_blk rB).arg (by omega))
  have k7 := k4.comp q7
  have b7 := b4.keep q7 (by simp)
  have m7 := m4.keep q7 (by simp)
  clear x0 x1 YB6 HA6 RA6 q6 oth rB q7 s4 m4 b4 k4 HA4 HA4'
  generalize padB d n = dx at *
  generalize padB d' n' = dy at *
  go_wp2_with fail
  refine (make_any _).mono ?_
  rintro e w8 ⟨t1, t2, rfl, T, _, _, q8⟩
  unfold tabV
  obtain ⟨TV, q9⟩ := TVar.new T
  have k9 := k7.comp (q8.comp q9)
  have b9 := b7.keep (q8.comp q9) (by simp)
  have m9 := m7.keep (q8.comp q9) (by simp)
  have HX9 := Lib.hid (HX7.out.keep (q8.comp q9))
  have HY9 := Lib.hid (HY7.out.keep (q8.comp q9))
  go_upto_region 10 with (fail)
  generalize w8.alloc (.cells #[.slice (some ⟨t1, 0, none⟩) 1023 1023, .slice (some ⟨t2, 0, none⟩) 1024 1024] 32) = w9 at *
  generalize w8.heap.size = gt at *
  clear k7 b7 m7 HX7 HY7 q8 q9 T
  obtain ⟨d0, d1⟩ := tab_cells TV.b
  obtain ⟨g0, g1, g2, g3⟩ := geo_cells b9
  obtain ⟨p0, p1, p2, p3, p4, p5⟩ := marks_cells m9
  go_wp2_with fail
  refine (HM.out _ _ _ _ TV.t.has HX9.out).mono ?_
  rintro e w10 ⟨⟨aS, nS, cS, z0, rfl, hR⟩, q10⟩
  have k10 := k9.comp q10
  have b10 := b9.keep q10 (by simp)
  have m10 := m9.keep q10 (by simp)
  have TV10 := TV.keep q10
  have HX10 := Lib.hid (HX9.out.keep q10)
  have HY10 := Lib.hid (HY9.out.keep q10)
  have HR := Lib.hid hR
  clear d0 d1 g0 g1 g2 g3 p0 p1 p2 p3 p4 p5 k9 b9 m9 TV HX9 HY9 q10 hR HM
  obtain ⟨d0, d1⟩ := tab_cells TV10.b
  obtain ⟨g0, g1, g2, g3⟩ := geo_cells b10
  obtain ⟨p0, p1, p2, p3, p4, p5⟩ := marks_cells m10
  go_wp2_with fail
  refine (HM'.out _ _ _ _ TV10.t.has HY10.out).mono ?_
  rintro e w11 ⟨⟨aU, nU, cU, z1, rfl, hR'⟩, q11⟩
  have k11 := k10.comp q11
  have b11 := b10.keep q11 (by simp)
  have m11 := m10.keep q11 (by simp)
  have HX11 := Lib.hid (HX10.out.keep q11)
  have HY11 := Lib.hid (HY10.out.keep q11)
  clear d0 d1 g0 g1 g2 g3 p0 p1 p2 p3 p4 p5 k10 b10 m10 TV10 HX10 HY10 HM'
  rcases HR.out with ⟨rfl, rfl, rfl, oS⟩ | ⟨rfl, rfl⟩
  rotate_left
  · go_wp2_with fail
    go_ret
    exact ⟨rfl, k11⟩
  rcases hR' with ⟨rfl, rfl, rfl, oU⟩ | ⟨rfl, rfl⟩
  rotate_left
  · go_wp2_with fail
    go_ret
    exact ⟨rfl, k11⟩
  clear HR
  obtain ⟨kn, ln, sn, rfl, rfl, rfl, mk1, hSe⟩ := HS.out rfl
  obtain ⟨kn', ln', sn', rfl, rfl, rfl, mk2, hUe⟩ := HS'.out rfl
  have oS := oS.keep q11
  clear q11 HS HS'
  obtain ⟨m, hmm⟩ : ∃ m, m = Wn * (Kn + 16) := ⟨_, rfl⟩
  have HMm := Lib.hid hmm
  have hm17 : 17 ≤ m := by
    have h1 : 1 * (1 + 16) ≤ Wn * (Kn + 16) := Nat.mul_le_mul hw0 (by omega)
    omega
  rw [← hmm] at oS oU hs2
  rw [← HMm.out]
  have hSl : ∀ i, i < m → S i < 1024 := fun i hi => by rw [hSe]; exact pageS_lt (pgD_lt mk1 _ _) hw0 (by rw [← hmm]; exact hi)
  have hUl : ∀ i, i < m → S' i < 1024 := fun i hi => by rw [hUe]; exact pageS_lt (pgD_lt mk2 _ _) hw0 (by rw [← hmm]; exact hi)
  have AS := Lib.hid (oS.arg (by omega) (fun i hi => by have := hSl i hi; omega))
  have AU := Lib.hid (oU.arg (by omega) (fun i hi => by have := hUl i hi; omega))
  have HRC : Hid (∀ r, r < Wn → (cntNe (fun t => S (r + t * Wn)) (fun t => S' (r + t * Wn)) (Kn + 16) = 0 ∧ ∀ t, t < Kn + 16 → S (r + t * Wn) = S' (r + t * Wn)) ∨ 16 < cntNe (fun t => S (r + t * Wn)) (fun t => S' (r + t * Wn)) (Kn + 16)) := Lib.hid (by
    rw [hSe, hUe, ← HZ.out]
    exact fun r hr => row_cnt mk1 mk2 hk1 hr)
  have HPA : Hid ((∀ r, r < Wn → ∀ t, t < Kn + 16 → S (r + t * Wn) = S' (r + t * Wn)) → kn = kn' ∧ ln = ln' ∧ sn = sn' ∧ ∀ i, i < z → dx i = dy i) := Lib.hid (by
    rw [hSe, hUe, ← HZ.out]
    exact fun h => pages_apart mk1 mk2 hwk hw0 (fun i _ => HDD.out i) (fun i _ => HDD'.out i) h)
  have HEQ : Hid (kn = kn' ∧ ln = ln' ∧ sn = sn' ∧ (∀ i, i < z → dx i = dy i) → S = S') := Lib.hid (by
    rintro ⟨rfl, rfl, rfl, h⟩
    rw [hSe, hUe]
    congr 1
    funext i
    unfold pgD
    rw [pkS_congr h])
  clear hSe hUe hSl hUl oS oU mk1 mk2 hmm
  obtain ⟨b, hb⟩ : ∃ b : Bool, b = true ↔ (kn = kn' ∧ ln = ln' ∧ sn = sn' ∧ ∀ i, i < z → dx i = dy i) := by
    by_cases h : kn = kn' ∧ ln = ln' ∧ sn = sn' ∧ ∀ i, i < z → dx i = dy i
    · exact ⟨true, fun _ => h, fun _ => rfl⟩
    · exact ⟨false, fun h2 => (by cases h2), fun h2 => absurd h2 h⟩
  have HB := Lib.hid hb
  clear hb
  go_upto_region 14 with (fail)
  go_cut [91] (fun v91 wc => v91 = .bool b ∧ wc = w11)
  case first =>
    obtain ⟨p0, p1, p2, p3, p4, p5⟩ := marks_cells m11
    have hstr := str_any (some ⟨gA, 0, none⟩) z z dx w11 HX11.out (by omega) (fun i _ => HDD.out i)
    have hstr2 := str_any (some ⟨gB, 0, none⟩) z z dy w11 HY11.out (by omega) (fun i _ => HDD'.out i)
    by_cases h1 : kn = kn'
    rotate_left
    · have h1' : ¬ (kn : Int) = (kn' : Int) := by omega
      obtain rfl : b = false := by cases b with | false => rfl | true => exact absurd (HB.out.1 rfl).1 h1
      go_wp2_with fail
      go_meet
      exact ⟨rfl, rfl⟩
    by_cases h2 : ln = ln'
    rotate_left
    · have h1' : ¬ (ln : Int) = (ln' : Int) := by omega
      obtain rfl : b = false := by cases b with | false => rfl | true => exact absurd (HB.out.1 rfl).2.1 h2
      go_wp2_with fail
      go_meet
      exact ⟨rfl, rfl⟩
    by_cases h3 : sn = sn'
    rotate_left
    · have h1' : ¬ (sn : Int) = (sn' : Int) := by omega
      obtain rfl : b = false := by cases b with | false => rfl | true => exact absurd (HB.out.1 rfl).2.2.1 h3
      go_wp2_with fail
      go_meet
      exact ⟨rfl, rfl⟩
    subst h1 h2 h3
    by_cases h4 : strS dx z = strS dy z
    · obtain rfl : b = true := HB.out.2 ⟨rfl, rfl, rfl, strS_inj (fun i _ => HDD.out i) (fun i _ => HDD'.out i) h4⟩
      rw [h4] at hstr
      generalize strS dy z = str at *
      go_wp2_with fail
      go_meet
      exact ⟨rfl, rfl⟩
    · obtain rfl : b = false := by cases b with | false => rfl | true => exact absurd (strS_congr (HB.out.1 rfl).2.2.2) h4
      have h5 := str_ne h4
      generalize strS dy z = str at *
      generalize strS dx z = str2 at *
      go_wp2_with fail
      go_meet
      exact ⟨rfl, rfl⟩
  case rest =>
  obtain ⟨rfl, rfl⟩ := hcut
  clear HX11 HY11 m11
  cases b with
  | true =>
    have hSS := HEQ.out (HB.out.1 rfl)
    subst hSS
    go_wp2_with fail
    refine (same_yes aS aU m cS cU S S _ AS.out AU.out (by omega) (fun _ _ => rfl)).mono ?_
    rintro e w12 ⟨rfl, q12⟩
    go_wp2_with fail
    go_ret
    exact ⟨rfl, k11.comp q12⟩
  | false =>
    have hnot : ∃ r, r < Wn ∧ 16 < cntNe (fun t => S (r + t * Wn)) (fun t => S' (r + t * Wn)) (Kn + 16) := by
      rcases Classical.em (∃ r, r < Wn ∧ 16 < cntNe (fun t => S (r + t * Wn)) (fun t => S' (r + t * Wn)) (Kn + 16)) with h | h
      · exact h
      · have h2 := HB.out.2 (HPA.out fun r hr t ht => by
          rcases HRC.out r hr with h3 | h3
          · exact h3.2 t ht
          · exact absurd ⟨r, hr, h3⟩ h)
        cases h2
    have HNOT := Lib.hid hnot
    clear hnot HPA HEQ HB
    obtain ⟨cF, hcF⟩ : ∃ cF : Nat → Nat, cF = fun r => cntNe (fun t => S (r + t * Wn)) (fun t => S' (r + t * Wn)) (Kn + 16) := ⟨_, rfl⟩
    have HCF := Lib.hid hcF
    clear hcF
    go_wp2_with fail
    go_loopw [15, 16] (fun v3 v4 wr => ∃ r : Nat, r ≤ Wn ∧ v3 = .int .i64 (mostN cF r : Nat) ∧ v4 = .int .i64 r ∧ Keep (fun _ => False) wc wr) (fun _ v _ => Wn - (intOf v).toNat)
    case atStart => exact ⟨0, by omega, rfl, rfl, Keep.refl _ _⟩
    case round =>
      obtain ⟨r, hr, rfl, rfl, kk⟩ := hrel
      by_cases hrW : r < Wn
      · have hrW' : (r : Int) < (Wn : Int) := by omega
        obtain ⟨g0, g1, g2, g3⟩ := geo_cells (b11.keep kk (by simp))
        go_wp2_with fail
        clear g0 g1 g2 g3
        go_loopw [17, 18] (fun v3 v4 wt => ∃ t i : Nat, t ≤ Kn + 16 ∧ i ≤ m + 4 ∧ Hid (i = r + t * Wn) ∧ v3 = .int .i64 (cntNe (fun t => S (r + t * Wn)) (fun t => S' (r + t * Wn)) t : Nat) ∧ v4 = .int .i64 i ∧ Keep (fun _ => False) wc wt) (fun _ v _ => m + 8 - (intOf v).toNat)
        case atStart => exact ⟨0, r, by omega, by omega, Lib.hid (by omega), rfl, rfl, kk⟩
        case round =>
          obtain ⟨t, i, ht, hi, HI, rfl, rfl, kt⟩ := hrel
          by_cases htN : t < Kn + 16
          · have him : i < m := by
              have := (row_lt (r := r) (j := t) (W := Wn) (N := Kn + 16) hrW).2 htN
              rw [HI.out, HMm.out]
              exact this
            have him' : (i : Int) < (m : Int) := by omega
            obtain ⟨bA, oA, rfl, hbA, hcA⟩ := AS.out.at_ (by omega)
            obtain ⟨bB, oB, rfl, hbB, hcB⟩ := AU.out.at_ (by omega)
            have c0 := (kt.cell (p := ⟨bA, oA + i, none⟩) hbA (by simp)).trans (hcA i him)
            have c1 := (kt.cell (p := ⟨bB, oB + i, none⟩) hbB (by simp)).trans (hcB i him)
            have hII := Lib.hid (show i + Wn = r + (t + 1) * Wn by rw [HI.out, Nat.succ_mul]; omega)
            have g2 := (geo_cells (b11.keep kt (by simp))).2.2.1
            have g2d := fun n => (geo_cells (b11.keep (kt.drewN n) (by simp))).2.2.1
            have hct := cntNe_le (fun t => S (r + t * Wn)) (fun t => S' (r + t * Wn)) t
            clear hcA hcB
            by_cases hpq : S i = S' i
            · have hcn : cntNe (fun t => S (r + t * Wn)) (fun t => S' (r + t * Wn)) (t + 1) = cntNe (fun t => S (r + t * Wn)) (fun t => S' (r + t * Wn)) t := by
                show cntNe (fun t => S (r + t * Wn)) (fun t => S' (r + t * Wn)) t + _ = _
                rw [if_pos (show S (r + t * Wn) = S' (r + t * Wn) by rw [← HI.out]; exact hpq)]
                rfl
              rw [hpq] at c0
              have e1 : (((S' i : Nat) : Int) != ((S' i : Nat) : Int)) = false := by simp
              rw [← hcn] at hct
              have HCN := Lib.hid hcn
              clear hcn hpq
              generalize S' i = y at *
              generalize cntNe (fun t => S (r + t * Wn)) (fun t => S' (r + t * Wn)) t = ct at *
              go_wp2_with fail
              go_quiet (fail)
              go_wp2_with fail
              exact ⟨⟨t + 1, i + Wn, by omega, by omega, hII, by rw [HCN.out], by go_num, kt.drewN _⟩, by simp [intOf]; omega⟩
            · have hcn : cntNe (fun t => S (r + t * Wn)) (fun t => S' (r + t * Wn)) (t + 1) = cntNe (fun t => S (r + t * Wn)) (fun t => S' (r + t * Wn)) t + 1 := by
                show cntNe (fun t => S (r + t * Wn)) (fun t => S' (r + t * Wn)) t + _ = _
                rw [if_neg (show ¬ S (r + t * Wn) = S' (r + t * Wn) by rw [← HI.out]; exact hpq)]
              have e1 : (((S i : Nat) : Int) != ((S' i : Nat) : Int)) = true := by simp; omega
              have e2 : ¬ ((S i : Nat) : Int) = ((S' i : Nat) : Int) := by omega
              have HCN := Lib.hid hcn
              clear hcn hpq
              generalize S i = x at *
              generalize S' i = y at *
              generalize cntNe (fun t => S (r + t * Wn)) (fun t => S' (r + t * Wn)) t = ct at *
              go_wp2_with fail
              go_quiet (fail)
              go_wp2_with fail
              exact ⟨⟨t + 1, i + Wn, by omega, by omega, hII, by rw [HCN.out]; go_num, by go_num, kt.drewN _⟩, by simp [intOf]; omega⟩
          · obtain rfl : t = Kn + 16 := by omega
            have him : ¬ i < m := by
              have := mt (row_lt (r := r) (j := Kn + 16) (W := Wn) (N := Kn + 16) hrW).1 htN
              rw [HI.out, HMm.out]
              exact this
            have him' : ¬ (i : Int) < (m : Int) := by omega
            have hrc := HRC.out r hrW
            have hcv : cntNe (fun t => S (r + t * Wn)) (fun t => S' (r + t * Wn)) (Kn + 16) = cF r := by rw [HCF.out]
            have hmx : mostN cF (r + 1) = max (mostN cF r) (cF r) := rfl
            have hct := cntNe_le (fun t => S (r + t * Wn)) (fun t => S' (r + t * Wn)) (Kn + 16)
            rw [hcv] at hrc hct ⊢
            have hc : cF r = 0 ∨ 16 < cF r := hrc.imp And.left id
            have HMX := Lib.hid hmx
            clear hrc hcv hmx
            generalize cF r = cr at *
            generalize mostN cF r = mr at *
            rcases hc with rfl | hc
            · by_cases hmr : mr < 0
              · omega
              · have hmr' : ¬ (mr : Int) < 0 := by omega
                go_wp2_with fail
                exact ⟨⟨r + 1, by omega, by rw [HMX.out, Nat.max_zero], by go_num, kt⟩, by simp [intOf]; omega⟩
            · have hc1 : (0 : Int) < (cr : Int) := by omega
              have hc2 : ¬ (cr : Int) ≤ 16 := by omega
              by_cases hmr : mr < cr
              · have hmr' : (mr : Int) < (cr : Int) := by omega
                go_wp2_with fail
                exact ⟨⟨r + 1, by omega, by rw [HMX.out, show max mr cr = cr by omega], by go_num, kt⟩, by simp [intOf]; omega⟩
              · have hmr' : ¬ (mr : Int) < (cr : Int) := by omega
                go_wp2_with fail
                exact ⟨⟨r + 1, by omega, by rw [HMX.out, show max mr cr = mr by omega], by go_num, kt⟩, by simp [intOf]; omega⟩
      · obtain rfl : r = Wn := by omega
        have hrW' : ¬ (r : Int) < (r : Int) := by omega
        have hfin : 16 < mostN cF r := by
          obtain ⟨q, hq, h16⟩ := HNOT.out
          have h1 := mostN_ge (f := cF) hq
          rw [HCF.out] at h1 ⊢
          exact Nat.lt_of_lt_of_le h16 h1
        have hfin' : (16 : Int) < (mostN cF r : Nat) := by omega
        obtain ⟨g0, g1, g2, g3⟩ := geo_cells (b11.keep kk (by simp))
        generalize mostN cF r = mr at *
        go_wp2_with fail
        go_ret
        exact ⟨rfl, k11.comp kk⟩
set_option maxRecDepth 100000 in
theorem apart_of {H : Type} {enc : TypeId × Value → H} {base b0 b1 b2 : Nat} {d0 d1 d2 : DataW H} {ps0 ps1 ps2 : List MemPlace} {sp0 sp1 sp2 : Nat → Bool} (w : World) {v u x : Value}
    (hv : Value.okWide Try.prog w .any b0 23 v) (hg : DataW.Trod enc Try.prog w base sp0 true 23 v d0 ps0)
    (hu : Value.okWide Try.prog w .any b1 57 u) (hk : DataW.Trod enc Try.prog w base sp1 true 57 u d1 ps1)
    (hx : Value.okWide Try.prog w .any b2 58 x) (hd : DataW.Trod enc Try.prog w base sp2 true 58 x d2 ps2) :
    Calls Try.prog 7 #[v, u, x] w fun e w' => e = .returned (.bool true) ∧ Keep (fun _ => False) w w' := by
  obtain ⟨B, P, W, K, rfl⟩ := geo4_of hv hg
  obtain ⟨k, l, s, k', l', s', rfl⟩ := marks2_by hu hk
  obtain ⟨a, n, c, a', n', c', p, p', rfl, hA, hl, hA', hl'⟩ := bytes2_by hx hd
  exact apart11_true w B P W K k l s k' l' s' a a' n c n' c' p p' hA hl hA' hl'
end Go.Proofs.Ytdlmjjlejkkniaa
