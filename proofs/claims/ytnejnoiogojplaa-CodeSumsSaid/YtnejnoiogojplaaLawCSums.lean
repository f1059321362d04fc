/- blackboardlaw4.CodeSums. -/
import Derived.Test.YtnejnoiogojplaaRows4
import Derived.Test.YtnejnoiogojplaaArgsC
namespace Go.Proofs.Ytnejnoiogojplaa
open Go.ChangeShapes Go.WideShapes Go.ChangeAt Go.RowKit

/-- The sum of two words of the code is one, a word times a number is one. -/
theorem enc_sum {p p' q q' : Nat → Nat} {k : Nat} (h : IsEnc p k q) (h' : IsEnc p' k q') : IsEnc (fun i => p i ^^^ p' i) k (fun i => q i ^^^ q' i) := by
  refine ⟨fun i hi => xor_lt (h.lt i hi) (h'.lt i hi), fun j hj => ?_, fun i hi => by rw [h.data i hi, h'.data i hi]⟩
  have e : rv (fun i => q i ^^^ q' i) (k + 16) = wr q q' (k + 16) := funext fun i => by
    unfold wr rv
    split <;> rfl
  show syn (rv (fun i => q i ^^^ q' i) (k + 16)) (k + 16) j = 0
  rw [e, syn_wr h.lt h'.lt, h.word j hj, h'.word j hj]
  rfl
theorem enc_times {p q : Nat → Nat} {k c : Nat} (h : IsEnc p k q) (hc : c < 1024) : IsEnc (fun i => gm (p i % 1024) c) k (fun i => gm (q i % 1024) c) := by
  refine ⟨fun i hi => gm_lt (Nat.mod_lt _ (by omega)) _, fun j hj => ?_, fun i hi => by rw [h.data i hi]⟩
  have hv := rv_lt h.lt
  have e : ∀ i, i < k + 16 → gm (rv (fun i => gm (q i % 1024) c) (k + 16) i) (ex (i * (j + 1))) = gm c (gm (rv q (k + 16) i) (ex (i * (j + 1)))) := fun i hi => by
    have h1 := h.lt (k + 16 - 1 - i) (by omega)
    have e1 : rv (fun i => gm (q i % 1024) c) (k + 16) i = gm c (rv q (k + 16) i) := by
      unfold rv
      rw [if_pos hi, if_pos hi]
      show gm (q (k + 16 - 1 - i) % 1024) c = _
      rw [Nat.mod_eq_of_lt h1, gm_comm h1 hc]
    rw [e1, gm_assoc hc (hv i) (ex_lt _)]
  show xs (k + 16) (fun i => gm (rv (fun i => gm (q i % 1024) c) (k + 16) i) (ex (i * (j + 1)))) = 0
  rw [xs_congr _ e, ← gm_xs]
  show gm c (synW q (k + 16) j) = 0
  rw [h.word j hj, gm_zero_right]

set_option maxHeartbeats 8000000 in
set_option maxRecDepth 100000 in
theorem csums_true (a b : Option Addr) (ka kb ca cb' f : Nat) (p p' : Nat → Nat) (w : World) (ha : ∀ t, t ≤ ka → t ≤ 1000000 → ArgU w a t p) (hb : ∀ t, t ≤ kb → t ≤ 1000000 → ArgU w b t p') (hca : ka ≤ ca) (hcb : kb ≤ cb') :
    Calls Try.prog 7 #[.slice a ka ca, .slice b kb cb', .int .u16 f] w fun e w' => e = .returned (.bool true) ∧ Keep (fun _ => False) w w' := by
  have HA' := Lib.hid ha
  have HB' := Lib.hid hb
  obtain ⟨k, hk⟩ : ∃ k, k = min ka kb := ⟨_, rfl⟩
  have hmn : (if kb < ka then (kb : Int) else (ka : Int)) = (k : Int) := by split <;> omega
  have hka : k ≤ ka := by omega
  have hkb : k ≤ kb := by omega
  have hka' : (k : Int) ≤ (ca : Int) := by omega
  have hkb' : (k : Int) ≤ (cb' : Int) := by omega
  clear ha hb hk
  go_enter Try.func7, Try.ntmps7
  go_wp2_with fail
  refine (cawake_true _).mono ?_
  rintro e w1 ⟨rfl, kk1⟩
  by_cases h0 : k = 0
  · subst h0
    go_wp2_with fail
    go_ret
    exact ⟨rfl, kk1⟩
  have e1 : ((k : Int) == 0) = false := by simp; omega
  have e2 : ¬ (k : Int) = 0 := by omega
  by_cases h1 : 100 < k
  · have e3 : (100 : Int) < (k : Int) := by omega
    have e4 : decide ((100 : Int) < (k : Int)) = true := by simpa using e3
    go_wp2_with fail
    go_ret
    exact ⟨rfl, kk1⟩
  have e3 : ¬ (100 : Int) < (k : Int) := by omega
  have e4 : decide ((100 : Int) < (k : Int)) = false := by simpa using e3
  go_wp2_with fail
  clear e1 e2 e3 e4 hmn
  refine (make_any _).mono ?_
  rintro e w2 ⟨g1, g2, rfl, T, _, _, k2⟩
  obtain ⟨TV, k3⟩ := TVar.new T
  have kk2 := (kk1.comp k2).comp k3
  unfold tabV
  clear T k2 k3
  go_upto_region 7 with (fail)
  generalize w2.alloc (.cells #[.slice (some ⟨g1, 0, none⟩) 1023 1023, .slice (some ⟨g2, 0, none⟩) 1024 1024] 27) = W2 at *
  generalize w2.heap.size = gt at *
  have HA := Lib.hid ((HA'.out k hka (by omega)).keep kk2)
  have HB := Lib.hid ((HB'.out k hkb (by omega)).keep kk2)
  clear HA' HB' kk1
  have kd := (Keep.refl (fun _ => False) W2).drew
  have TVd := TV.keep kd
  have HAd := Lib.hid (HA.out.keep kd)
  obtain ⟨d0, d1⟩ := tab_cells TVd.b
  go_region_held3 (fun w' => w'.cell? ⟨gt, 0, none⟩ = some (.slice (some ⟨g1, 0, none⟩) 1023 1023) ∧ w'.cell? ⟨gt, 1, none⟩ = some (.slice (some ⟨g2, 0, none⟩) 1024 1024))
    (first | exact ⟨d0, d1⟩ | exact ⟨f0, f1⟩)
    (first | (go_at_call 13; refine (enc_z _ _ k _ p _ TVd.t.has HAd.out).mono ?_; rintro e w3 ⟨aq, nq, cq, z, rfl, hz, k3⟩; have TV3 := TVd.keep k3; obtain ⟨f0, f1⟩ := tab_cells TV3.b))
  have kd3 := kd.comp k3
  have kk3 := kk2.comp kd3
  have HB3 := Lib.hid (HB.out.keep kd3)
  have HA3 := Lib.hid (HA.out.keep kd3)
  clear d0 d1 f0 f1 TVd HAd HA HB TV kk2 k3 kd3 kd
  have kd := (Keep.refl (fun _ => False) w3).drew
  have TVd := TV3.keep kd
  have HBd := Lib.hid (HB3.out.keep kd)
  obtain ⟨d0, d1⟩ := tab_cells TVd.b
  go_wp2_with fail
  go_region_held3 (fun w' => w'.cell? ⟨gt, 0, none⟩ = some (.slice (some ⟨g1, 0, none⟩) 1023 1023) ∧ w'.cell? ⟨gt, 1, none⟩ = some (.slice (some ⟨g2, 0, none⟩) 1024 1024))
    (first | exact ⟨d0, d1⟩ | exact ⟨f0, f1⟩)
    (first | (go_at_call 13; refine (enc_z _ _ k _ p' _ TVd.t.has HBd.out).mono ?_; rintro e w4 ⟨ay, ny, cy, z', rfl, hz', k4⟩; have TV4 := TVd.keep k4; obtain ⟨f0, f1⟩ := tab_cells TV4.b))
  have kd4 := kd.comp k4
  have kk4 := kk3.comp kd4
  have HA4 := Lib.hid (HA3.out.keep kd4)
  have HB4 := Lib.hid (HB3.out.keep kd4)
  clear d0 d1 f0 f1 TVd HBd HB3 HA3 TV3 kk3 k4 kd
  rcases hz with hz | ⟨rfl, rfl, _, _, _, q, hq, oq⟩
  · have e1 : (z != 0) = true := by simpa using hz
    go_wp2_with fail
    go_ret
    exact ⟨rfl, kk4⟩
  rcases hz' with hz | ⟨rfl, rfl, _, _, _, q', hq', oy⟩
  · have e1 : (z' != 0) = true := by simpa using hz
    go_wp2_with fail
    go_ret
    exact ⟨rfl, kk4⟩
  have oq4 := oq.keep kd4
  obtain ⟨n, hn⟩ : ∃ n, n = k + 16 := ⟨_, rfl⟩
  have HE := Lib.hid hq
  have HE' := Lib.hid hq'
  rw [← hn] at oq4 oy ⊢
  have hn17 : 17 ≤ n := by omega
  have hn116 : n ≤ 116 := by omega
  have HN := Lib.hid hn
  have HQ16 := Lib.hid (fun i (hi : i < n) => show q i < 65536 by have := HE.out.lt i (by rw [HN.out] at hi; exact hi); omega)
  have HY16 := Lib.hid (fun i (hi : i < n) => show q' i < 65536 by have := HE'.out.lt i (by rw [HN.out] at hi; exact hi); omega)
  have hqc := oq4.le.1
  have hyc := oy.le.1
  obtain ⟨gq, rfl, _, _, rq⟩ := oq4.row (by omega)
  obtain ⟨gy, rfl, _, _, ry⟩ := oy.row (by omega)
  have hkn : k < n := by omega
  clear hq hq' hn oq oq4 oy kd4
  have HKN := Lib.hid hkn
  have TX := Lib.hid TV4
  go_wp2_with fail
  go_loopw [13, 14, 15, 16, 17] (fun v13 v14 v15 v16 v17 wr => ∃ i : Nat, i ≤ n ∧ v17 = .int .i64 i ∧ Hid (Rows4 wr w4.heap.size v13 v15 v14 v16 i i (min i k) (min i k) (fun t => q t ^^^ q' t) (fun t => gm (q t % 1024) (f % 1024)) (fun t => p t ^^^ p' t) (fun t => gm (p t % 1024) (f % 1024))) ∧ Keep (fun _ => False) w4 wr) (fun _ _ _ _ v17 _ => n - (intOf v17).toNat)
  case atStart => exact ⟨0, by omega, rfl, Lib.hid (by rw [Nat.zero_min]; exact Rows4.nil _ _ _ _ _ _), Keep.refl _ _⟩
  case round =>
    obtain ⟨i, hi, rfl, HR, kk⟩ := hrel
    by_cases hin : i < n
    · have hin' : (i : Int) < (n : Int) := by omega
      have c1 := rq.val hin
      have c2 := (ry.val hin)
      have hq1 := HQ16.out i hin
      have hq2 := HY16.out i hin
      obtain ⟨t0, t1⟩ := tab_cells TX.out.b
      have CA : ∀ w', Keep (fun _ => False) w4 w' → (w'.cell? ⟨gt, 0, none⟩ = some (.slice (some ⟨g1, 0, none⟩) 1023 1023) ∧ w'.cell? ⟨gt, 1, none⟩ = some (.slice (some ⟨g2, 0, none⟩) 1024 1024) ∧ w'.cell? ⟨gq, i, none⟩ = some (.int .u16 (q i : Nat)) ∧ w'.cell? ⟨gy, i, none⟩ = some (.int .u16 (q' i : Nat))) := fun w' hk =>
        ⟨(hk.cell (p := ⟨gt, 0, none⟩) TX.out.b.lt (by simp)).trans t0, (hk.cell (p := ⟨gt, 1, none⟩) TX.out.b.lt (by simp)).trans t1, (hk.cell (p := ⟨gq, i, none⟩) rq.lt (by simp)).trans c1, (hk.cell (p := ⟨gy, i, none⟩) ry.lt (by simp)).trans c2⟩
      have hea := hq1
      have heb := hq2
      have kd := kk.drew
      have Rd := HR.out.keep ((Keep.refl (fun _ => False) wr).drew)
      have hx1 := xor_u16 (a := q i) (b := q' i) hea heb
      have kW1 := kd.alloc (.cells #[.int .u16 (q i ^^^ q' i : Nat)] 23)
      have RW1 := Rd.keep ((Keep.refl (fun _ => False) wr.drew).alloc (.cells #[.int .u16 (q i ^^^ q' i : Nat)] 23))
      have bW1 := Blk.here wr.drew 23 #[.int .u16 (q i ^^^ q' i : Nat)] wr.heap.size rfl
      have hN1 : w4.heap.size ≤ (wr.drew.alloc (.cells #[.int .u16 (q i ^^^ q' i : Nat)] 23)).heap.size := kW1.size
      go_upto_region 15 with fail
      go_region_held3 (fun w' => w'.cell? ⟨gt, 0, none⟩ = some (.slice (some ⟨g1, 0, none⟩) 1023 1023) ∧ w'.cell? ⟨gt, 1, none⟩ = some (.slice (some ⟨g2, 0, none⟩) 1024 1024) ∧ w'.cell? ⟨gq, i, none⟩ = some (.int .u16 (q i : Nat)) ∧ w'.cell? ⟨gy, i, none⟩ = some (.int .u16 (q' i : Nat)))
        (first | exact CA _ kd | exact CA _ kW1 | exact CA _ kA | exact CA _ kM | exact CA _ kML | exact CA _ kB)
        (first
          | (have _z := bL; refine step_append_u rfl _ _ rfl w4.heap.size _ _ (fun t => gm (q t % 1024) (f % 1024)) rfl RM.o2 _ _ rfl bL rfl (by omega) hNM _ rfl ?_; intro gB cB wb hB1 hB2 hB3 hB4; have RB := RM.app2 rfl hB1 hB2 hB3; have kB : Keep (fun _ => False) w4 wb := kML.grown hB2 (fun k e => .inr (RM.o2.lt k e).1))
          | (go_at_call 23; refine (tmul_any _ _ _ _ (TX.out.keep kA).t.has).mono ?_; rintro e wm ⟨rfl, km⟩; have kM := kA.comp km; have bL := Blk.here wm 23 #[.int .u16 (gm (q i % 1024) (f % 1024) : Nat)] wm.heap.size rfl; have RM := (RA.keep km).keep ((Keep.refl (fun _ => False) wm).alloc (.cells #[.int .u16 (gm (q i % 1024) (f % 1024) : Nat)] 23)); have kML := kM.alloc (.cells #[.int .u16 (gm (q i % 1024) (f % 1024) : Nat)] 23); have hNM := kML.size)
          | (refine step_append_u rfl _ _ rfl w4.heap.size _ _ (fun t => q t ^^^ q' t) rfl RW1.o1 _ _ rfl bW1 rfl (by omega) hN1 _ rfl ?_; intro gA cA wa hA1 hA2 hA3 hA4; have RA := RW1.app rfl hA1 hA2 hA3; have kA : Keep (fun _ => False) w4 wa := kW1.grown hA2 (fun k e => .inr (RW1.o1.lt k e).1)))
      have HRB := Lib.hid RB
      have KB := Lib.hid kB
      clear CA hea heb c1 c2 t0 t1 kk HR kd Rd hx1 kW1 RW1 bW1 hN1 RA kA hA1 hA2 hA3 hA4 km kM bL RM kML hNM RB kB hB1 hB2 hB3 hB4
      by_cases hik : i < k
      · have hik' : (i : Int) < (k : Int) := by omega
        rw [Nat.min_eq_left (by omega)] at HRB
        obtain ⟨bA, oA, rfl, hbA, hcA⟩ := HA4.out.at_ (by omega)
        obtain ⟨bB, oB, rfl, hbB, hcB⟩ := HB4.out.at_ (by omega)
        have c1 := hcA i hik
        have c2 := hcB i hik
        obtain ⟨t0, t1⟩ := tab_cells TX.out.b
        have hea := HA4.out.lt i hik
        have heb := HB4.out.lt i hik
        have hica : (i : Int) < (ka : Int) := by omega
        have hicb : (i : Int) < (kb : Int) := by omega
        clear hcA hcB
        have CA : ∀ w', Keep (fun _ => False) w4 w' → (w'.cell? ⟨gt, 0, none⟩ = some (.slice (some ⟨g1, 0, none⟩) 1023 1023) ∧ w'.cell? ⟨gt, 1, none⟩ = some (.slice (some ⟨g2, 0, none⟩) 1024 1024) ∧ w'.cell? ⟨bA, oA + i, none⟩ = some (.int .u16 (p i : Nat)) ∧ w'.cell? ⟨bB, oB + i, none⟩ = some (.int .u16 (p' i : Nat))) := fun w' hk =>
          ⟨(hk.cell (p := ⟨gt, 0, none⟩) TX.out.b.lt (by simp)).trans t0, (hk.cell (p := ⟨gt, 1, none⟩) TX.out.b.lt (by simp)).trans t1, (hk.cell (p := ⟨bA, oA + i, none⟩) hbA (by simp)).trans c1, (hk.cell (p := ⟨bB, oB + i, none⟩) hbB (by simp)).trans c2⟩
        have kd := KB.out.drew
        have Rd := HRB.out.keep ((Keep.refl (fun _ => False) wb).drew)
        have hx1 := xor_u16 (a := p i) (b := p' i) hea heb
        have kW1 := kd.alloc (.cells #[.int .u16 (p i ^^^ p' i : Nat)] 23)
        have RW1 := Rd.keep ((Keep.refl (fun _ => False) wb.drew).alloc (.cells #[.int .u16 (p i ^^^ p' i : Nat)] 23))
        have bW1 := Blk.here wb.drew 23 #[.int .u16 (p i ^^^ p' i : Nat)] wb.heap.size rfl
        have hN1 : w4.heap.size ≤ (wb.drew.alloc (.cells #[.int .u16 (p i ^^^ p' i : Nat)] 23)).heap.size := kW1.size
        go_upto_region 17 with fail
        go_region_held3 (fun w' => w'.cell? ⟨gt, 0, none⟩ = some (.slice (some ⟨g1, 0, none⟩) 1023 1023) ∧ w'.cell? ⟨gt, 1, none⟩ = some (.slice (some ⟨g2, 0, none⟩) 1024 1024) ∧ w'.cell? ⟨bA, oA + i, none⟩ = some (.int .u16 (p i : Nat)) ∧ w'.cell? ⟨bB, oB + i, none⟩ = some (.int .u16 (p' i : Nat)))
          (first | exact CA _ kd | exact CA _ kW1 | exact CA _ kA | exact CA _ kM | exact CA _ kML | exact CA _ kB)
          (first
            | (have _z := bL; refine step_append_u rfl _ _ rfl w4.heap.size _ _ (fun t => gm (p t % 1024) (f % 1024)) rfl RM.o4 _ _ rfl bL rfl (by omega) hNM _ rfl ?_; intro gD cD wc hB1 hB2 hB3 hB4; have RB := RM.app4 rfl hB1 hB2 hB3; have kB : Keep (fun _ => False) w4 wc := kML.grown hB2 (fun k e => .inr (RM.o4.lt k e).1))
            | (go_at_call 23; refine (tmul_any _ _ _ _ (TX.out.keep kA).t.has).mono ?_; rintro e wm ⟨rfl, km⟩; have kM := kA.comp km; have bL := Blk.here wm 23 #[.int .u16 (gm (p i % 1024) (f % 1024) : Nat)] wm.heap.size rfl; have RM := (RA.keep km).keep ((Keep.refl (fun _ => False) wm).alloc (.cells #[.int .u16 (gm (p i % 1024) (f % 1024) : Nat)] 23)); have kML := kM.alloc (.cells #[.int .u16 (gm (p i % 1024) (f % 1024) : Nat)] 23); have hNM := kML.size)
            | (refine step_append_u rfl _ _ rfl w4.heap.size _ _ (fun t => p t ^^^ p' t) rfl RW1.o3 _ _ rfl bW1 rfl (by omega) hN1 _ rfl ?_; intro gC cC wa hA1 hA2 hA3 hA4; have RA := RW1.app3 rfl hA1 hA2 hA3; have kA : Keep (fun _ => False) w4 wa := kW1.grown hA2 (fun k e => .inr (RW1.o3.lt k e).1)))
        have HRC := Lib.hid RB
        have KC := Lib.hid kB
        clear CA hea heb c1 c2 t0 t1 kd Rd hx1 kW1 RW1 bW1 hN1 RA kA hA1 hA2 hA3 hA4 km kM bL RM kML hNM RB kB hB1 hB2 hB3 hB4 HRB KB
        go_wp2_with fail
        exact ⟨⟨i + 1, by omega, by go_num, Lib.hid (by rw [Nat.min_eq_left (by omega)]; exact HRC.out), KC.out⟩, by simp [intOf]; omega⟩
      · have hik' : ¬ (i : Int) < (k : Int) := by omega
        go_wp2_with fail
        exact ⟨⟨i + 1, by omega, by go_num, Lib.hid (by rw [show min (i + 1) k = min i k by omega]; exact HRB.out), KB.out⟩, by simp [intOf]; omega⟩
    · obtain rfl : i = n := by omega
      have hin' : ¬ (i : Int) < (i : Int) := by omega
      have hR := HR.out
      rw [Nat.min_eq_right (by omega)] at hR
      obtain ⟨s1, z1, rfl, O1⟩ := ownsRow_form hR.o1
      obtain ⟨s2, z2, rfl, O2⟩ := ownsRow_form hR.o2
      obtain ⟨s3, z3, rfl, O3⟩ := ownsRow_form hR.o3
      obtain ⟨s4, z4, rfl, O4⟩ := ownsRow_form hR.o4
      have hes := enc_sum HE.out HE'.out
      have het := enc_times HE.out (c := f % 1024) (Nat.mod_lt _ (by omega))
      have h3 : ∀ t, t < k → (fun t => p t ^^^ p' t) t < 1024 := fun t ht => by
        have h1 := hes.lt t (by omega)
        rwa [hes.data t ht] at h1
      have h4 : ∀ t, t < k → (fun t => gm (p t % 1024) (f % 1024)) t < 1024 := fun t ht => by
        have h1 := het.lt t (by omega)
        rwa [het.data t ht] at h1
      have A1 := Lib.hid (O1.arg (by omega) (fun t ht => Nat.lt_trans (hes.lt t (by have := HN.out; omega)) (by omega)))
      have A2 := Lib.hid (O2.arg (by omega) (fun t ht => Nat.lt_trans (het.lt t (by have := HN.out; omega)) (by omega)))
      have A3 := Lib.hid (O3.arg (by omega) (fun t ht => Nat.lt_trans (h3 t ht) (by omega)))
      have A4 := Lib.hid (O4.arg (by omega) (fun t ht => Nat.lt_trans (h4 t ht) (by omega)))
      have HES := Lib.hid hes
      have HET := Lib.hid het
      have H3 := Lib.hid h3
      have H4 := Lib.hid h4
      have TVr := TX.out.keep kk
      have kk5 := kk4.comp kk
      obtain ⟨d0, d1⟩ := tab_cells TVr.b
      generalize hF1 : (fun t => q t ^^^ q' t) = F1 at *
      generalize hF2 : (fun t => gm (q t % 1024) (f % 1024)) = F2 at *
      generalize hF3 : (fun t => p t ^^^ p' t) = F3 at *
      generalize hF4 : (fun t => gm (p t % 1024) (f % 1024)) = F4 at *
      clear hF1 hF2 hF3 hF4 hes het h3 h4 O1 O2 O3 O4 hR HR kk kk4
      go_wp2_with fail
      refine (enc_any _ _ k _ F3 _ TVr.t.has A3.out (by omega) (by omega) H3.out).mono ?_
      rintro e w6 ⟨⟨u, au, cu, hu, rfl, ou⟩, k6⟩
      have HU := Lib.hid (hu.uniq (by omega) HES.out)
      have AU := Lib.hid (ou.arg (by omega) (fun t ht => by have := hu.lt t ht; omega))
      rw [← HN.out] at AU HU ⊢
      have A1' := Lib.hid (A1.out.keep k6)
      have A2' := Lib.hid (A2.out.keep k6)
      have A4' := Lib.hid (A4.out.keep k6)
      have TV6 := TVr.keep k6
      have kk6 := kk5.comp k6
      clear d0 d1 hu ou A1 A2 A3 A4 TVr kk5 k6
      obtain ⟨d0, d1⟩ := tab_cells TV6.b
      go_wp2_with fail
      refine (enc_any _ _ k _ F4 _ TV6.t.has A4'.out (by omega) (by omega) H4.out).mono ?_
      rintro e w7 ⟨⟨v, av, cv, hv, rfl, ov⟩, k7⟩
      have HV := Lib.hid (hv.uniq (by omega) HET.out)
      have AV := Lib.hid (ov.arg (by omega) (fun t ht => by have := hv.lt t ht; omega))
      rw [← HN.out] at AV HV ⊢
      have AU7 := Lib.hid (AU.out.keep k7)
      have A17 := Lib.hid (A1'.out.keep k7)
      have A27 := Lib.hid (A2'.out.keep k7)
      have kk7 := kk6.comp k7
      clear d0 d1 hv ov A1' A2' A4' TV6 kk6 k7 AU
      go_wp2_with fail
      refine (same_yes _ _ i _ _ u F1 _ AU7.out A17.out (by omega) HU.out).mono ?_
      rintro e w8 ⟨rfl, k8⟩
      have AV8 := Lib.hid (AV.out.keep k8)
      have A28 := Lib.hid (A27.out.keep k8)
      have kk8 := kk7.comp k8
      clear AU7 A17 AV A27 kk7 k8
      go_wp2_with fail
      refine (same_yes _ _ i _ _ v F2 _ AV8.out A28.out (by omega) HV.out).mono ?_
      rintro e w9 ⟨rfl, k9⟩
      have kk9 := kk8.comp k9
      clear kk8 k9
      go_wp2_with fail
      go_ret
      exact ⟨rfl, kk9⟩
theorem csums_of {H : Type} {enc : TypeId × Value → H} (w : World) {base b0 : Nat} {a b : Option Addr} {k c k' c' : Nat} {d d' : DataW H} {ps ps' : List MemPlace} {sp sp' : Nat → Bool} (f : Int) (hf : (Lit.int .u16 f).wf = true)
    (ha : DataW.Trod enc Try.prog w base sp true 22 (.slice a k c) d ps) (hb : DataW.Trod enc Try.prog w b0 sp' true 22 (.slice b k' c') d' ps') :
    Calls Try.prog 7 #[.slice a k c, .slice b k' c', .int .u16 f] w fun e w' => e = .returned (.bool true) ∧ Keep (fun _ => False) w w' := by
  obtain ⟨p, hp, lp⟩ := argU_of2 ha
  obtain ⟨p', hp', lp'⟩ := argU_of2 hb
  obtain ⟨f, rfl, _⟩ := word_of hf
  exact csums_true a b k k' c c' f p p' w hp hp' lp lp'
end Go.Proofs.Ytnejnoiogojplaa

