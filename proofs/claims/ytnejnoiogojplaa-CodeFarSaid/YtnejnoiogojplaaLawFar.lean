/- blackboardlaw4.CodeFar. -/
import Derived.Test.YtnejnoiogojplaaTurns
namespace Go.Proofs.Ytnejnoiogojplaa
open Go.ChangeShapes Go.WideShapes Go.ChangeAt Go.RowKit

set_option maxHeartbeats 8000000 in
set_option maxRecDepth 100000 in
theorem far_true (a b at' : Option Addr) (ka kb ca cb' m cm : Nat) (p p' x y : Nat → Nat) (w : World) (ha : ∀ t, t ≤ ka → t ≤ 1000000 → ArgU w a t p) (hb : ∀ t, t ≤ kb → t ≤ 1000000 → ArgU w b t p') (hca : ka ≤ ca) (hcb : kb ≤ cb') (ht : ArgT w at' m x y) :
    Calls Try.prog 9 #[.slice a ka ca, .slice b kb cb', .slice at' m cm] w fun e w' => e = .returned (.bool true) ∧ Keep (fun _ => False) w w' := by
  have HA' := Lib.hid ha
  have HB' := Lib.hid hb
  have HT' := Lib.hid ht
  obtain ⟨k, hk⟩ : ∃ k, k = min ka kb := ⟨_, rfl⟩
  have hmn : (if kb < ka then (kb : Int) else (ka : Int)) = (k : Int) := by split <;> omega
  have hka : k ≤ ka := by omega
  have hkb : k ≤ kb := by omega
  have hka' : (k : Int) ≤ (ca : Int) := by omega
  have hkb' : (k : Int) ≤ (cb' : Int) := by omega
  clear ha hb ht hk
  go_enter Try.func9, Try.ntmps9
  go_wp2_with fail
  refine (cawake_true _).mono ?_
  rintro e w1 ⟨rfl, kk1⟩
  by_cases h0 : k = 0
  · subst h0
    go_wp2_with fail
    go_ret
    exact ⟨rfl, kk1⟩
  have e1 : ((k : Int) == 0) = false := by simp; omega
  have e2 : ¬ (k : Int) = 0 := by omega
  by_cases h1 : 60 < k
  · have e3 : (60 : Int) < (k : Int) := by omega
    have e4 : decide ((60 : Int) < (k : Int)) = true := by simpa using e3
    go_wp2_with fail
    go_ret
    exact ⟨rfl, kk1⟩
  have e3 : ¬ (60 : Int) < (k : Int) := by omega
  have e4 : decide ((60 : Int) < (k : Int)) = false := by simpa using e3
  by_cases h2 : 30 < m
  · have e5 : (30 : Int) < (m : Int) := by omega
    go_wp2_with fail
    go_ret
    exact ⟨rfl, kk1⟩
  have e5 : ¬ (30 : Int) < (m : Int) := by omega
  go_wp2_with fail
  clear e1 e2 e3 e4 e5 hmn
  refine (make_any _).mono ?_
  rintro e w2 ⟨g1, g2, rfl, T, _, _, k2⟩
  obtain ⟨TV, k3⟩ := TVar.new T
  have kk2 := (kk1.comp k2).comp k3
  unfold tabV
  clear T k2 k3
  go_upto_region 7 with (fail)
  generalize w2.alloc (.cells #[.slice (some ⟨g1, 0, none⟩) 1023 1023, .slice (some ⟨g2, 0, none⟩) 1024 1024] 27) = W2 at *
  generalize w2.heap.size = gt at *
  have HA := Lib.hid ((HA'.out k hka (by omega)).keep kk2)
  have HB := Lib.hid ((HB'.out k hkb (by omega)).keep kk2)
  have HT := Lib.hid (HT'.out.keep kk2)
  clear HA' HB' HT' kk1
  have kd := (Keep.refl (fun _ => False) W2).drew
  have TVd := TV.keep kd
  have HAd := Lib.hid (HA.out.keep kd)
  obtain ⟨d0, d1⟩ := tab_cells TVd.b
  go_region_held3 (fun w' => w'.cell? ⟨gt, 0, none⟩ = some (.slice (some ⟨g1, 0, none⟩) 1023 1023) ∧ w'.cell? ⟨gt, 1, none⟩ = some (.slice (some ⟨g2, 0, none⟩) 1024 1024))
    (first | exact ⟨d0, d1⟩ | exact ⟨f0, f1⟩)
    (first | (go_at_call 13; refine (enc_z _ _ k _ p _ TVd.t.has HAd.out).mono ?_; rintro e w3 ⟨aq, nq, cq, z, rfl, hz, k3⟩; have TV3 := TVd.keep k3; obtain ⟨f0, f1⟩ := tab_cells TV3.b))
  have kd3 := kd.comp k3
  have kk3 := kk2.comp kd3
  have HB3 := Lib.hid (HB.out.keep kd3)
  have HT3 := Lib.hid (HT.out.keep kd3)
  clear d0 d1 f0 f1 TVd HAd HA HB HT TV kk2 k3 kd3 kd
  have kd := (Keep.refl (fun _ => False) w3).drew
  have TVd := TV3.keep kd
  have HBd := Lib.hid (HB3.out.keep kd)
  obtain ⟨d0, d1⟩ := tab_cells TVd.b
  go_wp2_with fail
  go_region_held3 (fun w' => w'.cell? ⟨gt, 0, none⟩ = some (.slice (some ⟨g1, 0, none⟩) 1023 1023) ∧ w'.cell? ⟨gt, 1, none⟩ = some (.slice (some ⟨g2, 0, none⟩) 1024 1024))
    (first | exact ⟨d0, d1⟩ | exact ⟨f0, f1⟩)
    (first | (go_at_call 13; refine (enc_z _ _ k _ p' _ TVd.t.has HBd.out).mono ?_; rintro e w4 ⟨ay, ny, cy, z', rfl, hz', k4⟩; have TV4 := TVd.keep k4; obtain ⟨f0, f1⟩ := tab_cells TV4.b))
  have kd4 := kd.comp k4
  have kk4 := kk3.comp kd4
  have HT4 := Lib.hid (HT3.out.keep kd4)
  clear d0 d1 f0 f1 TVd HBd HB3 HT3 TV3 kk3 k4 kd
  rcases hz with hz | ⟨rfl, rfl, _, _, _, q, hq, oq⟩
  · have e1 : (z != 0) = true := by simpa using hz
    go_wp2_with fail
    go_ret
    exact ⟨rfl, kk4⟩
  rcases hz' with hz | ⟨rfl, rfl, _, _, _, q', hq', oy⟩
  · have e1 : (z' != 0) = true := by simpa using hz
    go_wp2_with fail
    go_ret
    exact ⟨rfl, kk4⟩
  have oq4 := oq.keep kd4
  obtain ⟨n, hn⟩ : ∃ n, n = k + 16 := ⟨_, rfl⟩
  have HQlt := Lib.hid (show ∀ i, i < n → q i < 1024 by rw [hn]; exact hq.lt)
  have HQw := Lib.hid (show ∀ j, j < 16 → synW q n j = 0 by rw [hn]; exact hq.word)
  have HYlt := Lib.hid (show ∀ i, i < n → q' i < 1024 by rw [hn]; exact hq'.lt)
  have HYw := Lib.hid (show ∀ j, j < 16 → synW q' n j = 0 by rw [hn]; exact hq'.word)
  rw [← hn] at oq4 oy ⊢
  have hn17 : 17 ≤ n := by omega
  have hn76 : n ≤ 76 := by omega
  have hqc := oq4.le.1
  have hyc := oy.le.1
  have HQ16 := Lib.hid (fun i (hi : i < n) => show q i < 65536 by have := HQlt.out i hi; omega)
  have HY16 := Lib.hid (fun i (hi : i < n) => show q' i < 65536 by have := HYlt.out i hi; omega)
  have AQ := Lib.hid (oq4.arg (by omega) HQ16.out)
  have AY := Lib.hid (oy.arg (by omega) HY16.out)
  obtain ⟨gq, rfl, _, _, _⟩ := oq4.row (by omega)
  have ke := (Keep.refl (fun _ => False) w4).alloc (.cells #[] 23)
  have AQe := Lib.hid (AQ.out.keep ke)
  have hse := ke.size
  clear hq hq' hn oq oq4 oy kd4
  go_wp2_with (refine wpList_append_u rfl (.tmp 60) (.tmp 61) rfl w4.heap.size _ 0 0 q rfl (empty_own w4 q) _ n _ q rfl AQe.out (by omega) hse ?_)
  intro ab cb w5 ob gb
  have kb := ke.grown gb (fun j hj => .inr (by simp [Value.ownBlock] at hj; omega))
  obtain ⟨gb, rfl, hgb, hcb, rb⟩ := ob.row (by omega)
  have rb0 : RowU w5 gb cb n (trn q n x y 0) := rb.congr (fun i hi => by simp [trn])
  clear ob rb ke AQe hse AQ
  go_wp2_with fail
  go_loopw [14] (fun v wr => ∃ i : Nat, i ≤ m ∧ v = .int .i64 i ∧ Hid (RowU wr gb cb n (trn q n x y i)) ∧ Keep (fun _ => False) w4 wr) (fun v _ => m - (intOf v).toNat)
  case atStart => exact ⟨0, by omega, rfl, Lib.hid rb0, kb⟩
  case round =>
    clear rb0 kb
    obtain ⟨i, hi, rfl, HR, kk⟩ := hrel
    by_cases him : i < m
    · have him' : (i : Int) < (m : Int) := by omega
      obtain ⟨bT, oT, rfl, hbT, hcT⟩ := HT4.out.at_ (by omega)
      obtain ⟨t0, t1⟩ := hcT i him
      have e0 := (kk.cell (p := ⟨bT, oT + i * 2, none⟩) hbT (by simp)).trans t0
      have e1 := (kk.cell (p := ⟨bT, oT + i * 2 + 1, none⟩) hbT (by simp)).trans t1
      obtain ⟨lx, ly⟩ := HT4.out.lt i him
      have hbT2 : bT < wr.heap.size := Nat.lt_of_lt_of_le hbT kk.size
      clear t0 t1 hcT hbT
      obtain ⟨k', hk'⟩ : ∃ k', k' = x i % n := ⟨_, rfl⟩
      have hkn : k' < n := by rw [hk']; exact Nat.mod_lt _ (by omega)
      have e4 : ((x i : Nat) : Int).tmod (n : Int) = ((k' : Nat) : Int) := by
        rw [Int.tmod_eq_emod_of_nonneg (by omega), hk']
        rfl
      have f0 : ¬ (n : Int) = 0 := by omega
      have f1 : ¬ (n : Int) = -1 := by omega
      have hkn' : (k' : Int) < (n : Int) := by omega
      have hand := and_1023 ly
      have cR := HR.out.val hkn
      have zR := HR.out.frozen k'
      have hRl := trn_lt (x := x) (y := y) (by omega) HQlt.out i k' hkn
      obtain ⟨z, hz⟩ : ∃ z, z = y i % 1024 := ⟨_, rfl⟩
      have hzl : z < 1024 := by omega
      rw [← hz] at hand
      obtain ⟨r, hr⟩ : ∃ r, r = trn q n x y i k' := ⟨_, rfl⟩
      rw [← hr] at cR hRl
      have hxor := xor_u16 (a := r) (b := z) (by omega) (by omega)
      have HN := Lib.hid (show trn q n x y (i + 1) = updU (trn q n x y i) k' (r ^^^ z) by rw [trn, ← hk', ← hr, ← hz])
      have hlR := HR.out.lt
      generalize hxi : x i = X at *
      generalize hyi : y i = Y at *
      clear hk' hz hr hxi hyi
      have q0 : ∀ v : KeptBy wr, v.v.cell? ⟨gb, k', none⟩ = some (.int .u16 (r : Nat)) := fun v => v.cell hlR cR
      have q1 : ∀ v : KeptBy wr, v.v.cell? ⟨bT, oT + i * 2, none⟩ = some (.int .u16 (X : Nat)) := fun v => v.cell hbT2 e0
      have q2 : ∀ v : KeptBy wr, v.v.cell? ⟨bT, oT + i * 2 + 1, none⟩ = some (.int .u16 (Y : Nat)) := fun v => v.cell hbT2 e1
      have w0 : IntKind.i64.wrap (X : Int) = (X : Int) := wraps_i64 _ (by omega) (by omega)
      have w1' : IntKind.i64.wrap (k' : Int) = (k' : Int) := wraps_i64 _ (by omega) (by omega)
      have f2 : ¬ n = 0 := by omega
      have pa0 := pair_at0
      have pa1 := pair_at1
      go_upto_region 15 with fail
      refine wp_region_kept_tail 20 (by kernel_rfl) (by kernel_rfl) ?_
      simp only [List.take_succ_cons, List.take_zero, List.drop_succ_cons, List.drop_zero]
      repeat (quiet_step (fail))
      refine wpQuiet_nil ?_
      rintro w5 ⟨⟨_, k5⟩, rfl⟩
      clear q0 q1 q2 pa0 pa1 w0 w1'
      have R5 := HR.out.keep k5 (by simp)
      have c5 := R5.val hkn
      have z5 := R5.frozen k'
      have K5 := Lib.hid ((kk.comp k5).setCell (p := ⟨gb, k', none⟩) (.inr hgb) (.int .u16 (r ^^^ z : Nat)))
      have R6 := Lib.hid (R5.store k' (r ^^^ z) (f' := trn q n x y (i + 1)) (fun t _ => by rw [HN.out]; rfl))
      clear R5 cR zR e0 e1
      go_wp2_with fail
      exact ⟨⟨i + 1, by omega, by go_num, R6, K5.out⟩, by simp [intOf]; omega⟩
    · obtain rfl : i = m := by omega
      have him' : ¬ (i : Int) < (i : Int) := by omega
      have HRL := Lib.hid (trn_lt (x := x) (y := y) (by omega) HQlt.out i)
      have AB := Lib.hid (HR.out.argU (by omega) (fun t ht => by have := HRL.out t ht; omega))
      have TV5 := TV4.keep kk
      have AY5 := Lib.hid (AY.out.keep kk)
      have kk5 := kk4.comp kk
      obtain ⟨d0, d1⟩ := tab_cells TV5.b
      clear HR kk kk4 TV4 AY HT4
      generalize trn q n x y i = r at *
      go_wp2_with fail
      refine (dec_any _ _ _ _ r _ TV5.t.has AB.out (by omega) (by omega) HRL.out).mono ?_
      rintro e w6 ⟨hdec, k6⟩
      have AY6 := Lib.hid (AY5.out.keep k6)
      have AB6 := Lib.hid (AB.out.keep k6)
      have kk6 := kk5.comp k6
      clear d0 d1 AY5 AB TV5 kk5
      rcases hdec with ⟨s, d', af, cf, hnr, rfl, of⟩ | ⟨hno, rfl⟩
      · have HNR := Lib.hid hnr
        have hf16 : ∀ t, t < n → s t < 65536 := fun t ht => by have := hnr.lt t ht; omega
        have AF := Lib.hid (of.arg (by omega) hf16)
        clear of hnr hf16
        go_wp2_with fail
        have hd := dist_any _ _ n n cb cy r q' _ AB6.out AY6.out (by omega) (by omega)
        rw [Nat.max_self, Nat.min_self, Nat.sub_self, Nat.zero_add] at hd
        refine hd.mono ?_
        rintro e w7 ⟨rfl, k7⟩
        have AY7 := Lib.hid (AY6.out.keep k7)
        have AF7 := Lib.hid (AF.out.keep k7)
        have kk7 := kk6.comp k7
        obtain ⟨d, hd'⟩ : ∃ d, d = cntNe r q' n := ⟨_, rfl⟩
        rw [← hd']
        have HD := Lib.hid hd'
        have hdl := cntNe_le r q' n
        rw [← hd'] at hdl
        clear hd AY6 AF AB6 kk6 k7 hd'
        by_cases hs : cntNe s q' n = 0
        · have HS := Lib.hid (cntNe_zero.1 hs)
          have hd8 : d ≤ 8 := by
            have h1 := HNR.out.le
            have h2 := HNR.out.dist
            rw [cntNe_comm, cntNe_congr (q' := q') n (fun _ _ => rfl) HS.out] at h2
            rw [HD.out]
            omega
          have e1 : (d : Int) ≤ 8 := by omega
          have e2 : decide ((d : Int) ≤ 8) = true := by simpa using e1
          go_wp2_with fail
          refine (same_yes _ _ n _ _ s q' _ AF7.out AY7.out (by omega) HS.out).mono ?_
          rintro e w8 ⟨rfl, k8⟩
          have kk8 := kk7.comp k8
          clear kk7 k8
          go_wp2_with fail
          go_ret
          exact ⟨rfl, kk8⟩
        · have hd8 : 8 < d := by
            rcases Nat.lt_or_ge 8 d with h | h
            · exact h
            · exfalso
              have hN : Near r n q' d := ⟨HYlt.out, HYw.out, by rw [cntNe_comm, HD.out], h⟩
              exact hs (cntNe_zero.2 (Near.uniq (by omega) HNR.out hN).1)
          have e1 : (8 : Int) < (d : Int) := by omega
          have e2 : decide ((8 : Int) < (d : Int)) = true := by simpa using e1
          have HX := Lib.hid hs
          clear hs
          go_wp2_with fail
          refine (same_any _ _ n n _ _ s q' _ AF7.out AY7.out (by omega) (by omega) false (Lib.hid (by have := HX.out; simp [this]))).mono ?_
          rintro e w8 ⟨rfl, k8⟩
          have kk8 := kk7.comp k8
          have AY8 := Lib.hid (AY7.out.keep k8)
          have AF8 := Lib.hid (AF7.out.keep k8)
          clear kk7 k8
          go_wp2_with fail
          refine (same_any _ _ n n _ _ s q' _ AF8.out AY8.out (by omega) (by omega) false (Lib.hid (by have := HX.out; simp [this]))).mono ?_
          rintro e w9 ⟨rfl, k9⟩
          have kk9 := kk8.comp k9
          clear kk8 k9
          go_wp2_with fail
          go_ret
          exact ⟨rfl, kk9⟩
      · go_wp2_with fail
        have hd := dist_any _ _ n n cb cy r q' _ AB6.out AY6.out (by omega) (by omega)
        rw [Nat.max_self, Nat.min_self, Nat.sub_self, Nat.zero_add] at hd
        refine hd.mono ?_
        rintro e w7 ⟨rfl, k7⟩
        have kk7 := kk6.comp k7
        have hd8 : 8 < cntNe r q' n := by
          rcases Nat.lt_or_ge 8 (cntNe r q' n) with h | h
          · exact h
          · exact absurd ⟨HYlt.out, HYw.out, cntNe_comm _ _ _, h⟩ (hno q' (cntNe r q' n))
        have e1 : (8 : Int) < (cntNe r q' n : Nat) := by omega
        have e2 : decide ((8 : Int) < (cntNe r q' n : Nat)) = true := by simpa using e1
        clear hd kk6 k7
        go_wp2_with fail
        go_ret
        exact ⟨rfl, kk7⟩
theorem far_of {H : Type} {enc : TypeId × Value → H} (w : World) {base b0 b1 : Nat} {a b at' : Option Addr} {k c k' c' m cm : Nat} {d d' d'' : DataW H} {ps ps' ps'' : List MemPlace} {sp sp' sp'' : Nat → Bool}
    (ha : DataW.Trod enc Try.prog w base sp true 22 (.slice a k c) d ps) (hb : DataW.Trod enc Try.prog w b0 sp' true 22 (.slice b k' c') d' ps') (ht : DataW.Trod enc Try.prog w b1 sp'' true 46 (.slice at' m cm) d'' ps'') :
    Calls Try.prog 9 #[.slice a k c, .slice b k' c', .slice at' m cm] w fun e w' => e = .returned (.bool true) ∧ Keep (fun _ => False) w w' := by
  obtain ⟨p, hp, lp⟩ := argU_of2 ha
  obtain ⟨p', hp', lp'⟩ := argU_of2 hb
  obtain ⟨x, y, ht⟩ := argT_of ht
  exact far_true a b at' k k' c c' m cm p p' x y w hp hp' lp lp' ht
end Go.Proofs.Ytnejnoiogojplaa

