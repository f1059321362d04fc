/- blackboardlaw4.CodeShort. -/
import Derived.Test.YtnejnoiogojplaaTurns
namespace Go.Proofs.Ytnejnoiogojplaa
open Go.ChangeShapes Go.WideShapes Go.ChangeAt Go.RowKit

set_option maxHeartbeats 8000000 in
set_option maxRecDepth 100000 in
theorem short_true (a at' : Option Addr) (k c s m cm : Nat) (p x y : Nat → Nat) (w : World) (ha : k ≤ 1000000 → ArgU w a k p) (hs : s < 256) (ht : ArgT w at' m x y) :
    Calls Try.prog 8 #[.slice a k c, .int .u8 s, .slice at' m cm] w fun e w' => e = .returned (.bool true) ∧ Keep (fun _ => False) w w' := by
  have HA' := Lib.hid ha
  have HT' := Lib.hid ht
  obtain ⟨z, hz⟩ : ∃ z, z = s % 40 := ⟨_, rfl⟩
  have hz40 : z < 40 := by omega
  have ez : ((s : Nat) : Int).tmod 40 = (z : Int) := by
    rw [Int.tmod_eq_emod_of_nonneg (by omega), hz]
    rfl
  have wz : IntKind.i64.wrap ((s : Nat) : Int) = (s : Int) := wraps_i64 _ (by omega) (by omega)
  clear ha ht hz
  go_enter Try.func8, Try.ntmps8
  go_wp2_with fail
  refine (cawake_true _).mono ?_
  rintro e w1 ⟨rfl, kk1⟩
  by_cases h0 : k = 0
  · subst h0
    go_wp2_with fail
    go_ret
    exact ⟨rfl, kk1⟩
  have e1 : ((k : Int) == 0) = false := by simp; omega
  have e2 : ¬ (k : Int) = 0 := by omega
  by_cases h1 : 60 < k
  · have e3 : (60 : Int) < (k : Int) := by omega
    have e4 : decide ((60 : Int) < (k : Int)) = true := by simpa using e3
    go_wp2_with fail
    go_ret
    exact ⟨rfl, kk1⟩
  have e3 : ¬ (60 : Int) < (k : Int) := by omega
  have e4 : decide ((60 : Int) < (k : Int)) = false := by simpa using e3
  by_cases h2 : 20 < m
  · have e5 : (20 : Int) < (m : Int) := by omega
    go_wp2_with fail
    go_ret
    exact ⟨rfl, kk1⟩
  have e5 : ¬ (20 : Int) < (m : Int) := by omega
  go_wp2_with fail
  clear e1 e2 e3 e4 e5
  refine (make_any _).mono ?_
  rintro e w2 ⟨g1, g2, rfl, T, _, _, k2⟩
  obtain ⟨TV, k3⟩ := TVar.new T
  have kk2 := (kk1.comp k2).comp k3
  unfold tabV
  clear T k2 k3
  go_upto_region 6 with (fail)
  generalize w2.alloc (.cells #[.slice (some ⟨g1, 0, none⟩) 1023 1023, .slice (some ⟨g2, 0, none⟩) 1024 1024] 27) = W2 at *
  generalize w2.heap.size = gt at *
  have HA := Lib.hid ((HA'.out (by omega)).keep kk2)
  have HT := Lib.hid (HT'.out.keep kk2)
  clear HA' HT' kk1
  obtain ⟨d0, d1⟩ := tab_cells TV.b
  go_wp2_with fail
  refine (enc_all _ _ k _ p _ TV.t.has HA.out).mono ?_
  rintro e w3 ⟨henc, k3⟩
  clear d0 d1 HA
  rcases henc with ⟨_, rfl⟩ | ⟨_, _, _, rfl⟩ | ⟨_, _, _, q, aq, cq, hq, rfl, oq⟩
  · go_wp2_with fail
    go_ret
    exact ⟨rfl, kk2.comp k3⟩
  · go_wp2_with fail
    go_ret
    exact ⟨rfl, kk2.comp k3⟩
  obtain ⟨n, hn⟩ : ∃ n, n = k + 16 := ⟨_, rfl⟩
  have HQlt := Lib.hid (show ∀ i, i < n → q i < 1024 by rw [hn]; exact hq.lt)
  rw [← hn] at oq ⊢
  have hn17 : 17 ≤ n := by omega
  have hn76 : n ≤ 76 := by omega
  obtain ⟨gq, rfl, hgb, hcq, rq⟩ := oq.row (by omega)
  have rb0 : RowU w3 gq cq n (trn q n x y 0) := rq
  have kb := k3
  clear hq hn oq rq k3
  go_wp2_with fail
  go_loopw [10] (fun v wr => ∃ i : Nat, i ≤ m ∧ v = .int .i64 i ∧ Hid (RowU wr gq cq n (trn q n x y i)) ∧ Keep (fun _ => False) W2 wr) (fun v _ => m - (intOf v).toNat)
  case atStart => exact ⟨0, by omega, rfl, Lib.hid rb0, kb⟩
  case round =>
    clear rb0 kb
    obtain ⟨i, hi, rfl, HR, kk⟩ := hrel
    by_cases him : i < m
    · have him' : (i : Int) < (m : Int) := by omega
      obtain ⟨bT, oT, rfl, hbT, hcT⟩ := HT.out.at_ (by omega)
      obtain ⟨t0, t1⟩ := hcT i him
      have e0 := (kk.cell (p := ⟨bT, oT + i * 2, none⟩) hbT (by simp)).trans t0
      have e1 := (kk.cell (p := ⟨bT, oT + i * 2 + 1, none⟩) hbT (by simp)).trans t1
      obtain ⟨lx, ly⟩ := HT.out.lt i him
      have hbT2 : bT < wr.heap.size := Nat.lt_of_lt_of_le hbT kk.size
      clear t0 t1 hcT hbT
      obtain ⟨k', hk'⟩ : ∃ k', k' = x i % n := ⟨_, rfl⟩
      have hkn : k' < n := by rw [hk']; exact Nat.mod_lt _ (by omega)
      have e4 : ((x i : Nat) : Int).tmod (n : Int) = ((k' : Nat) : Int) := by
        rw [Int.tmod_eq_emod_of_nonneg (by omega), hk']
        rfl
      have f0 : ¬ (n : Int) = 0 := by omega
      have f1 : ¬ (n : Int) = -1 := by omega
      have hkn' : (k' : Int) < (n : Int) := by omega
      have hand := and_1023 ly
      have cR := HR.out.val hkn
      have zR := HR.out.frozen k'
      have hRl := trn_lt (x := x) (y := y) (by omega) HQlt.out i k' hkn
      obtain ⟨z, hz⟩ : ∃ z, z = y i % 1024 := ⟨_, rfl⟩
      have hzl : z < 1024 := by omega
      rw [← hz] at hand
      obtain ⟨r, hr⟩ : ∃ r, r = trn q n x y i k' := ⟨_, rfl⟩
      rw [← hr] at cR hRl
      have hxor := xor_u16 (a := r) (b := z) (by omega) (by omega)
      have HN := Lib.hid (show trn q n x y (i + 1) = updU (trn q n x y i) k' (r ^^^ z) by rw [trn, ← hk', ← hr, ← hz])
      have hlR := HR.out.lt
      generalize hxi : x i = X at *
      generalize hyi : y i = Y at *
      clear hk' hz hr hxi hyi
      have q0 : ∀ v : KeptBy wr, v.v.cell? ⟨gq, k', none⟩ = some (.int .u16 (r : Nat)) := fun v => v.cell hlR cR
      have q1 : ∀ v : KeptBy wr, v.v.cell? ⟨bT, oT + i * 2, none⟩ = some (.int .u16 (X : Nat)) := fun v => v.cell hbT2 e0
      have q2 : ∀ v : KeptBy wr, v.v.cell? ⟨bT, oT + i * 2 + 1, none⟩ = some (.int .u16 (Y : Nat)) := fun v => v.cell hbT2 e1
      have w0 : IntKind.i64.wrap (X : Int) = (X : Int) := wraps_i64 _ (by omega) (by omega)
      have w1' : IntKind.i64.wrap (k' : Int) = (k' : Int) := wraps_i64 _ (by omega) (by omega)
      have f2 : ¬ n = 0 := by omega
      have pa0 := pair_at0
      have pa1 := pair_at1
      go_upto_region 12 with fail
      refine wp_region_kept_tail 20 (by kernel_rfl) (by kernel_rfl) ?_
      simp only [List.take_succ_cons, List.take_zero, List.drop_succ_cons, List.drop_zero]
      repeat (quiet_step (fail))
      refine wpQuiet_nil ?_
      rintro w5 ⟨⟨_, k5⟩, rfl⟩
      clear q0 q1 q2 pa0 pa1 w0 w1'
      have R5 := HR.out.keep k5 (by simp)
      have c5 := R5.val hkn
      have z5 := R5.frozen k'
      have K5 := Lib.hid ((kk.comp k5).setCell (p := ⟨gq, k', none⟩) (.inr hgb) (.int .u16 (r ^^^ z : Nat)))
      have R6 := Lib.hid (R5.store k' (r ^^^ z) (f' := trn q n x y (i + 1)) (fun t _ => by rw [HN.out]; rfl))
      clear R5 cR zR e0 e1
      go_wp2_with fail
      exact ⟨⟨i + 1, by omega, by go_num, R6, K5.out⟩, by simp [intOf]; omega⟩
    · obtain rfl : i = m := by omega
      have him' : ¬ (i : Int) < (i : Int) := by omega
      have HRL := Lib.hid (trn_lt (x := x) (y := y) (by omega) HQlt.out i)
      have h16 : ∀ t, t < n → trn q n x y i t < 65536 := fun t ht => by have := HRL.out t ht; omega
      have AW := Lib.hid (HR.out.argU (by omega) h16)
      have TV4 := TV.keep kk
      have kk4 := kk2.comp kk
      have hcn := HR.out.room
      clear HR kk kk2 TV HT h16
      generalize trn q n x y i = r at *
      have hmk := make_u z z rfl (by omega)
      have ke := (Keep.refl (fun _ => False) wr).alloc (.cells (uArr (fun _ => 0) z) 23)
      have AWe := Lib.hid (AW.out.keep ke)
      have OZ := Lib.hid (show OwnU (wr.alloc (.cells (uArr (fun _ => 0) z) 23)) wr.heap.size (some ⟨wr.heap.size, 0, none⟩) z z (fun _ => 0) from OwnU.of_row (RowU.of_blk (Blk.new wr _ _)) (Nat.le_refl _) (by unfold maxLen; omega))
      have hse := ke.size
      go_wp2_with (refine wpList_append_u rfl (.tmp 72) (.tmp 73) rfl wr.heap.size _ z z (fun _ => 0) rfl OZ.out _ n _ r rfl AWe.out (by omega) hse ?_)
      intro al cl w5 ol gl
      have HRZ := Lib.hid (padZ_lt (z := z) HRL.out)
      have ol' : OwnU w5 wr.heap.size al (z + n) cl (padZ r z) := ol.congr (fun t _ => rfl)
      have AL := Lib.hid (ol'.arg (by omega) (fun t ht => by have := HRZ.out t ht; omega))
      have kl := ke.grown gl (fun j hj => .inr (by simp [Value.ownBlock] at hj; omega))
      have TV5 := TV4.keep kl
      have AW5 := Lib.hid (AW.out.keep kl)
      have kk5 := kk4.comp kl
      obtain ⟨d0, d1⟩ := tab_cells TV5.b
      have hln := ol'.le.1
      clear ol ol' gl ke AWe OZ hse hmk AW TV4 kk4 kl
      obtain ⟨N, hN⟩ : ∃ N, N = z + n := ⟨_, rfl⟩
      have hNl : N ≤ 1023 := by omega
      have hNl2 : 16 < N := by omega
      rw [← hN] at AL HRZ hln ⊢
      have HN := Lib.hid hN
      clear hN
      go_wp2_with fail
      refine (dec_any _ _ _ _ r _ TV5.t.has AW5.out (by omega) (by omega) HRL.out).mono ?_
      rintro e w6 ⟨hdec, k6⟩
      have AL6 := Lib.hid (AL.out.keep k6)
      have TV6 := TV5.keep k6
      have kk6 := kk5.comp k6
      clear d0 d1 AL TV5 kk5 AW5
      obtain ⟨d0, d1⟩ := tab_cells TV6.b
      rcases hdec with ⟨q1, d1', af, cf, hnr, rfl, of⟩ | ⟨hno, rfl⟩
      · have HPad := Lib.hid (show Near (padZ r z) N (padZ q1 z) d1' by rw [HN.out]; exact hnr.pad)
        have HNR := Lib.hid hnr
        have hd8 := hnr.le
        have hf16 : ∀ t, t < n → q1 t < 65536 := fun t ht => by have := hnr.lt t ht; omega
        have AF := Lib.hid (of.arg (by omega) hf16)
        obtain ⟨gf, rfl, _, _, _⟩ := of.row (by omega)
        clear of hnr hf16
        go_wp2_with fail
        refine (dec_any _ _ _ _ (padZ r z) _ TV6.t.has AL6.out (by omega) (by omega) HRZ.out).mono ?_
        rintro e w7 ⟨hdec2, k7⟩
        obtain ⟨ab, cb, rfl, ob⟩ := hdec2.near HPad.out (by omega)
        have HBZ := Lib.hid (show ∀ t, t < N → padZ q1 z t < 65536 by
          intro t ht
          have := padZ_lt (z := z) HNR.out.lt t (by have := HN.out; omega)
          omega)
        have AB := Lib.hid (ob.arg (by omega) HBZ.out)
        have AF7 := Lib.hid (AF.out.keep k7)
        have kk7 := kk6.comp k7
        clear hdec2 ob d0 d1 AF AL6 TV6 kk6 k7
        have hmk := make_u z z rfl (by omega)
        have ke := (Keep.refl (fun _ => False) w7).alloc (.cells (uArr (fun _ => 0) z) 23)
        have AFe := Lib.hid (AF7.out.keep ke)
        have ABe := Lib.hid (AB.out.keep ke)
        have OZ := Lib.hid (show OwnU (w7.alloc (.cells (uArr (fun _ => 0) z) 23)) w7.heap.size (some ⟨w7.heap.size, 0, none⟩) z z (fun _ => 0) from OwnU.of_row (RowU.of_blk (Blk.new w7 _ _)) (Nat.le_refl _) (by unfold maxLen; omega))
        have hse := ke.size
        go_wp2_with (refine wpList_append_ug (by rfl) (.tmp 103) (.tmp 104) rfl w7.heap.size _ z z (fun _ => 0) rfl OZ.out _ n _ q1 rfl AFe.out (by omega) hse ?_)
        intro ax cx w8 ox gx
        have ox' : OwnU w8 w7.heap.size ax (z + n) cx (padZ q1 z) := ox.congr (fun t _ => rfl)
        have kx := ke.grown gx (fun j hj => .inr (by simp [Value.ownBlock] at hj; omega))
        have AB8 := Lib.hid (AB.out.keep kx)
        have kk8 := kk7.comp kx
        rw [← HN.out] at ox' ⊢
        have AX := Lib.hid (ox'.arg (by omega) HBZ.out)
        clear ox ox' gx ke AFe ABe OZ hse hmk AB AF7 kk7 kx
        go_wp2_with fail
        refine (same_yes _ _ N _ _ (padZ q1 z) (padZ q1 z) _ AB8.out AX.out (by omega) (fun _ _ => rfl)).mono ?_
        rintro e w9 ⟨rfl, k9⟩
        have kk9 := kk8.comp k9
        clear kk8 k9
        go_wp2_with fail
        go_ret
        exact ⟨rfl, kk9⟩
      · have HNo := Lib.hid hno
        clear hno
        go_wp2_with fail
        refine (dec_any _ _ _ _ (padZ r z) _ TV6.t.has AL6.out (by omega) (by omega) HRZ.out).mono ?_
        rintro e w7 ⟨hdec2, k7⟩
        have kk7 := kk6.comp k7
        clear d0 d1 AL6 TV6 kk6 k7
        rcases hdec2 with ⟨q2, d2, ab, cb, hnr, rfl, ob⟩ | ⟨_, rfl⟩
        · have HNR := Lib.hid hnr
          have hb16 : ∀ t, t < N → q2 t < 65536 := fun t ht => by have := hnr.lt t ht; omega
          have AB := Lib.hid (ob.arg (by omega) hb16)
          have hbc := ob.le.1
          clear hnr ob hb16
          go_wp2_with fail
          go_loopw [18] (fun v wr => ∃ j : Nat, j ≤ z ∧ v = .int .i64 j ∧ Hid (∀ t, t < j → q2 t = 0) ∧ Keep (fun _ => False) w7 wr) (fun v _ => z - (intOf v).toNat)
          case atStart => exact ⟨0, by omega, rfl, Lib.hid (fun t ht => by omega), Keep.refl _ _⟩
          case round =>
            obtain ⟨j, hj, rfl, HZ, kr⟩ := hrel
            by_cases hjz : j < z
            · have hjz' : (j : Int) < (z : Int) := by omega
              have hzN : z ≤ N := by have := HN.out; omega
              obtain ⟨bB, oB, rfl, hbB, hcB⟩ := AB.out.at_ (by omega)
              have c0 := (kr.cell (p := ⟨bB, oB + j, none⟩) hbB (by simp)).trans (hcB j (by omega))
              have hjN : (j : Int) < (N : Int) := by omega
              clear hcB
              by_cases h0 : q2 j = 0
              · rw [h0] at c0
                have HZ2 := Lib.hid (show ∀ t, t < j + 1 → q2 t = 0 from fun t ht => by
                  by_cases e : t = j
                  · rw [e]; exact h0
                  · exact HZ.out t (by omega))
                clear h0
                go_wp2_with fail
                exact ⟨⟨j + 1, by omega, by go_num, HZ2, kr⟩, by simp [intOf]; omega⟩
              · have e1 : ¬ ((q2 j : Nat) : Int) = 0 := by omega
                have e2 : (((q2 j : Nat) : Int) != 0) = true := by simpa using e1
                clear h0
                go_wp2_with fail
                go_ret
                exact ⟨rfl, kk7.comp kr⟩
            · exfalso
              obtain rfl : j = z := by omega
              exact HNo.out _ _ (Near.unpad (by rw [← HN.out]; exact HNR.out) HZ.out)
        · go_wp2_with fail
          go_ret
          exact ⟨rfl, kk7⟩
theorem short_of {H : Type} {enc : TypeId × Value → H} (w : World) {base b0 : Nat} {a at' : Option Addr} {k c m cm : Nat} {d d' : DataW H} {ps ps' : List MemPlace} {sp sp' : Nat → Bool} (s : Int) (hs : (Lit.int .u8 s).wf = true)
    (ha : DataW.Trod enc Try.prog w base sp true 22 (.slice a k c) d ps) (ht : DataW.Trod enc Try.prog w b0 sp' true 46 (.slice at' m cm) d' ps') :
    Calls Try.prog 8 #[.slice a k c, .int .u8 s, .slice at' m cm] w fun e w' => e = .returned (.bool true) ∧ Keep (fun _ => False) w w' := by
  obtain ⟨p, hp, _⟩ := argU_of ha
  obtain ⟨s, rfl, ls⟩ := byte_of hs
  obtain ⟨x, y, ht⟩ := argT_of ht
  exact short_true a at' k c s m cm p x y w hp ls ht
end Go.Proofs.Ytnejnoiogojplaa

