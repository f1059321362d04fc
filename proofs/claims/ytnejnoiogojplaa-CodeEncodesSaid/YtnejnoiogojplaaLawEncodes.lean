/- blackboardlaw4.CodeEncodes. -/
import Derived.Test.YtnejnoiogojplaaRefE
import Derived.Test.YtnejnoiogojplaaTurns
namespace Go.Proofs.Ytnejnoiogojplaa
open Go.ChangeShapes Go.WideShapes Go.ChangeAt Go.RowKit

/-- Other data have a word that is unlike in more than sixteen places. -/
theorem enc_far {p q x : Nat → Nat} {k m v : Nat} (hk : k + 16 ≤ 1023) (hm : m < k) (hv : v ≠ 0) (hq : IsEnc p k q) (hx : IsEnc (updU p m (p m ^^^ v)) k x) : 16 < cntNe q x (k + 16) := by
  rcases Nat.lt_or_ge 16 (cntNe q x (k + 16)) with h | h
  · exact h
  · exfalso
    have e := far_words hk hq.lt hx.lt hq.word hx.word h m (by omega)
    rw [hq.data m hm, hx.data m hm, show updU p m (p m ^^^ v) m = p m ^^^ v from if_pos rfl] at e
    exact xor_ne hv e

set_option maxHeartbeats 8000000 in
set_option maxRecDepth 100000 in
theorem encodes_true (a : Option Addr) (k c s y : Nat) (p : Nat → Nat) (w : World) (ha : k ≤ 1000000 → ArgU w a k p) (hkc : k ≤ c) (hs : s < 256) (hy : y < 65536) :
    Calls Try.prog 3 #[.slice a k c, .int .u8 s, .int .u16 y] w fun e w' => e = .returned (.bool true) ∧ Keep (fun _ => False) w w' := by
  have HA' := Lib.hid ha
  clear ha
  go_enter Try.func3, Try.ntmps3
  go_wp2_with fail
  refine (cawake_true _).mono ?_
  rintro e w1 ⟨rfl, kk1⟩
  by_cases h1 : 200 < k
  · have e3 : (200 : Int) < (k : Int) := by omega
    go_wp2_with fail
    go_ret
    exact ⟨rfl, kk1⟩
  have e3 : ¬ (200 : Int) < (k : Int) := by omega
  go_wp2_with fail
  clear e3
  refine (make_any _).mono ?_
  rintro e w2 ⟨g1, g2, rfl, T, _, _, k2⟩
  obtain ⟨TV, k3⟩ := TVar.new T
  have kk2 := (kk1.comp k2).comp k3
  unfold tabV
  clear T k2 k3
  go_upto_region 6 with (fail)
  generalize w2.alloc (.cells #[.slice (some ⟨g1, 0, none⟩) 1023 1023, .slice (some ⟨g2, 0, none⟩) 1024 1024] 27) = W2 at *
  generalize w2.heap.size = gt at *
  have HA := Lib.hid ((HA'.out (by omega)).keep kk2)
  clear HA' kk1
  obtain ⟨d0, d1⟩ := tab_cells TV.b
  go_wp2_with fail
  refine (enc_all _ _ k _ p _ TV.t.has HA.out).mono ?_
  rintro e w3 ⟨henc, k3⟩
  have kk3 := kk2.comp k3
  have TV3 := TV.keep k3
  have HA3 := Lib.hid (HA.out.keep k3)
  clear d0 d1 HA TV kk2
  have hr := renc_all a k c p w3 HA3.out hkc
  rcases henc with ⟨hc, rfl⟩ | ⟨hc1, hc2, hc3, rfl⟩ | ⟨hc1, hc2, hc3, q, aq, cq, hq, rfl, oq⟩
  · go_wp2_with fail
    refine hr.mono ?_
    rintro e w4 ⟨henc, k4⟩
    rcases henc with ⟨_, rfl⟩ | ⟨h1, h2, _, _⟩ | ⟨h1, h2, _, _⟩
    · have TV4 := TV3.keep k4
      have kk4 := kk3.comp k4
      clear hr k4 TV3 kk3
      go_wp2_with fail
      refine (same_yes _ _ 0 _ _ p p _ (ArgU.nil _ _) (ArgU.nil _ _) (by omega) (fun _ h => by omega)).mono ?_
      rintro e w5 ⟨rfl, k5⟩
      have TV5 := TV4.keep k5
      have kk5 := kk4.comp k5
      obtain ⟨d0, d1⟩ := tab_cells TV5.b
      clear k5 TV4 kk4
      go_wp2_with fail
      refine (generator_any _ _ TV5.t.has).mono ?_
      rintro e w6 ⟨aG, rfl, rG, k6⟩
      have kk6 := kk5.comp k6
      clear d0 d1 k6 kk5
      go_wp2_with fail
      refine (rgenerator_any _).mono ?_
      rintro e w7 ⟨aH, rfl, rH, k7⟩
      have kk7 := kk6.comp k7
      have AG := Lib.hid ((rG.keep k7).arg (by omega) (genP_pol 16).lt16)
      have AH := Lib.hid (rH.arg (by omega) (genP_pol 16).lt16)
      clear rG rH k7 kk6
      go_wp2_with fail
      refine (same_yes _ _ 17 _ _ (genP 16) (genP 16) _ AG.out AH.out (by omega) (fun _ _ => rfl)).mono ?_
      rintro e w8 ⟨rfl, k8⟩
      have kk8 := kk7.comp k8
      clear k8 kk7 AG AH
      go_wp2_with fail
      go_ret
      exact ⟨rfl, kk8⟩
    · omega
    · omega
  · go_wp2_with fail
    refine hr.mono ?_
    rintro e w4 ⟨henc, k4⟩
    rcases henc with ⟨h1, _⟩ | ⟨_, _, _, rfl⟩ | ⟨_, _, h1, _⟩
    · omega
    · have TV4 := TV3.keep k4
      have kk4 := kk3.comp k4
      clear hr k4 TV3 kk3
      go_wp2_with fail
      refine (same_yes _ _ 0 _ _ p p _ (ArgU.nil _ _) (ArgU.nil _ _) (by omega) (fun _ h => by omega)).mono ?_
      rintro e w5 ⟨rfl, k5⟩
      have TV5 := TV4.keep k5
      have kk5 := kk4.comp k5
      obtain ⟨d0, d1⟩ := tab_cells TV5.b
      clear k5 TV4 kk4
      go_wp2_with fail
      refine (generator_any _ _ TV5.t.has).mono ?_
      rintro e w6 ⟨aG, rfl, rG, k6⟩
      have kk6 := kk5.comp k6
      clear d0 d1 k6 kk5
      go_wp2_with fail
      refine (rgenerator_any _).mono ?_
      rintro e w7 ⟨aH, rfl, rH, k7⟩
      have kk7 := kk6.comp k7
      have AG := Lib.hid ((rG.keep k7).arg (by omega) (genP_pol 16).lt16)
      have AH := Lib.hid (rH.arg (by omega) (genP_pol 16).lt16)
      clear rG rH k7 kk6
      go_wp2_with fail
      refine (same_yes _ _ 17 _ _ (genP 16) (genP 16) _ AG.out AH.out (by omega) (fun _ _ => rfl)).mono ?_
      rintro e w8 ⟨rfl, k8⟩
      have kk8 := kk7.comp k8
      clear k8 kk7 AG AH
      go_wp2_with fail
      go_ret
      exact ⟨rfl, kk8⟩
    · obtain ⟨i, hi, hx⟩ := hc3
      have := h1 i hi
      omega
  · go_wp2_with fail
    refine hr.mono ?_
    rintro e w4 ⟨henc, k4⟩
    rcases henc with ⟨h1, _⟩ | ⟨_, _, ⟨i, hi, hx⟩, _⟩ | ⟨_, _, _, q', av, cv, hq', rfl, ov⟩
    · omega
    · have := hc3 i hi
      omega
    · obtain ⟨n, hn⟩ : ∃ n, n = k + 16 := ⟨_, rfl⟩
      have HE := Lib.hid hq
      have HEQ := Lib.hid (show ∀ i, i < n → q i = q' i by rw [hn]; exact hq.uniq (by omega) hq')
      have HP := Lib.hid hc3
      have HQ := Lib.hid (show ∀ i, i < n → q i < 1024 by rw [hn]; exact hq.lt)
      have HW := Lib.hid (show ∀ j, j < 16 → synW q n j = 0 by rw [hn]; exact hq.word)
      have HV16 := Lib.hid (show ∀ i, i < n → q' i < 65536 by rw [hn]; intro i hi; have := hq'.lt i hi; omega)
      rw [← hn] at oq ov ⊢
      have HN := Lib.hid hn
      have hn17 : 17 ≤ n := by omega
      have hn216 : n ≤ 216 := by omega
      have AQ := Lib.hid ((oq.keep k4).arg (by omega) (fun i hi => by have := HQ.out i hi; omega))
      have AV := Lib.hid (ov.arg (by omega) HV16.out)
      have TV4 := TV3.keep k4
      have HA4 := Lib.hid (HA3.out.keep k4)
      have kk4 := kk3.comp k4
      clear hr k4 TV3 kk3 hq hq' hn oq ov hc3 HA3 k3
      go_wp2_with fail
      refine (same_yes _ _ n _ _ q q' _ AQ.out AV.out (by omega) HEQ.out).mono ?_
      rintro e w5 ⟨rfl, k5⟩
      have TV5 := TV4.keep k5
      have AQ5 := Lib.hid (AQ.out.keep k5)
      have HA5 := Lib.hid (HA4.out.keep k5)
      have kk5 := kk4.comp k5
      obtain ⟨d0, d1⟩ := tab_cells TV5.b
      clear k5 TV4 kk4 AV AQ HA4
      go_wp2_with fail
      refine (generator_any _ _ TV5.t.has).mono ?_
      rintro e w6 ⟨aG, rfl, rG, k6⟩
      have TV6 := TV5.keep k6
      have AQ6 := Lib.hid (AQ5.out.keep k6)
      have HA6 := Lib.hid (HA5.out.keep k6)
      have kk6 := kk5.comp k6
      clear d0 d1 k6 kk5 TV5 AQ5 HA5
      go_wp2_with fail
      refine (rgenerator_any _).mono ?_
      rintro e w7 ⟨aH, rfl, rH, k7⟩
      have kk7 := kk6.comp k7
      have AG := Lib.hid ((rG.keep k7).arg (by omega) (genP_pol 16).lt16)
      have AH := Lib.hid (rH.arg (by omega) (genP_pol 16).lt16)
      have TV7 := TV6.keep k7
      have AQ7 := Lib.hid (AQ6.out.keep k7)
      have HA7 := Lib.hid (HA6.out.keep k7)
      clear rG rH k7 kk6 TV6 AQ6 HA6
      go_wp2_with fail
      refine (same_yes _ _ 17 _ _ (genP 16) (genP 16) _ AG.out AH.out (by omega) (fun _ _ => rfl)).mono ?_
      rintro e w8 ⟨rfl, k8⟩
      have kk8 := kk7.comp k8
      have TV8 := TV7.keep k8
      have AQ8 := Lib.hid (AQ7.out.keep k8)
      have HA8 := Lib.hid (HA7.out.keep k8)
      obtain ⟨d0, d1⟩ := tab_cells TV8.b
      clear k8 kk7 AG AH TV7 AQ7 HA7
      go_wp2_with fail
      refine (syndromes_any _ _ _ _ _ _ TV8.t.has AQ8.out (by omega)).mono ?_
      rintro e w9 ⟨gS, rfl, _, rS, k9⟩
      rw [synW_mod HQ.out] at rS
      have kk9 := kk8.comp k9
      have TV9 := TV8.keep k9
      have AQ9 := Lib.hid (AQ8.out.keep k9)
      have HA9 := Lib.hid (HA8.out.keep k9)
      clear d0 d1 k9 kk8 TV8 AQ8 HA8
      go_wp2_with fail
      go_loopw [13] (fun v wr => ∃ j : Nat, j ≤ 16 ∧ v = .int .i64 j ∧ Keep (fun _ => False) w9 wr) (fun v _ => 16 - (intOf v).toNat)
      case atStart => exact ⟨0, by omega, rfl, Keep.refl _ _⟩
      case round =>
        obtain ⟨j, hj, rfl, kr⟩ := hrel
        by_cases hj16 : j < 16
        · have hj16' : (j : Int) < 16 := by omega
          have cS := (rS.keep kr (by simp)).val hj16
          rw [HW.out j hj16] at cS
          go_wp2_with fail
          exact ⟨⟨j + 1, by omega, by go_num, kr⟩, by simp [intOf]; omega⟩
        · obtain rfl : j = 16 := by omega
          have hj16' : ¬ ((16 : Nat) : Int) < 16 := by omega
          have TVr := TV9.keep kr
          have AQr := Lib.hid (AQ9.out.keep kr)
          have HAr := Lib.hid (HA9.out.keep kr)
          have kkr := kk9.comp kr
          obtain ⟨bA, oA, rfl, _, _⟩ := HAr.out.at_ (by omega)
          have ke := (Keep.refl (fun _ => False) wr).alloc (.cells #[] 23)
          have AAe := Lib.hid (HAr.out.keep ke)
          have hse := ke.size
          clear kr rS AQ9 HA9 kk9 TV9
          go_wp2_with (refine wpList_append_u rfl (.tmp 66) (.tmp 67) rfl wr.heap.size _ 0 0 p rfl (empty_own wr p) _ k _ p rfl AAe.out (by omega) hse ?_)
          intro ab cb w5 ob gb
          have kb := ke.grown gb (fun j hj => .inr (by simp [Value.ownBlock] at hj; omega))
          obtain ⟨gb, rfl, hgb, hcb, rb⟩ := ob.row (by omega)
          have rb0 : RowU w5 gb cb k p := rb.congr (fun i hi => by simp)
          obtain ⟨m, hm⟩ : ∃ m, m = s % k := ⟨_, rfl⟩
          have hmk : m < k := by rw [hm]; exact Nat.mod_lt _ (by omega)
          have em : ((s : Nat) : Int).tmod (k : Int) = ((m : Nat) : Int) := by
            rw [Int.tmod_eq_emod_of_nonneg (by omega), hm]
            rfl
          have f0 : ¬ (k : Int) = 0 := by omega
          have f2 : ¬ k = 0 := by omega
          have hmk' : (m : Int) < (k : Int) := by omega
          have hand := and_1023 hy
          obtain ⟨v, hv⟩ : ∃ v, v = y % 1024 := ⟨_, rfl⟩
          have hvl : v < 1024 := by omega
          rw [← hv] at hand
          have cm := rb0.val hmk
          have zm := rb0.frozen m
          have hpm := HP.out m hmk
          have hxor := xor_u16 (a := p m) (b := v) (by omega) (by omega)
          have HR := Lib.hid (rb0.store m (p m ^^^ v) (f' := updU p m (p m ^^^ v)) (fun t _ => rfl))
          have KB := Lib.hid (kb.setCell (p := ⟨gb, m, none⟩) (.inr hgb) (.int .u16 (p m ^^^ v : Nat)))
          have TVX := TVr.keep KB.out
          obtain ⟨d0, d1⟩ := tab_cells TVX.b
          clear ob rb rb0 kb ke AAe hse hv hm TVr
          go_wp2_with fail
          clear cm zm
          have HPU := Lib.hid (fun i (hi : i < k) => updU_lt (i := m) HP.out (xor_lt hpm hvl) i hi)
          have AO := Lib.hid (HR.out.argU (by omega) (fun t ht => by have := HPU.out t ht; omega))
          refine (enc_any _ _ k _ (updU p m (p m ^^^ v)) _ TVX.t.has AO.out (by omega) (by omega) HPU.out).mono ?_
          rintro e w6 ⟨⟨x, ax, cx, hx, rfl, ox⟩, k6⟩
          have HX := Lib.hid hx
          have kB6 := KB.out.comp k6
          have kk6 := kkr.comp kB6
          have AQ6 := Lib.hid (AQr.out.keep kB6)
          have AX := Lib.hid (ox.arg (by omega) (fun t ht => by have := hx.lt t ht; omega))
          rw [← HN.out] at AX ⊢
          clear d0 d1 hx ox AO HR KB kB6 k6 AQr kkr TVX HAr
          by_cases hv0 : v = 0
          · subst hv0
            go_wp2_with fail
            go_ret
            exact ⟨rfl, kk6⟩
          · have g0 : ¬ ((v : Nat) : Int) = 0 := by omega
            have g1 : (((v : Nat) : Int) == 0) = false := by simpa using g0
            have HFar := Lib.hid (show 16 < cntNe q x n by rw [HN.out]; exact enc_far (by omega) hmk hv0 HE.out HX.out)
            go_wp2_with fail
            have hd := dist_any _ _ n n cq cx q x _ AQ6.out AX.out (by omega) (by omega)
            rw [Nat.max_self, Nat.min_self, Nat.sub_self, Nat.zero_add] at hd
            refine hd.mono ?_
            rintro e w7 ⟨rfl, k7⟩
            have kk7 := kk6.comp k7
            have hf := HFar.out
            generalize cntNe q x n = d at *
            have g2 : (16 : Int) < (d : Int) := by omega
            have g3 : decide ((16 : Int) < (d : Int)) = true := by simpa using g2
            clear hd kk6 k7 hf HFar
            go_wp2_with fail
            go_ret
            exact ⟨rfl, kk7⟩
theorem encodes_of {H : Type} {enc : TypeId × Value → H} (w : World) {base : Nat} {a : Option Addr} {k c : Nat} {d : DataW H} {ps : List MemPlace} {sp : Nat → Bool} (s y : Int) (hs : (Lit.int .u8 s).wf = true) (hy : (Lit.int .u16 y).wf = true)
    (ha : DataW.Trod enc Try.prog w base sp true 22 (.slice a k c) d ps) :
    Calls Try.prog 3 #[.slice a k c, .int .u8 s, .int .u16 y] w fun e w' => e = .returned (.bool true) ∧ Keep (fun _ => False) w w' := by
  obtain ⟨p, hp, lp⟩ := argU_of ha
  obtain ⟨s, rfl, ls⟩ := byte_of hs
  obtain ⟨y, rfl, ly⟩ := word_of hy
  exact encodes_true a k c s y p w hp lp ls ly
end Go.Proofs.Ytnejnoiogojplaa
