/- blackboardlaw4.CodeMends. -/
import Derived.Test.YtnejnoiogojplaaTurns
namespace Go.Proofs.Ytnejnoiogojplaa
open Go.ChangeShapes Go.WideShapes Go.ChangeAt Go.RowKit

set_option maxHeartbeats 8000000 in
set_option maxRecDepth 100000 in
theorem mends_true (a at' : Option Addr) (k c m cm : Nat) (p x y : Nat → Nat) (w : World) (ha : k ≤ 1000000 → ArgU w a k p) (ht : ArgT w at' m x y) :
    Calls Try.prog 5 #[.slice a k c, .slice at' m cm] w fun e w' => e = .returned (.bool true) ∧ Keep (fun _ => False) w w' := by
  have HA' := Lib.hid ha
  have HT' := Lib.hid ht
  clear ha ht
  go_enter Try.func5, Try.ntmps5
  go_wp2_with fail
  refine (cawake_true _).mono ?_
  rintro e w1 ⟨rfl, kk1⟩
  by_cases h0 : 150 < k
  · have e1 : decide ((150 : Int) < (k : Int)) = true := by simp; omega
    have e2 : (150 : Int) < (k : Int) := by omega
    go_wp2_with fail
    go_ret
    exact ⟨rfl, kk1⟩
  have e1 : decide ((150 : Int) < (k : Int)) = false := by simp; omega
  have e2 : ¬ (150 : Int) < (k : Int) := by omega
  by_cases h1 : 60 < m
  · have e3 : (60 : Int) < (m : Int) := by omega
    go_wp2_with fail
    go_ret
    exact ⟨rfl, kk1⟩
  have e3 : ¬ (60 : Int) < (m : Int) := by omega
  go_wp2_with fail
  clear e1 e2 e3
  refine (make_any _).mono ?_
  rintro e w2 ⟨g1, g2, rfl, T, _, _, k2⟩
  obtain ⟨TV, k3⟩ := TVar.new T
  have kk2 := (kk1.comp k2).comp k3
  unfold tabV
  clear T k2 k3
  go_upto_region 6 with (fail)
  generalize w2.alloc (.cells #[.slice (some ⟨g1, 0, none⟩) 1023 1023, .slice (some ⟨g2, 0, none⟩) 1024 1024] 27) = W2 at *
  generalize w2.heap.size = gt at *
  have HA := Lib.hid ((HA'.out (by omega)).keep kk2)
  have HT := Lib.hid (HT'.out.keep kk2)
  clear HA' HT' kk1
  obtain ⟨d0, d1⟩ := tab_cells TV.b
  go_wp2_with fail
  refine (enc_all _ _ k _ p _ TV.t.has HA.out).mono ?_
  rintro e w3 ⟨henc, k3⟩
  have kk3 := kk2.comp k3
  have TV3 := TV.keep k3
  have HT3 := Lib.hid (HT.out.keep k3)
  clear d0 d1 HA HT
  rcases henc with ⟨_, rfl⟩ | ⟨_, _, _, rfl⟩ | ⟨_, _, _, q, aq, cq, hq, rfl, oq⟩
  · go_wp2_with fail
    go_ret
    exact ⟨rfl, kk3⟩
  · go_wp2_with fail
    go_ret
    exact ⟨rfl, kk3⟩
  obtain ⟨n, hn⟩ : ∃ n, n = k + 16 := ⟨_, rfl⟩
  have HQlt := Lib.hid (show ∀ i, i < n → q i < 1024 by rw [hn]; exact hq.lt)
  have HQw := Lib.hid (show ∀ j, j < 16 → synW q n j = 0 by rw [hn]; exact hq.word)
  rw [← hn] at oq ⊢
  have hn17 : 17 ≤ n := by omega
  have hn166 : n ≤ 166 := by omega
  have hqc := oq.le.1
  obtain ⟨gq, rfl, hgq, hcq, rq⟩ := oq.row (by omega)
  have HQ16 := Lib.hid (fun i (hi : i < n) => show q i < 65536 by have := HQlt.out i hi; omega)
  have AQ := Lib.hid (rq.argU (by omega) HQ16.out)
  have ke := (Keep.refl (fun _ => False) w3).alloc (.cells #[] 23)
  have AQe := Lib.hid (AQ.out.keep ke)
  have hse := ke.size
  clear hq hn oq rq k3 TV kk2
  go_wp2_with (refine wpList_append_u rfl (.tmp 35) (.tmp 36) rfl w3.heap.size _ 0 0 q rfl (empty_own w3 q) _ n _ q rfl AQe.out (by omega) hse ?_)
  intro ab cb w4 ob gb
  have kb := ke.grown gb (fun j hj => .inr (by simp [Value.ownBlock] at hj; omega))
  obtain ⟨gb, rfl, hgb, hcb, rb⟩ := ob.row (by omega)
  have rb0 : RowU w4 gb cb n (trn q n x y 0) := rb.congr (fun i hi => by simp [trn])
  clear ob rb ke AQe hse
  go_wp2_with fail
  go_loopw [9] (fun v wr => ∃ i : Nat, i ≤ m ∧ v = .int .i64 i ∧ Hid (RowU wr gb cb n (trn q n x y i)) ∧ Keep (fun _ => False) w3 wr) (fun v _ => m - (intOf v).toNat)
  case atStart => exact ⟨0, by omega, rfl, Lib.hid rb0, kb⟩
  case round =>
    clear rb0 kb
    obtain ⟨i, hi, rfl, HR, kk⟩ := hrel
    by_cases him : i < m
    · have him' : (i : Int) < (m : Int) := by omega
      obtain ⟨bT, oT, rfl, hbT, hcT⟩ := HT3.out.at_ (by omega)
      obtain ⟨t0, t1⟩ := hcT i him
      have e0 := (kk.cell (p := ⟨bT, oT + i * 2, none⟩) hbT (by simp)).trans t0
      have e1 := (kk.cell (p := ⟨bT, oT + i * 2 + 1, none⟩) hbT (by simp)).trans t1
      obtain ⟨lx, ly⟩ := HT3.out.lt i him
      have hbT2 : bT < wr.heap.size := Nat.lt_of_lt_of_le hbT kk.size
      clear t0 t1 hcT hbT
      obtain ⟨k', hk'⟩ : ∃ k', k' = x i % n := ⟨_, rfl⟩
      have hkn : k' < n := by rw [hk']; exact Nat.mod_lt _ (by omega)
      have e4 : ((x i : Nat) : Int).tmod (n : Int) = ((k' : Nat) : Int) := by
        rw [Int.tmod_eq_emod_of_nonneg (by omega), hk']
        rfl
      have f0 : ¬ (n : Int) = 0 := by omega
      have f1 : ¬ (n : Int) = -1 := by omega
      have hkn' : (k' : Int) < (n : Int) := by omega
      have hand := and_1023 ly
      have cR := HR.out.val hkn
      have zR := HR.out.frozen k'
      have hRl := trn_lt (x := x) (y := y) (by omega) HQlt.out i k' hkn
      obtain ⟨z, hz⟩ : ∃ z, z = y i % 1024 := ⟨_, rfl⟩
      have hzl : z < 1024 := by omega
      rw [← hz] at hand
      obtain ⟨r, hr⟩ : ∃ r, r = trn q n x y i k' := ⟨_, rfl⟩
      rw [← hr] at cR hRl
      have hxor := xor_u16 (a := r) (b := z) (by omega) (by omega)
      have HN := Lib.hid (show trn q n x y (i + 1) = updU (trn q n x y i) k' (r ^^^ z) by rw [trn, ← hk', ← hr, ← hz])
      have hlR := HR.out.lt
      generalize hxi : x i = X at *
      generalize hyi : y i = Y at *
      clear hk' hz hr hxi hyi
      have q0 : ∀ v : KeptBy wr, v.v.cell? ⟨gb, k', none⟩ = some (.int .u16 (r : Nat)) := fun v => v.cell hlR cR
      have q1 : ∀ v : KeptBy wr, v.v.cell? ⟨bT, oT + i * 2, none⟩ = some (.int .u16 (X : Nat)) := fun v => v.cell hbT2 e0
      have q2 : ∀ v : KeptBy wr, v.v.cell? ⟨bT, oT + i * 2 + 1, none⟩ = some (.int .u16 (Y : Nat)) := fun v => v.cell hbT2 e1
      have w0 : IntKind.i64.wrap (X : Int) = (X : Int) := wraps_i64 _ (by omega) (by omega)
      have w1' : IntKind.i64.wrap (k' : Int) = (k' : Int) := wraps_i64 _ (by omega) (by omega)
      have f2 : ¬ n = 0 := by omega
      have pa0 := pair_at0
      have pa1 := pair_at1
      go_upto_region 13 with fail
      refine wp_region_kept_tail 20 (by kernel_rfl) (by kernel_rfl) ?_
      simp only [List.take_succ_cons, List.take_zero, List.drop_succ_cons, List.drop_zero]
      repeat (quiet_step (fail))
      refine wpQuiet_nil ?_
      rintro w5 ⟨⟨_, k5⟩, rfl⟩
      clear q0 q1 q2 pa0 pa1 w0 w1'
      have R5 := HR.out.keep k5 (by simp)
      have c5 := R5.val hkn
      have z5 := R5.frozen k'
      have K5 := Lib.hid ((kk.comp k5).setCell (p := ⟨gb, k', none⟩) (.inr hgb) (.int .u16 (r ^^^ z : Nat)))
      have R6 := Lib.hid (R5.store k' (r ^^^ z) (f' := trn q n x y (i + 1)) (fun t _ => by rw [HN.out]; rfl))
      clear R5 cR zR e0 e1
      go_wp2_with fail
      exact ⟨⟨i + 1, by omega, by go_num, R6, K5.out⟩, by simp [intOf]; omega⟩
    · obtain rfl : i = m := by omega
      have him' : ¬ (i : Int) < (i : Int) := by omega
      have HRL := Lib.hid (trn_lt (x := x) (y := y) (by omega) HQlt.out i)
      have AB := Lib.hid (HR.out.argU (by omega) (fun t ht => by have := HRL.out t ht; omega))
      have TV4 := TV3.keep kk
      have AQ4 := Lib.hid (AQ.out.keep kk)
      have kk4 := kk3.comp kk
      obtain ⟨d0, d1⟩ := tab_cells TV4.b
      clear HR kk kk3 TV3 AQ HT3
      generalize trn q n x y i = r at *
      go_wp2_with fail
      refine (dec_any _ _ _ _ r _ TV4.t.has AB.out (by omega) (by omega) HRL.out).mono ?_
      rintro e w5 ⟨hdec, k5⟩
      have AQ5 := Lib.hid (AQ4.out.keep k5)
      have AB5 := Lib.hid (AB.out.keep k5)
      have TV5 := TV4.keep k5
      have kk5 := kk4.comp k5
      clear d0 d1 AQ4 AB TV4 kk4
      by_cases hd8 : cntNe q r n ≤ 8
      · have HNear := Lib.hid (show Near r n q (cntNe q r n) from ⟨HQlt.out, HQw.out, rfl, hd8⟩)
        obtain ⟨af, cf, rfl, of⟩ := hdec.near HNear.out (by omega)
        have AF := Lib.hid (of.arg (by omega) HQ16.out)
        clear hdec of
        go_wp2_with fail
        have hd := dist_any _ _ n n cq cb q r _ AQ5.out AB5.out (by omega) (by omega)
        rw [Nat.max_self, Nat.min_self, Nat.sub_self, Nat.zero_add] at hd
        refine hd.mono ?_
        rintro e w6 ⟨rfl, k6⟩
        have AQ6 := Lib.hid (AQ5.out.keep k6)
        have AF6 := Lib.hid (AF.out.keep k6)
        have kk6 := kk5.comp k6
        generalize cntNe q r n = d at *
        have e1 : (d : Int) ≤ 8 := by omega
        clear hd AQ5 AF AB5 kk5 k6
        go_wp2_with fail
        refine (same_yes _ _ n _ _ q q _ AF6.out AQ6.out (by omega) (fun _ _ => rfl)).mono ?_
        rintro e w7 ⟨rfl, k7⟩
        have kk7 := kk6.comp k7
        clear kk6 k7
        go_wp2_with fail
        go_ret
        exact ⟨rfl, kk7⟩
      · rcases hdec with ⟨q', d', af, cf, hnr, rfl, of⟩ | ⟨_, rfl⟩
        · have HNR := Lib.hid hnr
          have hd8' := hnr.le
          have hf16 : ∀ t, t < n → q' t < 65536 := fun t ht => by have := hnr.lt t ht; omega
          have AF := Lib.hid (of.arg (by omega) hf16)
          have hfc := of.le.1
          clear of hnr hf16
          go_wp2_with fail
          have hd := dist_any _ _ n n cq cb q r _ AQ5.out AB5.out (by omega) (by omega)
          rw [Nat.max_self, Nat.min_self, Nat.sub_self, Nat.zero_add] at hd
          refine hd.mono ?_
          rintro e w6 ⟨rfl, k6⟩
          have AB6 := Lib.hid (AB5.out.keep k6)
          have AF6 := Lib.hid (AF.out.keep k6)
          have TV6 := TV5.keep k6
          have kk6 := kk5.comp k6
          obtain ⟨d0, d1⟩ := tab_cells TV6.b
          generalize cntNe q r n = d at *
          have e1 : ¬ (d : Int) ≤ 8 := by omega
          clear hd AQ5 AF AB5 TV5 kk5 k6
          go_wp2_with fail
          refine (syndromes_any _ _ _ _ _ _ TV6.t.has AF6.out (by omega)).mono ?_
          rintro e w7 ⟨gS, rfl, _, rS, k7⟩
          rw [synW_mod HNR.out.lt] at rS
          have AB7 := Lib.hid (AB6.out.keep k7)
          have AF7 := Lib.hid (AF6.out.keep k7)
          have kk7 := kk6.comp k7
          clear d0 d1 AB6 AF6 TV6 kk6 k7
          go_wp2_with fail
          go_loopw [15] (fun v wr => ∃ j : Nat, j ≤ 16 ∧ v = .int .i64 j ∧ Keep (fun _ => False) w7 wr) (fun v _ => 16 - (intOf v).toNat)
          case atStart => exact ⟨0, by omega, rfl, Keep.refl _ _⟩
          case round =>
            obtain ⟨j, hj, rfl, kr⟩ := hrel
            by_cases hj16 : j < 16
            · have hj16' : (j : Int) < 16 := by omega
              have cS := (rS.keep kr (by simp)).val hj16
              rw [HNR.out.word j hj16] at cS
              go_wp2_with fail
              exact ⟨⟨j + 1, by omega, by go_num, kr⟩, by simp [intOf]; omega⟩
            · obtain rfl : j = 16 := by omega
              have hj16' : ¬ ((16 : Nat) : Int) < 16 := by omega
              have AB8 := Lib.hid (AB7.out.keep kr)
              have AF8 := Lib.hid (AF7.out.keep kr)
              have kk8 := kk7.comp kr
              clear kr rS AB7 AF7 kk7
              go_wp2_with fail
              have hd := dist_any _ _ n n cf cb q' r _ AF8.out AB8.out (by omega) (by omega)
              rw [Nat.max_self, Nat.min_self, Nat.sub_self, Nat.zero_add, HNR.out.dist] at hd
              refine hd.mono ?_
              rintro e w9 ⟨rfl, k9⟩
              have kk9 := kk8.comp k9
              have e2 : (d' : Int) ≤ 8 := by omega
              have e3 : decide ((d' : Int) ≤ 8) = true := by simpa using e2
              clear hd kk8 k9
              go_wp2_with fail
              go_ret
              exact ⟨rfl, kk9⟩
        · go_wp2_with fail
          have hd := dist_any _ _ n n cq cb q r _ AQ5.out AB5.out (by omega) (by omega)
          rw [Nat.max_self, Nat.min_self, Nat.sub_self, Nat.zero_add] at hd
          refine hd.mono ?_
          rintro e w6 ⟨rfl, k6⟩
          have kk6 := kk5.comp k6
          generalize cntNe q r n = d at *
          have e1 : ¬ (d : Int) ≤ 8 := by omega
          clear hd kk5 k6
          go_wp2_with fail
          go_ret
          exact ⟨rfl, kk6⟩
theorem mends_of {H : Type} {enc : TypeId × Value → H} (w : World) {base b0 : Nat} {a b : Option Addr} {k c m cm : Nat} {d d' : DataW H} {ps ps' : List MemPlace} {sp sp' : Nat → Bool}
    (ha : DataW.Trod enc Try.prog w base sp true 22 (.slice a k c) d ps) (hb : DataW.Trod enc Try.prog w b0 sp' true 46 (.slice b m cm) d' ps') :
    Calls Try.prog 5 #[.slice a k c, .slice b m cm] w fun e w' => e = .returned (.bool true) ∧ Keep (fun _ => False) w w' := by
  obtain ⟨p, hp, _⟩ := argU_of ha
  obtain ⟨x, y, ht⟩ := argT_of hb
  exact mends_true a b k c m cm p x y w hp ht
end Go.Proofs.Ytnejnoiogojplaa

