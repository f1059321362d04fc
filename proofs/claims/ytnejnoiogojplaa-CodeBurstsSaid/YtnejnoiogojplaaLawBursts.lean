/- blackboardlaw4.CodeBursts. -/
import Derived.Test.YtnejnoiogojplaaCodeAll
import Derived.Test.YtnejnoiogojplaaArgsC
namespace Go.Proofs.Ytnejnoiogojplaa
open Go.ChangeShapes Go.WideShapes Go.ChangeAt Go.RowKit

/-- The word with the first i of the burst laid, and how many of them turn something. -/
def bst (q : Nat → Nat) (n s : Nat) (b : Nat → Nat) : Nat → Nat → Nat
  | 0 => q
  | i + 1 => updU (bst q n s b i) ((s + i) % n) (bst q n s b i ((s + i) % n) ^^^ b i % 1024)
def bcn (b : Nat → Nat) : Nat → Nat
  | 0 => 0
  | i + 1 => bcn b i + if b i % 1024 = 0 then 0 else 1
theorem bst_at {q : Nat → Nat} {n s : Nat} {b : Nat → Nat} (hn : 8 ≤ n) {k : Nat} (hk : k < 8) : ∀ i, i ≤ k → bst q n s b i ((s + k) % n) = q ((s + k) % n)
  | 0, _ => rfl
  | i + 1, hi => by
    show (if (s + k) % n = (s + i) % n then _ else bst q n s b i ((s + k) % n)) = _
    rw [if_neg (fun e => ?_), bst_at hn hk i (by omega)]
    have h1 := Nat.div_add_mod (s + k) n
    have h2 := Nat.div_add_mod (s + i) n
    rw [e] at h1
    have h3 : n * ((s + k) / n) = n * ((s + i) / n) + (k - i) := by omega
    rcases Nat.lt_or_ge ((s + i) / n) ((s + k) / n) with h4 | h4
    · have h5 : n * ((s + i) / n + 1) ≤ n * ((s + k) / n) := Nat.mul_le_mul_left n h4
      rw [Nat.mul_add] at h5
      omega
    · have h5 : n * ((s + k) / n) ≤ n * ((s + i) / n) := Nat.mul_le_mul_left n h4
      omega
theorem bst_cnt {q : Nat → Nat} {n s : Nat} {b : Nat → Nat} (hn : 8 ≤ n) : ∀ i, i ≤ 8 → cntNe q (bst q n s b i) n = bcn b i
  | 0, _ => cntNe_zero.2 (fun _ _ => rfl)
  | i + 1, hi => by
    have h := bst_at (q := q) (s := s) (b := b) hn (k := i) (by omega) i (Nat.le_refl _)
    rw [bst, cntNe_upd h.symm, bst_cnt hn i (by omega), bcn, h]
    have hm := Nat.mod_lt (s + i) (show 0 < n by omega)
    congr 1
    by_cases e : b i % 1024 = 0
    · rw [if_pos e, e, Nat.xor_zero, if_neg (fun h => h.2 rfl)]
    · rw [if_neg e, if_pos ⟨hm, xor_ne e⟩]
theorem bcn_le (b : Nat → Nat) (i : Nat) : bcn b i ≤ i := by
  induction i with
  | zero => simp [bcn]
  | succ i ih => unfold bcn; split <;> omega
theorem bst_lt {q : Nat → Nat} {n s : Nat} {b : Nat → Nat} (hn : 8 ≤ n) (hq : ∀ k, k < n → q k < 1024) : ∀ i k, k < n → bst q n s b i k < 1024
  | 0, k, hk => hq k hk
  | i + 1, k, hk => by
    show (if k = (s + i) % n then _ else bst q n s b i k) < 1024
    split
    · exact xor_lt (bst_lt hn hq i _ (Nat.mod_lt _ (by omega))) (Nat.mod_lt _ (by omega))
    · exact bst_lt hn hq i k hk

set_option maxHeartbeats 4000000 in
set_option maxRecDepth 100000 in
theorem bursts_true (a : Option Addr) (k c s : Nat) (p : Nat → Nat) (b0 b1 b2 b3 b4 b5 b6 b7 : Nat) (w : World) (ha : k ≤ 1000000 → ArgU w a k p) (hs : s < 256) (hb : ∀ i, lst [b0, b1, b2, b3, b4, b5, b6, b7] i < 65536) :
    Calls Try.prog 10 #[.slice a k c, .int .u8 s, .agg #[.int .u16 b0, .int .u16 b1, .int .u16 b2, .int .u16 b3, .int .u16 b4, .int .u16 b5, .int .u16 b6, .int .u16 b7]] w fun e w' => e = .returned (.bool true) ∧ Keep (fun _ => False) w w' := by
  have HA' := Lib.hid ha
  have HB := Lib.hid hb
  clear ha hb
  obtain ⟨V, hV⟩ : ∃ V : Array Value, V = #[.int .u16 b0, .int .u16 b1, .int .u16 b2, .int .u16 b3, .int .u16 b4, .int .u16 b5, .int .u16 b6, .int .u16 b7] := ⟨_, rfl⟩
  have hVu : V = uArr (lst [b0, b1, b2, b3, b4, b5, b6, b7]) 8 := hV
  obtain ⟨W, hW⟩ : ∃ W, W = w.alloc (.cells V 53) := ⟨_, rfl⟩
  have kw : Keep (fun _ => False) w W := by rw [hW]; exact (Keep.refl _ w).alloc _
  have bB : Blk W w.heap.size 53 (uArr (lst [b0, b1, b2, b3, b4, b5, b6, b7]) 8) := by rw [hW, hVu]; exact Blk.new w _ _
  generalize lst [b0, b1, b2, b3, b4, b5, b6, b7] = b at *
  rw [hV] at hW
  clear hV hVu
  go_enter Try.func10, Try.ntmps10
  go_wp2_with fail
  rw [← hW]
  clear hW
  refine (cawake_true _).mono ?_
  rintro e w1 ⟨rfl, k1⟩
  have kk1 := kw.comp k1
  have bB1 := bB.keep k1 (by simp)
  clear bB
  by_cases h0 : k = 0
  · subst h0
    go_wp2_with fail
    go_ret
    exact ⟨rfl, kk1⟩
  have e1 : ((k : Int) == 0) = false := by simp; omega
  have e2 : ¬ (k : Int) = 0 := by omega
  by_cases h1 : 100 < k
  · have e3 : (100 : Int) < (k : Int) := by omega
    go_wp2_with fail
    go_ret
    exact ⟨rfl, kk1⟩
  have e3 : ¬ (100 : Int) < (k : Int) := by omega
  have HA := Lib.hid ((HA'.out (by omega)).keep kk1)
  clear HA'
  go_wp2_with fail
  clear e1 e2 e3
  refine (make_any _).mono ?_
  rintro e w2 ⟨g1, g2, rfl, T, _, _, k2⟩
  obtain ⟨TV, k3⟩ := TVar.new T
  have kk2 := (kk1.comp k2).comp k3
  have k23 := k2.comp k3
  have HA2 := Lib.hid (HA.out.keep k23)
  have bB2 := bB1.keep k23 (by simp)
  unfold tabV
  clear T k1 k2 k3 kk1 HA bB1 k23 kw
  go_upto_region 6 with (fail)
  generalize w2.alloc (.cells #[.slice (some ⟨g1, 0, none⟩) 1023 1023, .slice (some ⟨g2, 0, none⟩) 1024 1024] 27) = W2 at *
  generalize w2.heap.size = gt at *
  obtain ⟨d0, d1⟩ := tab_cells TV.b
  go_wp2_with fail
  refine (enc_all _ _ k _ p _ TV.t.has HA2.out).mono ?_
  rintro e w3 ⟨henc, k3⟩
  have kk3 := kk2.comp k3
  have TV3 := TV.keep k3
  have bB3 := bB2.keep k3 (by simp)
  clear d0 d1 TV bB2 k3 kk2 HA2
  rcases henc with ⟨h, _⟩ | ⟨_, _, _, rfl⟩ | ⟨_, _, _, q, aq, cq, hq, rfl, oq⟩
  · omega
  · go_wp2_with fail
    go_ret
    exact ⟨rfl, kk3⟩
  obtain ⟨n, hn⟩ : ∃ n, n = k + 16 := ⟨_, rfl⟩
  have HQ := Lib.hid hq
  have HQlt := Lib.hid (show ∀ i, i < n → q i < 1024 by rw [hn]; exact hq.lt)
  have HQw := Lib.hid (show ∀ j, j < 16 → synW q n j = 0 by rw [hn]; exact hq.word)
  rw [← hn] at oq ⊢
  have hn17 : 17 ≤ n := by omega
  have hn116 : n ≤ 116 := by omega
  have hqc := oq.le.1
  obtain ⟨gq, rfl, _, _, rq⟩ := oq.row (by omega)
  have hq16 : ∀ i, i < n → q i < 65536 := fun i hi => by have := HQlt.out i hi; omega
  have AQ := Lib.hid (rq.argU (by omega) hq16)
  have HQ16 := Lib.hid hq16
  have ke := (Keep.refl (fun _ => False) w3).alloc (.cells #[] 23)
  have AQe := Lib.hid (AQ.out.keep ke)
  have hse := ke.size
  clear hq hn oq rq hq16
  go_wp2_with (refine wpList_append_u rfl (.tmp 36) (.tmp 37) rfl w3.heap.size _ 0 0 q rfl (empty_own w3 q) _ n _ q rfl AQe.out (by omega) hse ?_)
  intro ab cb w4 ob gb
  have kb := ke.grown gb (fun j hj => .inr (by simp [Value.ownBlock] at hj; omega))
  obtain ⟨gb, rfl, hgb, hcb, rb⟩ := ob.row (by omega)
  have rb0 : RowU w4 gb cb n (bst q n s b 0) := rb.congr (fun i hi => by simp [bst])
  clear ob rb ke AQe hse
  go_wp2_with fail
  go_loopw [11, 12] (fun v11 v12 wr => ∃ i : Nat, i ≤ 8 ∧ v12 = .int .i64 i ∧ v11 = .int .i64 (bcn b i : Nat) ∧ Hid (RowU wr gb cb n (bst q n s b i)) ∧ Keep (fun _ => False) w3 wr) (fun _ v12 _ => 8 - (intOf v12).toNat)
  case atStart => exact ⟨0, by omega, rfl, rfl, Lib.hid rb0, kb⟩
  case round =>
    clear rb0 kb
    obtain ⟨i, hi, rfl, rfl, HR, kk⟩ := hrel
    by_cases hi8 : i < 8
    · have hi8' : (i : Int) < 8 := by omega
      obtain ⟨m, hm⟩ : ∃ m, m = (s + i) % n := ⟨_, rfl⟩
      have hmn : m < n := by rw [hm]; exact Nat.mod_lt _ (by omega)
      have e4 : ((s : Int) + (i : Int)).tmod (n : Int) = ((m : Nat) : Int) := by
        rw [Int.tmod_eq_emod_of_nonneg (by omega), hm]
        rfl
      have f0 : ¬ (n : Int) = 0 := by omega
      have f1 : ¬ (n : Int) = -1 := by omega
      have hmn' : (m : Int) < (n : Int) := by omega
      have dB := (bB3.keep kk (by simp)).val hi8
      have hblt := HB.out i
      have hand := and_1023 hblt
      have cR := HR.out.val hmn
      have zR := HR.out.frozen m
      have hRl := bst_lt (s := s) (b := b) (by omega) HQlt.out i m hmn
      obtain ⟨y, hy⟩ : ∃ y, y = b i % 1024 := ⟨_, rfl⟩
      have hyl : y < 1024 := by omega
      rw [← hy] at hand
      obtain ⟨r, hr⟩ : ∃ r, r = bst q n s b i m := ⟨_, rfl⟩
      rw [← hr] at cR hRl
      have hxor := xor_u16 (a := r) (b := y) (by omega) (by omega)
      have HN := Lib.hid (show bst q n s b (i + 1) = updU (bst q n s b i) m (r ^^^ y) by rw [bst, ← hm, ← hr, ← hy])
      have hbl := bcn_le b i
      have HC := Lib.hid (show bcn b (i + 1) = bcn b i + if y = 0 then 0 else 1 by rw [bcn, ← hy])
      have hlR := HR.out.lt
      have hlB := (bB3.keep kk (by simp)).lt
      have q0 : ∀ z : KeptBy wr, z.v.cell? ⟨gb, m, none⟩ = some (.int .u16 (r : Nat)) := fun z => z.cell hlR cR
      have q1 : ∀ z : KeptBy wr, z.v.cell? ⟨w.heap.size, i, none⟩ = some (.int .u16 (b i : Nat)) := fun z => z.cell hlB dB
      clear hm hy hr
      by_cases hy0 : y = 0
      · have HC1 := Lib.hid (show bcn b (i + 1) = bcn b i by rw [HC.out, if_pos hy0, Nat.add_zero])
        have g0 : (((y : Nat) : Int) != 0) = false := by simpa using hy0
        have g1 : ((y : Nat) : Int) = 0 := by omega
        have hr0 : r ^^^ y = r := by rw [hy0, Nat.xor_zero]
        have hx0 : bits .xor .u16 (r : Int) 0 = (r : Int) := by
          have h := hxor
          rw [hr0, hy0] at h
          exact h
        go_upto_region 17 with fail
        refine wp_region_kept_tail 10 (by kernel_rfl) (by kernel_rfl) ?_
        simp only [List.take_succ_cons, List.take_zero, List.drop_succ_cons, List.drop_zero]
        repeat (quiet_step (fail))
        refine wpQuiet_nil ?_
        rintro w5 ⟨⟨_, k5⟩, rfl⟩
        clear q0 q1
        have R5 := HR.out.keep k5 (by simp)
        have c5 := R5.val hmn
        have z5 := R5.frozen m
        have K5 := Lib.hid ((kk.comp k5).setCell (p := ⟨gb, m, none⟩) (.inr hgb) (.int .u16 (r : Nat)))
        have R6 := Lib.hid (R5.store m r (f' := bst q n s b (i + 1)) (fun t _ => by rw [HN.out, hr0]; rfl))
        clear R5 cR zR
        go_wp2_with fail
        exact ⟨⟨i + 1, by omega, by go_num, by rw [HC1.out], R6, K5.out⟩, by simp [intOf]; omega⟩
      · have HC1 := Lib.hid (show bcn b (i + 1) = bcn b i + 1 by rw [HC.out, if_neg hy0])
        have g0 : (((y : Nat) : Int) != 0) = true := by simpa using hy0
        have g1 : ¬ ((y : Nat) : Int) = 0 := by omega
        go_upto_region 17 with fail
        refine wp_region_kept_tail 10 (by kernel_rfl) (by kernel_rfl) ?_
        simp only [List.take_succ_cons, List.take_zero, List.drop_succ_cons, List.drop_zero]
        repeat (quiet_step (fail))
        refine wpQuiet_nil ?_
        rintro w5 ⟨⟨_, k5⟩, rfl⟩
        clear q0 q1
        have R5 := HR.out.keep k5 (by simp)
        have c5 := R5.val hmn
        have z5 := R5.frozen m
        have K5 := Lib.hid ((kk.comp k5).setCell (p := ⟨gb, m, none⟩) (.inr hgb) (.int .u16 (r ^^^ y : Nat)))
        have R6 := Lib.hid (R5.store m (r ^^^ y) (f' := bst q n s b (i + 1)) (fun t _ => by rw [HN.out]; rfl))
        clear R5 cR zR
        go_wp2_with fail
        exact ⟨⟨i + 1, by omega, by go_num, by rw [HC1.out]; go_num, R6, K5.out⟩, by simp [intOf]; omega⟩
    · obtain rfl : i = 8 := by omega
      have hi8' : ¬ ((8 : Nat) : Int) < 8 := by omega
      have hbl := bcn_le b 8
      have HNear := Lib.hid (show Near (bst q n s b 8) n q (bcn b 8) from ⟨HQlt.out, HQw.out, bst_cnt (by omega) 8 (Nat.le_refl _), by omega⟩)
      have hblt := bst_lt (s := s) (b := b) (by omega) HQlt.out 8
      have AB := Lib.hid (HR.out.argU (by omega) (fun i hi => by have := hblt i hi; omega))
      have HBL := Lib.hid hblt
      have TV4 := TV3.keep kk
      have AQ4 := Lib.hid (AQ.out.keep kk)
      have kk4 := kk3.comp kk
      obtain ⟨d0, d1⟩ := tab_cells TV4.b
      clear HR kk kk3 TV3 bB3 AQ hblt
      generalize bcn b 8 = m at *
      generalize bst q n s b 8 = r at *
      go_wp2_with fail
      refine (dec_any _ _ _ _ r _ TV4.t.has AB.out (by omega) (by omega) HBL.out).mono ?_
      rintro e w5 ⟨hdec, k5⟩
      obtain ⟨af, cf, rfl, of⟩ := hdec.near HNear.out (by omega)
      have AF := Lib.hid (of.arg (by omega) HQ16.out)
      have AQ5 := Lib.hid (AQ4.out.keep k5)
      have kk5 := kk4.comp k5
      clear hdec of d0 d1 AQ4 kk4 TV4 AB k5
      go_wp2_with fail
      refine (same_yes _ _ n _ _ q q _ AF.out AQ5.out (by omega) (fun _ _ => rfl)).mono ?_
      rintro e w6 ⟨rfl, k6⟩
      have kk6 := kk5.comp k6
      clear kk5 k6
      go_wp2_with fail
      go_ret
      exact ⟨rfl, kk6⟩
theorem lst8_lt {n0 n1 n2 n3 n4 n5 n6 n7 : Nat} (h : n0 < 65536 ∧ n1 < 65536 ∧ n2 < 65536 ∧ n3 < 65536 ∧ n4 < 65536 ∧ n5 < 65536 ∧ n6 < 65536 ∧ n7 < 65536) (i : Nat) : lst [n0, n1, n2, n3, n4, n5, n6, n7] i < 65536 :=
  lst_small _ (by
    intro x hx
    simp only [List.mem_cons, List.not_mem_nil, or_false] at hx
    rcases hx with rfl | rfl | rfl | rfl | rfl | rfl | rfl | rfl <;> omega) i
theorem bursts_of {H : Type} {enc : TypeId × Value → H} (w : World) {base b0 b1 : Nat} {a : Option Addr} {k c : Nat} {v : Value} {d d' : DataW H} {ps ps' : List MemPlace} {sp sp' : Nat → Bool} (s : Int) (hs : (Lit.int .u8 s).wf = true)
    (ha : DataW.Trod enc Try.prog w base sp true 22 (.slice a k c) d ps) (hv : Value.okWide Try.prog w .any b0 53 v) (hb : DataW.Trod enc Try.prog w b1 sp' true 53 v d' ps') :
    Calls Try.prog 10 #[.slice a k c, .int .u8 s, v] w fun e w' => e = .returned (.bool true) ∧ Keep (fun _ => False) w w' := by
  obtain ⟨p, hp, _⟩ := argU_of ha
  obtain ⟨s, rfl, ls⟩ := byte_of hs
  obtain ⟨n0, n1, n2, n3, n4, n5, n6, n7, hl, rfl⟩ := words8_of hv hb
  exact bursts_true a k c s p n0 n1 n2 n3 n4 n5 n6 n7 w hp ls (lst8_lt hl)
end Go.Proofs.Ytnejnoiogojplaa
