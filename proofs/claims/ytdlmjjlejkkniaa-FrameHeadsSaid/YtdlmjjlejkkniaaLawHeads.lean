/- blackboardlaw11.FrameHeads: each head that may be is read as it was made, with whatever data. -/
import Derived.Test.YtdlmjjlejkkniaaFrSays
namespace Go.Proofs.Ytdlmjjlejkkniaa
open Go.ChangeShapes Go.WideShapes Go.ChangeAt Go.RowKit

theorem geo_14 : GeoOk 4 2 (1 : Nat) (14 : Nat) := by decide
/-- copy of bytes of which just the first ones are known to be there. -/
theorem wpList_copy_b2 {w : World} {ops : Array Oper} {rest : List Oper} {o : Oper} {a : Act} {Q : Exit → Act → World → Prop} (hgd : o.guard = none) (d s : Operand)
    (ho : o.op = .call { callee := .builtin .copy, args := #[d, s], argTypes := #[26, 26] })
    (g m : Nat) (sp : Option Addr) (n c : Nat) (hd : a.eval d = .slice (some ⟨g, 0, none⟩) m m) (hs : a.eval s = .slice sp n c) (f p : Nat → Value) (hb : Blk w g 5 (valsArr f m)) (hp : ArgV w sp (min m n) p) (h1 : ∀ i, i < n → (p i).oneCell' = true)
    (W : World) (hk : Keep (fun _ => False) W w) (hW : W.heap.size ≤ g)
    (h : ∀ w', Blk w' g 5 (valsArr (fun i => if i < n then p i else f i) m) → Keep (fun _ => False) W w' → wpList Try.prog ops Q rest (a.put o.dst (goInt ((min m n : Nat) : Int))) w') :
    wpList Try.prog ops Q (o :: rest) a w := by
  have hl : (vList p (min m n)).length = min m n := vList_len _ _
  have hc : (valsArr f m).toList.length = m := by simp [valsArr]
  refine wpList_copy_splice hgd d s 26 26 ho 5 Try.underlying26 (by kernel_rfl) (some ⟨g, 0, none⟩) sp m m n c hd hs g 0 (valsArr f m).toList 5 (by rw [Array.toArray_toList]; exact hb) (vList p (min m n)) (by rw [hl]; exact Nat.min_comm _ _) ?_ (by rw [hl, hc]; omega) ?_ W.heap.size W hk.toBelow hW ?_
  · intro h0
    rw [hl] at h0
    obtain ⟨b, off, rfl, _, hcell⟩ := hp.at_ (by omega)
    refine ⟨rfl, _, rfl, fun j v hj => ?_⟩
    rw [vList_get] at hj
    split at hj
    · rename_i hjn
      rw [addr_add, hcell j (by omega)]
      exact hj
    · cases hj
  · intro v hv
    simp only [vList, List.mem_map, List.mem_range] at hv
    obtain ⟨i, hi, rfl⟩ := hv
    exact h1 i (by omega)
  · intro w' hb' hk'
    have h1 := hb'.out
    rw [splice_v f p m (min m n) (by omega)] at h1
    rw [valsArr_congr (h := fun i => if i < n then p i else f i) (fun k hk => by
      by_cases h : k < n
      · rw [if_pos h, if_pos (by omega)]
      · rw [if_neg h, if_neg (by omega)])] at h1
    have := h w' h1 (Keep.ofBelow hk')
    rwa [hl]
/-- Bytes that came in, however many. -/
theorem argB_min {H : Type} {enc : TypeId × Value → H} {w : World} {base : Nat} {a : Option Addr} {len cap : Nat} {d : DataW H} {ps : List MemPlace} {sp : Nat → Bool}
    (h : DataW.Trod enc Try.prog w base sp true 26 (.slice a len cap) d ps) : ∃ p : Nat → Nat, (∀ m, m ≤ 1000000 → ArgV w a (min m len) (fun i => .int .u8 (p i : Nat))) ∧ ∀ i, i < len → p i < 256 := by
  obtain ⟨z, hz⟩ := argInts_of (k := .u8) Try.underlying26 Try.underlying5 (by kernel_rfl) h
  have hv : ∀ i, i < len → ∃ x : Nat, z i = x ∧ x < 256 := fun i hi => byte_nat (hz.wf i hi)
  refine ⟨fun i => (z i).toNat, fun m hm => ⟨by omega, fun h0 => ?_⟩, fun i hi => ?_⟩
  · obtain ⟨b, off, e, hb, hc⟩ := hz.at_ (by omega)
    refine ⟨b, off, e, hb, fun i hi => ?_⟩
    obtain ⟨x, ex, _⟩ := hv i (by omega)
    have e2 : ((z i).toNat : Int) = z i := by omega
    rw [hc i (by omega)]
    show _ = some (Value.int .u8 ((z i).toNat : Nat))
    rw [e2]
  · obtain ⟨x, ex, lx⟩ := hv i hi
    show (z i).toNat < 256
    omega
theorem heads_cells {w' : World} {gS k l2 s2 : Nat} {S : Nat → Nat} (h : ArgU w' (some ⟨gS, 0, none⟩) 30 S) (e0 : S 0 = k) (e2 : S 2 = l2) (e6 : S 6 = s2) (e7 : S 7 = 0) :
    w'.cell? ⟨gS, 0, none⟩ = some (.int .u16 k) ∧ w'.cell? ⟨gS, 2, none⟩ = some (.int .u16 l2) ∧ w'.cell? ⟨gS, 6, none⟩ = some (.int .u16 s2) ∧ w'.cell? ⟨gS, 7, none⟩ = some (.int .u16 0) := by
  obtain ⟨b, off, e, _, hc⟩ := h.at_ (by omega)
  cases e
  have h0 := hc 0 (by omega)
  have h2 := hc 2 (by omega)
  have h6 := hc 6 (by omega)
  have h7 := hc 7 (by omega)
  rw [e0] at h0
  rw [e2] at h2
  rw [e6] at h6
  rw [e7] at h7
  exact ⟨h0, h2, h6, h7⟩
set_option maxRecDepth 100000 in
set_option maxHeartbeats 8000000 in
theorem heads_bad (w : World) (k l s : Int) (a : Option Addr) (n c : Nat) (d : Nat → Nat) (ha : ArgV w a (min 7 n) (fun i => .int .u8 (d i : Nat))) (hb : MarkBad k l s) :
    Calls Try.prog 8 #[markV k l s, .slice a n c] w fun e w' => e = .returned (.bool true) ∧ Keep (fun _ => False) w w' := by
  have HA := Lib.hid ha
  have HF := Lib.hid (fun w V v (hT : HasT w V) => fmake_arg V 4 2 1 14 k l s v w hT (.inr hb))
  have HBD := Lib.hid hb
  clear ha hb
  have k0 := (Keep.refl (fun _ => False) w).alloc (.cells #[.int .i64 k, .int .i64 l, .int .i64 s] 25)
  have m0 := Blk.new w 25 #[.int .i64 k, .int .i64 l, .int .i64 s]
  unfold markV at HF ⊢
  go_enter Try.func8, Try.ntmps8
  go_wp2_with fail
  refine (awake11_true _).mono ?_
  rintro e w1 ⟨rfl, q1⟩
  have k1 := k0.comp q1
  have m1 := m0.keep q1 (by simp)
  clear m0 k0 q1
  have q2 := (Keep.refl (fun _ => False) w1).alloc (.cells #[.int .i64 4, .int .i64 2, .int .i64 1, .int .i64 14] 23)
  have b2 := Blk.new w1 23 #[.int .i64 4, .int .i64 2, .int .i64 1, .int .i64 14]
  have m2 := m1.keep q2 (by simp)
  have k2 := k1.comp q2
  clear k1 m1 q2
  go_upto_region 4 with (fail)
  generalize w1.alloc (.cells #[.int .i64 4, .int .i64 2, .int .i64 1, .int .i64 14] 23) = w2 at *
  generalize w1.heap.size = gG at *
  obtain ⟨g0, g1, g2, g3⟩ := geo_cells' b2
  go_wp2_with fail
  refine (rsize_any 4 2 1 14 _ geo_14).mono ?_
  rintro e w3 ⟨rfl, q3⟩
  have k3 := k2.comp q3
  have b3 := b2.keep q3 (by simp)
  have m3 := m2.keep q3 (by simp)
  clear k2 b2 m2 q3 g0 g1 g2 g3
  have hmk := make_by ((szB 1 14 : Nat) : Int) 7 (by decide) (by omega)
  have q4 := (Keep.refl (fun _ => False) w3).alloc (.cells (valsArr (fun _ => .int .u8 0) 7) 5)
  have r4 := Blk.new w3 5 (valsArr (fun _ => .int .u8 0) 7)
  have HA4 := Lib.hid (HA.out.keep (k3.comp q4))
  go_wp2_with (with_reducible refine wpList_copy_b2 rfl (.tmp 21) (.tmp 22) rfl w3.heap.size 7 _ n _ rfl rfl _ _ r4 HA4.out (fun _ _ => rfl) w3 q4 (Nat.le_refl _) ?_)
  intro w5 r5 q5
  rw [padB_vals] at r5
  have k5 := k3.comp q5
  have b5 := b3.keep q5 (by simp)
  have m5 := m3.keep q5 (by simp)
  have HB5 := Lib.hid ((RowV.of_blk r5).arg (by omega))
  clear k3 b3 m3 q4 r4 r5 q5 hmk HA4 HA
  generalize w3.heap.size = gB at *
  go_wp2_with fail
  refine (make_any _).mono ?_
  rintro e w6 ⟨t1, t2, rfl, T, _, _, q6⟩
  unfold tabV
  obtain ⟨TV, q7⟩ := TVar.new T
  have k7 := k5.comp (q6.comp q7)
  have b7 := b5.keep (q6.comp q7) (by simp)
  have m7 := m5.keep (q6.comp q7) (by simp)
  have HB7 := Lib.hid (HB5.out.keep (q6.comp q7))
  go_upto_region 7 with (fail)
  generalize w6.alloc (.cells #[.slice (some ⟨t1, 0, none⟩) 1023 1023, .slice (some ⟨t2, 0, none⟩) 1024 1024] 32) = w7 at *
  generalize w6.heap.size = gt at *
  clear k5 b5 m5 HB5 q6 q7 T
  obtain ⟨d0, d1⟩ := tab_cells TV.b
  obtain ⟨g0, g1, g2, g3⟩ := geo_cells' b7
  obtain ⟨p0, p1, p2⟩ := mark_cells m7
  go_wp2_with fail
  refine (HF.out _ _ _ TV.t.has).mono ?_
  rintro e w8 ⟨rfl, q8⟩
  have k8 := k7.comp q8
  have m8 := m7.keep q8 (by simp)
  clear k7 b7 m7 HB7 TV q8 d0 d1 g0 g1 g2 g3 p0 p1 p2 HF
  obtain ⟨p0, p1, p2⟩ := mark_cells m8
  clear m8
  cases d1 : decide (1 ≤ k) with
  | false =>
    clear HBD
    go_wp2_with fail
    go_ret
    exact ⟨rfl, k8⟩
  | true =>
    cases d2 : decide (k ≤ 1023) with
    | false =>
      clear HBD
      go_wp2_with fail
      go_ret
      exact ⟨rfl, k8⟩
    | true =>
      cases d3 : decide (0 ≤ l) with
      | false =>
        clear HBD
        go_wp2_with fail
        go_ret
        exact ⟨rfl, k8⟩
      | true =>
        cases d4 : decide (l < 1048576) with
        | false =>
          clear HBD
          go_wp2_with fail
          go_ret
          exact ⟨rfl, k8⟩
        | true =>
          cases d5 : decide (0 ≤ s) with
          | false =>
            clear HBD
            go_wp2_with fail
            go_ret
            exact ⟨rfl, k8⟩
          | true =>
            have d6 : decide (s < 1099511627776) = false := by
              have h := HBD.out
              unfold MarkBad at h
              simp only [decide_eq_true_iff] at d1 d2 d3 d4 d5
              exact decide_eq_false (by omega)
            clear HBD
            go_wp2_with fail
            go_ret
            exact ⟨rfl, k8⟩
set_option maxRecDepth 100000 in
set_option maxHeartbeats 16000000 in
theorem heads_ok (w : World) (k l s : Nat) (a : Option Addr) (n c : Nat) (d : Nat → Nat) (ha : ArgV w a (min 7 n) (fun i => .int .u8 (d i : Nat))) (hd : ∀ i, i < n → d i < 256) (hm : MarkOk k l s) :
    Calls Try.prog 8 #[markV k l s, .slice a n c] w fun e w' => e = .returned (.bool true) ∧ Keep (fun _ => False) w w' := by
  have HA := Lib.hid ha
  have HDD := Lib.hid (show ∀ i, i < 7 → padB d n i < 256 from fun i _ => padB_lt hd i)
  have HF := Lib.hid (fun w V a c (hT : HasT w V) ha => fmake_yes V 4 2 1 14 k l s a c (padB d n) w geo_14 hm hT ha (fun i hi => padB_lt hd i))
  have hD : ∀ i, pgD k l s (padB d n) (szB 1 14) i < 1024 := pgD_lt hm _ _
  have HFS := Lib.hid (fresh_says (W := 1) (K := 14) (d := padB d n) hm (fun i _ => padB_lt hd i) (by omega) (by omega) (by omega))
  obtain ⟨S, hSe⟩ : ∃ S, S = pageS 1 14 (pgD k l s (padB d n) (szB 1 14)) := ⟨_, rfl⟩
  have HSl := Lib.hid (show ∀ i, i < 30 → S i < 1024 from fun i hi => by rw [hSe]; exact pageS_lt hD (by omega) hi)
  have hS8 : ∀ i, i < 8 → S i = hdS k l s i := fun i hi => by
    rw [hSe, show pageS 1 14 (pgD k l s (padB d n) (szB 1 14)) i = wordS 1 14 (pgD k l s (padB d n) (szB 1 14)) (i % 1) (i / 1) from rfl, Nat.mod_one, Nat.div_one, (word_is hD 0).data i (by omega)]
    unfold rowD pgD
    rw [Nat.mul_one, Nat.add_zero, if_pos hi]
  have e0 : S 0 = k := hS8 0 (by omega)
  have e2 : S 2 = l % 1024 := hS8 2 (by omega)
  have e6 : S 6 = s % 1024 := hS8 6 (by omega)
  have e7 : S 7 = 0 := hS8 7 (by omega)
  have hk := hm.k1
  have hk2 := hm.k2
  have hl := hm.l
  have hs := hm.s
  have ha1 := andI_1023 (x := l) (by omega)
  have ha2 := andI_1023 (x := s) (by omega)
  rw [← hSe] at HFS
  have HFm : ∀ w V a c, HasT w V → ArgV w a 7 (fun i => .int .u8 (padB d n i : Nat)) → Calls Try.prog 17 #[V, geoV 4 2 1 14, markV k l s, .slice a 7 c] w fun e w' => ∃ a' c', e = .returned (.tuple #[.slice a' 30 c', .int .i64 0]) ∧ OwnU w' w.heap.size a' 30 c' S ∧ Keep (fun _ => False) w w' := by
    rw [hSe]
    exact HF.out
  have HFSm : ∀ w' N e, ReadR w' N (fun i => reS (S i)) (fun i => imS (S i)) 1 14 e → SaysR w' N e k l s 7 (padB d n) 0 0 := HFS.out
  clear HF HFS
  have HF := Lib.hid HFm
  have HRD := read_says (n := 30) geo_14 rfl (fun i _ => ⟨(Pu_re (S i)).pm, (Pu_im (S i)).pm⟩) HFSm
  have HRC : Hid (∀ w, Calls Try.prog 26 #[geoV 4 2 1 14] w fun e w' => e = .returned (.int .i64 30) ∧ Keep (fun _ => False) w w') := Lib.hid (fun w => rcells_any 4 2 1 14 w geo_14)
  have d1 : decide (1 ≤ (k : Int)) = true := decide_eq_true (by omega)
  have d2 : decide ((k : Int) ≤ 1023) = true := decide_eq_true (by omega)
  have d3 : decide (0 ≤ (l : Int)) = true := decide_eq_true (by omega)
  have d4 : decide ((l : Int) < 1048576) = true := decide_eq_true (by omega)
  have d5 : decide (0 ≤ (s : Int)) = true := decide_eq_true (by omega)
  have d6 : decide ((s : Int) < 1099511627776) = true := decide_eq_true (by omega)
  have HE := Lib.hid (And.intro e0 (And.intro e2 (And.intro e6 e7)))
  have HAN := Lib.hid (And.intro ha1 ha2)
  have hl4 : l % 1024 ≤ 1023 := by omega
  have hs4 : s % 1024 ≤ 1023 := by omega
  clear ha hd hSe hS8 HFm HFSm e0 e2 e6 e7 hm ha1 ha2 hD
  have k0 := (Keep.refl (fun _ => False) w).alloc (.cells #[.int .i64 k, .int .i64 l, .int .i64 s] 25)
  have m0 := Blk.new w 25 #[.int .i64 k, .int .i64 l, .int .i64 s]
  unfold markV at HF ⊢
  go_enter Try.func8, Try.ntmps8
  go_wp2_with fail
  refine (awake11_true _).mono ?_
  rintro e w1 ⟨rfl, q1⟩
  have k1 := k0.comp q1
  have m1 := m0.keep q1 (by simp)
  clear m0 k0 q1
  have q2 := (Keep.refl (fun _ => False) w1).alloc (.cells #[.int .i64 4, .int .i64 2, .int .i64 1, .int .i64 14] 23)
  have b2 := Blk.new w1 23 #[.int .i64 4, .int .i64 2, .int .i64 1, .int .i64 14]
  have m2 := m1.keep q2 (by simp)
  have k2 := k1.comp q2
  clear k1 m1 q2
  go_upto_region 4 with (fail)
  generalize w1.alloc (.cells #[.int .i64 4, .int .i64 2, .int .i64 1, .int .i64 14] 23) = w2 at *
  generalize w1.heap.size = gG at *
  obtain ⟨g0, g1, g2, g3⟩ := geo_cells' b2
  go_wp2_with fail
  refine (rsize_any 4 2 1 14 _ geo_14).mono ?_
  rintro e w3 ⟨rfl, q3⟩
  have k3 := k2.comp q3
  have b3 := b2.keep q3 (by simp)
  have m3 := m2.keep q3 (by simp)
  clear k2 b2 m2 q3 g0 g1 g2 g3
  have hmk := make_by ((szB 1 14 : Nat) : Int) 7 (by decide) (by omega)
  have q4 := (Keep.refl (fun _ => False) w3).alloc (.cells (valsArr (fun _ => .int .u8 0) 7) 5)
  have r4 := Blk.new w3 5 (valsArr (fun _ => .int .u8 0) 7)
  have HA4 := Lib.hid (HA.out.keep (k3.comp q4))
  go_wp2_with (with_reducible refine wpList_copy_b2 rfl (.tmp 21) (.tmp 22) rfl w3.heap.size 7 _ n _ rfl rfl _ _ r4 HA4.out (fun _ _ => rfl) w3 q4 (Nat.le_refl _) ?_)
  intro w5 r5 q5
  rw [padB_vals] at r5
  have k5 := k3.comp q5
  have b5 := b3.keep q5 (by simp)
  have m5 := m3.keep q5 (by simp)
  have HB5 := Lib.hid ((RowV.of_blk r5).arg (by omega))
  clear k3 b3 m3 q4 r4 r5 q5 hmk HA4 HA
  generalize w3.heap.size = gB at *
  go_wp2_with fail
  refine (make_any _).mono ?_
  rintro e w6 ⟨t1, t2, rfl, T, _, _, q6⟩
  unfold tabV
  obtain ⟨TV, q7⟩ := TVar.new T
  have k7 := k5.comp (q6.comp q7)
  have b7 := b5.keep (q6.comp q7) (by simp)
  have m7 := m5.keep (q6.comp q7) (by simp)
  have HB7 := Lib.hid (HB5.out.keep (q6.comp q7))
  go_upto_region 7 with (fail)
  generalize w6.alloc (.cells #[.slice (some ⟨t1, 0, none⟩) 1023 1023, .slice (some ⟨t2, 0, none⟩) 1024 1024] 32) = w7 at *
  generalize w6.heap.size = gt at *
  clear k5 b5 m5 HB5 q6 q7 T
  obtain ⟨d0, d1⟩ := tab_cells TV.b
  obtain ⟨g0, g1, g2, g3⟩ := geo_cells' b7
  obtain ⟨p0, p1, p2⟩ := mark_cells m7
  go_wp2_with fail
  generalize padB d n = dd at *
  refine (HF.out _ _ _ _ TV.t.has HB7.out).mono ?_
  rintro e w8 ⟨aS, cS, rfl, oS, q8⟩
  have k8 := k7.comp q8
  have b8 := b7.keep q8 (by simp)
  have m8 := m7.keep q8 (by simp)
  have TV8 := TV.keep q8
  have HB8 := Lib.hid (HB7.out.keep q8)
  obtain ⟨gS, rfl, _, _, rS⟩ := oS.row (by omega)
  have HAS8 := Lib.hid (oS.arg (by omega) (fun i hi => by have := HSl.out i hi; omega))
  clear k7 b7 m7 HB7 TV q8 d0 d1 g0 g1 g2 g3 p0 p1 p2 HF oS rS
  have d1 : decide (1 ≤ (k : Int)) = true := decide_eq_true (by omega)
  obtain ⟨p0, p1, p2⟩ := mark_cells m8
  go_upto_region 11 with (fail)
  clear p0 p1 p2 d1 d2 d3 d4 d5 d6
  obtain ⟨l2, hl2⟩ : ∃ l2, l2 = l % 1024 := ⟨_, rfl⟩
  obtain ⟨s2, hs2⟩ : ∃ s2, s2 = s % 1024 := ⟨_, rfl⟩
  rw [← hl2] at hl4 HE HAN
  rw [← hs2] at hs4 HE HAN
  clear hl2 hs2
  obtain ⟨ha1, ha2⟩ := HAN.out
  have u1 : IntKind.i64.wrap (k : Int) = (k : Int) := wraps_i64 _ (by omega) (by omega)
  have u2 : IntKind.i64.wrap (l2 : Int) = (l2 : Int) := wraps_i64 _ (by omega) (by omega)
  have u3 : IntKind.i64.wrap (s2 : Int) = (s2 : Int) := wraps_i64 _ (by omega) (by omega)
  have n1 : ((k : Int) != (k : Int)) = false := by simp
  have n2 : ((l2 : Int) != (l2 : Int)) = false := by simp
  have n3 : ((s2 : Int) != (s2 : Int)) = false := by simp
  have HSC := Lib.hid (fun (w' : World) (h : ArgU w' (some ⟨gS, 0, none⟩) 30 S) => heads_cells h HE.out.1 HE.out.2.1 HE.out.2.2.1 HE.out.2.2.2)
  have kd := (Keep.refl (fun _ => False) w8).drew
  go_region_held3 (fun w' => (w'.cell? ⟨gG, 0, none⟩ = some (.int .i64 4) ∧ w'.cell? ⟨gG, 1, none⟩ = some (.int .i64 2) ∧ w'.cell? ⟨gG, 2, none⟩ = some (.int .i64 1) ∧ w'.cell? ⟨gG, 3, none⟩ = some (.int .i64 14)) ∧ (w'.cell? ⟨w.heap.size, 0, none⟩ = some (.int .i64 k) ∧ w'.cell? ⟨w.heap.size, 1, none⟩ = some (.int .i64 l) ∧ w'.cell? ⟨w.heap.size, 2, none⟩ = some (.int .i64 s)) ∧ w'.cell? ⟨gS, 0, none⟩ = some (.int .u16 k) ∧ w'.cell? ⟨gS, 2, none⟩ = some (.int .u16 l2) ∧ w'.cell? ⟨gS, 6, none⟩ = some (.int .u16 s2) ∧ w'.cell? ⟨gS, 7, none⟩ = some (.int .u16 0))
    (first | with_reducible exact ⟨geo_cells' (b8.keep kd (by simp)), mark_cells (m8.keep kd (by simp)), HSC.out _ (HAS8.out.keep kd)⟩ | with_reducible exact ⟨geo_cells' (b8.keep K9 (by simp)), mark_cells (m8.keep K9 (by simp)), HSC.out _ (HAS8.out.keep K9)⟩)
    (first
      | (go_at_call 26
         refine (HRC.out _).mono ?_
         rintro e w9 ⟨rfl, q9⟩
         have K9 := kd.comp q9))
  have b9 := b8.keep K9 (by simp)
  have m9 := m8.keep K9 (by simp)
  have TV9 := TV8.keep K9
  have HAS := Lib.hid (HAS8.out.keep K9)
  have HB9 := Lib.hid (HB8.out.keep K9)
  have k9 := k8.comp K9
  have HPT := points_says (some ⟨gS, 0, none⟩) 30 cS S (by omega)
  have HTB := Lib.hid (fun w' (k : Keep (fun _ => False) w9 w') => (TV9.keep k).t.has)
  clear u1 u2 u3 n1 n2 n3 ha1 ha2 b8 m8 TV8 HAS8 HB8 k8 K9 q9 kd HSC HE HAN HRC
  go_upto_region 13 with (fail)
  go_cut [11, 12, 13, 14] (fun v5 v6 v7 v8 wc => ∃ (g5 : Nat) (aD : Option Addr) (cD : Nat), v5 = .pointer (some ⟨g5, 0, none⟩) ∧ v6 = .slice aD 7 cD ∧ v7 = .int .i64 0 ∧ v8 = .int .i64 0 ∧ Hid (Blk wc g5 25 #[.int .i64 k, .int .i64 l, .int .i64 s]) ∧ Hid (OwnV wc 5 w9.heap.size aD 7 cD (fun j => .int .u8 (dd j : Nat))) ∧ Keep (fun _ => False) w9 wc)
  case first =>
    have kd := (Keep.refl (fun _ => False) w9).drew
    have kz := kd.alloc (.cells #[.int .i64 0, .int .i64 0, .int .i64 0] 25)
    have bz : Blk (w9.drew.alloc (.cells #[.int .i64 0, .int .i64 0, .int .i64 0] 25)) w9.heap.size 25 #[.int .i64 0, .int .i64 0, .int .i64 0] := Blk.new w9.drew _ _
    obtain ⟨q0, q1, q2, q3⟩ := geo_cells' (b9.keep kd (by simp))
    obtain ⟨d0, d1⟩ := tabs_cells (TV9.b.keep kd (by simp))
    go_region_held3 (fun w' => (w'.cell? ⟨gt, 0, none⟩ = some (.slice (some ⟨t1, 0, none⟩) 1023 1023) ∧ w'.cell? ⟨gt, 1, none⟩ = some (.slice (some ⟨t2, 0, none⟩) 1024 1024)) ∧ w'.cell? ⟨gG, 0, none⟩ = some (.int .i64 4) ∧ w'.cell? ⟨gG, 1, none⟩ = some (.int .i64 2) ∧ w'.cell? ⟨gG, 2, none⟩ = some (.int .i64 1) ∧ w'.cell? ⟨gG, 3, none⟩ = some (.int .i64 14))
      (first | with_reducible exact ⟨⟨d0, d1⟩, q0, q1, q2, q3⟩ | with_reducible exact ⟨tabs_cells (TV9.b.keep K5 (by simp)), geo_cells' (b9.keep K5 (by simp))⟩ | with_reducible exact ⟨tabs_cells (TV9.b.keep K6 (by simp)), geo_cells' (b9.keep K6 (by simp))⟩ | exact ⟨tabs_cells (TV9.b.keep (K6.mark hg5 _ _ _) (by simp)), geo_cells' (b9.keep (K6.mark hg5 _ _ _) (by simp))⟩ | exact ⟨tabs_cells (TV9.b.keep (K6.alloc _) (by simp)), geo_cells' (b9.keep (K6.alloc _) (by simp))⟩ | exact ⟨tabs_cells (TV9.b.keep (K5.alloc _) (by simp)), geo_cells' (b9.keep (K5.alloc _) (by simp))⟩ | exact ⟨tabs_cells (TV9.b.keep kz (by simp)), geo_cells' (b9.keep kz (by simp))⟩)
      (first
        | (go_at_call 21
           refine (HPT.out _ ?hA).mono ?_
           case hA => first | exact HAS.out.keep kd | exact HAS.out.keep kz
           rintro e w5 ⟨aP, cP, rfl, oP, k5⟩
           have K5 : Keep (fun _ => False) w9 w5 := by first | exact kd.comp k5 | exact kz.comp k5
           try (have b5 := bz.keep k5 (by simp); have hg5 := Nat.le_refl w9.heap.size))
        | (go_at_call 20
           refine (HRD.out _ _ _ _ ?hT ?hA).mono ?_
           case hT => first | exact HTB.out _ K5 | exact HTB.out _ (K5.alloc _)
           case hA => first | exact oP.arg (by omega) | exact (oP.keep ((Keep.refl _ w5).alloc _)).arg (by omega)
           rintro e w6 ⟨⟨aD, cD, rfl, oD⟩, k6⟩
           have K6 : Keep (fun _ => False) w9 w6 := by first | exact K5.comp k6 | exact (K5.alloc _).comp k6
           try (have b6 := (Blk.new w5 25 #[.int .i64 0, .int .i64 0, .int .i64 0]).keep k6 (by simp); have hg5 := K5.size; have hl6 := (Blk.new w5 25 #[.int .i64 0, .int .i64 0, .int .i64 0]).lt)
           try (have b6 := b5.keep k6 (by simp); have hl6 := b5.lt)
           try (have bX := mark_put b6 (k) (l) (s); obtain ⟨⟨⟨p0, f0⟩, ⟨p1, f1⟩, p2, f2⟩, bF⟩ := bX)))
    all_goals
      go_wp2_with fail
      go_meet
      first
        | (have bG5 := bF; clear bz; exact ⟨_, aD, cD, rfl, rfl, rfl, rfl, Lib.hid bG5, Lib.hid ((((oD.far (p := ⟨_, 0, none⟩) hl6 _).far (p := ⟨_, 1, none⟩) hl6 _).far (p := ⟨_, 2, none⟩) hl6 _).more (by first | exact K5.size | exact (K5.alloc _).size)), K6.mark hg5 _ _ _⟩)
        | exact ⟨_, aD, cD, rfl, rfl, rfl, rfl, Lib.hid (Blk.new w6 _ _), Lib.hid ((oD.more K5.size).keep ((Keep.refl _ w6).alloc _)), K6.alloc _⟩
  case rest =>
  obtain ⟨g5, aD, cD, rfl, rfl, rfl, rfl, BM, OD, kc⟩ := hcut
  have m10 := m9.keep kc (by simp)
  obtain ⟨p0, p1, p2⟩ := mark_cells m10
  obtain ⟨r0, r1, r2⟩ := mark_cells BM.out
  have hstr := str_any aD 7 cD dd _ (OD.out.arg (by omega)) (by omega) HDD.out
  have hstr2 := str_any (some ⟨gB, 0, none⟩) 7 7 dd _ (HB9.out.keep kc) (by omega) HDD.out
  have kf := k9.comp kc
  clear OD BM b9 m9 TV9 HAS HB9 HPT HTB k9 m10 kc HRD
  generalize strS dd 7 = str at *
  go_wp2_with fail
  go_ret
  exact ⟨rfl, kf⟩
set_option maxRecDepth 100000 in
theorem heads_of {H : Type} {enc : TypeId × Value → H} {base b1 : Nat} {d1 d2 : DataW H} {ps1 ps2 : List MemPlace} {sp1 sp2 : Nat → Bool} (w : World) {u : Value} {a : Option Addr} {n c : Nat}
    (hu : Value.okWide Try.prog w .any b1 25 u) (hk : DataW.Trod enc Try.prog w base sp1 true 25 u d1 ps1)
    (h : DataW.Trod enc Try.prog w base sp2 true 26 (.slice a n c) d2 ps2) :
    Calls Try.prog 8 #[u, .slice a n c] w fun e w' => e = .returned (.bool true) ∧ Keep (fun _ => False) w w' := by
  obtain ⟨k, l, s, rfl⟩ := mark3_of hu hk
  obtain ⟨d, hA, hd⟩ := argB_min h
  rcases markBad_or k l s with hb | ⟨k, l, s, rfl, rfl, rfl, hm⟩
  · exact heads_bad w k l s a n c d (hA 7 (by omega)) hb
  · exact heads_ok w k l s a n c d (hA 7 (by omega)) hd hm
end Go.Proofs.Ytdlmjjlejkkniaa
