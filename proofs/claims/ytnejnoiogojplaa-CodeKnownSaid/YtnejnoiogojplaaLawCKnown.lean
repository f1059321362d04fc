/- blackboardlaw4.CodeKnown. -/
import Derived.Test.YtnejnoiogojplaaNine
import Derived.Test.YtnejnoiogojplaaRows4
namespace Go.Proofs.Ytnejnoiogojplaa
open Go.RowKit

theorem eightK_next (i t : Nat) : eightK (i + 1) t = if t = 5 * i then i + 1 else eightK i t := by
  unfold eightK
  by_cases h : t = 5 * i
  · subst h
    rw [if_pos (by omega), if_pos rfl]
    omega
  · rw [if_neg h]
    by_cases h2 : t % 5 = 0 ∧ t / 5 < i
    · rw [if_pos h2, if_pos (by omega)]
    · rw [if_neg h2, if_neg (by omega)]
theorem eightK_lt (i t : Nat) (hi : i ≤ 8) : eightK i t < 1024 := by
  unfold eightK
  split <;> omega
def tail5 : Nat → Nat := fun t => if t < 20 then 0 else 5000
theorem zeros_arg (w : World) (n : Nat) (hn : n ≤ 1000000) : ArgU (w.alloc (.cells (uArr (fun _ => 0) n) 23)) (some ⟨w.heap.size, 0, none⟩) n (fun _ => 0) :=
  (Blk.new w _ _).argU (by omega) (fun _ _ => by omega)

set_option maxHeartbeats 8000000 in
set_option maxRecDepth 100000 in
theorem cknown_true (w : World) :
    Calls Try.prog 6 #[] w fun e w' => e = .returned (.bool true) ∧ Keep (fun _ => False) w w' := by
  have mk1008 := make_u 1008 1008 rfl (by omega)
  have mk16 := make_u 16 16 rfl (by omega)
  have mk1024 := make_u 1024 1024 rfl (by omega)
  have mk20 := make_u 20 20 rfl (by omega)
  have mk40 := make_u 40 40 rfl (by omega)
  go_enter Try.func6, Try.ntmps6
  go_wp2_with fail
  refine (cawake_true _).mono ?_
  rintro e w1 ⟨rfl, kk1⟩
  go_wp2_with fail
  refine (make_any _).mono ?_
  rintro e w2 ⟨g1, g2, rfl, T, _, _, k2⟩
  obtain ⟨TV, k3⟩ := TVar.new T
  have kk2 := (kk1.comp k2).comp k3
  unfold tabV
  clear T k2 k3 kk1
  go_upto_region 4 with (fail)
  generalize w2.alloc (.cells #[.slice (some ⟨g1, 0, none⟩) 1023 1023, .slice (some ⟨g2, 0, none⟩) 1024 1024] 27) = W2 at *
  generalize w2.heap.size = gt at *
  obtain ⟨d0, d1⟩ := tab_cells TV.b
  go_wp2_with fail
  refine (enc_size _ _ 0 _ _ TV.t.has (.inl rfl)).mono ?_
  rintro e w3 ⟨rfl, k3⟩
  have TV3 := TV.keep k3
  have kk3 := kk2.comp k3
  clear d0 d1 TV kk2 k3
  have kd := (Keep.refl (fun _ => False) w3).drew
  have ka := kd.alloc (.cells (uArr (fun _ => 0) 1008) 23)
  have TVd := TV3.keep kd
  have TVa := TV3.keep ka
  obtain ⟨d0, d1⟩ := tab_cells TVd.b
  obtain ⟨a0, a1⟩ := tab_cells TVa.b
  go_wp2_with fail
  go_region_held3 (fun w' => w'.cell? ⟨gt, 0, none⟩ = some (.slice (some ⟨g1, 0, none⟩) 1023 1023) ∧ w'.cell? ⟨gt, 1, none⟩ = some (.slice (some ⟨g2, 0, none⟩) 1024 1024))
    (first | exact ⟨d0, d1⟩ | exact ⟨a0, a1⟩ | exact ⟨f0, f1⟩)
    (first | (go_at_call 13; refine (enc_size _ _ 1008 _ _ TVa.t.has (.inr (by omega))).mono ?_; rintro e w4 ⟨rfl, k4⟩; have TV4 := TVa.keep k4; obtain ⟨f0, f1⟩ := tab_cells TV4.b))
  have kk4 := (kk3.comp ka).comp k4
  clear d0 d1 a0 a1 f0 f1 TVd TVa TV3 kd ka kk3 k4
  have A := Laid.new w4 #[.int .u16 1024] (lst [1024]) 1 (uArr_one 1024) (by omega) (fun j _ => lst_small [1024] (by simp) j)
  have TVa := TV4.keep A.k
  have AA := Lib.hid (A.a _ rfl)
  obtain ⟨d0, d1⟩ := tab_cells TV4.b
  have kka := kk4.comp A.k
  go_wp2_with fail
  refine (enc_arg _ _ 1 _ (lst [1024]) _ TVa.t.has AA.out (by omega) (by omega) ⟨0, by omega, by decide⟩).mono ?_
  rintro e w5 ⟨rfl, k5⟩
  have TV5 := TVa.keep k5
  have kk5 := kka.comp k5
  clear d0 d1 TV4 TVa AA A kka kk4 k5
  have kd := (Keep.refl (fun _ => False) w5).drew
  have ka := kd.alloc (.cells (uArr (fun _ => 0) 16) 23)
  have TVd := TV5.keep kd
  have TVa := TV5.keep ka
  obtain ⟨d0, d1⟩ := tab_cells TVd.b
  obtain ⟨a0, a1⟩ := tab_cells TVa.b
  go_wp2_with fail
  go_region_held3 (fun w' => w'.cell? ⟨gt, 0, none⟩ = some (.slice (some ⟨g1, 0, none⟩) 1023 1023) ∧ w'.cell? ⟨gt, 1, none⟩ = some (.slice (some ⟨g2, 0, none⟩) 1024 1024))
    (first | exact ⟨d0, d1⟩ | exact ⟨a0, a1⟩ | exact ⟨f0, f1⟩)
    (first | (go_at_call 20; refine (dec_size _ _ 16 _ _ TVa.t.has (.inl (by omega))).mono ?_; rintro e w6 ⟨rfl, k6⟩; have TV6 := TVa.keep k6; obtain ⟨f0, f1⟩ := tab_cells TV6.b))
  have kk6 := (kk5.comp ka).comp k6
  clear d0 d1 a0 a1 f0 f1 TVd TVa TV5 kd ka kk5 k6
  have kd := (Keep.refl (fun _ => False) w6).drew
  have ka := kd.alloc (.cells (uArr (fun _ => 0) 1024) 23)
  have TVd := TV6.keep kd
  have TVa := TV6.keep ka
  obtain ⟨d0, d1⟩ := tab_cells TVd.b
  obtain ⟨a0, a1⟩ := tab_cells TVa.b
  go_wp2_with fail
  go_region_held3 (fun w' => w'.cell? ⟨gt, 0, none⟩ = some (.slice (some ⟨g1, 0, none⟩) 1023 1023) ∧ w'.cell? ⟨gt, 1, none⟩ = some (.slice (some ⟨g2, 0, none⟩) 1024 1024))
    (first | exact ⟨d0, d1⟩ | exact ⟨a0, a1⟩ | exact ⟨f0, f1⟩)
    (first | (go_at_call 20; refine (dec_size _ _ 1024 _ _ TVa.t.has (.inr (by omega))).mono ?_; rintro e w7 ⟨rfl, k7⟩; have TV7 := TVa.keep k7; obtain ⟨f0, f1⟩ := tab_cells TV7.b))
  have kk7 := (kk6.comp ka).comp k7
  clear d0 d1 a0 a1 f0 f1 TVd TVa TV6 kd ka kk6 k7
  have kd := (Keep.refl (fun _ => False) w7).drew
  have ka := kd.alloc (.cells (uArr (fun _ => 0) 20) 23)
  have kb := ka.alloc (.cells #[.int .u16 5000] 23)
  have TVd := TV7.keep kd
  have TVa := TV7.keep ka
  have TVb := TV7.keep kb
  obtain ⟨d0, d1⟩ := tab_cells TVd.b
  obtain ⟨a0, a1⟩ := tab_cells TVa.b
  obtain ⟨b0, b1⟩ := tab_cells TVb.b
  have OZ : ((w7.drew.alloc (.cells (uArr (fun _ => 0) 20) 23)).alloc (.cells #[.int .u16 5000] 23)).ownsRow w7.heap.size 23 1 (.slice (some ⟨w7.heap.size, 0, none⟩) 20 20) 20 (uList tail5 20) := by
    have h : OwnU (w7.drew.alloc (.cells (uArr (fun _ => 0) 20) 23)) w7.heap.size (some ⟨w7.heap.size, 0, none⟩) 20 20 tail5 := OwnU.of_row ((RowU.of_blk (Blk.here w7.drew _ _ w7.heap.size rfl)).congr (fun t ht => by unfold tail5; rw [if_pos ht])) (Nat.le_refl _) (by unfold maxLen; omega)
    exact h.keep ((Keep.refl _ _).alloc _)
  have bL := Blk.here (w7.drew.alloc (.cells (uArr (fun _ => 0) 20) 23)) 23 #[.int .u16 5000] (w7.heap.size + 1) (by simp)
  have hN1 : w7.heap.size ≤ ((w7.drew.alloc (.cells (uArr (fun _ => 0) 20) 23)).alloc (.cells #[.int .u16 5000] 23)).heap.size := kb.size
  have ka2 := kd.alloc (.cells #[.int .u16 5000] 23)
  have kb2 := ka2.alloc (.cells (uArr (fun _ => 0) 20) 23)
  have TVa2 := TV7.keep ka2
  have TVb2 := TV7.keep kb2
  obtain ⟨p0, p1⟩ := tab_cells TVa2.b
  obtain ⟨q0, q1⟩ := tab_cells TVb2.b
  have OZ2 : ((w7.drew.alloc (.cells #[.int .u16 5000] 23)).alloc (.cells (uArr (fun _ => 0) 20) 23)).ownsRow w7.heap.size 23 1 (.slice (some ⟨w7.heap.size + 1, 0, none⟩) 20 20) 20 (uList tail5 20) :=
    show OwnU _ _ _ _ _ _ from OwnU.of_row ((RowU.of_blk (Blk.here (w7.drew.alloc (.cells #[.int .u16 5000] 23)) _ _ (w7.heap.size + 1) (by simp))).congr (fun t ht => by unfold tail5; rw [if_pos ht])) (by omega) (by unfold maxLen; omega)
  have bL2 : Blk ((w7.drew.alloc (.cells #[.int .u16 5000] 23)).alloc (.cells (uArr (fun _ => 0) 20) 23)) w7.heap.size 23 #[.int .u16 5000] := (Blk.here w7.drew 23 #[.int .u16 5000] w7.heap.size rfl).alloc _
  have hN2 : w7.heap.size ≤ ((w7.drew.alloc (.cells #[.int .u16 5000] 23)).alloc (.cells (uArr (fun _ => 0) 20) 23)).heap.size := kb2.size
  go_upto_region 9 with fail
  go_cut [14, 15, 16] (fun v14 v15 v16 wc => v14 = .slice none 0 0 ∧ v15 = .int .i64 0 ∧ v16 = .int .i64 1 ∧ Keep (fun _ => False) w7 wc)
  case first =>
    go_region_held3 (fun w' => w'.cell? ⟨gt, 0, none⟩ = some (.slice (some ⟨g1, 0, none⟩) 1023 1023) ∧ w'.cell? ⟨gt, 1, none⟩ = some (.slice (some ⟨g2, 0, none⟩) 1024 1024))
      (first | exact ⟨d0, d1⟩ | exact ⟨a0, a1⟩ | exact ⟨b0, b1⟩ | exact ⟨p0, p1⟩ | exact ⟨q0, q1⟩ | exact ⟨c0, c1⟩ | exact ⟨f0, f1⟩)
      (first
        | (go_at_call 20; refine (dec_arg _ _ 21 _ tail5 _ TVc.t.has AT.out (by omega) (by omega) ⟨20, by omega, by decide⟩).mono ?_; rintro e w9 ⟨rfl, k9⟩; have TV9 := TVc.keep k9; obtain ⟨f0, f1⟩ := tab_cells TV9.b)
        | (refine step_append_u rfl _ _ rfl w7.heap.size _ 20 tail5 rfl OZ _ 5000 rfl bL rfl (by omega) hN1 _ rfl ?_; intro gA cA w8 hA1 hA2 hA3 hA4; have kc : Keep (fun _ => False) w7 w8 := kb.grown hA2 (fun k e => .inr (OZ.lt k e).1); have TVc := TV7.keep kc; obtain ⟨c0, c1⟩ := tab_cells TVc.b; have hO : OwnU w8 w7.heap.size (some ⟨gA, 0, none⟩) 21 cA tail5 := hA1; have AT := Lib.hid (hO.arg (by omega) (fun t _ => by unfold tail5; split <;> omega)))
        | (refine step_append_u rfl _ _ rfl w7.heap.size _ 20 tail5 rfl OZ2 _ 5000 rfl bL2 rfl (by omega) hN2 _ rfl ?_; intro gA cA w8 hA1 hA2 hA3 hA4; have kc : Keep (fun _ => False) w7 w8 := kb2.grown hA2 (fun k e => .inr (OZ2.lt k e).1); have TVc := TV7.keep kc; obtain ⟨c0, c1⟩ := tab_cells TVc.b; have hO : OwnU w8 w7.heap.size (some ⟨gA, 0, none⟩) 21 cA tail5 := hA1; have AT := Lib.hid (hO.arg (by omega) (fun t _ => by unfold tail5; split <;> omega))))
    all_goals
      go_wp2_with fail
      go_meet
      exact ⟨rfl, rfl, rfl, kc.comp k9⟩
  case rest =>
  obtain ⟨rfl, rfl, rfl, k79⟩ := hcut
  have kk9 := kk7.comp k79
  have TV9 := TV7.keep k79
  clear d0 d1 a0 a1 b0 b1 p0 p1 q0 q1 TVd TVa TVb TVa2 TVb2 TV7 kd ka kb ka2 kb2 kk7 k79 OZ OZ2 bL bL2 hN1 hN2
  have r0 := Blk.new wc 23 (uArr (fun _ => 0) 40)
  have k0 := (Keep.refl (fun _ => False) wc).alloc (.cells (uArr (fun _ => 0) 40) 23)
  have TX := Lib.hid TV9
  clear TV9 mk1008 mk16 mk1024 mk20
  go_wp2_with fail
  go_loopw [18] (fun v wr => ∃ i : Nat, i ≤ 8 ∧ v = .int .i64 i ∧ Blk wr wc.heap.size 23 (uArr (eightK i) 40) ∧ Keep (fun _ => False) wc wr) (fun v _ => 8 - (intOf v).toNat)
  case atStart =>
    refine ⟨0, by omega, rfl, ?_, k0⟩
    rw [show uArr (eightK 0) 40 = uArr (fun _ => 0) 40 from uArr_congr (fun t _ => by unfold eightK; rw [if_neg (by omega)])]
    exact r0
  case round =>
    clear r0 k0
    obtain ⟨i, hi, rfl, hR, kk⟩ := hrel
    by_cases hi8 : i < 8
    · have hi8' : (i : Int) < 8 := by omega
      obtain ⟨m, hm⟩ : ∃ m, m = 5 * i := ⟨_, rfl⟩
      have e1 : (5 : Int) * (i : Int) = (m : Int) := by omega
      have e2 : (m : Int) < 40 := by omega
      have c0 := hR.val (show m < 40 by omega)
      have z0 := hR.frozen m
      have wu : IntKind.u16.wrap ((i : Int) + 1) = ((i + 1 : Nat) : Int) := by rw [wraps_u16 _ (by omega) (by omega)]; omega
      have HN := Lib.hid (hR.storeU m (i + 1) (f' := eightK (i + 1)) (fun t _ => by rw [hm]; exact eightK_next i t))
      have HK := Lib.hid (kk.setCell (p := ⟨wc.heap.size, m, none⟩) (.inr (Nat.le_refl _)) (.int .u16 (i + 1 : Nat)))
      have hm40 : m < 40 := by omega
      clear hR kk hm
      go_wp2_with fail
      exact ⟨⟨i + 1, by omega, by go_num, HN.out, HK.out⟩, by simp [intOf]; omega⟩
    · obtain rfl : i = 8 := by omega
      have hi8' : ¬ ((8 : Nat) : Int) < 8 := by omega
      have hR8 : Blk wr wc.heap.size 23 (uArr eight 40) := hR
      have AE := Lib.hid (hR8.argU (by omega) (fun t _ => by have := eightK_lt 8 t (by omega); show eightK 8 t < 65536; omega))
      have TV4 := TX.out.keep kk
      obtain ⟨d0, d1⟩ := tab_cells TV4.b
      go_wp2_with fail
      refine (dec_any _ _ _ _ eight _ TV4.t.has AE.out (by omega) (by omega) (fun t _ => eightK_lt 8 t (by omega))).mono ?_
      rintro e w5 ⟨hdec, k5⟩
      obtain ⟨af, cf, rfl, of⟩ := hdec.near eight_near (by omega)
      have hR5 := hR8.keep k5 (by simp)
      have hlt5 := hR8.lt
      have c39 := hR5.val (show 39 < 40 by omega)
      have z39 := hR5.frozen 39
      have HN := Lib.hid (hR5.storeU 39 1 (f' := nine) (fun t _ => rfl))
      have of5 := Lib.hid (of.far (p := ⟨wc.heap.size, 39, none⟩) hlt5 (.int .u16 1))
      have K5 := Lib.hid ((kk.comp k5).setCell (p := ⟨wc.heap.size, 39, none⟩) (.inr (Nat.le_refl _)) (.int .u16 1))
      have TV5 := TX.out.keep K5.out
      clear d0 d1 hdec of hR5 hR8 hR AE TV4 kk k5
      obtain ⟨d0, d1⟩ := tab_cells TV5.b
      go_wp2_with fail
      clear c39 z39
      have AN := Lib.hid (HN.out.argU (by omega) (fun t ht => by have := nine_lt t ht; omega))
      refine (dec_any _ _ _ _ nine _ TV5.t.has AN.out (by omega) (by omega) nine_lt).mono ?_
      rintro e w6 ⟨hdec, k6⟩
      rcases hdec with ⟨q', d', a', c', hno, _⟩ | ⟨_, rfl⟩
      · exact absurd hno (nine_none q' d')
      have of6 := Lib.hid (of5.out.keep k6)
      have K6 := Lib.hid (K5.out.comp k6)
      have TV6 := TV5.keep k6
      clear d0 d1 TV5 AN HN of5 K5
      have ke := (Keep.refl (fun _ => False) w6).alloc (.cells (uArr (fun _ => 0) 40) 23)
      have AG := Lib.hid ((of6.out.arg (by omega) (fun t _ => by omega)).keep ke)
      have AZ := Lib.hid (zeros_arg w6 40 (by omega))
      have K7 := Lib.hid (K6.out.comp ke)
      have TV7 := TV6.keep ke
      clear TV6 of6 K6 k6 ke
      go_wp2_with fail
      have hd := dist_any _ _ 40 40 cf 40 (fun _ => 0) (fun _ => 0) _ AG.out AZ.out (by omega) (by omega)
      rw [Nat.max_self, Nat.min_self, Nat.sub_self, Nat.zero_add, cntNe_zero.2 (fun _ _ => rfl)] at hd
      refine hd.mono ?_
      rintro e w8 ⟨rfl, k8⟩
      have K8 := Lib.hid (K7.out.comp k8)
      have TV8 := TV7.keep k8
      clear hd AG AZ TV7 K7 k8
      have A := Laid.new w8 #[.int .u16 1, .int .u16 2] (lst [1, 2]) 2 (uArr_two 1 2) (by omega) (fun j _ => lst_small [1, 2] (by simp) j)
      have B := Laid.new (w8.alloc (.cells #[.int .u16 1, .int .u16 2] 23)) #[.int .u16 1] (lst [1]) 1 (uArr_one 1) (by omega) (fun j _ => lst_small [1] (by simp) j)
      have AA := Lib.hid ((A.a _ rfl).keep B.k)
      have AB := Lib.hid (B.a (w8.heap.size + 1) (by simp))
      have K9 := Lib.hid ((K8.out.comp A.k).comp B.k)
      have TV9 := (TV8.keep A.k).keep B.k
      clear A B TV8 K8
      go_wp2_with fail
      have hd := dist_any _ _ 2 1 2 1 (lst [1, 2]) (lst [1]) _ AA.out AB.out (by omega) (by omega)
      rw [show max 2 1 - min 2 1 + cntNe (lst [1, 2]) (lst [1]) (min 2 1) = 1 by decide] at hd
      refine hd.mono ?_
      rintro e w10 ⟨rfl, k10⟩
      have K10 := Lib.hid (K9.out.comp k10)
      have TV10 := TV9.keep k10
      obtain ⟨d0, d1⟩ := tab_cells TV10.b
      clear hd AA AB TV9 K9 k10
      go_wp2_with fail
      refine (syndromes_any _ _ 0 _ (fun _ => 0) _ TV10.t.has (ArgU.nil _ _) (by omega)).mono ?_
      rintro e w11 ⟨gS, rfl, _, _, k11⟩
      have K11 := Lib.hid (kk9.comp (K10.out.comp k11))
      clear d0 d1 K10 k11 TV10
      go_wp2_with fail
      go_ret
      exact ⟨rfl, K11.out⟩
end Go.Proofs.Ytnejnoiogojplaa
