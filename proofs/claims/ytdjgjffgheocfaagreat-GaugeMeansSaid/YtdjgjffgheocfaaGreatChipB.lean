/- chip: what a block is, without its pages. -/
import Derived.Test.YtdjgjffgheocfaaGreatChip
namespace Go.Proofs.YtdjgjffgheocfaaGreat
open Go.RowKit

theorem enters_marked : Enters 55 := enters_of Tryz.func55 (by kernel_rfl) rfl
theorem marked1_any (a d k : Int) (w : World) :
    Calls Tryz.prog 55 #[fateV a d k] w fun e w' => e = .returned (.int .i64 0) ∧ Keep (fun _ => False) w w' := by
  go_enter Tryz.func55, Tryz.ntmps55
  go_wp2_with fail
  go_ret
  exact ⟨rfl, (Keep.refl _ w).alloc _⟩
theorem marked_op (num : CR → Nat) (C : ChipS) (w : World) (h : ChipM num w C) (hd : C.dark = false) (hops : C.ops < 1099511627776) (a d k : Int) (hF : (C.F (C.ops : Int)).getD (fateV 0 0 0) = fateV a d k) (g : Nat) (hg : w.cell? ⟨g, 0, none⟩ = some (.bool true)) (hgl : g < w.heap.size) (hgc : g ≠ num .chip) :
    Calls Tryz.prog 53 #[.pointer (some ⟨num .chip, 0, none⟩), .func (.func 76) #[] #[.pointer (some ⟨g, 0, none⟩)], .func (.func 55) #[] #[]] w fun e w' =>
      e = .returned (.int .i64 (opE d 0)) ∧ ChipM num w' (opC d 0 C.tick) ∧ Keep (Own num C) w w' := by
  refine (operate_yes num C w h hd hops _ enters_there _ _ enters_marked _ (SenseD num C) a d k hF (fun w1 _ k1 => ?_) (fun w1 hm k1 => ?_)).mono ?_
  · exact (there1_any g true w1 ((k1.cell (p := ⟨g, 0, none⟩) hgl hgc).trans hg)).mono fun e w2 ⟨he, hw⟩ => ⟨he, hw ▸ Keep.refl _ _⟩
  · refine (show Calls Tryz.prog 55 #[fateV a d k] w1 _ from (marked1_any a d k w1).mono ?_)
    rintro e w2 ⟨rfl, k2⟩
    exact ⟨0, num, C.tick, rfl, .inl rfl, ⟨rfl, rfl, rfl⟩, hm.keepF k2, rfl, k2.more (fun _ h => by cases h), fun r hr => .inl ⟨r, hr, rfl⟩⟩
  · rintro e w' ⟨e2, num2, C2, ⟨rfl, rfl, rfl⟩, he, hm, _, hk, _⟩
    exact ⟨he, hm, hk⟩
set_option maxRecDepth 100000 in
/-- Marked: a block's mark; an operation. -/
theorem marked_ok (num : CR → Nat) (C : ChipS) (w : World) (h : ChipM num w C) (hd : C.dark = false) (hops : C.ops < 1099511627776) (a d k : Int) (hF : (C.F (C.ops : Int)).getD (fateV 0 0 0) = fateV a d k) (hd2 : d ≠ 2) (i : Nat) (hi : i < C.B) :
    Calls Tryz.prog 33 #[.pointer (some ⟨num .chip, 0, none⟩), .int .i64 i] w fun e w' =>
      e = .returned (.tuple #[.bool (C.bad i), .int .i64 0]) ∧ ChipM num w' C.tick ∧ Keep (Own num C) w w' := by
  have HP := Lib.hid (block_yes num C w h i hi)
  have k0 := (Keep.refl (fun _ => False) w).alloc (.cells #[.bool true] 4)
  have hgl := (Blk.new w 4 #[.bool true])
  have hop := marked_op num C _ (h.keepF k0) hd hops a d k hF w.heap.size (by rw [hgl.cell]; rfl) hgl.lt (by have := h.lt .chip trivial; omega)
  have e1 : opE d 0 = 0 := opE_no (fun e => hd2 e.1)
  have e2 : opC d 0 C.tick = C.tick := opC_no (fun e => hd2 e.1)
  rw [e1, e2] at hop
  have HOP := Lib.hid hop
  have K0 := Lib.hid k0
  have HI := Lib.hid hi
  obtain ⟨b, hb⟩ : ∃ b, b = C.bad i := ⟨_, rfl⟩
  rw [← hb]
  have HBB := Lib.hid hb
  clear h hd hF hd2 k0 hgl hop e1 e2 hi hb
  go_enter Tryz.func33, Tryz.ntmps33
  go_wp2_with fail
  refine HP.out.mono ?_
  rintro e w1 ⟨rfl, rfl⟩
  go_wp2_with fail
  refine (there_any _ _).mono ?_
  rintro e w1 ⟨rfl, rfl⟩
  go_wp2_with fail
  refine HOP.out.mono ?_
  rintro e w2 ⟨rfl, hm, k2⟩
  have HM := Lib.hid hm
  obtain ⟨cp, hc⟩ := hm.blkC (i := i) HI.out
  have c1 := hc.c1
  have kw := Lib.hid ((K0.out.more (fun _ h => by cases h)).trans k2 (fun i hi => .inl hi) : Keep (Own num C) w w2)
  change w2.cell? ⟨num (.blk i), 1, none⟩ = some (.bool (C.bad i)) at c1
  rw [← HBB.out] at c1
  clear hm k2 hc HOP K0
  go_wp2_with fail
  go_ret2
  exact ⟨rfl, HM.out, kw.out⟩
set_option maxRecDepth 100000 in
theorem bad_any (num : CR → Nat) (C : ChipS) (w : World) (h : ChipM num w C) (i : Nat) (hi : i < C.B) :
    Calls Tryz.prog 22 #[.pointer (some ⟨num .chip, 0, none⟩), .int .i64 i] w fun e w' => e = .returned (.bool (C.bad i)) ∧ w = w' := by
  have HB := Lib.hid (block_yes num C w h i hi)
  obtain ⟨cp, hc⟩ := h.blkC hi
  have c1 := hc.c1
  generalize C.bad i = b at *
  clear h hc
  go_enter Tryz.func22, Tryz.ntmps22
  go_wp2_with fail
  refine HB.out.mono ?_
  rintro e w1 ⟨rfl, rfl⟩
  go_wp2_with fail
  go_ret
  exact ⟨rfl, rfl⟩
set_option maxRecDepth 100000 in
theorem broken_any (num : CR → Nat) (C : ChipS) (w : World) (h : ChipM num w C) (i : Nat) (hi : i < C.B) :
    Calls Tryz.prog 23 #[.pointer (some ⟨num .chip, 0, none⟩), .int .i64 i] w fun e w' => e = .returned (.bool (C.bk i)) ∧ w = w' := by
  have HB := Lib.hid (block_yes num C w h i hi)
  obtain ⟨cp, hc⟩ := h.blkC hi
  have c2 := hc.c2
  generalize C.bk i = b at *
  clear h hc
  go_enter Tryz.func23, Tryz.ntmps23
  go_wp2_with fail
  refine HB.out.mono ?_
  rintro e w1 ⟨rfl, rfl⟩
  go_wp2_with fail
  go_ret
  exact ⟨rfl, rfl⟩
set_option maxRecDepth 100000 in
theorem erases_any (num : CR → Nat) (C : ChipS) (w : World) (h : ChipM num w C) (i : Nat) (hi : i < C.B) :
    Calls Tryz.prog 24 #[.pointer (some ⟨num .chip, 0, none⟩), .int .i64 i] w fun e w' => e = .returned (.int .i64 (C.er i : Nat)) ∧ w = w' := by
  have HB := Lib.hid (block_yes num C w h i hi)
  obtain ⟨cp, hc⟩ := h.blkC hi
  have c3 := hc.c3
  generalize C.er i = b at *
  clear h hc
  go_enter Tryz.func24, Tryz.ntmps24
  go_wp2_with fail
  refine HB.out.mono ?_
  rintro e w1 ⟨rfl, rfl⟩
  go_wp2_with fail
  go_ret
  exact ⟨rfl, rfl⟩
/-- Nothing is wrong with a page that holds nothing whole. -/
theorem wrong_none (c p q n : Nat) (S : PgS) (w : World) (h : IsPage w c p q n S) (h1 : S.st ≠ 1) :
    Calls Tryz.prog 69 #[.pointer (some ⟨c, 0, none⟩)] w fun e w' => e = .returned (.slice none 0 0) ∧ w = w' := by
  have c2 := h.c2
  have hne : ((S.st : Int) != 1) = true := by
    simp
    omega
  generalize S.st = s at *
  clear h
  go_enter Tryz.func69, Tryz.ntmps69
  go_wp2_with fail
  go_ret
  exact ⟨rfl, rfl⟩
theorem pworst_none (num : CR → Nat) (C : ChipS) (w : World) (i j : Nat) (hp : IsPage w (num (.cel i j)) (num (.pts i j)) (num (.sym i j)) C.n (C.pg i j)) (h1 : (C.pg i j).st ≠ 1) :
    Calls Tryz.prog 39 #[.pointer (some ⟨num .chip, 0, none⟩), .pointer (some ⟨num (.cel i j), 0, none⟩)] w fun e w' => e = .returned (.int .i64 0) ∧ Keep (fun _ => False) w w' := by
  have k0 := (Keep.refl (fun _ => False) w).alloc (.cells #[.int .i64 0, .int .i64 0, .int .i64 0, .int .i64 0] 139)
  have HW := Lib.hid (wrong_none _ _ _ _ _ _ (hp.keep k0 (fun e => e) (fun e => e) (fun _ e => e)) h1)
  have K0 := Lib.hid k0
  clear hp k0
  go_enter Tryz.func39, Tryz.ntmps39
  go_wp2_with fail
  refine HW.out.mono ?_
  rintro e w1 ⟨rfl, rfl⟩
  go_wp2_with fail
  refine wp_loop_rounds 1 ?_
  rw [rounds_succ]
  go_wp2_with fail
  go_ret
  exact ⟨rfl, K0.out⟩
set_option maxRecDepth 100000 in
set_option maxHeartbeats 1000000 in
theorem worst_none (num : CR → Nat) (C : ChipS) (w : World) (h : ChipM num w C) (h1 : ∀ i j, (C.pg i j).st ≠ 1) :
    Calls Tryz.prog 20 #[.pointer (some ⟨num .chip, 0, none⟩)] w fun e w' => e = .returned (.int .i64 0) ∧ Keep (fun _ => False) w w' := by
  obtain ⟨cl, hc, ht⟩ := h.head
  obtain ⟨s0, s1, s2, s3, s4⟩ := h.small
  have c4 := hc.c4
  have HT := Lib.hid ht
  have HC := Lib.hid h
  have H1 := Lib.hid h1
  clear h hc ht h1 s4
  go_enter Tryz.func20, Tryz.ntmps20
  go_wp2_with fail
  clear c4
  go_loopw [3, 15] (fun v3 v wr => ∃ i : Nat, i ≤ C.B ∧ v3 = .int .i64 0 ∧ v = .int .i64 i ∧ Keep (fun _ => False) w wr) (fun _ v _ => C.B - (intOf v).toNat)
  case atStart => exact ⟨0, by omega, rfl, rfl, Keep.refl _ _⟩
  case round =>
    obtain ⟨i, hi, rfl, rfl, hk⟩ := hrel
    by_cases hiB : i < C.B
    · have hiB' : (i : Int) < (C.B : Int) := by omega
      have hm := HC.out.keepF hk
      obtain ⟨cl', hc', ht'⟩ := hm.head
      have t0 := ht' i hiB
      obtain ⟨cp, hb⟩ := hm.blkC hiB
      have b0 := hb.c0
      have HM := Lib.hid hm
      have HK := Lib.hid hk
      clear hm hc' ht' hb hk
      go_wp2_with fail
      obtain ⟨wa, hwa⟩ : ∃ wa, wa = wr := ⟨_, rfl⟩
      subst hwa
      clear t0 b0
      go_loopw [3, 24] (fun v3 v wi => ∃ j : Nat, j ≤ C.P ∧ v3 = .int .i64 0 ∧ v = .int .i64 j ∧ Keep (fun _ => False) wa wi) (fun _ v _ => C.P - (intOf v).toNat)
      case atStart => exact ⟨0, by omega, rfl, rfl, Keep.refl _ _⟩
      case round =>
        obtain ⟨j, hj, rfl, rfl, hk⟩ := hrel
        by_cases hjP : j < C.P
        · have hjP' : (j : Int) < (C.P : Int) := by omega
          have hm := HM.out.keepF hk
          obtain ⟨cp', hb⟩ := hm.blkC hiB
          have t0 := hb.t j hjP
          have HW := Lib.hid (pworst_none num C wr i j (hm.page i j hiB hjP) (H1.out i j))
          have HK2 := Lib.hid hk
          clear hm hb hk
          go_wp2_with fail
          refine HW.out.mono ?_
          rintro e w1 ⟨rfl, k1⟩
          have HK3 := Lib.hid (HK2.out.comp k1)
          clear k1 t0 HW
          go_wp2_with fail
          go_roundw
          case rel => exact ⟨j + 1, by omega, rfl, by go_num, HK3.out⟩
          case measure => simp [intOf]; omega
        · obtain rfl : j = C.P := by omega
          have HK2 := Lib.hid (HK.out.comp hk)
          clear hk
          go_wp2_with fail
          go_roundw
          case rel => exact ⟨i + 1, by omega, rfl, by go_num, HK2.out⟩
          case measure => simp [intOf]; omega
    · obtain rfl : i = C.B := by omega
      go_wp2_with fail
      go_ret
      exact ⟨rfl, hk⟩
end Go.Proofs.YtdjgjffgheocfaaGreat
