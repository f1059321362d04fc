/- rate.Worst. -/
import Derived.Test.YtaepllaipdacjaaRate
namespace Go.Proofs.Ytaepllaipdacjaa
open Go.RowKit
attribute [local go_sem] run_store_complex

set_option maxRecDepth 100000 in
set_option maxHeartbeats 8000000 in
theorem worst_any (w : World) (B P W K : Int) (h : GeoOk B P W K) (N m L : Nat) (hN : B * P = N) (hm : W = m) (hL : W * (K + 16) = L) (al : Option Addr) (len cap : Nat) (D G C : Nat → Int) (ha : ArgEvents w al len D G C) :
    Calls Try.prog 7 #[geoV B P W K, .slice al len cap] w fun e w' => e = .returned (.int .i64 (rateAt N m L D G C len).worst) ∧ Keep (fun _ => False) w w' := by
  have hsm := ha.small
  unfold maxLen at hsm
  have hN2 := mul_count h.b0 h.b1 h.p0 h.p1
  have hN3 : N ≤ 2048 := by omega
  have hN0 : 0 < N := by omega
  have HN := Lib.hid hN
  have HM := Lib.hid hm
  have HL := Lib.hid hL
  clear hN hm hL
  go_enter Try.func7, Try.ntmps7
  go_wp2_with fail
  refine (may_yes _ _ _ _ _ h).mono ?_
  rintro e w1 ⟨rfl, k1⟩
  have hb := (Blk.new w 24 #[.int .i64 B, .int .i64 P, .int .i64 W, .int .i64 K]).keep k1 (by simp)
  have kk1 := ((Keep.refl (fun _ => False) w).alloc (.cells #[.int .i64 B, .int .i64 P, .int .i64 W, .int .i64 K] 24)).trans k1 (fun i hi => .inl hi)
  have c0 : w1.cell? ⟨w.heap.size, 0, none⟩ = some (.int .i64 B) := by rw [hb.cell]; rfl
  have c1 : w1.cell? ⟨w.heap.size, 1, none⟩ = some (.int .i64 P) := by rw [hb.cell]; rfl
  have c2 : w1.cell? ⟨w.heap.size, 2, none⟩ = some (.int .i64 W) := by rw [hb.cell]; rfl
  have c3 : w1.cell? ⟨w.heap.size, 3, none⟩ = some (.int .i64 K) := by rw [hb.cell]; rfl
  go_wp2_with fail
  refine (count_any _ _ _ _ _ h).mono ?_
  rintro e w2 ⟨rfl, k2⟩
  have hb2 := hb.keep k2 (by simp)
  have kk2 := kk1.trans k2 (fun i hi => .inl hi)
  clear c0 c1 c2 c3 hb kk1 k1 k2
  have hmk := make_count (B * P) N HN.out hN3 w2
  go_wp2_with fail
  have r0 : RateAt w w.heap.size w2.heap.size N B P W K (fun _ _ => 0) (w2.alloc (.cells (countArr (fun _ _ => 0) N) 44)) :=
    ⟨hb2.alloc _, Blk.new _ _ _, kk2.alloc _, hb2.lt, Nat.le_refl _⟩
  clear hmk hb2 kk2
  go_loopw [6, 7, 22] (fun wo tk i wr => ∃ j : Nat, j ≤ len ∧ i = .int .i64 j ∧ wo = .int .i64 (rateAt N m L D G C j).worst ∧ tk = .int .i64 (rateAt N m L D G C j).t ∧ RateAt w w.heap.size w2.heap.size N B P W K (rateAt N m L D G C j).C wr) (fun _ _ i _ => len - (intOf i).toNat)
  case atStart => exact ⟨0, Nat.zero_le _, rfl, rfl, rfl, r0⟩
  case round =>
    clear r0
    obtain ⟨j, hj, rfl, rfl, rfl, pr⟩ := hrel
    have hle := rateAt_le N m L D G C j
    by_cases hjl : j < len
    · obtain ⟨b, off, rfl, hbs, hc⟩ := ha.at_ (by omega)
      obtain ⟨l, re, im, q, yl, yc, c0, c1, c2, c3, c4, c5⟩ := hc j hjl
      have HS : Hid (rateAt N m L D G C (j + 1) = (rateAt N m L D G C j).step N m L (D j) (G j) (C j)) := Lib.hid rfl
      generalize D j = d at c0 HS
      generalize G j = g at c2 HS
      generalize C j = c at c3 HS
      generalize rateAt N m L D G C j = s at pr hle HS ⊢
      rw [← pr.keep.cell (p := ⟨b, off + j * 6, none⟩) hbs (by simp)] at c0
      rw [← pr.keep.cell (p := ⟨b, off + j * 6 + 1, none⟩) hbs (by simp)] at c1
      rw [← pr.keep.cell (p := ⟨b, off + j * 6 + 2, none⟩) hbs (by simp)] at c2
      rw [← pr.keep.cell (p := ⟨b, off + j * 6 + 3, none⟩) hbs (by simp)] at c3
      rw [← pr.keep.cell (p := ⟨b, off + j * 6 + 4, none⟩) hbs (by simp)] at c4
      rw [← pr.keep.cell (p := ⟨b, off + j * 6 + 5, none⟩) hbs (by simp)] at c5
      have hjl' : (j : Int) < (len : Int) := by omega
      clear hc hbs
      by_cases hd5 : d = 5
      · subst hd5
        as_aux_lemma =>
        rw [step_tick] at HS
        obtain ⟨n, hn⟩ : ∃ n, n = s.t % N := ⟨_, rfl⟩
        have hnN : n < N := by rw [hn]; exact Nat.mod_lt _ hN0
        have hnN' : (n : Int) < (N : Int) := by omega
        have HQ : Hid ((s.t : Int) % (B * P) = (n : Int)) := Lib.hid (by rw [HN.out, hn]; rfl)
        have HT := Lib.hid hn
        clear hn
        go_upto_block 2 with fail
        have pe := pr.alloc (.cells #[.int .i64 5, .int .i64 l, .int .i64 g, .int .i64 c, .complex .f64 re im, .slice q yl yc] 28)
        have e0 := pe.c0
        have e1 := pe.c1
        have e2 := pe.c2
        have e3 := pe.c3
        go_wp2_with fail
        refine (visit_any B P W K s.t n _ h HQ.out).mono ?_
        rintro e w3 ⟨rfl, k3⟩
        have p3 := pe.kept k3
        clear e0 e1 e2 e3
        have e0 := p3.c0
        have e1 := p3.c1
        have e2 := p3.c2
        have e3 := p3.c3
        go_wp2_with fail
        refine (number_page B P W K n _ h (by rw [HN.out]; exact hnN')).mono ?_
        rintro e w4 ⟨rfl, k4⟩
        have p4 := p3.kept k4
        clear e0 e1 e2 e3
        have f0 := p4.cell hnN (j := 0) (by omega)
        have f1 := p4.cell hnN (j := 1) (by omega)
        have f2 := p4.cell hnN (j := 2) (by omega)
        have f3 := p4.cell hnN (j := 3) (by omega)
        have z0 := p4.frozen (n * 4)
        have z1 := p4.frozen (n * 4 + 1)
        have z2 := p4.frozen (n * 4 + 2)
        have z3 := p4.frozen (n * 4 + 3)
        rw [Nat.add_zero] at f0
        have ht := hle.t_
        go_wp2_with fail
        go_roundw
        case rel => exact ⟨j + 1, by omega, by go_num, by rw [HS.out]; rfl, by rw [HS.out]; rfl, by rw [HS.out]; exact p4.tick HT.out⟩
        case measure => simp [intOf]; omega
      · have hd5b : (d == 5) = false := by simpa using hd5
        have hd5c : decide (d = 5) = false := by simpa using hd5
        by_cases hd6 : d = 6
        · subst hd6
          rcases (show g < 0 ∨ (0 ≤ g ∧ (N : Int) ≤ g) ∨ ((0 ≤ g ∧ g < N) ∧ c < 0) ∨ ((0 ≤ g ∧ g < N) ∧ 0 ≤ c ∧ (L : Int) ≤ c) ∨ ((0 ≤ g ∧ g < N) ∧ 0 ≤ c ∧ c < L) by omega) with hx | ⟨hx, hx2⟩ | ⟨⟨hx, hx2⟩, hx3⟩ | ⟨⟨hx, hx2⟩, hx3, hx4⟩ | ⟨⟨hx, hx2⟩, hx3, hx4⟩
          · rw [step_none _ _ _ _ _ _ _ hd5 (by unfold Hits; omega)] at HS
            clear hd5
            have hb1 : decide (0 ≤ g) = false := by simpa using hx
            as_aux_lemma =>
            have pe := pr.alloc (.cells #[.int .i64 6, .int .i64 l, .int .i64 g, .int .i64 c, .complex .f64 re im, .slice q yl yc] 28)
            have be := Blk.new wr 28 #[.int .i64 6, .int .i64 l, .int .i64 g, .int .i64 c, .complex .f64 re im, .slice q yl yc]
            have q0 : ∀ p : KeptBy (wr.alloc (.cells #[.int .i64 6, .int .i64 l, .int .i64 g, .int .i64 c, .complex .f64 re im, .slice q yl yc] 28)), p.v.cell? ⟨wr.heap.size, 0, none⟩ = some (.int .i64 6) := fun p => p.cell be.lt (by rw [be.cell]; rfl)
            have q2 : ∀ p : KeptBy (wr.alloc (.cells #[.int .i64 6, .int .i64 l, .int .i64 g, .int .i64 c, .complex .f64 re im, .slice q yl yc] 28)), p.v.cell? ⟨wr.heap.size, 2, none⟩ = some (.int .i64 g) := fun p => p.cell be.lt (by rw [be.cell]; rfl)
            have q3 : ∀ p : KeptBy (wr.alloc (.cells #[.int .i64 6, .int .i64 l, .int .i64 g, .int .i64 c, .complex .f64 re im, .slice q yl yc] 28)), p.v.cell? ⟨wr.heap.size, 3, none⟩ = some (.int .i64 c) := fun p => p.cell be.lt (by rw [be.cell]; rfl)
            have g0 : ∀ p : KeptBy (wr.alloc (.cells #[.int .i64 6, .int .i64 l, .int .i64 g, .int .i64 c, .complex .f64 re im, .slice q yl yc] 28)), p.v.cell? ⟨w.heap.size, 0, none⟩ = some (.int .i64 B) := fun p => p.cell pe.geo.lt pe.c0
            have g1 : ∀ p : KeptBy (wr.alloc (.cells #[.int .i64 6, .int .i64 l, .int .i64 g, .int .i64 c, .complex .f64 re im, .slice q yl yc] 28)), p.v.cell? ⟨w.heap.size, 1, none⟩ = some (.int .i64 P) := fun p => p.cell pe.geo.lt pe.c1
            have g2 : ∀ p : KeptBy (wr.alloc (.cells #[.int .i64 6, .int .i64 l, .int .i64 g, .int .i64 c, .complex .f64 re im, .slice q yl yc] 28)), p.v.cell? ⟨w.heap.size, 2, none⟩ = some (.int .i64 W) := fun p => p.cell pe.geo.lt pe.c2
            have g3 : ∀ p : KeptBy (wr.alloc (.cells #[.int .i64 6, .int .i64 l, .int .i64 g, .int .i64 c, .complex .f64 re im, .slice q yl yc] 28)), p.v.cell? ⟨w.heap.size, 3, none⟩ = some (.int .i64 K) := fun p => p.cell pe.geo.lt pe.c3
            go_wp2_with fail
            refine wp_region_kept (by kernel_rfl) (by kernel_rfl) ?_
            repeat (quiet_step (first | (go_at_call 14; exact kept_of (cells_at _ _ _ _ L _ h HL.out))))
            refine wpQuiet_nil ?_
            rintro w3 ⟨⟨_, k3⟩, rfl⟩
            have p3 := pe.kept k3
            go_wp2_with fail
            go_roundw
            case rel => exact ⟨j + 1, by omega, by go_num, by rw [HS.out], by rw [HS.out], by rw [HS.out]; exact p3⟩
            case measure => simp [intOf]; omega
          · rw [step_none _ _ _ _ _ _ _ hd5 (by unfold Hits; omega)] at HS
            clear hd5
            have hb1 : decide (g < (N : Int)) = false := by simpa using hx2
            as_aux_lemma =>
            have pe := pr.alloc (.cells #[.int .i64 6, .int .i64 l, .int .i64 g, .int .i64 c, .complex .f64 re im, .slice q yl yc] 28)
            have be := Blk.new wr 28 #[.int .i64 6, .int .i64 l, .int .i64 g, .int .i64 c, .complex .f64 re im, .slice q yl yc]
            have q0 : ∀ p : KeptBy (wr.alloc (.cells #[.int .i64 6, .int .i64 l, .int .i64 g, .int .i64 c, .complex .f64 re im, .slice q yl yc] 28)), p.v.cell? ⟨wr.heap.size, 0, none⟩ = some (.int .i64 6) := fun p => p.cell be.lt (by rw [be.cell]; rfl)
            have q2 : ∀ p : KeptBy (wr.alloc (.cells #[.int .i64 6, .int .i64 l, .int .i64 g, .int .i64 c, .complex .f64 re im, .slice q yl yc] 28)), p.v.cell? ⟨wr.heap.size, 2, none⟩ = some (.int .i64 g) := fun p => p.cell be.lt (by rw [be.cell]; rfl)
            have q3 : ∀ p : KeptBy (wr.alloc (.cells #[.int .i64 6, .int .i64 l, .int .i64 g, .int .i64 c, .complex .f64 re im, .slice q yl yc] 28)), p.v.cell? ⟨wr.heap.size, 3, none⟩ = some (.int .i64 c) := fun p => p.cell be.lt (by rw [be.cell]; rfl)
            have g0 : ∀ p : KeptBy (wr.alloc (.cells #[.int .i64 6, .int .i64 l, .int .i64 g, .int .i64 c, .complex .f64 re im, .slice q yl yc] 28)), p.v.cell? ⟨w.heap.size, 0, none⟩ = some (.int .i64 B) := fun p => p.cell pe.geo.lt pe.c0
            have g1 : ∀ p : KeptBy (wr.alloc (.cells #[.int .i64 6, .int .i64 l, .int .i64 g, .int .i64 c, .complex .f64 re im, .slice q yl yc] 28)), p.v.cell? ⟨w.heap.size, 1, none⟩ = some (.int .i64 P) := fun p => p.cell pe.geo.lt pe.c1
            have g2 : ∀ p : KeptBy (wr.alloc (.cells #[.int .i64 6, .int .i64 l, .int .i64 g, .int .i64 c, .complex .f64 re im, .slice q yl yc] 28)), p.v.cell? ⟨w.heap.size, 2, none⟩ = some (.int .i64 W) := fun p => p.cell pe.geo.lt pe.c2
            have g3 : ∀ p : KeptBy (wr.alloc (.cells #[.int .i64 6, .int .i64 l, .int .i64 g, .int .i64 c, .complex .f64 re im, .slice q yl yc] 28)), p.v.cell? ⟨w.heap.size, 3, none⟩ = some (.int .i64 K) := fun p => p.cell pe.geo.lt pe.c3
            go_wp2_with fail
            refine wp_region_kept (by kernel_rfl) (by kernel_rfl) ?_
            repeat (quiet_step (first | (go_at_call 14; exact kept_of (cells_at _ _ _ _ L _ h HL.out))))
            refine wpQuiet_nil ?_
            rintro w3 ⟨⟨_, k3⟩, rfl⟩
            have p3 := pe.kept k3
            go_wp2_with fail
            go_roundw
            case rel => exact ⟨j + 1, by omega, by go_num, by rw [HS.out], by rw [HS.out], by rw [HS.out]; exact p3⟩
            case measure => simp [intOf]; omega
          · rw [step_none _ _ _ _ _ _ _ hd5 (by unfold Hits; omega)] at HS
            clear hd5
            have hb1 : decide (0 ≤ c) = false := by simpa using hx3
            as_aux_lemma =>
            have pe := pr.alloc (.cells #[.int .i64 6, .int .i64 l, .int .i64 g, .int .i64 c, .complex .f64 re im, .slice q yl yc] 28)
            have be := Blk.new wr 28 #[.int .i64 6, .int .i64 l, .int .i64 g, .int .i64 c, .complex .f64 re im, .slice q yl yc]
            have q0 : ∀ p : KeptBy (wr.alloc (.cells #[.int .i64 6, .int .i64 l, .int .i64 g, .int .i64 c, .complex .f64 re im, .slice q yl yc] 28)), p.v.cell? ⟨wr.heap.size, 0, none⟩ = some (.int .i64 6) := fun p => p.cell be.lt (by rw [be.cell]; rfl)
            have q2 : ∀ p : KeptBy (wr.alloc (.cells #[.int .i64 6, .int .i64 l, .int .i64 g, .int .i64 c, .complex .f64 re im, .slice q yl yc] 28)), p.v.cell? ⟨wr.heap.size, 2, none⟩ = some (.int .i64 g) := fun p => p.cell be.lt (by rw [be.cell]; rfl)
            have q3 : ∀ p : KeptBy (wr.alloc (.cells #[.int .i64 6, .int .i64 l, .int .i64 g, .int .i64 c, .complex .f64 re im, .slice q yl yc] 28)), p.v.cell? ⟨wr.heap.size, 3, none⟩ = some (.int .i64 c) := fun p => p.cell be.lt (by rw [be.cell]; rfl)
            have g0 : ∀ p : KeptBy (wr.alloc (.cells #[.int .i64 6, .int .i64 l, .int .i64 g, .int .i64 c, .complex .f64 re im, .slice q yl yc] 28)), p.v.cell? ⟨w.heap.size, 0, none⟩ = some (.int .i64 B) := fun p => p.cell pe.geo.lt pe.c0
            have g1 : ∀ p : KeptBy (wr.alloc (.cells #[.int .i64 6, .int .i64 l, .int .i64 g, .int .i64 c, .complex .f64 re im, .slice q yl yc] 28)), p.v.cell? ⟨w.heap.size, 1, none⟩ = some (.int .i64 P) := fun p => p.cell pe.geo.lt pe.c1
            have g2 : ∀ p : KeptBy (wr.alloc (.cells #[.int .i64 6, .int .i64 l, .int .i64 g, .int .i64 c, .complex .f64 re im, .slice q yl yc] 28)), p.v.cell? ⟨w.heap.size, 2, none⟩ = some (.int .i64 W) := fun p => p.cell pe.geo.lt pe.c2
            have g3 : ∀ p : KeptBy (wr.alloc (.cells #[.int .i64 6, .int .i64 l, .int .i64 g, .int .i64 c, .complex .f64 re im, .slice q yl yc] 28)), p.v.cell? ⟨w.heap.size, 3, none⟩ = some (.int .i64 K) := fun p => p.cell pe.geo.lt pe.c3
            go_wp2_with fail
            refine wp_region_kept (by kernel_rfl) (by kernel_rfl) ?_
            repeat (quiet_step (first | (go_at_call 14; exact kept_of (cells_at _ _ _ _ L _ h HL.out))))
            refine wpQuiet_nil ?_
            rintro w3 ⟨⟨_, k3⟩, rfl⟩
            have p3 := pe.kept k3
            go_wp2_with fail
            go_roundw
            case rel => exact ⟨j + 1, by omega, by go_num, by rw [HS.out], by rw [HS.out], by rw [HS.out]; exact p3⟩
            case measure => simp [intOf]; omega
          · rw [step_none _ _ _ _ _ _ _ hd5 (by unfold Hits; omega)] at HS
            clear hd5
            have hb1 : decide (c < (L : Int)) = false := by simpa using hx4
            as_aux_lemma =>
            have pe := pr.alloc (.cells #[.int .i64 6, .int .i64 l, .int .i64 g, .int .i64 c, .complex .f64 re im, .slice q yl yc] 28)
            have be := Blk.new wr 28 #[.int .i64 6, .int .i64 l, .int .i64 g, .int .i64 c, .complex .f64 re im, .slice q yl yc]
            have q0 : ∀ p : KeptBy (wr.alloc (.cells #[.int .i64 6, .int .i64 l, .int .i64 g, .int .i64 c, .complex .f64 re im, .slice q yl yc] 28)), p.v.cell? ⟨wr.heap.size, 0, none⟩ = some (.int .i64 6) := fun p => p.cell be.lt (by rw [be.cell]; rfl)
            have q2 : ∀ p : KeptBy (wr.alloc (.cells #[.int .i64 6, .int .i64 l, .int .i64 g, .int .i64 c, .complex .f64 re im, .slice q yl yc] 28)), p.v.cell? ⟨wr.heap.size, 2, none⟩ = some (.int .i64 g) := fun p => p.cell be.lt (by rw [be.cell]; rfl)
            have q3 : ∀ p : KeptBy (wr.alloc (.cells #[.int .i64 6, .int .i64 l, .int .i64 g, .int .i64 c, .complex .f64 re im, .slice q yl yc] 28)), p.v.cell? ⟨wr.heap.size, 3, none⟩ = some (.int .i64 c) := fun p => p.cell be.lt (by rw [be.cell]; rfl)
            have g0 : ∀ p : KeptBy (wr.alloc (.cells #[.int .i64 6, .int .i64 l, .int .i64 g, .int .i64 c, .complex .f64 re im, .slice q yl yc] 28)), p.v.cell? ⟨w.heap.size, 0, none⟩ = some (.int .i64 B) := fun p => p.cell pe.geo.lt pe.c0
            have g1 : ∀ p : KeptBy (wr.alloc (.cells #[.int .i64 6, .int .i64 l, .int .i64 g, .int .i64 c, .complex .f64 re im, .slice q yl yc] 28)), p.v.cell? ⟨w.heap.size, 1, none⟩ = some (.int .i64 P) := fun p => p.cell pe.geo.lt pe.c1
            have g2 : ∀ p : KeptBy (wr.alloc (.cells #[.int .i64 6, .int .i64 l, .int .i64 g, .int .i64 c, .complex .f64 re im, .slice q yl yc] 28)), p.v.cell? ⟨w.heap.size, 2, none⟩ = some (.int .i64 W) := fun p => p.cell pe.geo.lt pe.c2
            have g3 : ∀ p : KeptBy (wr.alloc (.cells #[.int .i64 6, .int .i64 l, .int .i64 g, .int .i64 c, .complex .f64 re im, .slice q yl yc] 28)), p.v.cell? ⟨w.heap.size, 3, none⟩ = some (.int .i64 K) := fun p => p.cell pe.geo.lt pe.c3
            go_wp2_with fail
            refine wp_region_kept (by kernel_rfl) (by kernel_rfl) ?_
            repeat (quiet_step (first | (go_at_call 14; exact kept_of (cells_at _ _ _ _ L _ h HL.out))))
            refine wpQuiet_nil ?_
            rintro w3 ⟨⟨_, k3⟩, rfl⟩
            have p3 := pe.kept k3
            go_wp2_with fail
            go_roundw
            case rel => exact ⟨j + 1, by omega, by go_num, by rw [HS.out], by rw [HS.out], by rw [HS.out]; exact p3⟩
            case measure => simp [intOf]; omega
          · rw [step_drift _ _ _ _ _ _ (by unfold Hits; omega)] at HS
            obtain ⟨GN, rfl⟩ := Int.eq_ofNat_of_zero_le hx
            obtain ⟨QN, rfl⟩ := Int.eq_ofNat_of_zero_le hx3
            obtain ⟨J, hJ⟩ : ∃ J, J = QN % m := ⟨_, rfl⟩
            have hm0 : 1 ≤ m ∧ m ≤ 4 := by
              have a := h.w0
              have b := h.w1
              rw [HM.out] at a b
              omega
            have hJ4 : J < 4 := by
              have : QN % m < m := Nat.mod_lt _ (by omega)
              omega
            simp only [Int.toNat_natCast] at HS
            rw [← hJ] at HS
            have EM : Hid ((QN : Int).tmod W = (J : Int)) := Lib.hid (by rw [HM.out, Int.tmod_eq_emod_of_nonneg (by omega), hJ]; rfl)
            clear hJ hd5
            as_aux_lemma =>
            have pe := pr.alloc (.cells #[.int .i64 6, .int .i64 l, .int .i64 (GN : Int), .int .i64 (QN : Int), .complex .f64 re im, .slice q yl yc] 28)
            have be := Blk.new wr 28 #[.int .i64 6, .int .i64 l, .int .i64 (GN : Int), .int .i64 (QN : Int), .complex .f64 re im, .slice q yl yc]
            have q0 : ∀ p : KeptBy (wr.alloc (.cells #[.int .i64 6, .int .i64 l, .int .i64 (GN : Int), .int .i64 (QN : Int), .complex .f64 re im, .slice q yl yc] 28)), p.v.cell? ⟨wr.heap.size, 0, none⟩ = some (.int .i64 6) := fun p => p.cell be.lt (by rw [be.cell]; rfl)
            have q2 : ∀ p : KeptBy (wr.alloc (.cells #[.int .i64 6, .int .i64 l, .int .i64 (GN : Int), .int .i64 (QN : Int), .complex .f64 re im, .slice q yl yc] 28)), p.v.cell? ⟨wr.heap.size, 2, none⟩ = some (.int .i64 (GN : Int)) := fun p => p.cell be.lt (by rw [be.cell]; rfl)
            have q3 : ∀ p : KeptBy (wr.alloc (.cells #[.int .i64 6, .int .i64 l, .int .i64 (GN : Int), .int .i64 (QN : Int), .complex .f64 re im, .slice q yl yc] 28)), p.v.cell? ⟨wr.heap.size, 3, none⟩ = some (.int .i64 (QN : Int)) := fun p => p.cell be.lt (by rw [be.cell]; rfl)
            have g0 : ∀ p : KeptBy (wr.alloc (.cells #[.int .i64 6, .int .i64 l, .int .i64 (GN : Int), .int .i64 (QN : Int), .complex .f64 re im, .slice q yl yc] 28)), p.v.cell? ⟨w.heap.size, 0, none⟩ = some (.int .i64 B) := fun p => p.cell pe.geo.lt pe.c0
            have g1 : ∀ p : KeptBy (wr.alloc (.cells #[.int .i64 6, .int .i64 l, .int .i64 (GN : Int), .int .i64 (QN : Int), .complex .f64 re im, .slice q yl yc] 28)), p.v.cell? ⟨w.heap.size, 1, none⟩ = some (.int .i64 P) := fun p => p.cell pe.geo.lt pe.c1
            have g2 : ∀ p : KeptBy (wr.alloc (.cells #[.int .i64 6, .int .i64 l, .int .i64 (GN : Int), .int .i64 (QN : Int), .complex .f64 re im, .slice q yl yc] 28)), p.v.cell? ⟨w.heap.size, 2, none⟩ = some (.int .i64 W) := fun p => p.cell pe.geo.lt pe.c2
            have g3 : ∀ p : KeptBy (wr.alloc (.cells #[.int .i64 6, .int .i64 l, .int .i64 (GN : Int), .int .i64 (QN : Int), .complex .f64 re im, .slice q yl yc] 28)), p.v.cell? ⟨w.heap.size, 3, none⟩ = some (.int .i64 K) := fun p => p.cell pe.geo.lt pe.c3
            go_wp2_with fail
            refine wp_region_kept (by kernel_rfl) (by kernel_rfl) ?_
            repeat (quiet_step (first | (go_at_call 14; exact kept_of (cells_at _ _ _ _ L _ h HL.out))))
            refine wpQuiet_nil ?_
            rintro w3 ⟨⟨_, k3⟩, rfl⟩
            have p3 := pe.kept k3
            go_wp2_with fail
            have d2 := q2 ⟨w3, k3⟩
            have d3 := q3 ⟨w3, k3⟩
            have gc2 := p3.c2
            clear q0 q2 q3 g0 g1 g2 g3
            have f0 := p3.cell (n := GN) (j := J) (by omega) hJ4
            have z0 := p3.frozen (GN * 4 + J)
            have hle2 := hle.C_ GN J
            have hJ4' : (J : Int) < 4 := by omega
            have ew : IntKind.i64.wrap ((s.C GN J : Int) + 1) = (s.C GN J : Int) + 1 := by rw [IntKind.wrap_i64]; omega
            have w0 := h.w0
            have e1 := EM.out
            have hW0 : ¬ W = 0 := by omega
            have hW1 : ¬ W = -1 := by omega
            have hmb := pr.cnt.lt
            have hwm := pr.gm
            have hn1 : ¬ wr.heap.size = w2.heap.size := by omega
            have hn2 : ¬ w.heap.size = w2.heap.size := by omega
            go_still_tail 14, (by kernel_rfl)
            change wpList _ _ _ _ _ w3.drew
            go_wp2_with fail
            have p4 : RateAt w w.heap.size w2.heap.size N B P W K (s.drift GN J).C (w3.setCell ⟨w2.heap.size, GN * 4 + J, none⟩ (.int .i64 ((s.C GN J : Int) + 1))).drew := (p3.set (n := GN) hJ4 (s.C GN J + 1)).drew
            have fn := p4.cell (n := GN) (j := J) (by omega) hJ4
            have en : (s.drift GN J).C GN J = s.C GN J + 1 := by simp [RSt.drift]
            rw [en] at fn
            clear en
            have gw := p4.c2
            have dd2 : (w3.setCell ⟨w2.heap.size, GN * 4 + J, none⟩ (.int .i64 ((s.C GN J : Int) + 1))).drew.cell? ⟨wr.heap.size, 2, none⟩ = some (.int .i64 GN) := by
              refine (World.cell?_of_block (w := w3) (Below.heap_setCell w3 _ _ _ ?_)).trans d2
              exact hn1
            have dd3 : (w3.setCell ⟨w2.heap.size, GN * 4 + J, none⟩ (.int .i64 ((s.C GN J : Int) + 1))).drew.cell? ⟨wr.heap.size, 3, none⟩ = some (.int .i64 QN) := by
              refine (World.cell?_of_block (w := w3) (Below.heap_setCell w3 _ _ _ ?_)).trans d3
              exact hn1
            obtain ⟨w4, hw4⟩ : ∃ w4, w4 = (w3.setCell ⟨w2.heap.size, GN * 4 + J, none⟩ (.int .i64 ((s.C GN J : Int) + 1))).drew := ⟨_, rfl⟩
            rw [← hw4] at p4 fn gw dd2 dd3 ⊢
            clear hw4 f0 z0 d2 d3 gc2
            go_still_tail 12, (by kernel_rfl)
            change wpList _ _ _ _ _ w4.drew
            go_wp2_with fail
            go_roundw
            case rel => exact ⟨j + 1, by omega, by go_num, by rw [HS.out, max_int]; rfl, by rw [HS.out]; rfl, by rw [HS.out]; exact p4.drew⟩
            case measure => simp [intOf]; omega
        · have hd6b : (d == 6) = false := by simpa using hd6
          have hd6c : decide (d = 6) = false := by simpa using hd6
          rw [step_none _ _ _ _ _ _ _ hd5 (fun e => hd6 e.1)] at HS
          clear hd5 hd6
          as_aux_lemma =>
          have pe := pr.alloc (.cells #[.int .i64 d, .int .i64 l, .int .i64 g, .int .i64 c, .complex .f64 re im, .slice q yl yc] 28)
          have be := Blk.new wr 28 #[.int .i64 d, .int .i64 l, .int .i64 g, .int .i64 c, .complex .f64 re im, .slice q yl yc]
          have q0 : ∀ p : KeptBy (wr.alloc (.cells #[.int .i64 d, .int .i64 l, .int .i64 g, .int .i64 c, .complex .f64 re im, .slice q yl yc] 28)), p.v.cell? ⟨wr.heap.size, 0, none⟩ = some (.int .i64 d) := fun p => p.cell be.lt (by rw [be.cell]; rfl)
          have q2 : ∀ p : KeptBy (wr.alloc (.cells #[.int .i64 d, .int .i64 l, .int .i64 g, .int .i64 c, .complex .f64 re im, .slice q yl yc] 28)), p.v.cell? ⟨wr.heap.size, 2, none⟩ = some (.int .i64 g) := fun p => p.cell be.lt (by rw [be.cell]; rfl)
          have q3 : ∀ p : KeptBy (wr.alloc (.cells #[.int .i64 d, .int .i64 l, .int .i64 g, .int .i64 c, .complex .f64 re im, .slice q yl yc] 28)), p.v.cell? ⟨wr.heap.size, 3, none⟩ = some (.int .i64 c) := fun p => p.cell be.lt (by rw [be.cell]; rfl)
          have g0 : ∀ p : KeptBy (wr.alloc (.cells #[.int .i64 d, .int .i64 l, .int .i64 g, .int .i64 c, .complex .f64 re im, .slice q yl yc] 28)), p.v.cell? ⟨w.heap.size, 0, none⟩ = some (.int .i64 B) := fun p => p.cell pe.geo.lt pe.c0
          have g1 : ∀ p : KeptBy (wr.alloc (.cells #[.int .i64 d, .int .i64 l, .int .i64 g, .int .i64 c, .complex .f64 re im, .slice q yl yc] 28)), p.v.cell? ⟨w.heap.size, 1, none⟩ = some (.int .i64 P) := fun p => p.cell pe.geo.lt pe.c1
          have g2 : ∀ p : KeptBy (wr.alloc (.cells #[.int .i64 d, .int .i64 l, .int .i64 g, .int .i64 c, .complex .f64 re im, .slice q yl yc] 28)), p.v.cell? ⟨w.heap.size, 2, none⟩ = some (.int .i64 W) := fun p => p.cell pe.geo.lt pe.c2
          have g3 : ∀ p : KeptBy (wr.alloc (.cells #[.int .i64 d, .int .i64 l, .int .i64 g, .int .i64 c, .complex .f64 re im, .slice q yl yc] 28)), p.v.cell? ⟨w.heap.size, 3, none⟩ = some (.int .i64 K) := fun p => p.cell pe.geo.lt pe.c3
          go_wp2_with fail
          refine wp_region_kept (by kernel_rfl) (by kernel_rfl) ?_
          repeat (quiet_step (first | (go_at_call 14; exact kept_of (cells_at _ _ _ _ L _ h HL.out))))
          refine wpQuiet_nil ?_
          rintro w3 ⟨⟨_, k3⟩, rfl⟩
          have p3 := pe.kept k3
          go_wp2_with fail
          go_roundw
          case rel => exact ⟨j + 1, by omega, by go_num, by rw [HS.out], by rw [HS.out], by rw [HS.out]; exact p3⟩
          case measure => simp [intOf]; omega
    · have hje : j = len := by omega
      subst hje
      go_wp2_with fail
      go_ret
      exact ⟨rfl, pr.keep⟩
end Go.Proofs.Ytaepllaipdacjaa
