/- blackboardlaw23.apart. -/
import Derived.Test.YtaepllaipdacjaaAwake
import Derived.Test.YtaepllaipdacjaaScript
import Derived.Test.YtaepllaipdacjaaGeoRef
import Derived.OwnWalk
import Derived.Deep.AppendLies
namespace Go.Proofs.Ytaepllaipdacjaa
open Go.RowKit
attribute [local go_sem] run_store_complex

theorem rem_at (x N q : Nat) (Z : Int) (hZ : Z = N) (hq : q = x % N) : (x : Int).tmod Z = (q : Int) := by rw [hZ, Int.tmod_eq_emod_of_nonneg (by omega), hq]; rfl

theorem Try.info_event : (Try.prog.info? 28).map (fun i => (i.zero, i.size, i.bytes)) = some (some (.agg #[.int .i64 0, .int .i64 0, .int .i64 0, .int .i64 0, .complex .f64 0 0, .slice none 0 0]), 6, 72) := by kernel_rfl
theorem event_parts : ∃ i, Try.prog.info? 28 = some i ∧ i.zero = some (.agg #[.int .i64 0, .int .i64 0, .int .i64 0, .int .i64 0, .complex .f64 0 0, .slice none 0 0]) ∧ i.size = 6 ∧ i.bytes = 72 := by
  obtain ⟨i, hi, hzz⟩ := Option.map_eq_some_iff.1 Try.info_event
  simp only [Prod.mk.injEq] at hzz
  exact ⟨i, hi, hzz.1, hzz.2.1, hzz.2.2⟩

set_option maxRecDepth 100000 in
set_option maxHeartbeats 2000000 in
theorem apart_true (w : World) (B P W K : Int) (page cell ticks : Nat) (hti : ticks < 256) :
    Calls Try.prog 9 #[geoV B P W K, .int .i64 page, .int .i64 cell, .int .i64 ticks] w fun e w' => e = .returned (.bool true) ∧ Keep (fun _ => False) w w' := by
  have k0 := (Keep.refl (fun _ => False) w).alloc (.cells #[.int .i64 B, .int .i64 P, .int .i64 W, .int .i64 K] 24)
  by_cases h : GeoOk B P W K
  · obtain ⟨m0, m1⟩ := mul_count h.b0 h.b1 h.p0 h.p1
    obtain ⟨l0, l1⟩ := mul_cells h.w0 h.w1 h.k0 h.k1
    obtain ⟨N, HN⟩ : ∃ N : Nat, Hid (B * P = N) := by
      obtain ⟨N, e⟩ := Int.eq_ofNat_of_zero_le (show 0 ≤ B * P by omega)
      exact ⟨N, Lib.hid e⟩
    obtain ⟨L, HL⟩ : ∃ L : Nat, Hid (W * (K + 16) = L) := by
      obtain ⟨L, e⟩ := Int.eq_ofNat_of_zero_le (show 0 ≤ W * (K + 16) by omega)
      exact ⟨L, Lib.hid e⟩
    have w0 := h.w0
    obtain ⟨m, HM⟩ : ∃ m : Nat, Hid (W = m) := by
      obtain ⟨m, e⟩ := Int.eq_ofNat_of_zero_le (show 0 ≤ W by omega)
      exact ⟨m, Lib.hid e⟩
    have hN0 : 0 < N := by have := HN.out; omega
    have hL0 : 0 < L := by have := HL.out; omega
    obtain ⟨p, hp⟩ : ∃ p, p = page % N := ⟨_, rfl⟩
    obtain ⟨c, hc⟩ : ∃ c, c = cell % L := ⟨_, rfl⟩
    have hpN : p < N := by rw [hp]; exact Nat.mod_lt _ hN0
    have hcL : c < L := by rw [hc]; exact Nat.mod_lt _ hL0
    have HP := Lib.hid (rem_at page N p (B * P) HN.out hp)
    have HC := Lib.hid (rem_at cell L c (W * (K + 16)) HL.out hc)
    clear hp hc
    go_enter Try.func9, Try.ntmps9
    go_wp2_with fail
    refine (gmay_yes _ _ _ _ _ h).mono ?_
    rintro e w1 ⟨rfl, k1⟩
    have bg := (Blk.new w 24 #[.int .i64 B, .int .i64 P, .int .i64 W, .int .i64 K]).keep k1 (by simp)
    have kk1 := k0.trans k1 (fun _ hi => .inl hi)
    have a0 : w1.cell? ⟨w.heap.size, 0, none⟩ = some (.int .i64 B) := by rw [bg.cell]; rfl
    have a1 : w1.cell? ⟨w.heap.size, 1, none⟩ = some (.int .i64 P) := by rw [bg.cell]; rfl
    have a2 : w1.cell? ⟨w.heap.size, 2, none⟩ = some (.int .i64 W) := by rw [bg.cell]; rfl
    have a3 : w1.cell? ⟨w.heap.size, 3, none⟩ = some (.int .i64 K) := by rw [bg.cell]; rfl
    have q0 : ∀ p : KeptBy w1, p.v.cell? ⟨w.heap.size, 0, none⟩ = some (.int .i64 B) := fun p => p.cell bg.lt a0
    have q1 : ∀ p : KeptBy w1, p.v.cell? ⟨w.heap.size, 1, none⟩ = some (.int .i64 P) := fun p => p.cell bg.lt a1
    have q2 : ∀ p : KeptBy w1, p.v.cell? ⟨w.heap.size, 2, none⟩ = some (.int .i64 W) := fun p => p.cell bg.lt a2
    have q3 : ∀ p : KeptBy w1, p.v.cell? ⟨w.heap.size, 3, none⟩ = some (.int .i64 K) := fun p => p.cell bg.lt a3
    have r0 : ¬ B * P = 0 := by omega
    have r1 : ¬ B * P = -1 := by omega
    have r2 : ¬ W * (K + 16) = 0 := by omega
    have r3 : ¬ W * (K + 16) = -1 := by omega
    have e1 := HP.out
    have e2 := HC.out
    clear k0 k1
    go_wp2_with fail
    refine wp_region_kept (by kernel_rfl) (by kernel_rfl) ?_
    repeat (quiet_step (first | (go_at_call 18; exact kept_of (rcells_any _ _ _ _ _ h))))
    refine wpQuiet_nil ?_
    rintro w2 ⟨⟨_, k2⟩, rfl⟩
    clear e1 e2 q0 q1 q2 q3 a0 a1 a2 a3 r2 r3
    have kk2 := kk1.trans k2 (fun _ hi => .inl hi)
    have bg2 := bg.keep k2 (by simp)
    clear kk1 bg k2
    go_wp2_with fail
    have bg3 := (bg2.alloc (.cells #[.int .i64 6, .int .i64 0, .int .i64 p, .int .i64 c, .complex .f64 4611686018427387904 0, .slice none 0 0] 28)).alloc (.cells #[.int .i64 6, .int .i64 0, .int .i64 p, .int .i64 c, .complex .f64 4611686018427387904 0, .slice none 0 0] 28)
    have bd3 := (Blk.new w2 28 #[.int .i64 6, .int .i64 0, .int .i64 p, .int .i64 c, .complex .f64 4611686018427387904 0, .slice none 0 0]).alloc (.cells #[.int .i64 6, .int .i64 0, .int .i64 p, .int .i64 c, .complex .f64 4611686018427387904 0, .slice none 0 0] 28)
    have kk3 := (kk2.alloc (.cells #[.int .i64 6, .int .i64 0, .int .i64 p, .int .i64 c, .complex .f64 4611686018427387904 0, .slice none 0 0] 28)).alloc (.cells #[.int .i64 6, .int .i64 0, .int .i64 p, .int .i64 c, .complex .f64 4611686018427387904 0, .slice none 0 0] 28)
    have hs : (w2.alloc (.cells #[.int .i64 6, .int .i64 0, .int .i64 p, .int .i64 c, .complex .f64 4611686018427387904 0, .slice none 0 0] 28)).heap.size = w2.heap.size + 1 := by simp
    have ho := World.ownsRow_lit (base := w2.heap.size + 1) (e := 28) (size := 6) (w2.alloc (.cells #[.int .i64 6, .int .i64 0, .int .i64 p, .int .i64 c, .complex .f64 4611686018427387904 0, .slice none 0 0] 28)) #[.int .i64 6, .int .i64 0, .int .i64 p, .int .i64 c, .complex .f64 4611686018427387904 0, .slice none 0 0] 1 (by rw [hs]; exact Nat.le_refl _) (by unfold maxLen; omega) rfl
    rw [hs] at ho
    have hgl := bg2.lt
    obtain ⟨ie, i1, i2, i3, i4⟩ := event_parts
    clear hs bg2 kk2
    go_loopw [13, 14, 15] (fun l vis i wr => ∃ k : Nat, k ≤ ticks ∧ i = .int .i64 k ∧ vis = .bool (seenBy N p k) ∧ wr.ownsRow (w2.heap.size + 1) 28 6 l (k + 1) (scriptCells p c k) ∧ Keep (fun _ => False) w wr ∧ Blk wr w.heap.size 24 #[.int .i64 B, .int .i64 P, .int .i64 W, .int .i64 K] ∧ Blk wr w2.heap.size 28 #[.int .i64 6, .int .i64 0, .int .i64 p, .int .i64 c, .complex .f64 4611686018427387904 0, .slice none 0 0]) (fun _ _ i _ => ticks - (intOf i).toNat)
    case atStart => exact ⟨0, Nat.zero_le _, rfl, rfl, ho, kk3, bg3, bd3⟩
    case round =>
      clear bg3 bd3 kk3 ho
      obtain ⟨k, hk, rfl, rfl, hown, kr, br, bd⟩ := hrel
      by_cases hkt : k < ticks
      · have hkt' : (k : Int) < (ticks : Int) := by omega
        have zb := br.lt
        have zd := bd.lt
        go_wp2_with (first
          | (at_builtin; refine wpList_append_own _ rfl _ _ 30 rfl (w2.heap.size + 1) 28 ie _ 6 72 Try.underlying30 i1 i2 i3 i4 rfl (by decide) _ _ _ rfl (hown.alloc _) ⟨wr.heap.size, 0, none⟩ 1 1 tickCells rfl rfl ?c1 ?c2 ?c3 ?c4 ?c5 ?_))
        case c1 =>
          intro j u hj
          have bt := Blk.new wr 28 #[.int .i64 5, .int .i64 0, .int .i64 0, .int .i64 0, .complex .f64 0 0, .slice none 0 0]
          have e : (Addr.add ⟨wr.heap.size, 0, none⟩ j) = ⟨wr.heap.size, j, none⟩ := by simp [Addr.add]; omega
          rw [e]
          exact (bt.cell j).trans (by rw [List.getElem?_toArray]; exact hj)
        case c2 =>
          intro u hu
          simp only [tickCells, List.mem_cons, List.not_mem_nil, or_false] at hu
          rcases hu with rfl | rfl | rfl | rfl | rfl | rfl <;> rfl
        case c3 => unfold maxLen; omega
        case c4 => omega
        case c5 => simp; omega
        · intro v' wa hown' hgrow _
          have hlt := hown.lt
          have hb1 : Blk wa w.heap.size 24 #[.int .i64 B, .int .i64 P, .int .i64 W, .int .i64 K] := by
            have h1 := br.alloc (.cells #[.int .i64 5, .int .i64 0, .int .i64 0, .int .i64 0, .complex .f64 0 0, .slice none 0 0] 28)
            exact (hgrow.block w.heap.size h1.lt (fun e => by have := hlt _ e.symm; omega)).trans h1
          have hd1 : Blk wa w2.heap.size 28 #[.int .i64 6, .int .i64 0, .int .i64 p, .int .i64 c, .complex .f64 4611686018427387904 0, .slice none 0 0] := by
            have h1 := bd.alloc (.cells #[.int .i64 5, .int .i64 0, .int .i64 0, .int .i64 0, .complex .f64 0 0, .slice none 0 0] 28)
            exact (hgrow.block w2.heap.size h1.lt (fun e => by have := hlt _ e.symm; omega)).trans h1
          have hk1 : Keep (fun _ => False) w wa := (kr.alloc _).grown hgrow (fun k e => .inr (by have := hlt _ e; omega))
          obtain ⟨q, hq⟩ : ∃ q, q = k % N := ⟨_, rfl⟩
          have EQ := Lib.hid (rem_at k N q (B * P) HN.out hq)
          have HQ := Lib.hid hq
          clear hq hlt hgrow hown br bd kr
          rcases hse : seenBy N p k with _ | _
          · by_cases hqp : q = p
            · subst hqp
              have HSn : Hid (seenBy N q (k + 1) = true) := Lib.hid (by simp [seenBy, HQ.out])
              clear hse
              have e1 := EQ.out
              go_wp2_with fail
              clear e1
              go_roundw
              case rel => exact ⟨k + 1, by omega, by go_num, by rw [HSn.out], hown', hk1, hb1, hd1⟩
              case measure => simp [intOf]; omega
            · have HSn : Hid (seenBy N p (k + 1) = false) := Lib.hid (by simp [seenBy, hse, ← HQ.out, hqp])
              have hb2 : ((q : Int) == (p : Int)) = false := by simp; omega
              have hb3 : decide ((q : Int) = (p : Int)) = false := by simp; omega
              clear hse
              have e1 := EQ.out
              go_wp2_with fail
              clear e1
              go_roundw
              case rel => exact ⟨k + 1, by omega, by go_num, by rw [HSn.out], hown', hk1, hb1, hd1⟩
              case measure => simp [intOf]; omega
          · have HSn : Hid (seenBy N p (k + 1) = true) := Lib.hid (by simp [seenBy, hse])
            clear hse
            go_wp2_with fail
            go_roundw
            case rel => exact ⟨k + 1, by omega, by go_num, by rw [HSn.out], hown', hk1, hb1, hd1⟩
            case measure => simp [intOf]; omega
      · have hke : k = ticks := by omega
        subst hke
        have zb := br.lt
        have zd := bd.lt
        have b0 : wr.cell? ⟨w2.heap.size, 0, none⟩ = some (.int .i64 6) := by rw [bd.cell]; rfl
        have b1 : wr.cell? ⟨w2.heap.size, 1, none⟩ = some (.int .i64 0) := by rw [bd.cell]; rfl
        have b2 : wr.cell? ⟨w2.heap.size, 2, none⟩ = some (.int .i64 p) := by rw [bd.cell]; rfl
        have b3 : wr.cell? ⟨w2.heap.size, 3, none⟩ = some (.int .i64 c) := by rw [bd.cell]; rfl
        have b4 : wr.cell? ⟨w2.heap.size, 4, none⟩ = some (.complex .f64 4611686018427387904 0) := by rw [bd.cell]; rfl
        have b5 : wr.cell? ⟨w2.heap.size, 5, none⟩ = some (.slice none 0 0) := by rw [bd.cell]; rfl
        go_wp2_with (first
          | (at_builtin; refine wpList_append_own _ rfl _ _ 30 rfl (w2.heap.size + 1) 28 ie _ 6 72 Try.underlying30 i1 i2 i3 i4 rfl (by decide) _ _ _ rfl (hown.alloc _) ⟨wr.heap.size, 0, none⟩ 1 1 (driftCells p c) rfl rfl ?c1 ?c2 ?c3 ?c4 ?c5 ?_))
        case c1 =>
          intro j u hj
          have bt := Blk.new wr 28 #[.int .i64 6, .int .i64 0, .int .i64 p, .int .i64 c, .complex .f64 4611686018427387904 0, .slice none 0 0]
          have e : (Addr.add ⟨wr.heap.size, 0, none⟩ j) = ⟨wr.heap.size, j, none⟩ := by simp [Addr.add]; omega
          rw [e]
          exact (bt.cell j).trans (by rw [List.getElem?_toArray]; exact hj)
        case c2 =>
          intro u hu
          simp only [driftCells, List.mem_cons, List.not_mem_nil, or_false] at hu
          rcases hu with rfl | rfl | rfl | rfl | rfl | rfl <;> rfl
        case c3 => unfold maxLen; omega
        case c4 => omega
        case c5 => simp; omega
        · intro v' wa hown' hgrow _
          have hlt := hown.lt
          have hb1 : Blk wa w.heap.size 24 #[.int .i64 B, .int .i64 P, .int .i64 W, .int .i64 K] := by
            have h1 := br.alloc (.cells #[.int .i64 6, .int .i64 0, .int .i64 p, .int .i64 c, .complex .f64 4611686018427387904 0, .slice none 0 0] 28)
            exact (hgrow.block w.heap.size h1.lt (fun e => by have := hlt _ e.symm; omega)).trans h1
          have hk1 : Keep (fun _ => False) w wa := (kr.alloc _).grown hgrow (fun k e => .inr (by have := hlt _ e; omega))
          obtain ⟨g, cap', hv, hg1, hg2⟩ := hown'.form (by omega)
          subst hv
          have hae := script_events (by omega) hown' hg2
          clear hlt hgrow hown hown' br bd kr b0 b1 b2 b3 b4 b5
          rcases hse : seenBy N p k with _ | _
          · as_aux_lemma =>
              have hw : (rateAt N m L (scD k) (scG p k) (scG c k) (k + 2)).worst = 2 := by rw [ticks_worst hpN hcL (two_drifts p c k), hse]; rfl
              clear hse
              go_wp2_with fail
              refine (awake_true _).mono ?_
              rintro e wb ⟨rfl, kb⟩
              have hb2 := hb1.keep kb (by simp)
              have hk2 := hk1.trans kb (fun _ hi => .inl hi)
              have ae2 := hae.keep kb
              have a0 : wb.cell? ⟨w.heap.size, 0, none⟩ = some (.int .i64 B) := by rw [hb2.cell]; rfl
              have a1 : wb.cell? ⟨w.heap.size, 1, none⟩ = some (.int .i64 P) := by rw [hb2.cell]; rfl
              have a2 : wb.cell? ⟨w.heap.size, 2, none⟩ = some (.int .i64 W) := by rw [hb2.cell]; rfl
              have a3 : wb.cell? ⟨w.heap.size, 3, none⟩ = some (.int .i64 K) := by rw [hb2.cell]; rfl
              go_wp2_with fail
              refine (worst_any wb B P W K h N m L HN.out HM.out HL.out _ (k + 2) cap' _ _ _ ae2).mono ?_
              rintro e wc ⟨rfl, kc⟩
              rw [hw]
              have hb3 := hb2.keep kc (by simp)
              have hk3 := hk2.trans kc (fun _ hi => .inl hi)
              have ae3 := ae2.keep kc
              clear a0 a1 a2 a3
              have a0 : wc.cell? ⟨w.heap.size, 0, none⟩ = some (.int .i64 B) := by rw [hb3.cell]; rfl
              have a1 : wc.cell? ⟨w.heap.size, 1, none⟩ = some (.int .i64 P) := by rw [hb3.cell]; rfl
              have a2 : wc.cell? ⟨w.heap.size, 2, none⟩ = some (.int .i64 W) := by rw [hb3.cell]; rfl
              have a3 : wc.cell? ⟨w.heap.size, 3, none⟩ = some (.int .i64 K) := by rw [hb3.cell]; rfl
              go_wp2_with fail
              refine (calm_yes wc B P W K h N m L HN.out HM.out HL.out _ (k + 2) cap' _ _ _ ae3 2 (by rw [hw]; decide) (fun i _ => by unfold scD; split <;> decide)).mono ?_
              rintro e wd ⟨rfl, kd⟩
              have hb4 := hb3.keep kd (by simp)
              have hk4 := hk3.trans kd (fun _ hi => .inl hi)
              have ae4 := ae3.keep kd
              clear a0 a1 a2 a3
              have a0 : wd.cell? ⟨w.heap.size, 0, none⟩ = some (.int .i64 B) := by rw [hb4.cell]; rfl
              have a1 : wd.cell? ⟨w.heap.size, 1, none⟩ = some (.int .i64 P) := by rw [hb4.cell]; rfl
              have a2 : wd.cell? ⟨w.heap.size, 2, none⟩ = some (.int .i64 W) := by rw [hb4.cell]; rfl
              have a3 : wd.cell? ⟨w.heap.size, 3, none⟩ = some (.int .i64 K) := by rw [hb4.cell]; rfl
              go_wp2_with fail
              refine (calm_big wd B P W K h N m L HN.out HM.out HL.out _ (k + 2) cap' _ _ _ ae4 1 (by rw [hw]; decide)).mono ?_
              rintro e we ⟨rfl, ke⟩
              have hk5 := hk4.trans ke (fun _ hi => .inl hi)
              go_wp2_with fail
              go_ret
              exact ⟨rfl, hk5⟩
          · as_aux_lemma =>
              have hw : (rateAt N m L (scD k) (scG p k) (scG c k) (k + 2)).worst = 1 := by rw [ticks_worst hpN hcL (two_drifts p c k), hse]; rfl
              clear hse
              go_wp2_with fail
              refine (awake_true _).mono ?_
              rintro e wb ⟨rfl, kb⟩
              have hb2 := hb1.keep kb (by simp)
              have hk2 := hk1.trans kb (fun _ hi => .inl hi)
              have ae2 := hae.keep kb
              have a0 : wb.cell? ⟨w.heap.size, 0, none⟩ = some (.int .i64 B) := by rw [hb2.cell]; rfl
              have a1 : wb.cell? ⟨w.heap.size, 1, none⟩ = some (.int .i64 P) := by rw [hb2.cell]; rfl
              have a2 : wb.cell? ⟨w.heap.size, 2, none⟩ = some (.int .i64 W) := by rw [hb2.cell]; rfl
              have a3 : wb.cell? ⟨w.heap.size, 3, none⟩ = some (.int .i64 K) := by rw [hb2.cell]; rfl
              go_wp2_with fail
              refine (worst_any wb B P W K h N m L HN.out HM.out HL.out _ (k + 2) cap' _ _ _ ae2).mono ?_
              rintro e wc ⟨rfl, kc⟩
              rw [hw]
              have hb3 := hb2.keep kc (by simp)
              have hk3 := hk2.trans kc (fun _ hi => .inl hi)
              have ae3 := ae2.keep kc
              clear a0 a1 a2 a3
              have a0 : wc.cell? ⟨w.heap.size, 0, none⟩ = some (.int .i64 B) := by rw [hb3.cell]; rfl
              have a1 : wc.cell? ⟨w.heap.size, 1, none⟩ = some (.int .i64 P) := by rw [hb3.cell]; rfl
              have a2 : wc.cell? ⟨w.heap.size, 2, none⟩ = some (.int .i64 W) := by rw [hb3.cell]; rfl
              have a3 : wc.cell? ⟨w.heap.size, 3, none⟩ = some (.int .i64 K) := by rw [hb3.cell]; rfl
              go_wp2_with fail
              refine (calm_yes wc B P W K h N m L HN.out HM.out HL.out _ (k + 2) cap' _ _ _ ae3 1 (by rw [hw]; decide) (fun i _ => by unfold scD; split <;> decide)).mono ?_
              rintro e wd ⟨rfl, kd⟩
              have hb4 := hb3.keep kd (by simp)
              have hk4 := hk3.trans kd (fun _ hi => .inl hi)
              have ae4 := ae3.keep kd
              clear a0 a1 a2 a3
              have a0 : wd.cell? ⟨w.heap.size, 0, none⟩ = some (.int .i64 B) := by rw [hb4.cell]; rfl
              have a1 : wd.cell? ⟨w.heap.size, 1, none⟩ = some (.int .i64 P) := by rw [hb4.cell]; rfl
              have a2 : wd.cell? ⟨w.heap.size, 2, none⟩ = some (.int .i64 W) := by rw [hb4.cell]; rfl
              have a3 : wd.cell? ⟨w.heap.size, 3, none⟩ = some (.int .i64 K) := by rw [hb4.cell]; rfl
              go_wp2_with fail
              refine (calm_big wd B P W K h N m L HN.out HM.out HL.out _ (k + 2) cap' _ _ _ ae4 0 (by rw [hw]; decide)).mono ?_
              rintro e we ⟨rfl, ke⟩
              have hk5 := hk4.trans ke (fun _ hi => .inl hi)
              go_wp2_with fail
              go_ret
              exact ⟨rfl, hk5⟩
  · go_enter Try.func9, Try.ntmps9
    go_wp2_with fail
    refine (gmay_no _ _ _ _ _ h).mono ?_
    rintro e w1 ⟨rfl, k1⟩
    have kk1 := k0.trans k1 (fun _ hi => .inl hi)
    go_wp2_with fail
    refine (awake_true _).mono ?_
    rintro e w2 ⟨rfl, k2⟩
    go_wp2_with fail
    go_ret
    exact ⟨rfl, kk1.trans k2 (fun _ hi => .inl hi)⟩
end Go.Proofs.Ytaepllaipdacjaa
