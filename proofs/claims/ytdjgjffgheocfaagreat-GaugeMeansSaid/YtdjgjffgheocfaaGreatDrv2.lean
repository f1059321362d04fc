/- A drive: lose, wipe. -/
import Derived.Test.YtdjgjffgheocfaaGreatDrv
namespace Go.Proofs.YtdjgjffgheocfaaGreat
open Go.RowKit

/-- None of the drive's blocks is one of the chip's. -/
def DApart (r : DR) (num : CR → Nat) (C : ChipS) : Prop := ∀ k, drvB r k → ¬ Own num C k
theorem own_apart {r : DR} {cb B P W K : Nat} {D : DrvS} {w : World} (h : DrvM r cb B P W K D w) {num : CR → Nat} {C : ChipS} (hm : ChipM num w C) (hs : ∀ i j, CR.used C (.sym i j) → ¬ drvB r (num (.sym i j))) : DApart r num C := by
  rintro k hk ⟨x, hx, rfl⟩
  cases x with
  | chip =>
    obtain ⟨cl, h1, _⟩ := hm.chip
    exact h.far h1 (by decide) hk
  | ltab =>
    obtain ⟨cl, _, h1⟩ := hm.chip
    obtain ⟨cs, h2⟩ := h1.blk
    exact h.far h2 (by decide) hk
  | fts => exact h.far hm.fts.b (by decide) hk
  | fmap =>
    obtain ⟨n, es, clock, hh, _⟩ := hm.fts.m
    have hx : ∃ T cs, Blk w (num .fmap) T cs := by
      rcases hk with e | e | e | e | e | e | e | e | e | e | e | e | e | e <;> rw [e]
      · exact ⟨_, _, h.head⟩
      · exact ⟨_, _, h.host⟩
      · exact ⟨_, _, h.map.raw.hm⟩
      · exact ⟨_, _, h.map.raw.ha⟩
      · exact ⟨_, _, h.map.raw.ho⟩
      · exact ⟨_, _, h.map.raw.hb.hp⟩
      · exact ⟨_, _, h.map.raw.hb.hs⟩
      · exact ⟨_, _, h.yard.hy⟩
      · exact ⟨_, _, h.yard.hs⟩
      · exact ⟨_, _, h.yard.he⟩
      · exact ⟨_, _, h.frn⟩
      · exact ⟨_, _, h.pat⟩
      · exact ⟨_, _, h.tab.e⟩
      · exact ⟨_, _, h.tab.l⟩
    obtain ⟨T, cs, hb⟩ := hx
    unfold Blk at hb
    rw [hh] at hb
    cases hb
  | blk i =>
    obtain ⟨cp, h1, _⟩ := hm.blk i hx
    exact h.far h1 (by decide) hk
  | ptab i =>
    obtain ⟨cp, _, h1⟩ := hm.blk i hx
    obtain ⟨cs, h2⟩ := h1.blk
    exact h.far h2 (by decide) hk
  | cel i j =>
    obtain ⟨cs, h1⟩ := (hm.page i j hx.1 hx.2).cblk
    exact h.far h1 (by decide) hk
  | pts i j => exact h.far (hm.page i j hx.1 hx.2).p (by decide) hk
  | sym i j => exact hs i j hx hk
/-- What the drive and its chip have. -/
def dcB (r : DR) (num : CR → Nat) (C : ChipS) (k : Nat) : Prop := drvB r k ∨ Own num C k
set_option maxRecDepth 100000 in
set_option maxHeartbeats 1000000 in
theorem lose_ok (r : DR) (cb B P W K : Nat) (D : DrvS) (w : World) (h : DrvM r cb B P W K D w) (b : Nat) (hb : b < B) (hs : D.st b ≠ 4) (hl : D.lost < 1000000) :
    Calls Tryz.prog 34 #[.pointer (some ⟨r.db, 0, none⟩), .int .i64 b] w fun e w' => e = .returned (.tuple #[]) ∧
      DrvM r cb B P W K { D with st := updN D.st b 4, lost := D.lost + 1, ro := D.ro || decide (D.sp < D.lost + 1) } w' ∧ Keep (fun k => k = r.db ∨ k = r.y.sb) w w' := by
  have hy := h.yard
  have hT := Lib.hid (yturn_yes r.y D.st D.er w hy b (by rw [h.yn]; exact hb) 4 (by omega) (by unfold mayB; simp; omega))
  have hc := h.hc
  have c12 := hc.c12
  have HD := Lib.hid h
  obtain ⟨L1, hL1⟩ : ∃ L1, L1 = D.lost + 1 := ⟨_, rfl⟩
  have e1 : IntKind.i64.wrap ((D.lost : Int) + 1) = (L1 : Int) := by rw [show (D.lost : Int) + 1 = (L1 : Int) by omega]; exact wraps_i64 _ (by omega) (by omega)
  have e2 : (D.lost : Int) + 1 = (L1 : Int) := by omega
  have hL2 : L1 ≤ 1000000 := by omega
  rw [← hL1]
  have HL := Lib.hid hL1
  obtain ⟨ro, hro⟩ : ∃ ro, ro = (D.ro || decide (D.sp < L1)) := ⟨_, rfl⟩
  rw [← hro]
  have HRO := Lib.hid hro
  clear hro
  clear h hy hc hL1
  go_enter Tryz.func34, Tryz.ntmps34
  go_wp2_with (first | (go_at_call 56; refine hT.out.mono ?_))
  rintro e w1 ⟨rfl, hy1, k1⟩
  have h1 := HD.out.setYard _ _ (k1.more (fun i e => .inl (.inl e))) hy1
  have K1 := Lib.hid k1
  have hc1 := h1.hc
  have c8 := hc1.c8
  have z8 := hc1.b.frozen 8
  have b2 : Blk (w1.setCell ⟨r.db, 8, none⟩ (.int .i64 (L1 : Nat))) r.db 89 (headD r cb B P W K { D with st := updN D.st b 4, er := D.er, lost := L1 }) := hc1.b.put 8 (.int .i64 (L1 : Nat))
  have k2 := (Keep.refl (· = r.db) w1).setCell (p := ⟨r.db, 8, none⟩) (.inl rfl) (.int .i64 (L1 : Nat))
  have h2 := h1.setHead { D with st := updN D.st b 4, er := D.er, lost := L1 } k2 b2 ⟨rfl, rfl, rfl, rfl, rfl, rfl, rfl, rfl, rfl, rfl, rfl⟩
  have K2 := Lib.hid k2
  change w1.cell? ⟨r.db, 8, none⟩ = some (.int .i64 (D.lost : Nat)) at c8
  clear hy1 k1 h1 hc1 c12 b2 k2
  go_upto_region 2 with (fail)
  generalize w1.setCell ⟨r.db, 8, none⟩ (.int .i64 (L1 : Nat)) = w2 at *
  have hc2 := h2.hc
  have d7 := hc2.c7
  have d8 := hc2.c8
  have d16 := hc2.c16
  have z16 := hc2.b.frozen 16
  change w2.cell? ⟨r.db, 7, none⟩ = some (.int .i64 (D.sp : Nat)) at d7
  change w2.cell? ⟨r.db, 8, none⟩ = some (.int .i64 (L1 : Nat)) at d8
  change w2.cell? ⟨r.db, 16, none⟩ = some (.bool D.ro) at d16
  have hro := HRO.out
  have b3 : Blk (w2.setCell ⟨r.db, 16, none⟩ (.bool ro)) r.db 89 (headD r cb B P W K { D with st := updN D.st b 4, er := D.er, lost := L1, ro := ro }) := hc2.b.put 16 (.bool ro)
  have k3 := (Keep.refl (· = r.db) w2).setCell (p := ⟨r.db, 16, none⟩) (.inl rfl) (.bool ro)
  have H3 := Lib.hid (h2.setHead { D with st := updN D.st b 4, er := D.er, lost := L1, ro := ro } k3 b3 ⟨rfl, rfl, rfl, rfl, rfl, rfl, rfl, rfl, rfl, rfl, rfl⟩)
  have K3 := Lib.hid (((K1.out.more (fun i e => .inl (.inr e)) : Keep (fun k => k = r.db ∨ k = r.y.sb) w w1).trans K2.out (fun i e => .inl (.inl e))).trans k3 (fun i e => .inl (.inl e)))
  clear h2 hc2 b3 k3 K1 K2 HD
  cases h16 : D.ro
  · rw [h16] at d16 hro
    by_cases hlt : D.sp < L1
    · have hlt' : decide ((D.sp : Int) < (L1 : Int)) = true := decide_eq_true (by omega)
      rw [Bool.false_or, decide_eq_true hlt] at hro
      subst hro
      go_region
      all_goals
        go_wp2_with fail
        go_end0
        exact ⟨rfl, H3.out.keepF ((Keep.refl _ _).drewN 1), K3.out.drewN 1⟩
    · have hlt' : decide ((D.sp : Int) < (L1 : Int)) = false := decide_eq_false (by omega)
      rw [Bool.false_or, decide_eq_false hlt] at hro
      subst hro
      go_region
      all_goals
        go_wp2_with fail
        go_end0
        exact ⟨rfl, H3.out.keepF ((Keep.refl _ _).drewN 1), K3.out.drewN 1⟩
  · rw [h16] at d16 hro
    rw [Bool.true_or] at hro
    subst hro
    go_region
    all_goals
      go_wp2_with fail
      go_end0
      exact ⟨rfl, H3.out.keepF ((Keep.refl _ _).drewN 1), K3.out.drewN 1⟩
theorem used_wiped {C : ChipS} {i j : Nat} {x : CR} (h : CR.used (C.wiped i j) x) : CR.used C x := by
  cases x with
  | sym a b =>
    obtain ⟨h1, h2, h3⟩ := h
    refine ⟨h1, h2, ?_⟩
    unfold ChipS.wiped at h3
    dsimp only at h3
    split at h3
    · cases h3
    · exact h3
  | _ => exact h
theorem used_tick {C : ChipS} {x : CR} (h : CR.used C.tick x) : CR.used C x := by cases x <;> exact h
theorem DApart.wiped {r : DR} {num : CR → Nat} {C : ChipS} (h : DApart r num C) (i j : Nat) : DApart r num (C.tick.wiped i j) := fun k hk ⟨x, hx, e⟩ => h k hk ⟨x, used_tick (used_wiped hx), e⟩
theorem DApart.tick {r : DR} {num : CR → Nat} {C : ChipS} (h : DApart r num C) : DApart r num C.tick := fun k hk ⟨x, hx, e⟩ => h k hk ⟨x, used_tick hx, e⟩
theorem ChipM.off {r : DR} {num : CR → Nat} {C : ChipS} {w w' : World} {S : Nat → Prop} (h : ChipM num w C) (ha : DApart r num C) (hk : Keep S w w') (hS : ∀ k, S k → drvB r k) : ChipM num w' C :=
  h.keep hk (fun x hx e => ha _ (hS _ e) ⟨x, hx, rfl⟩)
def freeSt (st : Nat → Nat) (b : Nat) : Nat → Nat := if mayB (st b) 1 = true then updN st b 1 else st
theorem yfree_any (y : YD) (st er : Nat → Nat) (w : World) (h : IsYard y st er w) (b : Nat) (hb : b < y.n) :
    Calls Tryz.prog 56 #[.pointer (some ⟨y.yb, 0, none⟩), .int .i64 b, .int .i64 1] w fun e w' => (∃ v, e = .returned (.bool v)) ∧ IsYard y (freeSt st b) er w' ∧ Keep (fun k => k = y.sb ∨ k = y.eb) w w' := by
  cases hm : mayB (st b) 1
  · refine (yturn_no y st er w h b hb 1 (by omega) hm).mono ?_
    rintro e w1 ⟨rfl, rfl⟩
    unfold freeSt
    rw [if_neg (by simp [hm])]
    exact ⟨⟨_, rfl⟩, h, Keep.refl _ _⟩
  · refine (yturn_yes y st er w h b hb 1 (by omega) hm).mono ?_
    rintro e w1 ⟨rfl, h1, k1⟩
    unfold freeSt
    rw [if_pos hm]
    exact ⟨⟨_, rfl⟩, h1, k1.more (fun i e => .inl (.inl e))⟩
set_option maxRecDepth 100000 in
set_option maxHeartbeats 1000000 in
/-- wipe: a block is erased. -/
theorem wipe_ok (r : DR) (num : CR → Nat) (C : ChipS) (D : DrvS) (w : World) (hM : ChipM num w C) (hD : DrvM r (num .chip) C.B C.P C.W C.K D w) (ha : DApart r num C) (hd : C.dark = false) (hops : C.ops < 1099511627776) (hF : C.F (C.ops : Int) = none)
    (b : Nat) (hb : b < C.B) (hm : C.bad b = false) (hk : C.bk b = false) (he : D.er b < 1099511627776) :
    Calls Tryz.prog 35 #[.pointer (some ⟨r.db, 0, none⟩), .int .i64 b] w fun e w' => e = .returned (.int .i64 0) ∧ ChipM num w' (C.tick.wiped b C.P) ∧
      DrvM r (num .chip) C.B C.P C.W C.K { D with st := freeSt D.st b, er := updN D.er b (D.er b + 1) } w' ∧ Keep (dcB r num C) w w' := by
  have hE := Lib.hid (erase_yes num C w hM hd hops 0 0 0 (by rw [hF]; rfl) (by omega) (by omega) b hb hm hk)
  have HA := Lib.hid ha
  have HD := Lib.hid hD
  have HB := Lib.hid (And.intro hb he)
  have c2 := hD.hc.c2
  clear hM hD ha hd hops hF hm hk hb he
  go_enter Tryz.func35, Tryz.ntmps35
  go_wp2_with fail
  refine hE.out.mono ?_
  rintro e w1 ⟨rfl, hm1, k1⟩
  have h1 := HD.out.keep k1 HA.out
  have HM1 := Lib.hid hm1
  have K1 := Lib.hid (k1.more (fun i e => .inl (.inr e)) : Keep (dcB r num C) w w1)
  have hH := Lib.hid (heard_ok r (num .chip) C.B C.P C.W C.K D w1 h1 0 (by omega))
  clear hE hm1 k1 h1 c2 HD
  go_wp2_with fail
  refine hH.out.mono ?_
  rintro e w2 ⟨rfl, h2, k2⟩
  have HM2 := Lib.hid (HM1.out.off (HA.out.wiped b C.P) k2 (fun k e => .inl e))
  have K2 := Lib.hid (K1.out.trans k2 (fun i e => .inl (.inl (.inl e))))
  have hY := Lib.hid (yerased_any r.y D.st D.er w2 h2.yard b (by rw [h2.yn]; exact HB.out.1) HB.out.2)
  have HD2 := Lib.hid h2
  have c12 := h2.hc.c12
  clear h2 k2 hH HM1 K1
  go_wp2_with fail
  refine hY.out.mono ?_
  rintro e w3 ⟨rfl, y3, k3⟩
  have h3 := HD2.out.setYard _ _ (k3.more (fun i e => .inl (.inr e))) y3
  have HM3 := Lib.hid (HM2.out.off (HA.out.wiped b C.P) k3 (fun k e => by rw [show k = r.y.eb from e]; simp [drvB]))
  have K3 := Lib.hid (K2.out.trans k3 (fun i e => .inl (.inl (by rw [show i = r.y.eb from e]; simp [drvB]))))
  have hT := Lib.hid (yfree_any r.y D.st (updN D.er b (D.er b + 1)) w3 y3 b (by rw [h3.yn]; exact HB.out.1))
  have HD3 := Lib.hid h3
  have d12 := h3.hc.c12
  clear h3 y3 k3 hY HD2 HM2 K2 c12
  go_wp2_with fail
  refine hT.out.mono ?_
  rintro e w4 ⟨⟨v, rfl⟩, y4, k4⟩
  have H4 := Lib.hid (HD3.out.setYard _ _ k4 y4)
  have HM4 := Lib.hid (HM3.out.off (HA.out.wiped b C.P) k4 (fun k e => by rcases e with e | e <;> rw [e] <;> simp [drvB]))
  have K4 := Lib.hid (K3.out.trans k4 (fun i e => .inl (.inl (by rcases e with e | e <;> rw [e] <;> simp [drvB]))))
  clear y4 k4 hT HD3 HM3 K3 d12
  go_wp2_with fail
  go_ret
  exact ⟨rfl, HM4.out, H4.out, K4.out⟩
end Go.Proofs.YtdjgjffgheocfaaGreat
