/- gauge.Of: the stage's chip and drive; the measure. -/
import Derived.Test.YtdjgjffgheocfaaGreatStage
namespace Go.Proofs.YtdjgjffgheocfaaGreat
open Go.RowKit

theorem schip_ok (sb cb db pb B P W K : Nat) (s : Int) (w : World) (h : StgB sb cb db pb B P W K s w) :
    Calls Tryz.prog 18 #[.pointer (some ⟨sb, 0, none⟩)] w fun e w' => e = .returned (.pointer (some ⟨cb, 0, none⟩)) ∧ w = w' := by
  have c5 : w.cell? ⟨sb, 5, none⟩ = some (.pointer (some ⟨cb, 0, none⟩)) := by rw [Blk.cell h]; rfl
  clear h
  go_enter Tryz.func18, Tryz.ntmps18
  go_wp2_with fail
  go_ret
  exact ⟨rfl, rfl⟩
theorem sdrive_ok (sb cb db pb B P W K : Nat) (s : Int) (w : World) (h : StgB sb cb db pb B P W K s w) :
    Calls Tryz.prog 25 #[.pointer (some ⟨sb, 0, none⟩)] w fun e w' => e = .returned (.pointer (some ⟨db, 0, none⟩)) ∧ w = w' := by
  have c6 : w.cell? ⟨sb, 6, none⟩ = some (.pointer (some ⟨db, 0, none⟩)) := by rw [Blk.cell h]; rfl
  clear h
  go_enter Tryz.func25, Tryz.ntmps25
  go_wp2_with fail
  go_ret
  exact ⟨rfl, rfl⟩
set_option maxHeartbeats 2000000 in
theorem gauge_put {w : World} {g : Nat} {a0 a1 a2 a3 a4 a5 a6 a7 : Value} (b : Blk w g 45 #[a0, a1, a2, a3, a4, a5, a6, a7]) (v0 v1 v2 v3 v4 v5 v6 v7 : Value) :
    ((w.cell? ⟨g, 0, none⟩ = some a0 ∧ w.frozen? ⟨g, 0, none⟩ = false) ∧ ((w.setCell ⟨g, 0, none⟩ v0).cell? ⟨g, 1, none⟩ = some a1 ∧ (w.setCell ⟨g, 0, none⟩ v0).frozen? ⟨g, 1, none⟩ = false) ∧ (((w.setCell ⟨g, 0, none⟩ v0).setCell ⟨g, 1, none⟩ v1).cell? ⟨g, 2, none⟩ = some a2 ∧ ((w.setCell ⟨g, 0, none⟩ v0).setCell ⟨g, 1, none⟩ v1).frozen? ⟨g, 2, none⟩ = false) ∧ ((((w.setCell ⟨g, 0, none⟩ v0).setCell ⟨g, 1, none⟩ v1).setCell ⟨g, 2, none⟩ v2).cell? ⟨g, 3, none⟩ = some a3 ∧ (((w.setCell ⟨g, 0, none⟩ v0).setCell ⟨g, 1, none⟩ v1).setCell ⟨g, 2, none⟩ v2).frozen? ⟨g, 3, none⟩ = false) ∧ (((((w.setCell ⟨g, 0, none⟩ v0).setCell ⟨g, 1, none⟩ v1).setCell ⟨g, 2, none⟩ v2).setCell ⟨g, 3, none⟩ v3).cell? ⟨g, 4, none⟩ = some a4 ∧ ((((w.setCell ⟨g, 0, none⟩ v0).setCell ⟨g, 1, none⟩ v1).setCell ⟨g, 2, none⟩ v2).setCell ⟨g, 3, none⟩ v3).frozen? ⟨g, 4, none⟩ = false) ∧ ((((((w.setCell ⟨g, 0, none⟩ v0).setCell ⟨g, 1, none⟩ v1).setCell ⟨g, 2, none⟩ v2).setCell ⟨g, 3, none⟩ v3).setCell ⟨g, 4, none⟩ v4).cell? ⟨g, 5, none⟩ = some a5 ∧ (((((w.setCell ⟨g, 0, none⟩ v0).setCell ⟨g, 1, none⟩ v1).setCell ⟨g, 2, none⟩ v2).setCell ⟨g, 3, none⟩ v3).setCell ⟨g, 4, none⟩ v4).frozen? ⟨g, 5, none⟩ = false) ∧ (((((((w.setCell ⟨g, 0, none⟩ v0).setCell ⟨g, 1, none⟩ v1).setCell ⟨g, 2, none⟩ v2).setCell ⟨g, 3, none⟩ v3).setCell ⟨g, 4, none⟩ v4).setCell ⟨g, 5, none⟩ v5).cell? ⟨g, 6, none⟩ = some a6 ∧ ((((((w.setCell ⟨g, 0, none⟩ v0).setCell ⟨g, 1, none⟩ v1).setCell ⟨g, 2, none⟩ v2).setCell ⟨g, 3, none⟩ v3).setCell ⟨g, 4, none⟩ v4).setCell ⟨g, 5, none⟩ v5).frozen? ⟨g, 6, none⟩ = false) ∧ ((((((((w.setCell ⟨g, 0, none⟩ v0).setCell ⟨g, 1, none⟩ v1).setCell ⟨g, 2, none⟩ v2).setCell ⟨g, 3, none⟩ v3).setCell ⟨g, 4, none⟩ v4).setCell ⟨g, 5, none⟩ v5).setCell ⟨g, 6, none⟩ v6).cell? ⟨g, 7, none⟩ = some a7 ∧ (((((((w.setCell ⟨g, 0, none⟩ v0).setCell ⟨g, 1, none⟩ v1).setCell ⟨g, 2, none⟩ v2).setCell ⟨g, 3, none⟩ v3).setCell ⟨g, 4, none⟩ v4).setCell ⟨g, 5, none⟩ v5).setCell ⟨g, 6, none⟩ v6).frozen? ⟨g, 7, none⟩ = false)) ∧ Blk ((((((((w.setCell ⟨g, 0, none⟩ v0).setCell ⟨g, 1, none⟩ v1).setCell ⟨g, 2, none⟩ v2).setCell ⟨g, 3, none⟩ v3).setCell ⟨g, 4, none⟩ v4).setCell ⟨g, 5, none⟩ v5).setCell ⟨g, 6, none⟩ v6).setCell ⟨g, 7, none⟩ v7) g 45 #[v0, v1, v2, v3, v4, v5, v6, v7] := by
  have Z1 : Blk (w.setCell ⟨g, 0, none⟩ v0) g 45 #[v0, a1, a2, a3, a4, a5, a6, a7] := b.put 0 _
  have Z2 : Blk ((w.setCell ⟨g, 0, none⟩ v0).setCell ⟨g, 1, none⟩ v1) g 45 #[v0, v1, a2, a3, a4, a5, a6, a7] := Z1.put 1 _
  have Z3 : Blk (((w.setCell ⟨g, 0, none⟩ v0).setCell ⟨g, 1, none⟩ v1).setCell ⟨g, 2, none⟩ v2) g 45 #[v0, v1, v2, a3, a4, a5, a6, a7] := Z2.put 2 _
  have Z4 : Blk ((((w.setCell ⟨g, 0, none⟩ v0).setCell ⟨g, 1, none⟩ v1).setCell ⟨g, 2, none⟩ v2).setCell ⟨g, 3, none⟩ v3) g 45 #[v0, v1, v2, v3, a4, a5, a6, a7] := Z3.put 3 _
  have Z5 : Blk (((((w.setCell ⟨g, 0, none⟩ v0).setCell ⟨g, 1, none⟩ v1).setCell ⟨g, 2, none⟩ v2).setCell ⟨g, 3, none⟩ v3).setCell ⟨g, 4, none⟩ v4) g 45 #[v0, v1, v2, v3, v4, a5, a6, a7] := Z4.put 4 _
  have Z6 : Blk ((((((w.setCell ⟨g, 0, none⟩ v0).setCell ⟨g, 1, none⟩ v1).setCell ⟨g, 2, none⟩ v2).setCell ⟨g, 3, none⟩ v3).setCell ⟨g, 4, none⟩ v4).setCell ⟨g, 5, none⟩ v5) g 45 #[v0, v1, v2, v3, v4, v5, a6, a7] := Z5.put 5 _
  have Z7 : Blk (((((((w.setCell ⟨g, 0, none⟩ v0).setCell ⟨g, 1, none⟩ v1).setCell ⟨g, 2, none⟩ v2).setCell ⟨g, 3, none⟩ v3).setCell ⟨g, 4, none⟩ v4).setCell ⟨g, 5, none⟩ v5).setCell ⟨g, 6, none⟩ v6) g 45 #[v0, v1, v2, v3, v4, v5, v6, a7] := Z6.put 6 _
  have Z8 : Blk ((((((((w.setCell ⟨g, 0, none⟩ v0).setCell ⟨g, 1, none⟩ v1).setCell ⟨g, 2, none⟩ v2).setCell ⟨g, 3, none⟩ v3).setCell ⟨g, 4, none⟩ v4).setCell ⟨g, 5, none⟩ v5).setCell ⟨g, 6, none⟩ v6).setCell ⟨g, 7, none⟩ v7) g 45 #[v0, v1, v2, v3, v4, v5, v6, v7] := Z7.put 7 _
  exact ⟨⟨⟨by rw [b.cell]; rfl, b.frozen 0⟩, ⟨by rw [Z1.cell]; rfl, Z1.frozen 1⟩, ⟨by rw [Z2.cell]; rfl, Z2.frozen 2⟩, ⟨by rw [Z3.cell]; rfl, Z3.frozen 3⟩, ⟨by rw [Z4.cell]; rfl, Z4.frozen 4⟩, ⟨by rw [Z5.cell]; rfl, Z5.frozen 5⟩, ⟨by rw [Z6.cell]; rfl, Z6.frozen 6⟩, ⟨by rw [Z7.cell]; rfl, Z7.frozen 7⟩⟩, Z8⟩
theorem Keep.gauge {w0 w : World} {g : Nat} (h : Keep (fun _ => False) w0 w) (hg : w0.heap.size ≤ g) (v0 v1 v2 v3 v4 v5 v6 v7 : Value) : Keep (fun _ => False) w0 ((((((((w.setCell ⟨g, 0, none⟩ v0).setCell ⟨g, 1, none⟩ v1).setCell ⟨g, 2, none⟩ v2).setCell ⟨g, 3, none⟩ v3).setCell ⟨g, 4, none⟩ v4).setCell ⟨g, 5, none⟩ v5).setCell ⟨g, 6, none⟩ v6).setCell ⟨g, 7, none⟩ v7) :=
  ((((((((h.setCell (p := ⟨g, 0, none⟩) (.inr hg) v0).setCell (p := ⟨g, 1, none⟩) (.inr hg) v1).setCell (p := ⟨g, 2, none⟩) (.inr hg) v2).setCell (p := ⟨g, 3, none⟩) (.inr hg) v3).setCell (p := ⟨g, 4, none⟩) (.inr hg) v4).setCell (p := ⟨g, 5, none⟩) (.inr hg) v5).setCell (p := ⟨g, 6, none⟩) (.inr hg) v6).setCell (p := ⟨g, 7, none⟩) (.inr hg) v7)
theorem geo_field0 (B P W K : Int) (w : World) : (Instr.field 42 (.agg #[.int .i64 B, .int .i64 P, .int .i64 W, .int .i64 K]) 0).run Tryz.prog w = .ok (.int .i64 B) w := by kernel_rfl
set_option maxRecDepth 100000 in
set_option maxHeartbeats 2000000 in
theorem gof_ok (num : CR → Nat) (C : ChipS) (r : DR) (sb pb P W K : Nat) (s : Int) (D : DrvS) (w : World) (hm : ChipM num w C) (hs : StgB sb (num .chip) r.db pb C.B P W K s w) (hd : DrvM r (num .chip) C.B P W K D w) (h1 : ∀ i j, (C.pg i j).st ≠ 1)
    (hF : ∀ w', Keep (fun _ => False) w w' → Calls Tryz.prog 27 #[.pointer (some ⟨sb, 0, none⟩)] w' fun e w'' => e = .returned (.bool true) ∧ Keep (fun _ => False) w' w'') :
    Calls Tryz.prog 11 #[.pointer (some ⟨sb, 0, none⟩)] w fun e w' => ∃ wo most least : Int, e = .returned (.tuple #[.agg #[.int .i64 C.ops, .int .i64 0, .int .i64 (badN C.bad C.B : Nat), .int .i64 wo, .int .i64 most, .int .i64 least, .bool D.ro, .bool true], .int .i64 0]) ∧ Keep (fun _ => False) w w' := by
  have HCp := Lib.hid (fun w (hs : StgB sb (num .chip) r.db pb C.B P W K s w) => schip_ok _ _ _ _ _ _ _ _ _ _ hs)
  have HOp := Lib.hid (ops_any num C)
  have HWo := Lib.hid (fun w hm => worst_none num C w hm h1)
  have HH := Lib.hid (And.intro hm (And.intro hs hd))
  have HFF := Lib.hid hF
  have HDr := Lib.hid (fun w (hs : StgB sb (num .chip) r.db pb C.B P W K s w) => sdrive_ok _ _ _ _ _ _ _ _ _ _ hs)
  have HRo := Lib.hid (dro_ok r (num .chip) C.B P W K D)
  clear hm hs hd hF h1
  go_enter Tryz.func11, Tryz.ntmps11
  have B0 := Lib.hid (Blk.new w 45 #[.int .i64 0, .int .i64 0, .int .i64 0, .int .i64 0, .int .i64 0, .int .i64 0, .bool false, .bool false])
  have K0 := Lib.hid ((Keep.refl (fun _ => False) w).alloc (.cells #[.int .i64 0, .int .i64 0, .int .i64 0, .int .i64 0, .int .i64 0, .int .i64 0, .bool false, .bool false] 45))
  go_wp2_with fail
  refine (HCp.out _ (Blk.keep HH.out.2.1 K0.out (by simp))).mono ?_
  rintro e w1 ⟨rfl, rfl⟩
  go_wp2_with fail
  refine (HOp.out _ (HH.out.1.keepF K0.out)).mono ?_
  rintro e w1 ⟨rfl, rfl⟩
  go_wp2_with fail
  refine (HWo.out _ (HH.out.1.keepF K0.out)).mono ?_
  rintro e w1 ⟨rfl, k1⟩
  have B1 := Lib.hid (B0.out.keep k1 (by simp))
  have K1 := Lib.hid (K0.out.comp k1)
  clear k1
  go_wp2_with fail
  have HG := Lib.hid (cgeo_any num C)
  have BO := Lib.hid (Blk.new w1 45 #[.int .i64 (C.ops : Nat), .int .i64 0, .int .i64 0, .int .i64 0, .int .i64 0, .int .i64 0, .bool false, .bool false])
  have K2 := Lib.hid (K1.out.comp ((Keep.refl (fun _ => False) w1).alloc (.cells #[.int .i64 (C.ops : Nat), .int .i64 0, .int .i64 0, .int .i64 0, .int .i64 0, .int .i64 0, .bool false, .bool false] 45)))
  refine (HG.out _ (HH.out.1.keepF K2.out)).mono ?_
  rintro e w2 ⟨rfl, k3⟩
  have BO2 := Lib.hid (BO.out.keep k3 (by simp))
  have BR2 := Lib.hid (((B1.out.alloc _).keep k3 (by simp)))
  have K3 := Lib.hid (K2.out.comp k3)
  have HGO := Lib.hid (show w.heap.size < w1.heap.size from B1.out.lt)
  clear k3 BO
  obtain ⟨gO, hgO⟩ : ∃ gO, gO = w1.heap.size := ⟨_, rfl⟩
  obtain ⟨gR, hgR⟩ : ∃ gR, gR = w.heap.size := ⟨_, rfl⟩
  rw [← hgO] at BO2 HGO ⊢
  rw [← hgR] at BR2 HGO ⊢
  have HNO := Lib.hid (show w.heap.size ≤ gO by have := HGO.out; omega)
  have HNR := Lib.hid (show w.heap.size ≤ gR by omega)
  clear hgO hgR B1 B0
  unfold geoV
  have hgf := fun w => geo_field0 (C.B : Nat) (C.P : Nat) (C.W : Nat) (C.K : Nat) w
  go_wp2_with fail
  have HBd := Lib.hid (bad_any num C)
  have HBk := Lib.hid (broken_any num C)
  have HEr := Lib.hid (erases_any num C)
  go_loopw [6, 22] (fun v6 v wr => ∃ (j wo : Nat) (mo le : Int) (so : Bool), j ≤ C.B ∧ v6 = .bool so ∧ v = .int .i64 j ∧ wo ≤ j ∧ Blk wr gO 45 #[.int .i64 (C.ops : Nat), .int .i64 0, .int .i64 (badN C.bad j : Nat), .int .i64 (wo : Nat), .int .i64 mo, .int .i64 le, .bool false, .bool false] ∧ Keep (· = gO) w2 wr) (fun _ v _ => C.B - (intOf v).toNat)
  case atStart => exact ⟨0, 0, 0, 0, false, Nat.zero_le _, rfl, rfl, Nat.le_refl _, BO2.out, Keep.refl _ _⟩
  case round =>
    obtain ⟨j, wo, mo, le, so, hj, rfl, rfl, hwo, hb, kk⟩ := hrel
    by_cases hjl : j < C.B
    · have hjl' : (j : Int) < (C.B : Int) := by omega
      have HMr := Lib.hid ((HH.out.1.keepF K3.out).keep kk (fun x hx e => by have := HH.out.1.lt x hx; have := HNO.out; omega))
      have hbd := badN_le C.bad j
      have c2 : wr.cell? ⟨gO, 2, none⟩ = some (.int .i64 (badN C.bad j : Nat)) := by rw [hb.cell]; rfl
      have zf2 := hb.frozen 2
      have HBL := Lib.hid hb
      have KKL := Lib.hid kk
      clear hb kk
      cases hbad : C.bad j
      · go_wp2_with fail
        refine (HBd.out _ HMr.out j hjl).mono ?_
        rw [hbad]
        rintro e w3 ⟨rfl, rfl⟩
        cases hbk : C.bk j
        · go_wp2_with fail
          refine (HBk.out _ HMr.out j hjl).mono ?_
          rw [hbk]
          rintro e w3 ⟨rfl, rfl⟩
          go_wp2_with fail
          refine (HBd.out _ HMr.out j hjl).mono ?_
          rw [hbad]
          rintro e w3 ⟨rfl, rfl⟩
          go_wp2_with fail
          refine (HBk.out _ HMr.out j hjl).mono ?_
          rw [hbk]
          rintro e w3 ⟨rfl, rfl⟩
          go_wp2_with fail
          refine (HEr.out _ HMr.out j hjl).mono ?_
          rintro e w3 ⟨rfl, rfl⟩
          have c4 : wr.cell? ⟨gO, 4, none⟩ = some (.int .i64 mo) := by rw [HBL.out.cell]; rfl
          have zf4 := HBL.out.frozen 4
          have c5 : ∀ x, (wr.setCell ⟨gO, 4, none⟩ x).cell? ⟨gO, 5, none⟩ = some (.int .i64 le) := fun x => by rw [(HBL.out.put 4 x).cell]; rfl
          have zf5 := fun x => (HBL.out.put 4 x).frozen 5
          generalize C.er j = er at *
          cases so
          · have hbn : badN C.bad (j + 1) = badN C.bad j := if_neg (by rw [hbad]; decide)
            have hjb : C.B ≤ 64 := by have := HMr.out.small; omega
            go_wp2_with fail
            go_roundw
            case rel => exact ⟨j + 1, wo, _, _, true, by omega, rfl, by go_num, by omega, by rw [hbn]; exact (HBL.out.put 4 _).put 5 _, (KKL.out.setCell (p := ⟨gO, 4, none⟩) (.inl rfl) _).setCell (p := ⟨gO, 5, none⟩) (.inl rfl) _⟩
            case measure => simp [intOf]; omega
          · have hbn : badN C.bad (j + 1) = badN C.bad j := if_neg (by rw [hbad]; decide)
            have hjb : C.B ≤ 64 := by have := HMr.out.small; omega
            by_cases hlt : (er : Int) < le
            · go_wp2_with fail
              go_roundw
              case rel => exact ⟨j + 1, wo, _, _, true, by omega, rfl, by go_num, by omega, by rw [hbn]; exact (HBL.out.put 4 _).put 5 _, (KKL.out.setCell (p := ⟨gO, 4, none⟩) (.inl rfl) _).setCell (p := ⟨gO, 5, none⟩) (.inl rfl) _⟩
              case measure => simp [intOf]; omega
            · go_wp2_with fail
              go_roundw
              case rel => exact ⟨j + 1, wo, _, _, true, by omega, rfl, by go_num, by omega, by rw [hbn]; exact HBL.out.put 4 _, KKL.out.setCell (p := ⟨gO, 4, none⟩) (.inl rfl) _⟩
              case measure => simp [intOf]; omega
        · have hbn : badN C.bad (j + 1) = badN C.bad j := if_neg (by rw [hbad]; decide)
          have hjb : C.B ≤ 64 := by have := HMr.out.small; omega
          have c3 : wr.cell? ⟨gO, 3, none⟩ = some (.int .i64 (wo : Nat)) := by rw [HBL.out.cell]; rfl
          have zf3 := HBL.out.frozen 3
          have hw : IntKind.i64.wrap ((wo : Int) + 1) = ((wo + 1 : Nat) : Int) := by rw [wraps_i64 _ (by omega) (by omega)]; rfl
          have HM9 := Lib.hid (fun x => HMr.out.keep ((Keep.refl (· = gO) wr).setCell (p := ⟨gO, 3, none⟩) (.inl rfl) x) (fun y hy e => by have := HH.out.1.lt y hy; have := HNO.out; omega))
          go_wp2_with fail
          refine (HBk.out _ HMr.out j hjl).mono ?_
          rw [hbk]
          rintro e w3 ⟨rfl, rfl⟩
          go_wp2_with fail
          refine (HBd.out _ (HM9.out _) j hjl).mono ?_
          rw [hbad]
          rintro e w3 ⟨rfl, rfl⟩
          go_wp2_with fail
          refine (HBk.out _ (HM9.out _) j hjl).mono ?_
          rw [hbk]
          rintro e w3 ⟨rfl, rfl⟩
          go_wp2_with fail
          go_roundw
          case rel => exact ⟨j + 1, wo + 1, _, _, _, by omega, rfl, by go_num, by omega, by rw [hbn]; exact HBL.out.put 3 _, KKL.out.setCell (p := ⟨gO, 3, none⟩) (.inl rfl) _⟩
          case measure => simp [intOf]; omega
      · have hbn : badN C.bad (j + 1) = badN C.bad j + 1 := if_pos hbad
        have hjb : C.B ≤ 64 := by have := HMr.out.small; omega
        have hw : IntKind.i64.wrap ((badN C.bad j : Int) + 1) = ((badN C.bad j + 1 : Nat) : Int) := by rw [wraps_i64 _ (by omega) (by omega)]; rfl
        have c3 : ∀ x, (wr.setCell ⟨gO, 2, none⟩ x).cell? ⟨gO, 3, none⟩ = some (.int .i64 (wo : Nat)) := fun x => by rw [(HBL.out.put 2 x).cell]; rfl
        have zf3 := fun x => (HBL.out.put 2 x).frozen 3
        have HM8 := Lib.hid (fun x => HMr.out.keep ((Keep.refl (· = gO) wr).setCell (p := ⟨gO, 2, none⟩) (.inl rfl) x) (fun y hy e => by have := HH.out.1.lt y hy; have := HNO.out; omega))
        have HM9 := Lib.hid (fun x z => HMr.out.keep (((Keep.refl (· = gO) wr).setCell (p := ⟨gO, 2, none⟩) (.inl rfl) x).setCell (p := ⟨gO, 3, none⟩) (.inl rfl) z) (fun y hy e => by have := HH.out.1.lt y hy; have := HNO.out; omega))
        go_wp2_with fail
        refine (HBd.out _ HMr.out j hjl).mono ?_
        rw [hbad]
        rintro e w3 ⟨rfl, rfl⟩
        go_wp2_with fail
        refine (HBk.out _ (HM8.out _) j hjl).mono ?_
        cases hbk : C.bk j
        · rintro e w3 ⟨rfl, rfl⟩
          go_wp2_with fail
          refine (HBd.out _ (HM8.out _) j hjl).mono ?_
          rw [hbad]
          rintro e w3 ⟨rfl, rfl⟩
          go_wp2_with fail
          go_roundw
          case rel => exact ⟨j + 1, wo, _, _, _, by omega, rfl, by go_num, by omega, by rw [hbn]; exact HBL.out.put 2 _, KKL.out.setCell (p := ⟨gO, 2, none⟩) (.inl rfl) _⟩
          case measure => simp [intOf]; omega
        · rintro e w3 ⟨rfl, rfl⟩
          go_wp2_with fail
          refine (HBd.out _ (HM9.out _ _) j hjl).mono ?_
          rw [hbad]
          rintro e w3 ⟨rfl, rfl⟩
          go_wp2_with fail
          go_roundw
          case rel => exact ⟨j + 1, wo + 1, _, _, _, by omega, rfl, by go_num, by omega, by rw [hbn]; exact (HBL.out.put 2 _).put 3 _, (KKL.out.setCell (p := ⟨gO, 2, none⟩) (.inl rfl) _).setCell (p := ⟨gO, 3, none⟩) (.inl rfl) _⟩
          case measure => simp [intOf]; omega
    · obtain rfl : j = C.B := by omega
      have hjl' : ¬ (C.B : Int) < (C.B : Int) := by omega
      have HBL := Lib.hid hb
      have KKL := Lib.hid (K3.out.trans kk (fun i e => .inr (by have := HNO.out; omega)))
      have HKL := Lib.hid kk
      clear hb kk
      go_wp2_with fail
      refine (HDr.out _ (Blk.keep HH.out.2.1 KKL.out (by simp))).mono ?_
      rintro e w3 ⟨rfl, rfl⟩
      go_wp2_with fail
      refine (HRo.out _ (HH.out.2.2.keepF KKL.out)).mono ?_
      rintro e w3 ⟨rfl, rfl⟩
      have c6 : ∃ u, wr.cell? ⟨gO, 6, none⟩ = some u := ⟨_, by rw [HBL.out.cell]; rfl⟩
      obtain ⟨_, c6⟩ := c6
      have zf6 := HBL.out.frozen 6
      go_wp2_with fail
      have k6 : Keep (· = gO) wr (wr.setCell ⟨gO, 6, none⟩ (.bool D.ro)) := (Keep.refl (· = gO) wr).setCell (p := ⟨gO, 6, none⟩) (.inl rfl) _
      have K6 := Lib.hid (KKL.out.trans k6 (fun i e => .inr (by have := HNO.out; omega)))
      have B6 := Lib.hid (HBL.out.put 6 (.bool D.ro))
      refine (HFF.out _ K6.out).mono ?_
      rintro e w4 ⟨rfl, k7⟩
      have B7 := Lib.hid (B6.out.keep k7 (by simp))
      have K7 := Lib.hid (K6.out.comp k7)
      have hne : ¬ gR = gO := by have := HGO.out; omega
      have BRr := (BR2.out.keep HKL.out hne)
      have k6r : Keep (· = gO) wr (wr.setCell ⟨gO, 6, none⟩ (.bool D.ro)) := (Keep.refl (· = gO) wr).setCell (p := ⟨gO, 6, none⟩) (.inl rfl) _
      have BR4 := (BRr.keep k6r hne).keep k7 (by simp)
      have k8r : Keep (· = gO) w4 (w4.setCell ⟨gO, 7, none⟩ (.bool true)) := (Keep.refl (· = gO) w4).setCell (p := ⟨gO, 7, none⟩) (.inl rfl) _
      have BR8 := Lib.hid (BR4.keep k8r hne)
      have B8 := Lib.hid (B7.out.put 7 (.bool true))
      have K8 := Lib.hid (K7.out.setCell (p := ⟨gO, 7, none⟩) (.inr HNO.out) (.bool true))
      have c7 : ∃ u, w4.cell? ⟨gO, 7, none⟩ = some u := ⟨_, by rw [B7.out.cell]; rfl⟩
      obtain ⟨_, c7⟩ := c7
      have zf7 := B7.out.frozen 7
      clear c6 zf6 k6 k7 BRr k6r BR4 k8r
      go_upto_region 21 with (fail)
      clear c7 zf7
      generalize w4.setCell ⟨gO, 7, none⟩ (.bool true) = w8 at *
      obtain ⟨ro, hro⟩ : ∃ ro, ro = D.ro := ⟨_, rfl⟩
      rw [← hro] at B8
      have l0 : w8.cell? ⟨gO, 0, none⟩ = some (.int .i64 (C.ops : Nat)) := by rw [B8.out.cell]; rfl
      have l1 : w8.cell? ⟨gO, 1, none⟩ = some (.int .i64 0) := by rw [B8.out.cell]; rfl
      have l2 : w8.cell? ⟨gO, 2, none⟩ = some (.int .i64 (badN C.bad C.B : Nat)) := by rw [B8.out.cell]; rfl
      have l3 : w8.cell? ⟨gO, 3, none⟩ = some (.int .i64 (wo : Nat)) := by rw [B8.out.cell]; rfl
      have l4 : w8.cell? ⟨gO, 4, none⟩ = some (.int .i64 mo) := by rw [B8.out.cell]; rfl
      have l5 : w8.cell? ⟨gO, 5, none⟩ = some (.int .i64 le) := by rw [B8.out.cell]; rfl
      have l6 : w8.cell? ⟨gO, 6, none⟩ = some (.bool ro) := by rw [B8.out.cell]; rfl
      have l7 : w8.cell? ⟨gO, 7, none⟩ = some (.bool true) := by rw [B8.out.cell]; rfl
      have GP := gauge_put BR8.out (.int .i64 (C.ops : Nat)) (.int .i64 0) (.int .i64 (badN C.bad C.B : Nat)) (.int .i64 (wo : Nat)) (.int .i64 mo) (.int .i64 le) (.bool ro) (.bool true)
      obtain ⟨⟨⟨p0, f0⟩, ⟨p1, f1⟩, ⟨p2, f2⟩, ⟨p3, f3⟩, ⟨p4, f4⟩, ⟨p5, f5⟩, ⟨p6, f6⟩, p7, f7⟩, bF⟩ := GP
      have BF := Lib.hid bF
      have KF := Lib.hid (K8.out.gauge HNR.out (.int .i64 (C.ops : Nat)) (.int .i64 0) (.int .i64 (badN C.bad C.B : Nat)) (.int .i64 (wo : Nat)) (.int .i64 mo) (.int .i64 le) (.bool ro) (.bool true))
      have HRR := Lib.hid hro
      clear bF hro
      go_wp2_with fail
      (try simp only [Exit.inBlock, Exit.then])
      refine bodyPost_ret (results_cell_row2 rfl _ _ gR 45 _ (0, 0) _ rfl BF.out Tryz.underlying45 rfl (by kernel_rfl)) rfl ?_
      exact ⟨wo, mo, le, by rw [← HRR.out]; rfl, KF.out⟩
end Go.Proofs.YtdjgjffgheocfaaGreat
