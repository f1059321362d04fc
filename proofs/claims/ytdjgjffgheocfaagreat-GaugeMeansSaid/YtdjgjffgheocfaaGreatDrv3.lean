/- A drive is made. -/
import Derived.Test.YtdjgjffgheocfaaGreatDrv2
namespace Go.Proofs.YtdjgjffgheocfaaGreat
open Go.RowKit

theorem Tryz.info_held : (Tryz.prog.info? 138).map (fun i => (i.zero, i.size, i.bytes)) = some (some (.agg #[.int .i64 0, .int .i64 0, .bool false]), 3, 24) := by kernel_rfl
/-- A drive on which nothing lies. -/
def DrvS.new (s L : Nat) : DrvS := ⟨s, 0, 0, L, fun _ => 0, fun _ => 0, fun _ => false, fun _ => none, fun _ => none, fun _ => 1, fun _ => 0, -1, 0, 0, false, false⟩
theorem held_made (s L n : Nat) : madeCells (Value.agg #[.int .i64 0, .int .i64 0, .bool false]).cells n = valsArr (heldC (DrvS.new s L)) n := by
  apply Array.ext
  · simp [madeCells, valsArr_size]
  · intro i h1 h2
    have hm : i % 3 < 3 := Nat.mod_lt _ (by omega)
    simp only [madeCells, valsArr, Array.getElem_map, Array.getElem_range, Array.getElem_ofFn, heldC, DrvS.new]
    have hz : (Value.agg #[.int .i64 0, .int .i64 0, .bool false]).cells = #[.int .i64 0, .int .i64 0, .bool false] := rfl
    rw [hz]
    show (#[Value.int .i64 0, .int .i64 0, .bool false])[i % 3]! = _
    match h : i % 3, hm with
    | 0, _ => rfl
    | 1, _ => rfl
    | 2, _ => rfl
    | k + 3, h => omega
theorem make_held (s L : Nat) (hL : L ≤ 1000000) (w : World) :
    (Instr.makeSlice 83 (.int .i64 (L : Nat)) (.int .i64 (L : Nat))).run Tryz.prog w = .ok (.slice (some ⟨w.heap.size, 0, none⟩) L L) (w.alloc (.cells (valsArr (heldC (DrvS.new s L)) (L * 3)) 138)) := by
  obtain ⟨i, hi, hz, hs, hb⟩ : ∃ i, Tryz.prog.info? 138 = some i ∧ i.zero = some (.agg #[.int .i64 0, .int .i64 0, .bool false]) ∧ i.size = 3 ∧ i.bytes = 24 := by
    have := Tryz.info_held
    cases hx : Tryz.prog.info? 138 with
    | none => rw [hx] at this; cases this
    | some i =>
      rw [hx] at this
      simp only [Option.map_some, Option.some.injEq, Prod.mk.injEq] at this
      exact ⟨i, rfl, this.1, this.2.1, this.2.2⟩
  have := run_make (P := Tryz.prog) w 83 138 i _ Tryz.underlying83 hi hz .i64 .i64 (L : Nat) (L : Nat) (by omega) (Int.le_refl _) (by rw [hb]; omega) (by omega)
  rw [this, hs, ← held_made s L]
  simp
theorem make_lit (w : World) :
    Calls Tryz.prog 49 #[] w fun e w' => ∃ g1 g2, e = .returned (.agg #[.slice (some ⟨g1, 0, none⟩) 1023 1023, .slice (some ⟨g2, 0, none⟩) 1024 1024]) ∧ Tab w' g1 g2 ∧ w.heap.size ≤ g1 ∧ w.heap.size ≤ g2 ∧ Keep (fun _ => False) w w' := make_any w
theorem made_close {w w4 w5 w7 w8 w9 wf : World} {m : LM} {y : YD} {fb pb g1 g2 hb db cb B P W K s L N : Nat} (hN : N = B * P) (K4 : Keep (fun _ => False) w w4) (K5 : Keep (fun _ => False) w4 w5) (k7 : Keep (fun _ => False) w5 w7) (k8 : Keep (fun _ => False) w7 w8) (k9 : Keep (fun _ => False) w8 w9) (kf : Keep (fun _ => False) w9 wf)
    (hm : IsMap m (fun _ => none) (fun _ => none) w4 ∧ m.L = L ∧ m.P = N) (hlo : w.heap.size ≤ m.mb ∧ w.heap.size ≤ m.ab ∧ w.heap.size ≤ m.ob ∧ w.heap.size ≤ m.pb ∧ w.heap.size ≤ m.sb) (hhi : m.ab < w4.heap.size ∧ m.ob < w4.heap.size)
    (T5 : Tab w5 g1 g2) (t5 : w4.heap.size ≤ g1) (t5' : w4.heap.size ≤ g2) (y1 : y.n = B) (y2 : IsYard y (fun _ => 1) (fun _ => 0) w7) (y3 : ∀ k, yardS y k → w5.heap.size ≤ k) (f1 : IsFront fb B P W K (-1) 0 w8) (f2 : w7.heap.size ≤ fb) (p1 : IsPatrol pb B P W K 0 w9) (p2 : w8.heap.size ≤ pb)
    (hh : Blk wf hb 138 (valsArr (heldC (DrvS.new s L)) (L * 3))) (h1 : w4.heap.size ≤ hb) (hd : Blk wf db 89 (headD ⟨db, hb, m, y, fb, pb, g1, g2⟩ cb B P W K (DrvS.new s L))) (h2 : w4.heap.size ≤ db) :
    DrvM ⟨db, hb, m, y, fb, pb, g1, g2⟩ cb B P W K (DrvS.new s L) wf ∧ (∀ k, drvB ⟨db, hb, m, y, fb, pb, g1, g2⟩ k → w.heap.size ≤ k) ∧ Keep (fun _ => False) w wf := by
  have s5 := K5.size
  have s7 := k7.size
  have s8 := k8.size
  have s9 := k9.size
  have s4 := K4.size
  have t5lt := T5.l.lt
  have y31 := y3 y.sb (.inr (.inl rfl))
  have y32 := y3 y.eb (.inr (.inr rfl))
  have y33 := y3 y.yb (.inl rfl)
  have k79 := (k8.comp k9).comp kf
  refine ⟨⟨hd, hh, hm.1.keep (((K5.comp k7).comp (k8.comp k9)).comp kf) (fun e => e) (fun e => e) (fun e => e) (fun e => e) (fun e => e), hm.2.1, by rw [← hN]; exact hm.2.2, y2.keepF k79, y1, Blk.keep f1 (k9.comp kf) (by simp), Blk.keep p1 kf (by simp), T5.keep (k7.comp k79), ⟨?_, ?_, ?_, ?_, ?_, ?_, ?_, ?_⟩⟩, ?_, (K4.comp K5).comp (k7.comp k79)⟩
  all_goals try (show (_ : Nat) ≠ _; dsimp only; omega)
  rintro k hk
  have hk' : k = db ∨ k = hb ∨ k = m.mb ∨ k = m.ab ∨ k = m.ob ∨ k = m.pb ∨ k = m.sb ∨ k = y.yb ∨ k = y.sb ∨ k = y.eb ∨ k = fb ∨ k = pb ∨ k = g1 ∨ k = g2 := hk
  omega
set_option maxRecDepth 100000 in
set_option maxHeartbeats 4000000 in
theorem made_ok (num : CR → Nat) (C : ChipS) (w : World) (hM : ChipM num w C) (s : Nat) (hs : s ≤ C.B) (hL : 0 < lpN C.B C.P s) :
    Calls Tryz.prog 32 #[.pointer (some ⟨num .chip, 0, none⟩), .int .i64 s] w fun e w' => ∃ r : DR, e = .returned (.tuple #[.pointer (some ⟨r.db, 0, none⟩), .int .i64 0]) ∧
      DrvM r (num .chip) C.B C.P C.W C.K (DrvS.new s (lpN C.B C.P s)) w' ∧ (∀ k, drvB r k → w.heap.size ≤ k) ∧ Keep (fun _ => False) w w' := by
  obtain ⟨s0, s1, s2, s3, s4, s5, s6, s7, s8⟩ := hM.small
  have hgeo := hM.geo
  have HG := Lib.hid (cgeo_any num C w hM)
  have HLp := Lib.hid (fun w => lpns_any C.B C.P C.W C.K s w hgeo hs)
  have HCt := Lib.hid (fun w => count_any C.B C.P C.W C.K w hgeo)
  have hcnt : (C.B : Int) * (C.P : Int) = ((C.B * C.P : Nat) : Int) := (Int.natCast_mul C.B C.P).symm
  rw [hcnt] at HCt
  have hcl : C.B * C.P ≤ 2048 := Nat.le_trans (Nat.mul_le_mul s1 s3) (by omega)
  have hLl := (lpN_le (B := C.B) (P := C.P) (s := s) s1 s3).2
  obtain ⟨L, hLe⟩ : ∃ L, L = lpN C.B C.P s := ⟨_, rfl⟩
  rw [← hLe] at HLp hL hLl ⊢
  have HMp := Lib.hid (fun w => new_map L (C.B * C.P) (by omega) (by omega) w)
  have HMk := Lib.hid (make_held s L (by omega))
  have HY := Lib.hid (fun w => yard_new C.B s1 w)
  have HF := Lib.hid (fun w => front_new C.B C.P C.W C.K w)
  have HP := Lib.hid (fun w => patrol_new C.B C.P C.W C.K w)
  have hL0 : ((L : Int) == 0) = false := by simp; omega
  generalize num .chip = cb at *
  generalize C.B = B at *
  generalize C.P = P at *
  generalize C.W = W at *
  generalize C.K = K at *
  obtain ⟨N, hN⟩ : ∃ N, N = B * P := ⟨_, rfl⟩
  rw [← hN] at HMp HCt
  have HN := Lib.hid hN
  clear hN
  clear hgeo hcnt hM hs hLe hcl s0 s1 s2 s3 s4 s5 s6 s7 s8
  go_enter Tryz.func32, Tryz.ntmps32
  go_wp2_with fail
  refine HG.out.mono ?_
  rintro e w1 ⟨rfl, k1⟩
  go_upto_region 2 with (fail)
  obtain ⟨V, hV⟩ : ∃ V, V = w1.alloc (.cells #[.int .i64 (B : Nat), .int .i64 (P : Nat), .int .i64 (W : Nat), .int .i64 (K : Nat)] 42) := ⟨_, rfl⟩
  rw [← hV]
  have kV : Keep (fun _ => False) w1 V := by rw [hV]; exact (Keep.refl _ w1).alloc _
  have bV : Blk V w1.heap.size 42 #[.int .i64 (B : Nat), .int .i64 (P : Nat), .int .i64 (W : Nat), .int .i64 (K : Nat)] := by rw [hV]; exact Blk.new _ _ _
  generalize w1.heap.size = gv at *
  have KV := Lib.hid (k1.comp kV)
  obtain ⟨c0, c1, c2, c3⟩ := geo_cells bV
  have BV := Lib.hid bV
  clear hV kV bV k1 HG
  go_wp2_with fail
  refine (HLp.out _).mono ?_
  rintro e w2 ⟨rfl, k2⟩
  have BV2 := Lib.hid (BV.out.keep k2 (by simp))
  have K2 := Lib.hid (KV.out.comp k2)
  clear c0 c1 c2 c3 k2 BV KV HLp
  obtain ⟨c0, c1, c2, c3⟩ := geo_cells BV2.out
  go_wp2_with fail
  refine (HCt.out _).mono ?_
  rintro e w3 ⟨rfl, k3⟩
  have BV3 := Lib.hid (BV2.out.keep k3 (by simp))
  have K3 := Lib.hid (K2.out.comp k3)
  clear c0 c1 c2 c3 k3 BV2 K2 HCt
  go_wp2_with fail
  refine (HMp.out _).mono ?_
  rintro e w4 ⟨m, rfl, m4, k4, mL, mP, l1, l2, l3, l4, l5⟩
  have BV4 := Lib.hid (BV3.out.keep k4 (by simp))
  have K4 := Lib.hid (K3.out.comp k4)
  have HM4 := Lib.hid (And.intro m4 (And.intro mL mP))
  have HLO := Lib.hid (show w.heap.size ≤ m.mb ∧ w.heap.size ≤ m.ab ∧ w.heap.size ≤ m.ob ∧ w.heap.size ≤ m.pb ∧ w.heap.size ≤ m.sb by have := K3.out.size; omega)
  have HHI := Lib.hid (show m.ab < w4.heap.size ∧ m.ob < w4.heap.size from ⟨m4.raw.ha.lt, m4.raw.ho.lt⟩)
  clear k4 m4 mL mP l1 l2 l3 l4 l5 BV3 K3 HMp
  go_upto_region 6 with (fail)
  have kd := (Keep.refl (fun _ => False) w4).drew
  obtain ⟨c0, c1, c2, c3⟩ := geo_cells (BV4.out.keep kd (by simp))
  have hmk := HMk.out
  have hcH := Lib.hid (fun w => Blk.new w 138 (valsArr (heldC (DrvS.new s L)) (L * 3)))
  go_region_held3 (fun w' => w'.cell? ⟨gv, 0, none⟩ = some (.int .i64 (B : Nat)) ∧ w'.cell? ⟨gv, 1, none⟩ = some (.int .i64 (P : Nat)) ∧ w'.cell? ⟨gv, 2, none⟩ = some (.int .i64 (W : Nat)) ∧ w'.cell? ⟨gv, 3, none⟩ = some (.int .i64 (K : Nat)))
    (first | with_reducible exact ⟨c0, c1, c2, c3⟩ | with_reducible exact q5 | with_reducible exact q7 | with_reducible exact q8 | with_reducible exact q9 | exact geo_cells (BV4.out.keep ((K9.alloc _).alloc _) (by simp)) | exact geo_cells (BV4.out.keep (K9.alloc _) (by simp)) | exact geo_cells (BV4.out.keep (K8.alloc _) (by simp)) | exact geo_cells (BV4.out.keep (K7.alloc _) (by simp)) | exact geo_cells (BV4.out.keep (K5.alloc _) (by simp)) | exact geo_cells (BV4.out.keep (kd.alloc _) (by simp)))
    (first
      | (go_at_call 49
         refine (make_lit _).mono ?_
         rintro e w5 ⟨g1, g2, rfl, T5, t5, t5', k5⟩
         have K5 : Keep (fun _ => False) w4 w5 := (by first | exact kd.comp k5 | exact (kd.alloc _).comp k5)
         have q5 := geo_cells (BV4.out.keep K5 (by simp)))
      | (go_at_call 50
         refine (HY.out _).mono ?_
         rintro e w7 ⟨y, rfl, y1, y2, y3, k7⟩
         have k7' : Keep (fun _ => False) w5 w7 := (by first | exact k7 | exact ((Keep.refl _ w5).alloc _).comp k7)
         have K7 : Keep (fun _ => False) w4 w7 := K5.comp k7'
         have q7 := geo_cells (BV4.out.keep K7 (by simp)))
      | (go_at_call 51
         refine (HF.out _).mono ?_
         rintro e w8 ⟨fb, rfl, f1, f2, k8⟩
         have k8' : Keep (fun _ => False) w7 w8 := (by first | exact k8 | exact ((Keep.refl _ w7).alloc _).comp k8)
         have K8 : Keep (fun _ => False) w4 w8 := K7.comp k8'
         have q8 := geo_cells (BV4.out.keep K8 (by simp)))
      | (go_at_call 52
         refine (HP.out _).mono ?_
         rintro e w9 ⟨pb, rfl, p1, p2, k9⟩
         have k9' : Keep (fun _ => False) w8 w9 := (by first | exact k9 | exact ((Keep.refl _ w8).alloc _).comp k9)
         have K9 : Keep (fun _ => False) w4 w9 := K8.comp k9'
         have q9 := geo_cells (BV4.out.keep K9 (by simp))))
  all_goals
    clear c0 c1 c2 c3 q5 q7 q8 q9
    go_wp2_with fail
    go_ret2
    have t5w : w4.heap.size ≤ g1 := (by first | exact t5 | exact Nat.le_trans (by simp) t5)
    have t5w' : w4.heap.size ≤ g2 := (by first | exact t5' | exact Nat.le_trans (by simp) t5')
    have y3w : ∀ k, yardS y k → w5.heap.size ≤ k := fun k hk => (by first | exact y3 k hk | exact Nat.le_trans (by simp) (y3 k hk))
    have f2w : w7.heap.size ≤ fb := (by first | exact f2 | exact Nat.le_trans (by simp) f2)
    have p2w : w8.heap.size ≤ pb := (by first | exact p2 | exact Nat.le_trans (by simp) p2)
    first
      | exact ⟨⟨w9.heap.size, w5.heap.size, m, y, fb, pb, g1, g2⟩, rfl, made_close HN.out K4.out K5 k7' k8' k9' ((Keep.refl _ w9).alloc _) HM4.out HLO.out HHI.out T5 t5w t5w' y1 y2 y3w f1 f2w p1 p2w ((hcH.out w5).keep ((k7.comp k8').comp (k9'.comp ((Keep.refl _ w9).alloc _))) (by simp)) (by have := K5.size; have := k7'.size; have := k8'.size; have := k9'.size; omega) (Blk.new w9 _ _) (by have := K9.size; omega)⟩
      | exact ⟨⟨w9.heap.size, w7.heap.size, m, y, fb, pb, g1, g2⟩, rfl, made_close HN.out K4.out K5 k7' k8' k9' ((Keep.refl _ w9).alloc _) HM4.out HLO.out HHI.out T5 t5w t5w' y1 y2 y3w f1 f2w p1 p2w ((hcH.out w7).keep (k8.comp (k9'.comp ((Keep.refl _ w9).alloc _))) (by simp)) (by have := K5.size; have := k7'.size; have := k8'.size; have := k9'.size; omega) (Blk.new w9 _ _) (by have := K9.size; omega)⟩
      | exact ⟨⟨w9.heap.size, w8.heap.size, m, y, fb, pb, g1, g2⟩, rfl, made_close HN.out K4.out K5 k7' k8' k9' ((Keep.refl _ w9).alloc _) HM4.out HLO.out HHI.out T5 t5w t5w' y1 y2 y3w f1 f2w p1 p2w ((hcH.out w8).keep (k9.comp ((Keep.refl _ w9).alloc _)) (by simp)) (by have := K5.size; have := k7'.size; have := k8'.size; have := k9'.size; omega) (Blk.new w9 _ _) (by have := K9.size; omega)⟩
      | exact ⟨⟨w9.heap.size, w4.heap.size, m, y, fb, pb, g1, g2⟩, rfl, made_close HN.out K4.out K5 k7' k8' k9' ((Keep.refl _ w9).alloc _) HM4.out HLO.out HHI.out T5 t5w t5w' y1 y2 y3w f1 f2w p1 p2w ((hcH.out w4.drew).keep ((k5.comp k7').comp ((k8'.comp k9').comp ((Keep.refl _ w9).alloc _))) (by simp)) (by have := K5.size; have := k7'.size; have := k8'.size; have := k9'.size; omega) (Blk.new w9 _ _) (by have := K9.size; omega)⟩
      | exact ⟨⟨w9.heap.size + 1, w9.heap.size, m, y, fb, pb, g1, g2⟩, rfl, made_close HN.out K4.out K5 k7' k8' k9' (((Keep.refl _ w9).alloc _).alloc _) HM4.out HLO.out HHI.out T5 t5w t5w' y1 y2 y3w f1 f2w p1 p2w ((hcH.out w9).alloc _) (by have := K5.size; have := k7'.size; have := k8'.size; have := k9'.size; omega) (Blk.here _ _ _ _ (by simp)) (by have := K9.size; omega)⟩
end Go.Proofs.YtdjgjffgheocfaaGreat
