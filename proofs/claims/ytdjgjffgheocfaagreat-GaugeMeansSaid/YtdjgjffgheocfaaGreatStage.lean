/- play.New of a chip without fates. -/
import Derived.Test.YtdjgjffgheocfaaGreatDrv4
import Derived.Test.YtdjgjffgheocfaaGreatFits
namespace Go.Proofs.YtdjgjffgheocfaaGreat
open Go.RowKit

theorem szB_pos {B P : Int} {W K : Nat} (h : GeoOk B P W K) : 0 < szB W K := by
  have := geo_nat h
  unfold szB
  omega
set_option maxRecDepth 100000 in
set_option maxHeartbeats 2000000 in
theorem playnew_ok (B P W K s : Nat) (ab : Option Addr) (nb cab : Nat) (bad : Nat → Int) (w : World) (h : GeoOk B P W K) (hnb : nb ≤ 1000) (hb : ArgV w ab nb (fun i => .int .i64 (bad i))) (hbad : ∀ i, i < nb → 0 ≤ bad i ∧ bad i < B) (hs : s ≤ B) (hL : 0 < lpN B P s) :
    Calls Tryz.prog 10 #[geoV B P W K, .int .i64 s, .slice ab nb cab, .slice none 0 0] w fun e w' => ∃ (num : CR → Nat) (r : DR) (sb pb : Nat) (ao : Option Addr) (co : Nat) (rb : Nat → Nat),
      e = .returned (.tuple #[.pointer (some ⟨sb, 0, none⟩), .int .i64 0]) ∧ ChipM num w' (fmC (ChipS.new B P W K (markF bad nb) (fun _ => none)) B) ∧ DrvM r (num .chip) B P W K (fmD (markF bad nb) s (lpN B P s) B) w' ∧ StgB sb (num .chip) r.db pb B P W K s w' ∧ IsPlain pb ao (lpN B P s) co (szB W K) rb (fun _ _ => 0) w' ∧ Keep (fun _ => False) w w' := by
  have HC := Lib.hid (fun w hb => chipnew_yes B P W K ab nb cab bad none 0 0 (fun _ => 0) (fun _ => 0) (fun _ => 0) w h hnb hb hbad (ArgFates.nil _ _ _ _) (by omega) (fun i hi => absurd hi (Nat.not_lt_zero i)) rfl)
  go_enter Tryz.func10, Tryz.ntmps10
  have B0 := Lib.hid (Blk.new w 42 #[.int .i64 (B : Nat), .int .i64 (P : Nat), .int .i64 (W : Nat), .int .i64 (K : Nat)])
  have K0 := Lib.hid ((Keep.refl (fun _ => False) w).alloc (.cells #[.int .i64 (B : Nat), .int .i64 (P : Nat), .int .i64 (W : Nat), .int .i64 (K : Nat)] 42))
  have hb' := hb.keep K0.out
  clear hb
  go_wp2_with fail
  refine (HC.out _ hb').mono ?_
  rintro e w1 ⟨num, rfl, hm, k1, hnew⟩
  have hN : (ChipS.new B P W K (markF bad nb) (fatF (fun _ => 0) (fun _ => 0) (fun _ => 0) 0)) = ChipS.new B P W K (markF bad nb) (fun _ => none) := rfl
  rw [hN] at hm hnew
  obtain ⟨q1, q2, q3, q4, q5, q6, q7, q8, q9⟩ : (ChipS.new B P W K (markF bad nb) (fun _ => none)).B = B ∧ (ChipS.new B P W K (markF bad nb) (fun _ => none)).P = P ∧ (ChipS.new B P W K (markF bad nb) (fun _ => none)).W = W ∧ (ChipS.new B P W K (markF bad nb) (fun _ => none)).K = K ∧ (ChipS.new B P W K (markF bad nb) (fun _ => none)).dark = false ∧ (ChipS.new B P W K (markF bad nb) (fun _ => none)).ops = 0 ∧ (∀ n, (ChipS.new B P W K (markF bad nb) (fun _ => none)).F n = none) ∧ (∀ i, (ChipS.new B P W K (markF bad nb) (fun _ => none)).bk i = false) ∧ (ChipS.new B P W K (markF bad nb) (fun _ => none)).bad = markF bad nb := ⟨rfl, rfl, rfl, rfl, rfl, rfl, fun _ => rfl, fun _ => rfl, rfl⟩
  generalize hCC : ChipS.new B P W K (markF bad nb) (fun _ => none) = C at *
  have B1 := B0.out.keep k1 (by simp)
  have g0 : w1.cell? ⟨w.heap.size, 0, none⟩ = some (.int .i64 (B : Nat)) := by rw [B1.cell]; rfl
  have g1 : w1.cell? ⟨w.heap.size, 1, none⟩ = some (.int .i64 (P : Nat)) := by rw [B1.cell]; rfl
  have g2 : w1.cell? ⟨w.heap.size, 2, none⟩ = some (.int .i64 (W : Nat)) := by rw [B1.cell]; rfl
  have g3 : w1.cell? ⟨w.heap.size, 3, none⟩ = some (.int .i64 (K : Nat)) := by rw [B1.cell]; rfl
  have a1 := (Keep.refl (fun _ => False) w1).alloc (.cells #[.int .i64 (B : Nat), .int .i64 (P : Nat), .int .i64 (W : Nat), .int .i64 (K : Nat), .int .i64 (s : Nat), .pointer (some ⟨num .chip, 0, none⟩), .pointer none, .pointer none] 55)
  have BS := Blk.new w1 55 #[.int .i64 (B : Nat), .int .i64 (P : Nat), .int .i64 (W : Nat), .int .i64 (K : Nat), .int .i64 (s : Nat), .pointer (some ⟨num .chip, 0, none⟩), .pointer none, .pointer none]
  have HFM := Lib.hid (format_ok num C _ (hm.keep a1 (fun _ _ e => e)) s (by rw [q1]; exact hs) (by rw [q1, q2]; exact hL) q5 (by omega) q7 q8)
  rw [q1, q2, q3, q4, q9] at HFM
  have HA1 := Lib.hid a1
  have HBS := Lib.hid BS
  have HM := Lib.hid hm
  have HK1 := Lib.hid k1
  have HNW := Lib.hid hnew
  have HB1 := Lib.hid B1
  have HCC := Lib.hid hCC
  clear hm k1 hnew B1 hb' hN hCC a1 BS q1 q2 q3 q4 q5 q6 q7 q8 q9 HC
  go_wp2_with fail
  refine HFM.out.mono ?_
  rintro e w2 ⟨r, rfl, hm2, hd2, hlo, k2⟩
  have hsz : ∀ v, (w1.alloc v).heap.size = w1.heap.size + 1 := fun v => by simp
  have b2 := HBS.out.keep k2 (fun ⟨x, hx, e⟩ => by have := HM.out.lt x hx; omega)
  have b3 := b2.put 6 (.pointer (some ⟨r.db, 0, none⟩))
  have k3 : Keep (fun i => i = w1.heap.size) w2 (w2.setCell ⟨w1.heap.size, 6, none⟩ (.pointer (some ⟨r.db, 0, none⟩))) := (Keep.refl (fun i => i = w1.heap.size) w2).setCell (p := ⟨w1.heap.size, 6, none⟩) (.inl rfl) _
  have hlo2 : ∀ k, drvB r k → w1.heap.size < k := fun k hk => by have := hlo k hk; rw [hsz] at this; omega
  have hd3 := hd2.keep k3 (fun k hk e => by have := hlo2 k hk; omega)
  have hm3 := hm2.keep k3 (fun x hx e => by have := HM.out.lt x (fmC_used C B x hx); omega)
  have z6 : w2.cell? ⟨w1.heap.size, 6, none⟩ = some (.pointer none) := by rw [b2.cell]; rfl
  have zf := b2.frozen 6
  have HB3 := Lib.hid b3
  have HD3 := Lib.hid hd3
  have HM3 := Lib.hid hm3
  have KK := Lib.hid (And.intro k2 k3)
  have HLO := Lib.hid hlo2
  clear b3 hd3 hm3 k2 k3 hlo hlo2 hd2 hm2 b2 g0 g1 g2 g3 HFM hsz
  go_upto_region 10 with (fail)
  have HG3 := Lib.hid (HB1.out.keep (HA1.out.comp (Keep.refl _ _)) (by simp))
  have hgv : w.heap.size < w1.heap.size := HB1.out.lt
  have HG4 := Lib.hid ((HG3.out.keep KK.out.1 (fun ⟨x, hx, e⟩ => by have := HNW.out x hx; simp at this; omega)).keep KK.out.2 (fun e => by omega))
  generalize hsb : w1.heap.size = sb at *
  generalize hgg : w.heap.size = gv at *
  generalize hW3 : w2.setCell ⟨sb, 6, none⟩ (.pointer (some ⟨r.db, 0, none⟩)) = W3 at *
  have HLp := Lib.hid (fun w hd => dlpns_ok r (num .chip) B P W K (fmD (markF bad nb) s (lpN B P s) B) w hd)
  have hLe := (lpN_le (B := B) (P := P) (s := s) (by have := h.b1; omega) (by have := h.p1; omega)).2
  have HS := Lib.hid (fun w => size_any B P W K w h)
  have hz1 := szB_leD h
  have hz0 : 0 < szB W K := szB_pos h
  generalize hDD : fmD (markF bad nb) s (lpN B P s) B = D at *
  have hDL : D.L = lpN B P s := by rw [← hDD]; rfl
  rw [hDL] at HLp
  generalize hLL : lpN B P s = L at *
  generalize hzz : szB W K = z at *
  have HEQ := Lib.hid (And.intro hDD (And.intro hLL hzz))
  clear hLL hzz
  have HPN := Lib.hid (fun w => plain_new L z hLe hz0 hz1 w)
  have FQ : Hid (∀ w', Keep (fun _ => False) W3 w' → (w'.cell? ⟨gv, 0, none⟩ = some (.int .i64 (B : Nat)) ∧ w'.cell? ⟨gv, 1, none⟩ = some (.int .i64 (P : Nat)) ∧ w'.cell? ⟨gv, 2, none⟩ = some (.int .i64 (W : Nat)) ∧ w'.cell? ⟨gv, 3, none⟩ = some (.int .i64 (K : Nat)) ∧ w'.cell? ⟨sb, 6, none⟩ = some (.pointer (some ⟨r.db, 0, none⟩))) ∧ w'.cell? ⟨sb, 7, none⟩ = some (.pointer none) ∧ w'.frozen? ⟨sb, 7, none⟩ = false ∧ ∀ x, (w'.setCell ⟨sb, 7, none⟩ x).cell? ⟨gv, 0, none⟩ = some (.int .i64 (B : Nat)) ∧ (w'.setCell ⟨sb, 7, none⟩ x).cell? ⟨gv, 1, none⟩ = some (.int .i64 (P : Nat)) ∧ (w'.setCell ⟨sb, 7, none⟩ x).cell? ⟨gv, 2, none⟩ = some (.int .i64 (W : Nat)) ∧ (w'.setCell ⟨sb, 7, none⟩ x).cell? ⟨gv, 3, none⟩ = some (.int .i64 (K : Nat)) ∧ (w'.setCell ⟨sb, 7, none⟩ x).cell? ⟨sb, 6, none⟩ = some (.pointer (some ⟨r.db, 0, none⟩))) := Lib.hid (fun w' k => by
    have b1 := HG4.out.keep k (by simp)
    have b2 := HB3.out.keep k (by simp)
    refine ⟨⟨by rw [b1.cell]; rfl, by rw [b1.cell]; rfl, by rw [b1.cell]; rfl, by rw [b1.cell]; rfl, by rw [b2.cell]; rfl⟩, by rw [b2.cell]; rfl, b2.frozen 7, fun x => ?_⟩
    have b3 := b1.far (p := ⟨sb, 7, none⟩) (by show gv ≠ sb; omega) x
    have b4 := b2.put 7 x
    exact ⟨by rw [b3.cell]; rfl, by rw [b3.cell]; rfl, by rw [b3.cell]; rfl, by rw [b3.cell]; rfl, by rw [b4.cell]; rfl⟩)
  clear z6 zf hDD hDL hz0 hz1 hLe hgv hL hs hbad hnb
  have kd := (Keep.refl (fun _ => False) W3).drew
  have q0 := (FQ.out _ kd).1
  go_region_held3 (fun w' => w'.cell? ⟨gv, 0, none⟩ = some (.int .i64 (B : Nat)) ∧ w'.cell? ⟨gv, 1, none⟩ = some (.int .i64 (P : Nat)) ∧ w'.cell? ⟨gv, 2, none⟩ = some (.int .i64 (W : Nat)) ∧ w'.cell? ⟨gv, 3, none⟩ = some (.int .i64 (K : Nat)) ∧ w'.cell? ⟨sb, 6, none⟩ = some (.pointer (some ⟨r.db, 0, none⟩)))
    (first | with_reducible exact q0 | with_reducible exact q2 | with_reducible exact q3 | with_reducible exact q4)
    (first
      | (go_at_call 16
         refine (HLp.out _ (HD3.out.keepF kd)).mono ?_
         rintro e w4 ⟨rfl, rfl⟩)
      | (go_at_call 17
         refine (HS.out _).mono ?_
         rintro e w5 ⟨rfl, k5⟩
         have K5 : Keep (fun _ => False) W3 w5 := kd.comp k5
         have q2 := (FQ.out _ K5).1)
      | (go_at_call 15
         refine (HPN.out _).mono ?_
         rintro e w6 ⟨pb, ao, co, rb, rfl, hp, hge, k6⟩
         have K6 : Keep (fun _ => False) W3 w6 := K5.comp k6
         obtain ⟨q3, z7, zf7, q4'⟩ := FQ.out _ K6
         have q4 := q4' (.pointer (some ⟨pb, 0, none⟩))
         clear q4'))
  all_goals
    clear q0 q2 q3 z7 zf7 q4
    have HPP := Lib.hid hp
    have HGE := Lib.hid hge
    have HK6 := Lib.hid K6
    have HK5 := Lib.hid K5
    clear hp hge k6 K6 k5 K5 kd
    go_wp2_with fail
    go_ret2
    have k7 : Keep (fun i => i = sb) w6 (w6.setCell ⟨sb, 7, none⟩ (.pointer (some ⟨pb, 0, none⟩))) := (Keep.refl (fun i => i = sb) w6).setCell (p := ⟨sb, 7, none⟩) (.inl rfl) _
    have hle := (K0.out.comp HK1.out).size
    have kA := (K0.out.comp (HK1.out.comp HA1.out)).trans KK.out.1 (fun i ⟨x, hx, e⟩ => .inr (by have := HNW.out x hx; simp at this; omega))
    have kB := kA.trans KK.out.2 (fun i e => .inr (by omega))
    have kC := (kB.comp HK6.out).trans k7 (fun i e => .inr (by omega))
    rw [HCC.out, HEQ.out.2.1, HEQ.out.2.2, HEQ.out.1]
    refine ⟨num, r, sb, pb, ao, co, rb, rfl, ?_, ?_, ?_, ?_, kC⟩
    · exact (HM3.out.keepF HK6.out).keep k7 (fun x hx e => by have := HM.out.lt x (fmC_used C B x hx); omega)
    · exact (HD3.out.keepF HK6.out).keep k7 (fun k hk e => by have := HLO.out k hk; omega)
    · exact (HB3.out.keep HK6.out (by simp)).put 7 _
    · exact HPP.out.keep k7 (fun k h1 h2 e => by have := HB3.out.lt; have := HK5.out.size; have := HGE.out; omega)
end Go.Proofs.YtdjgjffgheocfaaGreat
