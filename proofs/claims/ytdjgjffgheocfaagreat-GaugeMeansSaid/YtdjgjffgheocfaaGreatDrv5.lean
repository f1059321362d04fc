/- A drive: how many host pages, read-only, and the read of a host page that has nothing. -/
import Derived.Test.YtdjgjffgheocfaaGreatDrv2
import Derived.Test.YtdjgjffgheocfaaGreatPlain2
namespace Go.Proofs.YtdjgjffgheocfaaGreat
open Go.RowKit

theorem dlpns_ok (r : DR) (cb B P W K : Nat) (D : DrvS) (w : World) (h : DrvM r cb B P W K D w) :
    Calls Tryz.prog 16 #[.pointer (some ⟨r.db, 0, none⟩)] w fun e w' => e = .returned (.int .i64 (D.L : Nat)) ∧ w = w' := by
  have c10 := h.hc.c10
  clear h
  go_enter Tryz.func16, Tryz.ntmps16
  go_wp2_with fail
  go_ret
  exact ⟨rfl, rfl⟩
theorem dro_ok (r : DR) (cb B P W K : Nat) (D : DrvS) (w : World) (h : DrvM r cb B P W K D w) :
    Calls Tryz.prog 26 #[.pointer (some ⟨r.db, 0, none⟩)] w fun e w' => e = .returned (.bool D.ro) ∧ w = w' := by
  have c16 := h.hc.c16
  clear h
  go_enter Tryz.func26, Tryz.ntmps26
  go_wp2_with fail
  go_ret
  exact ⟨rfl, rfl⟩
theorem dmay_ok (r : DR) (cb B P W K : Nat) (D : DrvS) (w : World) (h : DrvM r cb B P W K D w) (i : Nat) (hi : i < D.L) (hd : D.dark = false) :
    Calls Tryz.prog 98 #[.pointer (some ⟨r.db, 0, none⟩), .int .i64 i, .bool true, .bool false] w fun e w' => e = .returned (.int .i64 0) ∧ w = w' := by
  have c10 := h.hc.c10
  have c16 := h.hc.c16
  have c17 := h.hc.c17
  rw [hd] at c17
  generalize D.ro = ro at *
  have d1 : decide ((i : Int) < 0) = false := decide_eq_false (by omega)
  have d2 : decide ((D.L : Int) ≤ (i : Int)) = false := decide_eq_false (by omega)
  have d3 : ¬ D.L ≤ i := by omega
  clear h
  generalize D.L = L at *
  go_enter Tryz.func98, Tryz.ntmps98
  go_wp2_with fail
  go_ret
  exact ⟨rfl, rfl⟩
theorem szB_leD {B P : Int} {W K : Nat} (h : GeoOk B P W K) : szB W K ≤ 320 := by
  have := geo_nat h
  unfold szB
  omega
theorem dnoughts_ok (r : DR) (cb B P W K : Nat) (D : DrvS) (w : World) (h : DrvM r cb B P W K D w) (hg : GeoOk B P W K) :
    Calls Tryz.prog 100 #[.pointer (some ⟨r.db, 0, none⟩)] w fun e w' => ∃ a', e = .returned (.slice (some ⟨a', 0, none⟩) (szB W K) (szB W K)) ∧ OwnV w' 5 w.heap.size (some ⟨a', 0, none⟩) (szB W K) (szB W K) (fun _ => .int .u8 0) ∧ Keep (fun _ => False) w w' := by
  have c3 := h.hc.c3
  have c4 := h.hc.c4
  have c5 := h.hc.c5
  have c6 := h.hc.c6
  have HS := Lib.hid (fun w => size_any B P W K w hg)
  have hz3 := szB_leD hg
  clear h
  generalize szB W K = z at *
  have hmk := make_vals (P := Tryz.prog) Tryz.underlying97 Tryz.info_u8p rfl z z rfl (by omega) (by omega)
  go_enter Tryz.func100, Tryz.ntmps100
  go_wp2_with fail
  refine (HS.out _).mono ?_
  rintro e w1 ⟨rfl, k1⟩
  have HK := Lib.hid k1
  clear k1 HS
  go_wp2_with fail
  go_ret
  exact ⟨_, rfl, (OwnV.of_row (RowV.of_blk (Blk.new w1 _ _)) HK.out.size (by unfold maxLen; omega)), HK.out.alloc _⟩
/-- The read of a host page that nothing was written to. -/
theorem dread_none (r : DR) (cb B P W K : Nat) (D : DrvS) (w : World) (h : DrvM r cb B P W K D w) (hg : GeoOk B P W K) (i : Nat) (hi : i < D.L) (hd : D.dark = false) (hk : D.hk i = 0) (ha : D.at_ i = none) :
    Calls Tryz.prog 72 #[.pointer (some ⟨r.db, 0, none⟩), .int .i64 i] w fun e w' => ∃ a' c', e = .returned (.tuple #[.slice a' (szB W K) c', .int .i64 0]) ∧ OwnV w' 5 w.heap.size a' (szB W K) c' (fun _ => .int .u8 0) ∧ Keep (fun _ => False) w w' := by
  have c10 := h.hc.c10
  have c11 := h.hc.c11
  have HM := Lib.hid (dmay_ok r cb B P W K D w h i hi hd)
  have HG := Lib.hid (get_no r.m D.at_ D.own i w h.map (.inr (.inr (Lib.hid (by rw [Int.toNat_natCast]; exact ha)))))
  have HN := Lib.hid (dnoughts_ok r cb B P W K D w h hg)
  have hc0 : w.cell? ⟨r.hb, i * 3, none⟩ = some (.int .i64 0) := by
    rw [h.host.cell]; refine (valsArr_get _ _ _ (by omega)).trans ?_
    unfold heldC
    rw [if_pos (by omega), Nat.mul_div_cancel _ (by omega), hk]
    rfl
  have hi' : (i : Int) < (D.L : Int) := by omega
  clear h ha hk
  generalize D.L = L at *
  generalize szB W K = z at *
  go_enter Tryz.func72, Tryz.ntmps72
  go_wp2_with fail
  refine HM.out.mono ?_
  rintro e w1 ⟨rfl, rfl⟩
  go_wp2_with fail
  refine HG.out.mono ?_
  rintro e w1 ⟨rfl, rfl⟩
  go_wp2_with fail
  refine HN.out.mono ?_
  rintro e w1 ⟨a', rfl, ho, hk⟩
  go_wp2_with fail
  go_ret2
  exact ⟨_, _, rfl, ho, hk⟩
end Go.Proofs.YtdjgjffgheocfaaGreat
