/- blackboardlaw12.awake. -/
import Derived.Test.YtdlmjjlejkkniaaGreatPage
namespace Go.Proofs.YtdlmjjlejkkniaaGreat
open Go.RowKit
attribute [local go_sem] run_store_cx

theorem Tryz.info_u8 : (Tryz.prog.info? 5).map (fun i => (i.zero, i.size, i.bytes)) = some (some (.int .u8 0), 1, 1) := by kernel_rfl
/-- make of a row of bytes. -/
theorem make_by (x : Int) (m : Nat) (hx : x = m) (hm : m ≤ 70368744177664) (w : World) :
    (Instr.makeSlice 24 (.int .i64 x) (.int .i64 x)).run Tryz.prog w = .ok (.slice (some ⟨w.heap.size, 0, none⟩) m m) (w.alloc (.cells (valsArr (fun _ => .int .u8 0) m) 5)) :=
  make_vals (P := Tryz.prog) Tryz.underlying24 Tryz.info_u8 rfl x m hx (by omega) (by omega) w
theorem geo_22 : GeoOk 4 2 (2 : Nat) (12 : Nat) := by decide
theorem mark_1 : MarkOk 1 0 0 := ⟨by omega, by omega, by omega, by omega⟩
theorem zeros_arg (w : World) (m : Nat) (hm : m ≤ 1000000) : ArgV (w.alloc (.cells (valsArr (fun _ => .int .u8 0) m) 5)) (some ⟨w.heap.size, 0, none⟩) m (fun _ => .int .u8 (0 : Nat)) :=
  (RowV.of_blk (Blk.new w 5 _)).arg (by omega)
/-- The fresh page, its first point moved by 3. -/
def awD : Nat → Nat := pgD 1 0 0 (fun _ => 0) 20
def awS : Nat → Nat := pageS 2 12 awD
theorem awD_lt (i : Nat) : awD i < 1024 := pgD_lt mark_1 _ _ i
theorem awS_lt {i : Nat} (hi : i < 56) : awS i < 1024 := pageS_lt awD_lt (by omega) hi
theorem awS_0 : awS 0 = 1 := (word_is (W := 2) (K := 12) awD_lt 0).data 0 (by omega)
def awX (i : Nat) : Int := reS (awS i) + if i = 0 then 24 else 0
def awY (i : Nat) : Int := imS (awS i) + 0
theorem awXY_u (i : Nat) : Pu (awX i) ∧ Pu (awY i) := by
  have h1 := re_le (awS i)
  have h2 := im_le (awS i)
  unfold awX awY Pu
  constructor
  · split <;> omega
  · omega
theorem aw_sl {i : Nat} (hi : i < 56) (h0 : i ≠ 0) : slS awX awY i = awS i := by
  unfold slS awX awY
  rw [if_neg h0, Int.add_zero, Int.add_zero]
  exact sl_sym (awS_lt hi)
theorem aw_on (i : Nat) : onB (awX i) (awY i) = false := by
  unfold onB
  rw [decide_eq_false (show ¬ awY i = 0 by have := co_ne (awS i % 32); unfold awY imS; omega), Bool.and_false]
theorem aw_row0 : wrongN (fun i => onB (awX (0 + i * 2)) (awY (0 + i * 2))) (slS (fun i => awX (0 + i * 2)) (fun i => awY (0 + i * 2))) (wordS 2 12 awD 0) (12 + 16) = 1 := by
  rw [wrongN_one (k := 0) (.inr ?_)]
  · rfl
  · intro i hi h0
    refine ⟨aw_on _, ?_⟩
    rw [← page_at (by omega : 0 < 2), show pageS 2 12 awD = awS from rfl]
    exact (aw_sl (by omega) (by omega)).symm
  · rw [← page_at (by omega : 0 < 2), show pageS 2 12 awD = awS from rfl]
    show awS 0 ≠ sl (reS (awS 0) + 24) (imS (awS 0) + 0)
    rw [awS_0]
    decide
theorem aw_row1 : wrongN (fun i => onB (awX (1 + i * 2)) (awY (1 + i * 2))) (slS (fun i => awX (1 + i * 2)) (fun i => awY (1 + i * 2))) (wordS 2 12 awD 1) (12 + 16) = 0 :=
  wrongN_zero fun i hi => by
    refine ⟨aw_on _, ?_⟩
    rw [← page_at (by omega : 1 < 2), show pageS 2 12 awD = awS from rfl]
    exact (aw_sl (by omega) (by omega)).symm
theorem aw_good0 : GoodRow (fun i => awX (0 + i * 2)) (fun i => awY (0 + i * 2)) (12 + 16) (wordS 2 12 awD 0) := good_of (word_is awD_lt 0) (by rw [aw_row0]; omega)
theorem aw_good1 : GoodRow (fun i => awX (1 + i * 2)) (fun i => awY (1 + i * 2)) (12 + 16) (wordS 2 12 awD 1) := good_of (word_is awD_lt 1) (by rw [aw_row1]; omega)
theorem aw_goods (r : Nat) (hr : r < 2) : GoodRow (fun i => awX (r + i * 2)) (fun i => awY (r + i * 2)) (12 + 16) (wordS 2 12 awD r) := by
  obtain rfl | rfl : r = 0 ∨ r = 1 := by omega
  · exact aw_good0
  · exact aw_good1
theorem aw_sum : offX 2 awX (wordS 2 12 awD) 56 = 24 ∧ offY 2 awY (wordS 2 12 awD) 56 = 0 := by
  constructor
  · rw [offX_one (W := 2) (K := 12) (x := awX) (D := awD) (a := 24) (fun i _ => rfl)]
    rfl
  · rw [offY_same (W := 2) (K := 12) (x := awY) (D := awD) (a := 0) (fun i _ => rfl)]
    rfl
theorem ord_self {n : Int} (h : Sm n) : FloatKind.f64.format.order (fx n) (fx n) = some .eq := by
  rw [show FloatKind.f64.format.order (fx n) (fx n) = _ from fx_order h h, Int.compare_eq_eq.2 rfl]
theorem fx_lit3 : fx 48 = 4613937818241073152 := by decide
theorem pt_3 : Value.complex .f64 4613937818241073152 0 = ptv 24 0 := by
  unfold ptv
  rw [show (2 * (24 : Int)) = 48 from rfl, show (2 * (0 : Int)) = 0 from rfl, fx_lit3, fx_zero]
end Go.Proofs.YtdlmjjlejkkniaaGreat
