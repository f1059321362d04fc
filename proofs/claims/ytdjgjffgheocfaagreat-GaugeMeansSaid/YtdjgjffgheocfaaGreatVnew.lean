/- Contracts of package valid: New. -/
import Derived.Test.YtdjgjffgheocfaaGreatVb1
namespace Go.Proofs.YtdjgjffgheocfaaGreat
open Go.RowKit

theorem Tryz.info_u64 : (Tryz.prog.info? 189).map (fun i => (i.zero, i.size, i.bytes)) = some (some (.int .u64 0), 1, 8) := by kernel_rfl
theorem words_made (m : Nat) : madeCells #[Value.int .u64 0] m = wordsArr (fun _ => false) m := by
  apply Array.ext_getElem?
  intro i
  by_cases hi : i < m
  · have : wordOf (fun _ => false) i = 0 := (wordOf_zero _ _).2 fun _ _ => rfl
    simp [madeCells, wordsArr, hi, this, Nat.mod_one]
  · simp [madeCells, wordsArr, hi]
theorem make_words (x : Int) (m : Nat) (hx : x = m) (hm : m ≤ 20000) (w : World) :
    (Instr.makeSlice 179 (.int .i64 x) (.int .i64 x)).run Tryz.prog w = .ok (.slice (some ⟨w.heap.size, 0, none⟩) m m) (w.alloc (.cells (wordsArr (fun _ => false) m) 189)) := by
  subst hx
  rw [← words_made]
  exact run_make_row' (P := Tryz.prog) 179 189 (.int .u64 0) 8 Tryz.underlying179 Tryz.info_u64 rfl .i64 .i64 m (by omega) (by omega) w
theorem isBits_new (w : World) (n : Nat) (hn : n ≤ 1048576) (nw : Nat) (hnw : nw = (n + 63) / 64) :
    IsBits ((w.alloc (.cells (wordsArr (fun _ => false) nw) 189)).alloc (.cells #[.slice (some ⟨w.heap.size, 0, none⟩) nw nw, .int .i64 n] 181)) (w.heap.size + 1) w.heap.size n (fun _ => false) := by
  subst hnw
  refine ⟨hn, ?_, (Blk.new w _ _).alloc _, fun _ _ => rfl⟩
  have := Blk.new (w.alloc (.cells (wordsArr (fun _ => false) ((n + 63) / 64)) 189)) 181 #[.slice (some ⟨w.heap.size, 0, none⟩) ((n + 63) / 64) ((n + 63) / 64), .int .i64 n]
  simpa using this

theorem new_any (i : Int) (n : Nat) (w : World) (hi : (i < 0 ∧ n = 0) ∨ (i = n ∧ n ≤ 1048576) ∨ (1048576 < i ∧ n = 1048576)) :
    Calls Tryz.prog 74 #[.int .i64 i] w fun e w' => e = .returned (.pointer (some ⟨w.heap.size + 1, 0, none⟩)) ∧ IsBits w' (w.heap.size + 1) w.heap.size n (fun _ => false) ∧ Keep (fun _ => False) w w' := by
  rcases hi with ⟨h, rfl⟩ | ⟨rfl, h2⟩ | ⟨h, rfl⟩
  · have hm := make_words 0 0 rfl (by omega)
    go_enter Tryz.func74, Tryz.ntmps74
    go_wp2
    go_ret
    exact ⟨rfl, isBits_new w 0 (by omega) _ rfl, ((Keep.refl _ _).alloc _).alloc _⟩
  · have hm := make_words ((n + 64 - 1) / 64) ((n + 63) / 64) (by omega) (by omega)
    go_enter Tryz.func74, Tryz.ntmps74
    go_wp2
    go_ret
    exact ⟨rfl, isBits_new w n (by omega) _ rfl, ((Keep.refl _ _).alloc _).alloc _⟩
  · have hm := make_words 16384 16384 rfl (by omega)
    have h0 : ¬ (i < 0) := by omega
    have h1 : (if i < 0 then 0 else i) = i := by simp [h0]
    go_enter Tryz.func74, Tryz.ntmps74
    go_wp2
    go_ret
    exact ⟨rfl, isBits_new w 1048576 (by omega) _ rfl, ((Keep.refl _ _).alloc _).alloc _⟩
end Go.Proofs.YtdjgjffgheocfaaGreat
