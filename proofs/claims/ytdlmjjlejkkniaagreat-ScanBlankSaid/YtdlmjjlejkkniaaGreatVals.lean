/- Arrays of values by an index function; make. -/
import Derived.Test.YtdlmjjlejkkniaaGreatBase
import Derived.Lib.Hide
namespace Go.Proofs.YtdlmjjlejkkniaaGreat
open Go.RowKit

/-- n cells, cell i holding g i. -/
def valsArr (g : Nat → Value) (n : Nat) : Array Value := Array.ofFn (n := n) fun i => g i
theorem valsArr_size (g : Nat → Value) (n : Nat) : (valsArr g n).size = n := by simp [valsArr]
theorem valsArr_get (g : Nat → Value) (n i : Nat) (hi : i < n) : (valsArr g n)[i]? = some (g i) := by simp [valsArr, hi]
theorem valsArr_congr {g h : Nat → Value} {n : Nat} (e : ∀ i, i < n → g i = h i) : valsArr g n = valsArr h n := by
  apply Array.ext_getElem?
  intro i
  by_cases hi : i < n
  · simp [valsArr, hi, e i hi]
  · simp [valsArr, hi]
theorem valsArr_set (g : Nat → Value) (n i : Nat) (v : Value) : (valsArr g n).setIfInBounds i v = valsArr (fun k => if k = i then v else g k) n := by
  apply Array.ext_getElem?
  intro k
  rw [Array.getElem?_setIfInBounds]
  by_cases hk : k < n
  · by_cases h : i = k
    · subst h
      simp [valsArr, hk]
    · rw [if_neg h]
      simp [valsArr, hk, show ¬ k = i from fun e => h e.symm]
  · by_cases h : i = k
    · subst h
      simp [valsArr, hk]
    · rw [if_neg h]
      simp [valsArr, hk]
theorem valsArr_made (z : Value) (n : Nat) : madeCells #[z] n = valsArr (fun _ => z) n := by
  apply Array.ext_getElem?
  intro i
  by_cases hi : i < n
  · simp [madeCells, valsArr, hi, Nat.mod_one]
  · simp [madeCells, valsArr, hi]

/-- make of a slice of one-cell elements, at a length x that is the number m. -/
theorem make_vals {P : Program} {t e : TypeId} {z : Value} {bytes : Nat} (ht : P.underlying t = some (.slice e)) (hinfo : (P.info? e).map (fun i => (i.zero, i.size, i.bytes)) = some (some z, 1, bytes)) (hz : z.cells = #[z])
    (x : Int) (m : Nat) (hx : x = m) (hm : bytes * m ≤ 281474976710656) (hm2 : m ≤ 9223372036854775807) (w : World) :
    (Instr.makeSlice t (.int .i64 x) (.int .i64 x)).run P w = .ok (.slice (some ⟨w.heap.size, 0, none⟩) m m) (w.alloc (.cells (valsArr (fun _ => z) m) e)) := by
  subst hx
  rw [← valsArr_made]
  exact run_make_row' (P := P) t e z bytes ht hinfo hz .i64 .i64 m hm hm2 w

section
variable {w w' : World} {g : Nat} {t : TypeId} {f : Nat → Value} {n : Nat}
theorem Blk.val (h : Blk w g t (valsArr f n)) {i : Nat} (hi : i < n) : w.cell? ⟨g, i, none⟩ = some (f i) := by rw [h.cell, valsArr_get f n i hi]
theorem Blk.store (h : Blk w g t (valsArr f n)) (i : Nat) (v : Value) : Blk (w.setCell ⟨g, i, none⟩ v) g t (valsArr (fun k => if k = i then v else f k) n) := by
  have := h.put i v
  rwa [valsArr_set] at this
end
end Go.Proofs.YtdlmjjlejkkniaaGreat
