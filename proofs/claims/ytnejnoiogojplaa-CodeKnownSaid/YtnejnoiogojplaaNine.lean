/- Eight symbols that are wrong, and nine, by hand: plain. -/
import Derived.Test.YtnejnoiogojplaaCodeAll
namespace Go.Proofs.Ytnejnoiogojplaa

def eightK (i : Nat) : Nat → Nat := fun t => if t % 5 = 0 ∧ t / 5 < i then t / 5 + 1 else 0
def eight : Nat → Nat := eightK 8
def nine : Nat → Nat := updU eight 39 1
theorem eight_near : Near eight 40 (fun _ => 0) 8 := by
  refine ⟨fun _ _ => by omega, fun j _ => ?_, by decide +kernel, by omega⟩
  refine xs_zero 40 fun i _ => ?_
  show gm (rv (fun _ => 0) 40 i) _ = 0
  rw [show rv (fun _ => 0) 40 i = 0 by unfold rv; split <;> rfl, gm_zero_left]
def nineS : Nat → Nat := lst [485, 166, 90, 77, 298, 725, 250, 12, 662, 269, 183, 188, 412, 727, 520, 865]
def nineF : Nat → Nat := lst [1, 534, 118, 52, 94, 365, 288, 142, 946]
def nineM (i j : Nat) : Nat := lst [994, 636, 136, 285, 827, 390, 771, 685, 988, 865, 605, 863, 295, 403, 520, 771, 432, 140, 734, 740, 459, 363, 403, 390, 926, 862, 735, 926, 582, 459, 295, 827, 636, 366, 251, 256, 926, 740, 863, 285, 403, 602, 326, 251, 735, 734, 605, 136, 767, 278, 602, 366, 862, 140, 865, 636, 275, 767, 403, 636, 926, 432, 988, 994] (8 * i + j)
theorem nine_syn : ∀ j, j < 16 → synW nine 40 j = nineS j := fun j hj => by
  have h : ((List.range 16).all fun j => synW nine 40 j == nineS j) = true := by decide +kernel
  simpa using all_lt h j hj
theorem nine_inv : ∀ i, i < 8 → ∀ k, k < 8 → xs 8 (fun j => gm (nineM i j) (nineS (7 + j - k))) = if i = k then 1 else 0 := fun i hi k hk => by
  have h : ((List.range 8).all fun i => (List.range 8).all fun k => xs 8 (fun j => gm (nineM i j) (nineS (7 + j - k))) == if i = k then 1 else 0) = true := by decide +kernel
  have h1 := all_lt h i hi
  simpa using all_lt h1 k hk
theorem nine_sol : ∀ j, j < 8 → xs 8 (fun k => gm (nineS (7 + j - k)) (nineF (k + 1))) = nineS (8 + j) := fun j hj => by
  have h : ((List.range 8).all fun j => xs 8 (fun k => gm (nineS (7 + j - k)) (nineF (k + 1))) == nineS (8 + j)) = true := by decide +kernel
  simpa using all_lt h j hj
theorem nine_root : ∀ i, i < 40 → hor nineF (ex (1023 - i)) 0 9 ≠ 0 := fun i hi => by
  have h : ((List.range 40).all fun i => hor nineF (ex (1023 - i)) 0 9 != 0) = true := by decide +kernel
  simpa using all_lt h i hi
theorem nineS_lt (i : Nat) : nineS i < 1024 := by
  by_cases h : i < 16
  · have h : ((List.range 16).all fun i => decide (nineS i < 1024)) = true := by decide +kernel
    simpa using all_lt h i (by assumption)
  · rw [show nineS i = 0 from by unfold nineS lst; rw [List.getD_eq_getElem?_getD, List.getElem?_eq_none (by simp; omega)]; rfl]
    omega
theorem nineF_lt (i : Nat) : nineF i < 1024 := by
  by_cases h : i < 9
  · have h : ((List.range 9).all fun i => decide (nineF i < 1024)) = true := by decide +kernel
    simpa using all_lt h i (by assumption)
  · rw [show nineF i = 0 from by unfold nineF lst; rw [List.getD_eq_getElem?_getD, List.getElem?_eq_none (by simp; omega)]; rfl]
    omega
theorem nineM_lt (i j : Nat) (hi : i < 8) (hj : j < 8) : nineM i j < 1024 := by
  have h : ((List.range 8).all fun i => (List.range 8).all fun j => decide (nineM i j < 1024)) = true := by decide +kernel
  have h1 := all_lt h i hi
  simpa using all_lt h1 j hj
theorem inv_ex (i : Nat) (hi : i ≤ 1023) : inv i = ex (1023 - i) := by
  refine gm_cancel (ex_lt i) (inv_lt i) (ex_lt _) (ex_pos i) ?_
  rw [inv_mul, ex_add, show i + (1023 - i) = 1023 by omega, ex_1023]
theorem xs_pick {n i : Nat} (h : Nat → Nat) (hi : i < n) : xs n (fun k => gm (if i = k then 1 else 0) (h k)) = gm 1 (h i) := by
  rw [xs_one n i hi (fun k _ hk => by
    show gm (if i = k then 1 else 0) (h k) = 0
    rw [if_neg (fun e => hk e.symm), gm_zero_left]), if_pos rfl]
theorem nine_zero {h : Nat → Nat} (hh : ∀ i, h i < 1024) (hz : ∀ j, j < 8 → xs 8 (fun k => gm (nineS (7 + j - k)) (h k)) = 0) (i : Nat) (hi : i < 8) : h i = 0 := by
  have e1 : xs 8 (fun k => gm (xs 8 (fun j => gm (nineM i j) (nineS (7 + j - k)))) (h k)) = h i := by
    rw [xs_congr 8 (k := fun k => gm (if i = k then 1 else 0) (h k)) (fun k hk => by rw [nine_inv i hi k hk]), xs_pick h hi, gm_one_left (hh i)]
  rw [← e1]
  have e2 : ∀ k, k < 8 → gm (xs 8 (fun j => gm (nineM i j) (nineS (7 + j - k)))) (h k) = xs 8 (fun j => gm (nineM i j) (gm (nineS (7 + j - k)) (h k))) := fun k _ => by
    have e3 : xs 8 (fun j => gm (nineM i j) (nineS (7 + j - k))) = xs 8 (fun j => if j < 8 then gm (nineM i j) (nineS (7 + j - k)) else 0) := xs_congr 8 fun j hj => by rw [if_pos hj]
    rw [e3, xs_gm (fun j => by
      split
      · exact gm_lt (nineM_lt i j hi (by assumption)) _
      · omega)]
    exact xs_congr 8 fun j hj => by
      rw [if_pos hj, gm_assoc (nineM_lt i j hi hj) (nineS_lt _) (hh k)]
  rw [xs_congr 8 e2, xs_swap]
  exact xs_zero 8 fun j hj => by
    show xs 8 (fun k => gm (nineM i j) (gm (nineS (7 + j - k)) (h k))) = 0
    rw [← gm_xs, hz j hj, gm_zero_right]
theorem nine_lt : ∀ i, i < 40 → nine i < 1024 := fun i hi => by
  have h : ((List.range 40).all fun i => decide (nine i < 1024)) = true := by decide +kernel
  simpa using all_lt h i hi
theorem nine_none (q : Nat → Nat) (d : Nat) : ¬ Near nine 40 q d := by
  intro h
  have hc := wr_lt nine_lt h.lt
  have hle := h.le
  have hlen : (plc nine q 40).length = d := by rw [plc_length, cntNe_comm, h.dist]
  have hsyn : ∀ j, j < 16 → syn (wr nine q 40) 40 j = nineS j := fun j hj => by rw [h.syn nine_lt j hj, nine_syn j hj]
  have hls : ∀ i, i < 40 → wr nine q 40 i ≠ 0 → i ∈ plc nine q 40 := fun i hi h0 => (plc_mem i).2 ⟨hi, h0⟩
  have hg := gen_locOf (N := 16) hc (plc nine q 40) hls
  rw [hlen] at hg
  generalize locOf (plc nine q 40) = g at *
  have hd : ∀ j, j < 8 → xs 8 (fun k => gm (nineS (7 + j - k)) (g (k + 1))) = nineS (8 + j) := fun j hj => by
    have h1 := hg.gen (8 + j) (by omega) (by omega)
    rw [← disc_more (L2 := 8) hg.zero hle, disc_congr (S' := nineS) (fun i hi => hsyn i (by omega))] at h1
    unfold disc at h1
    rw [xs_head, hg.one, gm_one_left (nineS_lt _)] at h1
    refine Eq.trans (xs_congr 8 fun k _ => ?_) (xor_eq_zero h1).symm
    show gm (nineS (7 + j - k)) (g (k + 1)) = gm (g (k + 1)) (nineS (8 + j - (k + 1)))
    rw [gm_comm (nineS_lt _) (hg.lt _), show 8 + j - (k + 1) = 7 + j - k by omega]
  have hz := nine_zero (h := fun k => g (k + 1) ^^^ nineF (k + 1)) (fun k => xor_lt (hg.lt _) (nineF_lt _)) (fun j hj => by
    rw [xs_congr 8 (k := fun k => gm (nineS (7 + j - k)) (g (k + 1)) ^^^ gm (nineS (7 + j - k)) (nineF (k + 1))) (fun k _ => gm_add_right _ _ _), xs_add, hd j hj, nine_sol j hj, Nat.xor_self])
  have heq : ∀ i, i < 9 → g i = nineF i := fun i hi => by
    rcases i with _ | i
    · exact hg.one
    · exact xor_eq_zero (hz i (by omega))
  rcases Nat.eq_zero_or_pos d with h0 | h0
  · have e := cntNe_zero.1 (h.dist.trans h0)
    have := h.word 0 (by omega)
    rw [synW_congr e, nine_syn 0 (by omega)] at this
    exact absurd this (by decide)
  · obtain ⟨i0, hi0⟩ := List.exists_mem_of_length_pos (l := plc nine q 40) (by omega)
    have hi := (plc_mem i0).1 hi0
    have hr := roots_of_gen (by omega) hc hg (plc nine q 40) (by omega) hls i0 hi.1 hi.2
    rw [← val_more (M := 8) hg.zero hle, val_hor hg.lt (inv_lt i0), inv_ex i0 (by omega), hor_congr 0 9 (fun i _ h2 => heq i (by omega))] at hr
    exact nine_root i0 hi.1 hr
end Go.Proofs.Ytnejnoiogojplaa
