/- The reference's Exp, Generator. -/
import Derived.Test.YtdlmjjlejkkniaaGreatCodeAll
import Derived.Test.YtdlmjjlejkkniaaGreatRefA
namespace Go.Proofs.YtdlmjjlejkkniaaGreat
open Go.RowKit

theorem gm_two (i : Nat) : gm (ex i) 2 = ex (i + 1) := ex_add i 1
set_option maxHeartbeats 1000000 in
theorem rexp_any (n : Nat) (w : World) (hn : n < 1023) :
    Calls Tryz.prog 83 #[.int .i64 n] w fun e w' => e = .returned (.int .u16 (ex n : Nat)) ∧ w = w' := by
  have e1 : ((n : Int)).tmod 1023 = (n : Int) := by rw [Int.tmod_eq_emod_of_nonneg (by omega)]; omega
  have e2 : ((n : Int) + 1023).tmod 1023 = (n : Int) := by rw [Int.tmod_eq_emod_of_nonneg (by omega)]; omega
  go_enter Tryz.func83, Tryz.ntmps83
  go_wp2_with fail
  go_loopw [3, 4] (fun v3 v4 wr => ∃ i : Nat, i ≤ n ∧ v4 = .int .i64 i ∧ v3 = .int .u16 (ex i : Nat) ∧ w = wr) (fun _ v4 _ => n - (intOf v4).toNat)
  case atStart => exact ⟨0, by omega, rfl, rfl, rfl⟩
  case round =>
    obtain ⟨i, hi, rfl, rfl, rfl⟩ := hrel
    have hx := ex_lt i
    by_cases hin : i < n
    · have hin' : (i : Int) < (n : Int) := by omega
      have HG := Lib.hid (gm_two i)
      go_wp2_with fail
      refine (rmul_lt (ex i) 2 _ hx (by omega)).mono ?_
      rintro e w1 ⟨rfl, rfl⟩
      rw [HG.out]
      go_wp2_with fail
      exact ⟨⟨i + 1, by omega, by go_num, rfl, by first | rfl | trivial⟩, by simp [intOf]; omega⟩
    · obtain rfl : i = n := by omega
      have hin' : ¬ (i : Int) < (i : Int) := by omega
      go_wp2_with fail
      go_ret
      exact ⟨rfl, rfl⟩

set_option maxHeartbeats 2000000 in
theorem rgenerator_any (w : World) :
    Calls Tryz.prog 56 #[] w fun e w' => ∃ a', e = .returned (.slice a' 17 17) ∧ ResU w' w.heap.size a' 17 (genP 16) ∧ Keep (fun _ => False) w w' := by
  have A := Laid.pol w #[.int .u16 1] _ _ p1 (by omega) (uArr_one 1)
  have k0 := A.k
  have r0 : ResU (w.alloc (.cells #[.int .u16 1] 25)) w.heap.size (some ⟨w.heap.size, 0, none⟩) (0 + 1) (genP 0) := .inr ⟨w.heap.size, rfl, by omega, Blk.new w _ _⟩
  clear A
  go_enter Tryz.func56, Tryz.ntmps56
  go_wp2_with fail
  go_loopw [1, 2] (fun v3 v4 wr => ∃ (i : Nat) (aP : Option Addr), i ≤ 16 ∧ v3 = .slice aP (i + 1) (i + 1) ∧ v4 = .int .i64 ((i : Int) + 1) ∧ Hid (ResU wr w.heap.size aP (i + 1) (genP i)) ∧ Keep (fun _ => False) w wr) (fun _ v _ => 17 - (intOf v).toNat)
  case atStart => exact ⟨0, _, by omega, rfl, rfl, Lib.hid r0, k0⟩
  case round =>
    clear r0 k0
    obtain ⟨i, aP, hi, rfl, rfl, HP, kk⟩ := hrel
    by_cases hil : i < 16
    · have hil' : (i : Int) + 1 ≤ 16 := by omega
      have eM := Lib.hid (genM i hil)
      have HPP := Lib.hid (show IsPol (cut (genP i) (i + 1)) (i + 1) by rw [(genP_pol i).cut (Nat.le_refl _)]; exact genP_pol i)
      have hxl := ex_lt (i + 1)
      have A := Laid.new wr #[.int .u16 (ex (i + 1) : Nat), .int .u16 1] (lst [ex (i + 1), 1]) 2 (uArr_two _ _) (by omega) (fun j _ => lst_small [ex (i + 1), 1] (by simp; omega) j)
      have AP := Lib.hid ((HP.out.keep A.k).arg (by omega) (genP_pol i).lt16)
      have AA := Lib.hid (A.a _ rfl)
      have kA := kk.comp A.k
      have HE := Lib.hid (rexp_any (i + 1) wr (by omega))
      clear A HP
      go_wp2_with fail
      refine HE.out.mono ?_
      rintro e w1 ⟨rfl, rfl⟩
      go_wp2_with fail
      refine (rpmul_any _ _ (i + 1) 2 (i + 1) 2 _ _ (i + 1) 2 HPP.out (lin_pol (ex (i + 1))) _ AP.out AA.out (by omega) (by omega)).mono ?_
      rintro e w5 ⟨aQ, mQ, rfl, rQ, pQ, k5⟩
      rw [eM.out] at rQ pQ
      obtain rfl : mQ = i + 1 + 1 := pQ.uniq (genP_pol (i + 1))
      have R5 := Lib.hid (rQ.more (show w.heap.size ≤ _ from kA.size))
      have K5 := kA.comp k5
      clear rQ pQ kA kk k5 AP AA
      go_wp2_with fail
      go_roundw
      case rel => exact ⟨i + 1, aQ, by omega, rfl, by go_num, R5, K5⟩
      case measure => simp [intOf]; omega
    · obtain rfl : i = 16 := by omega
      have hil' : ¬ ((16 : Nat) : Int) + 1 ≤ 16 := by omega
      go_wp2_with fail
      go_ret
      exact ⟨aP, rfl, HP.out, kk⟩
end Go.Proofs.YtdlmjjlejkkniaaGreat
