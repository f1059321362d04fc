/- code.Generator. -/
import Derived.Test.YtnejnoiogojplaaDecode
import Derived.Test.YtnejnoiogojplaaProd
import Derived.Test.YtnejnoiogojplaaZeros
namespace Go.Proofs.Ytnejnoiogojplaa
open Go.RowKit

/-- The generator's roots, in order; the generator, so far. -/
def genR : Nat → Nat := fun i => ex (i + 1)
def genP (i : Nat) : Nat → Nat := prodP genR i
theorem genP_pol (i : Nat) : IsPol (genP i) (i + 1) := prodP_pol genR i
theorem genP_root {x : Nat} (hx : x < 1024) (i : Nat) : hor (genP i) x 0 (i + 1) = 0 ↔ ∃ j, j < i ∧ ex (j + 1) = x := prodP_root hx (fun _ => ex_lt _) i
theorem genM (i : Nat) (h : i < 16) : pmulM (cut (genP i) (i + 1)) (i + 1) (cut (lst [ex (i + 1), 1]) 2) 2 = genP (i + 1) := by
  rw [(genP_pol i).cut (Nat.le_refl _)]
  exact pmulM_eq (genP_pol i) (lin_pol (ex (i + 1))) (by omega)

set_option maxHeartbeats 4000000 in
set_option maxRecDepth 100000 in
theorem generator_any (V : Value) (w : World) (hT : HasT w V) :
    Calls Try.prog 16 #[V] w fun e w' => ∃ a', e = .returned (.slice a' 17 17) ∧ ResU w' w.heap.size a' 17 (genP 16) ∧ Keep (fun _ => False) w w' := by
  obtain ⟨a1, n1, c1, a2, n2, c2, rfl⟩ := hT.form
  obtain ⟨W, hW⟩ : ∃ W, W = w.alloc (.cells #[.slice a1 n1 c1, .slice a2 n2 c2] 27) := ⟨_, rfl⟩
  have hws : W.heap.size = w.heap.size + 1 := by rw [hW]; simp
  have kw : Keep (fun _ => False) w W := by rw [hW]; exact (Keep.refl _ w).alloc _
  have b0 : Blk W w.heap.size 27 #[.slice a1 n1 c1, .slice a2 n2 c2] := by rw [hW]; exact Blk.new w _ _
  have HT := Lib.hid (hT.keep kw)
  have A := Laid.pol W #[.int .u16 1] _ _ p1 (by omega) (uArr_one 1)
  have k0 := A.k
  have r0 : ResU (W.alloc (.cells #[.int .u16 1] 23)) w.heap.size (some ⟨w.heap.size + 1, 0, none⟩) (0 + 1) (genP 0) := .inr ⟨w.heap.size + 1, rfl, by omega, by
    rw [← hws]
    exact Blk.new W _ _⟩
  clear hT A
  go_enter Try.func16, Try.ntmps16
  go_wp2_with fail
  rw [← hW]
  clear hW
  go_loopw [3, 4] (fun v3 v4 wr => ∃ (i : Nat) (aP : Option Addr), i ≤ 16 ∧ v3 = .slice aP (i + 1) (i + 1) ∧ v4 = .int .i64 ((i : Int) + 1) ∧ Hid (ResU wr w.heap.size aP (i + 1) (genP i)) ∧ Keep (fun _ => False) W wr) (fun _ v _ => 17 - (intOf v).toNat)
  case atStart => exact ⟨0, _, by omega, rfl, rfl, Lib.hid r0, k0⟩
  case round =>
    clear r0 k0
    obtain ⟨i, aP, hi, rfl, rfl, HP, kk⟩ := hrel
    by_cases hil : i < 16
    · have hil' : (i : Int) + 1 ≤ 16 := by omega
      have kd := (Keep.refl (fun _ => False) wr).drew
      have b1 := (b0.keep kk (by simp)).keep kd (by simp)
      have d0 : wr.drew.cell? ⟨w.heap.size, 0, none⟩ = some (.slice a1 n1 c1) := by rw [b1.cell]; rfl
      have d1 : wr.drew.cell? ⟨w.heap.size, 1, none⟩ = some (.slice a2 n2 c2) := by rw [b1.cell]; rfl
      have HX := Lib.hid (show ex (((i : Int) + 1) % 1023).toNat = ex (i + 1) by congr 1; omega)
      have eM := Lib.hid (genM i hil)
      have HPP := Lib.hid (show IsPol (cut (genP i) (i + 1)) (i + 1) by rw [(genP_pol i).cut (Nat.le_refl _)]; exact genP_pol i)
      have TD := Lib.hid ((HT.out.keep kk).keep kd)
      have KD := Lib.hid (kk.comp kd)
      have AP := Lib.hid (((HP.out.keep kd).arg (by omega) (genP_pol i).lt16))
      have hxl := ex_lt (i + 1)
      clear kk kd HP
      go_wp2_with fail
      go_region_held3 (fun w' => w'.cell? ⟨w.heap.size, 0, none⟩ = some (.slice a1 n1 c1) ∧ w'.cell? ⟨w.heap.size, 1, none⟩ = some (.slice a2 n2 c2))
        (first | exact ⟨d0, d1⟩ | exact ⟨f0, f1⟩ | exact ⟨g0, g1⟩ | exact ⟨h0, h1⟩)
        (first
          | (go_at_call 32; refine (exp_any _ _ _ TD.out).mono ?_; rintro e W3 ⟨rfl, k3⟩; rw [HX.out]; have b5 := b1.keep k3 (by simp); have f0 : W3.cell? ⟨w.heap.size, 0, none⟩ = some (.slice a1 n1 c1) := by { rw [b5.cell]; rfl }; have f1 : W3.cell? ⟨w.heap.size, 1, none⟩ = some (.slice a2 n2 c2) := by { rw [b5.cell]; rfl }; have A := Laid.new W3 #[.int .u16 (ex (i + 1) : Nat), .int .u16 1] (lst [ex (i + 1), 1]) 2 (uArr_two _ _) (by omega) (fun j _ => lst_small [ex (i + 1), 1] (by simp; omega) j); have b6 := b5.keep A.k (by simp); have g0 : (W3.alloc (.cells #[.int .u16 (ex (i + 1) : Nat), .int .u16 1] 23)).cell? ⟨w.heap.size, 0, none⟩ = some (.slice a1 n1 c1) := by { rw [b6.cell]; rfl }; have g1 : (W3.alloc (.cells #[.int .u16 (ex (i + 1) : Nat), .int .u16 1] 23)).cell? ⟨w.heap.size, 1, none⟩ = some (.slice a2 n2 c2) := by { rw [b6.cell]; rfl })
          | (go_at_call 31; refine (mul_any _ _ _ (i + 1) 2 (i + 1) 2 _ _ (i + 1) 2 HPP.out (lin_pol (ex (i + 1))) _ ((TD.out.keep k3).keep A.k) ((AP.out.keep k3).keep A.k) (A.a _ rfl) (by omega) (by omega) (Nat.le_refl _) (Nat.le_refl _)).mono ?_; rintro e w5 ⟨aQ, mQ, rfl, rQ, pQ, _, k5⟩; rw [eM.out] at rQ pQ; obtain rfl : mQ = i + 1 + 1 := pQ.uniq (genP_pol (i + 1)); have b7 := b6.keep k5 (by simp); have h0 : w5.cell? ⟨w.heap.size, 0, none⟩ = some (.slice a1 n1 c1) := by { rw [b7.cell]; rfl }; have h1 : w5.cell? ⟨w.heap.size, 1, none⟩ = some (.slice a2 n2 c2) := by { rw [b7.cell]; rfl }))
      have k35 := (k3.comp A.k).comp k5
      have K5 := Lib.hid (KD.out.comp k35)
      have R5 := Lib.hid (rQ.more (show w.heap.size ≤ _ by have := (KD.out.comp (k3.comp A.k)).size; omega))
      clear d0 d1 f0 f1 g0 g1 h0 h1 A k3 k5 k35 b1 b5 b6 b7 rQ pQ
      go_wp2_with fail
      go_roundw
      case rel => exact ⟨i + 1, aQ, by omega, rfl, by go_num, R5, K5.out⟩
      case measure => simp [intOf]; omega
    · obtain rfl : i = 16 := by omega
      have hil' : ¬ ((16 : Nat) : Int) + 1 ≤ 16 := by omega
      go_wp2_with fail
      go_ret
      exact ⟨aP, rfl, HP.out, kw.comp kk⟩
end Go.Proofs.Ytnejnoiogojplaa
