/- Products of floats, exact; the greatest of four. -/
import Derived.Test.YtdlmjjlejkkniaaLawHead
namespace Go.Proofs.Ytdlmjjlejkkniaa
open Go.RowKit Ieee

theorem fx_mul {a b : Int} (ha : Sm a) (hb : Sm (16 * b)) (h : Sm (a * b)) (h0 : a ≠ 0) (h1 : b ≠ 0) : double.mul (fx a) (fx (16 * b)) = some (fx (a * b)) := by
  obtain ⟨e, he⟩ := fx_read ha
  obtain ⟨f, hf⟩ := fx_read hb
  unfold Format.mul
  rw [he, hf]
  show (some _ : Option Datum).map double.write = _
  rw [Option.map_some]
  congr 1
  refine Rd.write ⟨e + f + 4, ?_⟩ h
  congr 1
  · by_cases ha : a < 0
    · by_cases hb : b < 0
      · rw [decide_eq_true ha, decide_eq_true (show 16 * b < 0 by omega), decide_eq_false (Int.not_lt.2 (Int.le_of_lt (Int.mul_pos_of_neg_of_neg ha hb)))]
        rfl
      · rw [decide_eq_true ha, decide_eq_false (show ¬ 16 * b < 0 by omega), decide_eq_true (Int.mul_neg_of_neg_of_pos ha (by omega))]
        rfl
    · by_cases hb : b < 0
      · rw [decide_eq_false ha, decide_eq_true (show 16 * b < 0 by omega), decide_eq_true (Int.mul_neg_of_pos_of_neg (by omega) hb)]
        rfl
      · rw [decide_eq_false ha, decide_eq_false (show ¬ 16 * b < 0 by omega), decide_eq_false (Int.not_lt.2 (Int.mul_nonneg (by omega) (by omega)))]
        rfl
  · rw [Int.natAbs_mul, Int.natAbs_mul, show e + f + 4 = e + (f + 4) by omega, Nat.pow_add, Nat.pow_add]
    show a.natAbs * 2 ^ e * (16 * b.natAbs * 2 ^ f) = a.natAbs * b.natAbs * (2 ^ e * (2 ^ f * 2 ^ 4))
    rw [show (2 : Nat) ^ 4 = 16 from rfl]
    ac_rfl
  · omega
theorem run_max_fl4 {P : Program} (w : World) (ts : Array TypeId) (t : TypeId) {a b c d : Int} (ha : Sm a) (hb : Sm b) (hc : Sm c) (hd : Sm d) :
    (Builtin.max_ ts t #[.float .f64 (fx a), .float .f64 (fx b), .float .f64 (fx c), .float .f64 (fx d)]).run P w = .ok (.float .f64 (fx (max (max (max a b) c) d))) w := by
  have h1 : Sm (max a b) := by unfold Sm at *; omega
  have h2 : Sm (max (max a b) c) := by unfold Sm at *; omega
  simp [Builtin.max_, max2_fl w ha hb, max2_fl w h1 hc, Result.andThen]
  rw [show max a (max b c) = max (max a b) c by omega, max2_fl w h2 hd]
  simp
theorem wpList_max4 {w : World} {ops : Array Oper} {rest : List Oper} {o : Oper} {a : Act} {Q : Exit → Act → World → Prop} (hgd : o.guard = none) (s x y z : Operand)
    (ho : o.op = .call { callee := .builtin .max, args := #[s, x, y, z], argTypes := #[54, 54, 54, 54] })
    {i j k l : Int} (hi : Sm i) (hj : Sm j) (hk : Sm k) (hl : Sm l) (hs : a.eval s = .float .f64 (fx i)) (hx : a.eval x = .float .f64 (fx j)) (hy : a.eval y = .float .f64 (fx k)) (hz : a.eval z = .float .f64 (fx l)) (m : Int) (hm : max (max (max i j) k) l = m)
    (h : wpList Try.prog ops Q rest (a.put o.dst (.float .f64 (fx m))) w) : wpList Try.prog ops Q (o :: rest) a w :=
  wpList_plain hgd fun K hK => by
    have hrun := run_max_fl4 (P := Try.prog) w #[54, 54, 54, 54] o.type hi hj hk hl
    rw [hm] at hrun
    unfold Oper.wp
    simp [execOp, ho, resolve, invoke, builtin, hs, hx, hy, hz, hrun, Result.andThen]
    exact hK _ _ h
end Go.Proofs.Ytdlmjjlejkkniaa
