/- poly.Div. -/
import Derived.Test.YtdlmjjlejkkniaaGreatPolW
import Derived.WalkMore
import Derived.ScopeJumps
namespace Go.Proofs.YtdlmjjlejkkniaaGreat
open Go.RowKit

/-- One step of the long division, at place k. -/
def divR (g : Nat → Nat) (k c j : Nat) (R : Nat → Nat) : Nat → Nat := fun t => if k ≤ t ∧ t < k + j then R t ^^^ gm c (g (t - k)) else R t
noncomputable def divC (g : Nat → Nat) (lb : Nat) (R : Nat → Nat) (k : Nat) : Nat := gm (R (k + lb - 1)) (gi (g (lb - 1)))
/-- k steps of the long division, from place k - 1 down. -/
noncomputable def divRun (g : Nat → Nat) (lb : Nat) : Nat → (Nat → Nat) × (Nat → Nat) → (Nat → Nat) × (Nat → Nat)
  | 0, s => s
  | k + 1, s => divRun g lb k (divR g k (divC g lb s.1 k) lb s.1, fun t => if t = k then divC g lb s.1 k else s.2 t)
theorem divR_next (g : Nat → Nat) (k c j : Nat) (R : Nat → Nat) (t : Nat) : divR g k c (j + 1) R t = if t = k + j then divR g k c j R (k + j) ^^^ gm c (g j) else divR g k c j R t := by
  unfold divR
  by_cases e : t = k + j
  · subst e
    rw [if_pos ⟨by omega, by omega⟩, if_pos rfl, if_neg (by omega), Nat.add_sub_cancel_left]
  · rw [if_neg e]
    by_cases h : k ≤ t ∧ t < k + j
    · rw [if_pos h, if_pos ⟨h.1, by omega⟩]
    · rw [if_neg h, if_neg (by omega)]
theorem divR_lt {g R : Nat → Nat} {k c j : Nat} (hc : c < 1024) (hR : ∀ i, R i < 1024) (t : Nat) : divR g k c j R t < 1024 := by
  unfold divR
  split
  · exact xor_lt (hR t) (gm_lt hc _)
  · exact hR t
theorem divR_zero (g : Nat → Nat) (k c : Nat) (R : Nat → Nat) : divR g k c 0 R = R := by
  funext t
  unfold divR
  rw [if_neg (by omega)]

/-- What the division's loop holds, k places being left. -/
structure DivSt (w : World) (a1 a2 : Option Addr) (n1 n2 c1 c2 : Nat) (aR : Option Addr) (la : Nat) (g : Nat → Nat) (lb gB gq m : Nat) (f : Nat → Nat) (k : Nat) (R Q : Nat → Nat) (W : World) : Prop where
  hk : k ≤ m
  qb : gq ≠ gB
  far : ∀ gR, aR = some ⟨gR, 0, none⟩ → gR ≠ gB ∧ gR ≠ gq
  nq : w.heap.size ≤ gq
  run : Hid (divRun g lb k (R, Q) = divRun g lb m (f, fun _ => 0))
  rl : Hid (∀ i, R i < 1024)
  rz : Hid (∀ i, la ≤ i → R i = 0)
  ql : Hid (∀ i, Q i < 1024)
  qz : Hid (∀ i, m ≤ i → Q i = 0)
  row : ResU W w.heap.size aR la R
  q : Blk W gq 25 (uArr Q m)
  b : Blk W gB 25 (uArr g lb)
  t : Blk W w.heap.size 49 #[.slice a1 n1 c1, .slice a2 n2 c2]
  kp : Keep (fun _ => False) w W

/-- How many places the quotient has. -/
def quoN (la lb : Nat) : Nat := la + 1 - lb
/-- The quotient, and the rest. -/
noncomputable def quo (f : Nat → Nat) (la : Nat) (g : Nat → Nat) (lb : Nat) : Nat → Nat := if lb = 0 then fun _ => 0 else (divRun g lb (quoN la lb) (f, fun _ => 0)).2
noncomputable def rst (f : Nat → Nat) (la : Nat) (g : Nat → Nat) (lb : Nat) : Nat → Nat := if lb = 0 then fun _ => 0 else (divRun g lb (quoN la lb) (f, fun _ => 0)).1

theorem tinv_lt (V : Value) (a : Nat) (w : World) (hT : HasT w V) (ha : a < 1024) (h0 : a ≠ 0) :
    Calls Tryz.prog 118 #[V, .int .u16 a] w fun e w' => e = .returned (.tuple #[.int .u16 (gi a : Nat), .bool true]) ∧ Keep (fun _ => False) w w' := by
  have := tinv_any V a w hT true (Lib.hid (by rw [Nat.mod_eq_of_lt ha]; simpa using h0))
  rwa [Nat.mod_eq_of_lt ha] at this
theorem wp_scope_jumps2 {P : Program} {a : Act} {w : World} {Q : Exit → Act → World → Prop} {c X : Code} (l : Nat) (J : Act → World → Prop) (m : Act → World → Nat) (hf : findLabel c l = some (Code.skip.seq X))
    (pass : ∀ a w, J a w → X.wp P (Exit.jump l (fun a' w' => J a' w' ∧ m a' w' < m a w) Q) a w)
    (first : (∀ a w, J a w → X.wp P (Exit.jump l J Q) a w) → c.wp P (Exit.jump l J Q) a w) : (Code.scope c).wp P Q a w :=
  wp_scope_jumps l J m hf (first fun a w h => Code.wp_mono (fun e a' w' he => by
    cases e <;> first | exact he | exact ⟨he.1, he.2.1⟩) (pass a w h)) fun a w h => wp_seq (wp_skip (pass a w h))

end Go.Proofs.YtdlmjjlejkkniaaGreat
