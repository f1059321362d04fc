/- blackboardlaw3.awake. -/
import Derived.Test.YtnpfncdfndabhaaRefD
import Derived.Test.YtnpfncdfndabhaaAt
namespace Go.Proofs.Ytnpfncdfndabhaa
open Go.RowKit
attribute [local go_sem ↓] Go.wp_at_zero Go.wp_at_succ

/-- Elements by hand. -/
def lst (l : List Nat) : Nat → Nat := fun i => l.getD i 0
theorem uArr_one (a : Nat) : uArr (lst [a]) 1 = #[.int .u16 a] := rfl
theorem uArr_two (a b : Nat) : uArr (lst [a, b]) 2 = #[.int .u16 a, .int .u16 b] := rfl
theorem uArr_three (a b c : Nat) : uArr (lst [a, b, c]) 3 = #[.int .u16 a, .int .u16 b, .int .u16 c] := rfl
theorem uArr_four (a b c d : Nat) : uArr (lst [a, b, c, d]) 4 = #[.int .u16 a, .int .u16 b, .int .u16 c, .int .u16 d] := rfl
/-- What a list says, as a polynomial. -/
theorem pol_list (l : List Nat) (n : Nat) (h : ∀ i, i < l.length → l.getD i 0 < 1024) (hl : l.length = n) (hz : 0 < n → l.getD (n - 1) 0 ≠ 0) : IsPol (lst l) n :=
  ⟨fun i => by
    rcases Nat.lt_or_ge i l.length with hi | hi
    · exact h i hi
    · show l.getD i 0 < 1024
      rw [List.getD_eq_getElem?_getD, List.getElem?_eq_none hi]; simp, fun i hi => by
    show l.getD i 0 = 0
    rw [List.getD_eq_getElem?_getD, List.getElem?_eq_none (by omega)]; rfl, fun h0 => hz h0⟩
theorem p11 : IsPol (lst [1, 1]) 2 := pol_list [1, 1] 2 (by decide) rfl (by decide)
theorem p101 : IsPol (lst [1, 0, 1]) 3 := pol_list [1, 0, 1] 3 (by decide) rfl (by decide)
theorem p51 : IsPol (lst [5, 1]) 2 := pol_list [5, 1] 2 (by decide) rfl (by decide)
theorem awake_prod : pmulM (cut (lst [1, 1]) 2) 2 (cut (lst [1, 1]) 2) 2 = lst [1, 0, 1] := by
  funext k
  unfold pmulM
  rw [if_neg (by omega)]
  rcases k with _ | _ | _ | k
  · decide
  · decide
  · decide
  · rw [pmul_zero (n := 2) (m := 2) (fun i hi => cut_zero _ hi) (fun i hi => cut_zero _ hi) (by omega)]
    rfl
theorem awake_at : hor (cut (lst [5, 1]) 2) (3 % 1024) 0 2 = 6 := by decide
theorem pol11 : IsPol (cut (lst [1, 1]) 2) 2 := by
  rw [cut_of_lt p11.lt p11.zero]
  exact p11

/-- A row that is laid by a literal. -/
structure Laid (w : World) (cs : Array Value) (f : Nat → Nat) (n : Nat) : Prop where
  a : ∀ g, g = w.heap.size → ArgU (w.alloc (.cells cs 23)) (some ⟨g, 0, none⟩) n f
  k : Keep (fun _ => False) w (w.alloc (.cells cs 23))
theorem Laid.new (w : World) (cs : Array Value) (f : Nat → Nat) (n : Nat) (e : uArr f n = cs) (hn : n ≤ 140737488355328) (hf : ∀ i, i < n → f i < 65536) : Laid w cs f n := by
  subst e
  exact ⟨fun g hg => (Blk.here w _ _ g hg).argU hn hf, (Keep.refl _ w).alloc _⟩

theorem Laid.pol (w : World) (cs : Array Value) (f : Nat → Nat) (n : Nat) (hp : IsPol f n) (hn : n ≤ 140737488355328) (e : uArr f n = cs) : Laid w cs f n :=
  Laid.new w cs f n e hn (fun i _ => hp.lt16 i)
theorem laid11 (w : World) : Laid w #[.int .u16 1, .int .u16 1] (lst [1, 1]) 2 := Laid.pol w _ _ _ p11 (by omega) (uArr_two 1 1)
theorem laid101 (w : World) : Laid w #[.int .u16 1, .int .u16 0, .int .u16 1] (lst [1, 0, 1]) 3 := Laid.pol w _ _ _ p101 (by omega) (uArr_three 1 0 1)
theorem laid51 (w : World) : Laid w #[.int .u16 5, .int .u16 1] (lst [5, 1]) 2 := Laid.pol w _ _ _ p51 (by omega) (uArr_two 5 1)

set_option maxHeartbeats 400000 in
theorem awake_true (w : World) :
    Calls Try.prog 9 #[] w fun e w' => e = .returned (.bool true) ∧ Keep (fun _ => False) w w' := by
  go_enter Try.func9, Try.ntmps9
  go_wp2_with fail
  refine (make_any _).mono ?_
  rintro e w1 ⟨g1, g2, rfl, T, _, _, k1⟩
  have A := laid11 w1
  have B := laid11 (w1.alloc (.cells #[.int .u16 1, .int .u16 1] 23))
  go_wp2_with fail
  refine (mul_any _ _ _ 2 2 2 2 _ _ 2 2 pol11 pol11 _ ((T.keep A.k).keep B.k).has ((A.a _ rfl).keep B.k) (B.a (w1.heap.size + 1) (by simp)) (by omega) (by omega) (by omega) (by omega)).mono ?_
  rintro e w2 ⟨aM, m, rfl, rM, pM, _, k2⟩
  rw [awake_prod] at rM pM
  obtain rfl : m = 3 := pM.uniq p101
  have C := laid101 w2
  have kk := ((k1.trans A.k (fun _ hi => .inl hi)).trans B.k (fun _ hi => .inl hi)).trans k2 (fun _ hi => .inl hi)
  have M := (rM.arg (by omega) pM.lt16).keep C.k
  clear T A B k2 rM pM k1
  go_wp2_with fail
  refine (same_yes _ _ 3 3 3 _ _ _ M (C.a _ rfl) (by omega) (fun _ _ => rfl)).mono ?_
  rintro e w3 ⟨rfl, k3⟩
  have kk3 := (kk.trans C.k (fun _ hi => .inl hi)).trans k3 (fun _ hi => .inl hi)
  clear M C kk k3
  go_wp2_with fail
  refine (make_any _).mono ?_
  rintro e w4 ⟨h1, h2, rfl, T, _, _, k4⟩
  have D := laid51 w4
  have kk5 := (kk3.trans k4 (fun _ hi => .inl hi)).trans D.k (fun _ hi => .inl hi)
  clear kk3 k4
  go_wp2_with fail
  refine (at_any _ _ 2 2 3 _ _ (T.keep D.k).has (D.a _ rfl)).mono ?_
  rintro e w6 ⟨rfl, k6⟩
  rw [awake_at]
  go_wp2_with fail
  go_ret
  exact ⟨rfl, kk5.trans k6 (fun _ hi => .inl hi)⟩
end Go.Proofs.Ytnpfncdfndabhaa
