/- The product of (x + r), over some numbers: plain. -/
import Derived.Test.YtdlmjjlejkkniaaGreatLaid
import Derived.Test.YtdlmjjlejkkniaaGreatRs
namespace Go.Proofs.YtdlmjjlejkkniaaGreat
open Go.RowKit

theorem lst_small (l : List Nat) (h : ∀ x ∈ l, x < 65536) (i : Nat) : lst l i < 65536 := by
  show l.getD i 0 < 65536
  rw [List.getD_eq_getElem?_getD]
  cases e : l[i]? with
  | none => show 0 < 65536; omega
  | some x => exact h x (List.mem_of_getElem? e)
/-- x + r, the product of the first i of them, and whether x is among them. -/
def lin (r : Nat) : Nat → Nat := cut (lst [r, 1]) 2
theorem lin_pol (r : Nat) : IsPol (lin r) 2 :=
  ⟨fun i => cut_lt _ _ _, fun i hi => cut_zero _ hi, fun _ => by show cut (lst [r, 1]) 2 1 ≠ 0; rw [cut_in _ (by omega)]; show 1 % 1024 ≠ 0; omega⟩
def prodP (p : Nat → Nat) : Nat → Nat → Nat
  | 0 => lst [1]
  | i + 1 => pmul (prodP p i) (lin (p i))
theorem prodP_pol (p : Nat → Nat) (i : Nat) : IsPol (prodP p i) (i + 1) := by
  induction i with
  | zero => exact p1
  | succ i ih =>
    have := pmul_pol ih (lin_pol (p i)) (by omega) (by omega)
    rwa [show i + 1 + 2 - 1 = i + 1 + 1 by omega] at this
theorem hor_lin (r x : Nat) (hx : x < 1024) : hor (lin r) x 0 2 = x ^^^ r % 1024 := by
  show gm (gm 0 x ^^^ lin r 1) x ^^^ lin r 0 = x ^^^ r % 1024
  rw [show lin r 1 = 1 from by unfold lin; rw [cut_in _ (by omega)]; rfl, show lin r 0 = r % 1024 from by unfold lin; rw [cut_in _ (by omega)]; rfl, gm_zero_left, Nat.zero_xor, gm_one_left hx]
theorem prodP_root {p : Nat → Nat} {x : Nat} (hx : x < 1024) (hp : ∀ i, p i < 1024) : ∀ n, hor (prodP p n) x 0 (n + 1) = 0 ↔ ∃ i, i < n ∧ p i = x
  | 0 => by
    have : hor (prodP p 0) x 0 1 = 1 := by
      show gm 0 _ ^^^ 1 = 1
      rw [gm_zero_left]
      rfl
    rw [this]
    constructor
    · intro h
      omega
    · rintro ⟨i, hi, _⟩
      omega
  | n + 1 => by
    have hq := prodP_pol p n
    have h := hor_pmul (lin_pol (p n)).lt (lin_pol (p n)).zero hx (n + 1) (prodP p n) hq.lt hq.zero (n + 1 + 1) (by omega)
    rw [show prodP p (n + 1) = pmul (prodP p n) (lin (p n)) from rfl, h, hor_lin _ _ hx, Nat.mod_eq_of_lt (hp n)]
    have l1 := hor_lt hq.lt (x := x) 0 (n + 1)
    have l2 : x ^^^ p n < 1024 := xor_lt hx (hp n)
    constructor
    · intro h0
      by_cases e1 : hor (prodP p n) x 0 (n + 1) = 0
      · obtain ⟨i, hi, e⟩ := (prodP_root hx hp n).1 e1
        exact ⟨i, by omega, e⟩
      · by_cases e2 : x ^^^ p n = 0
        · exact ⟨n, by omega, (xor_eq_zero e2).symm⟩
        · exact absurd h0 (gm_ne_zero l1 l2 e1 e2)
    · rintro ⟨i, hi, e⟩
      by_cases e2 : i = n
      · subst e2
        rw [e, Nat.xor_self, gm_zero_right]
      · rw [(prodP_root hx hp n).2 ⟨i, by omega, e⟩, gm_zero_left]
end Go.Proofs.YtdlmjjlejkkniaaGreat
