/- census.fits, Of. -/
import Derived.Test.YtdlmjjlejkkniaaGreatFmended
import Derived.Deep.RegionHeld3
namespace Go.Proofs.YtdlmjjlejkkniaaGreat
open Go.RowKit

/-- The cells of rows: how many are wrong, whether it can be read. -/
def rowG (f : Nat → Nat) (b : Nat → Bool) : Nat → Value := fun j => if j % 2 = 0 then .int .i64 (f (j / 2) : Nat) else .bool (b (j / 2))
theorem rowG_next {f : Nat → Nat} {b : Nat → Bool} (n v : Nat) (u : Bool) :
    vList (rowG (fun i => if i = n then v else f i) (fun i => if i = n then u else b i)) ((n + 1) * 2) = vList (rowG f b) (n * 2) ++ [.int .i64 (v : Nat), .bool u] := List.ext_getElem? fun i => by
  have hl := vList_len (rowG f b) (n * 2)
  rw [vList_get]
  by_cases h1 : i < n * 2
  · rw [List.getElem?_append_left (by omega), vList_get, if_pos h1, if_pos (by omega)]
    unfold rowG
    dsimp only
    rw [if_neg (show ¬ i / 2 = n by omega), if_neg (show ¬ i / 2 = n by omega)]
  · rw [List.getElem?_append_right (by omega), hl]
    by_cases h2 : i = n * 2
    · subst h2
      rw [if_pos (by omega), Nat.sub_self]
      unfold rowG
      dsimp only
      rw [if_pos (show n * 2 % 2 = 0 by omega), if_pos (show n * 2 / 2 = n by omega)]
      rfl
    · by_cases h3 : i = n * 2 + 1
      · subst h3
        rw [if_pos (by omega), show n * 2 + 1 - n * 2 = 1 by omega]
        unfold rowG
        dsimp only
        rw [if_neg (show ¬ (n * 2 + 1) % 2 = 0 by omega), if_pos (show (n * 2 + 1) / 2 = n by omega)]
        rfl
      · rw [if_neg (by omega), List.getElem?_eq_none]
        simp
        omega
/-- What is said of a codeword. -/
def RowIs (x y : Nat → Int) (n v : Nat) (b : Bool) : Prop :=
  (∃ q d, Near (slS x y) n q d ∧ b = decide (wrongN (fun i => onB (x i) (y i)) (slS x y) q n ≤ 8) ∧ v = if b then wrongN (fun i => onB (x i) (y i)) (slS x y) q n else 0) ∨
  ((∀ q d, ¬ Near (slS x y) n q d) ∧ b = false ∧ v = 0)
end Go.Proofs.YtdlmjjlejkkniaaGreat
