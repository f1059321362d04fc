/- Rows laid by hand; the tables in a variable. -/
import Derived.Test.YtdlmjjlejkkniaaGreatPol
import Derived.Test.YtdlmjjlejkkniaaGreatField2
namespace Go.Proofs.YtdlmjjlejkkniaaGreat
open Go.RowKit

/-- Elements by hand. -/
def lst (l : List Nat) : Nat → Nat := fun i => l.getD i 0
theorem uArr_one (a : Nat) : uArr (lst [a]) 1 = #[.int .u16 a] := rfl
theorem uArr_two (a b : Nat) : uArr (lst [a, b]) 2 = #[.int .u16 a, .int .u16 b] := rfl
theorem uArr_three (a b c : Nat) : uArr (lst [a, b, c]) 3 = #[.int .u16 a, .int .u16 b, .int .u16 c] := rfl
theorem uArr_four (a b c d : Nat) : uArr (lst [a, b, c, d]) 4 = #[.int .u16 a, .int .u16 b, .int .u16 c, .int .u16 d] := rfl
/-- What a list says, as a polynomial. -/
theorem pol_list (l : List Nat) (n : Nat) (h : ∀ i, i < l.length → l.getD i 0 < 1024) (hl : l.length = n) (hz : 0 < n → l.getD (n - 1) 0 ≠ 0) : IsPol (lst l) n :=
  ⟨fun i => by
    rcases Nat.lt_or_ge i l.length with hi | hi
    · exact h i hi
    · show l.getD i 0 < 1024
      rw [List.getD_eq_getElem?_getD, List.getElem?_eq_none hi]; simp, fun i hi => by
    show l.getD i 0 = 0
    rw [List.getD_eq_getElem?_getD, List.getElem?_eq_none (by omega)]; rfl, fun h0 => hz h0⟩
theorem p1 : IsPol (lst [1]) 1 := pol_list [1] 1 (by decide) rfl (by decide)
/-- A row that is laid by a literal. -/
structure Laid (w : World) (cs : Array Value) (f : Nat → Nat) (n : Nat) : Prop where
  a : ∀ g, g = w.heap.size → ArgU (w.alloc (.cells cs 25)) (some ⟨g, 0, none⟩) n f
  k : Keep (fun _ => False) w (w.alloc (.cells cs 25))
theorem Laid.new (w : World) (cs : Array Value) (f : Nat → Nat) (n : Nat) (e : uArr f n = cs) (hn : n ≤ 140737488355328) (hf : ∀ i, i < n → f i < 65536) : Laid w cs f n := by
  subst e
  exact ⟨fun g hg => (Blk.here w _ _ g hg).argU hn hf, (Keep.refl _ w).alloc _⟩

theorem Laid.pol (w : World) (cs : Array Value) (f : Nat → Nat) (n : Nat) (hp : IsPol f n) (hn : n ≤ 140737488355328) (e : uArr f n = cs) : Laid w cs f n :=
  Laid.new w cs f n e hn (fun i _ => hp.lt16 i)
theorem Keep.comp {w w1 w2 : World} (h : Keep (fun _ => False) w w1) (k : Keep (fun _ => False) w1 w2) : Keep (fun _ => False) w w2 := h.trans k (fun _ hi => .inl hi)
/-- The tables, and the variable that holds them. -/
structure TVar (w : World) (gt g1 g2 : Nat) : Prop where
  b : Blk w gt 49 #[.slice (some ⟨g1, 0, none⟩) 1023 1023, .slice (some ⟨g2, 0, none⟩) 1024 1024]
  t : Tab w g1 g2
theorem TVar.keep {w w' : World} {gt g1 g2 : Nat} (h : TVar w gt g1 g2) (k : Keep (fun _ => False) w w') : TVar w' gt g1 g2 := ⟨h.b.keep k (by simp), h.t.keep k⟩
theorem TVar.new {w : World} {g1 g2 : Nat} (t : Tab w g1 g2) :
    TVar (w.alloc (.cells #[.slice (some ⟨g1, 0, none⟩) 1023 1023, .slice (some ⟨g2, 0, none⟩) 1024 1024] 49)) w.heap.size g1 g2 ∧
    Keep (fun _ => False) w (w.alloc (.cells #[.slice (some ⟨g1, 0, none⟩) 1023 1023, .slice (some ⟨g2, 0, none⟩) 1024 1024] 49)) := by
  have k := (Keep.refl (fun _ => False) w).alloc (.cells #[.slice (some ⟨g1, 0, none⟩) 1023 1023, .slice (some ⟨g2, 0, none⟩) 1024 1024] 49)
  exact ⟨⟨Blk.new w _ _, t.keep k⟩, k⟩
end Go.Proofs.YtdlmjjlejkkniaaGreat
