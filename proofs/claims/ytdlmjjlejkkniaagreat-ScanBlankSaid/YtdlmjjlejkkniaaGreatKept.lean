/- A region that draws its order, whose operations read and whose callees leave alone what was there (they may lay blocks of their own): walked once. No statement of the program. -/
import Derived.Test.YtdlmjjlejkkniaaGreatBase
import Derived.Deep.QuietTactic
import Derived.BigQuiet
namespace Go.Proofs.YtdlmjjlejkkniaaGreat
open Go.RowKit

/-- A world behind w in which all that was there is as it was. -/
structure KeptBy (w : World) where
  v : World
  h : Keep (fun _ => False) w v

instance (w : World) : Inhabited (KeptBy w) := ⟨⟨w, Keep.refl _ w⟩⟩

theorem KeptBy.cell {w : World} (p : KeptBy w) {a : Addr} {u : Value} (hb : a.block < w.heap.size) (h : w.cell? a = some u) : p.v.cell? a = some u :=
  (p.h.cell (p := a) hb (by simp)).trans h

theorem wp_region_kept {P : Program} {id : Nat} {Q : Exit → Act → World → Prop} {a : Act} {w : World} {l : List Oper} (hm : P.follows .mixedOrders = true) (hB : Region.lexB .any l.toArray = true)
    (h : wpQuiet P l.toArray (fun w' => ∃ p : KeptBy w, w' = p.v) (fun a' => ∀ w', (∃ p : KeptBy w, w' = p.v) → Q .normal a' w') l a) : (Code.region id l.toArray true).wp P Q a w :=
  wp_region_quiet (C := fun w' => ∃ p : KeptBy w, w' = p.v) hm hB ⟨⟨w.drew, (Keep.refl _ w).drew⟩, rfl⟩ (by simpa using h)

theorem kept_of {P : Program} {f : FuncId} {args : Array Value} {w : World} {p : KeptBy w} {v : Value}
    (h : Calls P f args p.v fun e w' => e = .returned v ∧ Keep (fun _ => False) p.v w') : Calls P f args p.v fun e w'' => e = .returned v ∧ ∃ q : KeptBy w, w'' = q.v :=
  h.mono fun _ w' ⟨he, k⟩ => ⟨he, ⟨w', p.h.trans k (fun _ hi => .inl hi)⟩, rfl⟩
end Go.Proofs.YtdlmjjlejkkniaaGreat
