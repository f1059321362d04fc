/- census.Of. -/
import Derived.Test.YtdlmjjlejkkniaaGreatCensus
namespace Go.Proofs.YtdlmjjlejkkniaaGreat
open Go.RowKit

theorem MendR.form {w' : World} {N : Nat} {x y : Nat → Int} {n : Nat} {e : Ending} (h : MendR w' N x y n e) :
    ∃ aq nq cq v b, e = .returned (.tuple #[.slice aq nq cq, .int .i64 (v : Nat), .bool b]) ∧ RowIs x y n (if b then v else 0) b := by
  rcases h with ⟨q, d, a', c', hN, rfl, _⟩ | ⟨hno, rfl⟩
  · exact ⟨a', n, c', _, _, rfl, .inl ⟨q, d, hN, rfl, rfl⟩⟩
  · exact ⟨none, 0, 0, 0, false, rfl, .inr ⟨hno, rfl, rfl⟩⟩
end Go.Proofs.YtdlmjjlejkkniaaGreat
