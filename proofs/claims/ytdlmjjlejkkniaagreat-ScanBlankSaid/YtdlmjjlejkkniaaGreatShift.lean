/- census.Shift: what all points are off, added up. -/
import Derived.Test.YtdlmjjlejkkniaaGreatCof
import Derived.Test.YtdlmjjlejkkniaaGreatRefMake
namespace Go.Proofs.YtdlmjjlejkkniaaGreat
open Go.RowKit

/-- r words of n symbols each, in a row of rows of the call's own. -/
structure WordsIn (w : World) (N r n : Nat) (ao : Option Addr) (co : Nat) (A : Nat → Option Addr) (C : Nat → Nat) (q : Nat → Nat → Nat) : Prop where
  v : OwnV w 31 N ao r co (famV A (fun _ => n) C)
  u : ∀ i, i < r → OwnU w N (A i) n (C i) (q i)
section
variable {w w' : World} {N r n : Nat} {ao : Option Addr} {co : Nat} {A : Nat → Option Addr} {C : Nat → Nat} {q : Nat → Nat → Nat}
theorem WordsIn.nil (w : World) (N n : Nat) (A : Nat → Option Addr) (C : Nat → Nat) (q : Nat → Nat → Nat) : WordsIn w N 0 n none 0 A C q := ⟨OwnV.nil _ _ _ _, fun _ h => by omega⟩
theorem WordsIn.keep (h : WordsIn w N r n ao co A C q) (hk : Keep (fun _ => False) w w') : WordsIn w' N r n ao co A C q := ⟨h.v.keep hk, fun i hi => (h.u i hi).keep hk⟩
theorem OwnV.row_blk {T : TypeId} {a : Option Addr} {m c : Nat} {f : Nat → Value} (h : OwnV w T N a m c f) {k : Nat} (hk : (Value.slice a m c).ownBlock = some k) : N ≤ k ∧ ∃ cs, Blk w k T cs := by
  rcases h.2 with ⟨e, _⟩ | ⟨g, cap, cs, e, hN, hb, _⟩
  · injection e with e1 e2 e3
    subst e1
    cases hk
  · injection e with e1 e2 e3
    subst e1
    have : some g = some k := hk
    cases this
    exact ⟨hN, cs, hb⟩
theorem OwnU.grownT {a : Option Addr} {m c : Nat} {f : Nat → Nat} (h : OwnU w N a m c f) {M : Nat} {F : Nat → Value} {l : Nat} (hv : OwnV w 31 M ao l co F) (hg : w.grownBy w' (Value.slice ao l co).ownBlock) : OwnU w' N a m c f := by
  refine ⟨h.1, ?_⟩
  rcases h.2 with e | ⟨g, cap, cs, e, hN, hb, hr⟩
  · exact .inl e
  · refine .inr ⟨g, cap, cs, e, hN, (hg.block g (Blk.lt (t := 25) (cs := cs) hb) (fun e2 => ?_)).trans hb, hr⟩
    obtain ⟨_, cs2, hb2⟩ := hv.row_blk e2.symm
    exact (show Blk w g 25 cs from hb).ne hb2 (by decide) rfl
/-- One word more. -/
theorem WordsIn.push (h : WordsIn w N r n ao co A C q) {a a' : Option Addr} {c c' : Nat} {p : Nat → Nat} (hu : OwnU w N a n c p) (ho : OwnV w' 31 N a' (r + 1) c' (fun i => if i < r then famV A (fun _ => n) C i else .slice a n c)) (hg : w.grownBy w' (Value.slice ao r co).ownBlock) :
    WordsIn w' N (r + 1) n a' c' (updF A r a) (updF C r c) (updF q r p) := by
  refine ⟨ho.congr fun i hi => ?_, fun i hi => ?_⟩
  · unfold famV updF
    by_cases h : i < r
    · rw [if_pos h, if_neg (by omega), if_neg (by omega)]
    · rw [if_neg h, if_pos (by omega), if_pos (by omega)]
  · by_cases hir : i = r
    · subst hir
      simp only [updF_at]
      exact hu.grownT h.v hg
    · simp only [updF_ne _ _ hir]
      exact (h.u i (by omega)).grownT h.v hg
end
/-- A codeword that can be read. -/
def GoodRow (x y : Nat → Int) (n : Nat) (q : Nat → Nat) : Prop := (∃ d, Near (slS x y) n q d) ∧ wrongN (fun i => onB (x i) (y i)) (slS x y) q n ≤ 8
theorem wrongN_congr {z : Nat → Bool} {s q q' : Nat → Nat} : ∀ {n}, (∀ i, i < n → q i = q' i) → wrongN z s q n = wrongN z s q' n
  | 0, _ => rfl
  | n + 1, h => by
    unfold wrongN
    rw [wrongN_congr (fun i hi => h i (by omega)), h n (by omega)]
theorem GoodRow.uniq {x y : Nat → Int} {n : Nat} {q q' : Nat → Nat} {d : Nat} (hn : n ≤ 1023) (h : Near (slS x y) n q d) (h' : GoodRow x y n q') : ∀ i, i < n → q i = q' i := by
  obtain ⟨⟨d', h2⟩, _⟩ := h'
  exact (Near.uniq hn h h2).1
/-- The points' distances from the words' symbols, added up. -/
def offX (W : Nat) (x : Nat → Int) (q : Nat → Nat → Nat) : Nat → Int
  | 0 => 0
  | n + 1 => offX W x q n + (x n - reS (q (n % W) (n / W)))
def offY (W : Nat) (y : Nat → Int) (q : Nat → Nat → Nat) : Nat → Int
  | 0 => 0
  | n + 1 => offY W y q n + (y n - imS (q (n % W) (n / W)))
/-- What is added up. -/
def Pu (a : Int) : Prop := a.natAbs ≤ 100000
theorem Pu.pm {a : Int} (h : Pu a) : Pm a := by unfold Pu Pm at *; omega
theorem offX_le {W : Nat} {x : Nat → Int} {q : Nat → Nat → Nat} : ∀ {n}, (∀ i, i < n → Pu (x i)) → (offX W x q n).natAbs ≤ 200000 * n
  | 0, _ => by show (0 : Int).natAbs ≤ _; omega
  | n + 1, h => by
    have h1 := offX_le (q := q) (W := W) (fun i hi => h i (by omega) : ∀ i, i < n → Pu (x i))
    have h2 := h n (by omega)
    have h3 : (reS (q (n % W) (n / W))).natAbs ≤ 1000 := by unfold reS co; omega
    unfold offX
    unfold Pu at h2
    omega
theorem offY_le {W : Nat} {y : Nat → Int} {q : Nat → Nat → Nat} : ∀ {n}, (∀ i, i < n → Pu (y i)) → (offY W y q n).natAbs ≤ 200000 * n
  | 0, _ => by show (0 : Int).natAbs ≤ _; omega
  | n + 1, h => by
    have h1 := offY_le (q := q) (W := W) (fun i hi => h i (by omega) : ∀ i, i < n → Pu (y i))
    have h2 := h n (by omega)
    have h3 : (imS (q (n % W) (n / W))).natAbs ≤ 1000 := by unfold imS co; omega
    unfold offY
    unfold Pu at h2
    omega
theorem re_le (s : Nat) : (reS s).natAbs ≤ 1000 := by unfold reS co; omega
theorem im_le (s : Nat) : (imS s).natAbs ≤ 1000 := by unfold imS co; omega
theorem Pm_off {a b : Int} (h : Pu a) (hb : b.natAbs ≤ 1000) : Pm (a - b) := by unfold Pu at h; unfold Pm; omega
/-- What Shift answers. -/
def ShiftR (x y : Nat → Int) (W K n : Nat) (e : Ending) : Prop :=
  (∃ q : Nat → Nat → Nat, (∀ r, r < W → GoodRow (fun i => x (r + i * W)) (fun i => y (r + i * W)) (K + 16) (q r)) ∧ e = .returned (.tuple #[ptv (offX W x q n) (offY W y q n), .int .i64 0])) ∨
  ((∃ r, r < W ∧ ∀ q, ¬ GoodRow (fun i => x (r + i * W)) (fun i => y (r + i * W)) (K + 16) q) ∧ e = .returned (.tuple #[.complex .f64 0 0, .int .i64 4]))
theorem MendR.good {w' : World} {N : Nat} {x y : Nat → Int} {n : Nat} {e : Ending} (hn : n ≤ 1023) (h : MendR w' N x y n e) :
    (∃ q a' c' v, e = .returned (.tuple #[.slice a' n c', .int .i64 (v : Nat), .bool true]) ∧ v = wrongN (fun i => onB (x i) (y i)) (slS x y) q n ∧ GoodRow x y n q ∧ OwnU w' N a' n c' q) ∨
    (∃ a' m c' v, e = .returned (.tuple #[.slice a' m c', .int .i64 (v : Nat), .bool false]) ∧ ∀ q, ¬ GoodRow x y n q) := by
  rcases h with ⟨q, d, a', c', hN, rfl, ho⟩ | ⟨hno, rfl⟩
  · by_cases h8 : wrongN (fun i => onB (x i) (y i)) (slS x y) q n ≤ 8
    · exact .inl ⟨q, a', c', _, by rw [decide_eq_true h8], rfl, ⟨⟨d, hN⟩, h8⟩, ho⟩
    · refine .inr ⟨a', n, c', _, by rw [decide_eq_false h8], fun q' h' => h8 ?_⟩
      rw [wrongN_congr (GoodRow.uniq hn hN h')]
      exact h'.2
  · exact .inr ⟨none, 0, 0, 0, rfl, fun q h => hno q _ h.1.choose_spec⟩
theorem MendR.forms {w' : World} {N : Nat} {x y : Nat → Int} {n : Nat} {e : Ending} (hn : n ≤ 1023) (h : MendR w' N x y n e) :
    ∃ aq nq cq v b, e = .returned (.tuple #[.slice aq nq cq, .int .i64 (v : Nat), .bool b]) ∧ ((b = true ∧ nq = n ∧ ∃ q, v = wrongN (fun i => onB (x i) (y i)) (slS x y) q n ∧ GoodRow x y n q ∧ OwnU w' N aq n cq q) ∨ (b = false ∧ ∀ q, ¬ GoodRow x y n q)) := by
  rcases h.good hn with ⟨q, a', c', v, he, hv, hg, ho⟩ | ⟨a', m, c', v, he, hno⟩
  · exact ⟨a', n, c', v, true, he, .inl ⟨rfl, rfl, q, hv, hg, ho⟩⟩
  · exact ⟨a', m, c', v, false, he, .inr ⟨rfl, hno⟩⟩
end Go.Proofs.YtdlmjjlejkkniaaGreat
