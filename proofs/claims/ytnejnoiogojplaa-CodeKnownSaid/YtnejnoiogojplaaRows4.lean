/- Four rows of the call's own that grow side by side, symbol by symbol. -/
import Derived.Test.YtnejnoiogojplaaCodeAll
import Derived.Deep.AppendLies
namespace Go.Proofs.Ytnejnoiogojplaa
open Go.RowKit

theorem step_append_u {w : World} {ops : Array Oper} {o : Oper} {a : Act} {K : Act → World → Prop} {Q : Exit → Act → World → Prop} {E : Prop} (hgd : o.guard = none) (s x : Operand)
    (ho : o.op = .call { callee := .builtin .append, args := #[s, x], argTypes := #[22, 22] })
    (N : Nat) (v : Value) (n : Nat) (f : Nat → Nat) (hs : a.eval s = v) (hown : w.ownsRow N 23 1 v n (uList f n)) (g0 y : Nat) (hx : a.eval x = .slice (some ⟨g0, 0, none⟩) 1 1) (hb : Blk w g0 23 #[.int .u16 y]) (hy : y = f n)
    (hn : n ≤ 100000) (hN : N ≤ w.heap.size) (H : Nat) (hH : w.heap.size = H)
    (h : ∀ g cap w', w'.ownsRow N 23 1 (.slice (some ⟨g, 0, none⟩) (n + 1) cap) (n + 1) (uList f (n + 1)) → w.grownBy w' v.ownBlock → (v.ownBlock = some g ∨ g = H) → g < w'.heap.size → K (a.put o.dst (.slice (some ⟨g, 0, none⟩) (n + 1) cap)) w') :
    if Region.wanted o (yielded ops a.tmps) = true then Oper.wp Try.prog o a w K Q else E := by
  obtain ⟨i, hi, hz, hsz, hby⟩ := Try.info_u16'
  refine step_append_lies w hgd s x 22 ho N 23 i (.int .u16 0) 1 2 Try.underlying22 hi hz hsz hby rfl (by omega) v n (uList f n) hs hown ⟨g0, 0, none⟩ 1 1 [.int .u16 y] hx rfl ?_ ?_ (by omega) (by unfold maxLen; omega) (by omega) hN H hH ?_
  · intro j u hj
    rcases j with _ | j
    · simp at hj
      subst hj
      rw [show (⟨g0, 0, none⟩ : Addr).add 0 = ⟨g0, 0, none⟩ from rfl, hb.cell]
      rfl
    · simp at hj
  · intro u hu
    simp at hu
    subst hu
    rfl
  · intro g cap w' h1 h2 h3 h4
    refine h g cap w' ?_ h2 h3 h4
    have e : uList f (n + 1) = uList f n ++ [.int .u16 y] := by
      unfold uList
      rw [List.range_succ, List.map_append, hy]
      rfl
    rw [e]
    exact h1
def Apart (v u : Value) : Prop := ∀ k, v.ownBlock = some k → u.ownBlock ≠ some k
theorem Apart.symm {v u : Value} (h : Apart v u) : Apart u v := fun k hu hv => h k hv hu
/-- Four rows, no two in one block. -/
structure Rows4 (w : World) (N : Nat) (v1 v2 v3 v4 : Value) (n1 n2 n3 n4 : Nat) (f1 f2 f3 f4 : Nat → Nat) : Prop where
  o1 : w.ownsRow N 23 1 v1 n1 (uList f1 n1)
  o2 : w.ownsRow N 23 1 v2 n2 (uList f2 n2)
  o3 : w.ownsRow N 23 1 v3 n3 (uList f3 n3)
  o4 : w.ownsRow N 23 1 v4 n4 (uList f4 n4)
  a12 : Apart v1 v2
  a13 : Apart v1 v3
  a14 : Apart v1 v4
  a23 : Apart v2 v3
  a24 : Apart v2 v4
  a34 : Apart v3 v4
section
variable {w w' : World} {N : Nat} {v1 v2 v3 v4 : Value} {n1 n2 n3 n4 : Nat} {f1 f2 f3 f4 : Nat → Nat}
theorem ownsRow_keep {base : Nat} {e : TypeId} {size : Nat} {v : Value} {n : Nat} {xs : List Value} (h : w.ownsRow base e size v n xs) (k : Keep (fun _ => False) w w') : w'.ownsRow base e size v n xs := by
  obtain ⟨h1, h2⟩ := h
  refine ⟨h1, ?_⟩
  rcases h2 with h2 | ⟨g, cap, cur, e1, e2, e3, e4⟩
  · exact .inl h2
  · have hb : Blk w g e cur := e3
    exact .inr ⟨g, cap, cur, e1, e2, hb.keep k (by simp), e4⟩
theorem Rows4.keep (h : Rows4 w N v1 v2 v3 v4 n1 n2 n3 n4 f1 f2 f3 f4) (k : Keep (fun _ => False) w w') : Rows4 w' N v1 v2 v3 v4 n1 n2 n3 n4 f1 f2 f3 f4 :=
  ⟨ownsRow_keep h.o1 k, ownsRow_keep h.o2 k, ownsRow_keep h.o3 k, ownsRow_keep h.o4 k, h.a12, h.a13, h.a14, h.a23, h.a24, h.a34⟩
theorem Rows4.turn (h : Rows4 w N v1 v2 v3 v4 n1 n2 n3 n4 f1 f2 f3 f4) : Rows4 w N v2 v3 v4 v1 n2 n3 n4 n1 f2 f3 f4 f1 :=
  ⟨h.o2, h.o3, h.o4, h.o1, h.a23, h.a24, h.a12.symm, h.a34, h.a13.symm, h.a14.symm⟩
theorem Apart.kept {v u : Value} {n : Nat} {f : Nat → Nat} (h : Apart v u) (o : w.ownsRow N 23 1 u n (uList f n)) (g : w.grownBy w' v.ownBlock) : w'.ownsRow N 23 1 u n (uList f n) :=
  o.kept g (by
    cases e : u.ownBlock with
    | none => exact .inl rfl
    | some k => exact .inr (fun e2 => h k e2.symm e))
theorem Apart.new {v u : Value} {g H n c m : Nat} {f : Nat → Nat} (h : Apart v u) (hat : v.ownBlock = some g ∨ g = H) (hH : w.heap.size = H) (o : w.ownsRow N 23 1 u m (uList f m)) : Apart (.slice (some ⟨g, 0, none⟩) n c) u := fun k hk hu => by
  simp [Value.ownBlock] at hk
  subst hk
  rcases hat with hv | rfl
  · exact h g hv hu
  · have := (o.lt g hu).2
    omega
theorem Rows4.app {g H c m : Nat} (h : Rows4 w N v1 v2 v3 v4 n1 n2 n3 n4 f1 f2 f3 f4) (hH : w.heap.size = H) (ho : w'.ownsRow N 23 1 (.slice (some ⟨g, 0, none⟩) m c) m (uList f1 m)) (hg : w.grownBy w' v1.ownBlock) (hat : v1.ownBlock = some g ∨ g = H) :
    Rows4 w' N (.slice (some ⟨g, 0, none⟩) m c) v2 v3 v4 m n2 n3 n4 f1 f2 f3 f4 :=
  ⟨ho, h.a12.kept h.o2 hg, h.a13.kept h.o3 hg, h.a14.kept h.o4 hg, h.a12.new hat hH h.o2, h.a13.new hat hH h.o3, h.a14.new hat hH h.o4, h.a23, h.a24, h.a34⟩
theorem Rows4.app3 {g H c m : Nat} (h : Rows4 w N v1 v2 v3 v4 n1 n2 n3 n4 f1 f2 f3 f4) (hH : w.heap.size = H) (ho : w'.ownsRow N 23 1 (.slice (some ⟨g, 0, none⟩) m c) m (uList f3 m)) (hg : w.grownBy w' v3.ownBlock) (hat : v3.ownBlock = some g ∨ g = H) :
    Rows4 w' N v1 v2 (.slice (some ⟨g, 0, none⟩) m c) v4 n1 n2 m n4 f1 f2 f3 f4 := ((h.turn.turn.app hH ho hg hat).turn).turn
theorem Rows4.app2 {g H c m : Nat} (h : Rows4 w N v1 v2 v3 v4 n1 n2 n3 n4 f1 f2 f3 f4) (hH : w.heap.size = H) (ho : w'.ownsRow N 23 1 (.slice (some ⟨g, 0, none⟩) m c) m (uList f2 m)) (hg : w.grownBy w' v2.ownBlock) (hat : v2.ownBlock = some g ∨ g = H) :
    Rows4 w' N v1 (.slice (some ⟨g, 0, none⟩) m c) v3 v4 n1 m n3 n4 f1 f2 f3 f4 := (((h.turn.app hH ho hg hat).turn).turn).turn
theorem Rows4.app4 {g H c m : Nat} (h : Rows4 w N v1 v2 v3 v4 n1 n2 n3 n4 f1 f2 f3 f4) (hH : w.heap.size = H) (ho : w'.ownsRow N 23 1 (.slice (some ⟨g, 0, none⟩) m c) m (uList f4 m)) (hg : w.grownBy w' v4.ownBlock) (hat : v4.ownBlock = some g ∨ g = H) :
    Rows4 w' N v1 v2 v3 (.slice (some ⟨g, 0, none⟩) m c) n1 n2 n3 m f1 f2 f3 f4 := (h.turn.turn.turn.app hH ho hg hat).turn
theorem Rows4.nil (w : World) (N : Nat) (f1 f2 f3 f4 : Nat → Nat) : Rows4 w N (.slice none 0 0) (.slice none 0 0) (.slice none 0 0) (.slice none 0 0) 0 0 0 0 f1 f2 f3 f4 := by
  have h : Apart (.slice none 0 0) (.slice none 0 0) := fun k hk => by simp [Value.ownBlock] at hk
  exact ⟨World.ownsRow_nil w N _ 1, World.ownsRow_nil w N _ 1, World.ownsRow_nil w N _ 1, World.ownsRow_nil w N _ 1, h, h, h, h, h, h⟩
theorem ownsRow_form {v : Value} {n : Nat} {f : Nat → Nat} (h : w.ownsRow N 23 1 v n (uList f n)) : ∃ a c, v = .slice a n c ∧ OwnU w N a n c f := by
  have h' := h
  rcases h.2 with ⟨rfl, rfl⟩ | ⟨g, cap, cur, rfl, _⟩
  · exact ⟨none, 0, rfl, h'⟩
  · exact ⟨_, cap, rfl, h'⟩
end
end Go.Proofs.Ytnejnoiogojplaa
