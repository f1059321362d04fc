/- Rows of one-cell values of whatever type: one that came in, one of the call's own. -/
import Derived.Test.YtdjgjffgheocfaaGreatCodeW
import Derived.Test.YtdjgjffgheocfaaGreatPoint
namespace Go.Proofs.YtdjgjffgheocfaaGreat
open Go.RowKit

def vList (f : Nat → Value) (n : Nat) : List Value := (List.range n).map f
theorem vList_get (f : Nat → Value) (n j : Nat) : (vList f n)[j]? = if j < n then some (f j) else none := by
  unfold vList
  by_cases h : j < n
  · rw [if_pos h, List.getElem?_map, List.getElem?_range h]
    rfl
  · rw [if_neg h, List.getElem?_eq_none]
    simp
    omega
theorem vList_len (f : Nat → Value) (n : Nat) : (vList f n).length = n := by simp [vList]
/-- A slice: its element i is f i. -/
structure ArgV (w : World) (a : Option Addr) (n : Nat) (f : Nat → Value) : Prop where
  small : n ≤ 140737488355328
  at_ : 0 < n → ∃ b off, a = some ⟨b, off, none⟩ ∧ b < w.heap.size ∧ ∀ i, i < n → w.cell? ⟨b, off + i, none⟩ = some (f i)
/-- Block g has c cells; the first n say f. -/
def RowV (w : World) (T : TypeId) (g c n : Nat) (f : Nat → Value) : Prop := ∃ cs, Blk w g T cs ∧ cs.size = c ∧ n ≤ c ∧ ∀ i, i < n → cs[i]? = some (f i)
/-- A slice made since block N: nil, or the head of a row of its own. -/
def OwnV (w : World) (T : TypeId) (N : Nat) (a : Option Addr) (n c : Nat) (f : Nat → Value) : Prop := w.ownsRow N T 1 (.slice a n c) n (vList f n)
section
variable {w w' : World} {T : TypeId} {g c n : Nat} {f : Nat → Value} {N : Nat} {a : Option Addr}
theorem ArgV.keep (h : ArgV w a n f) (hk : Keep (fun _ => False) w w') : ArgV w' a n f :=
  ⟨h.small, fun h0 => by
    obtain ⟨b, off, e, hb, hc⟩ := h.at_ h0
    exact ⟨b, off, e, Nat.lt_of_lt_of_le hb hk.size, fun i hi => (hk.cell (p := ⟨b, off + i, none⟩) hb (by simp)).trans (hc i hi)⟩⟩
theorem ArgV.nil (w : World) (f : Nat → Value) : ArgV w none 0 f := ⟨by omega, fun h => by omega⟩
theorem ArgV.congr {f' : Nat → Value} (h : ArgV w a n f) (e : ∀ i, i < n → f i = f' i) : ArgV w a n f' :=
  ⟨h.small, fun h0 => by
    obtain ⟨b, off, ea, hb, hc⟩ := h.at_ h0
    exact ⟨b, off, ea, hb, fun i hi => by rw [← e i hi]; exact hc i hi⟩⟩
theorem ArgV.take {m : Nat} (h : ArgV w a n f) (hm : m ≤ n) : ArgV w a m f :=
  ⟨by have := h.small; omega, fun h0 => by
    obtain ⟨b, off, ea, hb, hc⟩ := h.at_ (by omega)
    exact ⟨b, off, ea, hb, fun i hi => hc i (by omega)⟩⟩
theorem ArgU.argV {p : Nat → Nat} (h : ArgU w a n p) : ArgV w a n (fun i => .int .u16 (p i : Nat)) := ⟨h.small, h.at_⟩
theorem RowV.lt (h : RowV w T g c n f) : g < w.heap.size := by
  obtain ⟨cs, hb, _⟩ := h
  exact hb.lt
theorem RowV.val (h : RowV w T g c n f) {i : Nat} (hi : i < n) : w.cell? ⟨g, i, none⟩ = some (f i) := by
  obtain ⟨cs, hb, _, _, hc⟩ := h
  rw [hb.cell, hc i hi]
theorem RowV.frozen (h : RowV w T g c n f) (i : Nat) : w.frozen? ⟨g, i, none⟩ = false := by
  obtain ⟨cs, hb, _⟩ := h
  exact hb.frozen i
theorem RowV.store (h : RowV w T g c n f) (i : Nat) (v : Value) {f' : Nat → Value} (e : ∀ k, k < n → f' k = if k = i then v else f k) : RowV (w.setCell ⟨g, i, none⟩ v) T g c n f' := by
  obtain ⟨cs, hb, hs, hn, hc⟩ := h
  refine ⟨_, hb.put i _, by simpa using hs, hn, fun k hk => ?_⟩
  rw [Array.getElem?_setIfInBounds, e k hk]
  by_cases h : i = k
  · subst h
    rw [if_pos rfl, if_pos (by omega), if_pos rfl]
  · rw [if_neg h, if_neg (fun e => h e.symm), hc k hk]
theorem RowV.far (h : RowV w T g c n f) {p : Addr} (hp : g ≠ p.block) (u : Value) : RowV (w.setCell p u) T g c n f := by
  obtain ⟨cs, hb, hr⟩ := h
  exact ⟨cs, hb.far hp u, hr⟩
theorem RowV.keep {S : Nat → Prop} (h : RowV w T g c n f) (hk : Keep S w w') (hg : ¬ S g) : RowV w' T g c n f := by
  obtain ⟨cs, hb, hr⟩ := h
  exact ⟨cs, hb.keep hk hg, hr⟩
theorem RowV.congr {f' : Nat → Value} (h : RowV w T g c n f) (e : ∀ i, i < n → f i = f' i) : RowV w T g c n f' := by
  obtain ⟨cs, hb, hs, hn, hc⟩ := h
  exact ⟨cs, hb, hs, hn, fun i hi => by rw [← e i hi]; exact hc i hi⟩
theorem RowV.arg (h : RowV w T g c n f) (hn : n ≤ 140737488355328) : ArgV w (some ⟨g, 0, none⟩) n f :=
  ⟨hn, fun _ => ⟨g, 0, rfl, h.lt, fun i hi => by rw [Nat.zero_add]; exact h.val hi⟩⟩
theorem RowV.of_blk (h : Blk w g T (valsArr f n)) : RowV w T g n n f := ⟨_, h, valsArr_size _ _, Nat.le_refl _, fun _ hi => valsArr_get _ _ _ hi⟩
theorem OwnV.of_row (h : RowV w T g c n f) (hN : N ≤ g) (hc : c ≤ maxLen) : OwnV w T N (some ⟨g, 0, none⟩) n c f := by
  obtain ⟨cs, hb, hs, hn, hv⟩ := h
  refine ⟨by rw [vList_len, Nat.mul_one], .inr ⟨g, c, cs, rfl, hN, hb, hn, hc, by omega, ?_⟩⟩
  apply List.ext_getElem?
  intro i
  rw [List.getElem?_take, vList_get, Nat.mul_one]
  by_cases hi : i < n
  · rw [if_pos hi, if_pos hi, Array.getElem?_toList, hv i hi]
  · rw [if_neg hi, if_neg hi]
theorem OwnV.row (h : OwnV w T N a n c f) (h0 : 0 < n) : ∃ g, a = some ⟨g, 0, none⟩ ∧ N ≤ g ∧ c ≤ maxLen ∧ RowV w T g c n f := by
  rcases h.2 with ⟨_, e⟩ | ⟨g, cap, cs, e, hN, hb, hn, hm, hs, ht⟩
  · omega
  · injection e with e1 e2 e3
    subst e3
    refine ⟨g, e1, hN, hm, cs, hb, by omega, hn, fun i hi => ?_⟩
    have e4 := congrArg (fun l => l[i]?) ht
    simp only [List.getElem?_take, vList_get] at e4
    rw [if_pos (by omega), if_pos hi, Array.getElem?_toList] at e4
    exact e4
theorem OwnV.le (h : OwnV w T N a n c f) : n ≤ c ∧ c ≤ maxLen := by
  rcases h.2 with ⟨e, e0⟩ | ⟨g, cap, cs, e, hN, hb, hn, hm, hs, ht⟩
  · injection e with e1 e2 e3
    unfold maxLen
    omega
  · injection e with e1 e2 e3
    omega
theorem OwnV.arg (h : OwnV w T N a n c f) (hn : n ≤ 140737488355328) : ArgV w a n f := by
  rcases Nat.eq_zero_or_pos n with h0 | h0
  · exact ⟨hn, fun h => by omega⟩
  · obtain ⟨g, rfl, _, _, hr⟩ := h.row h0
    exact hr.arg hn
theorem OwnV.keep (h : OwnV w T N a n c f) (hk : Keep (fun _ => False) w w') : OwnV w' T N a n c f := by
  refine ⟨h.1, ?_⟩
  rcases h.2 with e | ⟨g, cap, cs, e, hN, hb, hr⟩
  · exact .inl e
  · exact .inr ⟨g, cap, cs, e, hN, (hk.block g (Blk.lt (t := T) (cs := cs) hb) (by simp)).trans hb, hr⟩
theorem OwnV.far (h : OwnV w T N a n c f) {p : Addr} (hp : p.block < N) (u : Value) : OwnV (w.setCell p u) T N a n c f := by
  refine ⟨h.1, ?_⟩
  rcases h.2 with e | ⟨g, cap, cs, e, hN, hb, hr⟩
  · exact .inl e
  · exact .inr ⟨g, cap, cs, e, hN, Blk.far (t := T) (cs := cs) hb (by omega) u, hr⟩
theorem OwnV.congr {f' : Nat → Value} (h : OwnV w T N a n c f) (e : ∀ i, i < n → f i = f' i) : OwnV w T N a n c f' := by
  have : vList f n = vList f' n := List.ext_getElem? fun i => by
    rw [vList_get, vList_get]
    by_cases hi : i < n
    · rw [if_pos hi, if_pos hi, e i hi]
    · rw [if_neg hi, if_neg hi]
  unfold OwnV at h ⊢
  rwa [this] at h
theorem OwnV.more {M : Nat} (h : OwnV w T N a n c f) (hM : M ≤ N) : OwnV w T M a n c f := by
  refine ⟨h.1, ?_⟩
  rcases h.2 with e | ⟨g, cap, cs, e, hN, hr⟩
  · exact .inl e
  · exact .inr ⟨g, cap, cs, e, by omega, hr⟩
theorem OwnV.nil (w : World) (T : TypeId) (N : Nat) (f : Nat → Value) : OwnV w T N none 0 0 f := World.ownsRow_nil w N T 1
theorem OwnU.ownV {p : Nat → Nat} (h : OwnU w N a n c p) : OwnV w 148 N a n c (fun i => .int .u16 (p i : Nat)) := h
theorem OwnV.ownU {p : Nat → Nat} (h : OwnV w 148 N a n c (fun i => .int .u16 (p i : Nat))) : OwnU w N a n c p := h
end
/-- A slice's type and its one-cell element's. -/
structure RowTy (L T : TypeId) : Prop where
  u : Tryz.prog.underlying L = some (.slice T)
  i : ∃ i z b, Tryz.prog.info? T = some i ∧ i.zero = some z ∧ i.size = 1 ∧ i.bytes = b ∧ z.cells.size = 1 ∧ b ≤ 64
theorem rowTy_of {L T : TypeId} {z : Value} {b : Nat} (u : Tryz.prog.underlying L = some (.slice T)) (h : (Tryz.prog.info? T).map (fun i => (i.zero, i.size, i.bytes)) = some (some z, 1, b)) (hz : z.cells.size = 1) (hb : b ≤ 64) : RowTy L T := by
  refine ⟨u, ?_⟩
  cases e : Tryz.prog.info? T with
  | none => rw [e] at h; cases h
  | some i =>
    rw [e] at h
    simp only [Option.map_some, Option.some.injEq, Prod.mk.injEq] at h
    exact ⟨i, z, b, rfl, h.1, h.2.1, h.2.2, hz, hb⟩
theorem ty_u : RowTy 80 148 := rowTy_of Tryz.underlying80 (z := .int .u16 0) (b := 2) (by kernel_rfl) rfl (by omega)
theorem ty_c : RowTy 24 27 := rowTy_of Tryz.underlying24 (z := .complex .f64 0 0) (b := 16) (by kernel_rfl) rfl (by omega)
theorem ty_uu : RowTy 198 80 := rowTy_of Tryz.underlying198 (z := .slice none 0 0) (b := 24) (by kernel_rfl) rfl (by omega)
theorem ty_b : RowTy 97 5 := rowTy_of Tryz.underlying97 (z := .int .u8 0) (b := 1) (by kernel_rfl) rfl (by omega)
theorem wp_append_v {w : World} {o : Oper} {a : Act} {K : Act → World → Prop} {Q : Exit → Act → World → Prop} {L T : TypeId} (ty : RowTy L T) (s x : Operand)
    (ho : o.op = .call { callee := .builtin .append, args := #[s, x], argTypes := #[L, L] })
    (N : Nat) (ao : Option Addr) (n co : Nat) (f : Nat → Value) (hs : a.eval s = .slice ao n co) (hown : OwnV w T N ao n co f) (ad : Addr) (m c : Nat) (p : Nat → Value) (hx : a.eval x = .slice (some ad) m c) (hp : ArgV w (some ad) m p)
    (h1 : ∀ i, i < m → (p i).oneCell' = true) (hnm : n + m ≤ 1000000) (hN : N ≤ w.heap.size)
    (h : ∀ a' c' w', OwnV w' T N a' (n + m) c' (fun i => if i < n then f i else p (i - n)) → w.grownBy w' (Value.slice ao n co).ownBlock → K (a.put o.dst (.slice a' (n + m) c')) w') :
    o.wp Tryz.prog a w K Q := by
  obtain ⟨i, z, b, hi, hz, hsz, hby, hzs, hb⟩ := ty.i
  refine wp_append_own w s x L ho N T i z 1 b ty.u hi hz hsz hby hzs (by omega) (.slice ao n co) n (vList f n) hs hown ad m c (vList p m) hx (by rw [vList_len, Nat.mul_one]) ?_ ?_ (by unfold maxLen; omega) ?_ hN ?_
  · intro j u hj
    rw [vList_get] at hj
    split at hj
    · rename_i hjm
      obtain ⟨b, off, e, _, hc⟩ := hp.at_ (by omega)
      cases Option.some.inj e
      rw [addr_add, hc j hjm]
      exact hj
    · cases hj
  · intro u hu
    simp only [vList, List.mem_map, List.mem_range] at hu
    obtain ⟨j, hj, rfl⟩ := hu
    exact h1 j hj
  · exact Nat.le_trans (Nat.mul_le_mul hnm hb) (by omega)
  · intro v' w' h1 h2 _
    have hsl : ∃ a' c', v' = .slice a' (n + m) c' := by
      rcases h1.2 with ⟨e, e0⟩ | ⟨g, cap, cs, e, _⟩
      · exact ⟨none, 0, by rw [e0]; exact e⟩
      · exact ⟨_, _, e⟩
    obtain ⟨a', c', rfl⟩ := hsl
    refine h a' c' w' ?_ h2
    unfold OwnV
    have e : vList (fun i => if i < n then f i else p (i - n)) (n + m) = vList f n ++ vList p m := List.ext_getElem? fun i => by
      have hl := vList_len f n
      rw [vList_get]
      by_cases h1 : i < n
      · rw [List.getElem?_append_left (by omega), vList_get, if_pos h1, if_pos (by omega), if_pos h1]
      · rw [List.getElem?_append_right (by omega), hl, vList_get]
        by_cases h2 : i < n + m
        · rw [if_pos h2, if_neg h1, if_pos (by omega)]
        · rw [if_neg h2, if_neg (by omega)]
    rw [e]
    exact h1
/-- append of one value, just laid, onto a row of the call's own. -/
theorem wpList_append_1 {w : World} {ops : Array Oper} {rest : List Oper} {o : Oper} {a : Act} {Q : Exit → Act → World → Prop} {L T : TypeId} (ty : RowTy L T) (hgd : o.guard = none) (s x : Operand)
    (ho : o.op = .call { callee := .builtin .append, args := #[s, x], argTypes := #[L, L] })
    (N : Nat) (ao : Option Addr) (n co : Nat) (f : Nat → Value) (hs : a.eval s = .slice ao n co) (hown : OwnV w T N ao n co f) (g : Nat) (v : Value) (hx : a.eval x = .slice (some ⟨g, 0, none⟩) 1 1) (hp : Blk w g T #[v])
    (h1 : v.oneCell' = true) (hnm : n + 1 ≤ 1000000) (hN : N ≤ w.heap.size)
    (h : ∀ a' c' w', OwnV w' T N a' (n + 1) c' (fun i => if i < n then f i else v) → w.grownBy w' (Value.slice ao n co).ownBlock → wpList Tryz.prog ops Q rest (a.put o.dst (.slice a' (n + 1) c')) w') :
    wpList Tryz.prog ops Q (o :: rest) a w :=
  wpList_plain hgd fun _ hK => wp_append_v ty s x ho N ao n co f hs hown ⟨g, 0, none⟩ 1 1 (fun _ => v) hx
    ⟨by omega, fun _ => ⟨g, 0, rfl, hp.lt, fun i hi => by
      obtain rfl : i = 0 := by omega
      rw [Nat.zero_add, hp.cell]
      rfl⟩⟩ (fun _ _ => h1) hnm hN fun a' c' w' h1 h2 => hK _ _ (h a' c' w' h1 h2)
/-- append of a row onto a row of the call's own. -/
theorem wpList_append_v {w : World} {ops : Array Oper} {rest : List Oper} {o : Oper} {a : Act} {Q : Exit → Act → World → Prop} {L T : TypeId} (ty : RowTy L T) (hgd : o.guard = none) (s x : Operand)
    (ho : o.op = .call { callee := .builtin .append, args := #[s, x], argTypes := #[L, L] })
    (N : Nat) (ao : Option Addr) (n co : Nat) (f : Nat → Value) (hs : a.eval s = .slice ao n co) (hown : OwnV w T N ao n co f) (ad : Addr) (m c : Nat) (p : Nat → Value) (hx : a.eval x = .slice (some ad) m c) (hp : ArgV w (some ad) m p)
    (h1 : ∀ i, i < m → (p i).oneCell' = true) (hnm : n + m ≤ 1000000) (hN : N ≤ w.heap.size)
    (h : ∀ a' c' w', OwnV w' T N a' (n + m) c' (fun i => if i < n then f i else p (i - n)) → w.grownBy w' (Value.slice ao n co).ownBlock → wpList Tryz.prog ops Q rest (a.put o.dst (.slice a' (n + m) c')) w') :
    wpList Tryz.prog ops Q (o :: rest) a w :=
  wpList_plain hgd fun _ hK => wp_append_v ty s x ho N ao n co f hs hown ad m c p hx hp h1 hnm hN fun a' c' w' h1 h2 => hK _ _ (h a' c' w' h1 h2)
end Go.Proofs.YtdjgjffgheocfaaGreat
