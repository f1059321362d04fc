/- scan: rows of what was found; Block; what a page is read as; Greatest; awake. -/
import Derived.Test.YtdlmjjlejkkniaaGreatRowV
import Derived.Test.YtdlmjjlejkkniaaGreatBase
import Derived.Test.YtdlmjjlejkkniaaGreatChip
import Derived.Test.YtdlmjjlejkkniaaGreatFrRead
import Derived.Test.YtdlmjjlejkkniaaGreatGeo
import Derived.Test.YtdlmjjlejkkniaaGreatFrSays
namespace Go.Proofs.YtdlmjjlejkkniaaGreat
open Go.RowKit

/-- A slice whose elements are of k cells: its cell q is f q. -/
structure ArgW (w : World) (k : Nat) (a : Option Addr) (n : Nat) (f : Nat → Value) : Prop where
  at_ : 0 < n → ∃ b off, a = some ⟨b, off, none⟩ ∧ b < w.heap.size ∧ ∀ q, q < n * k → w.cell? ⟨b, off + q, none⟩ = some (f q)
/-- Block g has c such elements; the first n say f. -/
def RowW (w : World) (T : TypeId) (k g c n : Nat) (f : Nat → Value) : Prop := ∃ cs, Blk w g T cs ∧ cs.size = c * k ∧ n ≤ c ∧ ∀ q, q < n * k → cs[q]? = some (f q)
/-- A slice made since block N: nil, or the head of a row of its own. -/
def OwnW (w : World) (T : TypeId) (k N : Nat) (a : Option Addr) (n c : Nat) (f : Nat → Value) : Prop := w.ownsRow N T k (.slice a n c) n (vList f (n * k))
section
variable {w w' : World} {T : TypeId} {k g c n : Nat} {f : Nat → Value} {N : Nat} {a : Option Addr}
theorem ArgW.keep (h : ArgW w k a n f) (hk : Keep (fun _ => False) w w') : ArgW w' k a n f :=
  ⟨fun h0 => by
    obtain ⟨b, off, e, hb, hc⟩ := h.at_ h0
    exact ⟨b, off, e, Nat.lt_of_lt_of_le hb hk.size, fun i hi => (hk.cell (p := ⟨b, off + i, none⟩) hb (by simp)).trans (hc i hi)⟩⟩
theorem ArgW.nil (w : World) (k : Nat) (f : Nat → Value) : ArgW w k none 0 f := ⟨fun h => by omega⟩
theorem ArgW.congr {f' : Nat → Value} (h : ArgW w k a n f) (e : ∀ q, q < n * k → f q = f' q) : ArgW w k a n f' :=
  ⟨fun h0 => by
    obtain ⟨b, off, ea, hb, hc⟩ := h.at_ h0
    exact ⟨b, off, ea, hb, fun i hi => by rw [← e i hi]; exact hc i hi⟩⟩
theorem RowW.lt (h : RowW w T k g c n f) : g < w.heap.size := by
  obtain ⟨cs, hb, _⟩ := h
  exact hb.lt
theorem RowW.val (h : RowW w T k g c n f) {q : Nat} (hq : q < n * k) : w.cell? ⟨g, q, none⟩ = some (f q) := by
  obtain ⟨cs, hb, _, _, hc⟩ := h
  rw [hb.cell, hc q hq]
theorem RowW.frozen (h : RowW w T k g c n f) (i : Nat) : w.frozen? ⟨g, i, none⟩ = false := by
  obtain ⟨cs, hb, _⟩ := h
  exact hb.frozen i
theorem RowW.store (h : RowW w T k g c n f) (i : Nat) (v : Value) {f' : Nat → Value} (e : ∀ q, q < n * k → f' q = if q = i then v else f q) : RowW (w.setCell ⟨g, i, none⟩ v) T k g c n f' := by
  obtain ⟨cs, hb, hs, hn, hc⟩ := h
  refine ⟨_, hb.put i _, by simpa using hs, hn, fun q hq => ?_⟩
  have hnc := Nat.mul_le_mul_right k hn
  rw [Array.getElem?_setIfInBounds, e q hq]
  by_cases h : i = q
  · subst h
    rw [if_pos rfl, if_pos (by omega), if_pos rfl]
  · rw [if_neg h, if_neg (fun e => h e.symm), hc q hq]
theorem RowW.keep {S : Nat → Prop} (h : RowW w T k g c n f) (hk : Keep S w w') (hg : ¬ S g) : RowW w' T k g c n f := by
  obtain ⟨cs, hb, hr⟩ := h
  exact ⟨cs, hb.keep hk hg, hr⟩
theorem RowW.congr {f' : Nat → Value} (h : RowW w T k g c n f) (e : ∀ q, q < n * k → f q = f' q) : RowW w T k g c n f' := by
  obtain ⟨cs, hb, hs, hn, hc⟩ := h
  exact ⟨cs, hb, hs, hn, fun i hi => by rw [← e i hi]; exact hc i hi⟩
theorem RowW.arg (h : RowW w T k g c n f) : ArgW w k (some ⟨g, 0, none⟩) n f :=
  ⟨fun _ => ⟨g, 0, rfl, h.lt, fun i hi => by rw [Nat.zero_add]; exact h.val hi⟩⟩
theorem RowW.take {m : Nat} (h : RowW w T k g c n f) (hm : m ≤ n) : RowW w T k g c m f := by
  obtain ⟨cs, hb, hs, hn, hc⟩ := h
  have := Nat.mul_le_mul_right k hm
  exact ⟨cs, hb, hs, by omega, fun q hq => hc q (by omega)⟩
theorem RowW.cap (h : RowW w T k g c n f) : n ≤ c := by
  obtain ⟨cs, hb, hs, hn, hc⟩ := h
  exact hn
theorem OwnW.of_row (h : RowW w T k g c n f) (hN : N ≤ g) (hc : c ≤ maxLen) : OwnW w T k N (some ⟨g, 0, none⟩) n c f := by
  obtain ⟨cs, hb, hs, hn, hv⟩ := h
  have hnc := Nat.mul_le_mul_right k hn
  refine ⟨by rw [vList_len], .inr ⟨g, c, cs, rfl, hN, hb, hn, hc, hs, ?_⟩⟩
  apply List.ext_getElem?
  intro i
  rw [List.getElem?_take, vList_get]
  by_cases hi : i < n * k
  · rw [if_pos hi, if_pos hi, Array.getElem?_toList, hv i hi]
  · rw [if_neg hi, if_neg hi]
theorem OwnW.row (h : OwnW w T k N a n c f) (h0 : 0 < n) : ∃ g, a = some ⟨g, 0, none⟩ ∧ N ≤ g ∧ c ≤ maxLen ∧ RowW w T k g c n f := by
  rcases h.2 with ⟨_, e⟩ | ⟨g, cap, cs, e, hN, hb, hn, hm, hs, ht⟩
  · omega
  · injection e with e1 e2 e3
    subst e3
    refine ⟨g, e1, hN, hm, cs, hb, hs, hn, fun i hi => ?_⟩
    have e4 := congrArg (fun l => l[i]?) ht
    simp only [List.getElem?_take, vList_get] at e4
    rw [if_pos hi, if_pos hi, Array.getElem?_toList] at e4
    exact e4
theorem OwnW.le (h : OwnW w T k N a n c f) : n ≤ c ∧ c ≤ maxLen := by
  rcases h.2 with ⟨e, e0⟩ | ⟨g, cap, cs, e, hN, hb, hn, hm, hs, ht⟩
  · injection e with e1 e2 e3
    unfold maxLen
    omega
  · injection e with e1 e2 e3
    omega
theorem OwnW.arg (h : OwnW w T k N a n c f) : ArgW w k a n f := by
  rcases Nat.eq_zero_or_pos n with h0 | h0
  · exact ⟨fun h => by omega⟩
  · obtain ⟨g, rfl, _, _, hr⟩ := h.row h0
    exact hr.arg
theorem OwnW.block (h : OwnW w T k N a n c f) {t : Nat} (hk : (Value.slice a n c).ownBlock = some t) : N ≤ t ∧ ∃ cs, Blk w t T cs := by
  rcases h.2 with ⟨e, _⟩ | ⟨g, cap, cs, e, hN, hb, _⟩
  · rw [e] at hk
    simp [Value.ownBlock] at hk
  · rw [e] at hk
    simp [Value.ownBlock] at hk
    subst hk
    exact ⟨hN, cs, hb⟩
/-- Blocks of S are none of the row's. -/
theorem OwnW.keepS {S : Nat → Prop} (h : OwnW w T k N a n c f) (hk : Keep S w w') (hS : ∀ t, (Value.slice a n c).ownBlock = some t → ¬ S t) : OwnW w' T k N a n c f := by
  refine ⟨h.1, ?_⟩
  rcases h.2 with e | ⟨g, cap, cs, e, hN, hb, hr⟩
  · exact .inl e
  · exact .inr ⟨g, cap, cs, e, hN, (hk.block g (Blk.lt (t := T) (cs := cs) hb) (hS g (by rw [e]; rfl))).trans hb, hr⟩
theorem OwnW.keep (h : OwnW w T k N a n c f) (hk : Keep (fun _ => False) w w') : OwnW w' T k N a n c f := h.keepS hk (fun _ _ => by simp)
theorem OwnW.congr {f' : Nat → Value} (h : OwnW w T k N a n c f) (e : ∀ q, q < n * k → f q = f' q) : OwnW w T k N a n c f' := by
  have : vList f (n * k) = vList f' (n * k) := List.ext_getElem? fun i => by
    rw [vList_get, vList_get]
    by_cases hi : i < n * k
    · rw [if_pos hi, if_pos hi, e i hi]
    · rw [if_neg hi, if_neg hi]
  unfold OwnW at h ⊢
  rwa [this] at h
theorem OwnW.more {M : Nat} (h : OwnW w T k N a n c f) (hM : M ≤ N) : OwnW w T k M a n c f := by
  refine ⟨h.1, ?_⟩
  rcases h.2 with e | ⟨g, cap, cs, e, hN, hr⟩
  · exact .inl e
  · exact .inr ⟨g, cap, cs, e, by omega, hr⟩
theorem OwnW.nil (w : World) (T : TypeId) (k N : Nat) (f : Nat → Value) : OwnW w T k N none 0 0 f := by
  have := World.ownsRow_nil w N T k
  unfold OwnW
  rwa [Nat.zero_mul]
theorem OwnW.far (h : OwnW w T k N a n c f) {T' : TypeId} {g : Nat} {cs : Array Value} (hb : Blk w g T' cs) (i : Nat) (u : Value) (hne : T ≠ T') : OwnW (w.setCell ⟨g, i, none⟩ u) T k N a n c f := by
  refine ⟨h.1, ?_⟩
  rcases h.2 with e | ⟨t, cap, cs', e, hN, hb', hr⟩
  · exact .inl e
  · exact .inr ⟨t, cap, cs', e, hN, Blk.far (t := T) (cs := cs') hb' (Blk.ne (t := T) (cs := cs') hb' hb hne) u, hr⟩
end
theorem OwnV.farT {w : World} {T T' : TypeId} {N : Nat} {a : Option Addr} {n c : Nat} {f : Nat → Value} (h : OwnV w T N a n c f) {g : Nat} {cs : Array Value} (hb : Blk w g T' cs) (i : Nat) (u : Value) (hne : T ≠ T') : OwnV (w.setCell ⟨g, i, none⟩ u) T N a n c f := by
  refine ⟨h.1, ?_⟩
  rcases h.2 with e | ⟨k, cap, cs', e, hN, hb', hr⟩
  · exact .inl e
  · exact .inr ⟨k, cap, cs', e, hN, Blk.far (t := T) (cs := cs') hb' (Blk.ne (t := T) (cs := cs') hb' hb hne) u, hr⟩
/-- A slice's type and its element's, which is of k cells. -/
structure WideTy (L T : TypeId) (k : Nat) : Prop where
  u : Tryz.prog.underlying L = some (.slice T)
  i : ∃ i z b, Tryz.prog.info? T = some i ∧ i.zero = some z ∧ i.size = k ∧ i.bytes = b ∧ z.cells.size = k ∧ b ≤ 64
  k0 : 0 < k
theorem wideTy_of {L T : TypeId} {z : Value} {k b : Nat} (u : Tryz.prog.underlying L = some (.slice T)) (h : (Tryz.prog.info? T).map (fun i => (i.zero, i.size, i.bytes)) = some (some z, k, b)) (hz : z.cells.size = k) (hb : b ≤ 64) (hk : 0 < k) : WideTy L T k := by
  refine ⟨u, ?_, hk⟩
  cases e : Tryz.prog.info? T with
  | none => rw [e] at h; cases h
  | some i =>
    rw [e] at h
    simp only [Option.map_some, Option.some.injEq, Prod.mk.injEq] at h
    exact ⟨i, z, b, rfl, h.1, h.2.1, h.2.2, hz, hb⟩
theorem wp_append_w {w : World} {o : Oper} {a : Act} {K : Act → World → Prop} {Q : Exit → Act → World → Prop} {L T : TypeId} {k : Nat} (ty : WideTy L T k) (s x : Operand)
    (ho : o.op = .call { callee := .builtin .append, args := #[s, x], argTypes := #[L, L] })
    (N : Nat) (ao : Option Addr) (n co : Nat) (f : Nat → Value) (hs : a.eval s = .slice ao n co) (hown : OwnW w T k N ao n co f) (ad : Addr) (m c : Nat) (p : Nat → Value) (hx : a.eval x = .slice (some ad) m c) (hp : ArgW w k (some ad) m p)
    (h1 : ∀ q, q < m * k → (p q).oneCell' = true) (hnm : n + m ≤ 1000000) (hN : N ≤ w.heap.size)
    (h : ∀ a' c' w', OwnW w' T k N a' (n + m) c' (fun q => if q < n * k then f q else p (q - n * k)) → w.grownBy w' (Value.slice ao n co).ownBlock → K (a.put o.dst (.slice a' (n + m) c')) w') :
    o.wp Tryz.prog a w K Q := by
  obtain ⟨i, z, b, hi, hz, hsz, hby, hzs, hb⟩ := ty.i
  refine wp_append_own w s x L ho N T i z k b ty.u hi hz hsz hby hzs ty.k0 (.slice ao n co) n (vList f (n * k)) hs hown ad m c (vList p (m * k)) hx (vList_len _ _) ?_ ?_ (by unfold maxLen; omega) ?_ hN ?_
  · intro j u hj
    rw [vList_get] at hj
    split at hj
    · rename_i hjm
      have hm0 : 0 < m := by
        rcases Nat.eq_zero_or_pos m with e | e
        · subst e; omega
        · exact e
      obtain ⟨b, off, e, _, hc⟩ := hp.at_ hm0
      cases Option.some.inj e
      rw [addr_add, hc j hjm]
      exact hj
    · cases hj
  · intro u hu
    simp only [vList, List.mem_map, List.mem_range] at hu
    obtain ⟨j, hj, rfl⟩ := hu
    exact h1 j hj
  · exact Nat.le_trans (Nat.mul_le_mul hnm hb) (by omega)
  · intro v' w' h1 h2 _
    have hsl : ∃ a' c', v' = .slice a' (n + m) c' := by
      rcases h1.2 with ⟨e, e0⟩ | ⟨g, cap, cs, e, _⟩
      · exact ⟨none, 0, by rw [e0]; exact e⟩
      · exact ⟨_, _, e⟩
    obtain ⟨a', c', rfl⟩ := hsl
    refine h a' c' w' ?_ h2
    unfold OwnW
    have e : vList (fun q => if q < n * k then f q else p (q - n * k)) ((n + m) * k) = vList f (n * k) ++ vList p (m * k) := List.ext_getElem? fun i => by
      have hl := vList_len f (n * k)
      have hd : (n + m) * k = n * k + m * k := Nat.add_mul _ _ _
      rw [vList_get]
      by_cases h1 : i < n * k
      · rw [List.getElem?_append_left (by omega), vList_get, if_pos h1, if_pos (by omega), if_pos h1]
      · rw [List.getElem?_append_right (by omega), hl, vList_get]
        by_cases h2 : i < n * k + m * k
        · rw [if_pos (by omega), if_neg h1, if_pos (by omega)]
        · rw [if_neg (by omega), if_neg (by omega)]
    rw [e]
    exact h1
theorem wpList_append_w {w : World} {ops : Array Oper} {rest : List Oper} {o : Oper} {a : Act} {Q : Exit → Act → World → Prop} {L T : TypeId} {k : Nat} (ty : WideTy L T k) (hgd : o.guard = none) (s x : Operand)
    (ho : o.op = .call { callee := .builtin .append, args := #[s, x], argTypes := #[L, L] })
    (N : Nat) (ao : Option Addr) (n co : Nat) (f : Nat → Value) (hs : a.eval s = .slice ao n co) (hown : OwnW w T k N ao n co f) (ad : Addr) (m c : Nat) (p : Nat → Value) (hx : a.eval x = .slice (some ad) m c) (hp : ArgW w k (some ad) m p)
    (h1 : ∀ q, q < m * k → (p q).oneCell' = true) (hnm : n + m ≤ 1000000) (hN : N ≤ w.heap.size)
    (h : ∀ a' c' w', OwnW w' T k N a' (n + m) c' (fun q => if q < n * k then f q else p (q - n * k)) → w.grownBy w' (Value.slice ao n co).ownBlock → wpList Tryz.prog ops Q rest (a.put o.dst (.slice a' (n + m) c')) w') :
    wpList Tryz.prog ops Q (o :: rest) a w :=
  wpList_plain hgd fun _ hK => wp_append_w ty s x ho N ao n co f hs hown ad m c p hx hp h1 hnm hN fun a' c' w' h1 h2 => hK _ _ (h a' c' w' h1 h2)

/-- A page that was found. -/
structure FoundE where
  p : Int
  k : Int
  l : Int
  s : Int
  m : Int
  deriving DecidableEq
def FoundE.cell (x : FoundE) (r : Nat) : Value := .int .i64 (if r = 0 then x.p else if r = 1 then x.k else if r = 2 then x.l else if r = 3 then x.s else x.m)
def FoundE.arr (x : FoundE) : Array Value := #[.int .i64 x.p, .int .i64 x.k, .int .i64 x.l, .int .i64 x.s, .int .i64 x.m]
/-- The cells of such pages. -/
def fdG (f : Nat → FoundE) : Nat → Value := fun q => (f (q / 5)).cell (q % 5)
theorem fdG_at (f : Nat → FoundE) (i : Nat) : fdG f (i * 5) = .int .i64 (f i).p ∧ fdG f (i * 5 + 1) = .int .i64 (f i).k ∧ fdG f (i * 5 + 2) = .int .i64 (f i).l ∧ fdG f (i * 5 + 3) = .int .i64 (f i).s ∧ fdG f (i * 5 + 4) = .int .i64 (f i).m := by
  unfold fdG
  rw [show i * 5 / 5 = i by omega, show (i * 5 + 1) / 5 = i by omega, show (i * 5 + 2) / 5 = i by omega, show (i * 5 + 3) / 5 = i by omega, show (i * 5 + 4) / 5 = i by omega,
    show i * 5 % 5 = 0 by omega, show (i * 5 + 1) % 5 = 1 by omega, show (i * 5 + 2) % 5 = 2 by omega, show (i * 5 + 3) % 5 = 3 by omega, show (i * 5 + 4) % 5 = 4 by omega]
  exact ⟨rfl, rfl, rfl, rfl, rfl⟩
theorem fdG_one (f : Nat → FoundE) (q : Nat) : (fdG f q).oneCell' = true := rfl
theorem ty_fd : WideTy 42 52 5 := wideTy_of Tryz.underlying42 (z := .agg #[.int .i64 0, .int .i64 0, .int .i64 0, .int .i64 0, .int .i64 0]) (b := 40) (by kernel_rfl) rfl (by omega) (by omega)
/-- One such page, just laid. -/
theorem Blk.argFd {w : World} {g : Nat} {x : FoundE} (h : Blk w g 52 x.arr) : ArgW w 5 (some ⟨g, 0, none⟩) 1 (fdG (fun _ => x)) :=
  ⟨fun _ => ⟨g, 0, rfl, h.lt, fun q hq => by
    rw [Nat.zero_add, h.cell]
    obtain ⟨h0, h1, h2, h3, h4⟩ := fdG_at (fun _ => x) 0
    match q, hq with
    | 0, _ => exact congrArg some h0.symm
    | 1, _ => exact congrArg some h1.symm
    | 2, _ => exact congrArg some h2.symm
    | 3, _ => exact congrArg some h3.symm
    | 4, _ => exact congrArg some h4.symm
    | (q + 5), hq => omega⟩⟩
theorem fdG_next (f : Nat → FoundE) (x : FoundE) (n q : Nat) (hq : q < (n + 1) * 5) : (if q < n * 5 then fdG f q else fdG (fun _ => x) (q - n * 5)) = fdG (fun i => if i < n then f i else x) q := by
  unfold fdG
  by_cases h : q < n * 5
  · rw [if_pos h]
    dsimp only
    rw [if_pos (by omega)]
  · rw [if_neg h]
    dsimp only
    rw [if_neg (by omega), show (q - n * 5) % 5 = q % 5 by omega]
abbrev OwnF (w : World) (N : Nat) (a : Option Addr) (n c : Nat) (f : Nat → FoundE) : Prop := OwnW w 52 5 N a n c (fdG f)
abbrev ArgF (w : World) (a : Option Addr) (n : Nat) (f : Nat → FoundE) : Prop := ArgW w 5 a n (fdG f)
/-- append of one such page, just laid. -/
theorem wpList_append_fd {w : World} {ops : Array Oper} {rest : List Oper} {o : Oper} {a : Act} {Q : Exit → Act → World → Prop} (hgd : o.guard = none) (s x : Operand)
    (ho : o.op = .call { callee := .builtin .append, args := #[s, x], argTypes := #[42, 42] })
    (N : Nat) (ao : Option Addr) (n co : Nat) (f : Nat → FoundE) (hs : a.eval s = .slice ao n co) (hown : OwnF w N ao n co f) (g : Nat) (v : FoundE) (hx : a.eval x = .slice (some ⟨g, 0, none⟩) 1 1) (hp : Blk w g 52 v.arr)
    (hnm : n + 1 ≤ 1000000) (hN : N ≤ w.heap.size)
    (h : ∀ a' c' w', OwnF w' N a' (n + 1) c' (fun i => if i < n then f i else v) → w.grownBy w' (Value.slice ao n co).ownBlock → wpList Tryz.prog ops Q rest (a.put o.dst (.slice a' (n + 1) c')) w') :
    wpList Tryz.prog ops Q (o :: rest) a w :=
  wpList_append_w ty_fd hgd s x ho N ao n co (fdG f) hs hown ⟨g, 0, none⟩ 1 1 (fdG fun _ => v) hx hp.argFd (fun _ _ => rfl) hnm hN fun a' c' w' h1 h2 => h a' c' w' (h1.congr fun q hq => fdG_next f v n q hq) h2
end Go.Proofs.YtdlmjjlejkkniaaGreat

namespace Go.Proofs.YtdlmjjlejkkniaaGreat
open Go.RowKit

/-- What a page is read as. -/
inductive RdO where
  | blank
  | torn
  | found (k l s : Int) (m : Nat)
def Reads (x y : Nat → Int) (W K : Nat) : RdO → Prop
  | .blank => anyB (fun i => offB (x i) (y i)) (W * (K + 16)) = false
  | .torn => anyB (fun i => offB (x i) (y i)) (W * (K + 16)) = true ∧ ∀ w' N e, ReadR w' N x y W K e → ∃ z : Int, z ≠ 0 ∧ e = noE z
  | .found k l s m => anyB (fun i => offB (x i) (y i)) (W * (K + 16)) = true ∧ ∀ w' N e, ReadR w' N x y W K e → ∃ a' n c', e = .returned (.tuple #[markV k l s, .slice a' n c', .int .i64 (m : Nat), .int .i64 0])
/-- What a block says, page by page: how far it is used, how many are torn, how many are found, which. -/
def usedR (R : Nat → RdO) : Nat → Nat
  | 0 => 0
  | j + 1 => match R j with | .blank => usedR R j | _ => j + 1
def tornR (R : Nat → RdO) : Nat → Nat
  | 0 => 0
  | j + 1 => match R j with | .torn => tornR R j + 1 | _ => tornR R j
def cntF (R : Nat → RdO) : Nat → Nat
  | 0 => 0
  | j + 1 => match R j with | .found .. => cntF R j + 1 | _ => cntF R j
def foundR (R : Nat → RdO) (at_ : Nat → Int) : Nat → Nat → FoundE
  | 0 => fun _ => ⟨0, 0, 0, 0, 0⟩
  | j + 1 => match R j with | .found k l s m => fun i => if i < cntF R j then foundR R at_ j i else ⟨at_ j, k, l, s, m⟩ | _ => foundR R at_ j
theorem usedR_le (R : Nat → RdO) (j : Nat) : usedR R j ≤ j := by
  induction j with
  | zero => exact Nat.le_refl _
  | succ j ih => unfold usedR; split <;> omega
theorem tornR_le (R : Nat → RdO) (j : Nat) : tornR R j ≤ j := by
  induction j with
  | zero => exact Nat.le_refl _
  | succ j ih => unfold tornR; split <;> omega
theorem cntF_le (R : Nat → RdO) (j : Nat) : cntF R j ≤ j := by
  induction j with
  | zero => exact Nat.le_refl _
  | succ j ih => unfold cntF; split <;> omega
def ChipS.ticks (C : ChipS) (t : Nat) : ChipS := { C with ops := C.ops + t }
theorem sight_cells {w : World} {g : Nat} {u v x : Value} (b : Blk w g 44 #[u, v, x]) : w.cell? ⟨g, 0, none⟩ = some u ∧ w.cell? ⟨g, 1, none⟩ = some v ∧ w.cell? ⟨g, 2, none⟩ = some x :=
  ⟨by rw [b.cell]; rfl, by rw [b.cell]; rfl, by rw [b.cell]; rfl⟩
theorem sight_put {w : World} {g : Nat} {a0 a1 a2 : Value} (b : Blk w g 44 #[a0, a1, a2]) (k l s : Value) :
    ((w.cell? ⟨g, 0, none⟩ = some a0 ∧ w.frozen? ⟨g, 0, none⟩ = false) ∧
    ((w.setCell ⟨g, 0, none⟩ k).cell? ⟨g, 1, none⟩ = some a1 ∧ (w.setCell ⟨g, 0, none⟩ k).frozen? ⟨g, 1, none⟩ = false) ∧
    (((w.setCell ⟨g, 0, none⟩ k).setCell ⟨g, 1, none⟩ l).cell? ⟨g, 2, none⟩ = some a2 ∧ ((w.setCell ⟨g, 0, none⟩ k).setCell ⟨g, 1, none⟩ l).frozen? ⟨g, 2, none⟩ = false)) ∧
    Blk (((w.setCell ⟨g, 0, none⟩ k).setCell ⟨g, 1, none⟩ l).setCell ⟨g, 2, none⟩ s) g 44 #[k, l, s] := by
  have Z1 : Blk (w.setCell ⟨g, 0, none⟩ k) g 44 #[k, a1, a2] := b.put 0 _
  have Z2 : Blk ((w.setCell ⟨g, 0, none⟩ k).setCell ⟨g, 1, none⟩ l) g 44 #[k, l, a2] := Z1.put 1 _
  obtain ⟨y0, _, _⟩ := sight_cells b
  obtain ⟨_, y1, _⟩ := sight_cells Z1
  obtain ⟨_, _, y2⟩ := sight_cells Z2
  exact ⟨⟨⟨y0, b.frozen 0⟩, ⟨y1, Z1.frozen 1⟩, y2, Z2.frozen 2⟩, Z2.put 2 _⟩
/-- What scan.Block leaves. -/
def ScanR (w w' : World) (num : CR → Nat) (C : ChipS) (R : Nat → RdO) (at_ : Nat → Int) (e : Ending) : Prop :=
  ∃ a c, e = .returned (.tuple #[.agg #[.slice a (cntF R C.P) c, .int .i64 (usedR R C.P : Nat), .int .i64 (tornR R C.P : Nat)], .int .i64 0]) ∧ OwnF w' w.heap.size a (cntF R C.P) c (foundR R at_ C.P) ∧ ChipM num w' (C.ticks C.P) ∧ Keep (Own num C) w w'
/-- At the head of its loop. -/
def ScanAt (W : World) (num : CR → Nat) (C : ChipS) (R : Nat → RdO) (at_ : Nat → Int) (sg : Nat) (v : Value) (wr : World) : Prop :=
  ∃ j a c, j ≤ C.P ∧ v = .int .i64 (j : Nat) ∧ Blk wr sg 44 #[.slice a (cntF R j) c, .int .i64 (usedR R j : Nat), .int .i64 (tornR R j : Nat)] ∧ OwnF wr (W.heap.size) a (cntF R j) c (foundR R at_ j) ∧ ChipM num wr (C.ticks j) ∧ Keep (fun k => Own num C k ∨ k = sg) W wr
set_option maxRecDepth 100000 in
set_option maxHeartbeats 4000000 in
theorem block_any (V : Value) (num : CR → Nat) (C : ChipS) (w : World) (h : ChipM num w C) (hT : HasT w V) (hTo : ∀ w', Keep (Own num C) w w' → HasT w' V) (hdk : C.dark = false) (hops : C.ops < 549755813888) (hF : ∀ t : Nat, t < C.P → C.F ((C.ops + t : Nat) : Int) = none) (i : Nat) (hi : i < C.B) (R : Nat → RdO)
    (hR : ∀ j, j < C.P → Reads (C.pg i j).x (C.pg i j).y C.W C.K (R j)) (hpm : ∀ j, j < C.P → ∀ q, q < C.n → Pm ((C.pg i j).x q) ∧ Pm ((C.pg i j).y q)) :
    Calls Tryz.prog 16 #[V, .pointer (some ⟨num .chip, 0, none⟩), .int .i64 i] w fun e w' => ScanR w w' num C R (fun j => (i * C.P + j : Nat)) e := by
  obtain ⟨a1, n1, c1, a2, n2, c2, rfl⟩ := hT.form
  have hlo : ∀ k, Own num C k → k < w.heap.size := fun k ⟨r, hr, e⟩ => by rw [← e]; exact h.lt r hr
  obtain ⟨W, hW⟩ : ∃ W, W = ((w.alloc (.cells #[.slice a1 n1 c1, .slice a2 n2 c2] 49)).alloc (.cells #[.slice none 0 0, .int .i64 0, .int .i64 0] 44)).alloc (.cells #[.slice none 0 0, .int .i64 0, .int .i64 0] 44) := ⟨_, rfl⟩
  have kW : Keep (fun _ => False) w W := by rw [hW]; exact (((Keep.refl _ w).alloc _).alloc _).alloc _
  have bT : Blk W w.heap.size 49 #[.slice a1 n1 c1, .slice a2 n2 c2] := by rw [hW]; exact ((Blk.new _ _ _).alloc _).alloc _
  have bR : Blk W (w.heap.size + 1) 44 #[.slice none 0 0, .int .i64 0, .int .i64 0] := by rw [hW]; exact (Blk.here _ _ _ _ (by simp)).alloc _
  have bS : Blk W (w.heap.size + 2) 44 #[.slice none 0 0, .int .i64 0, .int .i64 0] := by rw [hW]; exact Blk.here _ _ _ _ (by simp)
  have HM := Lib.hid (h.keepF kW)
  have hG := fun w' => cgeo_any num C w'
  have hWs : W.heap.size = w.heap.size + 3 := by rw [hW]; simp
  have HWS := Lib.hid hWs
  have HLO := Lib.hid hlo
  have HK := Lib.hid kW
  have HT0 := Lib.hid hTo
  have HF := Lib.hid hF
  have HR := Lib.hid hR
  have HPM := Lib.hid hpm
  have HC := Lib.hid h
  have HDK := Lib.hid hdk
  have hgeo := h.geo
  have hsm := h.small
  clear hWs hlo kW hT hTo hF hR hpm h hdk
  go_enter Tryz.func16, Tryz.ntmps16
  go_upto_region 4 with (fail)
  rw [← hW]
  clear hW
  have hsg : w.heap.size + 1 + 1 = w.heap.size + 2 := rfl
  rw [hsg]
  clear hsg
  go_wp2_with fail
  refine (hG _ HM.out).mono ?_
  rintro e w1 ⟨rfl, k1⟩
  obtain ⟨W1, hW1⟩ : ∃ W1, W1 = w1.alloc (.cells #[.int .i64 (C.B : Nat), .int .i64 (C.P : Nat), .int .i64 (C.W : Nat), .int .i64 (C.K : Nat)] 23) := ⟨_, rfl⟩
  have k2 : Keep (fun _ => False) W W1 := by rw [hW1]; exact k1.alloc _
  have bG : Blk W1 w1.heap.size 23 #[.int .i64 (C.B : Nat), .int .i64 (C.P : Nat), .int .i64 (C.W : Nat), .int .i64 (C.K : Nat)] := by rw [hW1]; exact Blk.new _ _ _
  obtain ⟨g0, g1, g2, g3⟩ := geo_cells bG
  have hz1 := k1.size
  have HST := Lib.hid (show ScanAt W1 num C R (fun j => (i * C.P + j : Nat)) (w.heap.size + 2) (.int .i64 0) W1 from
    ⟨0, none, 0, Nat.zero_le _, rfl, bS.keep k2 (by simp), OwnW.nil _ _ _ _ _, HM.out.keepF k2, Keep.refl _ _⟩)
  have BT := Lib.hid (bT.keep k2 (by simp))
  have BR := Lib.hid (bR.keep k2 (by simp))
  have BG := Lib.hid bG
  have HK1 := Lib.hid (HK.out.comp k2)
  generalize hgb : w1.heap.size = gb at *
  have HGB := Lib.hid hgb
  clear hgb bT bR bS bG k1 k2 hG
  go_upto_region 5 with (fail)
  rw [← hW1, HGB.out]
  clear hW1
  go_wp2_with fail
  clear g0 g1 g2 g3
  obtain ⟨s0, s1, s2, s3, _⟩ := hsm
  go_loopw [25] (fun v wr => ScanAt W1 num C R (fun j => (i * C.P + j : Nat)) (w.heap.size + 2) v wr) (fun v _ => C.P - (intOf v).toNat)
  case atStart => exact HST.out
  case round =>
    obtain ⟨j, a, c, hj, rfl, hb, ho, hm, hk⟩ := hrel
    have hzk := hk.size
    have hzw := HK1.out.size
    by_cases hjp : j < C.P
    · have hjp' : (j : Int) < (C.P : Int) := by omega
      have hs := sense_ok num (C.ticks j) wr hm HDK.out (by show C.ops + j < _; omega) 0 0 0 (by
        show (C.F ((C.ops + j : Nat) : Int)).getD _ = _
        rw [HF.out j hjp]
        rfl) (by decide) i j hi hjp
      have HSE := Lib.hid hs
      have HB := Lib.hid hb
      have HO := Lib.hid ho
      have HKR := Lib.hid hk
      clear hs hb ho hm hk
      go_wp2_with fail
      refine HSE.out.mono ?_
      rintro e w2 ⟨⟨ap, cp, rfl, op⟩, hm2, k2⟩
      have HM2 := Lib.hid (show ChipM num w2 (C.ticks (j + 1)) from hm2)
      have K2 := Lib.hid (show Keep (Own num C) wr w2 from k2)
      have HW1s := HWS.out
      have hsgo : ¬ Own num C (w.heap.size + 2) := fun e => by have := HLO.out _ e; omega
      have B2 := Lib.hid (HB.out.keep K2.out hsgo)
      have O2 := Lib.hid (HO.out.keepS K2.out (fun t ht e => by have := (HO.out.block ht).1; have := HLO.out _ e; omega))
      have KR2 := Lib.hid (HKR.out.trans K2.out (fun k e => .inl (.inl e)))
      have hnp := ChipS.n_pos hgeo
      have hpa := op.arg (by have := hnp.2; show C.n ≤ _; omega)
      have hpm := HPM.out j hjp
      have hRj := HR.out j hjp
      have HPA := Lib.hid hpa
      have OP2 := Lib.hid op
      have HPP := Lib.hid hpm
      have HBL : Hid (Calls Tryz.prog 41 #[.slice ap C.n cp] w2 fun e w' => e = .returned (.bool (!anyB (fun q => offB ((C.pg i j).x q) ((C.pg i j).y q)) (C.W * (C.K + 16)))) ∧ w2 = w') := Lib.hid (blank_any ap C.n cp _ _ w2 hpa hpm)
      clear hm2 k2 op hpa hpm hsgo HW1s HSE
      cases hRe : R j with
      | blank =>
        as_aux_lemma =>
          rw [hRe] at hRj
          rw [show anyB (fun q => offB ((C.pg i j).x q) ((C.pg i j).y q)) (C.W * (C.K + 16)) = false from hRj] at HBL
          have e1 : usedR R (j + 1) = usedR R j := by show (match R j with | .blank => usedR R j | _ => j + 1) = _; rw [hRe]
          have e2 : tornR R (j + 1) = tornR R j := by show (match R j with | .torn => tornR R j + 1 | _ => tornR R j) = _; rw [hRe]
          have e3 : cntF R (j + 1) = cntF R j := by show (match R j with | .found .. => cntF R j + 1 | _ => cntF R j) = _; rw [hRe]
          have e4 : foundR R (fun j => (i * C.P + j : Nat)) (j + 1) = foundR R (fun j => (i * C.P + j : Nat)) j := by
            show (match R j with | .found k l s m => _ | _ => _) = _
            rw [hRe]
          have HE := Lib.hid (show ScanAt W1 num C R (fun j => (i * C.P + j : Nat)) (w.heap.size + 2) (.int .i64 (j + 1 : Nat)) w2 from
            ⟨j + 1, a, c, by omega, rfl, by rw [e1, e2, e3]; exact B2.out, by rw [e3, e4]; exact O2.out, HM2.out, KR2.out⟩)
          clear e1 e2 e3 e4 hRe hRj
          go_wp2_with fail
          refine HBL.out.mono ?_
          rintro e w3 ⟨rfl, rfl⟩
          go_wp2_with fail
          rw [show (j : Int) + 1 = ((j + 1 : Nat) : Int) by omega]
          exact ⟨HE.out, by simp [intOf]; omega⟩
      | torn =>
        as_aux_lemma =>
          rw [hRe] at hRj
          obtain ⟨hany, hrd⟩ := hRj
          rw [hany] at HBL
          have e1 : usedR R (j + 1) = j + 1 := by show (match R j with | .blank => usedR R j | _ => j + 1) = _; rw [hRe]
          have e2 : tornR R (j + 1) = tornR R j + 1 := by show (match R j with | .torn => tornR R j + 1 | _ => tornR R j) = _; rw [hRe]
          have e3 : cntF R (j + 1) = cntF R j := by show (match R j with | .found .. => cntF R j + 1 | _ => cntF R j) = _; rw [hRe]
          have e4 : foundR R (fun j => (i * C.P + j : Nat)) (j + 1) = foundR R (fun j => (i * C.P + j : Nat)) j := by
            show (match R j with | .found k l s m => _ | _ => _) = _
            rw [hRe]
          have htl := tornR_le R j
          have HEQ := Lib.hid (And.intro e1 (And.intro e2 (And.intro e3 e4)))
          have HRD := Lib.hid hrd
          clear e1 e2 e3 e4 hRe hany hrd
          generalize usedR R j = u0 at *
          generalize tornR R j = t0 at *
          have c1 : w2.cell? ⟨w.heap.size + 2, 1, none⟩ = some (.int .i64 (u0 : Nat)) := by rw [B2.out.cell]; rfl
          have z1 := B2.out.frozen 1
          obtain ⟨W4, hW4⟩ : ∃ W4, W4 = w2.setCell ⟨w.heap.size + 2, 1, none⟩ (.int .i64 ((j : Int) + 1)) := ⟨_, rfl⟩
          have k4 : Keep (· = w.heap.size + 2) w2 W4 := by rw [hW4]; exact (Keep.refl (· = w.heap.size + 2) w2).setCell (p := ⟨w.heap.size + 2, 1, none⟩) (.inl rfl) _
          have b4 : Blk W4 (w.heap.size + 2) 44 #[.slice a (cntF R j) c, .int .i64 ((j : Int) + 1), .int .i64 (t0 : Nat)] := by rw [hW4]; exact B2.out.put 1 _
          have K4 : Keep (fun k => Own num C k ∨ k = w.heap.size + 2) W1 W4 := KR2.out.trans k4 (fun k e => .inl (.inr e))
          have hwsz := HWS.out
          have hgl := BG.out.lt
          have hsgo : ¬ Own num C (w.heap.size + 2) := fun e => by have := HLO.out _ e; omega
          have hlow : ∀ g, g < w.heap.size + 2 → ¬ Own num C g → ¬ (Own num C g ∨ g = w.heap.size + 2) := fun g h1 h2 h3 => h3.elim h2 (by omega)
          have bT4 := BT.out.keep K4 (hlow _ (by omega) (fun e => by have := HLO.out _ e; omega))
          have bG4 := BG.out.keep K4 (fun h3 => h3.elim (fun e => by have := HLO.out _ e; omega) (by omega))
          obtain ⟨t0', t1'⟩ := tabs_cells bT4
          obtain ⟨g0, g1, g2, g3⟩ := geo_cells bG4
          have hwW4 : Keep (Own num C) w W4 := (HK1.out.more (fun k e => by cases e)).trans K4 (fun k e => e.elim .inl (fun e => .inr (by omega)))
          have hT4 := HT0.out W4 hwW4
          have hA4 : ArgV W4 ap C.n (ptsV (C.pg i j).x (C.pg i j).y) := by
            rw [hW4]
            exact (OwnV.farT OP2.out B2.out 1 _ (by decide)).arg (by show C.n ≤ _; omega)
          have HREAD := Lib.hid (read_any _ (C.B : Int) (C.P : Int) C.W C.K C.n ap cp _ _ W4 hgeo rfl hT4 hA4 HPP.out)
          have o4 : OwnF W4 W1.heap.size a (cntF R j) c (foundR R (fun j => (i * C.P + j : Nat)) j) := O2.out.keepS k4 (fun t ht e => by have := (O2.out.block ht).1; omega)
          have m4 := HM2.out.keep k4 (fun r hr e => hsgo ⟨r, hr, e⟩)
          have HX := Lib.hid (And.intro b4 (And.intro K4 (And.intro o4 m4)))
          have hj64 : (j : Int) + 1 < 9223372036854775807 := by omega
          clear k4 b4 K4 hlow bT4 bG4 hwW4 hT4 hA4 o4 m4 hsgo hwsz
          go_wp2_with fail
          refine HBL.out.mono ?_
          rintro e w3 ⟨rfl, rfl⟩
          go_upto_region 13 with (fail)
          rw [← hW4]
          clear hW4 c1 z1
          go_wp2_with fail
          refine HREAD.out.mono ?_
          rintro e w5 ⟨hr5, k5⟩
          obtain ⟨z, hz, rfl⟩ := HRD.out _ _ _ hr5
          unfold noE markV
          obtain ⟨b4, K4, o4, m4⟩ := HX.out
          have hwsz := HWS.out
          obtain ⟨V5, hV5⟩ : ∃ V5, V5 = w5.alloc (.cells #[.int .i64 0, .int .i64 0, .int .i64 0] 30) := ⟨_, rfl⟩
          have k45 : Keep (fun _ => False) W4 V5 := by rw [hV5]; exact k5.alloc _
          have b5 := b4.keep k45 (by simp)
          have d2 : V5.cell? ⟨w.heap.size + 2, 2, none⟩ = some (.int .i64 (t0 : Nat)) := by rw [b5.cell]; rfl
          have z2 := b5.frozen 2
          have k56 : Keep (· = w.heap.size + 2) V5 (V5.setCell ⟨w.heap.size + 2, 2, none⟩ (.int .i64 ((t0 : Int) + 1))) := (Keep.refl (· = w.heap.size + 2) V5).setCell (p := ⟨w.heap.size + 2, 2, none⟩) (.inl rfl) _
          have hsgo : ¬ Own num C (w.heap.size + 2) := fun e => by have := HLO.out _ e; omega
          have hE := show ScanAt W1 num C R (fun j => (i * C.P + j : Nat)) (w.heap.size + 2) (.int .i64 (j + 1 : Nat)) (V5.setCell ⟨w.heap.size + 2, 2, none⟩ (.int .i64 ((t0 : Int) + 1))) from by
            obtain ⟨e1, e2, e3, e4⟩ := HEQ.out
            refine ⟨j + 1, a, c, by omega, rfl, ?_, ?_, (m4.keepF k45).keep k56 (fun r hr e => hsgo ⟨r, hr, e⟩), (K4.trans k45 (fun k e => by cases e)).trans k56 (fun k e => .inl (.inr e))⟩
            · rw [e1, e2, e3]
              exact b5.put 2 _
            · rw [e3, e4]
              have o5 := o4.keep k45
              exact o5.keepS k56 (fun t ht e => by have := (o5.block ht).1; omega)
          have HE := Lib.hid hE
          have hz0 : (z != 0) = true := by simpa using hz
          clear b4 K4 o4 m4 k45 b5 k56 hsgo hE hz k5 hr5
          go_upto_region 14 with (fail)
          rw [← hV5]
          clear hV5
          go_wp2_with fail
          rw [show (j : Int) + 1 = ((j + 1 : Nat) : Int) by omega]
          exact ⟨HE.out, by simp [intOf]; omega⟩
      | found mk ml ms mm =>
        rw [hRe] at hRj
        obtain ⟨hany, hrd⟩ := hRj
        rw [hany] at HBL
        have e1 : usedR R (j + 1) = j + 1 := by show (match R j with | .blank => usedR R j | _ => j + 1) = _; rw [hRe]
        have e2 : tornR R (j + 1) = tornR R j := by show (match R j with | .torn => tornR R j + 1 | _ => tornR R j) = _; rw [hRe]
        have e3 : cntF R (j + 1) = cntF R j + 1 := by show (match R j with | .found .. => cntF R j + 1 | _ => cntF R j) = _; rw [hRe]
        have e4 : foundR R (fun j => (i * C.P + j : Nat)) (j + 1) = fun q => if q < cntF R j then foundR R (fun j => (i * C.P + j : Nat)) j q else ⟨((i * C.P + j : Nat) : Int), mk, ml, ms, (mm : Nat)⟩ := by
          show (match R j with | .found k l s m => _ | _ => _) = _
          rw [hRe]
        have hcl := cntF_le R j
        have htl := tornR_le R j
        have HEQ := Lib.hid (And.intro e1 (And.intro e2 (And.intro e3 e4)))
        have HRD := Lib.hid hrd
        clear e1 e2 e3 e4 hRe hany hrd
        obtain ⟨F0, hF0⟩ : ∃ F0, F0 = foundR R (fun j => (i * C.P + j : Nat)) j := ⟨_, rfl⟩
        have HO2F := Lib.hid hF0
        generalize usedR R j = u0 at *
        generalize tornR R j = t0 at *
        have c1 : w2.cell? ⟨w.heap.size + 2, 1, none⟩ = some (.int .i64 (u0 : Nat)) := by rw [B2.out.cell]; rfl
        have z1 := B2.out.frozen 1
        obtain ⟨W4, hW4⟩ : ∃ W4, W4 = w2.setCell ⟨w.heap.size + 2, 1, none⟩ (.int .i64 ((j : Int) + 1)) := ⟨_, rfl⟩
        have k4 : Keep (· = w.heap.size + 2) w2 W4 := by rw [hW4]; exact (Keep.refl (· = w.heap.size + 2) w2).setCell (p := ⟨w.heap.size + 2, 1, none⟩) (.inl rfl) _
        have b4 : Blk W4 (w.heap.size + 2) 44 #[.slice a (cntF R j) c, .int .i64 ((j : Int) + 1), .int .i64 (t0 : Nat)] := by rw [hW4]; exact B2.out.put 1 _
        have K4 : Keep (fun k => Own num C k ∨ k = w.heap.size + 2) W1 W4 := KR2.out.trans k4 (fun k e => .inl (.inr e))
        have hwsz := HWS.out
        have hgl := BG.out.lt
        have hsgo : ¬ Own num C (w.heap.size + 2) := fun e => by have := HLO.out _ e; omega
        have hlow : ∀ g, g < w.heap.size + 2 → ¬ Own num C g → ¬ (Own num C g ∨ g = w.heap.size + 2) := fun g h1 h2 h3 => h3.elim h2 (by omega)
        have bT4 := BT.out.keep K4 (hlow _ (by omega) (fun e => by have := HLO.out _ e; omega))
        have bG4 := BG.out.keep K4 (fun h3 => h3.elim (fun e => by have := HLO.out _ e; omega) (by omega))
        obtain ⟨t0', t1'⟩ := tabs_cells bT4
        obtain ⟨g0, g1, g2, g3⟩ := geo_cells bG4
        have hwW4 : Keep (Own num C) w W4 := (HK1.out.more (fun k e => by cases e)).trans K4 (fun k e => e.elim .inl (fun e => .inr (by omega)))
        have hT4 := HT0.out W4 hwW4
        have hA4 : ArgV W4 ap C.n (ptsV (C.pg i j).x (C.pg i j).y) := by
          rw [hW4]
          exact (OwnV.farT OP2.out B2.out 1 _ (by decide)).arg (by show C.n ≤ _; omega)
        have HREAD := Lib.hid (read_any _ (C.B : Int) (C.P : Int) C.W C.K C.n ap cp _ _ W4 hgeo rfl hT4 hA4 HPP.out)
        have o4 : OwnF W4 W1.heap.size a (cntF R j) c F0 := by
          rw [hF0]
          exact O2.out.keepS k4 (fun t ht e => by have := (O2.out.block ht).1; omega)
        have m4 := HM2.out.keep k4 (fun r hr e => hsgo ⟨r, hr, e⟩)
        have HX := Lib.hid (And.intro b4 (And.intro K4 (And.intro o4 m4)))
        have hj64 : (j : Int) + 1 < 9223372036854775807 := by omega
        clear hF0 k4 b4 K4 hlow bT4 bG4 hwW4 hT4 hA4 o4 m4 hsgo hwsz
        go_wp2_with fail
        refine HBL.out.mono ?_
        rintro e w3 ⟨rfl, rfl⟩
        go_upto_region 13 with (fail)
        rw [← hW4]
        clear hW4 c1 z1
        go_wp2_with fail
        refine HREAD.out.mono ?_
        rintro e w5 ⟨hr5, k5⟩
        obtain ⟨aq, nq, cq, rfl⟩ := HRD.out _ _ _ hr5
        unfold markV
        obtain ⟨b4, K4, o4, m4⟩ := HX.out
        obtain ⟨V5, hV5⟩ : ∃ V5, V5 = w5.alloc (.cells #[.int .i64 mk, .int .i64 ml, .int .i64 ms] 30) := ⟨_, rfl⟩
        have k45 : Keep (fun _ => False) W4 V5 := by rw [hV5]; exact k5.alloc _
        have bMk : Blk V5 w5.heap.size 30 #[.int .i64 mk, .int .i64 ml, .int .i64 ms] := by rw [hV5]; exact Blk.new _ _ _
        have bG5 := (BG.out.keep K4 (fun h3 => h3.elim (fun e => by have := HLO.out _ e; have := BG.out.lt; have := HWS.out; omega) (by have := HWS.out; omega))).keep k45 (by simp)
        obtain ⟨y0, y1, y2, y3⟩ := geo_cells bG5
        have hmul : i * C.P + j < 2048 := by
          have h1 : i * C.P ≤ 63 * C.P := Nat.mul_le_mul_right _ (by omega)
          have h2 : 63 * C.P ≤ 63 * 32 := Nat.mul_le_mul_left _ s3
          omega
        have hmz : ((i * C.P + j : Nat) : Int) = (i : Int) * (C.P : Int) + (j : Int) := by rw [Int.natCast_add, Int.natCast_mul]
        have hnum := number_any (C.B : Int) (C.P : Int) (C.W : Int) (C.K : Int) (i : Int) (j : Int) V5 hgeo (by omega) (by omega) (by omega) (by omega) (by rw [← hmz]; omega) (by rw [← Int.natCast_mul]; omega)
        rw [← hmz] at hnum
        have HNUM := Lib.hid hnum
        have H45 := Lib.hid k45
        have BMK := Lib.hid bMk
        generalize hat : ((i * C.P + j : Nat) : Int) = atI at *
        have HAT := Lib.hid hat
        clear hat hmz hnum bMk bG5 b4 K4 o4 m4 k45 k5 hr5
        go_upto_region 14 with (fail)
        rw [← hV5]
        clear hV5
        go_wp2_with fail
        clear y0 y1 y2 y3
        refine HNUM.out.mono ?_
        rintro e w6 ⟨rfl, k6⟩
        obtain ⟨b4, K4, o4, m4⟩ := HX.out
        have K46 : Keep (fun _ => False) W4 w6 := H45.out.comp k6
        have b6 := b4.keep K46 (by simp)
        have c60 : w6.cell? ⟨w.heap.size + 2, 0, none⟩ = some (.slice a (cntF R j) c) := by rw [b6.cell]; rfl
        have bm6 := BMK.out.keep k6 (by simp)
        obtain ⟨q0, q1, q2⟩ := mark_cells bm6
        have hkn0 : cntF R j + 1 ≤ 1000000 := by omega
        have hkn := Lib.hid hkn0
        clear hkn0
        have hW1w6 : W1.heap.size ≤ w6.heap.size := (K4.trans K46 (fun k e => by cases e)).size
        have kA := (Keep.refl (fun _ => False) w6).alloc (.cells #[.int .i64 atI, .int .i64 mk, .int .i64 ml, .int .i64 ms, .int .i64 (mm : Nat)] 52)
        have HOA := Lib.hid ((o4.keep K46).keep kA)
        have HPA6 : Hid (Blk (w6.alloc (.cells #[.int .i64 atI, .int .i64 mk, .int .i64 ml, .int .i64 ms, .int .i64 (mm : Nat)] 52)) w6.heap.size 52 (FoundE.arr ⟨atI, mk, ml, ms, (mm : Nat)⟩)) := Lib.hid (Blk.new w6 _ _)
        have HN6 : W1.heap.size ≤ (w6.alloc (.cells #[.int .i64 atI, .int .i64 mk, .int .i64 ml, .int .i64 ms, .int .i64 (mm : Nat)] 52)).heap.size := by simp; omega
        have HN6 := Lib.hid HN6
        have HB6 := Lib.hid b6
        have HK6 := Lib.hid K46
        generalize hcn : cntF R j = cn at *
        have HCN := Lib.hid hcn
        clear hcn b4 K4 o4 m4 b6 K46 kA
        go_wp2_with (at_builtin; refine wpList_append_fd rfl (.tmp 67) (.tmp 72) rfl W1.heap.size a cn c _ rfl HOA.out w6.heap.size ⟨atI, mk, ml, ms, (mm : Nat)⟩ rfl HPA6.out hkn.out HN6.out ?_)
        intro a' c' w7 o7 gr7
        obtain ⟨b4, K4, o4, m4⟩ := HX.out
        have hwsz := HWS.out
        have hgl := BG.out.lt
        have ko : ∀ t, (Value.slice a cn c).ownBlock = some t → W1.heap.size ≤ t ∧ t < W4.heap.size ∧ (∃ cs, Blk W4 t 52 cs) := fun t ht => by
          obtain ⟨h1, cs, h2⟩ := o4.block ht
          exact ⟨h1, h2.lt, cs, h2⟩
        have kA := (Keep.refl (fun _ => False) w6).alloc (.cells #[.int .i64 atI, .int .i64 mk, .int .i64 ml, .int .i64 ms, .int .i64 (mm : Nat)] 52)
        have k7 : Keep (fun k => (Value.slice a cn c).ownBlock = some k) _ w7 := (Keep.refl _ _).grown gr7 (fun k e => .inl e)
        have b7 := ((HB6.out.keep kA (by simp)).keep k7 (fun e => by have := (ko _ e).1; omega))
        have c70 : w7.cell? ⟨w.heap.size + 2, 0, none⟩ = some (.slice a cn c) := by rw [b7.cell]; rfl
        have z70 := b7.frozen 0
        have k47 : Keep (fun k => (Value.slice a cn c).ownBlock = some k) W4 w7 := ((HK6.out.comp kA).more (fun k e => by cases e) : Keep (fun k => (Value.slice a cn c).ownBlock = some k) W4 _).trans k7 (fun k e => .inl e)
        have k78 : Keep (· = w.heap.size + 2) w7 (w7.setCell ⟨w.heap.size + 2, 0, none⟩ (.slice a' (cn + 1) c')) := (Keep.refl (· = w.heap.size + 2) w7).setCell (p := ⟨w.heap.size + 2, 0, none⟩) (.inl rfl) _
        have hsgo : ¬ Own num C (w.heap.size + 2) := fun e => by have := HLO.out _ e; omega
        have hE := show ScanAt W1 num C R (fun j => (i * C.P + j : Nat)) (w.heap.size + 2) (.int .i64 (j + 1 : Nat)) (w7.setCell ⟨w.heap.size + 2, 0, none⟩ (.slice a' (cn + 1) c')) from by
          obtain ⟨e1, e2, e3, e4⟩ := HEQ.out
          refine ⟨j + 1, a', c', by omega, rfl, ?_, ?_, (m4.keep k47 (fun r hr e => by have := (ko _ e).1; have := HLO.out _ ⟨r, hr, rfl⟩; omega)).keep k78 (fun r hr e => hsgo ⟨r, hr, e⟩), (K4.trans k47 (fun k e => .inr (ko _ e).1)).trans k78 (fun k e => .inl (.inr e))⟩
          · rw [e1, e2, e3]
            exact b7.put 0 _
          · rw [e3, e4, ← HO2F.out]
            exact o7.far b7 0 _ (by decide)
        have HE := Lib.hid hE
        clear b4 K4 o4 m4 b7 k47 k78 hsgo hE k7 kA ko o7 gr7 hwsz
        go_wp2_with fail
        rw [show (j : Int) + 1 = ((j + 1 : Nat) : Int) by omega]
        exact ⟨HE.out, by simp [intOf]; omega⟩
    · obtain rfl : j = C.P := by omega
      have hjp' : ¬ (C.P : Int) < (C.P : Int) := by omega
      have hwsz := HWS.out
      have hgl := BG.out.lt
      have bR := BR.out.keep hk (fun e => e.elim (fun e => by have := HLO.out _ e; omega) (by omega))
      obtain ⟨x0, x1, x2⟩ := sight_cells hb
      obtain ⟨⟨⟨p0, f0⟩, ⟨p1, f1⟩, p2, f2⟩, bF⟩ := sight_put bR (.slice a (cntF R C.P) c) (.int .i64 (usedR R C.P : Nat)) (.int .i64 (tornR R C.P : Nat))
      have kS : Keep (· = w.heap.size + 1) wr (((wr.setCell ⟨w.heap.size + 1, 0, none⟩ (.slice a (cntF R C.P) c)).setCell ⟨w.heap.size + 1, 1, none⟩ (.int .i64 (usedR R C.P : Nat))).setCell ⟨w.heap.size + 1, 2, none⟩ (.int .i64 (tornR R C.P : Nat))) :=
        (((Keep.refl (· = w.heap.size + 1) wr).setCell (p := ⟨w.heap.size + 1, 0, none⟩) (.inl rfl) _).setCell (p := ⟨w.heap.size + 1, 1, none⟩) (.inl rfl) _).setCell (p := ⟨w.heap.size + 1, 2, none⟩) (.inl rfl) _
      have HO := Lib.hid (ho.keepS kS (fun t ht e => by have := (ho.block ht).1; omega))
      have HMF := Lib.hid (hm.keep kS (fun r hr e => by have := HLO.out _ ⟨r, hr, rfl⟩; omega))
      have HKF := Lib.hid (((HK1.out.more (fun k e => by cases e) : Keep (Own num C) w W1).trans hk (fun k e => e.elim .inl (fun e => .inr (by omega)))).trans kS (fun k e => .inr (by omega)))
      have HBF := Lib.hid bF
      obtain ⟨uu, huu⟩ : ∃ uu, uu = usedR R C.P := ⟨_, rfl⟩
      obtain ⟨tt, htt⟩ : ∃ tt, tt = tornR R C.P := ⟨_, rfl⟩
      rw [← huu, ← htt] at HBF
      rw [← huu] at x1 p2 f2
      rw [← htt] at x2
      have HUT := Lib.hid (And.intro huu htt)
      clear hb ho hm hk kS bF bR huu htt
      go_wp2_with fail
      refine bodyPost_ret (results_cell_row2 rfl _ _ (w.heap.size + 1) 44 _ (0, 0) _ rfl HBF.out Tryz.underlying44 rfl (by kernel_rfl)) rfl ?_
      exact ⟨a, c, by rw [HUT.out.1, HUT.out.2]; rfl, by first | exact HO.out.more hzw | (rw [HUT.out.1, HUT.out.2]; exact HO.out.more hzw), by first | exact HMF.out | (rw [HUT.out.1, HUT.out.2]; exact HMF.out), by first | exact HKF.out | (rw [HUT.out.1, HUT.out.2]; exact HKF.out)⟩
end Go.Proofs.YtdlmjjlejkkniaaGreat

namespace Go.Proofs.YtdlmjjlejkkniaaGreat
open Go.RowKit

theorem torn_bad4 {W K : Nat} {D : Nat → Nat} {kk : Nat} (hW : 0 < W) (hk : 0 < kk) (h8 : 8 < mostJ (tnB kk) W (W * (K + 16))) {w' : World} {N : Nat} {e : Ending}
    (h : ReadR w' N (tnX (pageS W K D) kk) (tnY (pageS W K D) kk) W K e) : e = noE 4 := by
  rw [mostJ_eq hW] at h8
  obtain ⟨r, hr, h9⟩ := mostN_ex h8
  refine h.torn (tn_some hk (Nat.mul_pos hW (by omega))) hr (zeros_bad ?_)
  rw [Nat.mul_comm W, ← zerosN_row hr (K + 16)] at h9
  have e : zerosN (fun i => onB (tnX (pageS W K D) kk (r + i * W)) (tnY (pageS W K D) kk (r + i * W))) (K + 16) = zerosN (fun t => tnB kk (r + t * W)) (K + 16) := by
    congr 1
    funext t
    unfold tnB tnX tnY
    by_cases h : r + t * W < kk
    · rw [if_pos h, if_pos h, onB_sym, decide_eq_false (by omega)]
    · rw [if_neg h, if_neg h, decide_eq_true (by omega)]
      rfl
  rw [e]
  exact h9
/-- What a page of which the first kk cells were programmed is read as. -/
def progO (W K k l s kk : Nat) : RdO := if kk = 0 then .blank else if mostJ (tnB kk) W (W * (K + 16)) ≤ 8 then .found k l s (mostJ (tnB kk) W (W * (K + 16))) else .torn
theorem reads_prog {W K k l s : Nat} {d : Nat → Nat} {kk : Nat} (hm : MarkOk k l s) (hd : ∀ i, i < szB W K → d i < 256) (hW : 0 < W) (hK : K ≤ 64) (hwk : 8 < W * K) :
    Reads (tnX (pageS W K (pgD k l s d (szB W K))) kk) (tnY (pageS W K (pgD k l s d (szB W K))) kk) W K (progO W K k l s kk) := by
  unfold progO
  by_cases h0 : kk = 0
  · rw [if_pos h0, h0]
    exact tn_none
  · rw [if_neg h0]
    have hk : 0 < kk := by omega
    have hany := tn_some (S := pageS W K (pgD k l s d (szB W K))) hk (Nat.mul_pos hW (show 0 < K + 16 by omega))
    by_cases h8 : mostJ (tnB kk) W (W * (K + 16)) ≤ 8
    · rw [if_pos h8]
      refine ⟨hany, fun w' N e h => ?_⟩
      obtain ⟨a', c', he, _⟩ := torn_says hm hd hW hK hwk h8 w' N e h
      exact ⟨a', _, c', he⟩
    · rw [if_neg h8]
      refine ⟨hany, fun w' N e h => ?_⟩
      exact ⟨4, by decide, torn_bad4 hW hk (by omega) h⟩
theorem prog_pts (s : Nat → Nat) (keep : Int) (n : Nat) : (PgS.prog s keep n).x = tnX s (keepN keep n) ∧ (PgS.prog s keep n).y = tnY s (keepN keep n) := ⟨rfl, rfl⟩
theorem blank_reads (W K : Nat) : Reads PgS.blank.x PgS.blank.y W K .blank := anyB_false fun _ _ => rfl

/-- The greatest Seq. -/
def grS (f : Nat → FoundE) : Nat → Int
  | 0 => -1
  | j + 1 => if j = 0 ∨ grS f j < (f j).s then (f j).s else grS f j
set_option maxRecDepth 100000 in
set_option maxHeartbeats 1000000 in
theorem greatest_any (a : Option Addr) (n c : Nat) (f : Nat → FoundE) (w : World) (ha : ArgF w a n f) (hn : n ≤ 1000000) :
    Calls Tryz.prog 21 #[.slice a n c] w fun e w' => e = .returned (.int .i64 (grS f n)) ∧ Keep (fun _ => False) w w' := by
  have HA := Lib.hid ha
  have HN := Lib.hid hn
  have hn63 : n < 9223372036854775807 := by omega
  have H63 := Lib.hid hn63
  clear ha hn hn63
  go_enter Tryz.func21, Tryz.ntmps21
  go_wp2_with fail
  go_loopw [3, 8] (fun v i wr => ∃ j : Nat, j ≤ n ∧ i = .int .i64 j ∧ v = .int .i64 (grS f j) ∧ Keep (fun _ => False) w wr) (fun _ i _ => n - (intOf i).toNat)
  case atStart => exact ⟨0, Nat.zero_le _, rfl, rfl, Keep.refl _ _⟩
  case round =>
    obtain ⟨j, hj, rfl, rfl, hk⟩ := hrel
    by_cases hjn : j < n
    · have hjn' : (j : Int) < (n : Int) := by omega
      obtain ⟨b, off, rfl, hb, hc⟩ := (HA.out.keep hk).at_ (by omega)
      obtain ⟨g0, g1, g2, g3, g4⟩ := fdG_at f j
      have c0 := (hc (j * 5) (by omega)).trans (congrArg some g0)
      have c1 := (hc (j * 5 + 1) (by omega)).trans (congrArg some g1)
      have c2 := (hc (j * 5 + 2) (by omega)).trans (congrArg some g2)
      have c3 := (hc (j * 5 + 3) (by omega)).trans (congrArg some g3)
      have c4 := (hc (j * 5 + 4) (by omega)).trans (congrArg some g4)
      have hgr : grS f (j + 1) = if j = 0 ∨ grS f j < (f j).s then (f j).s else grS f j := rfl
      have HGR := Lib.hid hgr
      have K2 := Lib.hid hk
      have hH := H63.out
      generalize grS f j = G at *
      generalize (f j).s = S at *
      clear hc hgr hk g0 g1 g2 g3 g4
      simp only [← Nat.add_assoc] at c1 c2 c3 c4
      go_wp2_with fail
      · exact ⟨⟨1, by omega, by rename_i h; rw [h] at *; rfl, by rename_i h; subst h; rw [HGR.out, if_pos (.inl rfl)], K2.out.alloc _⟩, by rename_i h; subst h; simp [intOf]; omega⟩
      · exact ⟨⟨j + 1, by omega, by go_num, by rename_i h1 h2; rw [HGR.out, if_pos (h2.imp (fun e => absurd (by simpa using e) h1) id)], K2.out.alloc _⟩, by simp [intOf]; omega⟩
      · exact ⟨⟨j + 1, by omega, by go_num, by rename_i h1 h2; rw [HGR.out, if_neg (fun e => e.elim h1 (by have := h2.2; omega))], K2.out.alloc _⟩, by simp [intOf]; omega⟩
    · obtain rfl : j = n := by omega
      have hjn' : ¬ (j : Int) < (j : Int) := by omega
      go_wp2_with fail
      go_ret
      exact ⟨rfl, hk⟩
end Go.Proofs.YtdlmjjlejkkniaaGreat

namespace Go.Proofs.YtdlmjjlejkkniaaGreat
open Go.RowKit

theorem Tab.keepS {S : Nat → Prop} {w w' : World} {g1 g2 : Nat} (h : Tab w g1 g2) (hk : Keep S w w') (h1 : ¬ S g1) (h2 : ¬ S g2) : Tab w' g1 g2 := ⟨h.e.keep hk h1, h.l.keep hk h2⟩
theorem Own.lt {num : CR → Nat} {C : ChipS} {w : World} (hm : ChipM num w C) {k : Nat} (h : Own num C k) : k < w.heap.size := by
  obtain ⟨r, hr, rfl⟩ := h
  exact hm.lt r hr
theorem tab_apart {num : CR → Nat} {C : ChipS} {w0 w : World} {g1 g2 : Nat} (hm : ChipM num w0 C) (T : Tab w g1 g2) (h1 : w0.heap.size ≤ g1) (h2 : w0.heap.size ≤ g2) : ∀ w', Keep (Own num C) w w' → HasT w' (tabV g1 g2) :=
  fun _ hk => (T.keepS hk (fun e => by have := e.lt hm; omega) (fun e => by have := e.lt hm; omega)).has
/-- What is made since, keeps what was there: the chip made is new. -/
theorem Keep.drop {S : Nat → Prop} {w w1 w2 : World} (h1 : Keep (fun _ => False) w w1) (h2 : Keep S w1 w2) (hS : ∀ k, S k → w.heap.size ≤ k) : Keep (fun _ => False) w w2 :=
  h1.trans h2 (fun k e => .inr (hS k e))
set_option maxRecDepth 100000 in
theorem mostJ_28 : mostJ (tnB 28) 1 28 = 0 := by decide
theorem progO_28 (k l s : Nat) : progO 1 12 k l s 28 = .found k l s 0 := by
  unfold progO
  rw [if_neg (by decide), show 1 * (12 + 16) = 28 from rfl, mostJ_28, if_pos (Nat.zero_le _)]
theorem mark_135 : MarkOk 1 3 5 := ⟨by omega, by omega, by omega, by omega⟩
/-- The block that was made: two pages, the first says something. -/
def awR : Nat → RdO := fun j => if j = 0 then .found 1 3 5 0 else .blank
def awPg : Nat → Nat := pageS 1 12 (pgD 1 3 5 (fun _ => 0) (szB 1 12))
theorem awPg_lt {i : Nat} (hi : i < 28) : awPg i < 1024 := pageS_lt (pgD_lt mark_135 _ _) (by omega) hi
def awC : ChipS := ChipS.new 4 2 1 12 (fun _ => false) (fun _ => none)
def awC2 : ChipS := awC.tick.setPg 1 0 (PgS.prog awPg 28 28)
theorem awC_geo : awC2.B = 4 ∧ awC2.P = 2 ∧ awC2.W = 1 ∧ awC2.K = 12 ∧ awC2.n = 28 ∧ awC2.ops = 1 ∧ awC2.dark = false := ⟨rfl, rfl, rfl, rfl, rfl, rfl, rfl⟩
theorem awC_pg0 : awC2.pg 1 0 = PgS.prog awPg 28 28 := by
  unfold awC2
  generalize PgS.prog awPg 28 28 = Q
  rfl
theorem awC_pg1 : awC2.pg 1 1 = PgS.blank := by
  unfold awC2
  generalize PgS.prog awPg 28 28 = Q
  rfl
theorem awC_reads : ∀ j, j < awC2.P → Reads (awC2.pg 1 j).x (awC2.pg 1 j).y awC2.W awC2.K (awR j) := by
  intro j hj
  match j, hj with
  | 0, _ =>
    have := reads_prog (W := 1) (K := 12) (d := fun _ => 0) (kk := 28) mark_135 (fun _ _ => by omega) (by omega) (by omega) (by omega)
    rw [progO_28] at this
    rw [awC_pg0, (prog_pts awPg 28 28).1, (prog_pts awPg 28 28).2, show keepN 28 28 = 28 from rfl]
    exact this
  | 1, _ =>
    rw [awC_pg1]
    exact blank_reads 1 12
  | (j + 2), hj => exact absurd hj (by show ¬ j + 2 < 2; omega)
theorem awC_pm : ∀ j, j < awC2.P → ∀ q, q < awC2.n → Pm ((awC2.pg 1 j).x q) ∧ Pm ((awC2.pg 1 j).y q) := by
  intro j hj q _
  match j, hj with
  | 0, _ =>
    rw [awC_pg0, (prog_pts awPg 28 28).1, (prog_pts awPg 28 28).2]
    exact tn_pm awPg _ q
  | 1, _ =>
    rw [awC_pg1]
    exact ⟨(by unfold Pm; decide : Pm 0), (by unfold Pm; decide : Pm 0)⟩
  | (j + 2), hj => exact absurd hj (by show ¬ j + 2 < 2; omega)
theorem awC_ans : cntF awR 2 = 1 ∧ usedR awR 2 = 1 ∧ tornR awR 2 = 0 ∧ foundR awR (fun j => (1 * 2 + j : Nat)) 2 0 = ⟨2, 1, 3, 5, 0⟩ := by
  refine ⟨by decide, by decide, by decide, by decide⟩
theorem awC_scan {w w' : World} {num : CR → Nat} {e : Ending} (h : ScanR w w' num awC2 awR (fun j => (1 * awC2.P + j : Nat)) e) :
    ∃ a c, e = .returned (.tuple #[.agg #[.slice a 1 c, .int .i64 1, .int .i64 0], .int .i64 0]) ∧ OwnF w' w.heap.size a 1 c (fun _ => ⟨2, 1, 3, 5, 0⟩) ∧ Keep (Own num awC2) w w' := by
  obtain ⟨a, c, he, ho, _, hk⟩ := h
  obtain ⟨h1, h2, h3, h4⟩ := awC_ans
  have hP : awC2.P = 2 := rfl
  rw [hP] at he ho
  rw [h1, h2, h3] at he
  rw [h1] at ho
  exact ⟨a, c, he, ho.congr (fun q hq => by unfold fdG; rw [show q / 5 = 0 by omega, h4]), hk⟩
set_option maxHeartbeats 4000000 in
set_option maxRecDepth 100000 in
theorem awake18_true (w : World) :
    Calls Tryz.prog 8 #[] w fun e w' => e = .returned (.bool true) ∧ Keep (fun _ => False) w w' := by
  have k0 := (Keep.refl (fun _ => False) w).alloc (.cells #[.int .i64 4, .int .i64 2, .int .i64 1, .int .i64 12] 23)
  have b0 := Blk.new w 23 #[.int .i64 4, .int .i64 2, .int .i64 1, .int .i64 12]
  have hb5 := make_vals (P := Tryz.prog) Tryz.underlying24 Tryz.info_u8 rfl 5 5 rfl (by omega) (by omega)
  have hmk := fun w => (chipnew_yes 4 2 1 12 none 0 0 (fun _ => 0) none 0 0 (fun _ => 0) (fun _ => 0) (fun _ => 0) w geo_12 (by omega) (ArgV.nil _ _) (fun i hi => by omega) (ArgFates.nil _ _ _ _) (by omega) (fun i hi => by omega) rfl)
  go_enter Tryz.func8, Tryz.ntmps8
  go_wp2_with fail
  refine (hmk _).mono ?_
  rintro e w1 ⟨num, rfl, hm, k1, hlo⟩
  clear hmk
  have hm1 : ChipM num w1 awC := hm
  have hlo1 : ∀ r : CR, r.used awC → w.heap.size < num r := fun r hr => by have := hlo r hr; simp at this; omega
  have K1 := k0.comp k1
  have B1 := b0.keep k1 (by simp)
  clear hm hlo k0 k1 b0
  go_upto_region 5 with (fail)
  go_cut [4] (fun v wc => ∃ (aS : Option Addr) (cS : Nat), v = .slice aS 28 cS ∧ Hid (OwnU wc w1.heap.size aS 28 cS awPg) ∧ Keep (fun _ => False) w1 wc)
  case first =>
    have kd := (Keep.refl (fun _ => False) w1).drew
    have kz := kd.alloc (.cells (valsArr (fun _ => Value.int .u8 0) 5) 5)
    have bz : Blk (w1.drew.alloc (.cells (valsArr (fun _ => Value.int .u8 0) 5) 5)) w1.heap.size 5 (valsArr (fun _ => Value.int .u8 0) 5) := Blk.new w1.drew _ _
    have hB := (RowV.of_blk bz).arg (by omega)
    obtain ⟨q0, q1, q2, q3⟩ := geo_cells' (B1.keep kd (by simp))
    clear hm1 hlo1 K1
    go_region_held3 (fun w' => w'.cell? ⟨w.heap.size, 0, none⟩ = some (.int .i64 4) ∧ w'.cell? ⟨w.heap.size, 1, none⟩ = some (.int .i64 2) ∧ w'.cell? ⟨w.heap.size, 2, none⟩ = some (.int .i64 1) ∧ w'.cell? ⟨w.heap.size, 3, none⟩ = some (.int .i64 12))
      (first | with_reducible exact ⟨q0, q1, q2, q3⟩ | exact geo_cells' (B1.keep kz (by simp)) | exact geo_cells' (B1.keep K5 (by simp)))
      (first
        | (go_at_call 12
           refine (rmake_yes 4 2 1 12 1 3 5 _ 5 (fun _ => 0) _ geo_12 mark_135 hB (fun i _ => by omega)).mono ?_
           rintro e w5 ⟨aS, cS, rfl, oS, k5⟩
           have K5 : Keep (fun _ => False) w1 w5 := kz.comp k5
           have k5z := kz.size))
    all_goals
      go_wp2_with fail
      go_meet
      exact ⟨aS, cS, rfl, Lib.hid (oS.more k5z), K5⟩
  case rest =>
    obtain ⟨aS, cS, rfl, oS, k2⟩ := hcut
    have oS := oS.out
    obtain ⟨gS, rfl, hgS, _, _⟩ := oS.row (by omega)
    have hoa : ¬ Own num awC gS := fun e => by have := e.lt hm1; omega
    have hpr := program_yes num awC _ (hm1.keepF k2) rfl (by decide) 0 0 0 rfl (by decide) 1 0 ⟨gS, 0, none⟩ cS awPg ⟨by decide, by decide, fun t ht => awPg_lt ht, rfl, rfl, fun t _ _ => rfl, .inl rfl⟩ (oS.arg (by omega) (fun i hi => by have := awPg_lt hi; omega)) hoa
    have HPR := Lib.hid hpr
    clear hpr oS
    go_wp2_with fail
    refine HPR.out.mono ?_
    rintro e w3 ⟨e2, num2, C2, ⟨rfl, rfl⟩, rfl, hm2, hn2, k3, ho2⟩
    have hm3 : ChipM num2 w3 awC2 := hm2
    have hlo2 : ∀ k, Own num2 awC2 k → w.heap.size ≤ k := fun k ⟨r, hr, e⟩ => by
      rcases ho2 r hr with ⟨r', hr', e'⟩ | h
      · have := hlo1 r' hr'
        omega
      · have := K1.size
        have := k2.size
        omega
    have K3 : Keep (fun _ => False) w w3 := (K1.comp k2).drop k3 (fun k ⟨r, hr, e⟩ => by have := hlo1 r hr; omega)
    clear hm2 ho2 k3 HPR hm1 hlo1 hoa k2 B1 hgS K1
    rw [show opE 0 0 = 0 from rfl]
    go_wp2_with fail
    refine (make_any _).mono ?_
    rintro e w4 ⟨t1, t2, rfl, T, ht1, ht2, k4⟩
    have hbl := block_any _ num2 awC2 w4 (hm3.keepF k4) T.has (tab_apart hm3 T ht1 ht2) rfl (by decide) (fun _ _ => rfl) 1 (by decide) awR awC_reads awC_pm
    have HBL := Lib.hid hbl
    clear hbl T ht1 ht2
    rw [hn2] at HBL
    unfold tabV at HBL ⊢
    go_wp2_with fail
    refine HBL.out.mono ?_
    rintro e w5 hsc
    obtain ⟨aF, cF, rfl, oF, k5⟩ := awC_scan hsc
    obtain ⟨gF, rfl, hgF, _, rF⟩ := oF.row (by omega)
    have k6 := ((K3.comp k4).drop k5 hlo2).alloc (.cells #[.slice (some ⟨gF, 0, none⟩) 1 cF, .int .i64 1, .int .i64 0] 44)
    have b6 := Blk.new w5 44 #[.slice (some ⟨gF, 0, none⟩) 1 cF, .int .i64 1, .int .i64 0]
    have r6 := rF.keep ((Keep.refl (fun _ => False) w5).alloc (.cells #[.slice (some ⟨gF, 0, none⟩) 1 cF, .int .i64 1, .int .i64 0] 44)) (by simp)
    have HGR := Lib.hid (fun w' => greatest_any (some ⟨gF, 0, none⟩) 1 cF (fun _ => ⟨2, 1, 3, 5, 0⟩) w')
    have HRA := Lib.hid r6.arg
    obtain ⟨f0, f1, f2, f3, f4⟩ := fdG_at (fun _ => ⟨2, 1, 3, 5, 0⟩) 0
    have c0 := (r6.val (show 0 < 1 * 5 by omega)).trans (congrArg some f0)
    have c1 := (r6.val (show 1 < 1 * 5 by omega)).trans (congrArg some f1)
    have c2 := (r6.val (show 2 < 1 * 5 by omega)).trans (congrArg some f2)
    have c3 := (r6.val (show 3 < 1 * 5 by omega)).trans (congrArg some f3)
    have c4 := (r6.val (show 4 < 1 * 5 by omega)).trans (congrArg some f4)
    obtain ⟨s0, s1, s2⟩ := sight_cells b6
    clear hsc HBL oF k5 rF r6 f0 f1 f2 f3 f4 b6 K3 k4 hm3 hlo2 hgF
    go_wp2_with fail
    clear c0 c1 c2 c3 c4 s0 s1 s2
    refine (HGR.out _ HRA.out (by omega)).mono ?_
    rintro e w7 ⟨rfl, k7⟩
    rw [show grS (fun _ => (⟨2, 1, 3, 5, 0⟩ : FoundE)) 1 = 5 from by decide]
    go_wp2_with fail
    go_ret
    exact ⟨rfl, k6.comp k7⟩
end Go.Proofs.YtdlmjjlejkkniaaGreat
