/- Rows of 16-bit numbers of the call's own, with room behind them; slices.Clone, slices.Reverse, code.turned. -/
import Derived.Test.YtnejnoiogojplaaAdd
import Derived.Test.YtnejnoiogojplaaKeptTail
import Derived.Lib.SliceRun
namespace Go.Proofs.Ytnejnoiogojplaa
open Go.RowKit

/-- Block g has c cells; the first n say f. -/
def RowU (w : World) (g c n : Nat) (f : Nat → Nat) : Prop := ∃ cs, Blk w g 23 cs ∧ cs.size = c ∧ n ≤ c ∧ ∀ i, i < n → cs[i]? = some (.int .u16 (f i : Nat))
/-- A slice made since block N: nil, or the head of a row of its own. -/
def OwnU (w : World) (N : Nat) (a : Option Addr) (n c : Nat) (f : Nat → Nat) : Prop := w.ownsRow N 23 1 (.slice a n c) n (uList f n)

section
variable {w w' : World} {g c n : Nat} {f : Nat → Nat} {N : Nat} {a : Option Addr}
theorem RowU.lt (h : RowU w g c n f) : g < w.heap.size := by
  obtain ⟨cs, hb, _⟩ := h
  exact hb.lt
theorem RowU.room (h : RowU w g c n f) : n ≤ c := by
  obtain ⟨cs, _, _, hn, _⟩ := h
  exact hn
theorem RowU.val (h : RowU w g c n f) {i : Nat} (hi : i < n) : w.cell? ⟨g, i, none⟩ = some (.int .u16 (f i : Nat)) := by
  obtain ⟨cs, hb, _, _, hc⟩ := h
  rw [hb.cell, hc i hi]
theorem RowU.frozen (h : RowU w g c n f) (i : Nat) : w.frozen? ⟨g, i, none⟩ = false := by
  obtain ⟨cs, hb, _⟩ := h
  exact hb.frozen i
theorem RowU.store (h : RowU w g c n f) (i v : Nat) {f' : Nat → Nat} (e : ∀ k, k < n → f' k = if k = i then v else f k) : RowU (w.setCell ⟨g, i, none⟩ (.int .u16 v)) g c n f' := by
  obtain ⟨cs, hb, hs, hn, hc⟩ := h
  refine ⟨_, hb.put i _, by simpa using hs, hn, fun k hk => ?_⟩
  rw [Array.getElem?_setIfInBounds, e k hk]
  by_cases h : i = k
  · subst h
    rw [if_pos rfl, if_pos (by omega), if_pos rfl]
  · rw [if_neg h, if_neg (fun e => h e.symm), hc k hk]
theorem RowU.far (h : RowU w g c n f) {p : Addr} (hp : g ≠ p.block) (u : Value) : RowU (w.setCell p u) g c n f := by
  obtain ⟨cs, hb, hr⟩ := h
  exact ⟨cs, hb.far hp u, hr⟩
theorem RowU.keep {S : Nat → Prop} (h : RowU w g c n f) (hk : Keep S w w') (hg : ¬ S g) : RowU w' g c n f := by
  obtain ⟨cs, hb, hr⟩ := h
  exact ⟨cs, hb.keep hk hg, hr⟩
theorem RowU.drewN (h : RowU w g c n f) (k : Nat) : RowU (w.drewN k) g c n f := h
theorem RowU.congr {f' : Nat → Nat} (h : RowU w g c n f) (e : ∀ i, i < n → f i = f' i) : RowU w g c n f' := by
  obtain ⟨cs, hb, hs, hn, hc⟩ := h
  exact ⟨cs, hb, hs, hn, fun i hi => by rw [← e i hi]; exact hc i hi⟩
theorem RowU.take {m : Nat} (h : RowU w g c n f) (hm : m ≤ n) : RowU w g c m f := by
  obtain ⟨cs, hb, hs, hn, hc⟩ := h
  exact ⟨cs, hb, hs, by omega, fun i hi => hc i (by omega)⟩
theorem RowU.argU (h : RowU w g c n f) (hn : n ≤ 140737488355328) (hf : ∀ i, i < n → f i < 65536) : ArgU w (some ⟨g, 0, none⟩) n f :=
  ⟨hn, fun _ => ⟨g, 0, rfl, h.lt, fun i hi => by rw [Nat.zero_add]; exact h.val hi⟩, hf⟩
theorem RowU.of_blk (h : Blk w g 23 (uArr f n)) : RowU w g n n f := ⟨_, h, valsArr_size _ _, Nat.le_refl _, fun _ hi => valsArr_get _ _ _ hi⟩
theorem RowU.blk (h : RowU w g n n f) : Blk w g 23 (uArr f n) := by
  obtain ⟨cs, hb, hs, _, hc⟩ := h
  have e : cs = uArr f n := Array.ext_getElem? fun i => by
    rw [uArr_get]
    by_cases hi : i < n
    · rw [hc i hi, if_pos hi]
    · rw [if_neg hi, Array.getElem?_eq_none (by omega)]
  rwa [← e]
theorem OwnU.of_row (h : RowU w g c n f) (hN : N ≤ g) (hc : c ≤ maxLen) : OwnU w N (some ⟨g, 0, none⟩) n c f := by
  obtain ⟨cs, hb, hs, hn, hv⟩ := h
  refine ⟨by simp [uList], .inr ⟨g, c, cs, rfl, hN, hb, hn, hc, by omega, ?_⟩⟩
  apply List.ext_getElem?
  intro i
  rw [List.getElem?_take, uList_get, Nat.mul_one]
  by_cases hi : i < n
  · rw [if_pos hi, if_pos hi, Array.getElem?_toList, hv i hi]
  · rw [if_neg hi, if_neg hi]
theorem OwnU.row (h : OwnU w N a n c f) (h0 : 0 < n) : ∃ g, a = some ⟨g, 0, none⟩ ∧ N ≤ g ∧ c ≤ maxLen ∧ RowU w g c n f := by
  rcases h.2 with ⟨_, e⟩ | ⟨g, cap, cs, e, hN, hb, hn, hm, hs, ht⟩
  · omega
  · injection e with e1 e2 e3
    subst e3
    refine ⟨g, e1, hN, hm, cs, hb, by omega, hn, fun i hi => ?_⟩
    have e4 := congrArg (fun l => l[i]?) ht
    simp only [List.getElem?_take, uList_get] at e4
    rw [if_pos (by omega), if_pos hi, Array.getElem?_toList] at e4
    exact e4
theorem OwnU.le (h : OwnU w N a n c f) : n ≤ c ∧ c ≤ maxLen := by
  rcases h.2 with ⟨e, e0⟩ | ⟨g, cap, cs, e, hN, hb, hn, hm, hs, ht⟩
  · injection e with e1 e2 e3
    unfold maxLen
    omega
  · injection e with e1 e2 e3
    omega
theorem OwnU.arg (h : OwnU w N a n c f) (hn : n ≤ 140737488355328) (hf : ∀ i, i < n → f i < 65536) : ArgU w a n f := by
  rcases Nat.eq_zero_or_pos n with h0 | h0
  · exact ⟨hn, fun h => by omega, hf⟩
  · obtain ⟨g, rfl, _, _, hr⟩ := h.row h0
    exact hr.argU hn hf
theorem OwnU.keep (h : OwnU w N a n c f) (hk : Keep (fun _ => False) w w') : OwnU w' N a n c f := by
  refine ⟨h.1, ?_⟩
  rcases h.2 with e | ⟨g, cap, cs, e, hN, hb, hr⟩
  · exact .inl e
  · exact .inr ⟨g, cap, cs, e, hN, (hk.block g (Blk.lt (t := 23) (cs := cs) hb) (by simp)).trans hb, hr⟩
theorem OwnU.far (h : OwnU w N a n c f) {p : Addr} (hp : p.block < N) (u : Value) : OwnU (w.setCell p u) N a n c f := by
  refine ⟨h.1, ?_⟩
  rcases h.2 with e | ⟨g, cap, cs, e, hN, hb, hr⟩
  · exact .inl e
  · exact .inr ⟨g, cap, cs, e, hN, Blk.far (t := 23) (cs := cs) hb (by omega) u, hr⟩
theorem OwnU.congr {f' : Nat → Nat} (h : OwnU w N a n c f) (e : ∀ i, i < n → f i = f' i) : OwnU w N a n c f' := by
  have : uList f n = uList f' n := List.ext_getElem? fun i => by
    rw [uList_get, uList_get]
    by_cases hi : i < n
    · rw [if_pos hi, if_pos hi, e i hi]
    · rw [if_neg hi, if_neg hi]
  unfold OwnU at h ⊢
  rwa [this] at h
theorem OwnU.more {M : Nat} (h : OwnU w N a n c f) (hM : M ≤ N) : OwnU w M a n c f := by
  refine ⟨h.1, ?_⟩
  rcases h.2 with e | ⟨g, cap, cs, e, hN, hr⟩
  · exact .inl e
  · exact .inr ⟨g, cap, cs, e, by omega, hr⟩
theorem ResU.own (h : ResU w N a n f) (hn : n ≤ maxLen) : OwnU w N a n n f := by
  rcases h with ⟨rfl, rfl⟩ | ⟨g, rfl, hN, hb⟩
  · exact World.ownsRow_nil w N _ 1
  · exact OwnU.of_row (RowU.of_blk hb) hN hn
end
theorem Try.info_u16' : ∃ i, Try.prog.info? 23 = some i ∧ i.zero = some (.int .u16 0) ∧ i.size = 1 ∧ i.bytes = 2 := by
  have h := Try.info_u16
  cases e : Try.prog.info? 23 with
  | none => rw [e] at h; cases h
  | some i =>
    rw [e] at h
    simp only [Option.map_some, Option.some.injEq, Prod.mk.injEq] at h
    exact ⟨i, rfl, h.1, h.2.1, h.2.2⟩
theorem addr_zero_add (b j : Nat) : (⟨b, 0, none⟩ : Addr).add j = ⟨b, j, none⟩ := by unfold Addr.add; split <;> simp_all
theorem addr_add (b off j : Nat) : (⟨b, off, none⟩ : Addr).add j = ⟨b, off + j, none⟩ := by unfold Addr.add; split <;> simp_all
/-- append of a row that is there onto one of the call's own. -/
theorem wp_append_u {w : World} {o : Oper} {a : Act} {K : Act → World → Prop} {Q : Exit → Act → World → Prop} (s x : Operand)
    (ho : o.op = .call { callee := .builtin .append, args := #[s, x], argTypes := #[22, 22] })
    (N : Nat) (ao : Option Addr) (n co : Nat) (f : Nat → Nat) (hs : a.eval s = .slice ao n co) (hown : OwnU w N ao n co f) (ad : Addr) (m c : Nat) (p : Nat → Nat) (hx : a.eval x = .slice (some ad) m c) (hp : ArgU w (some ad) m p)
    (hnm : n + m ≤ 1000000) (hN : N ≤ w.heap.size)
    (h : ∀ a' c' w', OwnU w' N a' (n + m) c' (fun i => if i < n then f i else p (i - n)) → w.grownBy w' (Value.slice ao n co).ownBlock → K (a.put o.dst (.slice a' (n + m) c')) w') :
    o.wp Try.prog a w K Q := by
  obtain ⟨i, hi, hz, hsz, hby⟩ := Try.info_u16'
  refine wp_append_own w s x 22 ho N 23 i (.int .u16 0) 1 2 Try.underlying22 hi hz hsz hby rfl (by omega) (.slice ao n co) n (uList f n) hs hown ad m c (uList p m) hx (by simp [uList]) ?_ ?_ (by unfold maxLen; omega) (by omega) hN ?_
  · intro j u hj
    rw [uList_get] at hj
    split at hj
    · rename_i hjm
      obtain ⟨b, off, e, _, hc⟩ := hp.at_ (by omega)
      injection e with e
      subst e
      rw [addr_add, hc j hjm]
      exact hj
    · cases hj
  · intro u hu
    simp only [uList, List.mem_map] at hu
    obtain ⟨_, _, rfl⟩ := hu
    rfl
  · intro v' w' h1 h2 _
    have hsl : ∃ a' c', v' = .slice a' (n + m) c' := by
      rcases h1.2 with ⟨e, e0⟩ | ⟨g, cap, cs, e, _⟩
      · exact ⟨none, 0, by rw [e0]; exact e⟩
      · exact ⟨_, _, e⟩
    obtain ⟨a', c', rfl⟩ := hsl
    refine h a' c' w' ?_ h2
    unfold OwnU
    have e : uList (fun i => if i < n then f i else p (i - n)) (n + m) = uList f n ++ uList p m := List.ext_getElem? fun i => by
      have hl : (uList f n).length = n := by simp [uList]
      rw [uList_get]
      by_cases h1 : i < n
      · rw [List.getElem?_append_left (by omega), uList_get, if_pos h1, if_pos (by omega), if_pos h1]
      · rw [List.getElem?_append_right (by omega), hl, uList_get]
        by_cases h2 : i < n + m
        · rw [if_pos h2, if_neg h1, if_pos (by omega)]
        · rw [if_neg h2, if_neg (by omega)]
    rw [e]
    exact h1
theorem wpList_wanted {P : Program} {w : World} {ops : Array Oper} {rest : List Oper} {o : Oper} {a : Act} {Q : Exit → Act → World → Prop} (hw : Region.wanted o (yielded ops a.tmps) = true)
    (h : ∀ K : Act → World → Prop, (∀ a w, wpList P ops Q rest a w → K a w) → o.wp P a w K Q) : wpList P ops Q (o :: rest) a w :=
  wpList_step fun K hK => by simp only [hw, if_true]; exact h K hK
theorem wpList_append_u {w : World} {ops : Array Oper} {rest : List Oper} {o : Oper} {a : Act} {Q : Exit → Act → World → Prop} (hgd : o.guard = none) (s x : Operand)
    (ho : o.op = .call { callee := .builtin .append, args := #[s, x], argTypes := #[22, 22] })
    (N : Nat) (ao : Option Addr) (n co : Nat) (f : Nat → Nat) (hs : a.eval s = .slice ao n co) (hown : OwnU w N ao n co f) (ad : Addr) (m c : Nat) (p : Nat → Nat) (hx : a.eval x = .slice (some ad) m c) (hp : ArgU w (some ad) m p)
    (hnm : n + m ≤ 1000000) (hN : N ≤ w.heap.size)
    (h : ∀ a' c' w', OwnU w' N a' (n + m) c' (fun i => if i < n then f i else p (i - n)) → w.grownBy w' (Value.slice ao n co).ownBlock → wpList Try.prog ops Q rest (a.put o.dst (.slice a' (n + m) c')) w') :
    wpList Try.prog ops Q (o :: rest) a w :=
  wpList_plain hgd fun _ hK => wp_append_u s x ho N ao n co f hs hown ad m c p hx hp hnm hN fun a' c' w' h1 h2 => hK _ _ (h a' c' w' h1 h2)
/-- The same where the operation is guarded, and wanted. -/
theorem wpList_append_ug {w : World} {ops : Array Oper} {rest : List Oper} {o : Oper} {a : Act} {Q : Exit → Act → World → Prop} (hw : Region.wanted o (yielded ops a.tmps) = true) (s x : Operand)
    (ho : o.op = .call { callee := .builtin .append, args := #[s, x], argTypes := #[22, 22] })
    (N : Nat) (ao : Option Addr) (n co : Nat) (f : Nat → Nat) (hs : a.eval s = .slice ao n co) (hown : OwnU w N ao n co f) (ad : Addr) (m c : Nat) (p : Nat → Nat) (hx : a.eval x = .slice (some ad) m c) (hp : ArgU w (some ad) m p)
    (hnm : n + m ≤ 1000000) (hN : N ≤ w.heap.size)
    (h : ∀ a' c' w', OwnU w' N a' (n + m) c' (fun i => if i < n then f i else p (i - n)) → w.grownBy w' (Value.slice ao n co).ownBlock → wpList Try.prog ops Q rest (a.put o.dst (.slice a' (n + m) c')) w') :
    wpList Try.prog ops Q (o :: rest) a w :=
  wpList_wanted hw fun _ hK => wp_append_u s x ho N ao n co f hs hown ad m c p hx hp hnm hN fun a' c' w' h1 h2 => hK _ _ (h a' c' w' h1 h2)

set_option maxHeartbeats 2000000 in
theorem clone_any (a : Option Addr) (n c : Nat) (p : Nat → Nat) (w : World) (ha : ArgU w a n p) (hn : n ≤ 1000000) :
    Calls Try.prog 26 #[.slice a n c] w fun e w' => ∃ a' c', e = .returned (.slice a' n c') ∧ OwnU w' w.heap.size a' n c' p ∧ Keep (fun _ => False) w w' := by
  rcases a with _ | ad
  · have h0 : n = 0 := by
      rcases Nat.eq_zero_or_pos n with h | h
      · exact h
      · obtain ⟨b, off, e, _⟩ := ha.at_ h
        cases e
    subst h0
    have q := fun (w : World) (a : Option Addr) (n c n' c' : Nat) => Lib.run_eql_slice_nil (P := Try.prog) w 22 23 a n c n' c' Try.underlying22
    go_enter Try.func26, Try.ntmps26
    go_wp2_with fail
    go_ret
    exact ⟨none, 0, rfl, World.ownsRow_nil w _ _ 1, Keep.refl _ _⟩
  · have k0 := (Keep.refl (fun _ => False) w).alloc (.cells #[] 23)
    have HA := Lib.hid (ha.keep k0)
    have HO := Lib.hid (show OwnU (w.alloc (.cells #[] 23)) w.heap.size (some ⟨w.heap.size, 0, none⟩) 0 0 p from OwnU.of_row (RowU.of_blk (Blk.new w _ _)) (Nat.le_refl _) (by unfold maxLen; omega))
    have HK := Lib.hid k0
    clear ha k0
    have q := fun (w : World) (a : Option Addr) (n c n' c' : Nat) => Lib.run_eql_slice_nil (P := Try.prog) w 22 23 a n c n' c' Try.underlying22
    go_enter Try.func26, Try.ntmps26
    go_wp2_with (refine wpList_append_u rfl (.tmp 5) (.tmp 6) rfl w.heap.size _ 0 0 p rfl HO.out ad n c p rfl HA.out (by omega) (by simp) ?_)
    intro a' c' w1 hown hgrow
    go_wp2_with fail
    go_ret
    exact ⟨a', c', rfl, hown, HK.out.grown hgrow (fun k hk => .inr (by simp [Value.ownBlock] at hk; omega))⟩

def revMid (p : Nat → Nat) (n i : Nat) : Nat → Nat := fun k => if k < i ∨ n - 1 - i < k then p (n - 1 - k) else p k
theorem revMid_next (p : Nat → Nat) (n i : Nat) (hi : i < n - 1 - i) (k : Nat) (hk : k < n) : revMid p n (i + 1) k = if k = n - 1 - i then revMid p n i i else if k = i then revMid p n i (n - 1 - i) else revMid p n i k := by
  unfold revMid
  by_cases h1 : k = n - 1 - i
  · subst h1
    rw [if_pos rfl, if_pos (by omega), if_neg (by omega), show n - 1 - (n - 1 - i) = i by omega]
  · rw [if_neg h1]
    by_cases h2 : k = i
    · subst h2
      rw [if_pos rfl, if_pos (by omega), if_neg (by omega)]
    · rw [if_neg h2]
      by_cases h3 : k < i ∨ n - 1 - i < k
      · rw [if_pos h3, if_pos (by omega)]
      · rw [if_neg h3, if_neg (by omega)]
theorem revMid_end (p : Nat → Nat) (n i : Nat) (hi : ¬ i < n - 1 - i) (k : Nat) (hk : k < n) : revMid p n i k = p (n - 1 - k) := by
  unfold revMid
  by_cases h3 : k < i ∨ n - 1 - i < k
  · rw [if_pos h3]
  · rw [if_neg h3]
    congr 1
    omega
set_option maxHeartbeats 2000000 in
set_option maxRecDepth 100000 in
theorem rev_any (g n c c' : Nat) (p : Nat → Nat) (w : World) (h0 : 0 < n) (hn : n ≤ 1000000) (h : RowU w g c n p) :
    Calls Try.prog 52 #[.slice (some ⟨g, 0, none⟩) n c'] w fun e w' => e = .returned (.tuple #[]) ∧ RowU w' g c n (fun i => p (n - 1 - i)) ∧ Keep (· = g) w w' := by
  have HR0 := Lib.hid h
  clear h
  go_enter Try.func52, Try.ntmps52
  go_wp2_with fail
  go_loopw [2, 3] (fun v2 v3 wr => ∃ i : Nat, 2 * i ≤ n ∧ v2 = .int .i64 i ∧ v3 = .int .i64 (n - 1 - i : Nat) ∧ RowU wr g c n (revMid p n i) ∧ Keep (· = g) w wr) (fun v2 _ _ => n - (intOf v2).toNat)
  case atStart =>
    refine ⟨0, by omega, rfl, by go_num, HR0.out.congr (fun i hi => ?_), Keep.refl _ _⟩
    unfold revMid
    rw [if_neg (by omega)]
  case round =>
    obtain ⟨i, hi, rfl, rfl, hR, hk⟩ := hrel
    by_cases hij : i < n - 1 - i
    · have c1 := hR.val (show i < n by omega)
      have c2 := hR.val (show n - 1 - i < n by omega)
      have z1 := hR.frozen i
      have z2 := hR.frozen (n - 1 - i)
      have e1 : (i : Int) < ((n - 1 - i : Nat) : Int) := by omega
      have e2 : (i : Int) < (n : Int) := by omega
      have e3 : ((n - 1 - i : Nat) : Int) < (n : Int) := by omega
      have e4 : IntKind.i64.wrap ((i : Int) + 1) = (i : Int) + 1 := wraps_i64 _ (by omega) (by omega)
      have e5 : ({ block := g, off := i } : Addr) ≠ { block := g, off := n - 1 - i } := fun e => by injection e with _ e; omega
      have HN := Lib.hid ((hR.store i (revMid p n i (n - 1 - i)) (fun k _ => rfl)).store (n - 1 - i) (revMid p n i i) (f' := revMid p n (i + 1)) (fun k hk => revMid_next p n i hij k hk))
      have K6 := Lib.hid ((hk.setCell (p := ⟨g, i, none⟩) (.inl rfl) (.int .u16 (revMid p n i (n - 1 - i) : Nat))).setCell (p := ⟨g, n - 1 - i, none⟩) (.inl rfl) (.int .u16 (revMid p n i i : Nat)))
      go_upto_region 3 with fail
      go_region
      all_goals
        go_wp2_with fail
        go_roundw
        case rel => exact ⟨i + 1, by omega, by go_num, by go_num, HN.out.drewN 1, K6.out.drewN 1⟩
        case measure => simp [intOf]; omega
    · have e1 : ¬ (i : Int) < ((n - 1 - i : Nat) : Int) := by omega
      go_wp2_with fail
      go_end0
      exact ⟨rfl, hR.congr (fun k hk => revMid_end p n i hij k hk), hk⟩

set_option maxHeartbeats 1000000 in
theorem rev_none (a : Option Addr) (c : Nat) (w : World) :
    Calls Try.prog 52 #[.slice a 0 c] w fun e w' => e = .returned (.tuple #[]) ∧ Keep (fun _ => False) w w' := by
  go_enter Try.func52, Try.ntmps52
  go_wp2_with fail
  go_loopw [2, 3] (fun v2 v3 wr => v2 = .int .i64 0 ∧ v3 = .int .i64 (-1) ∧ wr = w) (fun _ _ _ => 0)
  case atStart => exact ⟨rfl, rfl, rfl⟩
  case round =>
    obtain ⟨rfl, rfl, rfl⟩ := hrel
    go_wp2_with fail
    go_end0
    exact ⟨rfl, Keep.refl _ _⟩

set_option maxHeartbeats 1000000 in
theorem turned_any (a : Option Addr) (n c : Nat) (p : Nat → Nat) (w : World) (ha : ArgU w a n p) (hn : n ≤ 1000000) :
    Calls Try.prog 28 #[.slice a n c] w fun e w' => ∃ a' c', e = .returned (.slice a' n c') ∧ OwnU w' w.heap.size a' n c' (fun i => p (n - 1 - i)) ∧ Keep (fun _ => False) w w' := by
  have HA := Lib.hid ha
  clear ha
  go_enter Try.func28, Try.ntmps28
  go_wp2_with fail
  refine (clone_any _ _ _ _ _ HA.out hn).mono ?_
  rintro e w1 ⟨a', c', rfl, o1, k1⟩
  rcases Nat.eq_zero_or_pos n with h0 | h0
  · subst h0
    go_wp2_with fail
    refine (rev_none _ _ _).mono ?_
    rintro e w2 ⟨rfl, k2⟩
    have o2 := o1.keep k2
    have kk := k1.trans k2 (fun _ hi => .inl hi)
    go_wp2_with fail
    go_ret
    exact ⟨a', c', rfl, o2.congr (fun i hi => by omega), kk⟩
  · obtain ⟨g, rfl, hg, hm, hr⟩ := o1.row h0
    go_wp2_with fail
    refine (rev_any g n c' c' p w1 h0 hn hr).mono ?_
    rintro e w2 ⟨rfl, r2, k2⟩
    have kk := k1.trans k2 (fun i hi => .inr (by subst hi; exact hg))
    go_wp2_with fail
    go_ret
    exact ⟨_, c', rfl, OwnU.of_row r2 hg hm, kk⟩
end Go.Proofs.Ytnejnoiogojplaa
