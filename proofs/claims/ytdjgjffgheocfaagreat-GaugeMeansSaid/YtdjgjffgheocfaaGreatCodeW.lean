/- The code: its functions. -/
import Derived.Test.YtdjgjffgheocfaaGreatPolAll
import Derived.Test.YtdjgjffgheocfaaGreatBase
import Derived.Lib.SliceRun
import Derived.WalkMore
import Derived.ScopeJumps
namespace Go.Proofs.YtdjgjffgheocfaaGreat
open Go.RowKit

/-- Block g has c cells; the first n say f. -/
def RowU (w : World) (g c n : Nat) (f : Nat → Nat) : Prop := ∃ cs, Blk w g 148 cs ∧ cs.size = c ∧ n ≤ c ∧ ∀ i, i < n → cs[i]? = some (.int .u16 (f i : Nat))
/-- A slice made since block N: nil, or the head of a row of its own. -/
def OwnU (w : World) (N : Nat) (a : Option Addr) (n c : Nat) (f : Nat → Nat) : Prop := w.ownsRow N 148 1 (.slice a n c) n (uList f n)

section
variable {w w' : World} {g c n : Nat} {f : Nat → Nat} {N : Nat} {a : Option Addr}
theorem RowU.lt (h : RowU w g c n f) : g < w.heap.size := by
  obtain ⟨cs, hb, _⟩ := h
  exact hb.lt
theorem RowU.room (h : RowU w g c n f) : n ≤ c := by
  obtain ⟨cs, _, _, hn, _⟩ := h
  exact hn
theorem RowU.val (h : RowU w g c n f) {i : Nat} (hi : i < n) : w.cell? ⟨g, i, none⟩ = some (.int .u16 (f i : Nat)) := by
  obtain ⟨cs, hb, _, _, hc⟩ := h
  rw [hb.cell, hc i hi]
theorem RowU.frozen (h : RowU w g c n f) (i : Nat) : w.frozen? ⟨g, i, none⟩ = false := by
  obtain ⟨cs, hb, _⟩ := h
  exact hb.frozen i
theorem RowU.store (h : RowU w g c n f) (i v : Nat) {f' : Nat → Nat} (e : ∀ k, k < n → f' k = if k = i then v else f k) : RowU (w.setCell ⟨g, i, none⟩ (.int .u16 v)) g c n f' := by
  obtain ⟨cs, hb, hs, hn, hc⟩ := h
  refine ⟨_, hb.put i _, by simpa using hs, hn, fun k hk => ?_⟩
  rw [Array.getElem?_setIfInBounds, e k hk]
  by_cases h : i = k
  · subst h
    rw [if_pos rfl, if_pos (by omega), if_pos rfl]
  · rw [if_neg h, if_neg (fun e => h e.symm), hc k hk]
theorem RowU.far (h : RowU w g c n f) {p : Addr} (hp : g ≠ p.block) (u : Value) : RowU (w.setCell p u) g c n f := by
  obtain ⟨cs, hb, hr⟩ := h
  exact ⟨cs, hb.far hp u, hr⟩
theorem RowU.keep {S : Nat → Prop} (h : RowU w g c n f) (hk : Keep S w w') (hg : ¬ S g) : RowU w' g c n f := by
  obtain ⟨cs, hb, hr⟩ := h
  exact ⟨cs, hb.keep hk hg, hr⟩
theorem RowU.drewN (h : RowU w g c n f) (k : Nat) : RowU (w.drewN k) g c n f := h
theorem RowU.congr {f' : Nat → Nat} (h : RowU w g c n f) (e : ∀ i, i < n → f i = f' i) : RowU w g c n f' := by
  obtain ⟨cs, hb, hs, hn, hc⟩ := h
  exact ⟨cs, hb, hs, hn, fun i hi => by rw [← e i hi]; exact hc i hi⟩
theorem RowU.take {m : Nat} (h : RowU w g c n f) (hm : m ≤ n) : RowU w g c m f := by
  obtain ⟨cs, hb, hs, hn, hc⟩ := h
  exact ⟨cs, hb, hs, by omega, fun i hi => hc i (by omega)⟩
theorem RowU.argU (h : RowU w g c n f) (hn : n ≤ 140737488355328) (hf : ∀ i, i < n → f i < 65536) : ArgU w (some ⟨g, 0, none⟩) n f :=
  ⟨hn, fun _ => ⟨g, 0, rfl, h.lt, fun i hi => by rw [Nat.zero_add]; exact h.val hi⟩, hf⟩
theorem RowU.of_blk (h : Blk w g 148 (uArr f n)) : RowU w g n n f := ⟨_, h, valsArr_size _ _, Nat.le_refl _, fun _ hi => valsArr_get _ _ _ hi⟩
theorem RowU.blk (h : RowU w g n n f) : Blk w g 148 (uArr f n) := by
  obtain ⟨cs, hb, hs, _, hc⟩ := h
  have e : cs = uArr f n := Array.ext_getElem? fun i => by
    rw [uArr_get]
    by_cases hi : i < n
    · rw [hc i hi, if_pos hi]
    · rw [if_neg hi, Array.getElem?_eq_none (by omega)]
  rwa [← e]
theorem OwnU.of_row (h : RowU w g c n f) (hN : N ≤ g) (hc : c ≤ maxLen) : OwnU w N (some ⟨g, 0, none⟩) n c f := by
  obtain ⟨cs, hb, hs, hn, hv⟩ := h
  refine ⟨by simp [uList], .inr ⟨g, c, cs, rfl, hN, hb, hn, hc, by omega, ?_⟩⟩
  apply List.ext_getElem?
  intro i
  rw [List.getElem?_take, uList_get, Nat.mul_one]
  by_cases hi : i < n
  · rw [if_pos hi, if_pos hi, Array.getElem?_toList, hv i hi]
  · rw [if_neg hi, if_neg hi]
theorem OwnU.row (h : OwnU w N a n c f) (h0 : 0 < n) : ∃ g, a = some ⟨g, 0, none⟩ ∧ N ≤ g ∧ c ≤ maxLen ∧ RowU w g c n f := by
  rcases h.2 with ⟨_, e⟩ | ⟨g, cap, cs, e, hN, hb, hn, hm, hs, ht⟩
  · omega
  · injection e with e1 e2 e3
    subst e3
    refine ⟨g, e1, hN, hm, cs, hb, by omega, hn, fun i hi => ?_⟩
    have e4 := congrArg (fun l => l[i]?) ht
    simp only [List.getElem?_take, uList_get] at e4
    rw [if_pos (by omega), if_pos hi, Array.getElem?_toList] at e4
    exact e4
theorem OwnU.le (h : OwnU w N a n c f) : n ≤ c ∧ c ≤ maxLen := by
  rcases h.2 with ⟨e, e0⟩ | ⟨g, cap, cs, e, hN, hb, hn, hm, hs, ht⟩
  · injection e with e1 e2 e3
    unfold maxLen
    omega
  · injection e with e1 e2 e3
    omega
theorem OwnU.arg (h : OwnU w N a n c f) (hn : n ≤ 140737488355328) (hf : ∀ i, i < n → f i < 65536) : ArgU w a n f := by
  rcases Nat.eq_zero_or_pos n with h0 | h0
  · exact ⟨hn, fun h => by omega, hf⟩
  · obtain ⟨g, rfl, _, _, hr⟩ := h.row h0
    exact hr.argU hn hf
theorem OwnU.keep (h : OwnU w N a n c f) (hk : Keep (fun _ => False) w w') : OwnU w' N a n c f := by
  refine ⟨h.1, ?_⟩
  rcases h.2 with e | ⟨g, cap, cs, e, hN, hb, hr⟩
  · exact .inl e
  · exact .inr ⟨g, cap, cs, e, hN, (hk.block g (Blk.lt (t := 148) (cs := cs) hb) (by simp)).trans hb, hr⟩
theorem OwnU.far (h : OwnU w N a n c f) {p : Addr} (hp : p.block < N) (u : Value) : OwnU (w.setCell p u) N a n c f := by
  refine ⟨h.1, ?_⟩
  rcases h.2 with e | ⟨g, cap, cs, e, hN, hb, hr⟩
  · exact .inl e
  · exact .inr ⟨g, cap, cs, e, hN, Blk.far (t := 148) (cs := cs) hb (by omega) u, hr⟩
theorem OwnU.congr {f' : Nat → Nat} (h : OwnU w N a n c f) (e : ∀ i, i < n → f i = f' i) : OwnU w N a n c f' := by
  have : uList f n = uList f' n := List.ext_getElem? fun i => by
    rw [uList_get, uList_get]
    by_cases hi : i < n
    · rw [if_pos hi, if_pos hi, e i hi]
    · rw [if_neg hi, if_neg hi]
  unfold OwnU at h ⊢
  rwa [this] at h
theorem OwnU.more {M : Nat} (h : OwnU w N a n c f) (hM : M ≤ N) : OwnU w M a n c f := by
  refine ⟨h.1, ?_⟩
  rcases h.2 with e | ⟨g, cap, cs, e, hN, hr⟩
  · exact .inl e
  · exact .inr ⟨g, cap, cs, e, by omega, hr⟩
theorem ResU.own (h : ResU w N a n f) (hn : n ≤ maxLen) : OwnU w N a n n f := by
  rcases h with ⟨rfl, rfl⟩ | ⟨g, rfl, hN, hb⟩
  · exact World.ownsRow_nil w N _ 1
  · exact OwnU.of_row (RowU.of_blk hb) hN hn
end
theorem Tryz.info_u16' : ∃ i, Tryz.prog.info? 148 = some i ∧ i.zero = some (.int .u16 0) ∧ i.size = 1 ∧ i.bytes = 2 := by
  have h := Tryz.info_u16
  cases e : Tryz.prog.info? 148 with
  | none => rw [e] at h; cases h
  | some i =>
    rw [e] at h
    simp only [Option.map_some, Option.some.injEq, Prod.mk.injEq] at h
    exact ⟨i, rfl, h.1, h.2.1, h.2.2⟩
theorem addr_zero_add (b j : Nat) : (⟨b, 0, none⟩ : Addr).add j = ⟨b, j, none⟩ := by unfold Addr.add; split <;> simp_all
theorem addr_add (b off j : Nat) : (⟨b, off, none⟩ : Addr).add j = ⟨b, off + j, none⟩ := by unfold Addr.add; split <;> simp_all
/-- append of a row that is there onto one of the call's own. -/
theorem wp_append_u {w : World} {o : Oper} {a : Act} {K : Act → World → Prop} {Q : Exit → Act → World → Prop} (s x : Operand)
    (ho : o.op = .call { callee := .builtin .append, args := #[s, x], argTypes := #[80, 80] })
    (N : Nat) (ao : Option Addr) (n co : Nat) (f : Nat → Nat) (hs : a.eval s = .slice ao n co) (hown : OwnU w N ao n co f) (ad : Addr) (m c : Nat) (p : Nat → Nat) (hx : a.eval x = .slice (some ad) m c) (hp : ArgU w (some ad) m p)
    (hnm : n + m ≤ 1000000) (hN : N ≤ w.heap.size)
    (h : ∀ a' c' w', OwnU w' N a' (n + m) c' (fun i => if i < n then f i else p (i - n)) → w.grownBy w' (Value.slice ao n co).ownBlock → K (a.put o.dst (.slice a' (n + m) c')) w') :
    o.wp Tryz.prog a w K Q := by
  obtain ⟨i, hi, hz, hsz, hby⟩ := Tryz.info_u16'
  refine wp_append_own w s x 80 ho N 148 i (.int .u16 0) 1 2 Tryz.underlying80 hi hz hsz hby rfl (by omega) (.slice ao n co) n (uList f n) hs hown ad m c (uList p m) hx (by simp [uList]) ?_ ?_ (by unfold maxLen; omega) (by omega) hN ?_
  · intro j u hj
    rw [uList_get] at hj
    split at hj
    · rename_i hjm
      obtain ⟨b, off, e, _, hc⟩ := hp.at_ (by omega)
      cases Option.some.inj e
      rw [addr_add, hc j hjm]
      exact hj
    · cases hj
  · intro u hu
    simp only [uList, List.mem_map] at hu
    obtain ⟨_, _, rfl⟩ := hu
    rfl
  · intro v' w' h1 h2 _
    have hsl : ∃ a' c', v' = .slice a' (n + m) c' := by
      rcases h1.2 with ⟨e, e0⟩ | ⟨g, cap, cs, e, _⟩
      · exact ⟨none, 0, by rw [e0]; exact e⟩
      · exact ⟨_, _, e⟩
    obtain ⟨a', c', rfl⟩ := hsl
    refine h a' c' w' ?_ h2
    unfold OwnU
    have e : uList (fun i => if i < n then f i else p (i - n)) (n + m) = uList f n ++ uList p m := List.ext_getElem? fun i => by
      have hl : (uList f n).length = n := by simp [uList]
      rw [uList_get]
      by_cases h1 : i < n
      · rw [List.getElem?_append_left (by omega), uList_get, if_pos h1, if_pos (by omega), if_pos h1]
      · rw [List.getElem?_append_right (by omega), hl, uList_get]
        by_cases h2 : i < n + m
        · rw [if_pos h2, if_neg h1, if_pos (by omega)]
        · rw [if_neg h2, if_neg (by omega)]
    rw [e]
    exact h1
theorem wpList_wanted {P : Program} {w : World} {ops : Array Oper} {rest : List Oper} {o : Oper} {a : Act} {Q : Exit → Act → World → Prop} (hw : Region.wanted o (yielded ops a.tmps) = true)
    (h : ∀ K : Act → World → Prop, (∀ a w, wpList P ops Q rest a w → K a w) → o.wp P a w K Q) : wpList P ops Q (o :: rest) a w :=
  wpList_step fun K hK => by simp only [hw, if_true]; exact h K hK
theorem wpList_append_u {w : World} {ops : Array Oper} {rest : List Oper} {o : Oper} {a : Act} {Q : Exit → Act → World → Prop} (hgd : o.guard = none) (s x : Operand)
    (ho : o.op = .call { callee := .builtin .append, args := #[s, x], argTypes := #[80, 80] })
    (N : Nat) (ao : Option Addr) (n co : Nat) (f : Nat → Nat) (hs : a.eval s = .slice ao n co) (hown : OwnU w N ao n co f) (ad : Addr) (m c : Nat) (p : Nat → Nat) (hx : a.eval x = .slice (some ad) m c) (hp : ArgU w (some ad) m p)
    (hnm : n + m ≤ 1000000) (hN : N ≤ w.heap.size)
    (h : ∀ a' c' w', OwnU w' N a' (n + m) c' (fun i => if i < n then f i else p (i - n)) → w.grownBy w' (Value.slice ao n co).ownBlock → wpList Tryz.prog ops Q rest (a.put o.dst (.slice a' (n + m) c')) w') :
    wpList Tryz.prog ops Q (o :: rest) a w :=
  wpList_plain hgd fun _ hK => wp_append_u s x ho N ao n co f hs hown ad m c p hx hp hnm hN fun a' c' w' h1 h2 => hK _ _ (h a' c' w' h1 h2)
/-- The same where the operation is guarded, and wanted. -/
theorem wpList_append_ug {w : World} {ops : Array Oper} {rest : List Oper} {o : Oper} {a : Act} {Q : Exit → Act → World → Prop} (hw : Region.wanted o (yielded ops a.tmps) = true) (s x : Operand)
    (ho : o.op = .call { callee := .builtin .append, args := #[s, x], argTypes := #[80, 80] })
    (N : Nat) (ao : Option Addr) (n co : Nat) (f : Nat → Nat) (hs : a.eval s = .slice ao n co) (hown : OwnU w N ao n co f) (ad : Addr) (m c : Nat) (p : Nat → Nat) (hx : a.eval x = .slice (some ad) m c) (hp : ArgU w (some ad) m p)
    (hnm : n + m ≤ 1000000) (hN : N ≤ w.heap.size)
    (h : ∀ a' c' w', OwnU w' N a' (n + m) c' (fun i => if i < n then f i else p (i - n)) → w.grownBy w' (Value.slice ao n co).ownBlock → wpList Tryz.prog ops Q rest (a.put o.dst (.slice a' (n + m) c')) w') :
    wpList Tryz.prog ops Q (o :: rest) a w :=
  wpList_wanted hw fun _ hK => wp_append_u s x ho N ao n co f hs hown ad m c p hx hp hnm hN fun a' c' w' h1 h2 => hK _ _ (h a' c' w' h1 h2)

set_option maxHeartbeats 2000000 in
theorem clone_any (a : Option Addr) (n c : Nat) (p : Nat → Nat) (w : World) (ha : ArgU w a n p) (hn : n ≤ 1000000) :
    Calls Tryz.prog 146 #[.slice a n c] w fun e w' => ∃ a' c', e = .returned (.slice a' n c') ∧ OwnU w' w.heap.size a' n c' p ∧ Keep (fun _ => False) w w' := by
  rcases a with _ | ad
  · have h0 : n = 0 := by
      rcases Nat.eq_zero_or_pos n with h | h
      · exact h
      · obtain ⟨b, off, e, _⟩ := ha.at_ h
        cases e
    subst h0
    have q := fun (w : World) (a : Option Addr) (n c n' c' : Nat) => Lib.run_eql_slice_nil (P := Tryz.prog) w 80 148 a n c n' c' Tryz.underlying80
    go_enter Tryz.func146, Tryz.ntmps146
    go_wp2_with fail
    go_ret
    exact ⟨none, 0, rfl, World.ownsRow_nil w _ _ 1, Keep.refl _ _⟩
  · have k0 := (Keep.refl (fun _ => False) w).alloc (.cells #[] 148)
    have HA := Lib.hid (ha.keep k0)
    have HO := Lib.hid (show OwnU (w.alloc (.cells #[] 148)) w.heap.size (some ⟨w.heap.size, 0, none⟩) 0 0 p from OwnU.of_row (RowU.of_blk (Blk.new w _ _)) (Nat.le_refl _) (by unfold maxLen; omega))
    have HK := Lib.hid k0
    clear ha k0
    have q := fun (w : World) (a : Option Addr) (n c n' c' : Nat) => Lib.run_eql_slice_nil (P := Tryz.prog) w 80 148 a n c n' c' Tryz.underlying80
    go_enter Tryz.func146, Tryz.ntmps146
    go_wp2_with (refine wpList_append_u rfl (.tmp 5) (.tmp 6) rfl w.heap.size _ 0 0 p rfl HO.out ad n c p rfl HA.out (by omega) (by simp) ?_)
    intro a' c' w1 hown hgrow
    go_wp2_with fail
    go_ret
    exact ⟨a', c', rfl, hown, HK.out.grown hgrow (fun k hk => .inr (by simp [Value.ownBlock] at hk; omega))⟩

def revMid (p : Nat → Nat) (n i : Nat) : Nat → Nat := fun k => if k < i ∨ n - 1 - i < k then p (n - 1 - k) else p k
theorem revMid_next (p : Nat → Nat) (n i : Nat) (hi : i < n - 1 - i) (k : Nat) (hk : k < n) : revMid p n (i + 1) k = if k = n - 1 - i then revMid p n i i else if k = i then revMid p n i (n - 1 - i) else revMid p n i k := by
  unfold revMid
  by_cases h1 : k = n - 1 - i
  · subst h1
    rw [if_pos rfl, if_pos (by omega), if_neg (by omega), show n - 1 - (n - 1 - i) = i by omega]
  · rw [if_neg h1]
    by_cases h2 : k = i
    · subst h2
      rw [if_pos rfl, if_pos (by omega), if_neg (by omega)]
    · rw [if_neg h2]
      by_cases h3 : k < i ∨ n - 1 - i < k
      · rw [if_pos h3, if_pos (by omega)]
      · rw [if_neg h3, if_neg (by omega)]
theorem revMid_end (p : Nat → Nat) (n i : Nat) (hi : ¬ i < n - 1 - i) (k : Nat) (hk : k < n) : revMid p n i k = p (n - 1 - k) := by
  unfold revMid
  by_cases h3 : k < i ∨ n - 1 - i < k
  · rw [if_pos h3]
  · rw [if_neg h3]
    congr 1
    omega
set_option maxHeartbeats 2000000 in
set_option maxRecDepth 100000 in
theorem rev_any (g n c c' : Nat) (p : Nat → Nat) (w : World) (h0 : 0 < n) (hn : n ≤ 1000000) (h : RowU w g c n p) :
    Calls Tryz.prog 171 #[.slice (some ⟨g, 0, none⟩) n c'] w fun e w' => e = .returned (.tuple #[]) ∧ RowU w' g c n (fun i => p (n - 1 - i)) ∧ Keep (· = g) w w' := by
  have HR0 := Lib.hid h
  clear h
  go_enter Tryz.func171, Tryz.ntmps171
  go_wp2_with fail
  go_loopw [2, 3] (fun v2 v3 wr => ∃ i : Nat, 2 * i ≤ n ∧ v2 = .int .i64 i ∧ v3 = .int .i64 (n - 1 - i : Nat) ∧ RowU wr g c n (revMid p n i) ∧ Keep (· = g) w wr) (fun v2 _ _ => n - (intOf v2).toNat)
  case atStart =>
    refine ⟨0, by omega, rfl, by go_num, HR0.out.congr (fun i hi => ?_), Keep.refl _ _⟩
    unfold revMid
    rw [if_neg (by omega)]
  case round =>
    obtain ⟨i, hi, rfl, rfl, hR, hk⟩ := hrel
    by_cases hij : i < n - 1 - i
    · have c1 := hR.val (show i < n by omega)
      have c2 := hR.val (show n - 1 - i < n by omega)
      have z1 := hR.frozen i
      have z2 := hR.frozen (n - 1 - i)
      have e1 : (i : Int) < ((n - 1 - i : Nat) : Int) := by omega
      have e2 : (i : Int) < (n : Int) := by omega
      have e3 : ((n - 1 - i : Nat) : Int) < (n : Int) := by omega
      have e4 : IntKind.i64.wrap ((i : Int) + 1) = (i : Int) + 1 := wraps_i64 _ (by omega) (by omega)
      have e5 : ({ block := g, off := i } : Addr) ≠ { block := g, off := n - 1 - i } := fun e => by injection e with _ e; omega
      have HN := Lib.hid ((hR.store i (revMid p n i (n - 1 - i)) (fun k _ => rfl)).store (n - 1 - i) (revMid p n i i) (f' := revMid p n (i + 1)) (fun k hk => revMid_next p n i hij k hk))
      have K6 := Lib.hid ((hk.setCell (p := ⟨g, i, none⟩) (.inl rfl) (.int .u16 (revMid p n i (n - 1 - i) : Nat))).setCell (p := ⟨g, n - 1 - i, none⟩) (.inl rfl) (.int .u16 (revMid p n i i : Nat)))
      go_upto_region 3 with fail
      go_region
      all_goals
        go_wp2_with fail
        go_roundw
        case rel => exact ⟨i + 1, by omega, by go_num, by go_num, HN.out.drewN 1, K6.out.drewN 1⟩
        case measure => simp [intOf]; omega
    · have e1 : ¬ (i : Int) < ((n - 1 - i : Nat) : Int) := by omega
      go_wp2_with fail
      go_end0
      exact ⟨rfl, hR.congr (fun k hk => revMid_end p n i hij k hk), hk⟩

set_option maxHeartbeats 1000000 in
theorem rev_none (a : Option Addr) (c : Nat) (w : World) :
    Calls Tryz.prog 171 #[.slice a 0 c] w fun e w' => e = .returned (.tuple #[]) ∧ Keep (fun _ => False) w w' := by
  go_enter Tryz.func171, Tryz.ntmps171
  go_wp2_with fail
  go_loopw [2, 3] (fun v2 v3 wr => v2 = .int .i64 0 ∧ v3 = .int .i64 (-1) ∧ wr = w) (fun _ _ _ => 0)
  case atStart => exact ⟨rfl, rfl, rfl⟩
  case round =>
    obtain ⟨rfl, rfl, rfl⟩ := hrel
    go_wp2_with fail
    go_end0
    exact ⟨rfl, Keep.refl _ _⟩

set_option maxHeartbeats 1000000 in
theorem turned_any (a : Option Addr) (n c : Nat) (p : Nat → Nat) (w : World) (ha : ArgU w a n p) (hn : n ≤ 1000000) :
    Calls Tryz.prog 156 #[.slice a n c] w fun e w' => ∃ a' c', e = .returned (.slice a' n c') ∧ OwnU w' w.heap.size a' n c' (fun i => p (n - 1 - i)) ∧ Keep (fun _ => False) w w' := by
  have HA := Lib.hid ha
  clear ha
  go_enter Tryz.func156, Tryz.ntmps156
  go_wp2_with fail
  refine (clone_any _ _ _ _ _ HA.out hn).mono ?_
  rintro e w1 ⟨a', c', rfl, o1, k1⟩
  rcases Nat.eq_zero_or_pos n with h0 | h0
  · subst h0
    go_wp2_with fail
    refine (rev_none _ _ _).mono ?_
    rintro e w2 ⟨rfl, k2⟩
    have o2 := o1.keep k2
    have kk := k1.trans k2 (fun _ hi => .inl hi)
    go_wp2_with fail
    go_ret
    exact ⟨a', c', rfl, o2.congr (fun i hi => by omega), kk⟩
  · obtain ⟨g, rfl, hg, hm, hr⟩ := o1.row h0
    go_wp2_with fail
    refine (rev_any g n c' c' p w1 h0 hn hr).mono ?_
    rintro e w2 ⟨rfl, r2, k2⟩
    have kk := k1.trans k2 (fun i hi => .inr (by subst hi; exact hg))
    go_wp2_with fail
    go_ret
    exact ⟨_, c', rfl, OwnU.of_row r2 hg hm, kk⟩
end Go.Proofs.YtdjgjffgheocfaaGreat

namespace Go.Proofs.YtdjgjffgheocfaaGreat
open Go.RowKit

def overB (x : Nat) : Bool := decide (1024 ≤ x)
def isnotB (x : Nat) : Bool := !decide (x = 0)
set_option maxHeartbeats 400000 in
theorem over_any (x : Nat) (w : World) : Calls Tryz.prog 143 #[.int .u16 x] w fun e w' => e = .returned (.bool (overB x)) ∧ Keep (fun _ => False) w w' := by
  have h : decide (1024 ≤ (x : Int)) = overB x := by
    unfold overB
    rw [decide_eq_decide]
    omega
  go_enter Tryz.func143, Tryz.ntmps143
  go_wp2_with fail
  go_ret
  exact ⟨by rw [← h]; rfl, Keep.refl _ _⟩
set_option maxHeartbeats 400000 in
theorem isnot_any (x : Nat) (w : World) : Calls Tryz.prog 159 #[.int .u16 x] w fun e w' => e = .returned (.bool (isnotB x)) ∧ Keep (fun _ => False) w w' := by
  have h : (((x : Nat) : Int) != 0) = isnotB x := by
    unfold isnotB
    rw [Bool.eq_iff_iff]
    simp
  have H := Lib.hid h
  clear h
  go_enter Tryz.func159, Tryz.ntmps159
  go_wp2_with fail
  go_ret
  exact ⟨by rw [← H.out]; rfl, Keep.refl _ _⟩

/-- What IndexFunc finds. -/
def FirstU (B : Nat → Bool) (p : Nat → Nat) (n : Nat) (z : Int) : Prop := (z = -1 ∧ ∀ i, i < n → B (p i) = false) ∨ ∃ j : Nat, z = j ∧ j < n ∧ B (p j) = true
set_option maxHeartbeats 1000000 in
theorem index_over (a : Option Addr) (n c : Nat) (p : Nat → Nat) (w : World) (ha : ArgU w a n p) :
    Calls Tryz.prog 151 #[.slice a n c, .func (.func 143) #[] #[]] w fun e w' => ∃ z, e = .returned (.int .i64 z) ∧ FirstU overB p n z ∧ Keep (fun _ => False) w w' := by
  have HA := Lib.hid ha
  have hsm := ha.small
  clear ha
  go_enter Tryz.func151, Tryz.ntmps151
  go_wp2_with fail
  go_loopw [8] (fun i wr => ∃ j : Nat, j ≤ n ∧ i = .int .i64 j ∧ Hid (∀ i, i < j → overB (p i) = false) ∧ Keep (fun _ => False) w wr) (fun i _ => n - (intOf i).toNat)
  case atStart => exact ⟨0, Nat.zero_le _, rfl, Lib.hid (fun i hi => by omega), Keep.refl _ w⟩
  case round =>
    obtain ⟨j, hj, rfl, HZ, kr⟩ := hrel
    by_cases hjl : j < n
    · obtain ⟨b, off, rfl, hbs, hc⟩ := HA.out.at_ (by omega)
      have c0 := (kr.cell (p := ⟨b, off + j, none⟩) hbs (by simp)).trans (hc j hjl)
      have hjl' : (j : Int) < (n : Int) := by omega
      clear hc
      go_wp2_with fail
      refine (over_any (p j) _).mono ?_
      rintro e w3 ⟨rfl, k3⟩
      have k4 := kr.trans k3 (fun _ hi => .inl hi)
      cases hB : overB (p j) with
      | false =>
        have HN := Lib.hid (show ∀ i, i < j + 1 → overB (p i) = false from fun i hi => by
          by_cases e : i = j
          · rw [e]; exact hB
          · exact HZ.out i (by omega))
        clear hB
        go_wp2_with fail
        go_roundw
        case rel => exact ⟨j + 1, by omega, by go_num, HN, k4⟩
        case measure => simp [intOf]; omega
      | true =>
        have HB := Lib.hid hB
        clear hB
        go_wp2_with fail
        go_ret
        exact ⟨j, rfl, .inr ⟨j, rfl, hjl, HB.out⟩, k4⟩
    · have hje : j = n := by omega
      subst hje
      go_wp2_with fail
      go_ret
      exact ⟨-1, rfl, .inl ⟨rfl, HZ.out⟩, kr⟩
set_option maxHeartbeats 400000 in
theorem contains_over0 (a : Option Addr) (n c : Nat) (p : Nat → Nat) (w : World) (ha : ArgU w a n p) :
    Calls Tryz.prog 136 #[.slice a n c, .func (.func 143) #[] #[]] w fun e w' => ∃ b, e = .returned (.bool b) ∧ (b = true ↔ ∃ i, i < n ∧ overB (p i) = true) ∧ Keep (fun _ => False) w w' := by
  go_enter Tryz.func136, Tryz.ntmps136
  go_wp2_with fail
  refine (index_over a n c p w ha).mono ?_
  rintro e w3 ⟨z, rfl, hz, k3⟩
  go_wp2_with fail
  go_ret
  refine ⟨_, rfl, ?_, k3⟩
  rw [decide_eq_true_iff]
  rcases hz with ⟨rfl, h⟩ | ⟨j, rfl, hj, h⟩
  · constructor
    · intro h0
      omega
    · rintro ⟨i, hi, h1⟩
      rw [h i hi] at h1
      cases h1
  · exact ⟨fun _ => ⟨j, hj, h⟩, fun _ => by omega⟩
set_option maxHeartbeats 1000000 in
theorem index_isnot (a : Option Addr) (n c : Nat) (p : Nat → Nat) (w : World) (ha : ArgU w a n p) :
    Calls Tryz.prog 151 #[.slice a n c, .func (.func 159) #[] #[]] w fun e w' => ∃ z, e = .returned (.int .i64 z) ∧ FirstU isnotB p n z ∧ Keep (fun _ => False) w w' := by
  have HA := Lib.hid ha
  have hsm := ha.small
  clear ha
  go_enter Tryz.func151, Tryz.ntmps151
  go_wp2_with fail
  go_loopw [8] (fun i wr => ∃ j : Nat, j ≤ n ∧ i = .int .i64 j ∧ Hid (∀ i, i < j → isnotB (p i) = false) ∧ Keep (fun _ => False) w wr) (fun i _ => n - (intOf i).toNat)
  case atStart => exact ⟨0, Nat.zero_le _, rfl, Lib.hid (fun i hi => by omega), Keep.refl _ w⟩
  case round =>
    obtain ⟨j, hj, rfl, HZ, kr⟩ := hrel
    by_cases hjl : j < n
    · obtain ⟨b, off, rfl, hbs, hc⟩ := HA.out.at_ (by omega)
      have c0 := (kr.cell (p := ⟨b, off + j, none⟩) hbs (by simp)).trans (hc j hjl)
      have hjl' : (j : Int) < (n : Int) := by omega
      clear hc
      go_wp2_with fail
      refine (isnot_any (p j) _).mono ?_
      rintro e w3 ⟨rfl, k3⟩
      have k4 := kr.trans k3 (fun _ hi => .inl hi)
      cases hB : isnotB (p j) with
      | false =>
        have HN := Lib.hid (show ∀ i, i < j + 1 → isnotB (p i) = false from fun i hi => by
          by_cases e : i = j
          · rw [e]; exact hB
          · exact HZ.out i (by omega))
        clear hB
        go_wp2_with fail
        go_roundw
        case rel => exact ⟨j + 1, by omega, by go_num, HN, k4⟩
        case measure => simp [intOf]; omega
      | true =>
        have HB := Lib.hid hB
        clear hB
        go_wp2_with fail
        go_ret
        exact ⟨j, rfl, .inr ⟨j, rfl, hjl, HB.out⟩, k4⟩
    · have hje : j = n := by omega
      subst hje
      go_wp2_with fail
      go_ret
      exact ⟨-1, rfl, .inl ⟨rfl, HZ.out⟩, kr⟩
set_option maxHeartbeats 400000 in
theorem contains_isnot0 (a : Option Addr) (n c : Nat) (p : Nat → Nat) (w : World) (ha : ArgU w a n p) :
    Calls Tryz.prog 136 #[.slice a n c, .func (.func 159) #[] #[]] w fun e w' => ∃ b, e = .returned (.bool b) ∧ (b = true ↔ ∃ i, i < n ∧ isnotB (p i) = true) ∧ Keep (fun _ => False) w w' := by
  go_enter Tryz.func136, Tryz.ntmps136
  go_wp2_with fail
  refine (index_isnot a n c p w ha).mono ?_
  rintro e w3 ⟨z, rfl, hz, k3⟩
  go_wp2_with fail
  go_ret
  refine ⟨_, rfl, ?_, k3⟩
  rw [decide_eq_true_iff]
  rcases hz with ⟨rfl, h⟩ | ⟨j, rfl, hj, h⟩
  · constructor
    · intro h0
      omega
    · rintro ⟨i, hi, h1⟩
      rw [h i hi] at h1
      cases h1
  · exact ⟨fun _ => ⟨j, hj, h⟩, fun _ => by omega⟩
theorem contains_over (a : Option Addr) (n c : Nat) (p : Nat → Nat) (w : World) (ha : ArgU w a n p) :
    Calls Tryz.prog 136 #[.slice a n c, .func (.func 143) #[] #[]] w fun e w' => ∃ b, e = .returned (.bool b) ∧ (b = true ↔ ∃ i, i < n ∧ 1024 ≤ p i) ∧ Keep (fun _ => False) w w' :=
  (contains_over0 a n c p w ha).mono fun _ _ ⟨b, h1, h2, h3⟩ => ⟨b, h1, by simpa [overB] using h2, h3⟩
set_option maxHeartbeats 400000 in
theorem none_any (a : Option Addr) (n c : Nat) (p : Nat → Nat) (w : World) (ha : ArgU w a n p) :
    Calls Tryz.prog 145 #[.slice a n c] w fun e w' => ∃ b, e = .returned (.bool b) ∧ (b = true ↔ ∀ i, i < n → p i = 0) ∧ Keep (fun _ => False) w w' := by
  go_enter Tryz.func145, Tryz.ntmps145
  go_wp2_with fail
  refine (contains_isnot0 a n c p w ha).mono ?_
  rintro e w3 ⟨b, rfl, hb, k3⟩
  go_wp2_with fail
  go_ret
  refine ⟨_, rfl, ?_, k3⟩
  simp only [isnotB, Bool.not_eq_true', decide_eq_false_iff_not] at hb
  cases b with
  | true =>
    obtain ⟨i, hi, h0⟩ := hb.1 rfl
    simp only [Bool.not_true, Bool.false_eq_true, false_iff]
    exact fun h => h0 (h i hi)
  | false =>
    simp only [Bool.not_false, true_iff]
    intro i hi
    by_cases h0 : p i = 0
    · exact h0
    · exact absurd (hb.2 ⟨i, hi, h0⟩) (by simp)

set_option maxHeartbeats 2000000 in
set_option maxRecDepth 100000 in
theorem dist_any (a b : Option Addr) (na nb ca cb : Nat) (p q : Nat → Nat) (w : World) (ha : ArgU w a na p) (hb : ArgU w b nb q) (hna : na ≤ 1000000) (hnb : nb ≤ 1000000) :
    Calls Tryz.prog 149 #[.slice a na ca, .slice b nb cb] w fun e w' => e = .returned (.int .i64 (max na nb - min na nb + cntNe p q (min na nb) : Nat)) ∧ Keep (fun _ => False) w w' := by
  have HA := Lib.hid ha
  have HB := Lib.hid hb
  obtain ⟨m, hm⟩ : ∃ m, m = max na nb := ⟨_, rfl⟩
  obtain ⟨l, hl⟩ : ∃ l, l = min na nb := ⟨_, rfl⟩
  have hml : m ≤ 1000000 := by omega
  have hlm : l ≤ m := by omega
  have hla : l ≤ na := by omega
  have hlb : l ≤ nb := by omega
  have hmx : (if na < nb then (nb : Int) else (na : Int)) = (m : Int) := by split <;> omega
  have hmn : (if nb < na then (nb : Int) else (na : Int)) = (l : Int) := by split <;> omega
  rw [← hm, ← hl]
  clear ha hb hm hl
  go_enter Tryz.func149, Tryz.ntmps149
  go_wp2_with fail
  clear hmx hmn
  go_loopw [5, 23] (fun v5 v6 wr => ∃ j : Nat, j ≤ l ∧ v6 = .int .i64 j ∧ v5 = .int .i64 (m - l + cntNe p q j : Nat) ∧ Keep (fun _ => False) w wr) (fun _ v6 _ => l - (intOf v6).toNat)
  case atStart => exact ⟨0, by omega, rfl, by simp [cntNe]; omega, Keep.refl _ _⟩
  case round =>
    obtain ⟨j, hj, rfl, rfl, hk⟩ := hrel
    by_cases hjl : j < l
    · obtain ⟨bA, oA, rfl, hbA, hcA⟩ := HA.out.at_ (by omega)
      obtain ⟨bB, oB, rfl, hbB, hcB⟩ := HB.out.at_ (by omega)
      have c1 := (hk.cell (p := ⟨bA, oA + j, none⟩) hbA (by simp)).trans (hcA j (by omega))
      have c2 := (hk.cell (p := ⟨bB, oB + j, none⟩) hbB (by simp)).trans (hcB j (by omega))
      have h1 : (j : Int) < (na : Int) := by omega
      have h2 : (j : Int) < (nb : Int) := by omega
      have h3 : (j : Int) < (l : Int) := by omega
      have hcj := cntNe_le p q j
      clear hcA hcB
      by_cases hpq : p j = q j
      · have HN := Lib.hid (show cntNe p q (j + 1) = cntNe p q j by simp [cntNe, hpq])
        have e1 : (((p j : Nat) : Int) != ((q j : Nat) : Int)) = false := by simp [hpq]
        rw [hpq] at c1 e1
        clear hpq
        go_wp2_with fail
        go_quiet (fail)
        go_wp2_with fail
        go_roundw
        case rel => exact ⟨j + 1, by omega, by go_num, by rw [HN.out], hk.drewN _⟩
        case measure => simp [intOf]; omega
      · have HN := Lib.hid (show cntNe p q (j + 1) = cntNe p q j + 1 by simp [cntNe, hpq])
        have e1 : (((p j : Nat) : Int) != ((q j : Nat) : Int)) = true := by simp; omega
        have e2 : ¬ ((p j : Nat) : Int) = ((q j : Nat) : Int) := by omega
        go_wp2_with fail
        go_quiet (fail)
        go_wp2_with fail
        go_roundw
        case rel => exact ⟨j + 1, by omega, by go_num, by rw [HN.out]; go_num, hk.drewN _⟩
        case measure => simp [intOf]; omega
    · obtain rfl : j = l := by omega
      have h3 : ¬ (j : Int) < (j : Int) := by omega
      go_wp2_with fail
      go_ret
      exact ⟨rfl, hk⟩
end Go.Proofs.YtdjgjffgheocfaaGreat

namespace Go.Proofs.YtdjgjffgheocfaaGreat
open Go.RowKit

theorem cut_turned (p : Nat → Nat) (n : Nat) : cut (fun i => p (n - 1 - i)) n = rv (fun i => p i % 1024) n := rfl
theorem at_syn (p : Nat → Nat) (n j : Nat) : hor (cut (fun i => p (n - 1 - i)) n) (ex (j + 1) % 1024) 0 n = synW (fun i => p i % 1024) n j := by
  rw [cut_turned, Nat.mod_eq_of_lt (ex_lt _)]
  exact synW_hor (fun i _ => Nat.mod_lt _ (by omega)) j
theorem synW_mod {p : Nat → Nat} {n : Nat} (hp : ∀ i, i < n → p i < 1024) : synW (fun i => p i % 1024) n = synW p n := synW_congr fun i hi => Nat.mod_eq_of_lt (hp i hi)
theorem synM_lt (p : Nat → Nat) (n j : Nat) : synW (fun i => p i % 1024) n j < 1024 := synW_lt (fun i _ => Nat.mod_lt _ (by omega)) j

set_option maxHeartbeats 4000000 in
set_option maxRecDepth 100000 in
theorem syndromes_any (V : Value) (a : Option Addr) (n c : Nat) (p : Nat → Nat) (w : World) (hT : HasT w V) (ha : ArgU w a n p) (hn : n ≤ 1000000) :
    Calls Tryz.prog 144 #[V, .slice a n c] w fun e w' => ∃ g, e = .returned (.slice (some ⟨g, 0, none⟩) 16 16) ∧ w.heap.size ≤ g ∧ Blk w' g 148 (uArr (synW (fun i => p i % 1024) n) 16) ∧ Keep (fun _ => False) w w' := by
  obtain ⟨a1, n1, c1, a2, n2, c2, rfl⟩ := hT.form
  obtain ⟨W, hW⟩ : ∃ W, W = w.alloc (.cells #[.slice a1 n1 c1, .slice a2 n2 c2] 82) := ⟨_, rfl⟩
  have hws : W.heap.size = w.heap.size + 1 := by rw [hW]; simp
  have kw : Keep (fun _ => False) w W := by rw [hW]; exact (Keep.refl _ w).alloc _
  have b0 : Blk W w.heap.size 82 #[.slice a1 n1 c1, .slice a2 n2 c2] := by rw [hW]; exact Blk.new w _ _
  have HT := Lib.hid (hT.keep kw)
  have HA := Lib.hid ((ha.keep kw).keep ((Keep.refl _ W).alloc (.cells (uArr (fun _ => 0) 16) 148)))
  have r0 := Blk.here W 148 (uArr (fun _ => 0) 16) (w.heap.size + 1) hws.symm
  have k0 := (Keep.refl (fun _ => False) W).alloc (.cells (uArr (fun _ => 0) 16) 148)
  have hmk := make_u 16 16 rfl (by omega)
  clear hT ha
  go_enter Tryz.func144, Tryz.ntmps144
  go_wp2_with fail
  rw [← hW]
  refine (turned_any _ _ _ _ _ HA.out hn).mono ?_
  rintro e w1 ⟨a', c', rfl, o1, k2⟩
  have O1 := o1.more (show w.heap.size + 1 + 1 ≤ (W.alloc (.cells (uArr (fun _ => 0) 16) 148)).heap.size by simp [hws])
  have hp16 := Lib.hid (fun i (hi : i < n) => HA.out.lt (n - 1 - i) (by omega))
  have r1 := r0.keep k2 (by simp)
  have kk := k0.trans k2 (fun _ hi => .inl hi)
  clear HA r0 k0 k2 hmk o1
  go_wp2_with fail
  go_loopw [13] (fun v wr => ∃ j : Nat, j ≤ 16 ∧ v = .int .i64 j ∧ Blk wr (w.heap.size + 1) 148 (uArr (fun i => if i < j then synW (fun i => p i % 1024) n i else 0) 16) ∧ Hid (OwnU wr (w.heap.size + 1 + 1) a' n c' (fun i => p (n - 1 - i))) ∧ Keep (fun _ => False) W wr) (fun v _ => 16 - (intOf v).toNat)
  case atStart =>
    refine ⟨0, by omega, rfl, ?_, Lib.hid O1, kk⟩
    simpa using r1
  case round =>
    clear r1 kk O1
    obtain ⟨j, hj, rfl, r1, HO, kk⟩ := hrel
    by_cases hjl : j < 16
    · have hjl' : (j : Int) < 16 := by omega
      have b1 := b0.keep kk (by simp)
      have q0 : ∀ z : KeptBy wr, z.v.cell? ⟨w.heap.size, 0, none⟩ = some (.slice a1 n1 c1) := fun z => z.cell b1.lt (by rw [b1.cell]; rfl)
      have q1 : ∀ z : KeptBy wr, z.v.cell? ⟨w.heap.size, 1, none⟩ = some (.slice a2 n2 c2) := fun z => z.cell b1.lt (by rw [b1.cell]; rfl)
      have e4 : IntKind.i64.wrap ((j : Int) + 1) = (j : Int) + 1 := wraps_i64 _ (by omega) (by omega)
      have HX := Lib.hid (show (((j : Int) + 1) % 1023).toNat = j + 1 by omega)
      have TW := Lib.hid (HT.out.keep kk)
      go_upto_region 6 with fail
      refine wp_region_kept_tail 10 (by kernel_rfl) (by kernel_rfl) ?_
      simp only [List.take_succ_cons, List.take_zero, List.drop_succ_cons, List.drop_zero]
      repeat (quiet_step (first
        | (go_at_call 158; exact kept_of (exp_any _ _ _ (TW.out.keep (KeptBy.h _))))
        | (go_at_call 157; exact kept_of (at_any _ _ _ _ _ _ _ (TW.out.keep (KeptBy.h _)) ((HO.out.keep (KeptBy.h _)).arg (by omega) hp16.out)))))
      refine wpQuiet_nil ?_
      rintro w5 ⟨⟨_, k5⟩, rfl⟩
      clear q0 q1
      have r5 := r1.keep k5 (by simp)
      have d5 := r5.val hjl
      have z5 := r5.frozen j
      have k6 := kk.trans k5 (fun _ hi => .inl hi)
      have O5 := HO.out.keep k5
      obtain ⟨x, hx⟩ : ∃ x : Nat, x = hor (cut (fun i => p (n - 1 - i)) n) (ex (((j : Int) + 1) % 1023).toNat % 1024) 0 n := ⟨_, rfl⟩
      rw [← hx]
      have K7 := Lib.hid (k6.setCell (p := ⟨w.heap.size + 1, j, none⟩) (.inr (Nat.le_of_eq hws)) (.int .u16 x))
      have O7 := Lib.hid (O5.far (p := ⟨w.heap.size + 1, j, none⟩) (by show w.heap.size + 1 < w.heap.size + 1 + 1; omega) (.int .u16 x))
      have HN := Lib.hid (r5.storeU j x (f' := fun i => if i < j + 1 then synW (fun i => p i % 1024) n i else 0) (fun i _ => by
        by_cases e : i = j
        · subst e; rw [hx, HX.out, at_syn]; simp
        · by_cases e2 : i < j
          · simp [e, e2, show i < j + 1 by omega]
          · simp [e, e2, show ¬ i < j + 1 by omega]))
      clear r5 O5 k6 hx HX
      go_wp2_with fail
      exact ⟨⟨j + 1, by omega, by go_num, HN.out, O7, K7.out⟩, by simp [intOf]; omega⟩
    · obtain rfl : j = 16 := by omega
      have hjl' : ¬ ((16 : Nat) : Int) < 16 := by omega
      rw [uArr_congr (g := synW (fun i => p i % 1024) n) (fun i hi => by simp [hi])] at r1
      go_wp2_with fail
      go_ret
      exact ⟨_, rfl, by omega, r1, kw.trans kk (fun _ hi => .inl hi)⟩
end Go.Proofs.YtdjgjffgheocfaaGreat

namespace Go.Proofs.YtdjgjffgheocfaaGreat
open Go.RowKit

theorem pacc_next (f S : Nat → Nat) (i k : Nat) : pacc f S (i + 1) k = pacc f S i k ^^^ (if i ≤ k then gm (f i) (S (k - i)) else 0) := rfl
set_option maxHeartbeats 4000000 in
set_option maxRecDepth 100000 in
theorem gap_any (V : Value) (a s : Option Addr) (m c cs n : Nat) (f S : Nat → Nat) (w : World) (hT : HasT w V) (ha : ArgU w a m f) (hs : ArgU w s 16 S) (hm : m ≤ 1000000) (hn : n < 16) (hf : ∀ i, f i < 1024) (hS : ∀ i, S i < 1024) :
    Calls Tryz.prog 160 #[V, .slice a m c, .slice s 16 cs, .int .i64 n] w fun e w' => e = .returned (.int .u16 (pacc f S m n : Nat)) ∧ Keep (fun _ => False) w w' := by
  obtain ⟨a1, n1, c1, a2, n2, c2, rfl⟩ := hT.form
  obtain ⟨W, hW⟩ : ∃ W, W = w.alloc (.cells #[.slice a1 n1 c1, .slice a2 n2 c2] 82) := ⟨_, rfl⟩
  have kw : Keep (fun _ => False) w W := by rw [hW]; exact (Keep.refl _ w).alloc _
  have b0 : Blk W w.heap.size 82 #[.slice a1 n1 c1, .slice a2 n2 c2] := by rw [hW]; exact Blk.new w _ _
  have HT := Lib.hid (hT.keep kw)
  have HA := Lib.hid (ha.keep kw)
  have HS := Lib.hid (hs.keep kw)
  clear hT ha hs
  go_enter Tryz.func160, Tryz.ntmps160
  go_wp2_with fail
  rw [← hW]
  clear hW
  go_loopw [9, 14] (fun v9 v wr => ∃ j : Nat, j ≤ m ∧ v = .int .i64 j ∧ v9 = .int .u16 (pacc f S j n : Nat) ∧ Keep (fun _ => False) W wr) (fun _ v _ => m - (intOf v).toNat)
  case atStart => exact ⟨0, by omega, rfl, rfl, Keep.refl _ _⟩
  case round =>
    obtain ⟨j, hj, rfl, rfl, kk⟩ := hrel
    have hpl := pacc_lt (g := S) hf j n
    by_cases hjl : j < m
    · have hjl' : (j : Int) < (m : Int) := by omega
      obtain ⟨bA, oA, rfl, hbA, hcA⟩ := HA.out.at_ (by omega)
      have c0 := (kk.cell (p := ⟨bA, oA + j, none⟩) hbA (by simp)).trans (hcA j hjl)
      clear hcA
      by_cases hjn : j ≤ n
      · have hjn' : (j : Int) ≤ (n : Int) := by omega
        obtain ⟨bS, oS, rfl, hbS, hcS⟩ := HS.out.at_ (by omega)
        have d0 := (kk.cell (p := ⟨bS, oS + (n - j), none⟩) hbS (by simp)).trans (hcS (n - j) (by omega))
        clear hcS
        have b1 := b0.keep kk (by simp)
        have q0 : ∀ z : KeptBy wr, z.v.cell? ⟨w.heap.size, 0, none⟩ = some (.slice a1 n1 c1) := fun z => z.cell b1.lt (by rw [b1.cell]; rfl)
        have q1 : ∀ z : KeptBy wr, z.v.cell? ⟨w.heap.size, 1, none⟩ = some (.slice a2 n2 c2) := fun z => z.cell b1.lt (by rw [b1.cell]; rfl)
        have q2 : ∀ z : KeptBy wr, z.v.cell? ⟨bS, oS + (n - j), none⟩ = some (.int .u16 (S (n - j) : Nat)) := fun z => z.cell (Nat.lt_of_lt_of_le hbS kk.size) d0
        have e4 : IntKind.i64.wrap ((n : Int) - (j : Int)) = ((n - j : Nat) : Int) := by rw [wraps_i64 _ (by omega) (by omega)]; omega
        have e5 : ((n - j : Nat) : Int) < 16 := by omega
        have hfj := hf j
        have hSj := hS (n - j)
        have TW := Lib.hid (HT.out.keep kk)
        have HN := Lib.hid (show pacc f S j n ^^^ gm (f j) (S (n - j)) = pacc f S (j + 1) n by rw [pacc_next, if_pos hjn])
        clear d0
        go_upto_region 6 with fail
        refine wp_region_kept (by kernel_rfl) (by kernel_rfl) ?_
        repeat (quiet_step (first
          | (go_at_call 164; exact kept_of (tmul_lt _ _ _ _ (TW.out.keep (KeptBy.h _)) hfj hSj))
          | (go_at_call 167; exact kept_of (fadd_kept _ _ _ hpl (gm_lt hfj _)))))
        refine wpQuiet_nil ?_
        rintro w5 ⟨⟨_, k5⟩, rfl⟩
        rw [HN.out]
        have K6 := Lib.hid (kk.trans k5 (fun _ hi => .inl hi))
        clear q0 q1 q2 k5 e4 e5
        go_wp2_with fail
        exact ⟨⟨j + 1, by omega, by go_num, rfl, K6.out⟩, by simp [intOf]; omega⟩
      · have hjn' : ¬ (j : Int) ≤ (n : Int) := by omega
        have HN := Lib.hid (show pacc f S j n = pacc f S (j + 1) n by rw [pacc_next, if_neg hjn, Nat.xor_zero])
        go_wp2_with fail
        exact ⟨⟨j + 1, by omega, by go_num, by rw [HN.out], kk⟩, by simp [intOf]; omega⟩
    · obtain rfl : j = m := by omega
      have hjl' : ¬ (j : Int) < (j : Int) := by omega
      go_wp2_with fail
      go_ret
      exact ⟨rfl, kw.trans kk (fun _ hi => .inl hi)⟩

theorem make_u2 (x y : Int) (l m : Nat) (hx : x = l) (hy : y = m) (hl : l ≤ m) (hm : m ≤ 70368744177664) (w : World) :
    (Instr.makeSlice 80 (.int .i64 x) (.int .i64 y)).run Tryz.prog w = .ok (.slice (some ⟨w.heap.size, 0, none⟩) l m) (w.alloc (.cells (uArr (fun _ => 0) m) 148)) := by
  obtain ⟨i, hi, hz, hs, hb⟩ := Tryz.info_u16'
  have hr := run_make (P := Tryz.prog) (w := w) 80 148 i (.int .u16 0) Tryz.underlying80 hi hz .i64 .i64 x y (by omega) (by omega) (by rw [hb]; omega) (by omega)
  subst hx hy
  rw [hs, Int.toNat_natCast, Int.toNat_natCast, Nat.mul_one, show (Value.int IntKind.u16 0).cells = #[Value.int IntKind.u16 0] from rfl, valsArr_made] at hr
  exact hr

set_option maxHeartbeats 4000000 in
set_option maxRecDepth 100000 in
theorem shifted_any (V : Value) (a : Option Addr) (m c b x : Nat) (p : Nat → Nat) (w : World) (hT : HasT w V) (ha : ArgU w a m p) (hm : m ≤ 100000) (hb : b ≤ 100000) (hp : ∀ i, p i < 1024) (hx : x < 1024) :
    Calls Tryz.prog 163 #[V, .slice a m c, .int .i64 b, .int .u16 x] w fun e w' => ∃ a' c', e = .returned (.slice a' (b + m) c') ∧ OwnU w' w.heap.size a' (b + m) c' (shx b x p) ∧ Keep (fun _ => False) w w' := by
  obtain ⟨a1, n1, c1, a2, n2, c2, rfl⟩ := hT.form
  obtain ⟨W, hW⟩ : ∃ W, W = w.alloc (.cells #[.slice a1 n1 c1, .slice a2 n2 c2] 82) := ⟨_, rfl⟩
  have hws : W.heap.size = w.heap.size + 1 := by rw [hW]; simp
  have kw : Keep (fun _ => False) w W := by rw [hW]; exact (Keep.refl _ w).alloc _
  have b0 : Blk W w.heap.size 82 #[.slice a1 n1 c1, .slice a2 n2 c2] := by rw [hW]; exact Blk.new w _ _
  have HT := Lib.hid (hT.keep kw)
  have HA := Lib.hid (ha.keep kw)
  have hmk := make_u2 b (b + m) b (b + m) rfl (by omega) (by omega) (by omega)
  have k0 := (Keep.refl (fun _ => False) W).alloc (.cells (uArr (fun _ => 0) (b + m)) 148)
  have o0 : OwnU (W.alloc (.cells (uArr (fun _ => 0) (b + m)) 148)) (w.heap.size + 1) (some ⟨w.heap.size + 1, 0, none⟩) (b + 0) (b + m) (shx b x p) := by
    refine OwnU.of_row (((RowU.of_blk (Blk.here W _ _ _ hws.symm)).take (by omega)).congr (fun i hi => ?_)) (Nat.le_refl _) (by unfold maxLen; omega)
    unfold shx
    rw [if_pos (by omega)]
  clear hT ha
  go_enter Tryz.func163, Tryz.ntmps163
  go_wp2_with fail
  rw [← hW]
  clear hW hmk
  go_loopw [9, 20] (fun v9 v wr => ∃ (j : Nat) (a' : Option Addr) (c' : Nat), j ≤ m ∧ v = .int .i64 j ∧ v9 = .slice a' (b + j) c' ∧ Hid (OwnU wr (w.heap.size + 1) a' (b + j) c' (shx b x p)) ∧ Keep (fun _ => False) W wr) (fun _ v _ => m - (intOf v).toNat)
  case atStart => exact ⟨0, _, _, by omega, rfl, rfl, Lib.hid o0, k0⟩
  case round =>
    clear o0 k0
    obtain ⟨j, a', c', hj, rfl, rfl, HO, kk⟩ := hrel
    by_cases hjl : j < m
    · have hjl' : (j : Int) < (m : Int) := by omega
      obtain ⟨bA, oA, rfl, hbA, hcA⟩ := HA.out.at_ (by omega)
      have c0 := (kk.cell (p := ⟨bA, oA + j, none⟩) hbA (by simp)).trans (hcA j hjl)
      clear hcA
      have b1 := b0.keep kk (by simp)
      have q0 : wr.cell? ⟨w.heap.size, 0, none⟩ = some (.slice a1 n1 c1) := by rw [b1.cell]; rfl
      have q1 : wr.cell? ⟨w.heap.size, 1, none⟩ = some (.slice a2 n2 c2) := by rw [b1.cell]; rfl
      have hpj := hp j
      go_wp2_with fail
      refine (tmul_lt _ _ _ _ (HT.out.keep kk) hpj hx).mono ?_
      rintro e w3 ⟨rfl, k3⟩
      have k4 := kk.trans k3 (fun _ hi => .inl hi)
      have HO3 := Lib.hid ((HO.out.keep k3).keep ((Keep.refl _ w3).alloc (.cells #[.int .u16 (gm (p j) x : Nat)] 148)))
      have HL := Lib.hid ((Blk.here w3 148 #[.int .u16 (gm (p j) x : Nat)] w3.heap.size rfl).argU (n := 1) (f := fun _ => gm (p j) x) (by omega) (fun _ _ => by have := gm_lt hpj x; omega))
      have K4 := Lib.hid (k4.alloc (.cells #[.int .u16 (gm (p j) x : Nat)] 148))
      have hs4 : w.heap.size + 1 ≤ (w3.alloc (.cells #[.int .u16 (gm (p j) x : Nat)] 148)).heap.size := by have := k4.size; simp; omega
      clear q0 q1 b1 c0 kk k3 k4 HO
      go_wp2_with (refine wpList_append_u rfl (.tmp 24) (.tmp 29) rfl (w.heap.size + 1) _ _ _ (shx b x p) rfl HO3.out _ 1 1 (fun _ => gm (p j) x) rfl HL.out (by omega) hs4 ?_)
      intro a2' c2' w5 o5 g5
      have O5 := Lib.hid (o5.congr (f' := shx b x p) (fun i hi => by
        by_cases h : i < b + j
        · rw [if_pos h]
        · rw [if_neg h]
          obtain rfl : i = b + j := by omega
          unfold shx
          rw [if_neg (by omega), Nat.add_sub_cancel_left, gm_comm hpj hx]))
      have K5 := Lib.hid (K4.out.grown g5 (fun k hk => .inr (by have := HO3.out.lt k hk; omega)))
      clear o5 g5
      go_wp2_with fail
      exact ⟨⟨j + 1, _, _, by omega, by go_num, rfl, O5, K5.out⟩, by simp [intOf]; omega⟩
    · obtain rfl : j = m := by omega
      have hjl' : ¬ (j : Int) < (j : Int) := by omega
      go_wp2_with fail
      go_ret
      exact ⟨_, _, rfl, HO.out.more (by omega), kw.trans kk (fun _ hi => .inl hi)⟩
end Go.Proofs.YtdjgjffgheocfaaGreat

namespace Go.Proofs.YtdjgjffgheocfaaGreat
open Go.RowKit

/-- What the loop of Berlekamp and Massey holds in memory. -/
structure LocSt (w : World) (a1 a2 : Option Addr) (n1 n2 c1 c2 : Nat) (S : Nat → Nat) (n : Nat) (loc old : Nat → Nat) (long by_ last : Nat) (aL aO : Option Addr) (mL mO : Nat) (W : World) : Prop where
  bm : Hid (BM S n loc old long by_ last)
  pl : Hid (IsPol loc mL)
  po : Hid (IsPol old mO)
  hn : n ≤ 16
  hL : mL ≤ 17
  hO : mO ≤ 17
  hb : by_ ≤ 17
  rl : Hid (ArgU W aL mL loc)
  ro : Hid (ArgU W aO mO old)
  t : Blk W w.heap.size 82 #[.slice a1 n1 c1, .slice a2 n2 c2]
  kp : Keep (fun _ => False) w W
theorem BM.by_le {S loc old : Nat → Nat} {n long by_ last : Nat} (h : BM S n loc old long by_ last) : by_ ≤ n + 1 := by
  rcases h.was with ⟨_, _, h, _⟩ | ⟨_, _, _, h, _⟩ <;> omega
theorem Gen.len {f S : Nat → Nat} {L n m : Nat} (h : Gen f L S n) (hm : IsPol f m) : m ≤ L + 1 := by
  rcases Nat.lt_or_ge (L + 1) m with hlt | hge
  · exact absurd (h.zero (m - 1) (by omega)) (hm.lead (by omega))
  · exact hge
theorem BM.begin (S : Nat → Nat) : BM S 0 (lst [1]) (lst [1]) 0 1 1 := BM.start p1.lt rfl (fun i hi => p1.zero i hi)
theorem BM.disc_pacc {S loc old : Nat → Nat} {n long by_ last m : Nat} (h : BM S n loc old long by_ last) (hm : IsPol loc m) : pacc loc S m n = disc loc S long n := by
  rw [pacc_full hm.zero, disc_pmul h.gen.zero h.le]

set_option maxHeartbeats 8000000 in
set_option maxRecDepth 100000 in
theorem locator_any (V : Value) (s : Option Addr) (cs : Nat) (S : Nat → Nat) (w : World) (hT : HasT w V) (hs : ArgU w s 16 S) (hS : ∀ i, S i < 1024) :
    Calls Tryz.prog 147 #[V, .slice s 16 cs] w fun e w' => ∃ (a' : Option Addr) (m long : Nat) (loc : Nat → Nat), e = .returned (.tuple #[.slice a' m m, .int .i64 long]) ∧ ArgU w' a' m loc ∧ IsPol loc m ∧ m ≤ 17 ∧
      (∃ old by_ last, BM S 16 loc old long by_ last) ∧ Keep (fun _ => False) w w' := by
  obtain ⟨a1, n1, c1, a2, n2, c2, rfl⟩ := hT.form
  obtain ⟨W, hW⟩ : ∃ W, W = w.alloc (.cells #[.slice a1 n1 c1, .slice a2 n2 c2] 82) := ⟨_, rfl⟩
  have hws : W.heap.size = w.heap.size + 1 := by rw [hW]; simp
  have kw : Keep (fun _ => False) w W := by rw [hW]; exact (Keep.refl _ w).alloc _
  have b0 : Blk W w.heap.size 82 #[.slice a1 n1 c1, .slice a2 n2 c2] := by rw [hW]; exact Blk.new w _ _
  have HT := Lib.hid hT
  have HS := Lib.hid hs
  have HS1 := Lib.hid hS
  clear hT hs hS
  go_enter Tryz.func147, Tryz.ntmps147
  go_wp2_with fail
  rw [← hW]
  clear hW
  refine wp_scope_jumps2 0 (fun a' W' => ∃ (n : Nat) (loc old : Nat → Nat) (long by_ last : Nat) (aL aO : Option Addr) (mL mO : Nat), a' = { tmps := #[.agg #[.slice a1 n1 c1, .slice a2 n2 c2], .slice s 16 cs, .pointer (some ⟨w.heap.size, 0, none⟩), a'.tmps.getD 3 undef, .slice none 0 0, .int .i64 0, .slice aL mL mL, .slice aO mO mO, .int .i64 long, .int .i64 by_, .int .u16 last, .int .i64 n, a'.tmps.getD 12 undef, a'.tmps.getD 13 undef, a'.tmps.getD 14 undef, a'.tmps.getD 15 undef, a'.tmps.getD 16 undef, a'.tmps.getD 17 undef, a'.tmps.getD 18 undef, a'.tmps.getD 19 undef, a'.tmps.getD 20 undef, a'.tmps.getD 21 undef, a'.tmps.getD 22 undef, a'.tmps.getD 23 undef, a'.tmps.getD 24 undef, a'.tmps.getD 25 undef, a'.tmps.getD 26 undef, a'.tmps.getD 27 undef, a'.tmps.getD 28 undef, a'.tmps.getD 29 undef, a'.tmps.getD 30 undef, a'.tmps.getD 31 undef, a'.tmps.getD 32 undef, a'.tmps.getD 33 undef, a'.tmps.getD 34 undef, a'.tmps.getD 35 undef, a'.tmps.getD 36 undef, a'.tmps.getD 37 undef, a'.tmps.getD 38 undef, a'.tmps.getD 39 undef, a'.tmps.getD 40 undef, a'.tmps.getD 41 undef, a'.tmps.getD 42 undef, a'.tmps.getD 43 undef, a'.tmps.getD 44 undef, a'.tmps.getD 45 undef, a'.tmps.getD 46 undef, a'.tmps.getD 47 undef, a'.tmps.getD 48 undef, a'.tmps.getD 49 undef, a'.tmps.getD 50 undef, a'.tmps.getD 51 undef, a'.tmps.getD 52 undef, a'.tmps.getD 53 undef, a'.tmps.getD 54 undef, a'.tmps.getD 55 undef, a'.tmps.getD 56 undef, a'.tmps.getD 57 undef, a'.tmps.getD 58 undef, a'.tmps.getD 59 undef, a'.tmps.getD 60 undef, a'.tmps.getD 61 undef, a'.tmps.getD 62 undef], defers := [] } ∧ LocSt w a1 a2 n1 n2 c1 c2 S n loc old long by_ last aL aO mL mO W') (fun a' _ => 16 - (intOf (a'.tmps.getD 11 undef)).toNat) rfl ?pass ?first
  case first =>
    intro hrest
    have HRest := Lib.hid hrest
    clear hrest
    have A := Laid.pol W #[.int .u16 1] _ _ p1 (by omega) (uArr_one 1)
    have B := Laid.pol (W.alloc (.cells #[.int .u16 1] 148)) #[.int .u16 1] _ _ p1 (by omega) (uArr_one 1)
    have HD := Lib.hid (show LocSt w a1 a2 n1 n2 c1 c2 S 0 (lst [1]) (lst [1]) 0 1 1 (some ⟨w.heap.size + 1, 0, none⟩) (some ⟨w.heap.size + 1 + 1, 0, none⟩) 1 1 ((W.alloc (.cells #[.int .u16 1] 148)).alloc (.cells #[.int .u16 1] 148)) from {
      bm := Lib.hid (BM.begin S)
      pl := Lib.hid p1
      po := Lib.hid p1
      hn := by omega
      hL := by omega
      hO := by omega
      hb := by omega
      rl := Lib.hid ((A.a _ hws.symm).keep B.k)
      ro := Lib.hid (B.a _ (by simp [hws]))
      t := (b0.alloc _).alloc _
      kp := (kw.comp A.k).comp B.k })
    clear A B b0
    go_wp2_with fail
    go_step3
    rename_i hK
    exact hK _ _ (HRest.out _ _ ⟨0, _, _, 0, 1, 1, _, _, 1, 1, rfl, HD.out⟩)
  case pass =>
    rintro a' W' ⟨n, loc, old, long, by_, last, aL, aO, mL, mO, ha, hs⟩
    obtain ⟨T, hTT⟩ : ∃ T : Nat → Value, ∀ i, a'.tmps.getD i undef = T i := ⟨_, fun _ => rfl⟩
    simp only [hTT] at ha
    clear hTT
    subst ha
    obtain ⟨HBM, HPL, HPO, hn, hL, hO, hb, RL, RO, b1, kp⟩ := hs
    clear b0 kw
    by_cases hn16 : n = 16
    · subst hn16
      go_wp2_with fail
      simp only [Exit.jump]
      go_ret2
      exact ⟨aL, mL, long, loc, rfl, RL.out, HPL.out, hL, ⟨old, by_, last, HBM.out⟩, kp⟩
    · have e0 : ¬ (n : Int) = 16 := by omega
      have e1 : ((n : Int) == 16) = false := by simpa using e0
      have c0 : W'.cell? ⟨w.heap.size, 0, none⟩ = some (.slice a1 n1 c1) := by rw [b1.cell]; rfl
      have c1' : W'.cell? ⟨w.heap.size, 1, none⟩ = some (.slice a2 n2 c2) := by rw [b1.cell]; rfl
      have TW := Lib.hid (HT.out.keep kp)
      have HSW := Lib.hid (HS.out.keep kp)
      have hlast := HBM.out.llt
      have hl0 := HBM.out.l0
      have hdl := disc_lt HBM.out.gen.lt (S := S) long n
      have HE := Lib.hid (HBM.out.disc_pacc HPL.out)
      have hlong := HBM.out.le
      have hby := HBM.out.by_le
      obtain ⟨d, hd⟩ : ∃ d, d = disc loc S long n := ⟨_, rfl⟩
      rw [← hd] at hdl HE
      have HD := Lib.hid hd
      clear hd
      go_wp2_with fail
      refine (gap_any _ _ _ mL _ _ n loc S _ TW.out RL.out HSW.out (by omega) (by omega) HPL.out.lt HS1.out).mono ?_
      rintro e W1 ⟨rfl, k1⟩
      rw [HE.out]
      have b2 := b1.keep k1 (by simp)
      have c2' : W1.cell? ⟨w.heap.size, 0, none⟩ = some (.slice a1 n1 c1) := by rw [b2.cell]; rfl
      have c3' : W1.cell? ⟨w.heap.size, 1, none⟩ = some (.slice a2 n2 c2) := by rw [b2.cell]; rfl
      have TW1 := Lib.hid (TW.out.keep k1)
      clear c0 c1'
      go_wp2_with fail
      refine (tinv_lt _ _ _ TW1.out hlast hl0).mono ?_
      rintro e W2 ⟨rfl, k2⟩
      have k12 := k1.comp k2
      have b3 := b2.keep k2 (by simp)
      have TW2 := Lib.hid (TW1.out.keep k2)
      have RL2 := Lib.hid (RL.out.keep k12)
      have RO2 := Lib.hid (RO.out.keep k12)
      have kp2 := kp.comp k12
      clear c2' c3' b1 b2 k1 k2 k12 kp TW TW1 HSW RL RO
      generalize hi : gi last = iv
      have hiv : iv < 1024 := by rw [← hi]; exact gi_lt _
      have HI := Lib.hid hi
      clear hi
      have kd := (Keep.refl (fun _ => False) W2).drew
      have b4 := b3.keep kd (by simp)
      have d0 : W2.drew.cell? ⟨w.heap.size, 0, none⟩ = some (.slice a1 n1 c1) := by rw [b4.cell]; rfl
      have d1 : W2.drew.cell? ⟨w.heap.size, 1, none⟩ = some (.slice a2 n2 c2) := by rw [b4.cell]; rfl
      have TD := Lib.hid (TW2.out.keep kd)
      have RLD := Lib.hid (RL2.out.keep kd)
      have ROD := Lib.hid (RO2.out.keep kd)
      have kpd := kp2.comp kd
      have hx : gm d iv < 1024 := gm_lt hdl _
      have HPLl := HPL.out.lt
      clear b3 TW2 RL2 RO2 kp2 kd
      go_upto_region 8 with fail
      go_region_held3 (fun w' => w'.cell? ⟨w.heap.size, 0, none⟩ = some (.slice a1 n1 c1) ∧ w'.cell? ⟨w.heap.size, 1, none⟩ = some (.slice a2 n2 c2))
        (first | exact ⟨d0, d1⟩ | exact ⟨f0, f1⟩ | exact ⟨g0, g1⟩ | exact ⟨h0, h1⟩)
        (first
          | (go_at_call 164; refine (tmul_lt _ _ _ _ TD.out hdl hiv).mono ?_; rintro e W3 ⟨rfl, k3⟩; have b5 := b4.keep k3 (by simp); have f0 : W3.cell? ⟨w.heap.size, 0, none⟩ = some (.slice a1 n1 c1) := by { rw [b5.cell]; rfl }; have f1 : W3.cell? ⟨w.heap.size, 1, none⟩ = some (.slice a2 n2 c2) := by { rw [b5.cell]; rfl })
          | (go_at_call 163; refine (shifted_any _ _ mO _ by_ _ old _ (TD.out.keep k3) (ROD.out.keep k3) (by omega) (by omega) HPO.out.lt hx).mono ?_; rintro e W4 ⟨aS, cS, rfl, oS, k4⟩; have b6 := b5.keep k4 (by simp); have g0 : W4.cell? ⟨w.heap.size, 0, none⟩ = some (.slice a1 n1 c1) := by { rw [b6.cell]; rfl }; have g1 : W4.cell? ⟨w.heap.size, 1, none⟩ = some (.slice a2 n2 c2) := by { rw [b6.cell]; rfl }; have AS := Lib.hid (oS.arg (by omega) (fun i _ => by have := shx_lt (f := old) (b := by_) hx i; omega)))
          | (go_at_call 162; refine (add_any _ _ mL (by_ + mO) _ _ loc (shx by_ (gm d iv) old) _ ((RLD.out.keep k3).keep k4) AS.out (by omega) (by omega)).mono ?_; rintro e W5 ⟨aN, mN, rfl, rN, pN, lN, k5⟩; have b7 := b6.keep k5 (by simp); have h0 : W5.cell? ⟨w.heap.size, 0, none⟩ = some (.slice a1 n1 c1) := by { rw [b7.cell]; rfl }; have h1 : W5.cell? ⟨w.heap.size, 1, none⟩ = some (.slice a2 n2 c2) := by { rw [b7.cell]; rfl }))
      have eN : padd (cut loc mL) (cut (shx by_ (gm d iv) old) (by_ + mO)) = bmNext S n loc old long by_ last := by
        rw [HPL.out.cut (Nat.le_refl _), cut_of_lt (shx_lt hx) (fun i hi => by
          unfold shx
          rw [if_neg (by omega), HPO.out.zero _ (by omega), gm_zero_right])]
        unfold bmNext
        rw [← HD.out, HI.out]
      rw [eN] at rN pN
      have RN := Lib.hid (rN.arg (by omega) pN.lt16)
      have k35 := (k3.comp k4).comp k5
      have RL5 := Lib.hid (RLD.out.keep k35)
      have RO5 := Lib.hid (ROD.out.keep k35)
      have kp5 := kpd.comp k35
      have PN := Lib.hid pN
      have EN := Lib.hid eN
      clear d0 d1 f0 f1 g0 g1 h0 h1 rN pN eN k35 k3 k4 k5 kpd RLD ROD AS oS b4 b5 b6 lN TD
      by_cases hd0 : d = 0
      · have hsame := HBM.out.same (by rw [← HD.out]; exact hd0)
        have e3 : ((d : Nat) : Int) = 0 := by omega
        have HD2 := Lib.hid (show LocSt w a1 a2 n1 n2 c1 c2 S (n + 1) loc old long (by_ + 1) last aN aO mN mO W5 from {
          bm := Lib.hid hsame.2
          pl := Lib.hid (hsame.1 ▸ PN.out)
          po := HPO
          hn := by omega
          hL := by have h1 := hsame.2.gen.len (hsame.1 ▸ PN.out); omega
          hO := hO
          hb := by omega
          rl := Lib.hid (hsame.1 ▸ RN.out)
          ro := RO5
          t := b7
          kp := kp5 })
        subst hd0
        clear e3
        go_wp2_with fail
        go_step3
        refine ⟨rfl, ⟨n + 1, _, _, long, by_ + 1, last, _, _, mN, mO, rfl, HD2.out⟩, ?_⟩
        simp [intOf]
        omega
      · have e3 : ¬ ((d : Nat) : Int) = 0 := by omega
        have e4 : (((d : Nat) : Int) != 0) = true := by simpa using e3
        by_cases hl : 2 * long < n + 1
        · have e5 : 2 * (long : Int) < (n : Int) + 1 := by omega
          have e7 : (n : Int) + 1 - (long : Int) = ((n + 1 - long : Nat) : Int) := by omega
          have hturn := HBM.out.turn HS1.out hl (by rw [← HD.out]; exact hd0)
          rw [← HD.out] at hturn
          have HD2 := Lib.hid (show LocSt w a1 a2 n1 n2 c1 c2 S (n + 1) (bmNext S n loc old long by_ last) loc (n + 1 - long) 1 d aN aL mN mL W5 from {
            bm := Lib.hid hturn
            pl := PN
            po := HPL
            hn := by omega
            hL := by have h1 := hturn.gen.len PN.out; omega
            hO := hL
            hb := by omega
            rl := RN
            ro := RL5
            t := b7
            kp := kp5 })
          clear hturn
          go_wp2_with fail
          go_step3
          refine ⟨rfl, ⟨n + 1, _, _, n + 1 - long, 1, d, _, _, mN, mL, rfl, HD2.out⟩, ?_⟩
          simp [intOf]
          omega
        · have e5 : ¬ 2 * (long : Int) < (n : Int) + 1 := by omega
          have hstay := HBM.out.stay HS1.out (by omega)
          have HD2 := Lib.hid (show LocSt w a1 a2 n1 n2 c1 c2 S (n + 1) (bmNext S n loc old long by_ last) old long (by_ + 1) last aN aO mN mO W5 from {
            bm := Lib.hid hstay
            pl := PN
            po := HPO
            hn := by omega
            hL := by have h1 := hstay.gen.len PN.out; omega
            hO := hO
            hb := by omega
            rl := RN
            ro := RO5
            t := b7
            kp := kp5 })
          clear hstay
          go_wp2_with fail
          go_step3
          refine ⟨rfl, ⟨n + 1, _, _, long, by_ + 1, last, _, _, mN, mO, rfl, HD2.out⟩, ?_⟩
          simp [intOf]
          omega
end Go.Proofs.YtdjgjffgheocfaaGreat

namespace Go.Proofs.YtdjgjffgheocfaaGreat
open Go.RowKit

theorem OwnU.take {w : World} {N : Nat} {a : Option Addr} {n m c : Nat} {f : Nat → Nat} (h : OwnU w N a n c f) (hm : m ≤ n) : OwnU w N a m c f := by
  refine ⟨by simp [uList], ?_⟩
  rcases h.2 with ⟨e, e0⟩ | ⟨g, cap, cs, e, hN, hb, hn, hx, hs, ht⟩
  · injection e with e1 e2 e3
    obtain rfl : m = 0 := by omega
    exact .inl ⟨by rw [e1, e3], rfl⟩
  · injection e with e1 e2 e3
    refine .inr ⟨g, cap, cs, by rw [e1, e3], hN, hb, by omega, hx, hs, ?_⟩
    apply List.ext_getElem?
    intro i
    have e4 := congrArg (fun l => l[i]?) ht
    simp only [List.getElem?_take, uList_get] at e4 ⊢
    by_cases hi : i < m
    · rw [if_pos (by omega), if_pos (show i < n by omega)] at e4
      rw [if_pos (by omega), if_pos hi]
      exact e4
    · rw [if_neg (by omega), if_neg hi]
theorem exp_neg (k : Nat) (hk : k ≤ 1022) : ex ((-(k : Int)) % 1023).toNat = inv k := by
  refine gm_cancel (ex_lt k) (ex_lt _) (inv_lt k) (ex_pos k) ?_
  rw [inv_mul, ex_add]
  rcases Nat.eq_zero_or_pos k with h | h
  · subst h
    rfl
  · rw [show k + ((-(k : Int)) % 1023).toNat = 1023 by omega, ex_1023]
/-- The evaluator, and the slope of the locator, at y. -/
def evalE (loc S : Nat → Nat) (y : Nat) : Nat := xs 16 (fun j => gm (pmul loc S j) (yp y j))
def slopeE (loc : Nat → Nat) (y : Nat) : Nat := xs 16 (fun j => gm (pslope loc j) (yp y j))
/-- Symbol i of the mended word. -/
noncomputable def mendV (p : Nat → Nat) (n : Nat) (loc S : Nat → Nat) (m : Nat) : Nat → Nat := fun i =>
  if hor loc (inv (n - 1 - i)) 0 m = 0 then p i ^^^ gm (evalE loc S (inv (n - 1 - i))) (gi (slopeE loc (inv (n - 1 - i)))) else p i
/-- How many places are roots. -/
noncomputable def rootN (n : Nat) (loc : Nat → Nat) (m : Nat) : Nat → Nat
  | 0 => 0
  | i + 1 => rootN n loc m i + if hor loc (inv (n - 1 - i)) 0 m = 0 then 1 else 0
theorem rootN_le (n : Nat) (loc : Nat → Nat) (m i : Nat) : rootN n loc m i ≤ i := by
  induction i with
  | zero => simp [rootN]
  | succ i ih => unfold rootN; split <;> omega
noncomputable def mendK (p : Nat → Nat) (n : Nat) (loc S : Nat → Nat) (m i : Nat) : Nat → Nat := fun k => if k < i then mendV p n loc S m k else p k
theorem mendK_next (p : Nat → Nat) (n : Nat) (loc S : Nat → Nat) (m i k : Nat) : mendK p n loc S m (i + 1) k = if k = i then mendV p n loc S m i else mendK p n loc S m i k := by
  unfold mendK
  by_cases h : k = i
  · subst h
    rw [if_pos (by omega), if_pos rfl]
  · rw [if_neg h]
    by_cases h2 : k < i
    · rw [if_pos h2, if_pos (by omega)]
    · rw [if_neg h2, if_neg (by omega)]
theorem mendK_same (p : Nat → Nat) (n : Nat) (loc S : Nat → Nat) (m i : Nat) (h : hor loc (inv (n - 1 - i)) 0 m ≠ 0) (k : Nat) : mendK p n loc S m (i + 1) k = mendK p n loc S m i k := by
  rw [mendK_next]
  by_cases e : k = i
  · subst e
    rw [if_pos rfl]
    unfold mendK mendV
    rw [if_neg h, if_neg (by omega)]
  · rw [if_neg e]
/-- What the values' row says at y. -/
theorem values_at {loc S : Nat → Nat} {m mv lS y : Nat} (hl : IsPol loc m) (hm : m ≤ 17) (hS : ∀ i, S i < 1024) (hy : y < 1024) (hls : IsPol (cut S 16) lS) (hl16 : lS ≤ 16) (hv : IsPol (pmulM (cut S 16) lS loc m) mv) :
    hor (cut (pmulM (cut S 16) lS loc m) (min mv 16)) y 0 (min mv 16) = evalE loc S y := by
  rw [pmulM_eq hls hl (by omega)] at hv ⊢
  rw [← yp_hor (m := min mv 16) (fun i => cut_lt _ _ i) hy (by omega) (fun i h1 _ => cut_zero _ h1)]
  unfold evalE
  exact xs_congr 16 fun j hj => by
    show gm (cut (pmul (cut S 16) loc) (min mv 16) j) (yp y j) = gm (pmul loc S j) (yp y j)
    congr 1
    have e : pmul loc S j = pmul (cut S 16) loc j := by
      rw [pmul_comm (cut_lt S 16) hl.lt]
      exact pmul_low hj fun i hi => by rw [cut_in _ hi, Nat.mod_eq_of_lt (hS i)]
    by_cases h : j < min mv 16
    · rw [cut_in _ h, Nat.mod_eq_of_lt (hv.lt j), e]
    · rw [cut_zero _ (by omega), e, hv.zero j (by omega)]
theorem slope_at {loc : Nat → Nat} {ms y : Nat} (hy : y < 1024) (hs : IsPol (pslope loc) ms) (hms : ms ≤ 16) : hor (cut (pslope loc) ms) y 0 ms = slopeE loc y := by
  rw [hs.cut (Nat.le_refl _), ← yp_hor (m := ms) hs.lt hy hms (fun i h1 _ => hs.zero i h1)]
  rfl
theorem evalE_lt {loc S : Nat → Nat} (hl : ∀ i, loc i < 1024) (y : Nat) : evalE loc S y < 1024 := xs_lt _ fun j _ => gm_lt (pmul_lt hl j) _
theorem slopeE_lt {loc : Nat → Nat} (hl : ∀ i, loc i < 1024) (y : Nat) : slopeE loc y < 1024 := xs_lt _ fun j _ => gm_lt (slope_lt hl j) _
theorem mendV_lt {p loc S : Nat → Nat} {n m : Nat} (hp : ∀ i, i < n → p i < 1024) (hl : ∀ i, loc i < 1024) (i : Nat) (hi : i < n) : mendV p n loc S m i < 1024 := by
  unfold mendV
  split
  · exact xor_lt (hp i hi) (gm_lt (evalE_lt hl _) _)
  · exact hp i hi

set_option maxHeartbeats 8000000 in
set_option maxRecDepth 100000 in
theorem mended_any (V : Value) (a al s : Option Addr) (n c m cs : Nat) (p loc S : Nat → Nat) (w : World) (hT : HasT w V) (ha : ArgU w a n p) (hl : ArgU w al m loc) (hs : ArgU w s 16 S) (hn : n ≤ 1023) (h0 : 0 < n)
    (hp : ∀ i, i < n → p i < 1024) (hloc : IsPol loc m) (hm : m ≤ 17) (hS : ∀ i, S i < 1024) (hcs : 16 ≤ cs) :
    Calls Tryz.prog 148 #[V, .slice a n c, .slice al m m, .slice s 16 cs] w fun e w' => ∃ a' c', e = .returned (.tuple #[.slice a' n c', .int .i64 (rootN n loc m n : Nat)]) ∧ OwnU w' w.heap.size a' n c' (mendV p n loc S m) ∧ Keep (fun _ => False) w w' := by
  obtain ⟨a1, n1, c1, a2, n2, c2, rfl⟩ := hT.form
  obtain ⟨W, hW⟩ : ∃ W, W = w.alloc (.cells #[.slice a1 n1 c1, .slice a2 n2 c2] 82) := ⟨_, rfl⟩
  have hws : W.heap.size = w.heap.size + 1 := by rw [hW]; simp
  have kw : Keep (fun _ => False) w W := by rw [hW]; exact (Keep.refl _ w).alloc _
  have b0 : Blk W w.heap.size 82 #[.slice a1 n1 c1, .slice a2 n2 c2] := by rw [hW]; exact Blk.new w _ _
  have HT := Lib.hid (hT.keep kw)
  have HA := Lib.hid (ha.keep kw)
  have HL := Lib.hid (hl.keep kw)
  have HS := Lib.hid (hs.keep kw)
  have HSl := Lib.hid hS
  have HP := Lib.hid hp
  have HLP := Lib.hid hloc
  clear hT ha hl hs hS hp hloc
  go_enter Tryz.func148, Tryz.ntmps148
  go_wp2_with fail
  rw [← hW]
  clear hW
  refine (clone_any _ _ _ _ _ HA.out (by omega)).mono ?_
  rintro e w1 ⟨aO, cO, rfl, o1, k1⟩
  obtain ⟨gO, rfl, hgO, hcO, r1⟩ := o1.row h0
  have b1 := b0.keep k1 (by simp)
  have hg1 : gO < w1.heap.size := r1.lt
  have d0 : w1.cell? ⟨w.heap.size, 0, none⟩ = some (.slice a1 n1 c1) := by rw [b1.cell]; rfl
  have d1 : w1.cell? ⟨w.heap.size, 1, none⟩ = some (.slice a2 n2 c2) := by rw [b1.cell]; rfl
  obtain ⟨lS, hlS⟩ : ∃ lS, lS = topB (cut S 16) 16 := ⟨_, rfl⟩
  have HLS := Lib.hid (show IsPol (cut S 16) lS by rw [hlS]; exact topB_pol (cut_lt S 16) (fun i hi => cut_zero S hi))
  have hls16 : lS ≤ 16 := by rw [hlS]; exact topB_le _ _
  have HCL := Lib.hid (show IsPol (cut loc m) m by rw [HLP.out.cut (Nat.le_refl _)]; exact HLP.out)
  have T1 := Lib.hid (HT.out.keep k1)
  have S1 := Lib.hid (HS.out.keep k1)
  have L1 := Lib.hid (HL.out.keep k1)
  clear o1 hlS HA
  go_wp2_with fail
  refine (mul_any _ _ _ 16 m cs m _ _ lS m HLS.out HCL.out _ T1.out S1.out L1.out (by omega) (by omega) hcs (Nat.le_refl _)).mono ?_
  rintro e w2 ⟨aV, mv, rfl, rV, pV, lV, k2⟩
  rw [HLP.out.cut (Nat.le_refl _)] at rV pV
  have hmn : (if 16 < (mv : Int) then 16 else (mv : Int)) = ((min mv 16 : Nat) : Int) := by split <;> omega
  have hmn2 : (if (16 : Int) < (mv : Int) then (16 : Int) else (mv : Int)) = ((min mv 16 : Nat) : Int) := by split <;> omega
  have OV := Lib.hid (((rV.own (by unfold maxLen; omega)).take (show min mv 16 ≤ mv by omega)).more (show gO + 1 ≤ w1.heap.size by omega))
  have PV := Lib.hid pV
  have L2 := Lib.hid (L1.out.keep k2)
  have r2 := r1.keep k2 (by simp)
  have k12 := k1.comp k2
  obtain ⟨kv, hkv⟩ : ∃ kv, kv = min mv 16 := ⟨_, rfl⟩
  rw [← hkv] at hmn hmn2 OV
  have HKV := Lib.hid hkv
  have hkv1 : (kv : Int) ≤ (mv : Int) := by omega
  have hkv2 : kv ≤ 16 := by omega
  clear d0 d1 b1 rV pV L1 S1 T1 r1 hkv
  go_wp2_with fail
  refine (slope_any _ _ _ _ _ L2.out (by omega)).mono ?_
  rintro e w3 ⟨aS, ms, rfl, rS, pS, lS2, k3⟩
  rw [HLP.out.cut (Nat.le_refl _)] at rS pS
  have PS := Lib.hid pS
  have OS := Lib.hid ((rS.own (by unfold maxLen; omega)).more (show gO + 1 ≤ w2.heap.size by have := r2.lt; omega))
  have OV3 := Lib.hid (OV.out.keep k3)
  have r3 := Lib.hid (r2.keep k3 (by simp))
  have k13 := k12.comp k3
  clear r2 k12 k1 k2 k3 OV rS pS L2 hmn hmn2 hkv1
  generalize hv : pmulM (cut S 16) lS loc m = v at *
  have HV := Lib.hid (fun y (hy : y < 1024) => show hor (cut v kv) y 0 kv = evalE loc S y by
    have h := values_at HLP.out hm HSl.out hy HLS.out hls16 (by rw [hv]; exact PV.out)
    rw [hv, ← HKV.out] at h
    exact h)
  have HVS := Lib.hid (fun y (hy : y < 1024) => slope_at (loc := loc) hy PS.out (by omega))
  have HVl := Lib.hid PV.out.lt16
  have HSlt := Lib.hid PS.out.lt16
  clear hv
  have hms : ms ≤ 16 := by omega
  clear lS2 lV
  go_wp2_with fail
  go_loopw [13, 33] (fun v13 v33 wr => ∃ i : Nat, i ≤ n ∧ v33 = .int .i64 i ∧ v13 = .int .i64 (rootN n loc m i : Nat) ∧ Hid (RowU wr gO cO n (mendK p n loc S m i)) ∧ Hid (OwnU wr (gO + 1) aV kv mv v) ∧ Hid (OwnU wr (gO + 1) aS ms ms (pslope loc)) ∧ Keep (fun _ => False) W wr) (fun _ v33 _ => n - (intOf v33).toNat)
  case atStart =>
    refine ⟨0, by omega, rfl, rfl, Lib.hid (r3.out.congr (fun i _ => ?_)), OV3, OS, k13⟩
    unfold mendK
    rw [if_neg (by omega)]
  case round =>
    clear r3 OV3 OS k13
    obtain ⟨i, hi, rfl, rfl, HR, OV, OS, kk⟩ := hrel
    by_cases hin : i < n
    · have hin' : (i : Int) < (n : Int) := by omega
      have b1 := b0.keep kk (by simp)
      have d0 : wr.cell? ⟨w.heap.size, 0, none⟩ = some (.slice a1 n1 c1) := by rw [b1.cell]; rfl
      have d1 : wr.cell? ⟨w.heap.size, 1, none⟩ = some (.slice a2 n2 c2) := by rw [b1.cell]; rfl
      have e1 : (n : Int) - 1 - (i : Int) = ((n - 1 - i : Nat) : Int) := by omega
      have HY := Lib.hid (exp_neg (n - 1 - i) (by omega))
      have TW := Lib.hid (HT.out.keep kk)
      have hrl := rootN_le n loc m i
      have HRN := Lib.hid (show rootN n loc m (i + 1) = rootN n loc m i + if hor loc (inv (n - 1 - i)) 0 m = 0 then 1 else 0 from rfl)
      have hy := inv_lt (n - 1 - i)
      go_wp2_with fail
      refine (exp_any _ _ _ TW.out).mono ?_
      rintro e w4 ⟨rfl, k4⟩
      rw [HY.out]
      clear HY e1
      obtain ⟨y, hyy⟩ : ∃ y, y = inv (n - 1 - i) := ⟨_, rfl⟩
      rw [← hyy] at hy HRN
      rw [← hyy]
      have HYY := Lib.hid hyy
      clear hyy
      have hym : y % 1024 = y := Nat.mod_eq_of_lt hy
      have kk4 := kk.comp k4
      have b4 := b1.keep k4 (by simp)
      have f0 : w4.cell? ⟨w.heap.size, 0, none⟩ = some (.slice a1 n1 c1) := by rw [b4.cell]; rfl
      have f1 : w4.cell? ⟨w.heap.size, 1, none⟩ = some (.slice a2 n2 c2) := by rw [b4.cell]; rfl
      have T4 := Lib.hid (TW.out.keep k4)
      have R4 := Lib.hid (HR.out.keep k4 (by simp))
      have OV4 := Lib.hid (OV.out.keep k4)
      have OS4 := Lib.hid (OS.out.keep k4)
      have L4 := Lib.hid (HL.out.keep kk4)
      have HYM := Lib.hid hym
      clear d0 d1 b1 k4 kk TW HR OV OS hym
      go_wp2_with fail
      refine (at_any _ _ _ _ _ _ _ T4.out L4.out).mono ?_
      rw [HYM.out, HLP.out.cut (Nat.le_refl _)]
      rintro e w5 ⟨rfl, k5⟩
      have kk5 := kk4.comp k5
      have b5 := b4.keep k5 (by simp)
      have T5 := Lib.hid (T4.out.keep k5)
      have R5 := Lib.hid (R4.out.keep k5 (by simp))
      have OV5 := Lib.hid (OV4.out.keep k5)
      have OS5 := Lib.hid (OS4.out.keep k5)
      clear f0 f1 b4 k5 kk4 T4 R4 OV4 OS4 L4
      obtain ⟨r, hr⟩ : ∃ r, r = hor loc y 0 m := ⟨_, rfl⟩
      rw [← hr]
      rw [← hr] at HRN
      have HRR := Lib.hid hr
      clear hr
      by_cases hr0 : r = 0
      · subst hr0
        have HN := Lib.hid (show mendV p n loc S m i = p i ^^^ gm (evalE loc S y) (gi (slopeE loc y)) by
          unfold mendV
          rw [← HYY.out, if_pos HRR.out.symm])
        have HRN1 := Lib.hid (show rootN n loc m (i + 1) = rootN n loc m i + 1 by rw [HRN.out, if_pos rfl])
        clear HRN
        go_upto_region 11 with fail
        have q0 : ∀ z : KeptBy w5, z.v.cell? ⟨w.heap.size, 0, none⟩ = some (.slice a1 n1 c1) := fun z => z.cell b5.lt (by rw [b5.cell]; rfl)
        have q1 : ∀ z : KeptBy w5, z.v.cell? ⟨w.heap.size, 1, none⟩ = some (.slice a2 n2 c2) := fun z => z.cell b5.lt (by rw [b5.cell]; rfl)
        have HSA := Lib.hid (HVS.out y hy)
        have hsl := slopeE_lt HLP.out.lt y
        have HSM := Lib.hid (Nat.mod_eq_of_lt hsl)
        obtain ⟨D, hD⟩ : ∃ D, D = slopeE loc y := ⟨_, rfl⟩
        rw [← hD] at hsl HSM HSA HN
        clear hD
        have hAt : ∀ z : KeptBy w5, Calls Tryz.prog 157 #[.agg #[.slice a1 n1 c1, .slice a2 n2 c2], .slice aS ms ms, .int .u16 y] z.v fun e w' => e = .returned (.int .u16 (D : Nat)) ∧ Keep (fun _ => False) z.v w' := fun z => by
          have h := at_any _ aS ms ms y (pslope loc) z.v (T5.out.keep z.h) ((OS5.out.keep z.h).arg (by omega) (fun i _ => HSlt.out i))
          rw [HYM.out, HSA.out] at h
          exact h
        have hInv : ∀ z : KeptBy w5, Calls Tryz.prog 161 #[.agg #[.slice a1 n1 c1, .slice a2 n2 c2], .int .u16 D] z.v fun e w' => e = .returned (.tuple #[.int .u16 (gi D : Nat), .bool (D % 1024 != 0)]) ∧ Keep (fun _ => False) z.v w' := fun z => by
          have h := tinv_any _ D z.v (T5.out.keep z.h) _ (Lib.hid rfl)
          rw [show gi (D % 1024) = gi D by rw [HSM.out]] at h
          exact h
        refine wp_region_kept (by kernel_rfl) (by kernel_rfl) ?_
        repeat (quiet_step (first
          | (go_at_call 157; exact kept_of (hAt _))
          | (go_at_call 161; exact kept_of (hInv _))))
        refine wpQuiet_nil ?_
        rintro w6 ⟨⟨_, k6⟩, rfl⟩
        clear q0 q1 hAt hInv
        have kk6 := kk5.comp k6
        have b6 := b5.keep k6 (by simp)
        have T6 := Lib.hid (T5.out.keep k6)
        have R6 := R5.out.keep k6 (by simp)
        have OV6 := Lib.hid (OV5.out.keep k6)
        have OS6 := Lib.hid (OS5.out.keep k6)
        have hpi := HP.out i hin
        have hmk : mendK p n loc S m i i = p i := by unfold mendK; rw [if_neg (by omega)]
        have cR := R6.val hin
        rw [hmk] at cR
        have zR := R6.frozen i
        have lR := R6.lt
        have R6H := Lib.hid R6
        clear hmk R6 b5 k6 kk5 T5 R5 OV5 OS5
        have q0 : ∀ z : KeptBy w6, z.v.cell? ⟨w.heap.size, 0, none⟩ = some (.slice a1 n1 c1) := fun z => z.cell b6.lt (by rw [b6.cell]; rfl)
        have q1 : ∀ z : KeptBy w6, z.v.cell? ⟨w.heap.size, 1, none⟩ = some (.slice a2 n2 c2) := fun z => z.cell b6.lt (by rw [b6.cell]; rfl)
        have q2 : ∀ z : KeptBy w6, z.v.cell? ⟨gO, i, none⟩ = some (.int .u16 (p i : Nat)) := fun z => z.cell lR cR
        have HVA := Lib.hid (HV.out y hy)
        have hel := evalE_lt (S := S) HLP.out.lt y
        obtain ⟨E, hE⟩ : ∃ E, E = evalE loc S y := ⟨_, rfl⟩
        rw [← hE] at hel HVA HN
        clear hE
        have hgD : gi D < 1024 := gi_lt _
        obtain ⟨ID, hID⟩ : ∃ ID, ID = gi D := ⟨_, rfl⟩
        rw [← hID] at hgD HN
        rw [← hID]
        clear hID
        have hgm : gm E ID < 1024 := gm_lt hel _
        have hAt : ∀ z : KeptBy w6, Calls Tryz.prog 157 #[.agg #[.slice a1 n1 c1, .slice a2 n2 c2], .slice aV kv mv, .int .u16 y] z.v fun e w' => e = .returned (.int .u16 (E : Nat)) ∧ Keep (fun _ => False) z.v w' := fun z => by
          have h := at_any _ aV kv mv y v z.v (T6.out.keep z.h) ((OV6.out.keep z.h).arg (by omega) (fun i _ => HVl.out i))
          rw [HYM.out, HVA.out] at h
          exact h
        go_upto_region 12 with fail
        refine wp_region_kept_tail 15 (by kernel_rfl) (by kernel_rfl) ?_
        simp only [List.take_succ_cons, List.take_zero, List.drop_succ_cons, List.drop_zero]
        repeat (quiet_step (first
          | (go_at_call 157; exact kept_of (hAt _))
          | (go_at_call 164; exact kept_of (tmul_lt _ _ _ _ (T6.out.keep (KeptBy.h _)) hel hgD))
          | (go_at_call 167; exact kept_of (fadd_kept _ _ _ hpi hgm))))
        refine wpQuiet_nil ?_
        rintro w7 ⟨⟨_, k7⟩, rfl⟩
        clear q0 q1 q2 hAt cR zR
        have R7 := R6H.out.keep k7 (by simp)
        have cR := R7.val hin
        have zR := R7.frozen i
        have OV7 := Lib.hid ((OV6.out.keep k7).far (p := ⟨gO, i, none⟩) (Nat.lt_succ_self gO) (.int .u16 (p i ^^^ gm E ID : Nat)))
        have OS7 := Lib.hid ((OS6.out.keep k7).far (p := ⟨gO, i, none⟩) (Nat.lt_succ_self gO) (.int .u16 (p i ^^^ gm E ID : Nat)))
        have K7 := Lib.hid ((kk6.comp k7).setCell (p := ⟨gO, i, none⟩) (.inr hgO) (.int .u16 (p i ^^^ gm E ID : Nat)))
        have HR7 := Lib.hid (R7.store i (p i ^^^ gm E ID) (f' := mendK p n loc S m (i + 1)) (fun k _ => by rw [mendK_next, HN.out]))
        clear R7 b6 kk6 k7 T6 OV6 OS6 R6H
        go_wp2_with fail
        exact ⟨⟨i + 1, by omega, by go_num, by rw [HRN1.out]; go_num, HR7, OV7, OS7, K7.out⟩, by simp [intOf]; omega⟩
      · have e3 : ¬ ((r : Nat) : Int) = 0 := by omega
        have e4 : (((r : Nat) : Int) != 0) = true := by simpa using e3
        have HN := Lib.hid (R5.out.congr (fun k _ => (mendK_same p n loc S m i (by rw [← HYY.out, ← HRR.out]; exact hr0) k).symm))
        have HRN1 := Lib.hid (show rootN n loc m (i + 1) = rootN n loc m i by rw [HRN.out, if_neg hr0, Nat.add_zero])
        go_wp2_with fail
        exact ⟨⟨i + 1, by omega, by go_num, by rw [HRN1.out], HN, OV5, OS5, kk5⟩, by simp [intOf]; omega⟩
    · obtain rfl : i = n := by omega
      have hin' : ¬ (i : Int) < (i : Int) := by omega
      go_wp2_with fail
      go_ret2
      exact ⟨_, cO, rfl, OwnU.of_row (HR.out.congr (fun k hk => by unfold mendK; rw [if_pos hk])) (by omega) hcO, kw.comp kk⟩
end Go.Proofs.YtdjgjffgheocfaaGreat

namespace Go.Proofs.YtdjgjffgheocfaaGreat
open Go.RowKit

/-- What a decoder answers at a word that may be. -/
def DecR (w' : World) (N : Nat) (p : Nat → Nat) (n : Nat) (e : Ending) : Prop :=
  (∃ (q : Nat → Nat) (d : Nat) (a' : Option Addr) (c' : Nat), Near p n q d ∧ e = .returned (.tuple #[.slice a' n c', .int .i64 d, .int .i64 0]) ∧ OwnU w' N a' n c' q) ∨
  ((∀ q d, ¬ Near p n q d) ∧ e = .returned (.tuple #[.slice none 0 0, .int .i64 0, .int .i64 4]))
theorem rootN_cnt {n : Nat} {loc p q : Nat → Nat} {m : Nat} : ∀ k, k ≤ n → (∀ i, i < n → (hor loc (inv (n - 1 - i)) 0 m = 0 ↔ p i ≠ q i)) → rootN n loc m k = cntNe p q k
  | 0, _, _ => rfl
  | k + 1, hk, h => by
    rw [rootN, cntNe, rootN_cnt k (by omega) h]
    congr 1
    by_cases e : p k = q k
    · rw [if_neg (fun h0 => (h k (by omega)).1 h0 e), if_pos e]
    · rw [if_pos ((h k (by omega)).2 e), if_neg e]
/-- Where a word of the code is near, what the loop found passes each test. -/
theorem near_pass {p q loc old : Nat → Nat} {n d long by_ last m : Nat} (hn : n ≤ 1023) (hp : ∀ i, i < n → p i < 1024) (h : Near p n q d) (hb : BM (synW p n) 16 loc old long by_ last) (hm : IsPol loc m) :
    long ≤ 8 ∧ m = long + 1 ∧ rootN n loc m n = long ∧ cntNe (mendV p n loc (synW p n) m) p n = long ∧ (∀ i, i < n → mendV p n loc (synW p n) m i = q i) ∧ long = d := by
  obtain ⟨h1, h2, h3, h4⟩ := bm_near hn hp h hb hm
  have hle := h.le
  obtain rfl : m = long + 1 := by omega
  have hv : ∀ i, val loc long (inv i) = hor loc (inv i) 0 (long + 1) := fun i => val_hor hb.gen.lt (inv_lt i)
  have hmv : ∀ i, i < n → mendV p n loc (synW p n) (long + 1) i = q i := fun i hi => by
    unfold mendV
    by_cases e : hor loc (inv (n - 1 - i)) 0 (long + 1) = 0
    · rw [if_pos e]
      exact (h4 i hi (by rw [hv]; exact e)).2.symm
    · rw [if_neg e]
      by_cases hpq : p i = q i
      · exact hpq
      · exact absurd ((hv _).symm.trans ((h3 i hi).2 hpq)) e
  refine ⟨by omega, rfl, ?_, ?_, hmv, h1⟩
  · rw [rootN_cnt n (Nat.le_refl _) (fun i hi => by rw [← hv]; exact h3 i hi), cntNe_comm, h.dist, h1]
  · rw [cntNe_congr n hmv (fun _ _ => rfl), h.dist, h1]
theorem near_self {p : Nat → Nat} {n : Nat} (hp : ∀ i, i < n → p i < 1024) (h : ∀ j, j < 16 → synW p n j = 0) : Near p n p 0 :=
  ⟨hp, h, cntNe_zero.2 (fun _ _ => rfl), by omega⟩

set_option maxHeartbeats 4000000 in
theorem dec_size (V : Value) (a : Option Addr) (n c : Nat) (w : World) (hT : HasT w V) (hn : n ≤ 16 ∨ 1023 < n) :
    Calls Tryz.prog 132 #[V, .slice a n c] w fun e w' => e = .returned (.tuple #[.slice none 0 0, .int .i64 0, .int .i64 3]) ∧ Keep (fun _ => False) w w' := by
  obtain ⟨a1, n1, c1, a2, n2, c2, rfl⟩ := hT.form
  by_cases h : n ≤ 16
  · have e1 : decide ((n : Int) ≤ 16) = true := by simp; omega
    have e2 : (n : Int) ≤ 16 := by omega
    go_enter Tryz.func132, Tryz.ntmps132
    go_wp2_with fail
    go_ret3
    exact ⟨rfl, (Keep.refl _ w).alloc _⟩
  · have e1 : decide ((n : Int) ≤ 16) = false := by simp; omega
    have e2 : ¬ (n : Int) ≤ 16 := by omega
    have e3 : (1023 : Int) < (n : Int) := by omega
    go_enter Tryz.func132, Tryz.ntmps132
    go_wp2_with fail
    go_ret3
    exact ⟨rfl, (Keep.refl _ w).alloc _⟩
set_option maxHeartbeats 4000000 in
theorem dec_arg (V : Value) (a : Option Addr) (n c : Nat) (p : Nat → Nat) (w : World) (hT : HasT w V) (ha : ArgU w a n p) (hn : 16 < n) (hn2 : n ≤ 1023) (hx : ∃ i, i < n ∧ 1024 ≤ p i) :
    Calls Tryz.prog 132 #[V, .slice a n c] w fun e w' => e = .returned (.tuple #[.slice none 0 0, .int .i64 0, .int .i64 1]) ∧ Keep (fun _ => False) w w' := by
  obtain ⟨a1, n1, c1, a2, n2, c2, rfl⟩ := hT.form
  have e1 : decide ((n : Int) ≤ 16) = false := by simp; omega
  have e2 : ¬ (n : Int) ≤ 16 := by omega
  have e3 : ¬ (1023 : Int) < (n : Int) := by omega
  have k0 := (Keep.refl (fun _ => False) w).alloc (.cells #[.slice a1 n1 c1, .slice a2 n2 c2] 82)
  have HA := Lib.hid (ha.keep k0)
  have HX := Lib.hid hx
  clear ha hx
  go_enter Tryz.func132, Tryz.ntmps132
  go_wp2_with fail
  refine (contains_over _ _ _ _ _ HA.out).mono ?_
  rintro e w1 ⟨b, rfl, hb, k1⟩
  obtain rfl : b = true := hb.2 HX.out
  have k := k0.comp k1
  go_wp2_with fail
  go_ret3
  exact ⟨rfl, k⟩

set_option maxHeartbeats 8000000 in
set_option maxRecDepth 100000 in
theorem dec_any (V : Value) (a : Option Addr) (n c : Nat) (p : Nat → Nat) (w : World) (hT : HasT w V) (ha : ArgU w a n p) (hn : 16 < n) (hn2 : n ≤ 1023) (hp : ∀ i, i < n → p i < 1024) :
    Calls Tryz.prog 132 #[V, .slice a n c] w fun e w' => DecR w' w.heap.size p n e ∧ Keep (fun _ => False) w w' := by
  obtain ⟨a1, n1, c1, a2, n2, c2, rfl⟩ := hT.form
  have e1 : decide ((n : Int) ≤ 16) = false := by simp; omega
  have e2 : ¬ (n : Int) ≤ 16 := by omega
  have e3 : ¬ (1023 : Int) < (n : Int) := by omega
  obtain ⟨W, hW⟩ : ∃ W, W = w.alloc (.cells #[.slice a1 n1 c1, .slice a2 n2 c2] 82) := ⟨_, rfl⟩
  have hws : W.heap.size = w.heap.size + 1 := by rw [hW]; simp
  have kw : Keep (fun _ => False) w W := by rw [hW]; exact (Keep.refl _ w).alloc _
  have b0 : Blk W w.heap.size 82 #[.slice a1 n1 c1, .slice a2 n2 c2] := by rw [hW]; exact Blk.new w _ _
  have HT := Lib.hid (hT.keep kw)
  have HA := Lib.hid (ha.keep kw)
  have HP := Lib.hid hp
  clear hT ha hp
  go_enter Tryz.func132, Tryz.ntmps132
  go_wp2_with fail
  rw [← hW]
  clear hW
  refine (contains_over _ _ _ _ _ HA.out).mono ?_
  rintro e w1 ⟨b, rfl, hb, k1⟩
  obtain rfl : b = false := by
    cases b with
    | false => rfl
    | true =>
      obtain ⟨i, hi, h1⟩ := hb.1 rfl
      have := HP.out i hi
      omega
  have kk1 := kw.comp k1
  have b1 := b0.keep k1 (by simp)
  have d0 : w1.cell? ⟨w.heap.size, 0, none⟩ = some (.slice a1 n1 c1) := by rw [b1.cell]; rfl
  have d1 : w1.cell? ⟨w.heap.size, 1, none⟩ = some (.slice a2 n2 c2) := by rw [b1.cell]; rfl
  have T1 := Lib.hid (HT.out.keep k1)
  have A1 := Lib.hid (HA.out.keep k1)
  clear hb k1 b0 HT HA kw
  go_wp2_with fail
  refine (syndromes_any _ _ _ _ _ _ T1.out A1.out (by omega)).mono ?_
  rintro e w2 ⟨gS, rfl, hgS, rS, k2⟩
  rw [synW_mod HP.out] at rS
  have HSl := Lib.hid (fun i => synW_lt HP.out i)
  have S2 := Lib.hid (rS.argU (by omega) (fun i _ => by have := HSl.out i; omega))
  have kk2 := kk1.comp k2
  have b2 := b1.keep k2 (by simp)
  have T2 := Lib.hid (T1.out.keep k2)
  have A2 := Lib.hid (A1.out.keep k2)
  clear d0 d1 b1 T1 A1 k2 kk1 rS
  go_wp2_with fail
  refine (none_any _ _ _ _ _ S2.out).mono ?_
  rintro e w3 ⟨b, rfl, hb, k3⟩
  have kk3 := kk2.comp k3
  have b3 := b2.keep k3 (by simp)
  have T3 := Lib.hid (T2.out.keep k3)
  have A3 := Lib.hid (A2.out.keep k3)
  have S3 := Lib.hid (S2.out.keep k3)
  clear b2 T2 A2 S2 k3 kk2
  cases b with
  | true =>
    have HN := Lib.hid (near_self HP.out (hb.1 rfl))
    clear hb
    go_wp2_with fail
    refine (clone_any _ _ _ _ _ A3.out (by omega)).mono ?_
    rintro e w4 ⟨a4, c4, rfl, o4, k4⟩
    have O4 := Lib.hid (o4.more kk3.size)
    have kk4 := kk3.comp k4
    clear o4 k4
    go_wp2_with fail
    go_ret3
    exact ⟨.inl ⟨p, 0, a4, c4, HN.out, rfl, O4.out⟩, kk4⟩
  | false =>
    clear hb
    have d0 : w3.cell? ⟨w.heap.size, 0, none⟩ = some (.slice a1 n1 c1) := by rw [b3.cell]; rfl
    have d1 : w3.cell? ⟨w.heap.size, 1, none⟩ = some (.slice a2 n2 c2) := by rw [b3.cell]; rfl
    go_wp2_with fail
    refine (locator_any _ _ _ _ _ T3.out S3.out HSl.out).mono ?_
    rintro e w4 ⟨aL, m, long, loc, rfl, hL, hpl, hm, hbm, k4⟩
    have HL := Lib.hid hL
    have HPL := Lib.hid hpl
    have HBM := Lib.hid hbm
    have kk4 := kk3.comp k4
    have b4 := b3.keep k4 (by simp)
    have T4 := Lib.hid (T3.out.keep k4)
    have A4 := Lib.hid (A3.out.keep k4)
    have S4 := Lib.hid (S3.out.keep k4)
    clear d0 d1 b3 T3 A3 S3 k4 kk3 hL hpl hbm
    have hfound : Hid ((∃ q d, Near p n q d) → long ≤ 8 ∧ m = long + 1 ∧ rootN n loc m n = long ∧ cntNe (mendV p n loc (synW p n) m) p n = long ∧ ∀ j, j < 16 → synW (mendV p n loc (synW p n) m) n j = 0) := Lib.hid (by
      rintro ⟨q, d, h⟩
      obtain ⟨old, by_, last, hb⟩ := HBM.out
      obtain ⟨h1, h2, h3, h4, h5, h6⟩ := near_pass hn2 HP.out h hb HPL.out
      exact ⟨h1, h2, h3, h4, fun j hj => by rw [synW_congr h5]; exact h.word j hj⟩)
    clear HBM
    by_cases h1 : 8 < long
    · have f1 : decide (8 < (long : Int)) = true := by simp; omega
      have f2 : (8 : Int) < (long : Int) := by omega
      go_wp2_with fail
      go_ret3
      exact ⟨.inr ⟨fun q d h => by have := (hfound.out ⟨q, d, h⟩).1; omega, rfl⟩, kk4⟩
    have f1 : decide (8 < (long : Int)) = false := by simp; omega
    have f2 : ¬ (8 : Int) < (long : Int) := by omega
    rcases (Decidable.em (m = long + 1)).symm with h2 | h2
    · have f3 : ¬ (m : Int) - 1 = (long : Int) := by omega
      have f4 : ((m : Int) - 1 != (long : Int)) = true := by simpa using f3
      go_wp2_with fail
      go_ret3
      exact ⟨.inr ⟨fun q d h => by have := (hfound.out ⟨q, d, h⟩).2.1; omega, rfl⟩, kk4⟩
    have f3 : (m : Int) - 1 = (long : Int) := by omega
    have f4 : ((m : Int) - 1 != (long : Int)) = false := by simpa using f3
    have HM2 := Lib.hid h2
    have d0 : w4.cell? ⟨w.heap.size, 0, none⟩ = some (.slice a1 n1 c1) := by rw [b4.cell]; rfl
    have d1 : w4.cell? ⟨w.heap.size, 1, none⟩ = some (.slice a2 n2 c2) := by rw [b4.cell]; rfl
    clear h2
    go_wp2_with fail
    refine (mended_any _ _ _ _ n c m 16 p loc (synW p n) _ T4.out A4.out HL.out S4.out hn2 (by omega) HP.out HPL.out hm HSl.out (Nat.le_refl _)).mono ?_
    rintro e w5 ⟨a5, c5, rfl, o5, k5⟩
    have kk5 := kk4.comp k5
    have b5 := b4.keep k5 (by simp)
    have T5 := Lib.hid (T4.out.keep k5)
    have A5 := Lib.hid (A4.out.keep k5)
    have O5 := Lib.hid (o5.more kk4.size)
    have HQ := Lib.hid (fun i (hi : i < n) => mendV_lt (S := synW p n) (m := m) HP.out HPL.out.lt i hi)
    clear d0 d1 f1 f2 f3 f4 b4 T4 A4 S4 HL k5 kk4 o5
    generalize hq : mendV p n loc (synW p n) m = q at *
    generalize hr : rootN n loc m n = r at *
    clear hq hr
    rcases (Decidable.em (r = long)).symm with h3 | h3
    · have f3 : ¬ (r : Int) = (long : Int) := by omega
      have f4 : ((r : Int) != (long : Int)) = true := by simpa using f3
      go_wp2_with fail
      go_ret3
      exact ⟨.inr ⟨fun q d h => h3 (hfound.out ⟨q, d, h⟩).2.2.1, rfl⟩, kk5⟩
    subst h3
    have AQ5 := Lib.hid (O5.out.arg (by omega) (fun i hi => by have := HQ.out i hi; omega))
    go_wp2_with fail
    refine (dist_any _ _ _ _ _ _ q p _ AQ5.out A5.out (by omega) (by omega)).mono ?_
    rw [Nat.max_self, Nat.min_self, Nat.sub_self, Nat.zero_add]
    rintro e w6 ⟨rfl, k6⟩
    have kk6 := kk5.comp k6
    have b6 := b5.keep k6 (by simp)
    have T6 := Lib.hid (T5.out.keep k6)
    have AQ6 := Lib.hid (AQ5.out.keep k6)
    have O6 := Lib.hid (O5.out.keep k6)
    clear b5 T5 A5 AQ5 O5 k6 kk5
    generalize hd : cntNe q p n = d at *
    have HD := Lib.hid hd
    clear hd
    rcases (Decidable.em (d = r)).symm with h4 | h4
    · have f3 : ¬ (d : Int) = (r : Int) := by omega
      have f4 : ((d : Int) != (r : Int)) = true := by simpa using f3
      go_wp2_with fail
      go_ret3
      exact ⟨.inr ⟨fun q d h => h4 (hfound.out ⟨q, d, h⟩).2.2.2.1, rfl⟩, kk6⟩
    subst h4
    have d0 : w6.cell? ⟨w.heap.size, 0, none⟩ = some (.slice a1 n1 c1) := by rw [b6.cell]; rfl
    have d1 : w6.cell? ⟨w.heap.size, 1, none⟩ = some (.slice a2 n2 c2) := by rw [b6.cell]; rfl
    go_wp2_with fail
    refine (syndromes_any _ _ _ _ _ _ T6.out AQ6.out (by omega)).mono ?_
    rintro e w7 ⟨gS7, rfl, hgS7, rS7, k7⟩
    rw [synW_mod HQ.out] at rS7
    have S7 := Lib.hid (rS7.argU (by omega) (fun i _ => by have := synW_lt HQ.out i; omega))
    have kk7 := kk6.comp k7
    have O7 := Lib.hid (O6.out.keep k7)
    clear d0 d1 b6 T6 AQ6 O6 k7 kk6 rS7
    go_wp2_with fail
    refine (none_any _ _ _ _ _ S7.out).mono ?_
    rintro e w8 ⟨b, rfl, hb, k8⟩
    have kk8 := kk7.comp k8
    have O8 := Lib.hid (O7.out.keep k8)
    clear kk7 k8 O7 S7
    cases b with
    | false =>
      have HB := Lib.hid (fun h : ∀ j, j < 16 → synW q n j = 0 => Bool.false_ne_true (hb.2 h))
      clear hb
      go_wp2_with fail
      go_ret3
      exact ⟨.inr ⟨fun q d h => HB.out (hfound.out ⟨q, d, h⟩).2.2.2.2, rfl⟩, kk8⟩
    | true =>
      have HB := Lib.hid (hb.1 rfl)
      clear hb
      go_wp2_with fail
      go_ret3
      exact ⟨.inl ⟨q, d, a5, c5, ⟨HQ.out, HB.out, HD.out, by omega⟩, rfl, O8.out⟩, kk8⟩
end Go.Proofs.YtdjgjffgheocfaaGreat

namespace Go.Proofs.YtdjgjffgheocfaaGreat
open Go.RowKit

theorem zeroCells_u (m : Nat) : Builtin.zeroCells (Value.int .u16 0).cells m = uArr (fun _ => 0) m := by
  apply Array.ext_getElem?
  intro i
  rw [uArr_get]
  unfold Builtin.zeroCells
  rw [show (Value.int .u16 0).cells = #[Value.int .u16 0] from rfl]
  by_cases hi : i < m
  · simp [hi, Nat.mod_one]
  · simp [hi]
theorem uList_arr (f : Nat → Nat) (n : Nat) : (uList f n).toArray = uArr f n := by
  apply Array.ext_getElem?
  intro i
  rw [List.getElem?_toArray, uList_get, uArr_get]
theorem setRow_u {w : World} {g : Nat} {cs : Array Value} {t : TypeId} (h : Blk w g t cs) (ds : Array Value) : Blk (w.setRow g ds) g t ds := setRow_heap w g cs ds t _ h
set_option maxHeartbeats 1000000 in
/-- What it answers. -/
theorem run_append_zeros {N g n c m : Nat} {f : Nat → Nat} (w : World) (ty : TypeId) (hr : RowU w g c n f) (hg : N ≤ g) (hc : c ≤ maxLen) (hnm : n + m ≤ 1000000) (hN : N ≤ w.heap.size) :
    ∃ a' c' w', (Builtin.append_ #[80, 3] ty #[.slice (some ⟨g, 0, none⟩) n c, .int .i64 m]).run Tryz.prog w = .ok (.slice a' (n + m) c') w' ∧ OwnU w' N a' (n + m) c' (fun i => if i < n then f i else 0) ∧ w.grownBy w' (some g) := by
  obtain ⟨i, hi, hz, hs, hb⟩ := Tryz.info_u16'
  obtain ⟨cs, hB, hcs, hnc, hv⟩ := hr
  have w1 : IntKind.i64.wrap (m : Int) = m := wraps_i64 _ (by omega) (by omega)
  have w2 : ¬ (281474976710656 : Int) < (m : Int) * 2 := by omega
  have w3 : ¬ (m : Int) < 0 := by omega
  by_cases hroom : n + m ≤ c
  · have hst := run_storeCells_at Tryz.prog g n 148 (uList (fun _ => 0) m) 0 cs w hB (by simp [uList]; omega) (fun u hu => by
      simp only [uList, List.mem_map] at hu
      obtain ⟨_, _, rfl⟩ := hu
      rfl)
    simp only [Nat.add_zero] at hst
    refine ⟨some ⟨g, 0, none⟩, c, w.setRow g (cs.toList.take n ++ uList (fun _ => 0) m ++ cs.toList.drop (n + (uList (fun _ => 0) m).length)).toArray, ?_, ?_, ?_⟩
    · have hz1 := zeroCells_u m
      rw [← uList_arr] at hz1
      have hst' := hst
      rw [List.append_assoc] at hst'
      by_cases hm0 : m = 0
      · subst hm0
        have w0 : IntKind.i64.wrap 0 = 0 := by decide
        have hst' : (storeCells ⟨g, n, none⟩ []).run Tryz.prog w = .ok () (w.setRow g cs) := by simpa [uList] using hst
        simp [Builtin.append_, run_underlying Tryz.underlying80, run_underlying Tryz.underlying3, sizeOf, typeInfo, hi, hs, hb, zeroValue, hz, asInt, asIntOf, w0, hnc, Addr.add_lit, hst', uList]
      · simp [Builtin.append_, run_underlying Tryz.underlying80, run_underlying Tryz.underlying3, sizeOf, typeInfo, hi, hs, hb, zeroValue, hz, asInt, asIntOf, w1, w2, hroom, Addr.add_lit, hm0, hz1, w3]
        rw [hst']
        rfl
    · refine OwnU.of_row ⟨_, setRow_u hB _, ?_, hroom, fun j hj => ?_⟩ hg hc
      · simp [uList]
        omega
      · have hl : (uList (fun _ => 0) m).length = m := by simp [uList]
        have hl2 : (cs.toList.take n).length = n := by simp; omega
        rw [List.getElem?_toArray, List.append_assoc]
        show _ = some (Value.int .u16 ((if j < n then f j else 0 : Nat) : Int))
        by_cases h : j < n
        · rw [if_pos h, List.getElem?_append_left (by omega), List.getElem?_take, if_pos h, Array.getElem?_toList, hv j h]
        · rw [if_neg h, List.getElem?_append_right (by omega), hl2, List.getElem?_append_left (by omega), uList_get, if_pos (by omega)]
    · exact ⟨rfl, rfl, rfl, by simp, fun k _ hk => setRow_other w g k _ (fun e => hk (by rw [e]))⟩
  · have hfo := run_firstCells_some (P := Tryz.prog) w.drew 1 n ⟨g, 0, none⟩ n c (uList f n) (by simp [uList]) (fun j u hj => by
      rw [uList_get] at hj
      split at hj
      · rename_i h
        rw [addr_zero_add, show w.drew.cell? ⟨g, j, none⟩ = w.cell? ⟨g, j, none⟩ from rfl, hB.cell, hv j h]
        exact hj
      · cases hj)
    have h63' : ¬ (9223372036854775807 < ((n : Int) + (m : Int))) := by omega
    have h48' : ¬ (281474976710656 < Builtin.nextslicecap (n + m) c * i.bytes) := by
      have := growslice_fits (bytes := i.bytes) (show c < n + m by omega) (by rw [hb]; omega)
      omega
    have hge := grownCap_ge w (n + m) c 148
    have hcm : grownCap w (n + m) c 148 ≤ maxLen := grownCap_le_maxLen w (n + m) c 148 (by unfold maxLen; omega)
    refine ⟨some ⟨w.heap.size, 0, none⟩, grownCap w (n + m) c 148, w.drew.alloc (.cells (uArr f n ++ uArr (fun _ => 0) m ++ uArr (fun _ => 0) (grownCap w (n + m) c 148 - (n + m))) 148), ?_, ?_, ?_⟩
    · have hz1 := zeroCells_u m
      have hz2 := zeroCells_u (grownCap w (n + m) c 148 - (n + m))
      have hm0 : m ≠ 0 := by omega
      unfold grownCap at hz2 ⊢
      rw [hb] at h48'
      simp [Builtin.append_, run_underlying Tryz.underlying80, run_underlying Tryz.underlying3, sizeOf, typeInfo, hi, hs, hb, zeroValue, hz, asInt, asIntOf, w1, w2, hroom, hm0, w3, h63', h48', Question.forced, hfo, newRow, hz1, hz2, uList_arr]
    · refine OwnU.of_row ⟨_, Blk.new w.drew _ _, ?_, hge, fun j hj => ?_⟩ hN hcm
      · simp [uArr, valsArr_size]
        omega
      · rw [Array.append_assoc]
        show _ = some (Value.int .u16 ((if j < n then f j else 0 : Nat) : Int))
        by_cases h : j < n
        · rw [Array.getElem?_append_left (by simpa [uArr, valsArr_size] using h), uArr_get, if_pos h, if_pos h]
        · rw [Array.getElem?_append_right (by simp [uArr, valsArr_size]; omega), if_neg h, show (uArr f n).size = n from valsArr_size _ _, Array.getElem?_append_left (by simp [uArr, valsArr_size]; omega), uArr_get, if_pos (by omega)]
    · exact ⟨rfl, rfl, rfl, by simp, fun _ hk _ => heap_alloc_old w.drew _ hk⟩
/-- The step. -/
theorem wpList_append_zeros {w : World} {ops : Array Oper} {rest : List Oper} {o : Oper} {a : Act} {Q : Exit → Act → World → Prop} (hgd : o.guard = none) (s x : Operand)
    (ho : o.op = .call { callee := .builtin .append, args := #[s, x], argTypes := #[80, 3] })
    (N : Nat) (g n c : Nat) (f : Nat → Nat) (hs : a.eval s = .slice (some ⟨g, 0, none⟩) n c) (hr : RowU w g c n f) (hg : N ≤ g) (hc : c ≤ maxLen) (m : Nat) (hx : a.eval x = .int .i64 m) (hnm : n + m ≤ 1000000) (hN : N ≤ w.heap.size)
    (h : ∀ a' c' w', OwnU w' N a' (n + m) c' (fun i => if i < n then f i else 0) → w.grownBy w' (some g) → wpList Tryz.prog ops Q rest (a.put o.dst (.slice a' (n + m) c')) w') :
    wpList Tryz.prog ops Q (o :: rest) a w := by
  obtain ⟨a', c', w', h1, h2, h3⟩ := run_append_zeros w o.type hr hg hc hnm hN
  refine wpList_plain hgd fun K hK => ?_
  unfold Oper.wp
  simp [execOp, ho, resolve, invoke, builtin, hs, hx, h1, Result.andThen]
  exact hK _ _ (h a' c' w' h2 h3)
end Go.Proofs.YtdjgjffgheocfaaGreat


namespace Go.Proofs.YtdjgjffgheocfaaGreat
open Go.RowKit

/-- The generator's roots, in order; the generator, so far. -/
def genR : Nat → Nat := fun i => ex (i + 1)
def genP (i : Nat) : Nat → Nat := prodP genR i
theorem genP_pol (i : Nat) : IsPol (genP i) (i + 1) := prodP_pol genR i
theorem genP_root {x : Nat} (hx : x < 1024) (i : Nat) : hor (genP i) x 0 (i + 1) = 0 ↔ ∃ j, j < i ∧ ex (j + 1) = x := prodP_root hx (fun _ => ex_lt _) i
theorem genM (i : Nat) (h : i < 16) : pmulM (cut (genP i) (i + 1)) (i + 1) (cut (lst [ex (i + 1), 1]) 2) 2 = genP (i + 1) := by
  rw [(genP_pol i).cut (Nat.le_refl _)]
  exact pmulM_eq (genP_pol i) (lin_pol (ex (i + 1))) (by omega)

end Go.Proofs.YtdjgjffgheocfaaGreat

namespace Go.Proofs.YtdjgjffgheocfaaGreat
open Go.RowKit

/-- q is the word of the code with the data p. -/
structure IsEnc (p : Nat → Nat) (k : Nat) (q : Nat → Nat) : Prop where
  lt : ∀ i, i < k + 16 → q i < 1024
  word : ∀ j, j < 16 → synW q (k + 16) j = 0
  data : ∀ i, i < k → q i = p i
theorem IsEnc.uniq {p q r : Nat → Nat} {k : Nat} (hk : k + 16 ≤ 1023) (hq : IsEnc p k q) (hr : IsEnc p k r) : ∀ i, i < k + 16 → q i = r i :=
  words_apart hk hq.lt hr.lt hq.word hr.word (List.range 16) (by simp) (fun i hi hne => by
    rw [List.mem_range]
    rcases Nat.lt_or_ge i k with h | h
    · exact absurd ((hq.data i h).trans (hr.data i h).symm) hne
    · omega)
/-- What an encoder answers at data that may be. -/
def EncR (w' : World) (N : Nat) (p : Nat → Nat) (k : Nat) (e : Ending) : Prop :=
  ∃ (q : Nat → Nat) (a' : Option Addr) (c' : Nat), IsEnc p k q ∧ e = .returned (.tuple #[.slice a' (k + 16) c', .int .i64 0]) ∧ OwnU w' N a' (k + 16) c' q
/-- Data, and noughts behind. -/
def dat (p : Nat → Nat) (k : Nat) : Nat → Nat := fun i => if i < k then p i else 0
theorem dat_lt {p : Nat → Nat} {k : Nat} (hp : ∀ i, i < k → p i < 1024) (i : Nat) : dat p k i < 1024 := by
  unfold dat
  split
  · exact hp i ‹_›
  · omega
/-- The data, and the rest behind. -/
def encV (p : Nat → Nat) (k : Nat) (R : Nat → Nat) : Nat → Nat := fun i => if i < k then p i else R (k + 15 - i)
theorem gen_zero {j : Nat} (hj : j < 16) : hor (genP 16) (ex (j + 1)) 0 17 = 0 := (genP_root (ex_lt _) 16).2 ⟨j, hj, rfl⟩
theorem cut_dat {p : Nat → Nat} {k : Nat} (hp : ∀ i, i < k → p i < 1024) : cut (fun i => dat p k (k + 16 - 1 - i)) (k + 16) = rv (dat p k) (k + 16) := by
  rw [cut_turned]
  have e : (fun i => dat p k i % 1024) = dat p k := funext fun i => Nat.mod_eq_of_lt (dat_lt hp i)
  rw [e]
theorem enc_is {p : Nat → Nat} {k la nr : Nat} (hp : ∀ i, i < k → p i < 1024) (hl : IsPol (rv (dat p k) (k + 16)) la) (hla : la ≤ k + 16) (hr : IsPol (rst (rv (dat p k) (k + 16)) la (genP 16) 17) nr) :
    nr ≤ 16 ∧ IsEnc p k (encV p k (rst (rv (dat p k) (k + 16)) la (genP 16) 17)) := by
  have hnr := rst_len hl (genP_pol 16) (by omega) hr
  have hds := div_sum hl (genP_pol 16) (by omega)
  have hq := quo_pol hl (genP_pol 16) (by omega)
  generalize hR : rst (rv (dat p k) (k + 16)) la (genP 16) 17 = R at *
  generalize hQ : quo (rv (dat p k) (k + 16)) la (genP 16) 17 = Q at *
  have hlt : ∀ i, i < k + 16 → encV p k R i < 1024 := fun i hi => by
    unfold encV
    split
    · exact hp i ‹_›
    · exact hr.lt _
  refine ⟨by omega, hlt, fun j hj => ?_, fun i hi => by unfold encV; rw [if_pos hi]⟩
  rw [← synW_hor hlt]
  have e : rv (encV p k R) (k + 16) = pmul Q (genP 16) := by
    have e1 : rv (encV p k R) (k + 16) = padd (rv (dat p k) (k + 16)) R := funext fun i => by
      show rv (encV p k R) (k + 16) i = rv (dat p k) (k + 16) i ^^^ R i
      unfold rv
      by_cases h : i < k + 16
      · rw [if_pos h, if_pos h]
        unfold encV dat
        by_cases h2 : i < 16
        · rw [if_neg (by omega), if_neg (by omega), Nat.zero_xor]
          congr 1
          omega
        · rw [if_pos (by omega), if_pos (by omega), hr.zero i (by omega), Nat.xor_zero]
      · rw [if_neg h, if_neg h, hr.zero i (by omega)]
        rfl
    rw [e1, ← hds]
    exact funext fun i => xor_cancel_right _ _
  rw [e, hor_pmul (genP_pol 16).lt (genP_pol 16).zero (ex_lt _) (quoN la 17) Q hq.lt hq.zero (k + 16) (by unfold quoN; omega), gen_zero hj, gm_zero_right]
/-- The word, the rest's first i symbols being laid. -/
def encK (p : Nat → Nat) (k : Nat) (R : Nat → Nat) (i : Nat) : Nat → Nat := fun t => if t < k then p t else if k + 15 - t < i then R (k + 15 - t) else 0
theorem encK_next (p : Nat → Nat) (k : Nat) (R : Nat → Nat) (i : Nat) (hi : i < 16) (t : Nat) (ht : t < k + 16) : encK p k R (i + 1) t = if t = k + 15 - i then R i else encK p k R i t := by
  unfold encK
  by_cases h : t = k + 15 - i
  · subst h
    rw [if_neg (by omega), if_pos (by omega), if_pos rfl]
    congr 1
    omega
  · rw [if_neg h]
    by_cases h2 : t < k
    · rw [if_pos h2, if_pos h2]
    · rw [if_neg h2, if_neg h2]
      by_cases h3 : k + 15 - t < i
      · rw [if_pos h3, if_pos (by omega)]
      · rw [if_neg h3, if_neg (by omega)]
theorem encK_end {p R : Nat → Nat} {k nr : Nat} (hz : ∀ i, nr ≤ i → R i = 0) (t : Nat) : encK p k R nr t = encV p k R t := by
  unfold encK encV
  by_cases h2 : t < k
  · rw [if_pos h2, if_pos h2]
  · rw [if_neg h2, if_neg h2]
    by_cases h3 : k + 15 - t < nr
    · rw [if_pos h3]
    · rw [if_neg h3, hz _ (by omega)]

end Go.Proofs.YtdjgjffgheocfaaGreat

namespace Go.Proofs.YtdjgjffgheocfaaGreat
open Go.RowKit

/-- One symbol put in another's place. -/
def updU (p : Nat → Nat) (i v : Nat) : Nat → Nat := fun k => if k = i then v else p k
theorem cntNe_one {q : Nat → Nat} {i v : Nat} (h : q i ≠ v) : ∀ n, cntNe q (updU q i v) n = if i < n then 1 else 0
  | 0 => rfl
  | n + 1 => by
    rw [cntNe, cntNe_one h n]
    unfold updU
    by_cases e : n = i
    · subst e
      rw [if_pos rfl, if_neg h, if_neg (by omega), if_pos (by omega)]
    · rw [if_neg e, if_pos rfl]
      by_cases h2 : i < n
      · rw [if_pos h2, if_pos (by omega)]
      · rw [if_neg h2, if_neg (by omega)]
theorem updU_lt {p : Nat → Nat} {i v n : Nat} (hp : ∀ k, k < n → p k < 1024) (hv : v < 1024) (k : Nat) (hk : k < n) : updU p i v k < 1024 := by
  unfold updU
  split
  · exact hv
  · exact hp k hk
theorem xor_ne {a b : Nat} (h : b ≠ 0) : a ≠ a ^^^ b := fun e => h (by
  have := xor_cancel a b
  rw [← e, Nat.xor_self] at this
  exact this.symm)
/-- A word with one symbol turned. -/
theorem near_one {q : Nat → Nat} {n i v : Nat} (hq : ∀ k, k < n → q k < 1024) (hw : ∀ j, j < 16 → synW q n j = 0) (hi : i < n) (h : q i ≠ v) : Near (updU q i v) n q 1 :=
  ⟨hq, hw, by rw [cntNe_one h, if_pos hi], by omega⟩
/-- Where a word of the code is near, a decoder finds it. -/
theorem DecR.near {w' : World} {N n d : Nat} {p q : Nat → Nat} {e : Ending} (h : DecR w' N p n e) (hq : Near p n q d) (hn : n ≤ 1023) : ∃ a' c', e = .returned (.tuple #[.slice a' n c', .int .i64 d, .int .i64 0]) ∧ OwnU w' N a' n c' q := by
  rcases h with ⟨r, d', a', c', hr, he, ho⟩ | ⟨h, _⟩
  · obtain ⟨h1, rfl⟩ := Near.uniq hn hq hr
    exact ⟨a', c', he, ho.congr (fun i hi => (h1 i hi).symm)⟩
  · exact absurd hq (h q d)
/-- What Encode answers. -/
def EncA (w' : World) (N : Nat) (p : Nat → Nat) (k : Nat) (e : Ending) : Prop :=
  ((k = 0 ∨ 1007 < k) ∧ e = .returned (.tuple #[.slice none 0 0, .int .i64 3])) ∨
  (0 < k ∧ k ≤ 1007 ∧ (∃ i, i < k ∧ 1024 ≤ p i) ∧ e = .returned (.tuple #[.slice none 0 0, .int .i64 1])) ∨
  (0 < k ∧ k ≤ 1007 ∧ (∀ i, i < k → p i < 1024) ∧ EncR w' N p k e)
/-- What Decode answers. -/
def DecA (w' : World) (N : Nat) (p : Nat → Nat) (n : Nat) (e : Ending) : Prop :=
  ((n ≤ 16 ∨ 1023 < n) ∧ e = .returned (.tuple #[.slice none 0 0, .int .i64 0, .int .i64 3])) ∨
  (16 < n ∧ n ≤ 1023 ∧ (∃ i, i < n ∧ 1024 ≤ p i) ∧ e = .returned (.tuple #[.slice none 0 0, .int .i64 0, .int .i64 1])) ∨
  (16 < n ∧ n ≤ 1023 ∧ (∀ i, i < n → p i < 1024) ∧ DecR w' N p n e)
theorem dec_all (V : Value) (a : Option Addr) (n c : Nat) (p : Nat → Nat) (w : World) (hT : HasT w V) (ha : ArgU w a n p) :
    Calls Tryz.prog 132 #[V, .slice a n c] w fun e w' => DecA w' w.heap.size p n e ∧ Keep (fun _ => False) w w' := by
  by_cases h : n ≤ 16 ∨ 1023 < n
  · exact (dec_size V a n c w hT h).mono fun _ _ ⟨h1, h2⟩ => ⟨.inl ⟨h, h1⟩, h2⟩
  · by_cases hx : ∃ i, i < n ∧ 1024 ≤ p i
    · exact (dec_arg V a n c p w hT ha (by omega) (by omega) hx).mono fun _ _ ⟨h1, h2⟩ => ⟨.inr (.inl ⟨by omega, by omega, hx, h1⟩), h2⟩
    · have hp : ∀ i, i < n → p i < 1024 := fun i hi => by
        rcases Nat.lt_or_ge (p i) 1024 with h | h
        · exact h
        · exact absurd ⟨i, hi, h⟩ hx
      exact (dec_any V a n c p w hT ha (by omega) (by omega) hp).mono fun _ _ ⟨h1, h2⟩ => ⟨.inr (.inr ⟨by omega, by omega, hp, h1⟩), h2⟩
/-- The same, in one shape. -/
def EncZ (w' : World) (N : Nat) (p : Nat → Nat) (k : Nat) (a' : Option Addr) (n' c' : Nat) (z : Int) : Prop :=
  (z ≠ 0) ∨ (z = 0 ∧ n' = k + 16 ∧ 0 < k ∧ k ≤ 1007 ∧ (∀ i, i < k → p i < 1024) ∧ ∃ q, IsEnc p k q ∧ OwnU w' N a' n' c' q)
theorem empty_own (w : World) (f : Nat → Nat) : OwnU (w.alloc (.cells #[] 148)) w.heap.size (some ⟨w.heap.size, 0, none⟩) 0 0 f :=
  OwnU.of_row (RowU.of_blk (Blk.new w _ _)) (Nat.le_refl _) (by unfold maxLen; omega)
theorem cntNe_upd {q p : Nat → Nat} {i v : Nat} (h : q i = p i) : ∀ n, cntNe q (updU p i v) n = cntNe q p n + if i < n ∧ q i ≠ v then 1 else 0
  | 0 => by rw [if_neg (by omega)]; rfl
  | n + 1 => by
    rw [cntNe, cntNe_upd h n, cntNe]
    unfold updU
    by_cases e : n = i
    · subst e
      rw [if_pos rfl, if_neg (show ¬ (n < n ∧ q n ≠ v) by omega), if_pos h]
      by_cases h2 : q n = v
      · rw [if_pos h2, if_neg (by simp [h2])]
      · rw [if_neg h2, if_pos ⟨by omega, h2⟩]
    · rw [if_neg e]
      generalize (if q n = p n then 0 else 1) = X
      by_cases h2 : i < n ∧ q i ≠ v
      · rw [if_pos h2, if_pos ⟨by omega, h2.2⟩]
        omega
      · rw [if_neg h2, if_neg (fun h3 => h2 ⟨by omega, h3.2⟩)]
        omega
end Go.Proofs.YtdjgjffgheocfaaGreat
