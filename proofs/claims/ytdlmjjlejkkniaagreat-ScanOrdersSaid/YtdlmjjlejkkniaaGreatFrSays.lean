/- What a page says. -/
import Derived.Test.YtdlmjjlejkkniaaGreatFrRead
import Derived.Test.YtdlmjjlejkkniaaGreatCof
import Derived.Test.YtdlmjjlejkkniaaGreatBase
import Derived.Laws.IdiomStrings
namespace Go.Proofs.YtdlmjjlejkkniaaGreat
open Go.RowKit

theorem run_store_cx (P : Program) (w : World) (a : Addr) (m : Mode) (k : FloatKind) (x y) : (store a (.complex k x y) m).run P w = stored P w a (.complex k x y) m := run_store P w a _ m rfl
theorem symP_pts (s : Nat → Nat) : symP s = ptsV (fun i => reS (s i)) (fun i => imS (s i)) := rfl
theorem co_ne (n : Nat) : co n ≠ 0 := by unfold co; omega
theorem onB_sym (s : Nat) : onB (reS s) (imS s) = false := by
  unfold onB reS
  rw [decide_eq_false (co_ne _)]
  rfl
theorem Pu_re (s : Nat) : Pu (reS s) := by have := re_le s; unfold Pu; omega
theorem Pu_im (s : Nat) : Pu (imS s) := by have := im_le s; unfold Pu; omega
theorem cnt_le_wrong {z : Nat → Bool} {s q : Nat → Nat} : ∀ n, cntNe q s n ≤ wrongN z s q n
  | 0 => Nat.le_refl _
  | n + 1 => by
    have := cnt_le_wrong (z := z) (s := s) (q := q) n
    unfold cntNe wrongN
    by_cases h : q n = s n
    · rw [if_pos h]
      omega
    · rw [if_neg h, if_pos (.inr h)]
      omega
theorem wrongN_zero {z : Nat → Bool} {s q : Nat → Nat} : ∀ {n}, (∀ i, i < n → z i = false ∧ q i = s i) → wrongN z s q n = 0
  | 0, _ => rfl
  | n + 1, h => by
    unfold wrongN
    rw [wrongN_zero (fun i hi => h i (by omega)), if_neg]
    have := h n (by omega)
    simp [this.1, this.2]
theorem wrongN_one {z : Nat → Bool} {s q : Nat → Nat} {k : Nat} (hk : z k = true ∨ q k ≠ s k) : ∀ {n}, (∀ i, i < n → i ≠ k → z i = false ∧ q i = s i) → wrongN z s q n = if k < n then 1 else 0
  | 0, _ => rfl
  | n + 1, h => by
    unfold wrongN
    rw [wrongN_one hk (fun i hi => h i (by omega))]
    by_cases e : n = k
    · subst e
      rw [if_neg (by omega), if_pos hk, if_pos (by omega)]
    · have := h n (by omega) e
      rw [if_neg (show ¬ (z n = true ∨ q n ≠ s n) by simp [this.1, this.2])]
      by_cases h2 : k < n
      · rw [if_pos h2, if_pos (by omega)]
      · rw [if_neg h2, if_neg (by omega)]
/-- A word of the code of which at most eight symbols are wrong can be read. -/
theorem good_of {x y : Nat → Int} {p q : Nat → Nat} {K : Nat} (hq : IsEnc p K q) (h : wrongN (fun i => onB (x i) (y i)) (slS x y) q (K + 16) ≤ 8) : GoodRow x y (K + 16) q :=
  ⟨⟨_, hq.lt, hq.word, rfl, Nat.le_trans (cnt_le_wrong _) h⟩, h⟩
theorem RowIs.good {x y : Nat → Int} {n v : Nat} {b : Bool} {q : Nat → Nat} (hn : n ≤ 1023) (h : RowIs x y n v b) (hg : GoodRow x y n q) : b = true ∧ v = wrongN (fun i => onB (x i) (y i)) (slS x y) q n := by
  rcases h with ⟨q', d, hN, hb, hv⟩ | ⟨hno, _⟩
  · have e := GoodRow.uniq hn hN hg
    rw [wrongN_congr e] at hb hv
    have : b = true := by rw [hb]; exact decide_eq_true hg.2
    subst this
    exact ⟨rfl, hv⟩
  · obtain ⟨⟨d, h1⟩, _⟩ := hg
    exact absurd h1 (hno q d)
theorem RowIs.bad {x y : Nat → Int} {n v : Nat} {b : Bool} (h : RowIs x y n v b) (hg : ∀ q, ¬ GoodRow x y n q) : b = false ∧ v = 0 := by
  rcases h with ⟨q', d, hN, hb, hv⟩ | ⟨_, h1, h2⟩
  · have : b = false := by rw [hb]; exact decide_eq_false fun h8 => hg q' ⟨⟨d, hN⟩, h8⟩
    subst this
    exact ⟨rfl, hv⟩
  · exact ⟨h1, h2⟩
/-- Where more than eight points are nought nothing can be read. -/
def zerosN (z : Nat → Bool) : Nat → Nat
  | 0 => 0
  | n + 1 => zerosN z n + if z n = true then 1 else 0
theorem zeros_le {z : Nat → Bool} {s q : Nat → Nat} : ∀ n, zerosN z n ≤ wrongN z s q n
  | 0 => Nat.le_refl _
  | n + 1 => by
    have := zeros_le (z := z) (s := s) (q := q) n
    unfold zerosN wrongN
    by_cases h : z n = true
    · rw [if_pos h, if_pos (.inl h)]
      omega
    · rw [if_neg h]
      omega
theorem zeros_bad {x y : Nat → Int} {n : Nat} (h : 8 < zerosN (fun i => onB (x i) (y i)) n) (q : Nat → Nat) : ¬ GoodRow x y n q := fun hg => by
  have := zeros_le (z := fun i => onB (x i) (y i)) (s := slS x y) (q := q) n
  have := hg.2
  omega
/-- A page's codeword r. -/
def wordS (W K : Nat) (D : Nat → Nat) (r : Nat) : Nat → Nat := rencV (rowD W D r) K
theorem word_is {W K : Nat} {D : Nat → Nat} (hD : ∀ i, D i < 1024) (r : Nat) : IsEnc (rowD W D r) K (wordS W K D r) := renc_is (fun _ _ => hD _)
theorem page_at {W K : Nat} {D : Nat → Nat} {r : Nat} (hr : r < W) (j : Nat) : pageS W K D (r + j * W) = wordS W K D r j := by
  unfold pageS wovS
  rw [Nat.add_comm, (woven_idx hr).1, (woven_idx hr).2]
  rfl
theorem page_of {W K : Nat} {D : Nat → Nat} (i : Nat) : pageS W K D i = wordS W K D (i % W) (i / W) := rfl
theorem offX_eq {W K n : Nat} {x : Nat → Int} {q : Nat → Nat → Nat} {D : Nat → Nat} (hn : n ≤ W * (K + 16)) (hW : 0 < W) (hq : ∀ r, r < W → ∀ j, j < K + 16 → q r j = wordS W K D r j) : ∀ m, m ≤ n → offX W x q m = offX W x (wordS W K D) m
  | 0, _ => rfl
  | m + 1, hm => by
    unfold offX
    rw [offX_eq hn hW hq m (by omega), hq _ (Nat.mod_lt _ hW) _ (by rw [Nat.div_lt_iff_lt_mul hW, Nat.mul_comm]; omega)]
theorem offY_eq {W K n : Nat} {x : Nat → Int} {q : Nat → Nat → Nat} {D : Nat → Nat} (hn : n ≤ W * (K + 16)) (hW : 0 < W) (hq : ∀ r, r < W → ∀ j, j < K + 16 → q r j = wordS W K D r j) : ∀ m, m ≤ n → offY W x q m = offY W x (wordS W K D) m
  | 0, _ => rfl
  | m + 1, hm => by
    unfold offY
    rw [offY_eq hn hW hq m (by omega), hq _ (Nat.mod_lt _ hW) _ (by rw [Nat.div_lt_iff_lt_mul hW, Nat.mul_comm]; omega)]
/-- All the same off. -/
theorem offX_same {W K : Nat} {x : Nat → Int} {D : Nat → Nat} {a : Int} : ∀ {m}, (∀ i, i < m → x i = reS (pageS W K D i) + a) → offX W x (wordS W K D) m = a * m
  | 0, _ => by show (0 : Int) = _; simp
  | m + 1, h => by
    unfold offX
    rw [offX_same (fun i hi => h i (by omega)), h m (by omega), show wordS W K D (m % W) (m / W) = pageS W K D m from rfl]
    rw [Int.natCast_succ, Int.mul_add]
    omega
theorem offY_same {W K : Nat} {x : Nat → Int} {D : Nat → Nat} {a : Int} : ∀ {m}, (∀ i, i < m → x i = imS (pageS W K D i) + a) → offY W x (wordS W K D) m = a * m
  | 0, _ => by show (0 : Int) = _; simp
  | m + 1, h => by
    unfold offY
    rw [offY_same (fun i hi => h i (by omega)), h m (by omega), show wordS W K D (m % W) (m / W) = pageS W K D m from rfl]
    rw [Int.natCast_succ, Int.mul_add]
    omega
/-- One off, the others not. -/
theorem offX_one {W K : Nat} {x : Nat → Int} {D : Nat → Nat} {a : Int} : ∀ {m}, (∀ i, i < m → x i = reS (pageS W K D i) + if i = 0 then a else 0) → offX W x (wordS W K D) m = if 0 < m then a else 0
  | 0, _ => rfl
  | m + 1, h => by
    unfold offX
    rw [offX_one (fun i hi => h i (by omega)), h m (by omega), show wordS W K D (m % W) (m / W) = pageS W K D m from rfl, if_pos (show 0 < m + 1 by omega)]
    by_cases h0 : m = 0
    · subst h0
      rw [if_neg (by omega), if_pos rfl]
      omega
    · rw [if_pos (by omega), if_neg h0]
      omega
/-- The answer of Shift where each codeword can be read. -/
theorem ShiftR.yes {x y : Nat → Int} {W K n : Nat} {e : Ending} {D : Nat → Nat} (h : ShiftR x y W K n e) (hn : n = W * (K + 16)) (hW : 0 < W) (hK : K ≤ 64) (hg : ∀ r, r < W → GoodRow (fun i => x (r + i * W)) (fun i => y (r + i * W)) (K + 16) (wordS W K D r)) :
    e = .returned (.tuple #[ptv (offX W x (wordS W K D) n) (offY W y (wordS W K D) n), .int .i64 0]) := by
  rcases h with ⟨q, hq, rfl⟩ | ⟨⟨r, hr, hno⟩, _⟩
  · have e1 : ∀ r, r < W → ∀ j, j < K + 16 → q r j = wordS W K D r j := fun r hr j hj => by
      obtain ⟨⟨d, h1⟩, _⟩ := hq r hr
      exact GoodRow.uniq (by omega) h1 (hg r hr) j hj
    rw [offX_eq (by omega : n ≤ W * (K + 16)) hW e1 n (Nat.le_refl _), offY_eq (by omega : n ≤ W * (K + 16)) hW e1 n (Nat.le_refl _)]
  · exact absurd (hg r hr) (hno _)
theorem ShiftR.no {x y : Nat → Int} {W K n : Nat} {e : Ending} (h : ShiftR x y W K n e) {r : Nat} (hr : r < W) (hg : ∀ q, ¬ GoodRow (fun i => x (r + i * W)) (fun i => y (r + i * W)) (K + 16) q) :
    e = .returned (.tuple #[.complex .f64 0 0, .int .i64 4]) := by
  rcases h with ⟨q, hq, _⟩ | ⟨_, rfl⟩
  · exact absurd (hq r hr) (hg _)
  · rfl
theorem farE_zero {s : Nat → Nat} : ∀ {n}, (∀ i, i < n → s i < 1024) → farE (fun i => reS (s i)) (fun i => imS (s i)) n = 0
  | 0, _ => rfl
  | n + 1, h => by
    unfold farE
    rw [farE_zero (fun i hi => h i (by omega))]
    have e : slS (fun i => reS (s i)) (fun i => imS (s i)) n = s n := sl_sym (h n (by omega))
    rw [e]
    simp
end Go.Proofs.YtdlmjjlejkkniaaGreat

namespace Go.Proofs.YtdlmjjlejkkniaaGreat
open Go.RowKit
attribute [local go_sem] run_store_cx

theorem Tryz.info_u8 : (Tryz.prog.info? 5).map (fun i => (i.zero, i.size, i.bytes)) = some (some (.int .u8 0), 1, 1) := by kernel_rfl
/-- make of a row of bytes. -/
theorem make_by (x : Int) (m : Nat) (hx : x = m) (hm : m ≤ 70368744177664) (w : World) :
    (Instr.makeSlice 24 (.int .i64 x) (.int .i64 x)).run Tryz.prog w = .ok (.slice (some ⟨w.heap.size, 0, none⟩) m m) (w.alloc (.cells (valsArr (fun _ => .int .u8 0) m) 5)) :=
  make_vals (P := Tryz.prog) Tryz.underlying24 Tryz.info_u8 rfl x m hx (by omega) (by omega) w
theorem geo_22 : GeoOk 4 2 (2 : Nat) (12 : Nat) := by decide
theorem mark_1 : MarkOk 1 0 0 := ⟨by omega, by omega, by omega, by omega⟩
theorem zeros_arg (w : World) (m : Nat) (hm : m ≤ 1000000) : ArgV (w.alloc (.cells (valsArr (fun _ => .int .u8 0) m) 5)) (some ⟨w.heap.size, 0, none⟩) m (fun _ => .int .u8 (0 : Nat)) :=
  (RowV.of_blk (Blk.new w 5 _)).arg (by omega)
/-- The fresh page, its first point moved by 3. -/
def awD : Nat → Nat := pgD 1 0 0 (fun _ => 0) 20
def awS : Nat → Nat := pageS 2 12 awD
theorem awD_lt (i : Nat) : awD i < 1024 := pgD_lt mark_1 _ _ i
theorem awS_lt {i : Nat} (hi : i < 56) : awS i < 1024 := pageS_lt awD_lt (by omega) hi
theorem awS_0 : awS 0 = 1 := (word_is (W := 2) (K := 12) awD_lt 0).data 0 (by omega)
def awX (i : Nat) : Int := reS (awS i) + if i = 0 then 24 else 0
def awY (i : Nat) : Int := imS (awS i) + 0
theorem awXY_u (i : Nat) : Pu (awX i) ∧ Pu (awY i) := by
  have h1 := re_le (awS i)
  have h2 := im_le (awS i)
  unfold awX awY Pu
  constructor
  · split <;> omega
  · omega
theorem aw_sl {i : Nat} (hi : i < 56) (h0 : i ≠ 0) : slS awX awY i = awS i := by
  unfold slS awX awY
  rw [if_neg h0, Int.add_zero, Int.add_zero]
  exact sl_sym (awS_lt hi)
theorem aw_on (i : Nat) : onB (awX i) (awY i) = false := by
  unfold onB
  rw [decide_eq_false (show ¬ awY i = 0 by have := co_ne (awS i % 32); unfold awY imS; omega), Bool.and_false]
theorem aw_row0 : wrongN (fun i => onB (awX (0 + i * 2)) (awY (0 + i * 2))) (slS (fun i => awX (0 + i * 2)) (fun i => awY (0 + i * 2))) (wordS 2 12 awD 0) (12 + 16) = 1 := by
  rw [wrongN_one (k := 0) (.inr ?_)]
  · rfl
  · intro i hi h0
    refine ⟨aw_on _, ?_⟩
    rw [← page_at (by omega : 0 < 2), show pageS 2 12 awD = awS from rfl]
    exact (aw_sl (by omega) (by omega)).symm
  · rw [← page_at (by omega : 0 < 2), show pageS 2 12 awD = awS from rfl]
    show awS 0 ≠ sl (reS (awS 0) + 24) (imS (awS 0) + 0)
    rw [awS_0]
    decide
theorem aw_row1 : wrongN (fun i => onB (awX (1 + i * 2)) (awY (1 + i * 2))) (slS (fun i => awX (1 + i * 2)) (fun i => awY (1 + i * 2))) (wordS 2 12 awD 1) (12 + 16) = 0 :=
  wrongN_zero fun i hi => by
    refine ⟨aw_on _, ?_⟩
    rw [← page_at (by omega : 1 < 2), show pageS 2 12 awD = awS from rfl]
    exact (aw_sl (by omega) (by omega)).symm
theorem aw_good0 : GoodRow (fun i => awX (0 + i * 2)) (fun i => awY (0 + i * 2)) (12 + 16) (wordS 2 12 awD 0) := good_of (word_is awD_lt 0) (by rw [aw_row0]; omega)
theorem aw_good1 : GoodRow (fun i => awX (1 + i * 2)) (fun i => awY (1 + i * 2)) (12 + 16) (wordS 2 12 awD 1) := good_of (word_is awD_lt 1) (by rw [aw_row1]; omega)
theorem aw_goods (r : Nat) (hr : r < 2) : GoodRow (fun i => awX (r + i * 2)) (fun i => awY (r + i * 2)) (12 + 16) (wordS 2 12 awD r) := by
  obtain rfl | rfl : r = 0 ∨ r = 1 := by omega
  · exact aw_good0
  · exact aw_good1
theorem aw_sum : offX 2 awX (wordS 2 12 awD) 56 = 24 ∧ offY 2 awY (wordS 2 12 awD) 56 = 0 := by
  constructor
  · rw [offX_one (W := 2) (K := 12) (x := awX) (D := awD) (a := 24) (fun i _ => rfl)]
    rfl
  · rw [offY_same (W := 2) (K := 12) (x := awY) (D := awD) (a := 0) (fun i _ => rfl)]
    rfl
theorem ord_self {n : Int} (h : Sm n) : FloatKind.f64.format.order (fx n) (fx n) = some .eq := by
  rw [show FloatKind.f64.format.order (fx n) (fx n) = _ from fx_order h h, Int.compare_eq_eq.2 rfl]
theorem fx_lit3 : fx 48 = 4613937818241073152 := by decide
theorem pt_3 : Value.complex .f64 4613937818241073152 0 = ptv 24 0 := by
  unfold ptv
  rw [show (2 * (24 : Int)) = 48 from rfl, show (2 * (0 : Int)) = 0 from rfl, fx_lit3, fx_zero]
end Go.Proofs.YtdlmjjlejkkniaaGreat

namespace Go.Proofs.YtdlmjjlejkkniaaGreat
open Go.ChangeShapes Go.WideShapes Go.ChangeAt Go.RowKit

theorem valsArr_at (f : Nat → Value) (n j : Nat) : (valsArr f n)[j]? = if j < n then some (f j) else none := by
  by_cases h : j < n
  · rw [if_pos h]; exact valsArr_get _ _ _ h
  · rw [if_neg h]; exact Array.getElem?_eq_none (by rw [valsArr_size]; omega)
theorem splice_v (f q : Nat → Value) (m n : Nat) (h : n ≤ m) : (splice (valsArr f m).toList 0 (vList q n)).toArray = valsArr (fun i => if i < n then q i else f i) m := by
  apply Array.ext_getElem?
  intro j
  rw [List.getElem?_toArray, valsArr_at]
  have hl := vList_len q n
  unfold splice
  simp only [List.take_zero, List.nil_append, Nat.zero_add, hl]
  by_cases hj : j < n
  · rw [List.getElem?_append_left (by omega), vList_get, if_pos hj, if_pos (by omega), if_pos hj]
  · rw [List.getElem?_append_right (by omega), hl, List.getElem?_drop, Array.getElem?_toList, valsArr_at, show n + (j - n) = j by omega]
    simp [hj]
/-- copy of bytes that came in into a row that was just made. -/
theorem wpList_copy_b {w : World} {ops : Array Oper} {rest : List Oper} {o : Oper} {a : Act} {Q : Exit → Act → World → Prop} (hgd : o.guard = none) (d s : Operand)
    (ho : o.op = .call { callee := .builtin .copy, args := #[d, s], argTypes := #[24, 24] })
    (g m : Nat) (sp : Option Addr) (n c : Nat) (hd : a.eval d = .slice (some ⟨g, 0, none⟩) m m) (hs : a.eval s = .slice sp n c) (f p : Nat → Value) (hb : Blk w g 5 (valsArr f m)) (hp : ArgV w sp n p) (h1 : ∀ i, i < n → (p i).oneCell' = true)
    (W : World) (hk : Keep (fun _ => False) W w) (hW : W.heap.size ≤ g)
    (h : ∀ w', Blk w' g 5 (valsArr (fun i => if i < n then p i else f i) m) → Keep (fun _ => False) W w' → wpList Tryz.prog ops Q rest (a.put o.dst (goInt ((min m n : Nat) : Int))) w') :
    wpList Tryz.prog ops Q (o :: rest) a w := by
  have hl : (vList p (min m n)).length = min m n := vList_len _ _
  have hc : (valsArr f m).toList.length = m := by simp [valsArr]
  refine wpList_copy_splice hgd d s 24 24 ho 5 Tryz.underlying24 (by kernel_rfl) (some ⟨g, 0, none⟩) sp m m n c hd hs g 0 (valsArr f m).toList 5 (by rw [Array.toArray_toList]; exact hb) (vList p (min m n)) (by rw [hl]; exact Nat.min_comm _ _) ?_ (by rw [hl, hc]; omega) ?_ W.heap.size W hk.toBelow hW ?_
  · intro h0
    rw [hl] at h0
    obtain ⟨b, off, rfl, _, hcell⟩ := hp.at_ (by omega)
    refine ⟨rfl, _, rfl, fun j v hj => ?_⟩
    rw [vList_get] at hj
    split at hj
    · rename_i hjn
      rw [addr_add, hcell j (by omega)]
      exact hj
    · cases hj
  · intro v hv
    simp only [vList, List.mem_map, List.mem_range] at hv
    obtain ⟨i, hi, rfl⟩ := hv
    exact h1 i (by omega)
  · intro w' hb' hk'
    have h1 := hb'.out
    rw [splice_v f p m (min m n) (by omega)] at h1
    rw [valsArr_congr (h := fun i => if i < n then p i else f i) (fun k hk => by
      by_cases h : k < n
      · rw [if_pos h, if_pos (by omega)]
      · rw [if_neg h, if_neg (by omega)])] at h1
    have := h w' h1 (Keep.ofBelow hk')
    rwa [hl]
theorem byte_nat {n : Int} (h : (Lit.int .u8 n).wf = true) : ∃ x : Nat, n = x ∧ x < 256 := by
  have h' := Go.bounds_u8 h
  exact ⟨n.toNat, by omega, by omega⟩
/-- Bytes that came in. -/
theorem argB_of {H : Type} {enc : TypeId × Value → H} {w : World} {base : Nat} {a : Option Addr} {len cap : Nat} {d : DataW H} {ps : List MemPlace} {sp : Nat → Bool}
    (h : DataW.Trod enc Tryz.prog w base sp true 24 (.slice a len cap) d ps) : ∃ p : Nat → Nat, len ≤ maxLen ∧ (len ≤ 1000000 → ArgV w a len (fun i => .int .u8 (p i : Nat))) ∧ ∀ i, i < len → p i < 256 := by
  obtain ⟨z, hz⟩ := argInts_of (k := .u8) Tryz.underlying24 Tryz.underlying5 (by kernel_rfl) h
  have hv : ∀ i, i < len → ∃ x : Nat, z i = x ∧ x < 256 := fun i hi => byte_nat (hz.wf i hi)
  refine ⟨fun i => (z i).toNat, hz.small, fun hl => ⟨by omega, fun h0 => ?_⟩, fun i hi => ?_⟩
  · obtain ⟨b, off, e, hb, hc⟩ := hz.at_ h0
    refine ⟨b, off, e, hb, fun i hi => ?_⟩
    obtain ⟨x, ex, _⟩ := hv i hi
    have e2 : ((z i).toNat : Int) = z i := by omega
    rw [hc i hi]
    show _ = some (Value.int .u8 ((z i).toNat : Nat))
    rw [e2]
  · obtain ⟨x, ex, lx⟩ := hv i hi
    show (z i).toNat < 256
    omega
set_option maxRecDepth 100000 in
/-- A geometry by value. -/
theorem geo4_of {H : Type} {enc : TypeId × Value → H} {w : World} {base b0 : Nat} {v : Value} {d : DataW H} {ps : List MemPlace} {sp : Nat → Bool}
    (hv : Value.okWide Tryz.prog w .any b0 23 v) (h : DataW.Trod enc Tryz.prog w base sp true 23 v d ps) : ∃ B P W K : Int, v = geoV B P W K := by
  obtain ⟨cs, rfl, h2⟩ := okWide_struct Tryz.underlying23 hv
  obtain ⟨fuel, hf⟩ := h
  obtain ⟨xs, m, _, _, _, hlen, hf2⟩ := DataW.trod_struct Tryz.underlying23 hf
  have h0 : DataW.trod enc Tryz.prog w base sp true m 3 (List.take (Tryz.prog.cellsOf 3) (List.drop 0 (Value.agg cs).cells.toList)) = xs[0]? := hf2 0 _ rfl
  have h1 : DataW.trod enc Tryz.prog w base sp true m 3 (List.take (Tryz.prog.cellsOf 3) (List.drop 1 (Value.agg cs).cells.toList)) = xs[1]? := hf2 1 _ rfl
  have hw : DataW.trod enc Tryz.prog w base sp true m 3 (List.take (Tryz.prog.cellsOf 3) (List.drop 2 (Value.agg cs).cells.toList)) = xs[2]? := hf2 2 _ rfl
  have h3 : DataW.trod enc Tryz.prog w base sp true m 3 (List.take (Tryz.prog.cellsOf 3) (List.drop 3 (Value.agg cs).cells.toList)) = xs[3]? := hf2 3 _ rfl
  have c1 : Tryz.prog.cellsOf 3 = 1 := by kernel_rfl
  have c4 : Tryz.prog.cellsOf 23 = 4 := by kernel_rfl
  rw [c4] at h2
  have hl : xs.length = 4 := by simpa using hlen
  rw [c1, List.getElem?_eq_getElem (by omega)] at h0 h1 hw h3
  obtain ⟨B, e0, _⟩ := DataW.trod_int Tryz.underlying3 h0
  obtain ⟨P, e1, _⟩ := DataW.trod_int Tryz.underlying3 h1
  obtain ⟨W, e2, _⟩ := DataW.trod_int Tryz.underlying3 hw
  obtain ⟨K, e3, _⟩ := DataW.trod_int Tryz.underlying3 h3
  refine ⟨B, P, W, K, ?_⟩
  obtain ⟨x, y, z, u, rfl⟩ : ∃ x y z u, cs = #[x, y, z, u] := by
    rcases cs with ⟨l⟩
    match l, h2 with
    | [x, y, z, u], _ => exact ⟨x, y, z, u, rfl⟩
  simp [Value.cells] at e0 e1 e2 e3
  rw [e0, e1, e2, e3]
/-- Bytes, and noughts behind. -/
def padB (d : Nat → Nat) (n : Nat) : Nat → Nat := fun i => if i < n then d i else 0
theorem padB_lt {d : Nat → Nat} {n : Nat} (h : ∀ i, i < n → d i < 256) (i : Nat) : padB d n i < 256 := by
  unfold padB
  split
  · exact h i ‹_›
  · omega
theorem padB_vals (d : Nat → Nat) (n m : Nat) : valsArr (fun i => if i < n then Value.int .u8 (d i : Nat) else .int .u8 0) m = valsArr (fun i => .int .u8 (padB d n i : Nat)) m :=
  valsArr_congr fun i _ => by
    unfold padB
    split <;> rfl
end Go.Proofs.YtdlmjjlejkkniaaGreat

namespace Go.Proofs.YtdlmjjlejkkniaaGreat
open Go.RowKit

theorem seqN_of {k l s : Nat} (hm : MarkOk k l s) {S : Nat → Nat} (h : ∀ i, i < 8 → S i = hdS k l s i) : S 0 = k ∧ S 1 * 1024 + S 2 = l ∧ seqN S 4 = s := by
  have h0 : S 0 = k := h 0 (by omega)
  have h1 : S 1 = l / 1024 := h 1 (by omega)
  have h2 : S 2 = l % 1024 := h 2 (by omega)
  have h3 : S 3 = s / 1024 / 1024 / 1024 % 1024 := h 3 (by omega)
  have h4 : S 4 = s / 1024 / 1024 % 1024 := h 4 (by omega)
  have h5 : S 5 = s / 1024 % 1024 := h 5 (by omega)
  have h6 : S 6 = s % 1024 := h 6 (by omega)
  have hs := hm.s
  refine ⟨h0, by rw [h1, h2]; omega, ?_⟩
  have e : seqN S 4 = (((0 * 1024 + S 3) * 1024 + S 4) * 1024 + S 5) * 1024 + S 6 := rfl
  rw [e, h3, h4, h5, h6]
  omega
/-- Symbols that are a page's say what it was to say. -/
theorem says_of {k l s W K : Nat} {d S : Nat → Nat} (hm : MarkOk k l s) (hwk : 8 < W * K) (hd : ∀ i, i < szB W K → d i < 256) (hS : ∀ i, i < W * K → S i = pgD k l s d (szB W K) i) :
    FSays S W K ∧ S 0 = k ∧ S 1 * 1024 + S 2 = l ∧ seqN S 4 = s ∧ ∀ j, j < szB W K → upB (fun i => S (8 + i)) j = d j := by
  obtain ⟨e0, e1, e2⟩ := seqN_of hm (fun i hi => by
    rw [hS i (by omega)]
    unfold pgD
    rw [if_pos hi] : ∀ i, i < 8 → S i = hdS k l s i)
  have hz := szB_pk W K hwk
  have hu : ∀ j, j < szB W K → upB (fun i => S (8 + i)) j = d j := fun j hj => by
    rw [upB_congr (t := pkS d (szB W K)) (m := pkN (szB W K)) (fun i hi => ?_) (by unfold pkN; omega)]
    · exact up_pk hj (hd j hj)
    · show S (8 + i) = _
      rw [hS _ (by omega)]
      unfold pgD
      rw [if_neg (by omega), if_pos (by omega), show 8 + i - 8 = i by omega]
  refine ⟨⟨by rw [e0, e1, e2]; exact hm, fun i hi => ?_⟩, e0, e1, e2, hu⟩
  rw [e0, e1, e2, hS i hi]
  unfold pgD
  rw [pkS_congr hu]
theorem wov_of {W K : Nat} {D : Nat → Nat} (hD : ∀ i, D i < 1024) {q : Nat → Nat → Nat} (hW : 0 < W) (hq : ∀ r, r < W → ∀ j, j < K + 16 → q r j = wordS W K D r j) {i : Nat} (hi : i < W * K) : wovS W q i = D i := by
  have h1 := Nat.mod_lt i hW
  have h2 : i / W < K := by
    rw [Nat.div_lt_iff_lt_mul hW, Nat.mul_comm]
    exact hi
  unfold wovS
  rw [hq _ h1 _ (by omega), (word_is hD _).data _ h2]
  unfold rowD
  rw [Nat.mul_comm, Nat.div_add_mod]
theorem wrF_congr {x y : Nat → Int} {W K : Nat} {q q' : Nat → Nat → Nat} {r : Nat} (h : ∀ j, j < K + 16 → q r j = q' r j) : wrF x y W K q r = wrF x y W K q' r := wrongN_congr h
/-- A page all of whose codewords can be read says what it was to say. -/
theorem ReadR.says {w' : World} {N : Nat} {x y : Nat → Int} {W K k l s : Nat} {d : Nat → Nat} {e : Ending} (h : ReadR w' N x y W K e) (hm : MarkOk k l s) (hd : ∀ i, i < szB W K → d i < 256) (hW : 0 < W) (hK : K ≤ 64) (hwk : 8 < W * K)
    (hg : ∀ r, r < W → GoodRow (fun i => x (r + i * W)) (fun i => y (r + i * W)) (K + 16) (wordS W K (pgD k l s d (szB W K)) r)) :
    ∃ a' c', e = .returned (.tuple #[markV k l s, .slice a' (szB W K) c', .int .i64 (mostN (wrF x y W K (wordS W K (pgD k l s d (szB W K)))) W : Nat), .int .i64 0]) ∧ OwnV w' 5 N a' (szB W K) c' (fun j => .int .u8 (d j : Nat)) := by
  rcases h with ⟨hb, _⟩ | ⟨_, ⟨⟨r, hr, hno⟩, _⟩ | ⟨q, hq, hS⟩⟩
  · have hz : ∀ i, i < W * (K + 16) → x i = 0 ∧ y i = 0 := fun i hi => by
      by_cases ho : offB (x i) (y i) = true
      · rw [anyB_true (b := fun i => offB (x i) (y i)) ho hi] at hb
        cases hb
      · unfold offB at ho
        simp at ho
        exact ho
    have h10 : zerosN (fun i => onB (x (0 + i * W)) (y (0 + i * W))) (K + 16) = K + 16 := by
      have : ∀ n, n ≤ K + 16 → zerosN (fun i => onB (x (0 + i * W)) (y (0 + i * W))) n = n := by
        intro n
        induction n with
        | zero => intro _; rfl
        | succ n ih =>
          intro hn
          unfold zerosN
          rw [ih (by omega)]
          have := hz (0 + n * W) ((row_lt (r := 0) (j := n) (W := W) (N := K + 16) hW).2 (by omega))
          have e : onB (x (0 + n * W)) (y (0 + n * W)) = true := by
            rw [this.1, this.2]
            rfl
          rw [if_pos e]
      exact this _ (Nat.le_refl _)
    exact absurd (hg 0 hW) (zeros_bad (x := fun i => x (0 + i * W)) (y := fun i => y (0 + i * W)) (show 8 < zerosN (fun i => onB (x (0 + i * W)) (y (0 + i * W))) (K + 16) by rw [h10]; omega) _)
  · exact absurd (hg r hr) (hno _)
  · have hD : ∀ i, pgD k l s d (szB W K) i < 1024 := pgD_lt hm d _
    have hqe : ∀ r, r < W → ∀ j, j < K + 16 → q r j = wordS W K (pgD k l s d (szB W K)) r j := fun r hr j hj => by
      obtain ⟨⟨d', h1⟩, _⟩ := hq r hr
      exact GoodRow.uniq (by omega) h1 (hg r hr) j hj
    obtain ⟨hF, e0, e1, e2, hu⟩ := says_of hm hwk hd (S := wovS W q) (fun i hi => wov_of hD hW hqe hi)
    rcases hS with ⟨hn, _⟩ | ⟨_, a', c', rfl, ho⟩
    · exact absurd hF hn
    · refine ⟨a', c', ?_, ho.congr fun j hj => by rw [hu j hj]⟩
      rw [e0, e1, e2, mostN_congr (fun r hr => wrF_congr (hqe r hr))]
theorem ReadR.torn {w' : World} {N : Nat} {x y : Nat → Int} {W K : Nat} {e : Ending} (h : ReadR w' N x y W K e) (hb : anyB (fun i => offB (x i) (y i)) (W * (K + 16)) = true) {r : Nat} (hr : r < W) (hno : ∀ q, ¬ GoodRow (fun i => x (r + i * W)) (fun i => y (r + i * W)) (K + 16) q) : e = noE 4 := by
  rcases h with ⟨h1, _⟩ | ⟨_, ⟨_, he⟩ | ⟨q, hq, _⟩⟩
  · rw [hb] at h1
    cases h1
  · exact he
  · exact absurd (hq r hr) (hno _)
theorem ReadR.blank {w' : World} {N : Nat} {x y : Nat → Int} {W K : Nat} {e : Ending} (h : ReadR w' N x y W K e) (hb : anyB (fun i => offB (x i) (y i)) (W * (K + 16)) = false) : e = noE 13 := by
  rcases h with ⟨_, he⟩ | ⟨h1, _⟩
  · exact he
  · rw [hb] at h1
    cases h1
/-- Symbols that are no page's. -/
theorem ReadR.form {w' : World} {N : Nat} {x y : Nat → Int} {W K : Nat} {e : Ending} (h : ReadR w' N x y W K e) (hK : K ≤ 64) (hb : anyB (fun i => offB (x i) (y i)) (W * (K + 16)) = true) {q : Nat → Nat → Nat} (hg : ∀ r, r < W → GoodRow (fun i => x (r + i * W)) (fun i => y (r + i * W)) (K + 16) (q r))
    (hS : ∀ S, (∀ i, i < W * K → S i = wovS W q i) → ¬ FSays S W K) (hW : 0 < W) : e = noE 12 := by
  rcases h with ⟨h1, _⟩ | ⟨_, ⟨⟨r, hr, hno⟩, _⟩ | ⟨q', hq, hs⟩⟩
  · rw [hb] at h1
    cases h1
  · exact absurd (hg r hr) (hno _)
  · rcases hs with ⟨_, he⟩ | ⟨hF, _⟩
    · exact he
    · refine absurd hF (hS _ fun i hi => ?_)
      have h1 := Nat.mod_lt i hW
      have h2 : i / W < K := by
        rw [Nat.div_lt_iff_lt_mul hW, Nat.mul_comm]
        exact hi
      obtain ⟨⟨d', h3⟩, _⟩ := hq _ h1
      exact GoodRow.uniq (by omega) h3 (hg _ h1) _ (by omega)
/-- Whatever the points are. -/
theorem ReadR.any {w' : World} {N : Nat} {x y : Nat → Int} {W K : Nat} {e : Ending} (h : ReadR w' N x y W K e) : ∃ (k l s : Int) (a' : Option Addr) (n c' m : Nat) (z : Int), e = .returned (.tuple #[markV k l s, .slice a' n c', .int .i64 m, .int .i64 z]) ∧ m ≤ 8 := by
  rcases h with ⟨_, rfl⟩ | ⟨_, ⟨_, rfl⟩ | ⟨q, hq, ⟨_, rfl⟩ | ⟨_, a', c', rfl, _⟩⟩⟩
  · exact ⟨0, 0, 0, none, 0, 0, 0, 13, rfl, by omega⟩
  · exact ⟨0, 0, 0, none, 0, 0, 0, 4, rfl, by omega⟩
  · exact ⟨0, 0, 0, none, 0, 0, 0, 12, rfl, by omega⟩
  · exact ⟨_, _, _, a', _, c', _, 0, rfl, mostN_le fun r hr => (hq r hr).2⟩
/-- Bytes as a string. -/
def strS (d : Nat → Nat) (n : Nat) : ByteArray := ⟨((List.range n).map fun i => UInt8.ofNat (d i)).toArray⟩
theorem strS_congr {d e : Nat → Nat} {n : Nat} (h : ∀ i, i < n → d i = e i) : strS d n = strS e n := by
  unfold strS
  rw [List.map_congr_left fun i hi => by rw [h i (List.mem_range.1 hi)]]
theorem strS_inj {d e : Nat → Nat} {n : Nat} (hd : ∀ i, i < n → d i < 256) (he : ∀ i, i < n → e i < 256) (h : strS d n = strS e n) : ∀ i, i < n → d i = e i := by
  intro i hi
  unfold strS at h
  injection h with h
  have h1 : (List.range n).map (fun i => UInt8.ofNat (d i)) = (List.range n).map (fun i => UInt8.ofNat (e i)) := by simpa using h
  have h2 := congrArg (fun l => l[i]?) h1
  simp [hi] at h2
  have h3 := congrArg UInt8.toNat h2
  simp at h3
  have := hd i hi
  have := he i hi
  omega
theorem str_any (a : Option Addr) (n c : Nat) (d : Nat → Nat) (w : World) (ha : ArgV w a n (fun i => .int .u8 (d i : Nat))) (h0 : 0 < n) (hd : ∀ i, i < n → d i < 256) :
    (convert 24 9 (.slice a n c)).run Tryz.prog w = .ok (.string (strS d n)) w := by
  obtain ⟨b, off, rfl, _, hc⟩ := ha.at_ h0
  have h := run_convert_bytes_back (P := Tryz.prog) w 24 9 5 ⟨b, off, none⟩ c ((List.range n).map fun i => UInt8.ofNat (d i)) Tryz.underlying24 Tryz.underlying5 (by kernel_rfl) (fun j hj => by
    simp at hj
    rw [addr_add, hc j hj]
    simp
    have := hd j hj
    omega)
  simp only [List.length_map, List.length_range] at h
  exact h
end Go.Proofs.YtdlmjjlejkkniaaGreat

namespace Go.Proofs.YtdlmjjlejkkniaaGreat
open Go.RowKit
attribute [local go_sem] run_store_cx

theorem Tryz.info_cx : (Tryz.prog.info? 122).map (fun i => (i.zero, i.size, i.bytes)) = some (some (.complex .f64 0 0), 1, 16) := by kernel_rfl
theorem make_cx (x : Int) (m : Nat) (hx : x = m) (hm : m ≤ 1000000) (w : World) :
    (Instr.makeSlice 92 (.int .i64 x) (.int .i64 x)).run Tryz.prog w = .ok (.slice (some ⟨w.heap.size, 0, none⟩) m m) (w.alloc (.cells (valsArr (fun _ => .complex .f64 0 0) m) 122)) :=
  make_vals (P := Tryz.prog) Tryz.underlying92 Tryz.info_cx rfl x m hx (by omega) (by omega) w
theorem pt_00 : Value.complex .f64 0 0 = ptv 0 0 := by
  unfold ptv
  rw [show (2 * (0 : Int)) = 0 from rfl, fx_zero]
/-- Symbols that are a page's can be read from their own points. -/
theorem fresh_wrong {W K : Nat} {D : Nat → Nat} (hD : ∀ i, D i < 1024) (hW : 1 ≤ W) {r : Nat} (hr : r < W) :
    wrF (fun i => reS (pageS W K D i)) (fun i => imS (pageS W K D i)) W K (wordS W K D) r = 0 := by
  unfold wrF
  refine wrongN_zero fun i hi => ⟨onB_sym _, ?_⟩
  show wordS W K D r i = sl (reS (pageS W K D (r + i * W))) (imS (pageS W K D (r + i * W)))
  rw [sl_sym (pageS_lt hD hW ((row_lt (r := r) (j := i) (W := W) (N := K + 16) hr).2 hi)), page_at hr]
theorem fresh_good {W K : Nat} {D : Nat → Nat} (hD : ∀ i, D i < 1024) (hW : 1 ≤ W) {r : Nat} (hr : r < W) :
    GoodRow (fun i => reS (pageS W K D (r + i * W))) (fun i => imS (pageS W K D (r + i * W))) (K + 16) (wordS W K D r) :=
  good_of (word_is hD r) (by have := fresh_wrong (K := K) hD hW hr; unfold wrF at this; rw [this]; omega)
theorem mostN_zero {f : Nat → Nat} {n : Nat} (h : ∀ i, i < n → f i = 0) : mostN f n = 0 := Nat.le_zero.1 (mostN_le fun i hi => Nat.le_of_eq (h i hi))
/-- A fresh page, read. -/
theorem ReadR.fresh {w' : World} {N W K k l s : Nat} {d : Nat → Nat} {e : Ending} (h : ReadR w' N (fun i => reS (pageS W K (pgD k l s d (szB W K)) i)) (fun i => imS (pageS W K (pgD k l s d (szB W K)) i)) W K e) (hm : MarkOk k l s) (hd : ∀ i, i < szB W K → d i < 256) (hW : 0 < W) (hK : K ≤ 64) (hwk : 8 < W * K) :
    ∃ a' c', e = .returned (.tuple #[markV k l s, .slice a' (szB W K) c', .int .i64 0, .int .i64 0]) ∧ OwnV w' 5 N a' (szB W K) c' (fun j => .int .u8 (d j : Nat)) := by
  obtain ⟨a', c', he, ho⟩ := h.says hm hd hW hK hwk (fun r hr => fresh_good (pgD_lt hm d _) hW hr)
  rw [mostN_zero (fun r hr => fresh_wrong (pgD_lt hm d _) hW hr)] at he
  exact ⟨a', c', he, ho⟩
theorem geo_12 : GeoOk 4 2 (1 : Nat) (12 : Nat) := by decide
theorem mark_179 : MarkOk 1 7 9 := ⟨by omega, by omega, by omega, by omega⟩
def bt5 : Nat → Nat := lst [1, 2, 3, 4, 5]
theorem bt5_lt (i : Nat) : bt5 i < 256 := by
  match i with
  | 0 => decide
  | 1 => decide
  | 2 => decide
  | 3 => decide
  | 4 => decide
  | n + 5 => exact Nat.zero_lt_succ _
def bwD : Nat → Nat := pgD 1 7 9 bt5 5
def bwS : Nat → Nat := pageS 1 12 bwD
theorem bwD_lt (i : Nat) : bwD i < 1024 := pgD_lt mark_179 _ _ i
theorem bwS_lt {i : Nat} (hi : i < 28) : bwS i < 1024 := pageS_lt bwD_lt (by omega) hi
end Go.Proofs.YtdlmjjlejkkniaaGreat

namespace Go.Proofs.YtdlmjjlejkkniaaGreat
open Go.ChangeShapes Go.WideShapes Go.ChangeAt Go.RowKit

def SaysR (w' : World) (N : Nat) (e : Ending) (k l s : Int) (z : Nat) (d : Nat → Nat) (n f : Int) : Prop :=
  ∃ a' c', e = .returned (.tuple #[.agg #[.int .i64 k, .int .i64 l, .int .i64 s], .slice a' z c', .int .i64 n, .int .i64 f]) ∧ OwnV w' 5 N a' z c' (fun j => .int .u8 (d j : Nat))
theorem SaysR.nothing {w' : World} {N : Nat} {e : Ending} {z : Int} (d : Nat → Nat) (h : e = noE z) : SaysR w' N e 0 0 0 0 d 0 z := ⟨Option.none, 0, h, OwnV.nil _ _ _ _⟩
theorem read_says {B P : Int} {W K n : Nat} {x y : Nat → Int} {k l s : Int} {z : Nat} {d : Nat → Nat} {rn rf : Int} (h : GeoOk B P W K) (hn : n = W * (K + 16)) (hx : ∀ i, i < n → Pm (x i) ∧ Pm (y i))
    (hs : ∀ w' N e, ReadR w' N x y W K e → SaysR w' N e k l s z d rn rf) :
    Hid (∀ w V a c, HasT w V → ArgV w a n (ptsV x y) → Calls Tryz.prog 42 #[V, geoV B P W K, .slice a n c] w fun e w' => SaysR w' w.heap.size e k l s z d rn rf ∧ Keep (fun _ => False) w w') :=
  Lib.hid fun w V a c hT ha => (read_any V B P W K n a c x y w h hn hT ha hx).mono fun _ _ ⟨h1, h2⟩ => ⟨hs _ _ _ h1, h2⟩
set_option maxRecDepth 100000 in
/-- A head by value. -/
theorem mark3_of {H : Type} {enc : TypeId × Value → H} {w : World} {base b0 : Nat} {v : Value} {d : DataW H} {ps : List MemPlace} {sp : Nat → Bool}
    (hv : Value.okWide Tryz.prog w .any b0 30 v) (h : DataW.Trod enc Tryz.prog w base sp true 30 v d ps) : ∃ k l s : Int, v = markV k l s := by
  obtain ⟨cs, rfl, h2⟩ := okWide_struct Tryz.underlying30 hv
  obtain ⟨fuel, hf⟩ := h
  obtain ⟨xs, m, _, _, _, hlen, hf2⟩ := DataW.trod_struct Tryz.underlying30 hf
  have h0 : DataW.trod enc Tryz.prog w base sp true m 3 (List.take (Tryz.prog.cellsOf 3) (List.drop 0 (Value.agg cs).cells.toList)) = xs[0]? := hf2 0 _ rfl
  have h1 : DataW.trod enc Tryz.prog w base sp true m 3 (List.take (Tryz.prog.cellsOf 3) (List.drop 1 (Value.agg cs).cells.toList)) = xs[1]? := hf2 1 _ rfl
  have hw : DataW.trod enc Tryz.prog w base sp true m 3 (List.take (Tryz.prog.cellsOf 3) (List.drop 2 (Value.agg cs).cells.toList)) = xs[2]? := hf2 2 _ rfl
  have c1 : Tryz.prog.cellsOf 3 = 1 := by kernel_rfl
  have c3 : Tryz.prog.cellsOf 30 = 3 := by kernel_rfl
  rw [c3] at h2
  have hl : xs.length = 3 := by simpa using hlen
  rw [c1, List.getElem?_eq_getElem (by omega)] at h0 h1 hw
  obtain ⟨B, e0, _⟩ := DataW.trod_int Tryz.underlying3 h0
  obtain ⟨P, e1, _⟩ := DataW.trod_int Tryz.underlying3 h1
  obtain ⟨W, e2, _⟩ := DataW.trod_int Tryz.underlying3 hw
  refine ⟨B, P, W, ?_⟩
  obtain ⟨x, y, z, rfl⟩ : ∃ x y z, cs = #[x, y, z] := by
    rcases cs with ⟨l⟩
    match l, h2 with
    | [x, y, z], _ => exact ⟨x, y, z, rfl⟩
  simp [Value.cells] at e0 e1 e2
  rw [e0, e1, e2]
  rfl
/-- Pages that were made, read. -/
theorem fresh_says {k l s W K : Nat} {d : Nat → Nat} (hm : MarkOk k l s) (hd : ∀ i, i < szB W K → d i < 256) (hW : 0 < W) (hK : K ≤ 64) (hwk : 8 < W * K) (w' : World) (N : Nat) (e : Ending)
    (h : ReadR w' N (fun i => reS (pageS W K (pgD k l s d (szB W K)) i)) (fun i => imS (pageS W K (pgD k l s d (szB W K)) i)) W K e) : SaysR w' N e k l s (szB W K) d 0 0 := h.fresh hm hd hW hK hwk
end Go.Proofs.YtdlmjjlejkkniaaGreat

namespace Go.Proofs.YtdlmjjlejkkniaaGreat
open Go.RowKit

theorem Tryz.info_it : (Tryz.prog.info? 3).map (fun i => (i.zero, i.size, i.bytes)) = some (some (.int .i64 0), 1, 8) := by kernel_rfl
theorem make_it (x : Int) (m : Nat) (hx : x = m) (hm : m ≤ 1000000) (w : World) :
    (Instr.makeSlice 47 (.int .i64 x) (.int .i64 x)).run Tryz.prog w = .ok (.slice (some ⟨w.heap.size, 0, none⟩) m m) (w.alloc (.cells (valsArr (fun _ => .int .i64 0) m) 3)) :=
  make_vals (P := Tryz.prog) Tryz.underlying47 Tryz.info_it rfl x m hx (by omega) (by omega) w
/-- How many i below n with i % W = r are so. -/
def cntR (b : Nat → Bool) (W r : Nat) : Nat → Nat
  | 0 => 0
  | n + 1 => cntR b W r n + if b n = true ∧ n % W = r then 1 else 0
theorem cntR_part {b : Nat → Bool} {W r N : Nat} (hr : r < W) : ∀ {s}, s ≤ W → cntR b W r (N * W + s) = cntR b W r (N * W) + if r < s ∧ b (N * W + r) = true then 1 else 0
  | 0, _ => by rw [if_neg (by omega)]; rfl
  | s + 1, hs => by
    have h1 := cntR_part (b := b) (N := N) hr (show s ≤ W by omega)
    show cntR b W r (N * W + s) + (if b (N * W + s) = true ∧ (N * W + s) % W = r then 1 else 0) = _
    rw [h1, (woven_idx (show s < W by omega)).1]
    by_cases e : s = r
    · subst e
      rw [if_neg (by omega)]
      by_cases hb : b (N * W + s) = true
      · rw [if_pos ⟨hb, rfl⟩, if_pos ⟨by omega, hb⟩]
      · rw [if_neg (fun h => hb h.1), if_neg (fun h => hb h.2)]
    · rw [if_neg (show ¬ (b (N * W + s) = true ∧ s = r) from fun h => e h.2)]
      by_cases hb : r < s ∧ b (N * W + r) = true
      · rw [if_pos hb, if_pos ⟨by omega, hb.2⟩]
      · rw [if_neg hb, if_neg (fun h => hb ⟨by omega, h.2⟩)]
theorem zerosN_row {b : Nat → Bool} {W r : Nat} (hr : r < W) : ∀ N, zerosN (fun t => b (r + t * W)) N = cntR b W r (N * W)
  | 0 => by rw [Nat.zero_mul]; rfl
  | N + 1 => by
    have h := cntR_part (b := b) (N := N) hr (Nat.le_refl W)
    unfold zerosN
    rw [zerosN_row hr N, Nat.succ_mul, h, Nat.add_comm r]
    by_cases hb : b (N * W + r) = true
    · rw [if_pos hb, if_pos ⟨hr, hb⟩]
    · rw [if_neg hb, if_neg (fun h => hb h.2)]
/-- Wrong symbols, row by row. -/
theorem wrongN_row {z : Nat → Bool} {s q : Nat → Nat} {b : Nat → Bool} : ∀ {n}, (∀ i, i < n → (b i = true ↔ z i = true ∨ q i ≠ s i)) → wrongN z s q n = zerosN b n
  | 0, _ => rfl
  | n + 1, h => by
    unfold wrongN zerosN
    rw [wrongN_row (fun i hi => h i (by omega))]
    by_cases hb : b n = true
    · rw [if_pos hb, if_pos ((h n (by omega)).1 hb)]
    · rw [if_neg hb, if_neg (fun h2 => hb ((h n (by omega)).2 h2))]
/-- The most in a row, as it is counted. -/
def mostJ (b : Nat → Bool) (W : Nat) : Nat → Nat
  | 0 => 0
  | n + 1 => if b n = true then max (mostJ b W n) (cntR b W (n % W) (n + 1)) else mostJ b W n
theorem mostN_upd {f g : Nat → Nat} {r : Nat} (h : ∀ i, i ≠ r → g i = f i) (hr : f r ≤ g r) : ∀ n, mostN g n = if r < n then max (mostN f n) (g r) else mostN f n
  | 0 => rfl
  | n + 1 => by
    unfold mostN
    rw [mostN_upd h hr n]
    by_cases e : n = r
    · subst e
      rw [if_neg (by omega), if_pos (by omega)]
      omega
    · rw [h n e]
      by_cases h2 : r < n
      · rw [if_pos h2, if_pos (by omega)]
        omega
      · rw [if_neg h2, if_neg (by omega)]
theorem mostJ_eq {b : Nat → Bool} {W : Nat} (hW : 0 < W) : ∀ n, mostJ b W n = mostN (fun r => cntR b W r n) W
  | 0 => by
    have : ∀ m, mostN (fun r => cntR b W r 0) m = 0 := fun m => Nat.le_zero.1 (mostN_le fun _ _ => Nat.le_refl 0)
    rw [this]
    rfl
  | n + 1 => by
    have h := mostN_upd (f := fun r => cntR b W r n) (g := fun r => cntR b W r (n + 1)) (r := n % W) (fun i hi => by
      show cntR b W i n + _ = _
      rw [if_neg (fun h => hi h.2.symm)]
      rfl) (Nat.le_add_right _ _) W
    rw [if_pos (Nat.mod_lt _ hW)] at h
    unfold mostJ
    rw [mostJ_eq hW n, h]
    by_cases hb : b n = true
    · rw [if_pos hb]
    · rw [if_neg hb]
      have e : cntR b W (n % W) (n + 1) = cntR b W (n % W) n := by
        show cntR b W (n % W) n + _ = _
        rw [if_neg (fun h => hb h.1)]
        rfl
      have h2 : cntR b W (n % W) n ≤ mostN (fun r => cntR b W r n) W := by
        have : ∀ {m}, n % W < m → cntR b W (n % W) n ≤ mostN (fun r => cntR b W r n) m := by
          intro m
          induction m with
          | zero => intro h; omega
          | succ m ih =>
            intro h
            unfold mostN
            by_cases e : n % W = m
            · rw [← e]
              omega
            · have := ih (by omega)
              omega
        exact this (Nat.mod_lt _ hW)
      omega
theorem mostN_ex {f : Nat → Nat} {k : Nat} : ∀ {n}, k < mostN f n → ∃ r, r < n ∧ k < f r
  | 0, h => absurd h (Nat.not_lt_zero k)
  | n + 1, h => by
    unfold mostN at h
    by_cases h1 : k < mostN f n
    · obtain ⟨r, hr, h2⟩ := mostN_ex h1
      exact ⟨r, by omega, h2⟩
    · exact ⟨n, by omega, by omega⟩
theorem mostN_ge {f : Nat → Nat} {r : Nat} : ∀ {n}, r < n → f r ≤ mostN f n
  | n + 1, h => by
    unfold mostN
    by_cases e : r = n
    · subst e
      omega
    · have := mostN_ge (f := f) (show r < n by omega)
      omega
/-- Points of which some are nought or lie elsewhere: which rows can be read. -/
theorem rows_wrong {x y : Nat → Int} {W K : Nat} {D : Nat → Nat} {b : Nat → Bool} (hb : ∀ i, i < W * (K + 16) → (b i = true ↔ onB (x i) (y i) = true ∨ pageS W K D i ≠ slS x y i)) {r : Nat} (hr : r < W) :
    wrF x y W K (wordS W K D) r = cntR b W r (W * (K + 16)) := by
  unfold wrF
  rw [Nat.mul_comm W, ← zerosN_row hr (K + 16)]
  refine wrongN_row fun t ht => ?_
  have := hb (r + t * W) ((row_lt (r := r) (j := t) (W := W) (N := K + 16) hr).2 ht)
  rw [page_at hr] at this
  exact this
theorem rows_good {x y : Nat → Int} {W K : Nat} {D : Nat → Nat} {b : Nat → Bool} (hD : ∀ i, D i < 1024) (hb : ∀ i, i < W * (K + 16) → (b i = true ↔ onB (x i) (y i) = true ∨ pageS W K D i ≠ slS x y i)) (hW : 0 < W) (h8 : mostJ b W (W * (K + 16)) ≤ 8) {r : Nat} (hr : r < W) :
    GoodRow (fun i => x (r + i * W)) (fun i => y (r + i * W)) (K + 16) (wordS W K D r) := by
  refine good_of (word_is hD r) ?_
  have h1 := rows_wrong hb hr
  rw [mostJ_eq hW] at h8
  have h2 := mostN_ge (f := fun r => cntR b W r (W * (K + 16))) hr
  unfold wrF at h1
  rw [h1]
  exact Nat.le_trans h2 h8
theorem rows_most {x y : Nat → Int} {W K : Nat} {D : Nat → Nat} {b : Nat → Bool} (hb : ∀ i, i < W * (K + 16) → (b i = true ↔ onB (x i) (y i) = true ∨ pageS W K D i ≠ slS x y i)) (hW : 0 < W) :
    mostN (wrF x y W K (wordS W K D)) W = mostJ b W (W * (K + 16)) := by
  rw [mostJ_eq hW]
  exact mostN_congr fun r hr => rows_wrong hb hr
theorem cntR_le {b : Nat → Bool} {W r : Nat} : ∀ n, cntR b W r n ≤ n
  | 0 => Nat.le_refl _
  | n + 1 => by
    have := cntR_le (b := b) (W := W) (r := r) n
    unfold cntR
    split <;> omega
theorem mostJ_le {b : Nat → Bool} {W : Nat} : ∀ n, mostJ b W n ≤ n
  | 0 => Nat.le_refl _
  | n + 1 => by
    have := mostJ_le (b := b) (W := W) n
    have := cntR_le (b := b) (W := W) (r := n % W) (n + 1)
    unfold mostJ
    split <;> omega
/-- A page's first k points, the others nought. -/
def tnX (S : Nat → Nat) (k i : Nat) : Int := if i < k then reS (S i) else 0
def tnY (S : Nat → Nat) (k i : Nat) : Int := if i < k then imS (S i) else 0
def tnB (k i : Nat) : Bool := decide (k ≤ i)
theorem tn_pm (S : Nat → Nat) (k i : Nat) : Pm (tnX S k i) ∧ Pm (tnY S k i) := by
  unfold tnX tnY
  by_cases h : i < k
  · rw [if_pos h, if_pos h]
    exact ⟨(Pu_re _).pm, (Pu_im _).pm⟩
  · rw [if_neg h, if_neg h]
    exact ⟨by unfold Pm; decide, by unfold Pm; decide⟩
theorem tn_iff {W K : Nat} {D : Nat → Nat} (hD : ∀ i, D i < 1024) (hW : 1 ≤ W) (k : Nat) (i : Nat) (hi : i < W * (K + 16)) : tnB k i = true ↔ onB (tnX (pageS W K D) k i) (tnY (pageS W K D) k i) = true ∨ pageS W K D i ≠ slS (tnX (pageS W K D) k) (tnY (pageS W K D) k) i := by
  unfold tnB slS tnX tnY
  by_cases h : i < k
  · rw [if_pos h, if_pos h, onB_sym, sl_sym (pageS_lt hD hW hi)]
    simp
    exact h
  · rw [if_neg h, if_neg h]
    simp
    exact ⟨fun _ => .inl rfl, fun _ => by omega⟩
theorem tn_none {S : Nat → Nat} {m : Nat} : anyB (fun i => offB (tnX S 0 i) (tnY S 0 i)) m = false := anyB_false fun i _ => by
  unfold tnX tnY
  rw [if_neg (Nat.not_lt_zero i), if_neg (Nat.not_lt_zero i)]
  rfl
theorem tn_some {S : Nat → Nat} {k m : Nat} (hk : 0 < k) (hm : 0 < m) : anyB (fun i => offB (tnX S k i) (tnY S k i)) m = true :=
  anyB_true (j := 0) (by
    unfold tnX tnY offB
    rw [if_pos hk, decide_eq_false (show ¬ reS (S 0) = 0 from co_ne _)]
    rfl) hm
/-- A torn page, read. -/
theorem torn_says {k l s W K : Nat} {d : Nat → Nat} {kk : Nat} (hm : MarkOk k l s) (hd : ∀ i, i < szB W K → d i < 256) (hW : 0 < W) (hK : K ≤ 64) (hwk : 8 < W * K) (h8 : mostJ (tnB kk) W (W * (K + 16)) ≤ 8) (w' : World) (N : Nat) (e : Ending)
    (h : ReadR w' N (tnX (pageS W K (pgD k l s d (szB W K))) kk) (tnY (pageS W K (pgD k l s d (szB W K))) kk) W K e) : SaysR w' N e k l s (szB W K) d (mostJ (tnB kk) W (W * (K + 16)) : Nat) 0 := by
  have hD : ∀ i, pgD k l s d (szB W K) i < 1024 := pgD_lt hm d _
  obtain ⟨a', c', he, ho⟩ := h.says hm hd hW hK hwk (fun r hr => rows_good hD (tn_iff hD hW kk) hW h8 hr)
  rw [rows_most (tn_iff hD hW kk) hW] at he
  exact ⟨a', c', he, ho⟩
theorem torn_bad {W K : Nat} {D : Nat → Nat} {kk : Nat} (hW : 0 < W) (hk : 0 < kk) (h8 : 8 < mostJ (tnB kk) W (W * (K + 16))) (w' : World) (N : Nat) (e : Ending) (dd : Nat → Nat)
    (h : ReadR w' N (tnX (pageS W K D) kk) (tnY (pageS W K D) kk) W K e) : SaysR w' N e 0 0 0 0 dd 0 4 := by
  rw [mostJ_eq hW] at h8
  obtain ⟨r, hr, h9⟩ := mostN_ex h8
  refine SaysR.nothing _ (h.torn (tn_some hk (Nat.mul_pos hW (by omega))) hr (zeros_bad ?_))
  rw [Nat.mul_comm W, ← zerosN_row hr (K + 16)] at h9
  have e : zerosN (fun i => onB (tnX (pageS W K D) kk (r + i * W)) (tnY (pageS W K D) kk (r + i * W))) (K + 16) = zerosN (fun t => tnB kk (r + t * W)) (K + 16) := by
    congr 1
    funext t
    unfold tnB tnX tnY
    by_cases h : r + t * W < kk
    · rw [if_pos h, if_pos h, onB_sym, decide_eq_false (by omega)]
    · rw [if_neg h, if_neg h, decide_eq_true (by omega)]
      rfl
  rw [e]
  exact h9
/-- The points kk .. j are nought. -/
def tnX2 (S : Nat → Nat) (k j i : Nat) : Int := if k ≤ i ∧ i < j then 0 else reS (S i)
def tnY2 (S : Nat → Nat) (k j i : Nat) : Int := if k ≤ i ∧ i < j then 0 else imS (S i)
theorem tn_start {k W r : Nat} : ∀ {n}, n ≤ k → cntR (tnB k) W r n = 0
  | 0, _ => rfl
  | n + 1, h => by
    unfold cntR
    rw [tn_start (show n ≤ k by omega), if_neg (fun h2 => by
      have := h2.1
      unfold tnB at this
      have := of_decide_eq_true this
      omega)]
theorem tn_start_most {k W : Nat} : ∀ {n}, n ≤ k → mostJ (tnB k) W n = 0
  | 0, _ => rfl
  | n + 1, h => by
    unfold mostJ
    rw [if_neg (fun h2 => by
      unfold tnB at h2
      have := of_decide_eq_true h2
      omega)]
    exact tn_start_most (show n ≤ k by omega)
end Go.Proofs.YtdlmjjlejkkniaaGreat
