/- Two pages: where they are unlike; two heads, two rows of bytes by value; a copy beside another row. -/
import Derived.Test.YtdlmjjlejkkniaaFrSays
import Derived.Laws.Strings
namespace Go.Proofs.Ytdlmjjlejkkniaa
open Go.ChangeShapes Go.WideShapes Go.ChangeAt Go.RowKit

/-- copy of bytes that came in into a row: each other block is as it was. -/
theorem wpList_copy_b3 {w : World} {ops : Array Oper} {rest : List Oper} {o : Oper} {a : Act} {Q : Exit → Act → World → Prop} (hgd : o.guard = none) (d s : Operand)
    (ho : o.op = .call { callee := .builtin .copy, args := #[d, s], argTypes := #[26, 26] })
    (g m : Nat) (sp : Option Addr) (n c : Nat) (hd : a.eval d = .slice (some ⟨g, 0, none⟩) m m) (hs : a.eval s = .slice sp n c) (f p : Nat → Value) (hb : Blk w g 5 (valsArr f m)) (hp : ArgV w sp n p) (h1 : ∀ i, i < n → (p i).oneCell' = true)
    (W : World) (hk : Keep (fun _ => False) W w) (hW : W.heap.size ≤ g)
    (h : ∀ w', Blk w' g 5 (valsArr (fun i => if i < n then p i else f i) m) → (∀ k t cs, k ≠ g → Blk w k t cs → Blk w' k t cs) → Keep (fun _ => False) W w' → wpList Try.prog ops Q rest (a.put o.dst (goInt ((min m n : Nat) : Int))) w') :
    wpList Try.prog ops Q (o :: rest) a w := by
  have hl : (vList p (min m n)).length = min m n := vList_len _ _
  have hc : (valsArr f m).toList.length = m := by simp [valsArr]
  have hsz : (Try.prog.info? 5).map (·.size) = some 1 := by kernel_rfl
  have hcg : valsArr (fun i => if i < min m n then p i else f i) m = valsArr (fun i => if i < n then p i else f i) m := valsArr_congr fun k hk => by
    by_cases h : k < n
    · rw [if_pos h, if_pos (by omega)]
    · rw [if_neg h, if_neg (by omega)]
  by_cases h0 : min m n = 0
  · refine wpList_copy_nothing hgd d s 26 26 ho 5 Try.underlying26 hsz (some ⟨g, 0, none⟩) sp m m n c hd hs (by rw [show Nat.min n m = min m n from Nat.min_comm _ _]; exact h0) ?_
    have h2 := h w (by
      rw [← hcg, valsArr_congr (h := f) (fun k hk => by rw [if_neg (by omega)])]
      exact hb) (fun _ _ _ _ hb => hb) hk
    rw [h0] at h2
    exact h2
  · obtain ⟨b, off, rfl, _, hcell⟩ := hp.at_ (by omega)
    refine wpList_copy_own hgd d s 26 26 ho 5 Try.underlying26 hsz g 0 m m ⟨b, off, none⟩ n c hd hs (valsArr f m) 5 hb (vList p (min m n)) (by rw [hl]; exact Nat.min_comm _ _) (fun j v hj => ?_) (by rw [hl, valsArr_size]; omega) (fun v hv => ?_) ?_
    · rw [vList_get] at hj
      split at hj
      · rename_i hjn
        rw [addr_add, hcell j (by omega)]
        exact hj
      · cases hj
    · simp only [vList, List.mem_map, List.mem_range] at hv
      obtain ⟨i, hi, rfl⟩ := hv
      exact h1 i (by omega)
    · have h2 := h (w.setRow g ((valsArr f m).toList.take 0 ++ (vList p (min m n) ++ (valsArr f m).toList.drop (0 + (vList p (min m n)).length))).toArray) (by
        have h3 := setRow_heap w g _ ((valsArr f m).toList.take 0 ++ (vList p (min m n) ++ (valsArr f m).toList.drop (0 + (vList p (min m n)).length))).toArray 5 _ hb
        have h4 := splice_v f p m (min m n) (by omega)
        unfold splice at h4
        rw [h4, hcg] at h3
        rw [h4, hcg]
        exact h3) (fun k t cs hne hb2 => (setRow_other w g k _ hne).trans hb2) (Keep.ofBelow (below_setRow hk.toBelow hW _))
      rw [hl] at h2 ⊢
      exact h2
theorem str_ne {a b : ByteArray} (h : ¬ a = b) : (a.toList == b.toList) = false := by
  rw [ByteArray.toList_eq, ByteArray.toList_eq]
  cases h2 : (a.data.toList == b.data.toList) with
  | false => rfl
  | true =>
    have h3 := eq_of_beq h2
    rcases a with ⟨a⟩
    rcases b with ⟨b⟩
    exact absurd (congrArg ByteArray.mk (Array.toList_inj.1 h3)) h
/-- Codewords that are unlike are so in more than sixteen places. -/
theorem enc_apart {p p' q q' : Nat → Nat} {K : Nat} (hK : K + 16 ≤ 1023) (hq : IsEnc p K q) (hq' : IsEnc p' K q') (h : cntNe q q' (K + 16) ≤ 16) : ∀ i, i < K + 16 → q i = q' i :=
  words_apart hK hq.lt hq'.lt hq.word hq'.word (plc q q' (K + 16)) (by rw [plc_length]; exact h) fun i hi hne => by
    unfold plc
    rw [List.mem_map]
    exact ⟨i, List.mem_filter.2 ⟨List.mem_range.2 hi, decide_eq_true hne⟩, rfl⟩
theorem cntNe_pos {q q' : Nat → Nat} : ∀ {n}, (∀ i, i < n → q i = q' i) → cntNe q q' n = 0 := fun h => cntNe_zero.2 h
/-- Pages that say something else. -/
theorem pages_apart {k l s k' l' s' W K : Nat} {d d' : Nat → Nat} (hm : MarkOk k l s) (hm' : MarkOk k' l' s') (hwk : 8 < W * K) (hW : 0 < W) (hd : ∀ i, i < szB W K → d i < 256) (hd' : ∀ i, i < szB W K → d' i < 256)
    (h : ∀ r, r < W → ∀ t, t < K + 16 → pageS W K (pgD k l s d (szB W K)) (r + t * W) = pageS W K (pgD k' l' s' d' (szB W K)) (r + t * W)) : k = k' ∧ l = l' ∧ s = s' ∧ ∀ i, i < szB W K → d i = d' i := by
  have hD : ∀ i, pgD k l s d (szB W K) i < 1024 := pgD_lt hm d _
  have hD' : ∀ i, pgD k' l' s' d' (szB W K) i < 1024 := pgD_lt hm' d' _
  have e : ∀ i, i < W * K → pgD k' l' s' d' (szB W K) i = pgD k l s d (szB W K) i := fun i hi => by
    have h1 := Nat.mod_lt i hW
    have h2 : i / W < K := by
      rw [Nat.div_lt_iff_lt_mul hW, Nat.mul_comm]
      exact hi
    have h3 := h (i % W) h1 (i / W) (by omega)
    rw [page_at h1, page_at h1, (word_is hD _).data _ h2, (word_is hD' _).data _ h2] at h3
    unfold rowD at h3
    rw [Nat.mul_comm, Nat.div_add_mod] at h3
    exact h3.symm
  obtain ⟨_, e0, e1, e2, e3⟩ := says_of (S := pgD k l s d (szB W K)) hm hwk hd (fun i _ => rfl)
  obtain ⟨_, f0, f1, f2, f3⟩ := says_of (S := pgD k l s d (szB W K)) hm' hwk hd' (fun i hi => (e i hi).symm)
  exact ⟨e0.symm.trans f0, e1.symm.trans f1, e2.symm.trans f2, fun i hi => (e3 i hi).symm.trans (f3 i hi)⟩
theorem row_cnt {k l s k' l' s' W K : Nat} {d d' : Nat → Nat} (hm : MarkOk k l s) (hm' : MarkOk k' l' s') (hK : K ≤ 64) {r : Nat} (hr : r < W) :
    let c := cntNe (fun t => pageS W K (pgD k l s d (szB W K)) (r + t * W)) (fun t => pageS W K (pgD k' l' s' d' (szB W K)) (r + t * W)) (K + 16)
    (c = 0 ∧ ∀ t, t < K + 16 → pageS W K (pgD k l s d (szB W K)) (r + t * W) = pageS W K (pgD k' l' s' d' (szB W K)) (r + t * W)) ∨ 16 < c := by
  intro c
  rcases Nat.lt_or_ge 16 c with h | h
  · exact .inr h
  · refine .inl ?_
    have e : (fun t => pageS W K (pgD k l s d (szB W K)) (r + t * W)) = wordS W K (pgD k l s d (szB W K)) r := funext fun t => page_at hr t
    have e' : (fun t => pageS W K (pgD k' l' s' d' (szB W K)) (r + t * W)) = wordS W K (pgD k' l' s' d' (szB W K)) r := funext fun t => page_at hr t
    have h2 : ∀ t, t < K + 16 → pageS W K (pgD k l s d (szB W K)) (r + t * W) = pageS W K (pgD k' l' s' d' (szB W K)) (r + t * W) := fun t ht => by
      rw [page_at hr, page_at hr]
      refine enc_apart (by omega) (word_is (pgD_lt hm d _) r) (word_is (pgD_lt hm' d' _) r) ?_ t ht
      rw [← e, ← e']
      exact h
    exact ⟨cntNe_zero.2 h2, h2⟩
set_option maxRecDepth 100000 in
/-- Two rows of bytes by value. -/
theorem bytes2_by {H : Type} {enc : TypeId × Value → H} {w : World} {base b0 : Nat} {v : Value} {d : DataW H} {ps : List MemPlace} {sp : Nat → Bool}
    (hv : Value.okWide Try.prog w .any b0 58 v) (h : DataW.Trod enc Try.prog w base sp true 58 v d ps) :
    ∃ a0 l0 c0 a1 l1 c1, ∃ p0 p1 : Nat → Nat, v = .agg #[.slice a0 l0 c0, .slice a1 l1 c1] ∧ (l0 ≤ 1000000 → ArgV w a0 l0 (fun i => .int .u8 (p0 i : Nat))) ∧ (∀ i, i < l0 → p0 i < 256) ∧ (l1 ≤ 1000000 → ArgV w a1 l1 (fun i => .int .u8 (p1 i : Nat))) ∧ ∀ i, i < l1 → p1 i < 256 := by
  simp only [Value.okWide, Try.underlying58] at hv
  obtain ⟨cs, rfl, h2, _⟩ := hv
  obtain ⟨fuel, hf⟩ := h
  obtain ⟨xs, m, _, _, _, hlen, hf2⟩ := DataW.trod_array Try.underlying58 hf
  have c1 : Try.prog.cellsOf 26 = 1 := by kernel_rfl
  have c2 : Try.prog.cellsOf 58 = 2 := by kernel_rfl
  rw [c2] at h2
  have h0 := hf2 0 (by omega)
  have h1 := hf2 1 (by omega)
  rw [c1, List.getElem?_eq_getElem (by omega)] at h0 h1
  obtain ⟨x, y, rfl⟩ : ∃ x y, cs = #[x, y] := by
    rcases cs with ⟨l⟩
    match l, h2 with
    | [x, y], _ => exact ⟨x, y, rfl⟩
  simp only [Value.cells, Nat.zero_mul, Nat.one_mul, List.drop_zero, List.take_succ_cons, List.take_zero, List.drop_succ_cons] at h0 h1
  have shape : ∀ (z : Value) (r : DataW H × List MemPlace), DataW.trod enc Try.prog w base sp true m 26 [z] = some r → ∃ a l c, z = .slice a l c := fun z r hz => by
    rcases open_ints (k := .u8) Try.underlying26 Try.underlying5 (by kernel_rfl) hz with ⟨hcs, _⟩ | ⟨x, l, c, zs, hcs, _⟩
    · exact ⟨none, 0, 0, by simpa using hcs⟩
    · exact ⟨some x, l, c, by simpa using hcs⟩
  obtain ⟨a0, l0, e0, rfl⟩ := shape x _ h0
  obtain ⟨a1, l1, e1, rfl⟩ := shape y _ h1
  obtain ⟨p0, _, hp0, q0⟩ := argB_of (enc := enc) (w := w) (base := base) (sp := sp) (d := (xs[0]'(by omega)).1) (ps := (xs[0]'(by omega)).2) ⟨m, h0⟩
  obtain ⟨p1, _, hp1, q1⟩ := argB_of (enc := enc) (w := w) (base := base) (sp := sp) (d := (xs[1]'(by omega)).1) (ps := (xs[1]'(by omega)).2) ⟨m, h1⟩
  exact ⟨a0, l0, e0, a1, l1, e1, p0, p1, rfl, hp0, q0, hp1, q1⟩
set_option maxRecDepth 100000 in
/-- Two heads by value. -/
theorem marks2_by {H : Type} {enc : TypeId × Value → H} {w : World} {base b0 : Nat} {v : Value} {d : DataW H} {ps : List MemPlace} {sp : Nat → Bool}
    (hv : Value.okWide Try.prog w .any b0 57 v) (h : DataW.Trod enc Try.prog w base sp true 57 v d ps) :
    ∃ k l s k' l' s' : Int, v = .agg #[.int .i64 k, .int .i64 l, .int .i64 s, .int .i64 k', .int .i64 l', .int .i64 s'] := by
  simp only [Value.okWide, Try.underlying57] at hv
  obtain ⟨cs, rfl, hc2, _⟩ := hv
  obtain ⟨fuel, hf⟩ := h
  obtain ⟨xs, m, _, _, _, hlen, hf2⟩ := DataW.trod_array Try.underlying57 hf
  have c1 : Try.prog.cellsOf 3 = 1 := by kernel_rfl
  have c3 : Try.prog.cellsOf 25 = 3 := by kernel_rfl
  have c6 : Try.prog.cellsOf 57 = 6 := by kernel_rfl
  rw [c6] at hc2
  have h0 := hf2 0 (by omega)
  have h1 := hf2 1 (by omega)
  rw [c3, List.getElem?_eq_getElem (by omega)] at h0 h1
  obtain ⟨x0, x1, x2, x3, x4, x5, rfl⟩ : ∃ x0 x1 x2 x3 x4 x5, cs = #[x0, x1, x2, x3, x4, x5] := by
    rcases cs with ⟨l⟩
    match l, hc2 with
    | [x0, x1, x2, x3, x4, x5], _ => exact ⟨x0, x1, x2, x3, x4, x5, rfl⟩
  have three : ∀ (y0 y1 y2 : Value) (r : DataW H × List MemPlace), DataW.trod enc Try.prog w base sp true m 25 [y0, y1, y2] = some r → ∃ k l s : Int, y0 = .int .i64 k ∧ y1 = .int .i64 l ∧ y2 = .int .i64 s := fun y0 y1 y2 r hr => by
    obtain ⟨xs, m2, _, _, _, hlen, hf3⟩ := DataW.trod_struct Try.underlying25 hr
    have hl : xs.length = 3 := by simpa using hlen
    have g0 : DataW.trod enc Try.prog w base sp true m2 3 (List.take (Try.prog.cellsOf 3) (List.drop 0 [y0, y1, y2])) = xs[0]? := hf3 0 _ rfl
    have g1 : DataW.trod enc Try.prog w base sp true m2 3 (List.take (Try.prog.cellsOf 3) (List.drop 1 [y0, y1, y2])) = xs[1]? := hf3 1 _ rfl
    have g2 : DataW.trod enc Try.prog w base sp true m2 3 (List.take (Try.prog.cellsOf 3) (List.drop 2 [y0, y1, y2])) = xs[2]? := hf3 2 _ rfl
    rw [c1, List.getElem?_eq_getElem (by omega)] at g0 g1 g2
    obtain ⟨k, e0, _⟩ := DataW.trod_int Try.underlying3 g0
    obtain ⟨l, e1, _⟩ := DataW.trod_int Try.underlying3 g1
    obtain ⟨s, e2, _⟩ := DataW.trod_int Try.underlying3 g2
    simp at e0 e1 e2
    exact ⟨k, l, s, e0, e1, e2⟩
  simp only [Value.cells, Nat.zero_mul, Nat.one_mul, List.drop_zero, List.take_succ_cons, List.take_zero, List.drop_succ_cons] at h0 h1
  obtain ⟨k, l, s, rfl, rfl, rfl⟩ := three _ _ _ _ h0
  obtain ⟨k', l', s', rfl, rfl, rfl⟩ := three _ _ _ _ h1
  exact ⟨k, l, s, k', l', s', rfl⟩
end Go.Proofs.Ytdlmjjlejkkniaa
