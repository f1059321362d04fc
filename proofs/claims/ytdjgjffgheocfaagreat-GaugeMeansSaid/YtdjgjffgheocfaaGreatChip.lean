/- A chip: maps, fates, cells; what it is, where it lies; its operations, New. -/
import Derived.Test.YtdjgjffgheocfaaGreatBase
import Derived.Lib.Hide
import Derived.Maps.OwnOps
import Derived.Maps.OwnSet
import Derived.Test.YtdjgjffgheocfaaGreatPolAll
import Derived.Test.YtdjgjffgheocfaaGreatPts
import Derived.Test.YtdjgjffgheocfaaGreatRowV
import Derived.Lib.SliceRun
import Derived.BigFrame
import Derived.Test.YtdjgjffgheocfaaGreatGeo
import Derived.ScopeJumps
import Derived.WalkMore
import Derived.IntWalk
import Derived.Deep.AppendLies
import Derived.Deep.RegionLaw
namespace Go.Proofs.YtdjgjffgheocfaaGreat
open Go.RowKit Go.ChangeMaps

/-- Block b is a map of n entries, keys whole numbers; at key k it has f k. -/
def MapI (w : World) (b n : Nat) (f : Int → Option Value) : Prop :=
  ∃ es clock, w.heap[b]? = some (.map es clock) ∧ es.size = n ∧ (∀ e ∈ es.toList, ∃ k : Int, e.key = .int .i64 k) ∧
    (es.toList.map (·.key)).Pairwise (· ≠ ·) ∧ ∀ k v, f k = some v ↔ ∃ e ∈ es.toList, e.key = .int .i64 k ∧ e.val = v
def updM (f : Int → Option Value) (k : Int) (v : Value) : Int → Option Value := fun i => if i = k then some v else f i
section
variable {w w' : World} {b n : Nat} {f : Int → Option Value}
theorem MapI.lt (h : MapI w b n f) : b < w.heap.size := by
  obtain ⟨es, clock, hb, _⟩ := h
  exact (Array.getElem?_eq_some_iff.1 hb).1
theorem MapI.keep {S : Nat → Prop} (h : MapI w b n f) (hk : Keep S w w') (hb : ¬ S b) : MapI w' b n f := by
  have hl := h.lt
  obtain ⟨es, clock, hh, hr⟩ := h
  exact ⟨es, clock, (hk.block b hl hb).trans hh, hr⟩
theorem MapI.drew (h : MapI w b n f) : MapI w.drew b n f := h
theorem MapI.drewN (h : MapI w b n f) (k : Nat) : MapI (w.drewN k) b n f := h
theorem MapI.alloc (h : MapI w b n f) (o : Obj) : MapI (w.alloc o) b n f := h.keep ((Keep.refl (fun _ => False) w).alloc o) (by simp)
theorem MapI.new (w : World) : MapI (w.alloc (.map #[] 0)) w.heap.size 0 (fun _ => none) :=
  ⟨#[], 0, (MapKept.heap_alloc w _).1, rfl, by simp, by simp, by simp⟩
theorem MapI.congr {g : Int → Option Value} (h : MapI w b n f) (e : ∀ k, f k = g k) : MapI w b n g := by
  rwa [show g = f from funext fun k => (e k).symm]

theorem int_isKey (k : Int) : MapKept.IsKey (.int .i64) (.int .i64 k) := by simp [MapKept.IsKey]

theorem MapI.find (h : MapI w b n f) (k : Int) : ∃ es clock, w.heap[b]? = some (.map es clock) ∧
    ((f k = none ∧ Instr.findNow (.int .i64) (.int .i64 k) es.toList 0 = some none) ∨ ∃ j e v, f k = some v ∧ Instr.findNow (.int .i64) (.int .i64 k) es.toList 0 = some (some (j, v)) ∧ es.toList[j]? = some e ∧ e.key = .int .i64 k ∧ e.val = v) := by
  obtain ⟨es, clock, hb, hn, hk, hp, hf⟩ := h
  refine ⟨es, clock, hb, ?_⟩
  rcases MapKept.findNow_spec (int_isKey k) es.toList 0 (fun x hx => by obtain ⟨i, hi⟩ := hk x hx; rw [hi]; exact int_isKey i) with ⟨h1, h2⟩ | ⟨j, e0, h1, h2, h3⟩
  · refine .inl ⟨?_, h1⟩
    cases hfk : f k with
    | none => rfl
    | some v =>
      obtain ⟨e, he, hke, _⟩ := (hf k v).1 hfk
      exact absurd hke (h2 e he)
  · refine .inr ⟨j, e0, e0.val, (hf k e0.val).2 ⟨e0, List.mem_of_getElem? h2, h3, rfl⟩, by simpa using h1, h2, h3, rfl⟩

theorem MapI.run_look {P : Program} {t kt e : TypeId} (h : MapI w b n f) (ht : P.underlying t = some (.map kt e)) (hkt : P.underlying kt = some (.int .i64)) {z : Value} (hz : (zeroValue e).run P w = .ok z w) (k : Int) (c : Bool) :
    (Instr.lookup t (.map (some b)) (.int .i64 k) c).run P w = .ok (if c then .tuple #[(f k).getD z, .bool (f k).isSome] else (f k).getD z) w := by
  obtain ⟨es, clock, hb, hr⟩ := h.find k
  have hc : ∀ x, (Instr.checkKey x 10000 kt (.int .i64 k)).run P w = .ok () w := fun x => MapKept.run_checkKey (k := .int .i64 k) hkt (int_isKey k) x 9999
  rcases hr with ⟨h0, h1⟩ | ⟨j, e0, v, h0, h1, _, _, _⟩
  · simp [Instr.lookup, run_underlying ht, MapKept.run_getObj_map hb, hc, MapKept.run_findKey hkt h1, hz, Result.andThen, h0]
  · simp [Instr.lookup, run_underlying ht, MapKept.run_getObj_map hb, hc, MapKept.run_findKey hkt h1, Result.andThen, h0]

theorem sameBits_int (k : Int) (n : Nat) : Instr.sameBits n (.int .i64 k) (.int .i64 k) = true := by
  cases n <;> simp [Instr.sameBits]
theorem run_keyStays {P : Program} {w : World} (k : Int) : (Instr.keyThatStays (.int .i64 k) (.int .i64 k)).run P w = .ok (.int .i64 k) w := by
  simp [Instr.keyThatStays, sameBits_int]

theorem MapI.run_put {P : Program} {t kt e : TypeId} (h : MapI w b n f) (ht : P.underlying t = some (.map kt e)) (hkt : P.underlying kt = some (.int .i64)) (k : Int) (v : Value) :
    ∃ w', (Instr.mapUpdate t (.map (some b)) (.int .i64 k) v).run P w = .ok () w' ∧ MapI w' b (if (f k).isSome then n else n + 1) (updM f k v) ∧ Keep (· = b) w w' := by
  have h' := h
  obtain ⟨es0, clock0, hb0, hn, hkeys, hp, hf⟩ := h'
  obtain ⟨es, clock, hb, hr⟩ := h.find k
  rw [hb0] at hb
  cases hb
  have hc : ∀ x, (Instr.checkKey x 10000 kt (.int .i64 k)).run P w = .ok () w := fun x => MapKept.run_checkKey (k := .int .i64 k) hkt (int_isKey k) x 9999
  have hkeep : ∀ o, Keep (· = b) w (setBlock w b o) := fun o => ⟨rfl, rfl, rfl, by simp [setBlock], fun i _ hi => heap_setBlock_other hb0 _ hi⟩
  rcases hr with ⟨h0, h1⟩ | ⟨j, e0, v0, h0, h1, h2, h3, h4⟩
  · refine ⟨setBlock w b (.map (es0.push ⟨.int .i64 k, v, clock0⟩) (clock0 + 1)), ?_, ⟨_, _, heap_setBlock_same hb0 _, ?_, ?_, ?_, ?_⟩, hkeep _⟩
    · simp [Instr.mapUpdate, run_underlying ht, MapKept.run_getObj_map hb0, hc, MapKept.run_findKey hkt h1, MapKept.run_setObj_map _ hb0, Result.andThen, setBlock]
    · simp [h0, hn]
    · intro x hx
      simp only [Array.toList_push, List.mem_append, List.mem_singleton] at hx
      rcases hx with hx | rfl
      · exact hkeys x hx
      · exact ⟨k, rfl⟩
    · rw [Array.toList_push, List.map_append, List.pairwise_append]
      refine ⟨hp, by simp, fun a ha c hc => ?_⟩
      simp only [List.map_cons, List.map_nil, List.mem_singleton] at hc
      subst hc
      obtain ⟨x, hx, rfl⟩ := List.mem_map.1 ha
      intro e1
      have := (hf k x.val).2 ⟨x, hx, e1, rfl⟩
      rw [h0] at this
      cases this
    · intro i u
      unfold updM
      simp only [Array.toList_push, List.mem_append, List.mem_singleton]
      by_cases hi : i = k
      · subst hi
        rw [if_pos rfl]
        constructor
        · intro e1
          cases e1
          exact ⟨_, .inr rfl, rfl, rfl⟩
        · rintro ⟨x, hx | rfl, e1, e2⟩
          · have := (hf i x.val).2 ⟨x, hx, e1, rfl⟩
            rw [h0] at this
            cases this
          · rw [← e2]
      · rw [if_neg hi, hf i u]
        constructor
        · rintro ⟨x, hx, e1, e2⟩
          exact ⟨x, .inl hx, e1, e2⟩
        · rintro ⟨x, hx | rfl, e1, e2⟩
          · exact ⟨x, hx, e1, e2⟩
          · simp at e1
            exact absurd e1.symm hi
  · have hjl : j < es0.toList.length := (List.getElem?_eq_some_iff.1 h2).1
    have hjs : j < es0.size := by simpa using hjl
    have hge : es0[j]? = some e0 := by rw [← Array.getElem?_toList]; exact h2
    have hmod : (es0.modify j fun e => { e with key := .int .i64 k, val := v }).toList = es0.toList.set j { e0 with key := .int .i64 k, val := v } := by
      apply List.ext_getElem?
      intro i
      rw [Array.getElem?_toList, Array.getElem?_modify, List.getElem?_set]
      by_cases hij : j = i
      · subst hij
        rw [if_pos rfl, if_pos rfl, hge, if_pos hjl]
        rfl
      · rw [if_neg hij, if_neg hij, Array.getElem?_toList]
    have hmem : ∀ x, x ∈ (es0.modify j fun e => { e with key := .int .i64 k, val := v }).toList ↔ x = { e0 with key := .int .i64 k, val := v } ∨ ∃ i, i ≠ j ∧ es0.toList[i]? = some x := by
      intro x
      rw [hmod, List.mem_iff_getElem?]
      constructor
      · rintro ⟨i, hi⟩
        rw [List.getElem?_set] at hi
        by_cases hij : j = i
        · subst hij
          rw [if_pos rfl, if_pos hjl] at hi
          exact .inl (Option.some.inj hi).symm
        · rw [if_neg hij] at hi
          exact .inr ⟨i, fun e => hij e.symm, hi⟩
      · rintro (rfl | ⟨i, hij, hi⟩)
        · exact ⟨j, by rw [List.getElem?_set, if_pos rfl, if_pos hjl]⟩
        · exact ⟨i, by rw [List.getElem?_set, if_neg (fun e => hij e.symm)]; exact hi⟩
    have huniq : ∀ i x, i ≠ j → es0.toList[i]? = some x → x.key ≠ .int .i64 k := by
      intro i x hij hi e1
      have hil : i < es0.toList.length := (List.getElem?_eq_some_iff.1 hi).1
      have hx := (List.getElem?_eq_some_iff.1 hi).2
      have hx0 := (List.getElem?_eq_some_iff.1 h2).2
      rw [List.pairwise_iff_getElem] at hp
      rcases Nat.lt_or_gt_of_ne hij with hlt | hlt
      · have := hp i j (by simpa using hil) (by simpa using hjl) hlt
        simp only [List.getElem_map] at this
        rw [hx, hx0, e1, h3] at this
        exact this rfl
      · have := hp j i (by simpa using hjl) (by simpa using hil) hlt
        simp only [List.getElem_map] at this
        rw [hx, hx0, e1, h3] at this
        exact this rfl
    refine ⟨setBlock w b (.map (es0.modify j fun e => { e with key := .int .i64 k, val := v }) clock0), ?_, ⟨_, _, heap_setBlock_same hb0 _, ?_, ?_, ?_, ?_⟩, hkeep _⟩
    · simp [Instr.mapUpdate, run_underlying ht, MapKept.run_getObj_map hb0, hc, MapKept.run_findKey hkt h1, MapKept.run_setObj_map _ hb0, Result.andThen, setBlock, hge, h3, run_keyStays]
    · simp [h0, hn]
    · intro x hx
      rcases (hmem x).1 hx with rfl | ⟨i, _, hi⟩
      · exact ⟨k, rfl⟩
      · exact hkeys x (List.mem_of_getElem? hi)
    · have : (es0.modify j fun e => { e with key := .int .i64 k, val := v }).toList.map (·.key) = es0.toList.map (·.key) := by
        rw [hmod, List.map_set]
        apply List.ext_getElem?
        intro i
        rw [List.getElem?_set]
        by_cases hij : j = i
        · subst hij
          rw [if_pos rfl, if_pos (by simpa using hjl), List.getElem?_map, h2]
          simp [h3]
        · rw [if_neg hij]
      rw [this]
      exact hp
    · intro i u
      unfold updM
      by_cases hi : i = k
      · subst hi
        rw [if_pos rfl]
        constructor
        · intro e1
          cases e1
          exact ⟨_, (hmem _).2 (.inl rfl), rfl, rfl⟩
        · rintro ⟨x, hx, e1, e2⟩
          rcases (hmem x).1 hx with rfl | ⟨i', hi', hx'⟩
          · rw [← e2]
          · exact absurd e1 (huniq i' x hi' hx')
      · rw [if_neg hi, hf i u]
        constructor
        · rintro ⟨x, hx, e1, e2⟩
          obtain ⟨i', hi'⟩ := List.mem_iff_getElem?.1 hx
          refine ⟨x, (hmem x).2 (.inr ⟨i', ?_, hi'⟩), e1, e2⟩
          rintro rfl
          rw [h2] at hi'
          cases hi'
          rw [h3] at e1
          simp at e1
          exact hi e1.symm
        · rintro ⟨x, hx, e1, e2⟩
          rcases (hmem x).1 hx with rfl | ⟨i', _, hx'⟩
          · simp at e1
            exact absurd e1.symm hi
          · exact ⟨x, List.mem_of_getElem? hx', e1, e2⟩
end

theorem MapI.run_len {P : Program} {t kt e : TypeId} {w : World} {b n : Nat} {f : Int → Option Value} (h : MapI w b n f) (ht : P.underlying t = some (.map kt e)) (t' : TypeId) :
    (Builtin.len_ #[t] t' #[.map (some b)]).run P w = .ok (.int .i64 n) w := by
  obtain ⟨es, clock, hb, hn, _⟩ := h
  simp [Builtin.len_, run_underlying ht, MapKept.run_getObj_map hb, goInt, Result.andThen, hn]
/-- Its length, at the operation. -/
theorem wpList_map_len {P : Program} (w : World) {ops : Array Oper} {rest : List Oper} {o : Oper} {a : Act} {Q : Exit → Act → World → Prop} (hg : o.guard = none) (m : Operand) (t : TypeId)
    (hop : o.op = Op.call { callee := Callee.builtin Builtin.len, args := #[m], argTypes := #[t] }) {kt e : TypeId} (ht : P.underlying t = some (.map kt e)) (b n : Nat) (f : Int → Option Value) (hm : a.eval m = .map (some b)) (h : MapI w b n f)
    (hK : wpList P ops Q rest (a.put o.dst (.int .i64 n)) w) : wpList P ops Q (o :: rest) a w := by
  refine wpList_plain hg fun K' hK' => ?_
  unfold Oper.wp
  simp [execOp, hop, resolve, invoke, builtin, hm, h.run_len ht o.type, Result.andThen]
  exact hK' _ _ hK
/-- A store into such a map, at the operation. -/
theorem wpList_map_put {P : Program} (w : World) {ops : Array Oper} {rest : List Oper} {o : Oper} {a : Act} {Q : Exit → Act → World → Prop} (hg : o.guard = none) (m x v : Operand) (t : TypeId) (hop : o.op = Op.mapUpdate t m x v)
    {kt e : TypeId} (ht : P.underlying t = some (.map kt e)) (hkt : P.underlying kt = some (.int .i64)) (b n : Nat) (f : Int → Option Value) (hm : a.eval m = .map (some b)) (h : MapI w b n f) (k : Int) (u : Value) (hx : a.eval x = .int .i64 k) (hv : a.eval v = u)
    (hK : ∀ w', MapI w' b (if (f k).isSome then n else n + 1) (updM f k u) → Keep (· = b) w w' → wpList P ops Q rest (a.put o.dst undef) w') : wpList P ops Q (o :: rest) a w := by
  refine wpList_plain hg fun K' hK' => ?_
  obtain ⟨w', hrun, r1, r2⟩ := h.run_put ht hkt k u
  unfold Oper.wp
  simp [execOp, hop, hm, hx, hv, hrun, Result.andThen]
  exact hK' _ _ (hK w' r1 r2)
end Go.Proofs.YtdjgjffgheocfaaGreat

namespace Go.Proofs.YtdjgjffgheocfaaGreat
open Go.RowKit

abbrev fateV (a d k : Int) : Value := .agg #[.int .i64 a, .int .i64 d, .int .i64 k]
def FateOk (a d k : Int) : Prop := 0 ≤ a ∧ a ≤ 1099511627776 ∧ (d = 1 ∨ d = 2) ∧ 0 ≤ k
instance (a d k : Int) : Decidable (FateOk a d k) := by unfold FateOk; infer_instance

set_option maxRecDepth 100000 in
theorem fatemay_yes (a d k : Int) (w : World) (h : FateOk a d k) : Calls Tryz.prog 45 #[fateV a d k] w fun e w' => e = .returned (.bool true) ∧ Keep (fun _ => False) w w' := by
  obtain ⟨h0, h1, h2, h3⟩ := h
  rcases h2 with rfl | rfl
  · go_enter Tryz.func45, Tryz.ntmps45
    go_wp2
    go_ret
    exact ⟨rfl, (Keep.refl _ w).alloc _⟩
  · go_enter Tryz.func45, Tryz.ntmps45
    go_wp2
    go_ret
    exact ⟨rfl, (Keep.refl _ w).alloc _⟩
set_option maxRecDepth 100000 in
theorem fatemay_no (a d k : Int) (w : World) (h : ¬ FateOk a d k) : Calls Tryz.prog 45 #[fateV a d k] w fun e w' => e = .returned (.bool false) ∧ Keep (fun _ => False) w w' := by
  by_cases h0 : 0 ≤ a
  · by_cases h1 : a ≤ 1099511627776
    · by_cases h2 : d = 1 ∨ d = 2
      · have h3 : decide (0 ≤ k) = false := by
          simp only [decide_eq_false_iff_not]
          exact fun h3 => h ⟨h0, h1, h2, h3⟩
        clear h
        rcases h2 with rfl | rfl
        all_goals
          go_enter Tryz.func45, Tryz.ntmps45
          go_wp2
          go_ret
          exact ⟨rfl, (Keep.refl _ w).alloc _⟩
      · have h3 : (d == 1) = false := by simp; omega
        have h4 : (d == 2) = false := by simp; omega
        clear h h2
        go_enter Tryz.func45, Tryz.ntmps45
        go_wp2
        go_ret
        exact ⟨rfl, (Keep.refl _ w).alloc _⟩
    · have h3 : decide (a ≤ 1099511627776) = false := by simpa using h1
      clear h h1
      go_enter Tryz.func45, Tryz.ntmps45
      go_wp2
      go_ret
      exact ⟨rfl, (Keep.refl _ w).alloc _⟩
  · have h3 : decide (0 ≤ a) = false := by simpa using h0
    clear h h0
    go_enter Tryz.func45, Tryz.ntmps45
    go_wp2
    go_ret
    exact ⟨rfl, (Keep.refl _ w).alloc _⟩

/-- The fates that came in. -/
structure ArgFates (w : World) (a : Option Addr) (n : Nat) (A D K : Nat → Int) : Prop where
  at_ : 0 < n → ∃ b off, a = some ⟨b, off, none⟩ ∧ b < w.heap.size ∧ ∀ i, i < n → w.cell? ⟨b, off + i * 3, none⟩ = some (.int .i64 (A i)) ∧ w.cell? ⟨b, off + i * 3 + 1, none⟩ = some (.int .i64 (D i)) ∧ w.cell? ⟨b, off + i * 3 + 2, none⟩ = some (.int .i64 (K i))
theorem ArgFates.keep {w w' : World} {a : Option Addr} {n : Nat} {A D K : Nat → Int} (h : ArgFates w a n A D K) (hk : Keep (fun _ => False) w w') : ArgFates w' a n A D K :=
  ⟨fun h0 => by
    obtain ⟨b, off, e, hb, hc⟩ := h.at_ h0
    refine ⟨b, off, e, Nat.lt_of_lt_of_le hb hk.size, fun i hi => ?_⟩
    obtain ⟨c0, c1, c2⟩ := hc i hi
    exact ⟨(hk.cell (p := ⟨b, _, none⟩) hb (by simp)).trans c0, (hk.cell (p := ⟨b, _, none⟩) hb (by simp)).trans c1, (hk.cell (p := ⟨b, _, none⟩) hb (by simp)).trans c2⟩⟩
theorem ArgFates.nil (w : World) (A D K : Nat → Int) : ArgFates w none 0 A D K := ⟨fun h => by omega⟩
/-- What befalls, by operation, as a map; how many entries it has. -/
def fatF (A D K : Nat → Int) : Nat → Int → Option Value
  | 0 => fun _ => none
  | n + 1 => updM (fatF A D K n) (A n) (fateV (A n) (D n) (K n))
def fatN (A D K : Nat → Int) : Nat → Nat
  | 0 => 0
  | n + 1 => if (fatF A D K n (A n)).isSome then fatN A D K n else fatN A D K n + 1
theorem fatN_le (A D K : Nat → Int) (n : Nat) : fatN A D K n ≤ n := by
  induction n with
  | zero => exact Nat.le_refl _
  | succ n ih => unfold fatN; split <;> omega
/-- Fates: their struct, their map. -/
structure IsFates (w : World) (b m : Nat) (f : Int → Option Value) : Prop where
  b : Blk w b 108 #[.map (some m)]
  m : ∃ n, MapI w m n f
  v : ∀ k v, f k = some v → ∃ a d s, v = fateV a d s ∧ FateOk a d s
theorem IsFates.keep {S : Nat → Prop} {w w' : World} {b m : Nat} {f : Int → Option Value} (h : IsFates w b m f) (hk : Keep S w w') (hb : ¬ S b) (hm : ¬ S m) : IsFates w' b m f := by
  obtain ⟨n, h2⟩ := h.m
  exact ⟨h.b.keep hk hb, ⟨n, h2.keep hk hm⟩, h.v⟩
theorem fatF_ok {A D K : Nat → Int} {n : Nat} (h : ∀ i, i < n → FateOk (A i) (D i) (K i)) : ∀ k v, fatF A D K n k = some v → ∃ a d s, v = fateV a d s ∧ FateOk a d s := by
  induction n with
  | zero => intro k v h; cases h
  | succ n ih =>
    intro k v hv
    unfold fatF updM at hv
    split at hv
    · cases hv
      exact ⟨_, _, _, rfl, h n (by omega)⟩
    · exact ih (fun i hi => h i (by omega)) k v hv

theorem results_cell_row2 {P : Program} {fn : Func} {p u : Tmp} {ty : TypeId} (h : fn.results = #[.cell p ty, .tmp u]) (tmps : Array Value) (w : World) (g : Nat) (t : TypeId) (cs : Array Value) (fr : Nat × Nat) (d : TypeDesc)
    (hp : tmps.getD p undef = .pointer (some ⟨g, 0, none⟩)) (hg : w.heap[g]? = some (.cells cs t fr))
    (hu : P.underlying ty = some d) (hd : (match d with | .struct _ | .array _ _ => true | _ => false) = true) (hi : (P.info? ty).map (·.size) = some cs.size) :
    (results fn tmps).run P w = .ok (.tuple #[.agg cs, tmps.getD u undef]) w := by
  have hp' : tmps[p]?.getD undef = .pointer (some ⟨g, 0, none⟩) := by simpa using hp
  simp [results, h, hp', asAddr, run_loadVar_row w g t ty cs fr d hg hu hd hi]
/-- Fates that were made. -/
def FatesR (w w' : World) (F : Int → Option Value) (e : Ending) : Prop := ∃ b m, e = .returned (.tuple #[.pointer (some ⟨b, 0, none⟩), .int .i64 0]) ∧ IsFates w' b m F ∧ w.heap.size ≤ m ∧ w.heap.size ≤ b ∧ m ≠ b
theorem mapF_ty : Tryz.prog.underlying 106 = some (.map 3 110) := by kernel_rfl
theorem fate_zero (w : World) : (zeroValue 110).run Tryz.prog w = .ok (fateV 0 0 0) w := by kernel_rfl
theorem fateat_any (b m : Nat) (f : Int → Option Value) (n : Int) (w : World) (h : IsFates w b m f) :
    Calls Tryz.prog 75 #[.pointer (some ⟨b, 0, none⟩), .int .i64 n] w fun e w' => (∃ a d k, (f n).getD (fateV 0 0 0) = fateV a d k ∧ e = .returned (.tuple #[fateV a d k, .bool (f n).isSome])) ∧ Keep (fun _ => False) w w' := by
  obtain ⟨hb, ⟨c, hm⟩, hv⟩ := h
  have c0 : w.cell? ⟨b, 0, none⟩ = some (.map (some m)) := by rw [hb.cell]; rfl
  have hlt := hb.lt
  obtain ⟨v0, hv0⟩ : ∃ v0, (f n).getD (fateV 0 0 0) = v0 := ⟨_, rfl⟩
  have hform : ∃ a d k, v0 = fateV a d k := by
    cases hfn : f n with
    | none => rw [hfn] at hv0; exact ⟨0, 0, 0, hv0.symm⟩
    | some v =>
      obtain ⟨a, d, k, e, _⟩ := hv n v hfn
      rw [hfn] at hv0
      exact ⟨a, d, k, by rw [← hv0]; exact e⟩
  obtain ⟨a, d, k, rfl⟩ := hform
  obtain ⟨o, ho⟩ : ∃ o, (f n).isSome = o := ⟨_, rfl⟩
  have hl := fun (w' : World) (h' : MapI w' m c f) => h'.run_look (P := Tryz.prog) mapF_ty Tryz.underlying3 (fate_zero w') n true
  rw [hv0, ho] at hl
  simp only [if_true] at hl
  have hl1 := hl (w.alloc (.cells #[.int .i64 0, .int .i64 0, .int .i64 0] 110)) (hm.alloc _)
  rw [hv0, ho]
  clear hl hv0 ho hm hb hv
  go_enter Tryz.func75, Tryz.ntmps75
  go_wp2_with fail
  refine bodyPost_ret (results_cell_row2 rfl _ _ w.heap.size 110 _ (0, 0) _ rfl ((Blk.new w _ _).alloc _) Tryz.underlying110 rfl (by kernel_rfl)) rfl ?_
  exact ⟨⟨a, d, k, rfl, rfl⟩, ((Keep.refl _ w).alloc _).alloc _⟩

set_option maxRecDepth 100000 in
set_option maxHeartbeats 1000000 in
theorem fates_new (a : Option Addr) (n c : Nat) (A D K : Nat → Int) (w : World) (ha : ArgFates w a n A D K) (hn : n ≤ 256) (hok : ∀ i, i < n → FateOk (A i) (D i) (K i)) (hd : fatN A D K n = n) :
    Calls Tryz.prog 31 #[.slice a n c] w fun e w' => FatesR w w' (fatF A D K n) e ∧ Keep (fun _ => False) w w' := by
  have HD := Lib.hid hd
  have HOK := Lib.hid hok
  have HA := Lib.hid ha
  have hmm := @run_makeMap Tryz.prog
  clear hd hok ha
  go_enter Tryz.func31, Tryz.ntmps31
  go_wp2_with fail
  go_loopw [15] (fun i wr => ∃ j : Nat, j ≤ n ∧ i = .int .i64 j ∧ MapI wr w.heap.size (fatN A D K j) (fatF A D K j) ∧ Blk wr (w.heap.size + 1) 108 #[.map (some w.heap.size)] ∧ Keep (fun _ => False) w wr) (fun i _ => n - (intOf i).toNat)
  case atStart =>
    refine ⟨0, Nat.zero_le _, rfl, (MapI.new w).alloc _, Blk.here _ _ _ _ (by simp), ((Keep.refl _ _).alloc _).alloc _⟩
  case round =>
    obtain ⟨j, hj, rfl, hm, hb, hk⟩ := hrel
    have HM := Lib.hid hm
    have HK := Lib.hid hk
    have HB := Lib.hid hb
    by_cases hjn : j < n
    · have hjn' : (j : Int) < (n : Int) := by omega
      obtain ⟨b, off, rfl, hbl, hc⟩ := (HA.out.keep hk).at_ (by omega)
      obtain ⟨c0, c1, c2⟩ := hc j hjn
      have hf0 := (HOK.out j hjn)
      have HF := Lib.hid hf0
      generalize hA : A j = A0 at *
      generalize hD : D j = D0 at *
      generalize hK : K j = K0 at *
      have HE := Lib.hid (And.intro hA (And.intro hD hK))
      clear hA hD hK hf0 hc hm hk hb
      go_wp2_with fail
      refine (fatemay_yes A0 D0 K0 _ HF.out).mono ?_
      rintro e w1 ⟨rfl, k1⟩
      have k2 := ((Keep.refl (fun _ => False) wr).alloc (.cells #[.int .i64 A0, .int .i64 D0, .int .i64 K0] 110)).comp k1
      have bx : Blk w1 wr.heap.size 110 #[.int .i64 A0, .int .i64 D0, .int .i64 K0] := (Blk.new wr _ _).keep k1 (by simp)
      have bf := HB.out.keep k2 (by simp)
      have hz := HK.out.size
      have x0 : w1.cell? ⟨wr.heap.size, 0, none⟩ = some (.int .i64 A0) := by rw [bx.cell]; rfl
      have x1 : w1.cell? ⟨wr.heap.size, 1, none⟩ = some (.int .i64 D0) := by rw [bx.cell]; rfl
      have x2 : w1.cell? ⟨wr.heap.size, 2, none⟩ = some (.int .i64 K0) := by rw [bx.cell]; rfl
      have f0 : w1.cell? ⟨w.heap.size + 1, 0, none⟩ = some (.map (some w.heap.size)) := by rw [bf.cell]; rfl
      have fx0 : ∀ p : KeptBy w1, p.v.cell? ⟨wr.heap.size, 0, none⟩ = some (.int .i64 A0) := fun p => p.cell bx.lt x0
      have fx1 : ∀ p : KeptBy w1, p.v.cell? ⟨wr.heap.size, 1, none⟩ = some (.int .i64 D0) := fun p => p.cell bx.lt x1
      have fx2 : ∀ p : KeptBy w1, p.v.cell? ⟨wr.heap.size, 2, none⟩ = some (.int .i64 K0) := fun p => p.cell bx.lt x2
      have ff0 : ∀ p : KeptBy w1, p.v.cell? ⟨w.heap.size + 1, 0, none⟩ = some (.map (some w.heap.size)) := fun p => p.cell bf.lt f0
      go_wp2_with fail
      refine wp_region_kept_tail 7 (by kernel_rfl) (by kernel_rfl) ?_
      repeat (quiet_step (fail))
      refine wpQuiet_nil ?_
      rintro _ ⟨⟨w2, k3⟩, rfl⟩
      have k3' := k2.comp k3
      have hm2 := (HM.out.keep k3' (by simp))
      refine wpList_map_put _ rfl _ _ _ 106 rfl mapF_ty Tryz.underlying3 w.heap.size _ _ rfl hm2 A0 (fateV A0 D0 K0) rfl rfl ?_
      intro w3 hm3 k4
      have hb3 : Blk w3 (w.heap.size + 1) 108 #[.map (some w.heap.size)] := (bf.keep k3 (by simp)).keep k4 (by omega)
      obtain ⟨hA, hD, hK⟩ := HE.out
      rw [← hA, ← hD, ← hK] at hm3
      have HM3 := Lib.hid hm3
      have HB3 := Lib.hid hb3
      have HK3 := Lib.hid ((HK.out.trans k3' (fun i hi => .inl hi)).trans k4 (fun i hi => .inr (by omega)))
      clear hm3 hb3 k4 hm2 k3' k3 ff0 fx0 fx1 fx2 f0 x0 x1 x2 bx bf k1 k2 c0 c1 c2 hA hD hK HE HF
      go_wp2_with fail
      go_roundw
      case rel => exact ⟨j + 1, by omega, by go_num, HM3.out, HB3.out, HK3.out⟩
      case measure => simp [intOf]; omega
    · obtain rfl : j = n := by omega
      have hjl' : ¬ (j : Int) < (j : Int) := by omega
      have f0 : wr.cell? ⟨w.heap.size + 1, 0, none⟩ = some (.map (some w.heap.size)) := by rw [hb.cell]; rfl
      have hlen := fun ty => hm.run_len (P := Tryz.prog) mapF_ty ty
      rw [HD.out] at hlen
      have hne : ((j : Int) != (j : Int)) = false := by simp
      clear hk hb hm
      go_wp2_with fail
      go_ret2
      exact ⟨⟨_, _, rfl, ⟨HB.out, ⟨_, HM.out⟩, fatF_ok HOK.out⟩, Nat.le_refl _, Nat.le_succ _, by omega⟩, HK.out⟩

set_option maxRecDepth 100000 in
set_option maxHeartbeats 1000000 in
theorem fates_bad (a : Option Addr) (c : Nat) (A D K : Nat → Int) (w : World) (ha : ArgFates w a 1 A D K) (hbad : ¬ FateOk (A 0) (D 0) (K 0)) :
    Calls Tryz.prog 31 #[.slice a 1 c] w fun e w' => e = .returned (.tuple #[.pointer none, .int .i64 1]) ∧ Keep (fun _ => False) w w' := by
  have hmm := @run_makeMap Tryz.prog
  obtain ⟨b, off, rfl, hb, hc⟩ := ha.at_ (by omega)
  obtain ⟨c0, c1, c2⟩ := hc 0 (by omega)
  have HB := Lib.hid hbad
  simp only [Nat.zero_mul, Nat.add_zero] at c0 c1 c2
  generalize A 0 = A0 at *
  generalize D 0 = D0 at *
  generalize K 0 = K0 at *
  clear hc ha hbad
  go_enter Tryz.func31, Tryz.ntmps31
  go_wp2_with fail
  refine wp_loop_rounds 1 ?_
  rw [rounds_succ]
  go_wp2_with fail
  refine (fatemay_no A0 D0 K0 _ HB.out).mono ?_
  rintro e w1 ⟨rfl, k1⟩
  go_wp2_with fail
  go_ret2
  exact ⟨rfl, ((((Keep.refl (fun _ => False) w).alloc _).alloc _).alloc _).comp k1⟩
end Go.Proofs.YtdjgjffgheocfaaGreat

namespace Go.Proofs.YtdjgjffgheocfaaGreat
open Go.RowKit

/-- A page: 0 blank, 1 whole, 2 part; its points in eighths; its symbols, when it is whole. -/
structure PgS where
  st : Nat
  x : Nat → Int
  y : Nat → Int
  s : Nat → Nat
def PgS.blank : PgS := ⟨0, fun _ => 0, fun _ => 0, fun _ => 0⟩
/-- How many cells are put to their points. -/
def keepN (keep : Int) (n : Nat) : Nat := (min (max keep 0) (n : Int)).toNat
theorem keepN_le (keep : Int) (n : Nat) : keepN keep n ≤ n := by unfold keepN; omega
def PgS.prog (s : Nat → Nat) (keep : Int) (n : Nat) : PgS :=
  ⟨if keep ≤ 0 then 0 else if (n : Int) ≤ keep then 1 else 2, fun i => if i < keepN keep n then reS (s i) else 0, fun i => if i < keepN keep n then imS (s i) else 0, s⟩
/-- A page: its struct's block c, its points' block p, its symbols' block q. -/
structure IsPage (w : World) (c p q n : Nat) (S : PgS) : Prop where
  c : ∃ v, Blk w c 105 #[.slice (some ⟨p, 0, none⟩) n n, v, .int .i64 (S.st : Nat)] ∧
    ((S.st ≠ 1 ∧ v = .slice none 0 0) ∨ (S.st = 1 ∧ ∃ cq, v = .slice (some ⟨q, 0, none⟩) n cq ∧ RowV w 148 q cq n (fun i => .int .u16 (S.s i : Nat)) ∧ cq ≤ maxLen))
  p : Blk w p 27 (valsArr (ptsV S.x S.y) n)
  st : S.st ≤ 2
  s : S.st = 1 → ∀ i, i < n → S.s i < 1024
  z : S.st = 0 → ∀ i, i < n → S.x i = 0 ∧ S.y i = 0
theorem IsPage.keep {T : Nat → Prop} {w w' : World} {c p q n : Nat} {S : PgS} (h : IsPage w c p q n S) (hk : Keep T w w') (h1 : ¬ T c) (h2 : ¬ T p) (h3 : S.st = 1 → ¬ T q) : IsPage w' c p q n S := by
  obtain ⟨v, hb, hv⟩ := h.c
  refine ⟨⟨v, hb.keep hk h1, ?_⟩, h.p.keep hk h2, h.st, h.s, h.z⟩
  rcases hv with hv | ⟨e, cq, e1, hr, hc⟩
  · exact .inl hv
  · exact .inr ⟨e, cq, e1, hr.keep hk (h3 e), hc⟩
theorem IsPage.c0 {w : World} {c p q n : Nat} {S : PgS} (h : IsPage w c p q n S) : w.cell? ⟨c, 0, none⟩ = some (.slice (some ⟨p, 0, none⟩) n n) := by
  obtain ⟨v, hb, _⟩ := h.c
  rw [hb.cell]; rfl
theorem IsPage.c2 {w : World} {c p q n : Nat} {S : PgS} (h : IsPage w c p q n S) : w.cell? ⟨c, 2, none⟩ = some (.int .i64 (S.st : Nat)) := by
  obtain ⟨v, hb, _⟩ := h.c
  rw [hb.cell]; rfl
theorem IsPage.ne {w : World} {c p q n : Nat} {S : PgS} (h : IsPage w c p q n S) : c ≠ p := by
  obtain ⟨v, hb, _⟩ := h.c
  exact hb.ne h.p (by decide)
theorem IsPage.lt {w : World} {c p q n : Nat} {S : PgS} (h : IsPage w c p q n S) : c < w.heap.size := by
  obtain ⟨v, hb, _⟩ := h.c
  exact hb.lt

theorem Tryz.info_c128 : (Tryz.prog.info? 27).map (fun i => (i.zero, i.size, i.bytes)) = some (some (.complex .f64 0 0), 1, 16) := by kernel_rfl
theorem ptv_zero : ptv 0 0 = .complex .f64 0 0 := by
  unfold ptv
  rw [show (2 * 0 : Int) = 0 from rfl, fx_lit0]
set_option maxRecDepth 100000 in
theorem cells_new (n : Nat) (hn : n ≤ 1000) (w : World) :
    Calls Tryz.prog 29 #[.int .i64 n] w fun e w' => e = .returned (.pointer (some ⟨w.heap.size + 1, 0, none⟩)) ∧ IsPage w' (w.heap.size + 1) w.heap.size 0 n PgS.blank ∧ Keep (fun _ => False) w w' := by
  have hm := make_vals (P := Tryz.prog) Tryz.underlying24 Tryz.info_c128 rfl n n rfl (by omega) (by omega)
  have e0 : (if (n : Int) < 0 then (0 : Int) else (n : Int)) = (n : Int) := if_neg (by omega)
  have hn' : (n : Int) < 65536 := by omega
  go_enter Tryz.func29, Tryz.ntmps29
  go_wp2_with fail
  go_ret
  have hb : Blk (w.alloc (.cells (valsArr (fun _ => .complex .f64 0 0) n) 27)) w.heap.size 27 (valsArr (ptsV (fun _ => 0) (fun _ => 0)) n) := by
    rw [valsArr_congr (g := ptsV (fun _ => 0) (fun _ => 0)) (h := fun _ => .complex .f64 0 0) (fun i _ => ptv_zero)]
    exact Blk.new w _ _
  exact ⟨rfl, ⟨⟨_, Blk.here _ _ _ _ (by simp), .inl ⟨by show (0 : Nat) ≠ 1; decide, rfl⟩⟩, hb.alloc _, by show (0 : Nat) ≤ 2; decide, fun e => absurd e (by show (0 : Nat) ≠ 1; decide), fun _ _ _ => ⟨rfl, rfl⟩⟩, ((Keep.refl _ w).alloc _).alloc _⟩

theorem setCells_blk {T : TypeId} {z : Value} {n : Nat} (k : Nat) : ∀ (w : World) (g o : Nat) (f : Nat → Value), Blk w g T (valsArr f n) →
    Blk (w.setCells g o (List.replicate k z)) g T (valsArr (fun i => if o ≤ i ∧ i < o + k then z else f i) n) ∧ Keep (· = g) w (w.setCells g o (List.replicate k z)) := by
  induction k with
  | zero =>
    intro w g o f hb
    refine ⟨?_, Keep.refl _ _⟩
    rw [valsArr_congr (h := f) (fun i _ => if_neg (by omega))]
    exact hb
  | succ k ih =>
    intro w g o f hb
    obtain ⟨h1, h2⟩ := ih _ g (o + 1) _ (hb.store o z)
    refine ⟨?_, ((Keep.refl (· = g) w).setCell (p := ⟨g, o, none⟩) (.inl rfl) z).trans h2 (fun i hi => .inl hi)⟩
    rw [valsArr_congr (h := fun i => if o + 1 ≤ i ∧ i < o + 1 + k then z else if i = o then z else f i)]
    · exact h1
    · intro i _
      by_cases e : i = o
      · subst e
        rw [if_pos (by omega), if_neg (by omega), if_pos rfl]
      · by_cases e1 : o + 1 ≤ i ∧ i < o + 1 + k
        · rw [if_pos (by omega), if_pos e1]
        · rw [if_neg (by omega), if_neg e1, if_neg e]
theorem c128_zero (w : World) : (zeroValue 27).run Tryz.prog w = .ok (.complex .f64 0 0) w := by kernel_rfl

set_option maxRecDepth 100000 in
theorem cells_erase (c p q n : Nat) (S : PgS) (w : World) (h : IsPage w c p q n S) (hn : 0 < n) :
    Calls Tryz.prog 81 #[.pointer (some ⟨c, 0, none⟩)] w fun e w' => e = .returned (.tuple #[]) ∧ IsPage w' c p q n PgS.blank ∧ Keep (fun k => k = c ∨ k = p) w w' := by
  have c0 := h.c0
  have hne := h.ne
  have hcl : ∀ ty, (Builtin.clear_ #[24] ty #[.slice (some ⟨p, 0, none⟩) n n]).run Tryz.prog w = .ok (.tuple #[]) (w.setCells p 0 (List.replicate n (.complex .f64 0 0))) :=
    fun ty => Lib.run_clear_slice w 24 27 ty (.complex .f64 0 0) Tryz.underlying24 c128_zero rfl rfl p 0 n n hn (fun j hj => by rw [Nat.zero_add, h.p.val hj]; rfl) (fun j _ => h.p.frozen _)
  obtain ⟨hb1, k1⟩ := setCells_blk (z := .complex .f64 0 0) n w p 0 _ h.p
  obtain ⟨W, hW⟩ : ∃ W, W = w.setCells p 0 (List.replicate n (.complex .f64 0 0)) := ⟨_, rfl⟩
  rw [← hW] at hcl hb1 k1
  obtain ⟨v, hb, _⟩ := h.c
  have hbc := hb.keep k1 hne
  have x1 : W.cell? ⟨c, 1, none⟩ = some v := by rw [hbc.cell]; rfl
  have x2 : W.cell? ⟨c, 2, none⟩ = some (.int .i64 (S.st : Nat)) := by rw [hbc.cell]; rfl
  have z1 := hbc.frozen 1
  have z2 := hbc.frozen 2
  have HB1 := Lib.hid hb1
  have HBC := Lib.hid hbc
  have K1 := Lib.hid k1
  clear hW hb1 hbc k1 hb h
  go_enter Tryz.func81, Tryz.ntmps81
  go_wp2_with (simp only [hcl])
  go_end0
  have y1 := HBC.out.put 2 (.int .i64 0)
  have y2 : Blk ((W.setCell ⟨c, 2, none⟩ (.int .i64 0)).setCell ⟨c, 1, none⟩ (.slice none 0 0)) c 105 #[.slice (some ⟨p, 0, none⟩) n n, .slice none 0 0, .int .i64 (PgS.blank.st : Nat)] := y1.put 1 _
  have kc : Keep (· = c) W ((W.setCell ⟨c, 2, none⟩ (.int .i64 0)).setCell ⟨c, 1, none⟩ (.slice none 0 0)) := ((Keep.refl (· = c) W).setCell (p := ⟨c, 2, none⟩) (.inl rfl) _).setCell (p := ⟨c, 1, none⟩) (.inl rfl) _
  have y3 := HB1.out.keep kc (fun e => hne e.symm)
  rw [valsArr_congr (h := ptsV PgS.blank.x PgS.blank.y) (fun i hi => by rw [if_pos (by omega)]; exact ptv_zero.symm)] at y3
  exact ⟨rfl, ⟨⟨_, y2, .inl ⟨by show (0 : Nat) ≠ 1; decide, rfl⟩⟩, y3, by show (0 : Nat) ≤ 2; decide, fun e => absurd e (by show (0 : Nat) ≠ 1; decide), fun _ _ _ => ⟨rfl, rfl⟩⟩, (K1.out.more (fun i hi => .inl (.inr hi))).trans kc (fun i hi => .inl (.inl hi))⟩

theorem cloneC_any (a : Addr) (n c : Nat) (p : Nat → Value) (w : World) (ha : ArgV w (some a) n p) (h1 : ∀ i, i < n → (p i).oneCell' = true) (hn : n ≤ 1000000) :
    Calls Tryz.prog 130 #[.slice (some a) n c] w fun e w' => ∃ a' c', e = .returned (.slice a' n c') ∧ OwnV w' 27 w.heap.size a' n c' p ∧ Keep (fun _ => False) w w' := by
  have k0 := (Keep.refl (fun _ => False) w).alloc (.cells #[] 27)
  have HA := Lib.hid (ha.keep k0)
  have HO := Lib.hid (show OwnV (w.alloc (.cells #[] 27)) 27 w.heap.size (some ⟨w.heap.size, 0, none⟩) 0 0 p from OwnV.of_row (RowV.of_blk (Blk.new w _ _)) (Nat.le_refl _) (by unfold maxLen; omega))
  have HK := Lib.hid k0
  have H1 := Lib.hid h1
  clear ha k0 h1
  have q := fun (w : World) (a : Option Addr) (n c n' c' : Nat) => Lib.run_eql_slice_nil (P := Tryz.prog) w 24 27 a n c n' c' Tryz.underlying24
  go_enter Tryz.func130, Tryz.ntmps130
  go_wp2_with (refine wpList_append_v ty_c rfl (.tmp 5) (.tmp 6) rfl w.heap.size _ 0 0 p rfl HO.out a n c p rfl HA.out H1.out (by omega) (by simp) ?_)
  intro a' c' w1 hown hgrow
  have hown := hown.congr (f' := p) (fun i hi => by simp)
  go_wp2_with fail
  go_ret
  exact ⟨a', c', rfl, by simpa using hown, HK.out.grown hgrow (fun k hk => .inr (by simp [Value.ownBlock] at hk; omega))⟩
theorem cells_sense (c p q n : Nat) (S : PgS) (w : World) (h : IsPage w c p q n S) (hn : n ≤ 1000000) :
    Calls Tryz.prog 116 #[.pointer (some ⟨c, 0, none⟩)] w fun e w' => (∃ a' c', e = .returned (.slice a' n c') ∧ OwnV w' 27 w.heap.size a' n c' (ptsV S.x S.y)) ∧ Keep (fun _ => False) w w' := by
  have c0 := h.c0
  have HA := Lib.hid ((RowV.of_blk h.p).arg (by omega))
  clear h
  go_enter Tryz.func116, Tryz.ntmps116
  go_wp2_with fail
  refine (cloneC_any _ n n _ _ HA.out (fun i _ => rfl) hn).mono ?_
  rintro e w1 ⟨a', c', rfl, ho, hk⟩
  go_wp2_with fail
  go_ret
  exact ⟨⟨a', c', rfl, ho⟩, hk⟩
theorem run_store_c128 (P : Program) (w : World) (a : Addr) (m : Mode) (k : FloatKind) (x y) : (store a (.complex k x y) m).run P w = stored P w a (.complex k x y) m := run_store P w a _ m rfl
attribute [local go_sem] run_store_c128
/-- What is being programmed: the first j cells are. -/
structure ProgAt (w : World) (c p n j : Nat) (s : Nat → Nat) (wr : World) : Prop where
  bc : Blk wr c 105 #[.slice (some ⟨p, 0, none⟩) n n, .slice none 0 0, .int .i64 0]
  bp : Blk wr p 27 (valsArr (ptsV (fun i => if i < j then reS (s i) else 0) (fun i => if i < j then imS (s i) else 0)) n)
  k : Keep (· = p) w wr
theorem prog_next (s : Nat → Nat) (j X Y : Nat) (hX : X = fx (2 * reS (s j))) (hY : Y = fx (2 * imS (s j))) (i : Nat) :
    (if i = j then Value.complex .f64 X Y else ptsV (fun i => if i < j then reS (s i) else 0) (fun i => if i < j then imS (s i) else 0) i) = ptsV (fun i => if i < j + 1 then reS (s i) else 0) (fun i => if i < j + 1 then imS (s i) else 0) i := by
  simp only [ptsV, ptv]
  by_cases e : i = j
  · subst e
    simp [hX, hY]
  · by_cases e1 : i < j
    · simp [e, e1, show i < j + 1 by omega]
    · simp [e, e1, show ¬ i < j + 1 by omega]
end Go.Proofs.YtdjgjffgheocfaaGreat

namespace Go.Proofs.YtdjgjffgheocfaaGreat
open Go.RowKit

/-- A chip: its geometry, its pages, its blocks' marks, what befalls, how many operations, how many refused, whether the power is gone. -/
structure ChipS where
  B : Nat
  P : Nat
  W : Nat
  K : Nat
  pg : Nat → Nat → PgS
  bad : Nat → Bool
  bk : Nat → Bool
  er : Nat → Nat
  F : Int → Option Value
  ops : Nat
  rf : Nat
  dark : Bool
/-- The parts that lie in blocks of their own. -/
inductive CR where
  | chip
  | ltab
  | fts
  | fmap
  | blk (i : Nat)
  | ptab (i : Nat)
  | cel (i j : Nat)
  | pts (i j : Nat)
  | sym (i j : Nat)
  deriving DecidableEq
def CR.used (C : ChipS) : CR → Prop
  | .chip => True
  | .ltab => True
  | .fts => True
  | .fmap => True
  | .blk i => i < C.B
  | .ptab i => i < C.B
  | .cel i j => i < C.B ∧ j < C.P
  | .pts i j => i < C.B ∧ j < C.P
  | .sym i j => i < C.B ∧ j < C.P ∧ (C.pg i j).st = 1
def ChipS.n (C : ChipS) : Nat := C.W * (C.K + 16)
def ChipS.head (num : CR → Nat) (cl : Nat) (C : ChipS) : Array Value :=
  #[.int .i64 (C.B : Nat), .int .i64 (C.P : Nat), .int .i64 (C.W : Nat), .int .i64 (C.K : Nat), .slice (some ⟨num .ltab, 0, none⟩) C.B cl, .pointer (some ⟨num .fts, 0, none⟩), .int .i64 (C.ops : Nat), .int .i64 (C.rf : Nat), .bool C.dark]
structure ChipM (num : CR → Nat) (w : World) (C : ChipS) : Prop where
  geo : GeoOk C.B C.P C.W C.K
  inj : ∀ r r', r.used C → r'.used C → num r = num r' → r = r'
  chip : ∃ cl, Blk w (num .chip) 71 (C.head num cl) ∧ RowV w 72 (num .ltab) cl C.B (fun i => .pointer (some ⟨num (.blk i), 0, none⟩))
  blk : ∀ i, i < C.B → ∃ cp, Blk w (num (.blk i)) 75 #[.slice (some ⟨num (.ptab i), 0, none⟩) C.P cp, .bool (C.bad i), .bool (C.bk i), .int .i64 (C.er i : Nat)] ∧
    RowV w 76 (num (.ptab i)) cp C.P (fun j => .pointer (some ⟨num (.cel i j), 0, none⟩))
  page : ∀ i j, i < C.B → j < C.P → IsPage w (num (.cel i j)) (num (.pts i j)) (num (.sym i j)) C.n (C.pg i j)
  fts : IsFates w (num .fts) (num .fmap) C.F
  rf : C.rf ≤ C.ops
  er : ∀ i, C.er i ≤ C.ops
def Own (num : CR → Nat) (C : ChipS) : Nat → Prop := fun k => ∃ r : CR, r.used C ∧ num r = k
section
variable {num num' : CR → Nat} {w w' : World} {C : ChipS} {S : Nat → Prop}
theorem ChipS.n_pos (h : GeoOk C.B C.P C.W C.K) : 0 < C.n ∧ C.n ≤ 320 := by
  obtain ⟨b0, b1, p0, p1, w0, w1, k0, k1, wk⟩ := h
  have h1 : 1 ≤ C.W := by omega
  have h2 : C.W ≤ 4 := by omega
  have h3 : C.K + 16 ≤ 80 := by omega
  unfold ChipS.n
  exact ⟨Nat.mul_pos (by omega) (by omega), Nat.mul_le_mul h2 h3⟩
theorem ChipM.lt (h : ChipM num w C) (r : CR) (hr : r.used C) : num r < w.heap.size := by
  cases r with
  | chip => obtain ⟨cl, h1, _⟩ := h.chip; exact h1.lt
  | ltab => obtain ⟨cl, _, h1⟩ := h.chip; exact h1.lt
  | fts => exact h.fts.b.lt
  | fmap => obtain ⟨n, hm⟩ := h.fts.m; exact hm.lt
  | blk i => obtain ⟨cp, h1, _⟩ := h.blk i hr; exact h1.lt
  | ptab i => obtain ⟨cp, _, h1⟩ := h.blk i hr; exact h1.lt
  | cel i j => exact (h.page i j hr.1 hr.2).lt
  | pts i j => exact (h.page i j hr.1 hr.2).p.lt
  | sym i j =>
    obtain ⟨v, _, hv⟩ := (h.page i j hr.1 hr.2.1).c
    rcases hv with ⟨e, _⟩ | ⟨_, cq, _, hq, _⟩
    · exact absurd hr.2.2 e
    · exact hq.lt
theorem ChipM.keep (h : ChipM num w C) (hk : Keep S w w') (hS : ∀ r : CR, r.used C → ¬ S (num r)) : ChipM num w' C := by
  refine ⟨h.geo, h.inj, ?_, fun i hi => ?_, fun i j hi hj => ?_, ?_, h.rf, h.er⟩
  · obtain ⟨cl, h1, h2⟩ := h.chip
    exact ⟨cl, h1.keep hk (hS .chip trivial), h2.keep hk (hS .ltab trivial)⟩
  · obtain ⟨cp, h1, h2⟩ := h.blk i hi
    exact ⟨cp, h1.keep hk (hS (.blk i) hi), h2.keep hk (hS (.ptab i) hi)⟩
  · exact (h.page i j hi hj).keep hk (hS (.cel i j) ⟨hi, hj⟩) (hS (.pts i j) ⟨hi, hj⟩) (fun e => hS (.sym i j) ⟨hi, hj, e⟩)
  · exact h.fts.keep hk (hS .fts trivial) (hS .fmap trivial)
theorem ChipM.keepF (h : ChipM num w C) (hk : Keep (fun _ => False) w w') : ChipM num w' C := h.keep hk (fun _ _ => by simp)
/-- The chip's own cells turned: operations, those refused, the power. -/
theorem ChipM.hd (h : ChipM num w C) (ops rf : Nat) (dark : Bool) (h1 : rf ≤ ops) (h2 : C.ops ≤ ops) (hk : Keep (· = num .chip) w w')
    (hb : ∀ cl, Blk w (num .chip) 71 (C.head num cl) → Blk w' (num .chip) 71 (({ C with ops := ops, rf := rf, dark := dark } : ChipS).head num cl)) :
    ChipM num w' { C with ops := ops, rf := rf, dark := dark } := by
  have hne : ∀ r : CR, r.used C → r ≠ .chip → ¬ num r = num .chip := fun r hr hn e => hn (h.inj r .chip hr trivial e)
  refine ⟨h.geo, h.inj, ?_, fun i hi => ?_, fun i j hi hj => ?_, ?_, h1, fun i => Nat.le_trans (h.er i) h2⟩
  · obtain ⟨cl, g1, g2⟩ := h.chip
    exact ⟨cl, hb cl g1, g2.keep hk (hne .ltab trivial (by simp))⟩
  · obtain ⟨cp, g1, g2⟩ := h.blk i hi
    exact ⟨cp, g1.keep hk (hne (.blk i) hi (by simp)), g2.keep hk (hne (.ptab i) hi (by simp))⟩
  · exact (h.page i j hi hj).keep hk (hne (.cel i j) ⟨hi, hj⟩ (by simp)) (hne (.pts i j) ⟨hi, hj⟩ (by simp)) (fun e => hne (.sym i j) ⟨hi, hj, e⟩ (by simp))
  · exact h.fts.keep hk (hne .fts trivial (by simp)) (hne .fmap trivial (by simp))
/-- A block's own cells turned. -/
def ChipS.setBlk (C : ChipS) (i : Nat) (m b : Bool) (e : Nat) : ChipS :=
  { C with bad := fun k => if k = i then m else C.bad k, bk := fun k => if k = i then b else C.bk k, er := fun k => if k = i then e else C.er k }
theorem ChipM.setBlk (h : ChipM num w C) (i : Nat) (hi : i < C.B) (m b : Bool) (e : Nat) (he : e ≤ C.ops) (hk : Keep (· = num (.blk i)) w w')
    (hb : ∀ cp, Blk w (num (.blk i)) 75 #[.slice (some ⟨num (.ptab i), 0, none⟩) C.P cp, .bool (C.bad i), .bool (C.bk i), .int .i64 (C.er i : Nat)] →
      Blk w' (num (.blk i)) 75 #[.slice (some ⟨num (.ptab i), 0, none⟩) C.P cp, .bool m, .bool b, .int .i64 (e : Nat)]) :
    ChipM num w' (C.setBlk i m b e) := by
  have hne : ∀ r : CR, r.used C → r ≠ .blk i → ¬ num r = num (.blk i) := fun r hr hn e => hn (h.inj r (.blk i) hr hi e)
  refine ⟨h.geo, h.inj, ?_, fun k hk' => ?_, fun k j hk' hj => ?_, ?_, h.rf, fun k => ?_⟩
  · obtain ⟨cl, g1, g2⟩ := h.chip
    exact ⟨cl, g1.keep hk (hne .chip trivial (by simp)), g2.keep hk (hne .ltab trivial (by simp))⟩
  · obtain ⟨cp, g1, g2⟩ := h.blk k hk'
    refine ⟨cp, ?_, g2.keep hk (hne (.ptab k) hk' (by simp))⟩
    by_cases ek : k = i
    · subst ek
      have := hb cp g1
      simpa [ChipS.setBlk] using this
    · have := g1.keep hk (hne (.blk k) hk' (by simpa using ek))
      simpa [ChipS.setBlk, ek] using this
  · exact (h.page k j hk' hj).keep hk (hne (.cel k j) ⟨hk', hj⟩ (by simp)) (hne (.pts k j) ⟨hk', hj⟩ (by simp)) (fun e => hne (.sym k j) ⟨hk', hj, e⟩ (by simp))
  · exact h.fts.keep hk (hne .fts trivial (by simp)) (hne .fmap trivial (by simp))
  · show (if k = i then e else C.er k) ≤ C.ops
    have := h.er k
    split <;> omega
/-- A page turned. -/
def ChipS.setPg (C : ChipS) (i j : Nat) (S : PgS) : ChipS := { C with pg := fun a b => if a = i ∧ b = j then S else C.pg a b }
def updR (num : CR → Nat) (r : CR) (q : Nat) : CR → Nat := fun x => if x = r then q else num x
theorem ChipM.setPg (h : ChipM num w C) (i j : Nat) (hi : i < C.B) (hj : j < C.P) (S' : PgS) (q : Nat) (hk : Keep (fun k => k = num (.cel i j) ∨ k = num (.pts i j)) w w') (hp : IsPage w' (num (.cel i j)) (num (.pts i j)) q C.n S')
    (hq : S'.st = 1 → w.heap.size ≤ q ∨ (q = num (.sym i j) ∧ (C.pg i j).st = 1)) : ChipM (updR num (.sym i j) q) w' (C.setPg i j S') := by
  have hne : ∀ r : CR, r.used C → r ≠ .cel i j → r ≠ .pts i j → ¬ (num r = num (.cel i j) ∨ num r = num (.pts i j)) := fun r hr h1 h2 e => e.elim (fun e => h1 (h.inj r (.cel i j) hr ⟨hi, hj⟩ e)) (fun e => h2 (h.inj r (.pts i j) hr ⟨hi, hj⟩ e))
  have hus : ∀ r : CR, r.used (C.setPg i j S') → r ≠ .sym i j → r.used C := fun r hr hn => by
    cases r with
    | sym a b =>
      obtain ⟨x1, x2, x3⟩ := hr
      refine ⟨x1, x2, ?_⟩
      have : ¬ (a = i ∧ b = j) := fun e => hn (by rw [e.1, e.2])
      simpa [ChipS.setPg, this] using x3
    | _ => exact hr
  have hnum : ∀ r : CR, r ≠ .sym i j → updR num (.sym i j) q r = num r := fun r hn => if_neg hn
  have hqs : (CR.sym i j).used (C.setPg i j S') → S'.st = 1 := fun e => by
    have := e.2.2
    simpa [ChipS.setPg] using this
  refine ⟨h.geo, fun r r' hr hr' e => ?_, ?_, fun k hk' => ?_, fun a b ha hb => ?_, ?_, h.rf, h.er⟩
  · by_cases e1 : r = .sym i j
    · by_cases e2 : r' = .sym i j
      · rw [e1, e2]
      · rw [hnum r' e2] at e
        subst e1
        have hu := hus r' hr' e2
        have hlt := h.lt r' hu
        unfold updR at e
        rw [if_pos rfl] at e
        rcases hq (hqs hr) with h1 | ⟨h1, h2⟩
        · omega
        · exact h.inj (.sym i j) r' ⟨hi, hj, h2⟩ hu (by rw [← h1, e])
    · by_cases e2 : r' = .sym i j
      · rw [hnum r e1] at e
        subst e2
        have hu := hus r hr e1
        have hlt := h.lt r hu
        unfold updR at e
        rw [if_pos rfl] at e
        rcases hq (hqs hr') with h1 | ⟨h1, h2⟩
        · omega
        · exact h.inj r (.sym i j) hu ⟨hi, hj, h2⟩ (by rw [← h1, e])
      · rw [hnum r e1, hnum r' e2] at e
        exact h.inj r r' (hus r hr e1) (hus r' hr' e2) e
  · obtain ⟨cl, g1, g2⟩ := h.chip
    exact ⟨cl, g1.keep hk (hne .chip trivial (by simp) (by simp)), g2.keep hk (hne .ltab trivial (by simp) (by simp))⟩
  · obtain ⟨cp, g1, g2⟩ := h.blk k hk'
    exact ⟨cp, g1.keep hk (hne (.blk k) hk' (by simp) (by simp)), g2.keep hk (hne (.ptab k) hk' (by simp) (by simp))⟩
  · by_cases e : a = i ∧ b = j
    · obtain ⟨rfl, rfl⟩ := e
      have e1 : (C.setPg a b S').pg a b = S' := by simp [ChipS.setPg]
      rw [e1]
      have e2 : updR num (.sym a b) q (.sym a b) = q := if_pos rfl
      rw [e2]
      exact hp
    · have e1 : (C.setPg i j S').pg a b = C.pg a b := by simp [ChipS.setPg, e]
      rw [e1]
      have e2 : updR num (.sym i j) q (.sym a b) = num (.sym a b) := if_neg (fun x => by injection x with x1 x2; exact e ⟨x1, x2⟩)
      rw [e2]
      exact (h.page a b ha hb).keep hk (hne (.cel a b) ⟨ha, hb⟩ (fun x => by injection x with x1 x2; exact e ⟨x1, x2⟩) (by simp)) (hne (.pts a b) ⟨ha, hb⟩ (by simp) (fun x => by injection x with x1 x2; exact e ⟨x1, x2⟩))
        (fun es => hne (.sym a b) ⟨ha, hb, es⟩ (by simp) (by simp))
  · exact h.fts.keep hk (hne .fts trivial (by simp) (by simp)) (hne .fmap trivial (by simp) (by simp))
end
end Go.Proofs.YtdjgjffgheocfaaGreat

namespace Go.Proofs.YtdjgjffgheocfaaGreat
open Go.RowKit

section
variable {num : CR → Nat} {w : World} {C : ChipS}
theorem ChipM.small (h : ChipM num w C) : 4 ≤ C.B ∧ C.B ≤ 64 ∧ 2 ≤ C.P ∧ C.P ≤ 32 ∧ 1 ≤ C.W ∧ C.W ≤ 4 ∧ 1 ≤ C.K ∧ C.K ≤ 64 ∧ 8 < C.W * C.K := by
  obtain ⟨b0, b1, p0, p1, w0, w1, k0, k1, wk⟩ := h.geo
  have e : (8 : Int) < ((C.W * C.K : Nat) : Int) := by rw [Int.natCast_mul]; exact wk
  exact ⟨by omega, by omega, by omega, by omega, by omega, by omega, by omega, by omega, by omega⟩
/-- The chip's own cells. -/
structure HeadC (num : CR → Nat) (w : World) (C : ChipS) (cl : Nat) : Prop where
  b : Blk w (num .chip) 71 (C.head num cl)
  c0 : w.cell? ⟨num .chip, 0, none⟩ = some (.int .i64 (C.B : Nat))
  c1 : w.cell? ⟨num .chip, 1, none⟩ = some (.int .i64 (C.P : Nat))
  c2 : w.cell? ⟨num .chip, 2, none⟩ = some (.int .i64 (C.W : Nat))
  c3 : w.cell? ⟨num .chip, 3, none⟩ = some (.int .i64 (C.K : Nat))
  c4 : w.cell? ⟨num .chip, 4, none⟩ = some (.slice (some ⟨num .ltab, 0, none⟩) C.B cl)
  c5 : w.cell? ⟨num .chip, 5, none⟩ = some (.pointer (some ⟨num .fts, 0, none⟩))
  c6 : w.cell? ⟨num .chip, 6, none⟩ = some (.int .i64 (C.ops : Nat))
  c7 : w.cell? ⟨num .chip, 7, none⟩ = some (.int .i64 (C.rf : Nat))
  c8 : w.cell? ⟨num .chip, 8, none⟩ = some (.bool C.dark)
theorem headC {cl : Nat} (b : Blk w (num .chip) 71 (C.head num cl)) : HeadC num w C cl :=
  ⟨b, by rw [b.cell]; rfl, by rw [b.cell]; rfl, by rw [b.cell]; rfl, by rw [b.cell]; rfl, by rw [b.cell]; rfl, by rw [b.cell]; rfl, by rw [b.cell]; rfl, by rw [b.cell]; rfl, by rw [b.cell]; rfl⟩
theorem ChipM.head (h : ChipM num w C) : ∃ cl, HeadC num w C cl ∧ ∀ i, i < C.B → w.cell? ⟨num .ltab, i, none⟩ = some (.pointer (some ⟨num (.blk i), 0, none⟩)) := by
  obtain ⟨cl, h1, h2⟩ := h.chip
  exact ⟨cl, headC h1, fun i hi => h2.val hi⟩
structure BlkC (num : CR → Nat) (w : World) (C : ChipS) (i cp : Nat) : Prop where
  c0 : w.cell? ⟨num (.blk i), 0, none⟩ = some (.slice (some ⟨num (.ptab i), 0, none⟩) C.P cp)
  c1 : w.cell? ⟨num (.blk i), 1, none⟩ = some (.bool (C.bad i))
  c2 : w.cell? ⟨num (.blk i), 2, none⟩ = some (.bool (C.bk i))
  c3 : w.cell? ⟨num (.blk i), 3, none⟩ = some (.int .i64 (C.er i : Nat))
  t : ∀ j, j < C.P → w.cell? ⟨num (.ptab i), j, none⟩ = some (.pointer (some ⟨num (.cel i j), 0, none⟩))
theorem ChipM.blkC (h : ChipM num w C) {i : Nat} (hi : i < C.B) : ∃ cp, BlkC num w C i cp := by
  obtain ⟨cp, h1, h2⟩ := h.blk i hi
  exact ⟨cp, by rw [h1.cell]; rfl, by rw [h1.cell]; rfl, by rw [h1.cell]; rfl, by rw [h1.cell]; rfl, fun j hj => h2.val hj⟩
end

set_option maxRecDepth 100000 in
theorem block_yes (num : CR → Nat) (C : ChipS) (w : World) (h : ChipM num w C) (i : Nat) (hi : i < C.B) :
    Calls Tryz.prog 40 #[.pointer (some ⟨num .chip, 0, none⟩), .int .i64 i] w fun e w' => e = .returned (.pointer (some ⟨num (.blk i), 0, none⟩)) ∧ w = w' := by
  obtain ⟨cl, hc, ht⟩ := h.head
  obtain ⟨s0, s1, s2⟩ := h.small
  have c4 := hc.c4
  have t0 := ht i hi
  have d1 : decide ((i : Int) < 0) = false := by simp
  have d2 : decide (C.B ≤ i) = false := by simpa using hi
  have d3 : (i : Int) < (C.B : Int) := by omega
  clear h hc ht s2
  go_enter Tryz.func40, Tryz.ntmps40
  go_wp2_with fail
  go_ret
  exact ⟨rfl, rfl⟩
set_option maxRecDepth 100000 in
theorem block_no (num : CR → Nat) (C : ChipS) (w : World) (h : ChipM num w C) (i : Int) (hi : i < 0 ∨ (C.B : Int) ≤ i) :
    Calls Tryz.prog 40 #[.pointer (some ⟨num .chip, 0, none⟩), .int .i64 i] w fun e w' => e = .returned (.pointer none) ∧ w = w' := by
  obtain ⟨cl, hc, ht⟩ := h.head
  have c4 := hc.c4
  by_cases h0 : i < 0
  · clear h hc ht hi
    go_enter Tryz.func40, Tryz.ntmps40
    go_wp2_with fail
    go_ret
    exact ⟨rfl, rfl⟩
  · have h1 : (C.B : Int) ≤ i := by omega
    have d1 : decide (i < 0) = false := by simpa using h0
    clear h hc ht hi h0
    go_enter Tryz.func40, Tryz.ntmps40
    go_wp2_with fail
    go_ret
    exact ⟨rfl, rfl⟩
set_option maxRecDepth 100000 in
theorem page_yes (num : CR → Nat) (C : ChipS) (w : World) (h : ChipM num w C) (i j : Nat) (hi : i < C.B) (hj : j < C.P) :
    Calls Tryz.prog 114 #[.pointer (some ⟨num .chip, 0, none⟩), .int .i64 i, .int .i64 j] w fun e w' => e = .returned (.pointer (some ⟨num (.cel i j), 0, none⟩)) ∧ w = w' := by
  have HB := Lib.hid (block_yes num C w h i hi)
  obtain ⟨cp, hc⟩ := h.blkC hi
  obtain ⟨s0, s1, s2, s3, s4⟩ := h.small
  have c0 := hc.c0
  have t0 := hc.t j hj
  have d1 : decide ((j : Int) < 0) = false := by simp
  have d2 : decide (C.P ≤ j) = false := by simpa using hj
  have d3 : (j : Int) < (C.P : Int) := by omega
  clear h hc s4
  go_enter Tryz.func114, Tryz.ntmps114
  go_wp2_with fail
  refine HB.out.mono ?_
  rintro e w1 ⟨rfl, rfl⟩
  go_wp2_with fail
  go_ret
  exact ⟨rfl, rfl⟩
set_option maxRecDepth 100000 in
theorem page_no (num : CR → Nat) (C : ChipS) (w : World) (h : ChipM num w C) (i j : Int) (hij : ¬ (0 ≤ i ∧ i < C.B ∧ 0 ≤ j ∧ j < C.P)) :
    Calls Tryz.prog 114 #[.pointer (some ⟨num .chip, 0, none⟩), .int .i64 i, .int .i64 j] w fun e w' => e = .returned (.pointer none) ∧ w = w' := by
  by_cases hi : 0 ≤ i ∧ i < C.B
  · obtain ⟨k, rfl⟩ := Int.eq_ofNat_of_zero_le hi.1
    have hk : k < C.B := by omega
    have HB := Lib.hid (block_yes num C w h k hk)
    obtain ⟨cp, hc⟩ := h.blkC hk
    have c0 := hc.c0
    by_cases hj : j < 0
    · clear h hc hij hi
      go_enter Tryz.func114, Tryz.ntmps114
      go_wp2_with fail
      refine HB.out.mono ?_
      rintro e w1 ⟨rfl, rfl⟩
      go_wp2_with fail
      go_ret
      exact ⟨rfl, rfl⟩
    · have hj2 : (C.P : Int) ≤ j := by omega
      have d1 : decide (j < 0) = false := by simpa using hj
      clear h hc hij hi hj
      go_enter Tryz.func114, Tryz.ntmps114
      go_wp2_with fail
      refine HB.out.mono ?_
      rintro e w1 ⟨rfl, rfl⟩
      go_wp2_with fail
      go_ret
      exact ⟨rfl, rfl⟩
  · have HB := Lib.hid (block_no num C w h i (by omega))
    clear h hij hi
    go_enter Tryz.func114, Tryz.ntmps114
    go_wp2_with fail
    refine HB.out.mono ?_
    rintro e w1 ⟨rfl, rfl⟩
    go_wp2_with fail
    go_ret
    exact ⟨rfl, rfl⟩
theorem there_any (ok : Bool) (w : World) :
    Calls Tryz.prog 54 #[.bool ok] w fun e w' => e = .returned (.func (.func 76) #[] #[.pointer (some ⟨w.heap.size, 0, none⟩)]) ∧ w' = w.alloc (.cells #[.bool ok] 4) := by
  go_enter Tryz.func54, Tryz.ntmps54
  go_wp2_with fail
  go_ret
  exact ⟨rfl, rfl⟩
def errB (ok : Bool) : Int := if ok then 0 else 1
theorem there1_any (g : Nat) (ok : Bool) (w : World) (hg : w.cell? ⟨g, 0, none⟩ = some (.bool ok)) :
    Calls Tryz.prog 76 #[.pointer (some ⟨g, 0, none⟩)] w fun e w' => e = .returned (.int .i64 (errB ok)) ∧ w = w' := by
  cases ok
  all_goals
    go_enter Tryz.func76, Tryz.ntmps76
    go_wp2_with fail
    go_ret
    exact ⟨rfl, rfl⟩

/-- An operation was made. -/
def ChipS.tick (C : ChipS) : ChipS := { C with ops := C.ops + 1 }
theorem ChipM.ticked {num : CR → Nat} {w w' : World} {C : ChipS} (h : ChipM num w C) (hk : Keep (fun _ => False) w w') : ChipM num (w'.setCell ⟨num .chip, 6, none⟩ (.int .i64 (C.ops + 1 : Nat))) C.tick := by
  have h' := h.keepF hk
  refine h'.hd (C.ops + 1) C.rf C.dark (by have := h.rf; omega) (by omega) ((Keep.refl (· = num .chip) w').setCell (p := ⟨num .chip, 6, none⟩) (.inl rfl) _) fun cl hb => ?_
  exact hb.put 6 _
/-- A scope out of which the run jumps forward, once. -/
theorem wp_scope_once {P : Program} {a : Act} {w : World} {Q : Exit → Act → World → Prop} {c X : Code} (l : Nat) (hf : findLabel c l = some (Code.skip.seq X))
    (first : c.wp P (Exit.jump l (fun a' w' => X.wp P (Exit.noGoto Q) a' w') Q) a w) : (Code.scope c).wp P Q a w :=
  wp_scope_jumps l (fun a' w' => X.wp P (Exit.noGoto Q) a' w') (fun _ _ => 0) hf first fun a w h => wp_seq (wp_skip (Code.wp_mono (fun e a' w' he => by
    cases e <;> first | exact he | exact he.elim) h))
set_option maxRecDepth 100000 in
theorem operate_dark (num : CR → Nat) (C : ChipS) (w : World) (h : ChipM num w C) (hd : C.dark = true) (v1 v2 : Value) :
    Calls Tryz.prog 53 #[.pointer (some ⟨num .chip, 0, none⟩), v1, v2] w fun e w' => e = .returned (.int .i64 8) ∧ Keep (fun _ => False) w w' := by
  obtain ⟨cl, hc, _⟩ := h.head
  have c8 := ((Keep.refl (fun _ => False) w).alloc (.cells #[.int .i64 0, .int .i64 0, .int .i64 0] 110)).cell (p := ⟨num .chip, 8, none⟩) hc.b.lt (by simp) |>.trans hc.c8
  rw [hd] at c8
  clear h hc hd
  go_enter Tryz.func53, Tryz.ntmps53
  go_wp2_with fail
  go_step3
  go_wp2_with fail
  rw [Exit.noGoto_ret]
  go_ret
  exact ⟨rfl, (Keep.refl _ w).alloc _⟩

theorem fate_cells {w : World} {g : Nat} {k l s : Int} (b : Blk w g 110 #[.int .i64 k, .int .i64 l, .int .i64 s]) :
    w.cell? ⟨g, 0, none⟩ = some (.int .i64 k) ∧ w.cell? ⟨g, 1, none⟩ = some (.int .i64 l) ∧ w.cell? ⟨g, 2, none⟩ = some (.int .i64 s) :=
  ⟨by rw [b.cell]; rfl, by rw [b.cell]; rfl, by rw [b.cell]; rfl⟩
theorem fate_put {w : World} {g : Nat} {a0 a1 a2 : Int} (b : Blk w g 110 #[.int .i64 a0, .int .i64 a1, .int .i64 a2]) (k l s : Int) :
    ((w.cell? ⟨g, 0, none⟩ = some (.int .i64 a0) ∧ w.frozen? ⟨g, 0, none⟩ = false) ∧
    ((w.setCell ⟨g, 0, none⟩ (.int .i64 k)).cell? ⟨g, 1, none⟩ = some (.int .i64 a1) ∧ (w.setCell ⟨g, 0, none⟩ (.int .i64 k)).frozen? ⟨g, 1, none⟩ = false) ∧
    (((w.setCell ⟨g, 0, none⟩ (.int .i64 k)).setCell ⟨g, 1, none⟩ (.int .i64 l)).cell? ⟨g, 2, none⟩ = some (.int .i64 a2) ∧ ((w.setCell ⟨g, 0, none⟩ (.int .i64 k)).setCell ⟨g, 1, none⟩ (.int .i64 l)).frozen? ⟨g, 2, none⟩ = false)) ∧
    Blk (((w.setCell ⟨g, 0, none⟩ (.int .i64 k)).setCell ⟨g, 1, none⟩ (.int .i64 l)).setCell ⟨g, 2, none⟩ (.int .i64 s)) g 110 #[.int .i64 k, .int .i64 l, .int .i64 s] := by
  have Z1 : Blk (w.setCell ⟨g, 0, none⟩ (.int .i64 k)) g 110 #[.int .i64 k, .int .i64 a1, .int .i64 a2] := b.put 0 _
  have Z2 : Blk ((w.setCell ⟨g, 0, none⟩ (.int .i64 k)).setCell ⟨g, 1, none⟩ (.int .i64 l)) g 110 #[.int .i64 k, .int .i64 l, .int .i64 a2] := Z1.put 1 _
  obtain ⟨y0, _, _⟩ := fate_cells b
  obtain ⟨_, y1, _⟩ := fate_cells Z1
  obtain ⟨_, _, y2⟩ := fate_cells Z2
  exact ⟨⟨⟨y0, b.frozen 0⟩, ⟨y1, Z1.frozen 1⟩, y2, Z2.frozen 2⟩, Z2.put 2 _⟩
theorem Keep.fate {w w' : World} {g : Nat} (h : Keep (fun _ => False) w w') (hg : w.heap.size ≤ g) (k l s : Int) :
    Keep (fun _ => False) w (((w'.setCell ⟨g, 0, none⟩ (.int .i64 k)).setCell ⟨g, 1, none⟩ (.int .i64 l)).setCell ⟨g, 2, none⟩ (.int .i64 s)) :=
  ((h.setCell (p := ⟨g, 0, none⟩) (.inr hg) _).setCell (p := ⟨g, 1, none⟩) (.inr hg) _).setCell (p := ⟨g, 2, none⟩) (.inr hg) _
theorem ChipM.fateAt {num : CR → Nat} {w : World} {C : ChipS} (h : ChipM num w C) : ∃ a d k o, (C.F (C.ops : Int)).getD (fateV 0 0 0) = fateV a d k ∧ ∀ w', Keep (fun _ => False) w w' →
    Calls Tryz.prog 75 #[.pointer (some ⟨num .fts, 0, none⟩), .int .i64 (C.ops : Nat)] w' fun e w2 => e = .returned (.tuple #[fateV a d k, .bool o]) ∧ Keep (fun _ => False) w' w2 := by
  have hform : ∃ a d k, (C.F (C.ops : Int)).getD (fateV 0 0 0) = fateV a d k := by
    cases hfn : C.F (C.ops : Int) with
    | none => exact ⟨0, 0, 0, rfl⟩
    | some v =>
      obtain ⟨a, d, k, e, _⟩ := h.fts.v _ v hfn
      exact ⟨a, d, k, by rw [e]; rfl⟩
  obtain ⟨a, d, k, hv⟩ := hform
  refine ⟨a, d, k, (C.F (C.ops : Int)).isSome, hv, fun w' hk => (fateat_any _ _ _ _ _ (h.fts.keep hk (by simp) (by simp))).mono fun e w2 he => ?_⟩
  obtain ⟨⟨a', d', k', h1, h2⟩, h3⟩ := he
  rw [hv] at h1
  rw [h1]
  exact ⟨h2, h3⟩
/-- A function with a body of its own. -/
def Enters (f : FuncId) : Prop := ∀ args w, (callFunc f args).run Tryz.prog w = .ok (.enter f args) w
theorem enters_of {f : FuncId} {fn : Func} {c : Code} (hf : Tryz.prog.funcs[f]? = some fn) (hname : (fn.name == "runtime.NumGoroutine") = false) (hb : fn.body = some c) : Enters f := fun args w => by
  have h1 : (fn.name = "runtime.NumGoroutine") = False := by simpa using hname
  simp [callFunc, hf, h1, hb]
/-- Which errors are refusals. -/
def refB (e : Int) : Nat := if e = 1 ∨ e = 3 ∨ e = 9 ∨ e = 5 then 1 else 0
set_option maxRecDepth 100000 in
set_option maxHeartbeats 2000000 in
theorem operate_no (num : CR → Nat) (C : ChipS) (w : World) (h : ChipM num w C) (hd : C.dark = false) (hops : C.ops < 1099511627776) (fm : FuncId) (hfm : Enters fm) (cm : Array Value) (v2 : Value) (e1 : Int) (he1 : e1 ≠ 0)
    (hmay : ∀ w1, ChipM num w1 C.tick → Keep (· = num .chip) w w1 → Calls Tryz.prog fm cm w1 fun e w2 => e = .returned (.int .i64 e1) ∧ Keep (fun _ => False) w1 w2) :
    Calls Tryz.prog 53 #[.pointer (some ⟨num .chip, 0, none⟩), .func (.func fm) #[] cm, v2] w fun e w' => e = .returned (.int .i64 e1) ∧ ChipM num w' { C.tick with rf := C.rf + refB e1 } ∧ Keep (· = num .chip) w w' := by
  obtain ⟨cl, hc, _⟩ := h.head
  obtain ⟨V, hV⟩ : ∃ V, V = w.alloc (.cells #[.int .i64 0, .int .i64 0, .int .i64 0] 110) := ⟨_, rfl⟩
  have kV : Keep (fun _ => False) w V := by rw [hV]; exact (Keep.refl _ w).alloc _
  have bF : Blk V w.heap.size 110 #[.int .i64 0, .int .i64 0, .int .i64 0] := by rw [hV]; exact Blk.new _ _ _
  have hcV := headC (hc.b.keep kV (by simp))
  have c8 := hcV.c8
  have c5 := hcV.c5
  have c6 := hcV.c6
  rw [hd] at c8
  have hc0 := hc.b
  have HM := Lib.hid hmay
  have HC := Lib.hid h
  obtain ⟨a, d, k, o, _, hat⟩ := h.fateAt
  have HAT := Lib.hid (fun w' (hk : Keep (fun _ => False) V w') => hat w' (kV.comp hk))
  clear h hc hd hmay hat
  go_enter Tryz.func53, Tryz.ntmps53
  go_wp2_with fail
  refine wp_scope_once 0 rfl ?_
  go_upto_region 3 with (fail)
  rw [← hV]
  have hVs : V.heap.size = w.heap.size + 1 := by rw [hV]; simp
  clear hV
  go_upto_region 5 with (fail)
  go_cut [14] (fun v14 wc => Blk wc w.heap.size 110 #[.int .i64 a, .int .i64 d, .int .i64 k] ∧ Keep (fun _ => False) w wc)
  case first =>
    have kd := (Keep.refl (fun _ => False) V).drew
    have q5 := (headC (hcV.b.keep kd (by simp))).c5
    have q6 := (headC (hcV.b.keep kd (by simp))).c6
    go_region_held3 (fun w' => w'.cell? ⟨num .chip, 5, none⟩ = some (.pointer (some ⟨num .fts, 0, none⟩)) ∧ w'.cell? ⟨num .chip, 6, none⟩ = some (.int .i64 (C.ops : Nat)))
      (first | with_reducible exact ⟨q5, q6⟩ | with_reducible exact ⟨x5, x6⟩ | with_reducible exact ⟨y5, y6⟩)
      (first
        | (go_at_call 75
           refine (HAT.out _ kd).mono ?_
           rintro e w5 ⟨rfl, k5⟩
           have K5 := kd.comp k5
           have x := headC (hcV.b.keep K5 (by simp))
           have x5 := x.c5
           have x6 := x.c6
           have b5 := bF.keep K5 (by simp)
           obtain ⟨⟨⟨p0, f0⟩, ⟨p1, f1⟩, p2, f2⟩, bE⟩ := fate_put b5 a d k
           have KE := (kV.comp K5).fate (Nat.le_refl _) a d k
           have y := headC (hc0.keep KE (by simp))
           have y5 := y.c5
           have y6 := y.c6))
    all_goals
      go_wp2_with fail
      go_meet
      exact ⟨bE, KE⟩
  case rest =>
  obtain ⟨bE, kE⟩ := hcut
  have hcw := headC (hc0.keep kE (by simp))
  have c6 := hcw.c6
  have c7 := hcw.c7
  have z6 := hcw.b.frozen 6
  have kt := HC.out.ticked kE
  have k2 : Keep (· = num .chip) w (wc.setCell ⟨num .chip, 6, none⟩ (.int .i64 (C.ops + 1 : Nat))) := ((kE.more (fun _ h => by cases h) : Keep (· = num .chip) w wc)).setCell (p := ⟨num .chip, 6, none⟩) (.inl rfl) _
  have hm := HM.out _ kt k2
  have e7 : ((C.ops + 1 : Nat) : Int) = (C.ops : Int) + 1 := by omega
  rw [e7] at hm kt k2
  have HMM := Lib.hid hm
  have KT := Lib.hid kt
  have K2 := Lib.hid k2
  have hen := hfm
  unfold Enters at hen
  clear hm kt k2 e7 HM
  go_wp2_with fail
  refine HMM.out.mono ?_
  rintro e w2 ⟨rfl, k3⟩
  have KT2 := Lib.hid (KT.out.keepF k3)
  have K3 := Lib.hid (K2.out.trans k3 (fun _ h => by cases h))
  have hne : (e1 != 0) = true := by simpa using he1
  clear c6 c7 z6 hen he1
  go_wp2_with fail
  go_step3
  refine ⟨rfl, ?_⟩
  obtain ⟨cl2, hc2, _⟩ := KT2.out.head
  have c7 := hc2.c7
  change w2.cell? ⟨num .chip, 7, none⟩ = some (.int .i64 (C.rf : Nat)) at c7
  have z7 := hc2.b.frozen 7
  have hrf := HC.out.rf
  have HF : ∀ r : Nat, r ≤ 1 → Hid (ChipM num (w2.setCell ⟨num .chip, 7, none⟩ (.int .i64 (C.rf + r : Nat))) { C.tick with rf := C.rf + r }) := fun r hr => Lib.hid (KT2.out.hd (C.ops + 1) (C.rf + r) C.dark (by omega) (Nat.le_refl _) ((Keep.refl (· = num .chip) w2).setCell (p := ⟨num .chip, 7, none⟩) (.inl rfl) _) fun cl hb => hb.put 7 _)
  have HF1 := HF 1 (Nat.le_refl _)
  have K4 := Lib.hid (K3.out.setCell (p := ⟨num .chip, 7, none⟩) (.inl rfl) (.int .i64 (C.rf + 1 : Nat)))
  rw [show ((C.rf + 1 : Nat) : Int) = (C.rf : Int) + 1 by omega] at HF1 K4
  clear hc2 HF
  by_cases hr : e1 = 1 ∨ e1 = 3 ∨ e1 = 9 ∨ e1 = 5
  · have hrb : refB e1 = 1 := if_pos hr
    have HRB := Lib.hid hrb
    clear hrb
    rcases hr with rfl | rfl | rfl | rfl
    all_goals
      clear hne
      go_wp2_with fail
      try rw [Exit.noGoto_ret]
      go_ret
      exact ⟨rfl, by rw [HRB.out]; exact HF1.out, K4.out⟩
  · have hrb : refB e1 = 0 := if_neg hr
    have HRB := Lib.hid hrb
    have h1 : (e1 == 1) = false := by simp; omega
    have h3 : (e1 == 3) = false := by simp; omega
    have h9 : (e1 == 9) = false := by simp; omega
    have h5 : (e1 == 5) = false := by simp; omega
    clear hrb hr hne c7 z7
    go_wp2_with fail
    try rw [Exit.noGoto_ret]
    go_ret
    exact ⟨rfl, by rw [HRB.out]; exact KT2.out, K3.out⟩
end Go.Proofs.YtdjgjffgheocfaaGreat

namespace Go.Proofs.YtdjgjffgheocfaaGreat
open Go.RowKit

/-- What an operation's doing leaves: D of its error, of where all lies, of what the chip is. -/
def DoR (num : CR → Nat) (C : ChipS) (w w2 : World) (D : Int → (CR → Nat) → ChipS → Prop) (e : Ending) : Prop :=
  ∃ e2 num2 C2, e = .returned (.int .i64 e2) ∧ (e2 = 0 ∨ e2 = 6 ∨ e2 = 7) ∧ D e2 num2 C2 ∧ ChipM num2 w2 C2 ∧ num2 .chip = num .chip ∧ Keep (Own num C) w w2 ∧ ∀ r : CR, r.used C2 → Own num C (num2 r) ∨ w.heap.size ≤ num2 r
/-- The error of an operation, and the chip, when the power may be gone in it. -/
def opE (d e : Int) : Int := if d = 2 ∧ e = 0 then 8 else e
def opC (d e : Int) (C : ChipS) : ChipS := if d = 2 ∧ e = 0 then { C with dark := true } else C
theorem opE_no {d e : Int} (h : ¬ (d = 2 ∧ e = 0)) : opE d e = e := if_neg h
theorem opC_no {d e : Int} {C : ChipS} (h : ¬ (d = 2 ∧ e = 0)) : opC d e C = C := if_neg h
/-- .. and the operation: the power may be gone behind it. -/
def OpR (num : CR → Nat) (C : ChipS) (w w' : World) (D : Int → (CR → Nat) → ChipS → Prop) (d : Int) (e : Ending) : Prop :=
  ∃ e2 num2 C2, D e2 num2 C2 ∧ e = .returned (.int .i64 (opE d e2)) ∧ ChipM num2 w' (opC d e2 C2) ∧ num2 .chip = num .chip ∧ Keep (Own num C) w w' ∧
    ∀ r : CR, r.used C2 → Own num C (num2 r) ∨ w.heap.size ≤ num2 r
set_option maxRecDepth 100000 in
set_option maxHeartbeats 2000000 in
theorem operate_yes (num : CR → Nat) (C : ChipS) (w : World) (h : ChipM num w C) (hd : C.dark = false) (hops : C.ops < 1099511627776) (fm : FuncId) (hfm : Enters fm) (cm : Array Value) (fd : FuncId) (hfd : Enters fd) (cd : Array Value)
    (D : Int → (CR → Nat) → ChipS → Prop) (a d k : Int) (hF : (C.F (C.ops : Int)).getD (fateV 0 0 0) = fateV a d k)
    (hmay : ∀ w1, ChipM num w1 C.tick → Keep (· = num .chip) w w1 → Calls Tryz.prog fm cm w1 fun e w2 => e = .returned (.int .i64 0) ∧ Keep (fun _ => False) w1 w2)
    (hdo : ∀ w1, ChipM num w1 C.tick → Keep (· = num .chip) w w1 → Calls Tryz.prog fd (#[fateV a d k] ++ cd) w1 fun e w2 => DoR num C w1 w2 D e) :
    Calls Tryz.prog 53 #[.pointer (some ⟨num .chip, 0, none⟩), .func (.func fm) #[] cm, .func (.func fd) #[] cd] w fun e w' => OpR num C w w' D d e := by
  obtain ⟨cl, hc, _⟩ := h.head
  obtain ⟨V, hV⟩ : ∃ V, V = w.alloc (.cells #[.int .i64 0, .int .i64 0, .int .i64 0] 110) := ⟨_, rfl⟩
  have kV : Keep (fun _ => False) w V := by rw [hV]; exact (Keep.refl _ w).alloc _
  have bF : Blk V w.heap.size 110 #[.int .i64 0, .int .i64 0, .int .i64 0] := by rw [hV]; exact Blk.new _ _ _
  have hcV := headC (hc.b.keep kV (by simp))
  have c8 := hcV.c8
  have c5 := hcV.c5
  have c6 := hcV.c6
  rw [hd] at c8
  have hc0 := hc.b
  have HM := Lib.hid hmay
  have HDO := Lib.hid hdo
  have HC := Lib.hid h
  obtain ⟨a', d', k', o, hF', hat⟩ := h.fateAt
  obtain ⟨rfl, rfl, rfl⟩ : a' = a ∧ d' = d ∧ k' = k := by
    rw [hF] at hF'
    simp only [fateV, Value.agg.injEq, Array.mk.injEq, List.cons.injEq, Value.int.injEq, true_and, and_true] at hF'
    exact ⟨hF'.1.symm, hF'.2.1.symm, hF'.2.2.symm⟩
  have HAT := Lib.hid (fun w' (hk : Keep (fun _ => False) V w') => hat w' (kV.comp hk))
  clear h hc hd hmay hat hdo hF hF'
  go_enter Tryz.func53, Tryz.ntmps53
  go_wp2_with fail
  go_step3
  go_upto_region 3 with (fail)
  rw [← hV]
  have hVs : V.heap.size = w.heap.size + 1 := by rw [hV]; simp
  clear hV
  go_upto_region 5 with (fail)
  go_cut [14] (fun v14 wc => Blk wc w.heap.size 110 #[.int .i64 a', .int .i64 d', .int .i64 k'] ∧ Keep (fun _ => False) w wc)
  case first =>
    have kd := (Keep.refl (fun _ => False) V).drew
    have q5 := (headC (hcV.b.keep kd (by simp))).c5
    have q6 := (headC (hcV.b.keep kd (by simp))).c6
    go_region_held3 (fun w' => w'.cell? ⟨num .chip, 5, none⟩ = some (.pointer (some ⟨num .fts, 0, none⟩)) ∧ w'.cell? ⟨num .chip, 6, none⟩ = some (.int .i64 (C.ops : Nat)))
      (first | with_reducible exact ⟨q5, q6⟩ | with_reducible exact ⟨x5, x6⟩ | with_reducible exact ⟨y5, y6⟩)
      (first
        | (go_at_call 75
           refine (HAT.out _ kd).mono ?_
           rintro e w5 ⟨rfl, k5⟩
           have K5 := kd.comp k5
           have x := headC (hcV.b.keep K5 (by simp))
           have x5 := x.c5
           have x6 := x.c6
           have b5 := bF.keep K5 (by simp)
           obtain ⟨⟨⟨p0, f0⟩, ⟨p1, f1⟩, p2, f2⟩, bE⟩ := fate_put b5 a' d' k'
           have KE := (kV.comp K5).fate (Nat.le_refl _) a' d' k'
           have y := headC (hc0.keep KE (by simp))
           have y5 := y.c5
           have y6 := y.c6))
    all_goals
      go_wp2_with fail
      go_meet
      exact ⟨bE, KE⟩
  case rest =>
  obtain ⟨bE, kE⟩ := hcut
  have hcw := headC (hc0.keep kE (by simp))
  have c6 := hcw.c6
  have c7 := hcw.c7
  have z6 := hcw.b.frozen 6
  have kt := HC.out.ticked kE
  have k2 : Keep (· = num .chip) w (wc.setCell ⟨num .chip, 6, none⟩ (.int .i64 (C.ops + 1 : Nat))) := ((kE.more (fun _ h => by cases h) : Keep (· = num .chip) w wc)).setCell (p := ⟨num .chip, 6, none⟩) (.inl rfl) _
  have hm := HM.out _ kt k2
  have e7 : ((C.ops + 1 : Nat) : Int) = (C.ops : Int) + 1 := by omega
  rw [e7] at hm kt k2
  have HMM := Lib.hid hm
  have KT := Lib.hid kt
  have K2 := Lib.hid k2
  have hen := hfm
  unfold Enters at hen
  clear hm kt k2 e7 HM
  go_wp2_with fail
  refine HMM.out.mono ?_
  rintro e w2 ⟨rfl, k3⟩
  have KT2 := Lib.hid (KT.out.keepF k3)
  have K3 := Lib.hid (K2.out.trans k3 (fun _ h => by cases h))
  have hdo := HDO.out _ KT2.out K3.out
  have HDD := Lib.hid hdo
  have hed := hfd
  unfold Enters at hed
  have hlc := HC.out.lt .chip trivial
  have bE2 := (bE.far (p := ⟨num .chip, 6, none⟩) (by show w.heap.size ≠ num .chip; omega) (.int .i64 ((C.ops : Int) + 1))).keep k3 (by simp)
  obtain ⟨e0, e1, e2⟩ := fate_cells bE2
  clear c6 c7 z6 hen hdo HDO
  go_wp2_with fail
  refine HDD.out.mono ?_
  rintro e w3 ⟨x2, num2, C2, rfl, h67, hD, hM, hn, hK, hO⟩
  have hK3 : Keep (Own num C) w w3 := (K3.out.more (fun i hi => .inl ⟨.chip, trivial, hi.symm⟩)).trans hK (fun i hi => .inl hi)
  have hz3 := K3.out.size
  have bE3 := bE2.keep hK (fun ⟨r, hr, e⟩ => by have := HC.out.lt r hr; omega)
  obtain ⟨g0, g1, g2⟩ := fate_cells bE3
  have HD := Lib.hid hD
  have HMM2 := Lib.hid hM
  have HN := Lib.hid hn
  have HO : Hid (∀ r : CR, r.used C2 → Own num C (num2 r) ∨ w.heap.size ≤ num2 r) := Lib.hid fun r hr => (hO r hr).imp id (by omega)
  have HK := Lib.hid hK3
  clear e0 e1 e2 hed hD hM hn hO hK hK3 bE3 bE2 HDD
  have hx1 : (x2 == 1) = false := by simp; omega
  have hx3 : (x2 == 3) = false := by simp; omega
  have hx9 : (x2 == 9) = false := by simp; omega
  have hx5 : (x2 == 5) = false := by simp; omega
  by_cases hd2 : d' = 2 ∧ x2 = 0
  · obtain ⟨rfl, rfl⟩ := hd2
    obtain ⟨cl2, hc2, _⟩ := HMM2.out.head
    have c8 := hc2.c8
    have z8 := hc2.b.frozen 8
    rw [HN.out] at c8 z8
    have HF := HMM2.out.hd C2.ops C2.rf true HMM2.out.rf (Nat.le_refl _) ((Keep.refl (· = num2 .chip) w3).setCell (p := ⟨num2 .chip, 8, none⟩) (.inl rfl) _) fun cl hb => hb.put 8 _
    have HFF := Lib.hid HF
    have HKK := Lib.hid (HK.out.setCell (p := ⟨num .chip, 8, none⟩) (.inl ⟨.chip, trivial, rfl⟩) (.bool true))
    clear HF hc2 h67 hx1 hx3 hx9 hx5
    go_wp2_with fail
    go_step3
    go_wp2_with fail
    try rw [Exit.noGoto_ret]
    go_ret
    exact ⟨0, num2, C2, HD.out, rfl, by rw [HN.out] at HFF; exact HFF.out, HN.out, HKK.out, HO.out⟩
  · have hr := opE_no hd2
    have hr2 := opC_no (C := C2) hd2
    have HR := Lib.hid hr
    have HR2 := Lib.hid hr2
    clear hr hr2
    by_cases hdd : d' = 2
    · have hx0 : (x2 == 0) = false := by simp; omega
      subst hdd
      clear hd2 h67
      go_wp2_with fail
      go_step3
      go_wp2_with fail
      try rw [Exit.noGoto_ret]
      go_ret
      exact ⟨x2, num2, C2, HD.out, by rw [HR.out]; rfl, by rw [HR2.out]; exact HMM2.out, HN.out, HK.out, HO.out⟩
    · have hd0 : (d' == 2) = false := by simpa using hdd
      clear hd2 h67 hdd
      go_wp2_with fail
      go_step3
      go_wp2_with fail
      try rw [Exit.noGoto_ret]
      go_ret
      exact ⟨x2, num2, C2, HD.out, by rw [HR.out]; rfl, by rw [HR2.out]; exact HMM2.out, HN.out, HK.out, HO.out⟩
end Go.Proofs.YtdjgjffgheocfaaGreat

namespace Go.Proofs.YtdjgjffgheocfaaGreat
open Go.RowKit

theorem enters_there : Enters 76 := enters_of Tryz.func76 (by kernel_rfl) rfl
theorem enters_sense : Enters 115 := enters_of Tryz.func115 (by kernel_rfl) rfl
theorem sense1_any (a d k : Int) (w : World) :
    Calls Tryz.prog 115 #[fateV a d k] w fun e w' => e = .returned (.int .i64 0) ∧ Keep (fun _ => False) w w' := by
  go_enter Tryz.func115, Tryz.ntmps115
  go_wp2_with fail
  go_ret
  exact ⟨rfl, (Keep.refl _ w).alloc _⟩
theorem OwnC {num : CR → Nat} {C : ChipS} : Own num C (num .chip) := ⟨.chip, trivial, rfl⟩
/-- Nothing but an operation is counted. -/
def SenseD (num : CR → Nat) (C : ChipS) : Int → (CR → Nat) → ChipS → Prop := fun e2 num2 C2 => e2 = 0 ∧ num2 = num ∧ C2 = C.tick
theorem sense_op (num : CR → Nat) (C : ChipS) (w : World) (h : ChipM num w C) (hd : C.dark = false) (hops : C.ops < 1099511627776) (a d k : Int) (hF : (C.F (C.ops : Int)).getD (fateV 0 0 0) = fateV a d k) (g : Nat) (hg : w.cell? ⟨g, 0, none⟩ = some (.bool true)) (hgl : g < w.heap.size) (hgc : g ≠ num .chip) :
    Calls Tryz.prog 53 #[.pointer (some ⟨num .chip, 0, none⟩), .func (.func 76) #[] #[.pointer (some ⟨g, 0, none⟩)], .func (.func 115) #[] #[]] w fun e w' =>
      e = .returned (.int .i64 (opE d 0)) ∧ ChipM num w' (opC d 0 C.tick) ∧ Keep (Own num C) w w' := by
  refine (operate_yes num C w h hd hops _ enters_there _ _ enters_sense _ (SenseD num C) a d k hF (fun w1 _ k1 => ?_) (fun w1 hm k1 => ?_)).mono ?_
  · exact (there1_any g true w1 ((k1.cell (p := ⟨g, 0, none⟩) hgl hgc).trans hg)).mono fun e w2 ⟨he, hw⟩ => ⟨he, hw ▸ Keep.refl _ _⟩
  · refine (show Calls Tryz.prog 115 #[fateV a d k] w1 _ from (sense1_any a d k w1).mono ?_)
    rintro e w2 ⟨rfl, k2⟩
    exact ⟨0, num, C.tick, rfl, .inl rfl, ⟨rfl, rfl, rfl⟩, hm.keepF k2, rfl, k2.more (fun _ h => by cases h), fun r hr => .inl ⟨r, hr, rfl⟩⟩
  · rintro e w' ⟨e2, num2, C2, ⟨rfl, rfl, rfl⟩, he, hm, _, hk, _⟩
    exact ⟨he, hm, hk⟩
def nilC (z : Int) : Ending := .returned (.tuple #[.slice none 0 0, .int .i64 z])
set_option maxRecDepth 100000 in
theorem sense_dark (num : CR → Nat) (C : ChipS) (w : World) (h : ChipM num w C) (hd : C.dark = true) (i j : Int) :
    Calls Tryz.prog 103 #[.pointer (some ⟨num .chip, 0, none⟩), .int .i64 i, .int .i64 j] w fun e w' => e = nilC 8 ∧ Keep (fun _ => False) w w' := by
  have HP : Hid (Calls Tryz.prog 114 #[.pointer (some ⟨num .chip, 0, none⟩), .int .i64 i, .int .i64 j] w fun e w' => ∃ v, e = .returned (.pointer v) ∧ w = w') := by
    refine Lib.hid ?_
    by_cases hij : 0 ≤ i ∧ i < C.B ∧ 0 ≤ j ∧ j < C.P
    · obtain ⟨x, rfl⟩ := Int.eq_ofNat_of_zero_le hij.1
      obtain ⟨y, rfl⟩ := Int.eq_ofNat_of_zero_le hij.2.2.1
      exact (page_yes num C w h x y (by omega) (by omega)).mono fun e w' he => ⟨_, he.1, he.2⟩
    · exact (page_no num C w h i j hij).mono fun e w' he => ⟨_, he.1, he.2⟩
  have HC := Lib.hid h
  have HD := Lib.hid hd
  unfold nilC
  clear h hd
  go_enter Tryz.func103, Tryz.ntmps103
  go_wp2_with fail
  refine HP.out.mono ?_
  rintro e w1 ⟨v, rfl, rfl⟩
  obtain ⟨ok, hok⟩ : ∃ ok, ok = v.isSome := ⟨_, rfl⟩
  cases v
  all_goals
    go_wp2_with fail
    refine (there_any _ _).mono ?_
    rintro e w1 ⟨rfl, rfl⟩
    have k1 := (Keep.refl (fun _ => False) w).alloc (.cells #[.bool true] 4)
    have k2 := (Keep.refl (fun _ => False) w).alloc (.cells #[.bool false] 4)
    go_wp2_with fail
    first
      | refine (operate_dark num C _ (HC.out.keepF k1) HD.out _ _).mono ?_
      | refine (operate_dark num C _ (HC.out.keepF k2) HD.out _ _).mono ?_
    rintro e w3 ⟨rfl, k3⟩
    go_wp2_with fail
    go_ret2
    first | exact ⟨rfl, k1.comp k3⟩ | exact ⟨rfl, k2.comp k3⟩
set_option maxRecDepth 100000 in
theorem sense_ok (num : CR → Nat) (C : ChipS) (w : World) (h : ChipM num w C) (hd : C.dark = false) (hops : C.ops < 1099511627776) (a d k : Int) (hF : (C.F (C.ops : Int)).getD (fateV 0 0 0) = fateV a d k) (hd2 : d ≠ 2) (i j : Nat) (hi : i < C.B) (hj : j < C.P) :
    Calls Tryz.prog 103 #[.pointer (some ⟨num .chip, 0, none⟩), .int .i64 i, .int .i64 j] w fun e w' =>
      (∃ a' c', e = .returned (.tuple #[.slice a' C.n c', .int .i64 0]) ∧ OwnV w' 27 w.heap.size a' C.n c' (ptsV (C.pg i j).x (C.pg i j).y)) ∧ ChipM num w' C.tick ∧ Keep (Own num C) w w' := by
  have HP := Lib.hid (page_yes num C w h i j hi hj)
  have k0 := (Keep.refl (fun _ => False) w).alloc (.cells #[.bool true] 4)
  have hgl := (Blk.new w 4 #[.bool true])
  have hop := sense_op num C _ (h.keepF k0) hd hops a d k hF w.heap.size (by rw [hgl.cell]; rfl) hgl.lt (by have := h.lt .chip trivial; omega)
  have e1 : opE d 0 = 0 := opE_no (fun e => hd2 e.1)
  have e2 : opC d 0 C.tick = C.tick := opC_no (fun e => hd2 e.1)
  rw [e1, e2] at hop
  have HOP := Lib.hid hop
  have HN := Lib.hid (ChipS.n_pos h.geo)
  have K0 := Lib.hid k0
  have HIJ := Lib.hid (And.intro hi hj)
  have HSE := Lib.hid (fun w' (hm : ChipM num w' C.tick) => cells_sense _ _ _ _ _ w' (hm.page i j hi hj) (by have := (ChipS.n_pos h.geo).2; show C.n ≤ _; omega))
  clear h hd hF hd2 k0 hgl hop e1 e2 hi hj
  go_enter Tryz.func103, Tryz.ntmps103
  go_wp2_with fail
  refine HP.out.mono ?_
  rintro e w1 ⟨rfl, rfl⟩
  go_wp2_with fail
  refine (there_any _ _).mono ?_
  rintro e w1 ⟨rfl, rfl⟩
  go_wp2_with fail
  refine HOP.out.mono ?_
  rintro e w2 ⟨rfl, hm, k2⟩
  have HM := Lib.hid hm
  have K2 := Lib.hid k2
  clear hm k2
  go_wp2_with fail
  refine (HSE.out _ HM.out).mono ?_
  rintro e w3 ⟨⟨a', c', rfl, ho⟩, k3⟩
  go_wp2_with fail
  go_ret2
  have kw : Keep (Own num C) w w2 := (K0.out.more (fun _ h => by cases h)).trans K2.out (fun i hi => .inl hi)
  exact ⟨⟨a', c', rfl, ho.more kw.size⟩, HM.out.keepF k3, kw.trans k3 (fun _ h => by cases h)⟩
set_option maxRecDepth 100000 in
theorem sense_cut (num : CR → Nat) (C : ChipS) (w : World) (h : ChipM num w C) (hd : C.dark = false) (hops : C.ops < 1099511627776) (a k : Int) (hF : (C.F (C.ops : Int)).getD (fateV 0 0 0) = fateV a 2 k) (i j : Nat) (hi : i < C.B) (hj : j < C.P) :
    Calls Tryz.prog 103 #[.pointer (some ⟨num .chip, 0, none⟩), .int .i64 i, .int .i64 j] w fun e w' =>
      e = nilC 8 ∧ ChipM num w' { C.tick with dark := true } ∧ Keep (Own num C) w w' := by
  have HP := Lib.hid (page_yes num C w h i j hi hj)
  have k0 := (Keep.refl (fun _ => False) w).alloc (.cells #[.bool true] 4)
  have hgl := (Blk.new w 4 #[.bool true])
  have hop := sense_op num C _ (h.keepF k0) hd hops a 2 k hF w.heap.size (by rw [hgl.cell]; rfl) hgl.lt (by have := h.lt .chip trivial; omega)
  have HOP := Lib.hid (show Calls Tryz.prog 53 _ _ (fun e w' => e = .returned (.int .i64 8) ∧ ChipM num w' { C.tick with dark := true } ∧ Keep (Own num C) _ w') from hop)
  have K0 := Lib.hid k0
  clear h hd hF k0 hgl hop hi hj
  unfold nilC
  go_enter Tryz.func103, Tryz.ntmps103
  go_wp2_with fail
  refine HP.out.mono ?_
  rintro e w1 ⟨rfl, rfl⟩
  go_wp2_with fail
  refine (there_any _ _).mono ?_
  rintro e w1 ⟨rfl, rfl⟩
  go_wp2_with fail
  refine HOP.out.mono ?_
  rintro e w2 ⟨rfl, hm, k2⟩
  have HM := Lib.hid hm
  have K2 := Lib.hid k2
  clear hm k2
  go_wp2_with fail
  go_ret2
  exact ⟨rfl, HM.out, (K0.out.more (fun _ h => by cases h)).trans K2.out (fun i hi => .inl hi)⟩
set_option maxRecDepth 100000 in
theorem sense_no (num : CR → Nat) (C : ChipS) (w : World) (h : ChipM num w C) (hd : C.dark = false) (hops : C.ops < 1099511627776) (i j : Int) (hij : ¬ (0 ≤ i ∧ i < C.B ∧ 0 ≤ j ∧ j < C.P)) :
    Calls Tryz.prog 103 #[.pointer (some ⟨num .chip, 0, none⟩), .int .i64 i, .int .i64 j] w fun e w' =>
      e = nilC 1 ∧ ChipM num w' { C.tick with rf := C.rf + 1 } ∧ Keep (Own num C) w w' := by
  have HP := Lib.hid (page_no num C w h i j hij)
  have k0 := (Keep.refl (fun _ => False) w).alloc (.cells #[.bool false] 4)
  have hgl := (Blk.new w 4 #[.bool false])
  have hlc := h.lt .chip trivial
  have hop := fun v2 => operate_no num C _ (h.keepF k0) hd hops _ enters_there #[.pointer (some ⟨w.heap.size, 0, none⟩)] v2 1 (by decide) (fun w1 _ k1 =>
    (there1_any w.heap.size false w1 ((k1.cell (p := ⟨w.heap.size, 0, none⟩) hgl.lt (by show ¬ w.heap.size = _; omega)).trans (by rw [hgl.cell]; rfl))).mono fun e w2 ⟨he, hw⟩ => ⟨he, hw ▸ Keep.refl _ _⟩)
  have HOP := Lib.hid hop
  have K0 := Lib.hid k0
  clear h hd k0 hgl hop hij
  unfold nilC
  go_enter Tryz.func103, Tryz.ntmps103
  go_wp2_with fail
  refine HP.out.mono ?_
  rintro e w1 ⟨rfl, rfl⟩
  go_wp2_with fail
  refine (there_any _ _).mono ?_
  rintro e w1 ⟨rfl, rfl⟩
  go_wp2_with fail
  refine (HOP.out _).mono ?_
  rintro e w2 ⟨rfl, hm, k2⟩
  have HM := Lib.hid hm
  have K2 := Lib.hid k2
  clear hm k2
  go_wp2_with fail
  go_ret2
  exact ⟨rfl, HM.out, (K0.out.more (fun _ h => by cases h)).trans (K2.out.more (fun i hi => .inl ⟨.chip, trivial, hi.symm⟩)) (fun i hi => .inl hi)⟩

theorem power_any (num : CR → Nat) (C : ChipS) (w : World) (h : ChipM num w C) :
    Calls Tryz.prog 36 #[.pointer (some ⟨num .chip, 0, none⟩)] w fun e w' => e = .returned (.tuple #[]) ∧ ChipM num w' { C with dark := false } ∧ Keep (· = num .chip) w w' := by
  obtain ⟨cl, hc, _⟩ := h.head
  have c8 := hc.c8
  have z8 := hc.b.frozen 8
  have HM := Lib.hid (h.hd C.ops C.rf false h.rf (Nat.le_refl _) ((Keep.refl (· = num .chip) w).setCell (p := ⟨num .chip, 8, none⟩) (.inl rfl) (.bool false)) fun cl hb => hb.put 8 _)
  clear h hc
  go_enter Tryz.func36, Tryz.ntmps36
  go_wp2_with fail
  go_end0
  exact ⟨rfl, HM.out, (Keep.refl (· = num .chip) w).setCell (p := ⟨num .chip, 8, none⟩) (.inl rfl) _⟩
theorem ops_any (num : CR → Nat) (C : ChipS) (w : World) (h : ChipM num w C) :
    Calls Tryz.prog 19 #[.pointer (some ⟨num .chip, 0, none⟩)] w fun e w' => e = .returned (.int .i64 (C.ops : Nat)) ∧ w = w' := by
  obtain ⟨cl, hc, _⟩ := h.head
  have c6 := hc.c6
  clear h hc
  go_enter Tryz.func19, Tryz.ntmps19
  go_wp2_with fail
  go_ret
  exact ⟨rfl, rfl⟩
theorem cgeo_any (num : CR → Nat) (C : ChipS) (w : World) (h : ChipM num w C) :
    Calls Tryz.prog 21 #[.pointer (some ⟨num .chip, 0, none⟩)] w fun e w' => e = .returned (geoV C.B C.P C.W C.K) ∧ Keep (fun _ => False) w w' := by
  obtain ⟨cl, hc, _⟩ := h.head
  obtain ⟨V, hV⟩ : ∃ V, V = w.alloc (.cells #[.int .i64 0, .int .i64 0, .int .i64 0, .int .i64 0] 42) := ⟨_, rfl⟩
  have kV : Keep (fun _ => False) w V := by rw [hV]; exact (Keep.refl _ w).alloc _
  have hcV := headC (hc.b.keep kV (by simp))
  obtain ⟨c0, c1, c2, c3⟩ := And.intro hcV.c0 (And.intro hcV.c1 (And.intro hcV.c2 hcV.c3))
  have bz : Blk V w.heap.size 42 #[.int .i64 0, .int .i64 0, .int .i64 0, .int .i64 0] := by rw [hV]; exact Blk.new _ _ _
  clear h hc hcV
  go_enter Tryz.func21, Tryz.ntmps21
  go_upto_region 1 with (fail)
  rw [← hV]
  clear hV
  have Z1 : Blk (V.setCell ⟨w.heap.size, 0, none⟩ (.int .i64 (C.B : Nat))) w.heap.size 42 #[.int .i64 (C.B : Nat), .int .i64 0, .int .i64 0, .int .i64 0] := bz.put 0 _
  have Z2 : Blk ((V.setCell ⟨w.heap.size, 0, none⟩ (.int .i64 (C.B : Nat))).setCell ⟨w.heap.size, 1, none⟩ (.int .i64 (C.P : Nat))) w.heap.size 42 #[.int .i64 (C.B : Nat), .int .i64 (C.P : Nat), .int .i64 0, .int .i64 0] := Z1.put 1 _
  have Z3 : Blk (((V.setCell ⟨w.heap.size, 0, none⟩ (.int .i64 (C.B : Nat))).setCell ⟨w.heap.size, 1, none⟩ (.int .i64 (C.P : Nat))).setCell ⟨w.heap.size, 2, none⟩ (.int .i64 (C.W : Nat))) w.heap.size 42 #[.int .i64 (C.B : Nat), .int .i64 (C.P : Nat), .int .i64 (C.W : Nat), .int .i64 0] := Z2.put 2 _
  obtain ⟨y0, _, _, _⟩ := geo_cells bz
  obtain ⟨_, y1, _, _⟩ := geo_cells Z1
  obtain ⟨_, _, y2, _⟩ := geo_cells Z2
  obtain ⟨_, _, _, y3⟩ := geo_cells Z3
  have f0 := bz.frozen 0
  have f1 := Z1.frozen 1
  have f2 := Z2.frozen 2
  have f3 := Z3.frozen 3
  have HZ := Lib.hid (Z3.put 3 (.int .i64 (C.K : Nat)))
  have HK := Lib.hid kV
  clear Z1 Z2 Z3 bz
  go_wp2_with fail
  refine bodyPost_ret (results_cell_row rfl _ _ w.heap.size 42 _ (0, 0) _ rfl HZ.out Tryz.underlying42 rfl (by kernel_rfl)) rfl ?_
  exact ⟨rfl, (((HK.out.setCell (p := ⟨w.heap.size, 0, none⟩) (.inr (Nat.le_refl _)) _).setCell (p := ⟨w.heap.size, 1, none⟩) (.inr (Nat.le_refl _)) _).setCell (p := ⟨w.heap.size, 2, none⟩) (.inr (Nat.le_refl _)) _).setCell (p := ⟨w.heap.size, 3, none⟩) (.inr (Nat.le_refl _)) _⟩
end Go.Proofs.YtdjgjffgheocfaaGreat

namespace Go.Proofs.YtdjgjffgheocfaaGreat
open Go.RowKit

theorem ArgU.keepS {S : Nat → Prop} {w w' : World} {a : Addr} {n : Nat} {p : Nat → Nat} (h : ArgU w (some a) n p) (hk : Keep S w w') (hS : ¬ S a.block) : ArgU w' (some a) n p :=
  ⟨h.small, fun h0 => by
    obtain ⟨b, off, e, hb, hc⟩ := h.at_ h0
    cases Option.some.inj e
    exact ⟨b, off, rfl, Nat.lt_of_lt_of_le hb hk.size, fun i hi => (hk.cell (p := ⟨b, off + i, none⟩) hb hS).trans (hc i hi)⟩, h.lt⟩

/-- The page may be programmed. -/
structure FitsR (C : ChipS) (i j : Nat) (s : Nat → Nat) : Prop where
  hi : i < C.B
  hj : j < C.P
  hs : ∀ t, t < C.n → s t < 1024
  hm : C.bad i = false
  hb : C.bk i = false
  ho : ∀ t, j ≤ t → t < C.P → (C.pg i t).st = 0
  hp : j = 0 ∨ (C.pg i (j - 1)).st ≠ 0
/-- What Program caught. -/
structure ProgB (w : World) (g : Nat) (num : CR → Nat) (i j : Nat) (a : Addr) (n ca : Nat) : Prop where
  b0 : Blk w g 49 #[.pointer (some ⟨num .chip, 0, none⟩)]
  b1 : Blk w (g + 1) 3 #[.int .i64 i]
  b2 : Blk w (g + 2) 3 #[.int .i64 j]
  b3 : Blk w (g + 3) 80 #[.slice (some a) n ca]
theorem ProgB.keep {S : Nat → Prop} {w w' : World} {g : Nat} {num : CR → Nat} {i j : Nat} {a : Addr} {n ca : Nat} (h : ProgB w g num i j a n ca) (hk : Keep S w w') (hS : ∀ k, g ≤ k → k < g + 4 → ¬ S k) : ProgB w' g num i j a n ca :=
  ⟨h.b0.keep hk (hS _ (by omega) (by omega)), h.b1.keep hk (hS _ (by omega) (by omega)), h.b2.keep hk (hS _ (by omega) (by omega)), h.b3.keep hk (hS _ (by omega) (by omega))⟩
abbrev capP (g : Nat) : Array Value := #[.pointer (some ⟨g, 0, none⟩), .pointer (some ⟨g + 1, 0, none⟩), .pointer (some ⟨g + 2, 0, none⟩), .pointer (some ⟨g + 3, 0, none⟩)]
/-- How many cells are kept. -/
def keptI (d k : Int) (n : Nat) : Int := if d = 2 then k else n
def ProgD (C : ChipS) (i j : Nat) (s : Nat → Nat) (d k : Int) : Int → (CR → Nat) → ChipS → Prop := fun e2 _ C2 => e2 = 0 ∧ C2 = C.tick.setPg i j (PgS.prog s (keptI d k C.n) C.n)
theorem FitsR.tick {C : ChipS} {i j : Nat} {s : Nat → Nat} (h : FitsR C i j s) : FitsR C.tick i j s := ⟨h.hi, h.hj, h.hs, h.hm, h.hb, h.ho, h.hp⟩
end Go.Proofs.YtdjgjffgheocfaaGreat

namespace Go.Proofs.YtdjgjffgheocfaaGreat
open Go.RowKit

theorem ty_pc : RowTy 73 76 := rowTy_of Tryz.underlying73 (z := .pointer none) (b := 8) (by kernel_rfl) rfl (by omega)
theorem ty_pb : RowTy 68 72 := rowTy_of Tryz.underlying68 (z := .pointer none) (b := 8) (by kernel_rfl) rfl (by omega)
/-- append of one value, just laid, in a region that draws its order: where the row lies behind it. -/
theorem step_append_v1 {w : World} {ops : Array Oper} {o : Oper} {a : Act} {K : Act → World → Prop} {Q : Exit → Act → World → Prop} {E : Prop} {L T : TypeId} (ty : RowTy L T) (hgd : o.guard = none) (s x : Operand)
    (ho : o.op = .call { callee := .builtin .append, args := #[s, x], argTypes := #[L, L] })
    (N : Nat) (ao : Option Addr) (n co : Nat) (f : Nat → Value) (hs : a.eval s = .slice ao n co) (hown : OwnV w T N ao n co f) (g : Nat) (v : Value) (hx : a.eval x = .slice (some ⟨g, 0, none⟩) 1 1) (hp : Blk w g T #[v])
    (h1 : v.oneCell' = true) (hn : n ≤ 100000) (hN : N ≤ w.heap.size) (H : Nat) (hH : w.heap.size = H)
    (h : ∀ g' c' w', OwnV w' T N (some ⟨g', 0, none⟩) (n + 1) c' (fun i => if i < n then f i else v) → w.grownBy w' (Value.slice ao n co).ownBlock → ((Value.slice ao n co).ownBlock = some g' ∨ g' = H) → g' < w'.heap.size → K (a.put o.dst (.slice (some ⟨g', 0, none⟩) (n + 1) c')) w') :
    if Region.wanted o (yielded ops a.tmps) = true then Oper.wp Tryz.prog o a w K Q else E := by
  obtain ⟨i, z, b, hi, hz, hsz, hby, hzs, hb⟩ := ty.i
  refine step_append_lies w hgd s x L ho N T i z 1 b ty.u hi hz hsz hby hzs (by omega) (.slice ao n co) n (vList f n) hs hown ⟨g, 0, none⟩ 1 1 [v] hx rfl (World.news_of_block (cs := #[v]) hp) ?_ (by omega) (by unfold maxLen; omega) (Nat.le_trans (Nat.mul_le_mul (show n + 1 ≤ 100001 by omega) hb) (by omega)) hN H hH ?_
  · intro u hu
    simp only [List.mem_cons, List.not_mem_nil, or_false] at hu
    subst hu
    exact h1
  · intro g' c' w' h1 h2 h3 h4
    refine h g' c' w' ?_ h2 h3 h4
    unfold OwnV
    have e : vList (fun i => if i < n then f i else v) (n + 1) = vList f n ++ [v] := List.ext_getElem? fun i => by
      have hl := vList_len f n
      rw [vList_get]
      by_cases h1 : i < n
      · rw [List.getElem?_append_left (by omega), vList_get, if_pos h1, if_pos (by omega), if_pos h1]
      · rw [List.getElem?_append_right (by omega), hl]
        by_cases h2 : i = n
        · subst h2
          simp
        · rw [if_neg (by omega), List.getElem?_eq_none]
          simp
          omega
    rw [e]
    exact h1

/-- A block that is being laid: j pages. -/
structure BlkAt (w : World) (n lo : Nat) (pa : Option Addr) (cp j : Nat) (ce ps : Nat → Nat) : Prop where
  b : Blk w lo 75 #[.slice pa j cp, .bool false, .bool false, .int .i64 0]
  row : OwnV w 76 (lo + 1) pa j cp (fun t => .pointer (some ⟨ce t, 0, none⟩))
  pg : ∀ t, t < j → IsPage w (ce t) (ps t) 0 n PgS.blank ∧ lo < ce t ∧ lo < ps t
  mono : ∀ t t', t < t' → t' < j → ce t < ce t' ∧ ps t < ps t'
/-- A block that was laid, in what lies from lo to hi; is it marked. -/
structure BlkN (w : World) (P n lo hi b pt : Nat) (ce ps : Nat → Nat) (m : Bool) : Prop where
  bb : ∃ cp, Blk w b 75 #[.slice (some ⟨pt, 0, none⟩) P cp, .bool m, .bool false, .int .i64 0] ∧ RowV w 76 pt cp P (fun t => .pointer (some ⟨ce t, 0, none⟩))
  pg : ∀ t, t < P → IsPage w (ce t) (ps t) 0 n PgS.blank ∧ lo ≤ ce t ∧ lo ≤ ps t ∧ ce t < hi ∧ ps t < hi
  mono : ∀ t t', t < t' → t' < P → ce t < ce t' ∧ ps t < ps t'
  bl : lo ≤ b ∧ b < hi
  pl : lo ≤ pt ∧ pt < hi
theorem BlkAt.keep {w w' : World} {n lo : Nat} {pa : Option Addr} {cp j : Nat} {ce ps : Nat → Nat} (h : BlkAt w n lo pa cp j ce ps) (hk : Keep (fun _ => False) w w') : BlkAt w' n lo pa cp j ce ps :=
  ⟨h.b.keep hk (by simp), h.row.keep hk, fun t ht => by
    obtain ⟨h1, h2⟩ := h.pg t ht
    exact ⟨h1.keep hk (by simp) (by simp) (by simp), h2⟩, h.mono⟩
/-- Blocks that hold a chip, or its blocks' row. -/
def Outer (w : World) (k : Nat) : Prop := (∃ cs, Blk w k 72 cs) ∨ ∃ cs, Blk w k 71 cs
theorem Outer.ne {w : World} {k g : Nat} {T : TypeId} {cs : Array Value} (h : Outer w k) (hb : Blk w g T cs) (h1 : T ≠ 72) (h2 : T ≠ 71) : g ≠ k := by
  rcases h with ⟨c, h⟩ | ⟨c, h⟩
  · exact hb.ne h h1
  · exact hb.ne h h2
theorem IsPage.cblk {w : World} {c p q n : Nat} {S : PgS} (h : IsPage w c p q n S) : ∃ cs, Blk w c 105 cs := by
  obtain ⟨v, hb, _⟩ := h.c
  exact ⟨_, hb⟩
theorem RowV.blk {w : World} {T : TypeId} {g c n : Nat} {f : Nat → Value} (h : RowV w T g c n f) : ∃ cs, Blk w g T cs := by
  obtain ⟨cs, hb, _⟩ := h
  exact ⟨cs, hb⟩
theorem BlkN.keep {S : Nat → Prop} {w w' : World} {P n lo hi b pt : Nat} {ce ps : Nat → Nat} {m : Bool} (h : BlkN w P n lo hi b pt ce ps m) (hk : Keep S w w') (hS : ∀ k, S k → Outer w k) : BlkN w' P n lo hi b pt ce ps m := by
  have no : ∀ {g T cs}, Blk w g T cs → T ≠ 72 → T ≠ 71 → ¬ S g := fun hb h1 h2 hs => (hS _ hs).ne hb h1 h2 rfl
  obtain ⟨cp, h1, h2⟩ := h.bb
  obtain ⟨cs2, hb2⟩ := h2.blk
  refine ⟨⟨cp, h1.keep hk (no h1 (by decide) (by decide)), h2.keep hk (no hb2 (by decide) (by decide))⟩, fun t ht => ?_, h.mono, h.bl, h.pl⟩
  obtain ⟨g1, g2⟩ := h.pg t ht
  obtain ⟨cs3, hb3⟩ := g1.cblk
  exact ⟨g1.keep hk (no hb3 (by decide) (by decide)) (no g1.p (by decide) (by decide)) (fun e => by cases e), g2⟩
/-- A row's block has its elements' type. -/
theorem OwnV.block {w : World} {T : TypeId} {N : Nat} {a : Option Addr} {n c : Nat} {f : Nat → Value} (h : OwnV w T N a n c f) {k : Nat} (hk : (Value.slice a n c).ownBlock = some k) : N ≤ k ∧ ∃ cs, Blk w k T cs := by
  rcases h.2 with ⟨e, _⟩ | ⟨g, cap, cs, e, hN, hb, _⟩
  · rw [e] at hk
    simp [Value.ownBlock] at hk
  · rw [e] at hk
    simp [Value.ownBlock] at hk
    subst hk
    exact ⟨hN, cs, hb⟩
/-- A store into a block of another type. -/
theorem OwnV.farB {w : World} {T T' : TypeId} {N : Nat} {a : Option Addr} {n c : Nat} {f : Nat → Value} (h : OwnV w T N a n c f) {g : Nat} {cs : Array Value} (hb : Blk w g T' cs) (i : Nat) (u : Value) (hne : T ≠ T') : OwnV (w.setCell ⟨g, i, none⟩ u) T N a n c f := by
  refine ⟨h.1, ?_⟩
  rcases h.2 with e | ⟨k, cap, cs', e, hN, hb', hr⟩
  · exact .inl e
  · exact .inr ⟨k, cap, cs', e, hN, Blk.far (t := T) (cs := cs') hb' (Blk.ne (t := T) (cs := cs') hb' hb hne) u, hr⟩
/-- A page more. -/
theorem BlkAt.next {w w' : World} {n lo : Nat} {pa : Option Addr} {cp j : Nat} {ce ps : Nat → Nat} (h : BlkAt w n lo pa cp j ce ps) {g' c' c p : Nat} (hp : IsPage w' c p 0 n PgS.blank) (hc : w.heap.size ≤ c) (hpp : w.heap.size ≤ p)
    (hk : Keep (fun k => (Value.slice pa j cp).ownBlock = some k ∨ k = lo) w w')
    (hb : Blk w' lo 75 #[.slice (some ⟨g', 0, none⟩) (j + 1) c', .bool false, .bool false, .int .i64 0])
    (hr : OwnV w' 76 (lo + 1) (some ⟨g', 0, none⟩) (j + 1) c' (fun i => if i < j then .pointer (some ⟨ce i, 0, none⟩) else .pointer (some ⟨c, 0, none⟩))) :
    BlkAt w' n lo (some ⟨g', 0, none⟩) c' (j + 1) (fun t => if t < j then ce t else c) (fun t => if t < j then ps t else p) := by
  have hl := h.b.lt
  have hne : ∀ {g T cs}, Blk w g T cs → T ≠ 76 → T ≠ 75 → ¬ ((Value.slice pa j cp).ownBlock = some g ∨ g = lo) := fun hx h1 h2 hs => by
    rcases hs with hs | hs
    · obtain ⟨_, cs', hb'⟩ := h.row.block hs
      exact hx.ne hb' h1 rfl
    · exact hx.ne h.b h2 hs
  refine ⟨hb, hr.congr fun i hi => ?_, fun t ht => ?_, fun t t' h1 h2 => ?_⟩
  · by_cases e : i < j
    · rw [if_pos e, if_pos e]
    · rw [if_neg e, if_neg e]
  · by_cases e : t < j
    · obtain ⟨g1, g2, g3⟩ := h.pg t e
      obtain ⟨cs3, hb3⟩ := g1.cblk
      rw [if_pos e, if_pos e]
      exact ⟨g1.keep hk (hne hb3 (by decide) (by decide)) (hne g1.p (by decide) (by decide)) (fun e => by cases e), g2, g3⟩
    · rw [if_neg e, if_neg e]
      exact ⟨hp, by omega, by omega⟩
  · by_cases e : t' < j
    · rw [if_pos e, if_pos e, if_pos (by omega), if_pos (by omega)]
      exact h.mono t t' h1 e
    · rw [if_neg e, if_neg e, if_pos (by omega), if_pos (by omega)]
      obtain ⟨g1, _, _⟩ := h.pg t (by omega)
      have := g1.lt
      have := g1.p.lt
      omega
/-- A block is laid. -/
theorem BlkAt.done {w : World} {n lo : Nat} {pa : Option Addr} {cp P : Nat} {ce ps : Nat → Nat} (h : BlkAt w n lo pa cp P ce ps) (hP : 0 < P) : ∃ pt, BlkN w P n lo w.heap.size lo pt ce ps false := by
  obtain ⟨g, rfl, hg, _, hr⟩ := h.row.row hP
  refine ⟨g, ⟨cp, h.b, hr⟩, fun t ht => ?_, h.mono, ⟨Nat.le_refl _, h.b.lt⟩, ⟨by omega, hr.lt⟩⟩
  obtain ⟨g1, g2, g3⟩ := h.pg t ht
  exact ⟨g1, by omega, by omega, g1.lt, g1.p.lt⟩
/-- A chip that is being laid: i blocks. -/
structure NewAt (w : World) (cb : Nat) (B P W K n : Nat) (i : Nat) (a : Option Addr) (cl : Nat) (L bk pt : Nat → Nat) (ce ps : Nat → Nat → Nat) (mk : Nat → Bool) (fp : Value) : Prop where
  chip : Blk w cb 71 #[.int .i64 (B : Nat), .int .i64 (P : Nat), .int .i64 (W : Nat), .int .i64 (K : Nat), .slice a i cl, fp, .int .i64 0, .int .i64 0, .bool false]
  row : OwnV w 72 (cb + 1) a i cl (fun t => .pointer (some ⟨bk t, 0, none⟩))
  blk : ∀ t, t < i → BlkN w P n (L t) (L (t + 1)) (bk t) (pt t) (ce t) (ps t) (mk t)
  l0 : cb < L 0
  mono : ∀ t, t < i → L t ≤ L (t + 1)
  hi : L i ≤ w.heap.size
theorem NewAt.outer {w : World} {cb B P W K n i : Nat} {a : Option Addr} {cl : Nat} {L bk pt : Nat → Nat} {ce ps : Nat → Nat → Nat} {mk : Nat → Bool} {fp : Value} (h : NewAt w cb B P W K n i a cl L bk pt ce ps mk fp) {k : Nat} (hk : (Value.slice a i cl).ownBlock = some k ∨ k = cb) : Outer w k := by
  rcases hk with hk | rfl
  · exact .inl (h.row.block hk).2
  · exact .inr ⟨_, h.chip⟩
theorem NewAt.keep {w w' : World} {cb B P W K n i : Nat} {a : Option Addr} {cl : Nat} {L bk pt : Nat → Nat} {ce ps : Nat → Nat → Nat} {mk : Nat → Bool} {fp : Value} (h : NewAt w cb B P W K n i a cl L bk pt ce ps mk fp) (hk : Keep (fun _ => False) w w') : NewAt w' cb B P W K n i a cl L bk pt ce ps mk fp :=
  ⟨h.chip.keep hk (by simp), h.row.keep hk, fun t ht => (h.blk t ht).keep hk (fun _ e => by cases e), h.l0, h.mono, Nat.le_trans h.hi hk.size⟩
/-- A block more. -/
theorem NewAt.next {w w' : World} {cb B P W K n i : Nat} {a : Option Addr} {cl : Nat} {L bk pt : Nat → Nat} {ce ps : Nat → Nat → Nat} {mk : Nat → Bool} {fp : Value} (h : NewAt w cb B P W K n i a cl L bk pt ce ps mk fp) {g' c' lo p : Nat} {cN pN : Nat → Nat} {m : Bool}
    (hL : L i ≤ lo) (hN : BlkN w P n lo w.heap.size lo p cN pN m) (hm : mk i = m) (hk : Keep (fun k => (Value.slice a i cl).ownBlock = some k ∨ k = cb) w w')
    (hb : Blk w' cb 71 #[.int .i64 (B : Nat), .int .i64 (P : Nat), .int .i64 (W : Nat), .int .i64 (K : Nat), .slice (some ⟨g', 0, none⟩) (i + 1) c', fp, .int .i64 0, .int .i64 0, .bool false])
    (hr : OwnV w' 72 (cb + 1) (some ⟨g', 0, none⟩) (i + 1) c' (fun t => if t < i then .pointer (some ⟨bk t, 0, none⟩) else .pointer (some ⟨lo, 0, none⟩))) :
    NewAt w' cb B P W K n (i + 1) (some ⟨g', 0, none⟩) c' (fun t => if t = i + 1 then w.heap.size else if t = i then lo else L t) (fun t => if t < i then bk t else lo) (fun t => if t < i then pt t else p) (fun t => if t < i then ce t else cN) (fun t => if t < i then ps t else pN) mk fp := by
  have hmo : ∀ t, t ≤ i → L 0 ≤ L t := fun t => by
    induction t with
    | zero => intro _; exact Nat.le_refl _
    | succ t ih => intro ht; exact Nat.le_trans (ih (by omega)) (h.mono t (by omega))
  refine ⟨hb, hr.congr fun t ht => ?_, fun t ht => ?_, ?_, fun t ht => ?_, ?_⟩
  · by_cases e : t < i
    · rw [if_pos e, if_pos e]
    · rw [if_neg e, if_neg e]
  · by_cases e : t < i
    · have h1 := (h.blk t e).keep hk (fun k hx => h.outer hx)
      simp only [if_pos e, show ¬ t = i + 1 by omega, show ¬ t = i by omega, if_false, show ¬ t + 1 = i + 1 by omega]
      by_cases e1 : t + 1 = i
      · rw [if_pos e1]
        refine ⟨h1.bb, fun j hj => ?_, h1.mono, ⟨h1.bl.1, by have := h1.bl.2; rw [e1] at this; omega⟩, ⟨h1.pl.1, by have := h1.pl.2; rw [e1] at this; omega⟩⟩
        obtain ⟨x1, x2, x3, x4, x5⟩ := h1.pg j hj
        rw [e1] at x4 x5
        exact ⟨x1, x2, x3, by omega, by omega⟩
      · rw [if_neg e1]
        exact h1
    · obtain rfl : t = i := by omega
      have h1 := hN.keep hk (fun k hx => h.outer hx)
      simp only [Nat.lt_irrefl, if_false, show ¬ t = t + 1 by omega, if_true]
      rw [hm]
      exact h1
  · have := h.l0
    have := hmo i (Nat.le_refl _)
    show cb < if 0 = i + 1 then w.heap.size else if 0 = i then lo else L 0
    rw [if_neg (by omega)]
    split <;> omega
  · have h1 := h.mono t
    by_cases e : t < i
    · simp only [show ¬ t = i + 1 by omega, show ¬ t = i by omega, if_false, show ¬ t + 1 = i + 1 by omega]
      split
      · rename_i e1
        rw [e1] at h1
        have := h1 e
        omega
      · exact h1 e
    · obtain rfl : t = i := by omega
      simp only [show ¬ t = t + 1 by omega, if_false, if_true]
      exact Nat.le_trans hN.bl.1 (Nat.le_of_lt hN.bl.2)
  · simp only [if_true]
    exact hk.size
theorem NewAt.le {w : World} {cb B P W K n i : Nat} {a : Option Addr} {cl : Nat} {L bk pt : Nat → Nat} {ce ps : Nat → Nat → Nat} {mk : Nat → Bool} {fp : Value} (h : NewAt w cb B P W K n i a cl L bk pt ce ps mk fp) {t t' : Nat} (h1 : t ≤ t') (h2 : t' ≤ i) : L t ≤ L t' := by
  induction t' with
  | zero =>
    obtain rfl : t = 0 := by omega
    exact Nat.le_refl _
  | succ t' ih =>
    rcases Nat.lt_or_ge t (t' + 1) with e | e
    · exact Nat.le_trans (ih (by omega) (by omega)) (h.mono t' (by omega))
    · obtain rfl : t = t' + 1 := by omega
      exact Nat.le_refl _
/-- A block is marked. -/
theorem NewAt.mark {w : World} {cb B P W K n i : Nat} {a : Option Addr} {cl : Nat} {L bk pt : Nat → Nat} {ce ps : Nat → Nat → Nat} {mk : Nat → Bool} {fp : Value} (h : NewAt w cb B P W K n i a cl L bk pt ce ps mk fp) {t : Nat} (ht : t < i) :
    NewAt (w.setCell ⟨bk t, 1, none⟩ (.bool true)) cb B P W K n i a cl L bk pt ce ps (fun x => if x = t then true else mk x) fp := by
  have hk : Keep (· = bk t) w (w.setCell ⟨bk t, 1, none⟩ (.bool true)) := (Keep.refl (· = bk t) w).setCell (p := ⟨bk t, 1, none⟩) (.inl rfl) _
  have hB := h.blk t ht
  obtain ⟨cp0, hb0, hr0⟩ := hB.bb
  have no : ∀ {g T cs}, Blk w g T cs → T ≠ 75 → ¬ g = bk t := fun hx h1 e => hx.ne hb0 h1 e
  refine ⟨h.chip.keep hk (no h.chip (by decide)), h.row.farB hb0 1 _ (by decide), fun x hx => ?_, h.l0, h.mono, by simpa [World.setCell] using h.hi⟩
  have hX := h.blk x hx
  obtain ⟨cp, hb, hr⟩ := hX.bb
  obtain ⟨cs2, hb2⟩ := hr.blk
  have hpg : ∀ j, j < P → IsPage (w.setCell ⟨bk t, 1, none⟩ (.bool true)) (ce x j) (ps x j) 0 n PgS.blank ∧ L x ≤ ce x j ∧ L x ≤ ps x j ∧ ce x j < L (x + 1) ∧ ps x j < L (x + 1) := fun j hj => by
    obtain ⟨g1, g2⟩ := hX.pg j hj
    obtain ⟨cs3, hb3⟩ := g1.cblk
    exact ⟨g1.keep hk (no hb3 (by decide)) (no g1.p (by decide)) (fun e => by cases e), g2⟩
  by_cases e : x = t
  · subst e
    rw [if_pos rfl]
    exact ⟨⟨cp, hb.put 1 _, hr.keep hk (no hb2 (by decide))⟩, hpg, hX.mono, hX.bl, hX.pl⟩
  · rw [if_neg e]
    have hne : ¬ bk x = bk t := by
      have b1 := hX.bl
      have b2 := hB.bl
      rcases Nat.lt_or_gt_of_ne e with e | e
      · have := h.le (t := x + 1) (t' := t) (by omega) (by omega)
        omega
      · have := h.le (t := t + 1) (t' := x) (by omega) (by omega)
        omega
    exact ⟨⟨cp, hb.keep hk hne, hr.keep hk (no hb2 (by decide))⟩, hpg, hX.mono, hX.bl, hX.pl⟩
/-- Which blocks are marked. -/
def markF (bad : Nat → Int) : Nat → Nat → Bool
  | 0 => fun _ => false
  | j + 1 => fun t => if t = (bad j).toNat then true else markF bad j t
/-- A chip whose pages are all blank. -/
def ChipS.new (B P W K : Nat) (mk : Nat → Bool) (F : Int → Option Value) : ChipS := ⟨B, P, W, K, fun _ _ => PgS.blank, mk, fun _ => false, fun _ => 0, F, 0, 0, false⟩
def newNum (cb gl fb mb : Nat) (bk pt : Nat → Nat) (ce ps : Nat → Nat → Nat) : CR → Nat
  | .chip => cb
  | .ltab => gl
  | .fts => fb
  | .fmap => mb
  | .blk t => bk t
  | .ptab t => pt t
  | .cel t j => ce t j
  | .pts t j => ps t j
  | .sym _ _ => 0
def CR.ty : CR → TypeId
  | .chip => 71
  | .ltab => 72
  | .fts => 108
  | .fmap => 0
  | .blk _ => 75
  | .ptab _ => 76
  | .cel _ _ => 105
  | .pts _ _ => 27
  | .sym _ _ => 148
theorem NewAt.chipM {w : World} {cb B P W K n gl cl : Nat} {L bk pt : Nat → Nat} {ce ps : Nat → Nat → Nat} {mk : Nat → Bool} {fb mb : Nat} {F : Int → Option Value}
    (h : NewAt w cb B P W K n B (some ⟨gl, 0, none⟩) cl L bk pt ce ps mk (.pointer (some ⟨fb, 0, none⟩))) (hf : IsFates w fb mb F) (hn : n = W * (K + 16)) (hg : GeoOk B P W K) :
    ChipM (newNum cb gl fb mb bk pt ce ps) w (ChipS.new B P W K mk F) := by
  have hB0 : 0 < B := by have := hg.b0; omega
  obtain ⟨g, hge, _, _, hrow⟩ := h.row.row hB0
  have hg1 : g = gl := by
    injection hge with e
    injection e with e _ _
    exact e.symm
  subst hg1
  have hty : ∀ r : CR, r.used (ChipS.new B P W K mk F) → r ≠ .fmap → ∃ cs, Blk w (newNum cb g fb mb bk pt ce ps r) r.ty cs := fun r hr hne => by
    cases r with
    | chip => exact ⟨_, h.chip⟩
    | ltab => exact hrow.blk
    | fts => exact ⟨_, hf.b⟩
    | fmap => exact absurd rfl hne
    | blk t => obtain ⟨cp, hb, _⟩ := (h.blk t hr).bb; exact ⟨_, hb⟩
    | ptab t => obtain ⟨cp, _, hr'⟩ := (h.blk t hr).bb; exact hr'.blk
    | cel t j => exact ((h.blk t hr.1).pg j hr.2).1.cblk
    | pts t j => exact ⟨_, ((h.blk t hr.1).pg j hr.2).1.p⟩
    | sym t j => exact absurd hr.2.2 (by show (0 : Nat) ≠ 1; decide)
  obtain ⟨nm, es, ck, hmap, _⟩ := hf.m
  have hap : ∀ t t', t < t' → t' < B → ∀ x y, L t ≤ x → x < L (t + 1) → L t' ≤ y → x ≠ y := fun t t' h1 h2 x y _ h4 h5 e => by
    have := h.le (t := t + 1) (t' := t') (by omega) (by omega)
    omega
  refine ⟨hg, fun r r' hr hr' e => ?_, ⟨cl, h.chip, hrow⟩, fun t ht => (h.blk t ht).bb, fun t j ht hj => ?_, hf, Nat.le_refl _, fun _ => Nat.le_refl _⟩
  · by_cases e1 : r = .fmap
    · by_cases e2 : r' = .fmap
      · rw [e1, e2]
      · obtain ⟨cs, hb⟩ := hty r' hr' e2
        rw [e1] at e
        rw [← e] at hb
        exact absurd (hb.symm.trans hmap) (by simp)
    · by_cases e2 : r' = .fmap
      · obtain ⟨cs, hb⟩ := hty r hr e1
        rw [e2] at e
        rw [e] at hb
        exact absurd (hb.symm.trans hmap) (by simp)
      · obtain ⟨cs, hb⟩ := hty r hr e1
        obtain ⟨cs', hb'⟩ := hty r' hr' e2
        have hT : r.ty = r'.ty := by
          rcases Nat.decEq r.ty r'.ty with hne | heq
          · exact absurd e (hb.ne hb' hne)
          · exact heq
        have two : ∀ (f : Nat → Nat), (∀ t, t < B → L t ≤ f t ∧ f t < L (t + 1)) → ∀ t t', t < B → t' < B → f t = f t' → t = t' := fun f hf t t' h1 h2 e => by
          rcases Nat.lt_trichotomy t t' with h3 | h3 | h3
          · exact absurd e (hap t t' h3 h2 _ _ (hf t h1).1 (hf t h1).2 (hf t' h2).1)
          · exact h3
          · exact absurd e.symm (hap t' t h3 h1 _ _ (hf t' h2).1 (hf t' h2).2 (hf t h1).1)
        have two2 : ∀ (f : Nat → Nat → Nat), (∀ t, t < B → ∀ j, j < P → L t ≤ f t j ∧ f t j < L (t + 1)) → (∀ t, t < B → ∀ j j', j < j' → j' < P → f t j < f t j') → ∀ t t' j j', t < B → t' < B → j < P → j' < P → f t j = f t' j' → t = t' ∧ j = j' := fun f hf hm t t' j j' h1 h2 h3 h4 e => by
          rcases Nat.lt_trichotomy t t' with h5 | h5 | h5
          · exact absurd e (hap t t' h5 h2 _ _ (hf t h1 j h3).1 (hf t h1 j h3).2 (hf t' h2 j' h4).1)
          · subst h5
            refine ⟨rfl, ?_⟩
            rcases Nat.lt_trichotomy j j' with h6 | h6 | h6
            · have := hm t h1 j j' h6 h4
              omega
            · exact h6
            · have := hm t h1 j' j h6 h3
              omega
          · exact absurd e.symm (hap t' t h5 h1 _ _ (hf t' h2 j' h4).1 (hf t' h2 j' h4).2 (hf t h1 j h3).1)
        cases r with
        | chip => cases r' <;> first | rfl | exact absurd hT (by simp [CR.ty]) | exact absurd rfl e2
        | ltab => cases r' <;> first | rfl | exact absurd hT (by simp [CR.ty]) | exact absurd rfl e2
        | fts => cases r' <;> first | rfl | exact absurd hT (by simp [CR.ty]) | exact absurd rfl e2
        | fmap => exact absurd rfl e1
        | blk t =>
          cases r' with
          | blk t' =>
            rw [two bk (fun t ht => (h.blk t ht).bl) t t' hr hr' e]
          | fmap => exact absurd rfl e2
          | _ => exact absurd hT (by simp [CR.ty])
        | ptab t =>
          cases r' with
          | ptab t' =>
            rw [two pt (fun t ht => (h.blk t ht).pl) t t' hr hr' e]
          | fmap => exact absurd rfl e2
          | _ => exact absurd hT (by simp [CR.ty])
        | cel t j =>
          cases r' with
          | cel t' j' =>
            obtain ⟨e3, e4⟩ := two2 ce (fun t ht j hj => ⟨((h.blk t ht).pg j hj).2.1, ((h.blk t ht).pg j hj).2.2.2.1⟩) (fun t ht j j' h1 h2 => ((h.blk t ht).mono j j' h1 h2).1) t t' j j' hr.1 hr'.1 hr.2 hr'.2 e
            rw [e3, e4]
          | fmap => exact absurd rfl e2
          | _ => exact absurd hT (by simp [CR.ty])
        | pts t j =>
          cases r' with
          | pts t' j' =>
            obtain ⟨e3, e4⟩ := two2 ps (fun t ht j hj => ⟨((h.blk t ht).pg j hj).2.2.1, ((h.blk t ht).pg j hj).2.2.2.2⟩) (fun t ht j j' h1 h2 => ((h.blk t ht).mono j j' h1 h2).2) t t' j j' hr.1 hr'.1 hr.2 hr'.2 e
            rw [e3, e4]
          | fmap => exact absurd rfl e2
          | _ => exact absurd hT (by simp [CR.ty])
        | sym t j => exact absurd hr.2.2 (by show (0 : Nat) ≠ 1; decide)
  · have := ((h.blk t ht).pg j hj).1
    subst hn
    exact this
end Go.Proofs.YtdjgjffgheocfaaGreat

namespace Go.Proofs.YtdjgjffgheocfaaGreat
open Go.RowKit

/-- A chip was made. -/
def CnewR (w w' : World) (B P W K : Nat) (mk : Nat → Bool) (F : Int → Option Value) (e : Ending) : Prop :=
  ∃ num : CR → Nat, e = .returned (.tuple #[.pointer (some ⟨num .chip, 0, none⟩), .int .i64 0]) ∧ ChipM num w' (ChipS.new B P W K mk F) ∧ Keep (fun _ => False) w w' ∧ ∀ r : CR, r.used (ChipS.new B P W K mk F) → w.heap.size ≤ num r
/-- At the outer loop's head: i blocks are laid. -/
def NewRel (W0 : World) (cb B P W K n : Nat) (v : Value) (wr : World) : Prop :=
  ∃ i a cl L bk pt ce ps, i ≤ B ∧ v = .int .i64 (i : Nat) ∧ NewAt wr cb B P W K n i a cl L bk pt ce ps (fun _ => false) (.pointer none) ∧ Keep (fun k => k = cb) W0 wr
/-- At the inner loop's head: j pages of the block are laid. -/
def PagRel (V : World) (P n : Nat) (v : Value) (wr : World) : Prop :=
  ∃ j pa cp ce ps, j ≤ P ∧ v = .int .i64 (j : Nat) ∧ BlkAt wr n V.heap.size pa cp j ce ps ∧ Keep (fun _ => False) V wr
theorem BlkAt.close {V wr w4 w5 w6 w7 : World} {n : Nat} {pa : Option Addr} {cp j : Nat} {cE pS : Nat → Nat} {g7 c7 : Nat} (h : BlkAt wr n V.heap.size pa cp j cE pS) (hV : Keep (fun _ => False) V wr) (K4 : Keep (fun _ => False) wr w4)
    (ip5 : IsPage w5 (w4.heap.size + 1) w4.heap.size 0 n PgS.blank) (k5 : Keep (fun _ => False) w4 w5) (k6 : Keep (fun _ => False) w5 w6) (k7 : Keep (fun k => (Value.slice pa j cp).ownBlock = some k) w6 w7)
    (o7 : OwnV w7 76 (V.heap.size + 1) (some ⟨g7, 0, none⟩) (j + 1) c7 (fun i => if i < j then .pointer (some ⟨cE i, 0, none⟩) else .pointer (some ⟨w4.heap.size + 1, 0, none⟩))) :
    ∃ pa' cp' cE' pS', BlkAt (w7.setCell ⟨V.heap.size, 0, none⟩ (.slice (some ⟨g7, 0, none⟩) (j + 1) c7)) n V.heap.size pa' cp' (j + 1) cE' pS' ∧ Keep (fun _ => False) V (w7.setCell ⟨V.heap.size, 0, none⟩ (.slice (some ⟨g7, 0, none⟩) (j + 1) c7)) := by
  have K6 : Keep (fun _ => False) wr w6 := K4.comp (k5.comp k6)
  have own : ∀ k, (Value.slice pa j cp).ownBlock = some k → k < wr.heap.size ∧ V.heap.size + 1 ≤ k := fun k hk => by
    obtain ⟨h1, cs, h2⟩ := h.row.block hk
    exact ⟨h2.lt, h1⟩
  have z4 := K4.size
  have ip7 : IsPage w7 (w4.heap.size + 1) w4.heap.size 0 n PgS.blank := (ip5.keep k6 (by simp) (by simp) (by simp)).keep k7 (fun e => by have := (own _ e).1; omega) (fun e => by have := (own _ e).1; omega) (fun e => by cases e)
  have b7 := (h.b.keep K6 (by simp)).keep k7 (fun e => by have := (own _ e).2; omega)
  have hl := h.b.lt
  have ks : Keep (· = V.heap.size) w7 (w7.setCell ⟨V.heap.size, 0, none⟩ (.slice (some ⟨g7, 0, none⟩) (j + 1) c7)) := (Keep.refl (· = V.heap.size) w7).setCell (p := ⟨V.heap.size, 0, none⟩) (.inl rfl) _
  have kA : Keep (fun k => (Value.slice pa j cp).ownBlock = some k ∨ k = V.heap.size) wr (w7.setCell ⟨V.heap.size, 0, none⟩ (.slice (some ⟨g7, 0, none⟩) (j + 1) c7)) :=
    (((K6.more (fun _ e => by cases e) : Keep (fun k => (Value.slice pa j cp).ownBlock = some k ∨ k = V.heap.size) wr w6)).trans k7 (fun k e => .inl (.inl e))).trans ks (fun k e => .inl (.inr e))
  refine ⟨_, _, _, _, h.next (ip7.keep ks (by omega) (by omega) (fun e => by cases e)) (by omega) z4 kA (b7.put 0 _) (o7.farB b7 0 _ (by decide)), hV.trans kA (fun k e => .inr ?_)⟩
  rcases e with e | e
  · have := (own _ e).2
    omega
  · omega
/-- At the head of the loop over the bad ones: j are marked. -/
def BadRel (W0 : World) (cb B P W K n nb : Nat) (bad : Nat → Int) (a : Option Addr) (cl : Nat) (L bk pt : Nat → Nat) (ce ps : Nat → Nat → Nat) (v : Value) (wr : World) : Prop :=
  ∃ j : Nat, j ≤ nb ∧ v = .int .i64 (j : Nat) ∧ NewAt wr cb B P W K n B a cl L bk pt ce ps (markF bad j) (.pointer none) ∧ Keep (fun k => cb ≤ k) W0 wr
set_option maxRecDepth 100000 in
set_option maxHeartbeats 4000000 in
theorem chipnew_yes (B P W K : Nat) (ab : Option Addr) (nb cab : Nat) (bad : Nat → Int) (af : Option Addr) (nf cf : Nat) (A D S : Nat → Int) (w : World) (h : GeoOk B P W K) (hnb : nb ≤ 1000) (hb : ArgV w ab nb (fun i => .int .i64 (bad i))) (hbad : ∀ i, i < nb → 0 ≤ bad i ∧ bad i < B)
    (hf : ArgFates w af nf A D S) (hnf : nf ≤ 256) (hok : ∀ i, i < nf → FateOk (A i) (D i) (S i)) (hd : fatN A D S nf = nf) :
    Calls Tryz.prog 12 #[geoV B P W K, .slice ab nb cab, .slice af nf cf] w fun e w' => CnewR w w' B P W K (markF bad nb) (fatF A D S nf) e := by
  have hsm := (show 4 ≤ B ∧ B ≤ 64 ∧ 2 ≤ P ∧ P ≤ 32 from ⟨by have := h.b0; omega, by have := h.b1; omega, by have := h.p0; omega, by have := h.p1; omega⟩)
  obtain ⟨s0, s1, s2, s3⟩ := hsm
  have hn : ((W : Nat) : Int) * (((K : Nat) : Int) + 16) = ((W * (K + 16) : Nat) : Int) := by rw [Int.natCast_mul]; rfl
  have HC := Lib.hid (fun w => cells_any _ _ _ _ w h)
  rw [hn] at HC
  have hn2 : W * (K + 16) ≤ 320 := Nat.mul_le_mul (show W ≤ 4 by have := h.w1; omega) (show K + 16 ≤ 80 by have := h.k1; omega)
  obtain ⟨n, hne⟩ : ∃ n, n = W * (K + 16) := ⟨_, rfl⟩
  rw [← hne] at HC hn2
  have HNE := Lib.hid hne
  have HG := Lib.hid h
  have HY := Lib.hid (fun w => may_yes _ _ _ _ w h)
  have HB := Lib.hid hb
  have HBAD := Lib.hid hbad
  have HF := Lib.hid hf
  have HOK := Lib.hid hok
  have HD := Lib.hid hd
  clear hn hne hb hbad hf hok hd h
  go_enter Tryz.func12, Tryz.ntmps12
  go_wp2_with fail
  refine (HY.out _).mono ?_
  rintro e w1 ⟨rfl, k1⟩
  have bG := (Blk.new w 42 #[.int .i64 (B : Nat), .int .i64 (P : Nat), .int .i64 (W : Nat), .int .i64 (K : Nat)]).keep k1 (by simp)
  obtain ⟨W2, hW2⟩ : ∃ W2, W2 = w1.alloc (.cells #[.int .i64 (B : Nat), .int .i64 (P : Nat), .int .i64 (W : Nat), .int .i64 (K : Nat), .slice none 0 0, .pointer none, .int .i64 0, .int .i64 0, .bool false] 71) := ⟨_, rfl⟩
  have kW : Keep (fun _ => False) w1 W2 := by rw [hW2]; exact (Keep.refl _ w1).alloc _
  have K2 := ((Keep.refl (fun _ => False) w).alloc (.cells #[.int .i64 (B : Nat), .int .i64 (P : Nat), .int .i64 (W : Nat), .int .i64 (K : Nat)] 42)).comp (k1.comp kW)
  have bc : Blk W2 w1.heap.size 71 #[.int .i64 (B : Nat), .int .i64 (P : Nat), .int .i64 (W : Nat), .int .i64 (K : Nat), .slice none 0 0, .pointer none, .int .i64 0, .int .i64 0, .bool false] := by rw [hW2]; exact Blk.new _ _ _
  obtain ⟨x0, x1, x2, x3⟩ := geo_cells bG
  obtain ⟨g0, g1, g2, g3⟩ := geo_cells (bG.keep kW (by simp))
  have BG := Lib.hid (bG.keep kW (by simp))
  have hcb : w.heap.size < w1.heap.size := bG.lt
  have hcs : W2.heap.size = w1.heap.size + 1 := by rw [hW2]; simp
  generalize hcbe : w1.heap.size = cb at *
  have HREL := Lib.hid (show NewRel W2 cb B P W K n (.int .i64 0) W2 from ⟨0, none, 0, fun _ => W2.heap.size, fun _ => 0, fun _ => 0, fun _ _ => 0, fun _ _ => 0, Nat.zero_le _, rfl, ⟨bc, OwnV.nil _ _ _ _, fun t ht => by omega, by omega, fun t ht => by omega, Nat.le_refl _⟩, Keep.refl _ _⟩)
  have HCS := Lib.hid hcs
  have HCBE := Lib.hid hcbe
  clear bc bG k1 hcbe hcs
  go_upto_region 4 with (fail)
  rw [← hW2, HCBE.out]
  clear hW2 x0 x1 x2 x3 kW
  go_wp2_with fail
  clear g0 g1 g2 g3
  go_loopw [21] (fun v wr => NewRel W2 cb B P W K n v wr) (fun v _ => B - (intOf v).toNat)
  case atStart => exact HREL.out
  case round =>
    obtain ⟨i, a, cl, L, bk, pt, ce, ps, hi, rfl, hr, hk⟩ := hrel
    have HR := Lib.hid hr
    have HK := Lib.hid hk
    by_cases hib : i < B
    · have hib' : (i : Int) < (B : Int) := by omega
      obtain ⟨g0, g1, g2, g3⟩ := geo_cells (BG.out.keep hk (by show ¬ w.heap.size = cb; omega))
      have BG1 := Lib.hid (BG.out.keep hk (by show ¬ w.heap.size = cb; omega))
      clear hr hk
      obtain ⟨V, hV⟩ : ∃ V, V = wr := ⟨_, rfl⟩
      rw [← hV] at HR HK BG1 g0 g1 g2 g3 ⊢
      clear hV
      obtain ⟨V1, hV1⟩ : ∃ V1, V1 = V.alloc (.cells #[.slice none 0 0, .bool false, .bool false, .int .i64 0] 75) := ⟨_, rfl⟩
      have kV : Keep (fun _ => False) V V1 := by rw [hV1]; exact (Keep.refl _ V).alloc _
      have bB : Blk V1 V.heap.size 75 #[.slice none 0 0, .bool false, .bool false, .int .i64 0] := by rw [hV1]; exact Blk.new _ _ _
      have hV1s : V1.heap.size = V.heap.size + 1 := by rw [hV1]; simp
      obtain ⟨y0, y1, y2, y3⟩ := geo_cells (BG1.out.keep kV (by simp))
      have HPR := Lib.hid (show PagRel V P n (.int .i64 0) V1 from ⟨0, none, 0, fun _ => 0, fun _ => 0, Nat.zero_le _, rfl, ⟨bB, OwnV.nil _ _ _ _, fun t ht => by omega, fun t t' _ ht => by omega⟩, kV⟩)
      clear bB kV
      go_upto_region 7 with (fail)
      rw [← hV1]
      clear hV1 g0 g1 g2 g3
      go_wp2_with fail
      clear y0 y1 y2 y3
      obtain ⟨vb, hvb⟩ : ∃ vb, vb = V.heap.size := ⟨_, rfl⟩
      go_loopw [27] (fun v wr => PagRel V P n v wr) (fun v _ => P - (intOf v).toNat)
      case atStart => exact HPR.out
      case round =>
        obtain ⟨j, pa, cp, cE, pS, hj, rfl, hr, hk⟩ := hrel
        have HPA := Lib.hid hr
        have HPK := Lib.hid hk
        by_cases hjp : j < P
        · have hjp' : (j : Int) < (P : Int) := by omega
          have bB := hr.b
          have hsz := hk.size
          have bG := BG1.out.keep hk (by simp)
          have hlt := hr.b.lt
          have hltG := bG.lt
          clear hr hk
          go_upto_block 3 with (fail)
          go_cut [38] (fun v38 wc => ∃ pa' cp' cE' pS', BlkAt wc n V.heap.size pa' cp' (j + 1) cE' pS' ∧ Keep (fun _ => False) V wc)
          case first =>
            as_aux_lemma =>
              have kd := (Keep.refl (fun _ => False) wr).drew
              have bd := bB.keep kd (by simp)
              have p0 : wr.drew.cell? ⟨V.heap.size, 0, none⟩ = some (.slice pa j cp) := by rw [bd.cell]; rfl
              obtain ⟨y0, y1, y2, y3⟩ := geo_cells (bG.keep kd (by simp))
              have hj32 : j ≤ 32 := by omega
              go_upto_region 9 with (fail)
              go_region_law
                (first
                  | (refine step_append_v1 ty_pc rfl (.tmp 33) (.tmp 37) (by rfl) (V.heap.size + 1) pa j cp _ (by rfl) OA6 w5.heap.size (.pointer (some ⟨w4.heap.size + 1, 0, none⟩)) (by rfl) B6 rfl (by omega) hN6 _ rfl ?_; intro g7 c7 w7 o7 gr7 _ hl7; have k7 : Keep (fun k => (Value.slice pa j cp).ownBlock = some k) (w5.alloc (.cells #[.pointer (some ⟨w4.heap.size + 1, 0, none⟩)] 76)) w7 := (Keep.refl _ _).grown gr7 (fun k e => .inl e); have b7 := bB6.keep k7 (fun e => by have := (OA6.block e).1; omega); have q0 : w7.cell? ⟨V.heap.size, 0, none⟩ = some (.slice pa j cp) := (by rw [b7.cell]; rfl); have qf := b7.frozen 0)
                  | (go_simp; go_at_call 30; refine (HC.out _).mono ?_; rintro e w4 ⟨rfl, k4⟩; have K4 := kd.comp k4; have b4 := bB.keep K4 (by simp); have p4 : w4.cell? ⟨V.heap.size, 0, none⟩ = some (.slice pa j cp) := (by rw [b4.cell]; rfl))
                  | (go_simp; go_at_call 29; refine (cells_new n (by omega) _).mono ?_; rintro e w5 ⟨rfl, ip5, k5⟩; have K5 := K4.comp k5; have b5 := bB.keep K5 (by simp); have p5 : w5.cell? ⟨V.heap.size, 0, none⟩ = some (.slice pa j cp) := (by rw [b5.cell]; rfl); have k6 : Keep (fun _ => False) w5 (w5.alloc (.cells #[.pointer (some ⟨w4.heap.size + 1, 0, none⟩)] 76)) := (Keep.refl _ w5).alloc _; have K6 := K5.comp k6; have bB6 := bB.keep K6 (by simp); have p6 : ((w5.alloc (.cells #[.pointer (some ⟨w4.heap.size + 1, 0, none⟩)] 76))).cell? ⟨V.heap.size, 0, none⟩ = some (.slice pa j cp) := (by rw [bB6.cell]; rfl); have OA6 := HPA.out.row.keep K6; have B6 : Blk (w5.alloc (.cells #[.pointer (some ⟨w4.heap.size + 1, 0, none⟩)] 76)) w5.heap.size 76 #[.pointer (some ⟨w4.heap.size + 1, 0, none⟩)] := Blk.new _ _ _; have hN6 : V.heap.size + 1 ≤ ((w5.alloc (.cells #[.pointer (some ⟨w4.heap.size + 1, 0, none⟩)] 76))).heap.size := (by have := K6.size; omega)))
              all_goals (go_wp2_with fail)
              all_goals go_meet
              all_goals exact HPA.out.close HPK.out K4 ip5 k5 k6 k7 o7
          case rest =>
          obtain ⟨pa', cp', cE', pS', hr', hk'⟩ := hcut
          have HE := Lib.hid (show PagRel V P n (.int .i64 (j + 1 : Nat)) _ from ⟨j + 1, pa', cp', cE', pS', by omega, rfl, hr', hk'⟩)
          clear hr' hk' bB bG
          go_wp2_with fail
          rw [show (j : Int) + 1 = ((j + 1 : Nat) : Int) by omega]
          exact ⟨HE.out, by simp [intOf]; omega⟩
        · as_aux_lemma =>
            obtain rfl : j = P := by omega
            have hjp' : ¬ (j : Int) < (j : Int) := by omega
            obtain ⟨pT, hN⟩ := hr.done (by omega)
            have HN := Lib.hid hN
            have hnr := (HR.out.keep hk)
            have HNR := Lib.hid hnr
            have c4 : wr.cell? ⟨cb, 4, none⟩ = some (.slice a i cl) := by rw [hnr.chip.cell]; rfl
            have hcl := hnr.chip.lt
            have hlow := HR.out.hi
            have K3 := (Keep.refl (fun _ => False) wr).alloc (.cells #[.pointer (some ⟨V.heap.size, 0, none⟩)] 72)
            have HO := Lib.hid (hnr.row.keep K3)
            have c4' : (wr.alloc (.cells #[.pointer (some ⟨V.heap.size, 0, none⟩)] 72)).cell? ⟨cb, 4, none⟩ = some (.slice a i cl) := by rw [(hnr.chip.keep K3 (by simp)).cell]; rfl
            have hib2 : i ≤ 64 := by omega
            have hz := hk.size
            have KW := Lib.hid (HK.out.trans hk (fun _ e => by cases e))
            have hvs : cb < V.heap.size := HR.out.chip.lt
            clear hr hk hN hnr
            go_wp2_with (refine wpList_append_1 ty_pb rfl (.tmp 46) (.tmp 48) rfl (cb + 1) a i cl _ rfl HO.out wr.heap.size (.pointer (some ⟨V.heap.size, 0, none⟩)) rfl (Blk.new _ _ _) rfl (by omega) (by simp; omega) ?_)
            intro a' c' w3 o3 gr3
            obtain ⟨g3, rfl, _, _, _⟩ := o3.row (by omega)
            have ko : ∀ k, (Value.slice a i cl).ownBlock = some k → cb + 1 ≤ k ∧ k < wr.heap.size := fun k e => by
              obtain ⟨h1, cs, h2⟩ := HNR.out.row.block e
              exact ⟨h1, h2.lt⟩
            have k3 : Keep (fun k => (Value.slice a i cl).ownBlock = some k) _ w3 := (Keep.refl _ _).grown gr3 (fun k e => .inl e)
            have bc3 := (HNR.out.chip.keep K3 (by simp)).keep k3 (fun e => by have := (ko _ e).1; omega)
            have c43 : w3.cell? ⟨cb, 4, none⟩ = some (.slice a i cl) := by rw [bc3.cell]; rfl
            have z43 := bc3.frozen 4
            have kA : Keep (fun k => (Value.slice a i cl).ownBlock = some k ∨ k = cb) wr (w3.setCell ⟨cb, 4, none⟩ (.slice (some ⟨g3, 0, none⟩) (i + 1) c')) :=
              (((K3.more (fun _ e => by cases e) : Keep (fun k => (Value.slice a i cl).ownBlock = some k ∨ k = cb) wr _)).trans k3 (fun k e => .inl (.inl e))).setCell (p := ⟨cb, 4, none⟩) (.inl (.inr rfl)) _
            have hnx := HNR.out.next hlow HN.out rfl kA (bc3.put 4 _) (o3.farB bc3 4 (.slice (some ⟨g3, 0, none⟩) (i + 1) c') (by decide))
            have kB : Keep (fun k => k = cb) W2 (w3.setCell ⟨cb, 4, none⟩ (.slice (some ⟨g3, 0, none⟩) (i + 1) c')) := KW.out.trans kA (fun k e => e.elim (fun e => .inr (by have := (ko _ e).1; have := HCS.out; omega)) (fun e => .inl e))
            have HE := Lib.hid (show NewRel W2 cb B j W K n (.int .i64 (i + 1 : Nat)) (w3.setCell ⟨cb, 4, none⟩ (.slice (some ⟨g3, 0, none⟩) (i + 1) c')) from ⟨i + 1, _, _, _, _, _, _, _, by omega, rfl, hnx, kB⟩)
            clear hnx kB kA gr3 k3 bc3 o3 c4 c4'
            go_wp2_with fail
            rw [show (i : Int) + 1 = ((i + 1 : Nat) : Int) by omega]
            exact ⟨HE.out, by simp [intOf]; omega⟩
    · obtain rfl : i = B := by omega
      have hib' : ¬ (i : Int) < (i : Int) := by omega
      have HST := Lib.hid (show BadRel W2 cb i P W K n nb bad a cl L bk pt ce ps (.int .i64 0) wr from ⟨0, Nat.zero_le _, rfl, hr, hk.more (fun k e => .inl (by rw [e]; exact Nat.le_refl _))⟩)
      have bG := BG.out.keep hk (by show ¬ w.heap.size = cb; omega)
      have BG2 := Lib.hid bG
      have HAB := Lib.hid (HB.out.keep K2)
      have hW2s := K2.size
      obtain ⟨q0, q1, q2, q3⟩ := geo_cells bG
      clear hr hk bG
      go_wp2_with fail
      clear q0 q1 q2 q3
      go_loopw [55] (fun v wr => BadRel W2 cb i P W K n nb bad a cl L bk pt ce ps v wr) (fun v _ => nb - (intOf v).toNat)
      case atStart => exact HST.out
      case round =>
        obtain ⟨j, hj, rfl, hr, hk⟩ := hrel
        have HR := Lib.hid hr
        have HK := Lib.hid hk
        by_cases hjn : j < nb
        · as_aux_lemma =>
            have hjn' : (j : Int) < (nb : Int) := by omega
            obtain ⟨bb, off, rfl, hbl, hc⟩ := HB.out.at_ (by omega)
            have hbd := HBAD.out j hjn
            have c0 : wr.cell? ⟨bb, off + j, none⟩ = some (.int .i64 (bad j)) := (hk.cell (p := ⟨bb, off + j, none⟩) (by show bb < _; omega) (by show ¬ cb ≤ bb; omega)).trans ((K2.cell (p := ⟨bb, off + j, none⟩) hbl (by simp)).trans (hc j hjn))
            obtain ⟨x, hx⟩ := Int.eq_ofNat_of_zero_le hbd.1
            have hxi : x < i := by have := hbd.2; omega
            have bG := BG.out.keep hk (by show ¬ cb ≤ w.heap.size; omega)
            have y0 : wr.cell? ⟨w.heap.size, 0, none⟩ = some (.int .i64 (i : Nat)) := (geo_cells bG).1
            have c4 : wr.cell? ⟨cb, 4, none⟩ = some (.slice a i cl) := by rw [hr.chip.cell]; rfl
            obtain ⟨gl, hgl, _, _, hrow⟩ := hr.row.row (by omega)
            subst hgl
            have t0 := hrow.val hxi
            obtain ⟨cp0, hb0, _⟩ := (hr.blk x hxi).bb
            have m1 : wr.cell? ⟨bk x, 1, none⟩ = some (.bool (markF bad j x)) := by rw [hb0.cell]; rfl
            have zf := hb0.frozen 1
            have d1 : decide ((x : Int) < 0) = false := by simp
            have d2 : decide (i ≤ x) = false := by simpa using hxi
            have d3 : (x : Int) < (i : Int) := by omega
            have hlo := (hr.blk x hxi).bl.1
            have hl0 := hr.l0
            have hle := hr.le (t := 0) (t' := x) (Nat.zero_le _) (by omega)
            have hm := hr.mark hxi
            have hmf : (fun t => if t = x then true else markF bad j t) = markF bad (j + 1) := by
              funext t
              show _ = (if t = (bad j).toNat then true else markF bad j t)
              rw [hx]
              rfl
            rw [hmf] at hm
            have kM : Keep (fun k => cb ≤ k) W2 (wr.setCell ⟨bk x, 1, none⟩ (.bool true)) := hk.setCell (p := ⟨bk x, 1, none⟩) (.inl (by show cb ≤ bk x; omega)) _
            have HE := Lib.hid (show BadRel W2 cb i P W K n nb bad _ cl L bk pt ce ps (.int .i64 (j + 1 : Nat)) _ from ⟨j + 1, by omega, rfl, hm, kM⟩)
            rw [hx] at c0
            have hx0 : (x : Int) = ((x : Nat) : Int) := rfl
            clear hr hk hbd hc hrow hb0 hm hmf kM bG hx hx0 hlo hl0 hle
            go_wp2_with fail
            rw [show (j : Int) + 1 = ((j + 1 : Nat) : Int) by omega]
            exact ⟨HE.out, by simp [intOf]; omega⟩
        · obtain rfl : j = nb := by omega
          have hjn' : ¬ (j : Int) < (j : Int) := by omega
          have KW := Lib.hid (show Keep (fun _ => False) w wr from K2.trans hk (fun k e => .inr (by omega)))
          have HFF := Lib.hid (HF.out.keep KW.out)
          clear hr hk
          go_wp2_with fail
          refine (fates_new af nf cf A D S _ HFF.out hnf HOK.out HD.out).mono ?_
          rintro e w3 ⟨⟨fb, mb, rfl, hF, hmb, hfb, hne⟩, k3⟩
          have hr3 := HR.out.keep k3
          have HR3 := Lib.hid hr3
          have c5 : w3.cell? ⟨cb, 5, none⟩ = some (.pointer none) := by rw [hr3.chip.cell]; rfl
          have z5 := hr3.chip.frozen 5
          have hcl := HR.out.chip.lt
          have HFX := Lib.hid hF
          have HK3 := Lib.hid (KW.out.comp k3)
          clear hr3 hF k3
          go_wp2_with fail
          go_ret2
          have kS : Keep (· = cb) w3 (w3.setCell ⟨cb, 5, none⟩ (.pointer (some ⟨fb, 0, none⟩))) := (Keep.refl (· = cb) w3).setCell (p := ⟨cb, 5, none⟩) (.inl rfl) _
          obtain ⟨gl, rfl, _⟩ := HR3.out.row.row (by omega)
          have hN : NewAt (w3.setCell ⟨cb, 5, none⟩ (.pointer (some ⟨fb, 0, none⟩))) cb i P W K n i (some ⟨gl, 0, none⟩) cl L bk pt ce ps (markF bad j) (.pointer (some ⟨fb, 0, none⟩)) :=
            ⟨HR3.out.chip.put 5 _, HR3.out.row.farB HR3.out.chip 5 _ (by decide), fun t ht => (HR3.out.blk t ht).keep kS (fun k e => by subst e; exact .inr ⟨_, HR3.out.chip⟩), HR3.out.l0, HR3.out.mono, by simpa [World.setCell] using HR3.out.hi⟩
          have hC := hN.chipM (HFX.out.keep kS (by omega) (by omega)) HNE.out HG.out
          refine ⟨_, rfl, hC, HK3.out.setCell (p := ⟨cb, 5, none⟩) (.inr (by show w.heap.size ≤ cb; omega)) _, fun r hr => ?_⟩
          have hl0 := hN.l0
          have hle : ∀ t, t ≤ i → L 0 ≤ L t := fun t ht => hN.le (Nat.zero_le _) ht
          have hz := HR.out.keep (Keep.refl _ wr)
          cases r with
          | chip => show w.heap.size ≤ cb; omega
          | ltab =>
            obtain ⟨g, hge, hgl, _⟩ := hN.row.row (by omega)
            injection hge with e
            injection e with e _ _
            subst e
            show w.heap.size ≤ gl
            omega
          | fts => show w.heap.size ≤ fb; have := KW.out.size; omega
          | fmap => show w.heap.size ≤ mb; have := KW.out.size; omega
          | blk t => show w.heap.size ≤ bk t; have := (hN.blk t hr).bl.1; have := hle t (Nat.le_of_lt hr); omega
          | ptab t => show w.heap.size ≤ pt t; have := (hN.blk t hr).pl.1; have := hle t (Nat.le_of_lt hr); omega
          | cel t j => show w.heap.size ≤ ce t j; have := ((hN.blk t hr.1).pg j hr.2).2.1; have := hle t (Nat.le_of_lt hr.1); omega
          | pts t j => show w.heap.size ≤ ps t j; have := ((hN.blk t hr.1).pg j hr.2).2.2.1; have := hle t (Nat.le_of_lt hr.1); omega
          | sym t j => exact absurd hr.2.2 (by show (0 : Nat) ≠ 1; decide)
end Go.Proofs.YtdjgjffgheocfaaGreat

namespace Go.Proofs.YtdjgjffgheocfaaGreat
open Go.RowKit

theorem enters_e1 : Enters 79 := enters_of Tryz.func79 (by kernel_rfl) rfl
theorem enters_e2 : Enters 80 := enters_of Tryz.func80 (by kernel_rfl) rfl
set_option maxRecDepth 100000 in
theorem erase1_yes (num : CR → Nat) (C : ChipS) (w : World) (h : ChipM num w C) (i g : Nat) (hi : i < C.B) (hm : C.bad i = false) (hb : C.bk i = false) (hg : w.cell? ⟨g, 0, none⟩ = some (.pointer (some ⟨num (.blk i), 0, none⟩))) :
    Calls Tryz.prog 79 #[.pointer (some ⟨g, 0, none⟩)] w fun e w' => e = .returned (.int .i64 0) ∧ w = w' := by
  obtain ⟨cp, hc⟩ := h.blkC hi
  have c1 := hc.c1
  have c2 := hc.c2
  rw [hm] at c1
  rw [hb] at c2
  clear h hc hm hb
  go_enter Tryz.func79, Tryz.ntmps79
  go_wp2_with fail
  go_ret
  exact ⟨rfl, rfl⟩
/-- The first j pages of a block are wiped; its count goes up. -/
def ChipS.wiped (C : ChipS) (i j : Nat) : ChipS := { C with er := fun k => if k = i then C.er i + 1 else C.er k, pg := fun a b => if a = i ∧ b < j then PgS.blank else C.pg a b }
theorem updR_self (num : CR → Nat) (r : CR) : updR num r (num r) = num := funext fun x => by
  unfold updR
  split
  · rename_i e
    rw [e]
  · rfl
theorem wiped_next (C : ChipS) (i j : Nat) : (C.wiped i j).setPg i j PgS.blank = C.wiped i (j + 1) := by
  unfold ChipS.wiped ChipS.setPg
  simp only [ChipS.mk.injEq, true_and, and_true]
  funext a b
  by_cases e : a = i ∧ b = j
  · obtain ⟨rfl, rfl⟩ := e
    simp
  · rw [if_neg e]
    by_cases e1 : a = i ∧ b < j
    · rw [if_pos e1, if_pos ⟨e1.1, by omega⟩]
    · rw [if_neg e1, if_neg (fun h => e1 ⟨h.1, by have := h.2; have : b ≠ j := fun e2 => e ⟨h.1, e2⟩; omega⟩)]
def EraseD (num : CR → Nat) (C : ChipS) (i : Nat) : Int → (CR → Nat) → ChipS → Prop := fun e2 num2 C2 => e2 = 0 ∧ num2 = num ∧ C2 = C.tick.wiped i C.P
set_option maxRecDepth 100000 in
set_option maxHeartbeats 1000000 in
theorem erase2_yes (num : CR → Nat) (C : ChipS) (w : World) (i0 : Nat) (h : ChipM num w C.tick) (her0 : C.er i0 ≤ C.ops) (hops : C.ops < 1099511627776) (i g : Nat) (hi0 : i0 = i) (hi : i < C.B) (hg : w.cell? ⟨g, 0, none⟩ = some (.pointer (some ⟨num (.blk i), 0, none⟩))) (hgl : g < w.heap.size) (hgo : ¬ Own num C g) (x d k : Int) (hd1 : d ≠ 1) (hd2 : d ≠ 2) :
    Calls Tryz.prog 80 (#[fateV x d k] ++ #[.pointer (some ⟨g, 0, none⟩)]) w fun e w' => DoR num C w w' (EraseD num C i) e := by
  obtain ⟨V, hV⟩ : ∃ V, V = w.alloc (.cells #[.int .i64 x, .int .i64 d, .int .i64 k] 110) := ⟨_, rfl⟩
  have kV : Keep (fun _ => False) w V := by rw [hV]; exact (Keep.refl _ w).alloc _
  have bX : Blk V w.heap.size 110 #[.int .i64 x, .int .i64 d, .int .i64 k] := by rw [hV]; exact Blk.new _ _ _
  obtain ⟨x0, x1, x2⟩ := fate_cells bX
  have hMV := h.keepF kV
  obtain ⟨cp, hb1, hb2⟩ := hMV.blk i hi
  obtain ⟨s0, s1, s2, s3, _⟩ := h.small
  have hcp : C.P ≤ cp := by obtain ⟨cs, _, _, hc, _⟩ := hb2; exact hc
  change 2 ≤ C.P at s2
  change C.P ≤ 32 at s3
  have c0 : V.cell? ⟨num (.blk i), 0, none⟩ = some (.slice (some ⟨num (.ptab i), 0, none⟩) C.P cp) := by rw [hb1.cell]; rfl
  have c3 : V.cell? ⟨num (.blk i), 3, none⟩ = some (.int .i64 (C.er i : Nat)) := by rw [hb1.cell]; rfl
  have z3 := hb1.frozen 3
  have g0 : V.cell? ⟨g, 0, none⟩ = some (.pointer (some ⟨num (.blk i), 0, none⟩)) := (kV.cell (p := ⟨g, 0, none⟩) hgl (by simp)).trans hg
  have her := h.er i
  change C.er i ≤ C.ops + 1 at her
  obtain ⟨W, hW⟩ : ∃ W, W = V.setCell ⟨num (.blk i), 3, none⟩ (.int .i64 ((C.er i : Nat) + 1)) := ⟨_, rfl⟩
  have kW : Keep (· = num (.blk i)) V W := by rw [hW]; exact (Keep.refl (· = num (.blk i)) V).setCell (p := ⟨num (.blk i), 3, none⟩) (.inl rfl) _
  have herr : C.er i + 1 ≤ C.tick.ops := by
    subst hi0
    show C.er i0 + 1 ≤ C.ops + 1
    omega
  have hMW : ChipM num W (C.tick.wiped i 0) := by
    have := hMV.setBlk i hi (C.bad i) (C.bk i) (C.er i + 1) herr kW (fun cp hb => by
      rw [hW]
      have := hb.put 3 (.int .i64 ((C.er i : Nat) + 1))
      exact this)
    have e : C.tick.setBlk i (C.bad i) (C.bk i) (C.er i + 1) = C.tick.wiped i 0 := by
      unfold ChipS.setBlk ChipS.wiped
      simp only [ChipS.mk.injEq, true_and, and_true]
      refine ⟨?_, ?_, ?_, ?_⟩
      · funext a b
        rw [if_neg (by omega)]
      · funext a
        by_cases e : a = i
        · rw [if_pos e, e]; rfl
        · rw [if_neg e]
      · funext a
        by_cases e : a = i
        · rw [if_pos e, e]; rfl
        · rw [if_neg e]
      · rfl
    rwa [e] at this
  have g1 : W.cell? ⟨g, 0, none⟩ = some (.pointer (some ⟨num (.blk i), 0, none⟩)) := (kW.cell (p := ⟨g, 0, none⟩) (Nat.lt_of_lt_of_le hgl kV.size) (fun e => hgo ⟨.blk i, hi, e.symm⟩)).trans g0
  obtain ⟨cpW, hbW1, hbW2⟩ := hMW.blk i hi
  have hcpW : C.P ≤ cpW := by obtain ⟨cs, _, _, hc, _⟩ := hbW2; exact hc
  have c0W : W.cell? ⟨num (.blk i), 0, none⟩ = some (.slice (some ⟨num (.ptab i), 0, none⟩) C.P cpW) := by rw [hbW1.cell]; rfl
  have HMW := Lib.hid hMW
  have hd1' : (d == 1) = false := by simpa using hd1
  have hd2' : (d == 2) = false := by simpa using hd2
  have kVW : Keep (Own num C) w W := (kV.more (fun _ h => by cases h)).trans (kW.more (fun k e => .inl ⟨.blk i, hi, e.symm⟩)) (fun k e => .inl e)
  have HKW := Lib.hid kVW
  have e1 : C.P ≤ cpW := hcpW
  have e2 : (C.P : Int) ≤ (cpW : Int) := by omega
  have hn := ChipS.n_pos h.geo
  obtain ⟨E1, hE1⟩ : ∃ E1, E1 = C.er i := ⟨_, rfl⟩
  have hE2 : E1 < 1099511627777 := by rw [hE1]; omega
  rw [← hE1] at c3 hW
  clear hMV hb1 hb2 hbW1 hbW2 hMW hg hgl hd1 hd2 kV kW kVW her herr her0 hcp hcpW hE1 hgo
  show Calls Tryz.prog 80 #[fateV x d k, .pointer (some ⟨g, 0, none⟩)] w _
  go_enter Tryz.func80, Tryz.ntmps80
  go_upto_region 1 with (fail)
  rw [← hV]
  clear hV
  go_upto_region 9 with (fail)
  rw [← hW]
  clear hW c0 c3 z3 g0 x0 x1 x2 bX
  go_wp2_with fail
  obtain ⟨P, hP⟩ : ∃ P, P = C.P := ⟨_, rfl⟩
  rw [← hP] at s2 s3 e1 e2 ⊢
  have HP := Lib.hid hP
  clear hP c0W g1 e1 e2
  go_loopw [39] (fun v wr => ∃ j : Nat, j ≤ P ∧ v = .int .i64 j ∧ ChipM num wr (C.tick.wiped i j) ∧ Keep (Own num C) w wr) (fun v _ => P - (intOf v).toNat)
  case atStart => exact ⟨0, Nat.zero_le _, rfl, HMW.out, HKW.out⟩
  case round =>
    obtain ⟨j, hj, rfl, hr, hk⟩ := hrel
    have HR := Lib.hid hr
    have HK := Lib.hid hk
    by_cases hjp : j < P
    · have hjp' : (j : Int) < (P : Int) := by omega
      have hjC : j < C.P := by rw [← HP.out]; exact hjp
      obtain ⟨cp2, hb⟩ := hr.blkC hi
      -- the row's cells are as they were
      have t0 := hb.t j hjC
      have hpg := hr.page i j hi hjC
      have HE := Lib.hid (cells_erase _ _ _ _ _ wr hpg hn.1)
      clear hr hk hb hpg
      go_wp2_with fail
      refine HE.out.mono ?_
      rintro e w1 ⟨rfl, hp1, k1⟩
      have hm1 := HR.out.setPg i j hi hjC PgS.blank (num (.sym i j)) k1 (by
        have : IsPage w1 (num (.cel i j)) (num (.pts i j)) (num (.sym i j)) C.tick.n PgS.blank := hp1
        exact this) (fun e => absurd e (by show (0 : Nat) ≠ 1; decide))
      rw [updR_self, wiped_next] at hm1
      have HM1 := Lib.hid hm1
      have HK1 := Lib.hid (HK.out.trans k1 (fun k e => .inl (e.elim (fun e => ⟨.cel i j, ⟨hi, hjC⟩, e.symm⟩) (fun e => ⟨.pts i j, ⟨hi, hjC⟩, e.symm⟩))))
      clear hm1 hp1 k1
      go_wp2_with fail
      exact ⟨⟨j + 1, by omega, by go_num, HM1.out, HK1.out⟩, by simp [intOf]; omega⟩
    · obtain rfl : j = P := by omega
      have hjp' : ¬ (j : Int) < (j : Int) := by omega
      clear hr hk
      go_wp2_with fail
      go_ret
      exact ⟨0, num, _, rfl, .inl rfl, ⟨rfl, rfl, rfl⟩, by rw [← HP.out]; exact HR.out, rfl, HK.out, fun r hr => .inl ⟨r, by
        cases r with
        | sym a b =>
          obtain ⟨y1, y2, y3⟩ := hr
          refine ⟨y1, y2, ?_⟩
          simp only [ChipS.wiped, ChipS.tick] at y3
          split at y3
          · exact absurd y3 (by show (0 : Nat) ≠ 1; decide)
          · exact y3
        | _ => exact hr, rfl⟩⟩

set_option maxRecDepth 100000 in
theorem erase_yes (num : CR → Nat) (C : ChipS) (w : World) (h : ChipM num w C) (hdk : C.dark = false) (hops : C.ops < 1099511627776) (x d k : Int) (hF : (C.F (C.ops : Int)).getD (fateV 0 0 0) = fateV x d k) (hd1 : d ≠ 1) (hd2 : d ≠ 2) (i : Nat) (hi : i < C.B) (hm : C.bad i = false) (hb : C.bk i = false) :
    Calls Tryz.prog 58 #[.pointer (some ⟨num .chip, 0, none⟩), .int .i64 i] w fun e w' => e = .returned (.int .i64 0) ∧ ChipM num w' (C.tick.wiped i C.P) ∧ Keep (Own num C) w w' := by
  have HB := Lib.hid (block_yes num C w h i hi)
  obtain ⟨V, hV⟩ : ∃ V, V = w.alloc (.cells #[.pointer (some ⟨num (.blk i), 0, none⟩)] 72) := ⟨_, rfl⟩
  have kV : Keep (fun _ => False) w V := by rw [hV]; exact (Keep.refl _ w).alloc _
  have bV : Blk V w.heap.size 72 #[.pointer (some ⟨num (.blk i), 0, none⟩)] := by rw [hV]; exact Blk.new _ _ _
  have hlo : ∀ k, Own num C k → k < w.heap.size := fun k ⟨r, hr, e⟩ => by rw [← e]; exact h.lt r hr
  have hc0 : ∀ w1, Keep (· = num .chip) V w1 → w1.cell? ⟨w.heap.size, 0, none⟩ = some (.pointer (some ⟨num (.blk i), 0, none⟩)) := fun w1 k1 =>
    (k1.cell (p := ⟨w.heap.size, 0, none⟩) bV.lt (fun e => by have := hlo _ ⟨.chip, trivial, rfl⟩; change w.heap.size = _ at e; omega)).trans (by rw [bV.cell]; rfl)
  have hop := operate_yes num C V (h.keepF kV) hdk hops _ enters_e1 #[.pointer (some ⟨w.heap.size, 0, none⟩)] _ enters_e2 #[.pointer (some ⟨w.heap.size, 0, none⟩)] (EraseD num C i) x d k hF
    (fun w1 hm1 k1 => (erase1_yes num C.tick w1 hm1 i w.heap.size hi hm hb (hc0 w1 k1)).mono fun e w2 ⟨he, hw⟩ => ⟨he, hw ▸ Keep.refl _ _⟩)
    (fun w1 hm1 k1 => erase2_yes num C w1 i hm1 (h.er i) hops i w.heap.size rfl hi (hc0 w1 k1) (Nat.lt_of_lt_of_le bV.lt k1.size) (fun e => by have := hlo _ e; omega) x d k hd1 hd2)
  have HOP := Lib.hid hop
  have HK := Lib.hid kV
  have HO2 := Lib.hid (opE_no (d := d) (e := 0) (fun e => hd2 e.1))
  have HO3 := Lib.hid (opC_no (d := d) (e := 0) (C := C.tick.wiped i C.P) (fun e => hd2 e.1))
  clear h hdk hF hd1 hd2 hm hb hop kV bV hlo hc0
  go_enter Tryz.func58, Tryz.ntmps58
  go_wp2_with fail
  refine HB.out.mono ?_
  rintro e w1 ⟨rfl, rfl⟩
  go_upto_region 4 with (fail)
  rw [← hV]
  clear hV
  go_wp2_with fail
  refine HOP.out.mono ?_
  rintro e w1 ⟨e2, num2, C2, ⟨rfl, rfl, rfl⟩, rfl, hm, hn, hk, ho⟩
  rw [HO2.out]
  rw [HO3.out] at hm
  have HH := Lib.hid (And.intro hm hk)
  clear hm hk hn ho
  go_wp2_with fail
  go_ret
  exact ⟨rfl, HH.out.1, (HK.out.more (fun _ h => by cases h)).trans HH.out.2 (fun _ h => .inl h)⟩
end Go.Proofs.YtdjgjffgheocfaaGreat
