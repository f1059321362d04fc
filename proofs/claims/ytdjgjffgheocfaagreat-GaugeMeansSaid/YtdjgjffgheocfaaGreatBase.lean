/- Blocks of memory, what is kept, rows of numbers: words for all that follows. -/
import Derived.Test.YtdjgjffgheocfaaGreatRows
import Derived.WalkKit
import Derived.WalkSpells
import Derived.WalkLawsBesides
import Derived.Deep.OwnRows
import Derived.Deep.Draws
import Derived.Laws.Rows
import Derived.ProofKit
import Derived.OpenShut
import Derived.Carry
import Derived.Lib.Hide
import Derived.Outline
import Derived.RegionTactic
import Derived.Deep.DeepCutAuto
import Derived.Deep.CutBlock
import Derived.Deep.LoopGhost
import Derived.Deep.QuietTactic
import Derived.BigQuiet
import Derived.Deep.RegionHeld3
import Derived.Deep.DrawnRows
import Derived.Laws.BitsLemmas
import Derived.StillTail
namespace Go.Proofs.YtdjgjffgheocfaaGreat
open Go.RowKit

/-- Block g holds just the cells cs of type t, none of them frozen. -/
def Blk (w : World) (g : Nat) (t : TypeId) (cs : Array Value) : Prop := w.heap[g]? = some (.cells cs t (0, 0))

/-- Only blocks of S, and new ones, have turned. -/
structure Keep (S : Nat → Prop) (w w' : World) : Prop where
  os : w'.os = w.os
  tape : w'.tape = w.tape
  output : w'.output = w.output
  size : w.heap.size ≤ w'.heap.size
  block : ∀ k, k < w.heap.size → ¬ S k → w'.heap[k]? = w.heap[k]?

section
variable {w w' w'' : World} {g : Nat} {t : TypeId} {cs : Array Value} {S S' : Nat → Prop}

theorem Blk.lt (h : Blk w g t cs) : g < w.heap.size := by
  obtain ⟨hl, _⟩ := Array.getElem?_eq_some_iff.1 h
  exact hl
theorem Blk.cell (h : Blk w g t cs) (i : Nat) : w.cell? ⟨g, i, none⟩ = cs[i]? := cell_of_row w g i cs t (0, 0) h
theorem Blk.frozen (h : Blk w g t cs) (i : Nat) : w.frozen? ⟨g, i, none⟩ = false := by
  unfold Blk at h
  simp [World.frozen?, h]
theorem Blk.new (w : World) (t : TypeId) (cs : Array Value) : Blk (w.alloc (.cells cs t)) w.heap.size t cs := heap_alloc_new w _
theorem Blk.drew (h : Blk w g t cs) : Blk w.drew g t cs := h
theorem Blk.drewN (h : Blk w g t cs) (n : Nat) : Blk (w.drewN n) g t cs := h
theorem Blk.alloc (h : Blk w g t cs) (o : Obj) : Blk (w.alloc o) g t cs := (Below.heap_alloc w o g h.lt).trans h
theorem Blk.put (h : Blk w g t cs) (i : Nat) (u : Value) : Blk (w.setCell ⟨g, i, none⟩ u) g t (cs.setIfInBounds i u) := by
  unfold Blk at h ⊢
  simp [World.setCell, Array.getElem?_modify, h]
theorem Blk.far (h : Blk w g t cs) {p : Addr} (hp : g ≠ p.block) (u : Value) : Blk (w.setCell p u) g t cs := (Below.heap_setCell w p u g hp).trans h
theorem Blk.keep (h : Blk w g t cs) (hk : Keep S w w') (hg : ¬ S g) : Blk w' g t cs := (hk.block g h.lt hg).trans h
theorem Blk.ne {g' : Nat} {t' : TypeId} {cs' : Array Value} (h : Blk w g t cs) (h' : Blk w g' t' cs') (hne : t ≠ t') : g ≠ g' := by
  intro e
  subst e
  unfold Blk at h h'
  rw [h] at h'
  injection h' with h'
  injection h' with _ ht
  exact hne ht

theorem Keep.refl (S : Nat → Prop) (w : World) : Keep S w w := ⟨rfl, rfl, rfl, Nat.le_refl _, fun _ _ _ => rfl⟩
theorem Keep.trans (h : Keep S w w') (k : Keep S' w' w'') (hS : ∀ i, S' i → S i ∨ w.heap.size ≤ i) : Keep S w w'' :=
  ⟨k.os.trans h.os, k.tape.trans h.tape, k.output.trans h.output, Nat.le_trans h.size k.size, fun i hi hn =>
    (k.block i (Nat.lt_of_lt_of_le hi h.size) (fun hs => (hS i hs).elim hn (by omega))).trans (h.block i hi hn)⟩
theorem Keep.more (h : Keep S w w') (hS : ∀ i, S i → S' i ∨ w.heap.size ≤ i) : Keep S' w w' :=
  ⟨h.os, h.tape, h.output, h.size, fun i hi hn => h.block i hi (fun hs => (hS i hs).elim hn (by omega))⟩
theorem Keep.drew (h : Keep S w w') : Keep S w w'.drew := ⟨h.os, h.tape, h.output, h.size, h.block⟩
theorem Keep.drewN (h : Keep S w w') (n : Nat) : Keep S w (w'.drewN n) := ⟨h.os, h.tape, h.output, h.size, h.block⟩
theorem Keep.alloc (h : Keep S w w') (o : Obj) : Keep S w (w'.alloc o) :=
  ⟨h.os, h.tape, h.output, Nat.le_trans h.size (by simp), fun i hi hn => (Below.heap_alloc w' o i (Nat.lt_of_lt_of_le hi h.size)).trans (h.block i hi hn)⟩
theorem Keep.setCell (h : Keep S w w') {p : Addr} (hp : S p.block ∨ w.heap.size ≤ p.block) (u : Value) : Keep S w (w'.setCell p u) :=
  ⟨h.os, h.tape, h.output, by simpa [World.setCell] using h.size, fun i hi hn => (Below.heap_setCell w' p u i (fun e => by
    subst e
    exact hp.elim hn (by omega))).trans (h.block i hi hn)⟩
theorem Keep.grown {row : Option Nat} (h : Keep S w w') (hg : w'.grownBy w'' row) (hr : ∀ k, row = some k → S k ∨ w.heap.size ≤ k) : Keep S w w'' :=
  ⟨hg.os.trans h.os, hg.tape.trans h.tape, hg.output.trans h.output, Nat.le_trans h.size hg.size, fun i hi hn =>
    (hg.block i (Nat.lt_of_lt_of_le hi h.size) (fun e => (hr i e.symm).elim hn (by omega))).trans (h.block i hi hn)⟩
theorem Keep.below {B : Nat} (h : Keep S w w') (hS : ∀ i, S i → B ≤ i) (hB : B ≤ w.heap.size) : Below B w w' :=
  ⟨h.os, h.tape, h.output, h.size, fun i hi => h.block i (by omega) (fun hs => by have := hS i hs; omega)⟩
theorem Keep.ofBelow (h : Below w.heap.size w w') : Keep S w w' := ⟨h.os, h.tape, h.output, h.size, fun i hi _ => h.block i hi⟩
theorem Keep.cell (h : Keep S w w') {p : Addr} (hp : p.block < w.heap.size) (hn : ¬ S p.block) : w'.cell? p = w.cell? p := World.cell?_of_block (w := w) (h.block p.block hp hn)
theorem Keep.frozen (h : Keep S w w') {p : Addr} (hp : p.block < w.heap.size) (hn : ¬ S p.block) : w'.frozen? p = w.frozen? p := World.frozen?_of_block (w := w) (h.block p.block hp hn)
end
end Go.Proofs.YtdjgjffgheocfaaGreat

namespace Go.Proofs.YtdjgjffgheocfaaGreat
open Go.ChangeShapes Go.WideShapes Go.ChangeAt Go.RowKit

section
variable {H : Type} {enc : TypeId × Value → H} {P : Program}

theorem trodAll_stays (hl : laidOutB P = true) {W W' : World} (hb : Below W.heap.size W W') : ∀ (ts : List TypeId) (vs : List Value) (ds : List (DataW H)) (ps : List MemPlace),
    (∀ t ∈ ts, P.readableRec t = true ∧ t < P.types.size) → (∀ x ∈ ps, x.block < W.heap.size) →
    DataW.TrodAll enc P W 0 (fun _ => true) true ts vs ds ps → DataW.TrodAll enc P W' 0 (fun b => decide (b < W.heap.size)) true ts vs ds ps
  | [], [], [], _, _, _, h => h
  | t :: ts, v :: vs, d :: ds, ps, ht, hlt, h => by
    obtain ⟨p, q, h1, h2, rfl⟩ := h
    have hd := ht t (List.mem_cons_self ..)
    exact ⟨p, q, Below.trod hl hd.1 hd.2 h1 hb (fun x hx => hlt x (List.mem_append_left _ hx)), trodAll_stays hl hb ts vs ds q (fun t' h' => ht t' (List.mem_cons_of_mem _ h')) (fun x hx => hlt x (List.mem_append_right _ hx)) h2, rfl⟩
  | [], [], _ :: _, _, _, _, h => by cases h
  | [], _ :: _, _, _, _, _, h => by cases h
  | _ :: _, [], _, _, _, _, h => by cases h
  | _ :: _, _ :: _, [], _, _, _, h => by cases h

theorem law_post {f : Func} {s : ChangeSpec} {W W' : World} {args : Array Value} {ds gs : List (DataW H)} {before : List MemPlace} {T : TypeId}
    (hl : laidOutB P = true) (hp : f.params.toList.all (fun t => P.readableRec t && decide (t < P.types.size)) = true) (hr : f.resultTypes = #[T]) (hT : P.underlying T = some .bool) (hvars : s.vars = [])
    (hfn : s.fn H ds = { results := [.lit (.bool true)], args := ds })
    (hW : DataW.Whole enc P f.params.toList s.vars false W args.toList ds gs before) (hb : Below W.heap.size W W') :
    s.post enc P f false true false false W args (.bool true) W' := by
  have hW' := hW
  obtain ⟨p, q, hA, hV, hpq, hfz, hnd⟩ := hW
  rw [hvars] at hV
  obtain ⟨rfl, rfl⟩ := trodVars_none hV
  subst hpq
  have hlt : ∀ x ∈ p, x.block < W.heap.size := fun x hx => by
    have := hW'.lt x
    simpa using this (by simpa using hx)
  have hargs := trodAll_stays (enc := enc) hl hb _ _ _ _ (fun t ht => by
    have := List.all_eq_true.1 hp t ht
    simpa using this) hlt hA
  refine ⟨ds, [], p ++ [], [], p, [], hW', ?_, ?_, ?_, hb.frame _, fun h => by cases h⟩
  · rw [hr]
    simp only [List.append_nil]
    rw [hfn]
    exact trodAll_mk1 (shut_bool hT _)
  · simp only [List.append_nil]
    rw [hfn]
    exact hargs
  · rw [hvars]
    simp only [List.append_nil]
    rw [hfn]
    rfl
end
end Go.Proofs.YtdjgjffgheocfaaGreat

namespace Go.Proofs.YtdjgjffgheocfaaGreat
open Go.RowKit

/-- n cells, cell i holding g i. -/
def valsArr (g : Nat → Value) (n : Nat) : Array Value := Array.ofFn (n := n) fun i => g i
theorem valsArr_size (g : Nat → Value) (n : Nat) : (valsArr g n).size = n := by simp [valsArr]
theorem valsArr_get (g : Nat → Value) (n i : Nat) (hi : i < n) : (valsArr g n)[i]? = some (g i) := by simp [valsArr, hi]
theorem valsArr_congr {g h : Nat → Value} {n : Nat} (e : ∀ i, i < n → g i = h i) : valsArr g n = valsArr h n := by
  apply Array.ext_getElem?
  intro i
  by_cases hi : i < n
  · simp [valsArr, hi, e i hi]
  · simp [valsArr, hi]
theorem valsArr_set (g : Nat → Value) (n i : Nat) (v : Value) : (valsArr g n).setIfInBounds i v = valsArr (fun k => if k = i then v else g k) n := by
  apply Array.ext_getElem?
  intro k
  rw [Array.getElem?_setIfInBounds]
  by_cases hk : k < n
  · by_cases h : i = k
    · subst h
      simp [valsArr, hk]
    · rw [if_neg h]
      simp [valsArr, hk, show ¬ k = i from fun e => h e.symm]
  · by_cases h : i = k
    · subst h
      simp [valsArr, hk]
    · rw [if_neg h]
      simp [valsArr, hk]
theorem valsArr_made (z : Value) (n : Nat) : madeCells #[z] n = valsArr (fun _ => z) n := by
  apply Array.ext_getElem?
  intro i
  by_cases hi : i < n
  · simp [madeCells, valsArr, hi, Nat.mod_one]
  · simp [madeCells, valsArr, hi]

/-- make of a slice of one-cell elements, at a length x that is the number m. -/
theorem make_vals {P : Program} {t e : TypeId} {z : Value} {bytes : Nat} (ht : P.underlying t = some (.slice e)) (hinfo : (P.info? e).map (fun i => (i.zero, i.size, i.bytes)) = some (some z, 1, bytes)) (hz : z.cells = #[z])
    (x : Int) (m : Nat) (hx : x = m) (hm : bytes * m ≤ 281474976710656) (hm2 : m ≤ 9223372036854775807) (w : World) :
    (Instr.makeSlice t (.int .i64 x) (.int .i64 x)).run P w = .ok (.slice (some ⟨w.heap.size, 0, none⟩) m m) (w.alloc (.cells (valsArr (fun _ => z) m) e)) := by
  subst hx
  rw [← valsArr_made]
  exact run_make_row' (P := P) t e z bytes ht hinfo hz .i64 .i64 m hm hm2 w

section
variable {w w' : World} {g : Nat} {t : TypeId} {f : Nat → Value} {n : Nat}
theorem Blk.val (h : Blk w g t (valsArr f n)) {i : Nat} (hi : i < n) : w.cell? ⟨g, i, none⟩ = some (f i) := by rw [h.cell, valsArr_get f n i hi]
theorem Blk.store (h : Blk w g t (valsArr f n)) (i : Nat) (v : Value) : Blk (w.setCell ⟨g, i, none⟩ v) g t (valsArr (fun k => if k = i then v else f k) n) := by
  have := h.put i v
  rwa [valsArr_set] at this
end
end Go.Proofs.YtdjgjffgheocfaaGreat

namespace Go.Proofs.YtdjgjffgheocfaaGreat
open Go.RowKit

theorem Blk.here (w : World) (t : TypeId) (cs : Array Value) (g : Nat) (h : g = w.heap.size) : Blk (w.alloc (.cells cs t)) g t cs := by
  subst h
  exact Blk.new w t cs

/-- A slice of 16-bit numbers: its element i is p i. -/
structure ArgU (w : World) (a : Option Addr) (n : Nat) (p : Nat → Nat) : Prop where
  small : n ≤ 140737488355328
  at_ : 0 < n → ∃ b off, a = some ⟨b, off, none⟩ ∧ b < w.heap.size ∧ ∀ i, i < n → w.cell? ⟨b, off + i, none⟩ = some (.int .u16 (p i))
  lt : ∀ i, i < n → p i < 65536

def uArr (f : Nat → Nat) (n : Nat) : Array Value := valsArr (fun i => .int .u16 (f i)) n
/-- A row that was made since block N: nil, or a block of its own. -/
def ResU (w : World) (N : Nat) (a : Option Addr) (n : Nat) (f : Nat → Nat) : Prop :=
  (a = none ∧ n = 0) ∨ ∃ g, a = some ⟨g, 0, none⟩ ∧ N ≤ g ∧ Blk w g 148 (uArr f n)

theorem uArr_congr {f g : Nat → Nat} {n : Nat} (h : ∀ i, i < n → f i = g i) : uArr f n = uArr g n := valsArr_congr fun i hi => by rw [h i hi]
theorem ArgU.keep {w w' : World} {a : Option Addr} {n : Nat} {p : Nat → Nat} (h : ArgU w a n p) (hk : Keep (fun _ => False) w w') : ArgU w' a n p :=
  ⟨h.small, fun h0 => by
    obtain ⟨b, off, e, hb, hc⟩ := h.at_ h0
    exact ⟨b, off, e, Nat.lt_of_lt_of_le hb hk.size, fun i hi => (hk.cell (p := ⟨b, off + i, none⟩) hb (by simp)).trans (hc i hi)⟩, h.lt⟩
theorem ArgU.nil (w : World) (p : Nat → Nat) : ArgU w none 0 p := ⟨by omega, fun h => by omega, fun i h => by omega⟩
theorem ArgU.congr {w : World} {a : Option Addr} {n : Nat} {p q : Nat → Nat} (h : ArgU w a n p) (e : ∀ i, i < n → p i = q i) : ArgU w a n q :=
  ⟨h.small, fun h0 => by
    obtain ⟨b, off, ea, hb, hc⟩ := h.at_ h0
    exact ⟨b, off, ea, hb, fun i hi => by rw [← e i hi]; exact hc i hi⟩, fun i hi => by rw [← e i hi]; exact h.lt i hi⟩
theorem ArgU.take {w : World} {a : Option Addr} {n m : Nat} {p : Nat → Nat} (h : ArgU w a n p) (hm : m ≤ n) : ArgU w a m p :=
  ⟨by have := h.small; omega, fun h0 => by
    obtain ⟨b, off, ea, hb, hc⟩ := h.at_ (by omega)
    exact ⟨b, off, ea, hb, fun i hi => hc i (by omega)⟩, fun i hi => h.lt i (by omega)⟩
theorem ResU.keep {w w' : World} {N : Nat} {a : Option Addr} {n : Nat} {f : Nat → Nat} (h : ResU w N a n f) (hk : Keep (fun _ => False) w w') : ResU w' N a n f := by
  rcases h with h | ⟨g, e, hN, hb⟩
  · exact .inl h
  · exact .inr ⟨g, e, hN, hb.keep hk (by simp)⟩
theorem ResU.more {w : World} {N M : Nat} {a : Option Addr} {n : Nat} {f : Nat → Nat} (h : ResU w N a n f) (hM : M ≤ N) : ResU w M a n f := by
  rcases h with h | ⟨g, e, hN, hb⟩
  · exact .inl h
  · exact .inr ⟨g, e, by omega, hb⟩
theorem ResU.arg {w : World} {N : Nat} {a : Option Addr} {n : Nat} {f : Nat → Nat} (h : ResU w N a n f) (hn : n ≤ 140737488355328) (hf : ∀ i, f i < 65536) : ArgU w a n f := by
  rcases h with ⟨rfl, rfl⟩ | ⟨g, rfl, hN, hb⟩
  · exact ArgU.nil w f
  · exact ⟨hn, fun _ => ⟨g, 0, rfl, hb.lt, fun i hi => by rw [Nat.zero_add]; exact hb.val hi⟩, fun i _ => hf i⟩
theorem Blk.argU {w : World} {g n : Nat} {f : Nat → Nat} (hb : Blk w g 148 (uArr f n)) (hn : n ≤ 140737488355328) (hf : ∀ i, i < n → f i < 65536) : ArgU w (some ⟨g, 0, none⟩) n f :=
  ⟨hn, fun _ => ⟨g, 0, rfl, hb.lt, fun i hi => by rw [Nat.zero_add]; exact hb.val hi⟩, hf⟩
theorem Blk.storeU {w : World} {g n : Nat} {f : Nat → Nat} (hb : Blk w g 148 (uArr f n)) (i v : Nat) {f' : Nat → Nat} (e : ∀ k, k < n → f' k = if k = i then v else f k) : Blk (w.setCell ⟨g, i, none⟩ (.int .u16 v)) g 148 (uArr f' n) := by
  have := hb.store i (.int .u16 v)
  rwa [valsArr_congr (h := fun k => .int .u16 (f' k : Nat)) (fun k hk => by rw [e k hk]; split <;> rfl)] at this
theorem Tryz.info_u16 : (Tryz.prog.info? 148).map (fun i => (i.zero, i.size, i.bytes)) = some (some (.int .u16 0), 1, 2) := by kernel_rfl
theorem make_u (x : Int) (m : Nat) (hx : x = m) (hm : m ≤ 70368744177664) (w : World) :
    (Instr.makeSlice 80 (.int .i64 x) (.int .i64 x)).run Tryz.prog w = .ok (.slice (some ⟨w.heap.size, 0, none⟩) m m) (w.alloc (.cells (uArr (fun _ => 0) m) 148)) :=
  make_vals (P := Tryz.prog) Tryz.underlying80 Tryz.info_u16 rfl x m hx (by omega) (by omega) w

/-- What a row says as a polynomial. -/
def cut (p : Nat → Nat) (n : Nat) : Nat → Nat := fun i => if i < n then p i % 1024 else 0
/-- A polynomial with n coefficients, the last not nought. -/
structure IsPol (f : Nat → Nat) (n : Nat) : Prop where
  lt : ∀ i, f i < 1024
  zero : ∀ i, n ≤ i → f i = 0
  lead : 0 < n → f (n - 1) ≠ 0
theorem IsPol.uniq {f : Nat → Nat} {n m : Nat} (h : IsPol f n) (k : IsPol f m) : n = m := by
  rcases Nat.lt_trichotomy n m with e | e | e
  · exact absurd (h.zero (m - 1) (by omega)) (k.lead (by omega))
  · exact e
  · exact absurd (k.zero (n - 1) (by omega)) (h.lead (by omega))
theorem IsPol.lt16 {f : Nat → Nat} {n : Nat} (h : IsPol f n) (i : Nat) : f i < 65536 := by have := h.lt i; omega
theorem IsPol.cut {f : Nat → Nat} {n m : Nat} (h : IsPol f n) (hm : n ≤ m) : cut f m = f := by
  funext i
  unfold Proofs.YtdjgjffgheocfaaGreat.cut
  split
  · exact Nat.mod_eq_of_lt (h.lt i)
  · exact (h.zero i (by omega)).symm
theorem cut_lt (p : Nat → Nat) (n i : Nat) : cut p n i < 1024 := by
  unfold cut
  split <;> omega
theorem cut_zero (p : Nat → Nat) {n i : Nat} (h : n ≤ i) : cut p n i = 0 := by simp [cut, Nat.not_lt.2 h]
theorem cut_in (p : Nat → Nat) {n i : Nat} (h : i < n) : cut p n i = p i % 1024 := by simp [cut, h]
theorem cut_congr {p q : Nat → Nat} {n : Nat} (h : ∀ i, i < n → p i = q i) : cut p n = cut q n := by
  funext i
  unfold cut
  split
  · rw [h i ‹_›]
  · rfl
theorem cut_of_lt {f : Nat → Nat} {n : Nat} (h : ∀ i, f i < 1024) (hz : ∀ i, n ≤ i → f i = 0) : cut f n = f := by
  funext i
  unfold cut
  split
  · exact Nat.mod_eq_of_lt (h i)
  · exact (hz i (by omega)).symm
/-- How long it is. -/
def topB (f : Nat → Nat) : Nat → Nat
  | 0 => 0
  | n + 1 => if f n = 0 then topB f n else n + 1
theorem topB_le (f : Nat → Nat) (n : Nat) : topB f n ≤ n := by
  induction n with
  | zero => simp [topB]
  | succ n ih => unfold topB; split <;> omega
theorem topB_pol {f : Nat → Nat} {n : Nat} (h : ∀ i, f i < 1024) (hz : ∀ i, n ≤ i → f i = 0) : IsPol f (topB f n) := by
  induction n with
  | zero => exact ⟨h, fun i _ => hz i (by omega), fun h => by simp [topB] at h⟩
  | succ n ih =>
    unfold topB
    split
    · rename_i h0
      exact ih (fun i hi => by
        by_cases e : i = n
        · rw [e]; exact h0
        · exact hz i (by omega))
    · rename_i h0
      exact ⟨h, hz, fun _ => by simpa using h0⟩
theorem IsPol.top {f : Nat → Nat} {n m : Nat} (h : IsPol f n) (hm : n ≤ m) : n = topB f m := h.uniq (topB_pol h.lt (fun i hi => h.zero i (by omega)))
end Go.Proofs.YtdjgjffgheocfaaGreat

namespace Go.Proofs.YtdjgjffgheocfaaGreat
open Go.RowKit

theorem bits_and_or_xor (k : IntKind) (j : Nat) (hj : j ≤ k.bits) (hk : ∀ n : Int, 0 ≤ n → n < 2 ^ j → k.wrap n = n) (a b : Nat) (ha : a < 2 ^ j) (hb : b < 2 ^ j) : bits .xor k a b = ((a ^^^ b : Nat) : Int) := by
  have hp : 2 ^ j ≤ 2 ^ k.bits := Nat.pow_le_pow_right (by decide) hj
  have ha' : a % 2 ^ k.bits = a := Nat.mod_eq_of_lt (Nat.lt_of_lt_of_le ha hp)
  have hb' : b % 2 ^ k.bits = b := Nat.mod_eq_of_lt (Nat.lt_of_lt_of_le hb hp)
  have cast : ∀ n : Nat, n < 2 ^ j → ((n : Nat) : Int) < 2 ^ j := fun n h => by exact_mod_cast h
  simp only [bits, BitVec.ofInt_natCast, BitVec.toNat_xor, BitVec.toNat_ofNat, ha', hb']
  exact hk _ (Int.natCast_nonneg _) (cast _ (Nat.xor_lt_two_pow ha hb))
theorem wrap_u16 (n : Int) : IntKind.u16.wrap n = n % 65536 := by simp [IntKind.wrap, IntKind.bits, IntKind.signed]
theorem wraps_u16 (n : Int) (h₀ : 0 ≤ n) (h₁ : n < 2 ^ 16) : IntKind.u16.wrap n = n := by rw [wrap_u16]; omega
theorem wraps_i64 (n : Int) (h₀ : 0 ≤ n) (h₁ : n < 2 ^ 62) : IntKind.i64.wrap n = n := by rw [IntKind.wrap_i64]; omega
theorem xor_u16 {a b : Nat} (ha : a < 65536) (hb : b < 65536) : bits .xor .u16 (a : Int) (b : Int) = ((a ^^^ b : Nat) : Int) := bits_and_or_xor .u16 16 (by decide) wraps_u16 a b ha hb
theorem xor_i64 {a b : Nat} (ha : a < 4294967296) (hb : b < 4294967296) : bits .xor .i64 (a : Int) (b : Int) = ((a ^^^ b : Nat) : Int) :=
  bits_and_or_xor .i64 62 (by decide) wraps_i64 a b (by omega) (by omega)
theorem and_u16 {a b : Nat} (ha : a < 65536) (hb : b < 65536) : bits .and .u16 (a : Int) (b : Int) = ((a &&& b : Nat) : Int) := (bits_nat .u16 16 (by decide) wraps_u16 a b ha hb).1
theorem or_u16 {a b : Nat} (ha : a < 65536) (hb : b < 65536) : bits .or .u16 (a : Int) (b : Int) = ((a ||| b : Nat) : Int) := (bits_nat .u16 16 (by decide) wraps_u16 a b ha hb).2
theorem and_i64 {a b : Nat} (ha : a < 4294967296) (hb : b < 4294967296) : bits .and .i64 (a : Int) (b : Int) = ((a &&& b : Nat) : Int) := (bits_nat .i64 62 (by decide) wraps_i64 a b (by omega) (by omega)).1
theorem or_i64 {a b : Nat} (ha : a < 4294967296) (hb : b < 4294967296) : bits .or .i64 (a : Int) (b : Int) = ((a ||| b : Nat) : Int) := (bits_nat .i64 62 (by decide) wraps_i64 a b (by omega) (by omega)).2
/-- The low ten bits. -/
theorem and_1023 {a : Nat} (ha : a < 65536) : bits .and .u16 (a : Int) 1023 = ((a % 1024 : Nat) : Int) := by
  have := and_u16 ha (b := 1023) (by omega)
  rwa [show a &&& 1023 = a % 1024 from Nat.and_two_pow_sub_one_eq_mod a 10] at this
theorem and_one {a : Nat} (ha : a < 4294967296) : bits .and .i64 (a : Int) 1 = ((a % 2 : Nat) : Int) := by
  have := and_i64 ha (b := 1) (by omega)
  rwa [show a &&& 1 = a % 2 from Nat.and_two_pow_sub_one_eq_mod a 1] at this
theorem xor_mod (a b : Nat) : (a ^^^ b) % 1024 = (a % 1024) ^^^ (b % 1024) := Nat.xor_mod_two_pow (n := 10)
theorem xor_lt16 {a b : Nat} (ha : a < 65536) (hb : b < 65536) : a ^^^ b < 65536 := Nat.xor_lt_two_pow (n := 16) ha hb
end Go.Proofs.YtdjgjffgheocfaaGreat

namespace Go.Proofs.YtdjgjffgheocfaaGreat
open Go.RowKit

/-- A world behind w in which all that was there is as it was. -/
structure KeptBy (w : World) where
  v : World
  h : Keep (fun _ => False) w v

instance (w : World) : Inhabited (KeptBy w) := ⟨⟨w, Keep.refl _ w⟩⟩

theorem KeptBy.cell {w : World} (p : KeptBy w) {a : Addr} {u : Value} (hb : a.block < w.heap.size) (h : w.cell? a = some u) : p.v.cell? a = some u :=
  (p.h.cell (p := a) hb (by simp)).trans h

theorem wp_region_kept {P : Program} {id : Nat} {Q : Exit → Act → World → Prop} {a : Act} {w : World} {l : List Oper} (hm : P.follows .mixedOrders = true) (hB : Region.lexB .any l.toArray = true)
    (h : wpQuiet P l.toArray (fun w' => ∃ p : KeptBy w, w' = p.v) (fun a' => ∀ w', (∃ p : KeptBy w, w' = p.v) → Q .normal a' w') l a) : (Code.region id l.toArray true).wp P Q a w :=
  wp_region_quiet (C := fun w' => ∃ p : KeptBy w, w' = p.v) hm hB ⟨⟨w.drew, (Keep.refl _ w).drew⟩, rfl⟩ (by simpa using h)

theorem kept_of {P : Program} {f : FuncId} {args : Array Value} {w : World} {p : KeptBy w} {v : Value}
    (h : Calls P f args p.v fun e w' => e = .returned v ∧ Keep (fun _ => False) p.v w') : Calls P f args p.v fun e w'' => e = .returned v ∧ ∃ q : KeptBy w, w'' = q.v :=
  h.mono fun _ w' ⟨he, k⟩ => ⟨he, ⟨w', p.h.trans k (fun _ hi => .inl hi)⟩, rfl⟩
end Go.Proofs.YtdjgjffgheocfaaGreat

namespace Go.Proofs.YtdjgjffgheocfaaGreat
open Go.RowKit

section
variable {P : Program} {ops : Array Oper} {md : Region.Mode} {C : World → Prop}

/-- Whatever order is picked among the first n; then T. -/
def headAny (P : Program) (md : Region.Mode) (ops : Array Oper) (C : World → Prop) (n : Nat) (T : Array Bool → Act → Prop) : Nat → Array Bool → Act → Prop
  | 0, listed, a => T listed a
  | m + 1, listed, a => Region.ready md ops listed ≠ [] ∧ ∀ i ∈ Region.ready md ops listed, i < n ∧ qOp P ops C i (headAny P md ops C n T m (listed.setIfInBounds i true)) a

theorem wpAny_of_headAny {n g : Nat} {T : Array Bool → Act → Prop} {Q : Exit → Act → World → Prop} (hT : ∀ listed a w, C w → T listed a → wpAny P md ops Q g listed a w) (m : Nat) :
    ∀ (listed : Array Bool) (a : Act) (w : World), C w → headAny P md ops C n T m listed a → wpAny P md ops Q (m + g) listed a w := by
  induction m with
  | zero =>
    intro listed a w hw h
    rw [Nat.zero_add]
    exact hT listed a w hw h
  | succ m ih =>
    intro listed a w hw h
    rw [show m + 1 + g = (m + g) + 1 by omega]
    exact ⟨fun h0 => absurd h0 h.1, fun i hi => wpOp_of_qOp hw (fun a' w' hw' h' => ih _ a' w' hw' h') (h.2 i hi).2⟩

theorem headAny_first {n i : Nat} {oi : Oper} {v : Value} {T : Array Bool → Act → Prop} (hi : ops[i]? = some oi) (hsel : ∀ (j : Nat) (o : Oper) cs b, ops[j]? = some o → o.op ≠ .select cs b)
    (hs : Region.sinkB md ops n = true) (hc : Region.chainB md ops n = true) (hn : n < ops.size) (hin : i < n) (hT : ∀ listed a, T listed a → ∀ j ∈ Region.ready md ops listed, n ≤ j) (m : Nat) :
    ∀ (listed : Array Bool) (a : Act), HeadInv md ops n listed →
      (∀ j oj, ops[j]? = some oj → j ≠ i → listed.getD j true = false → (∀ e ∈ oj.after, Region.binds md e = true → e.on ≠ i) → oi.apart ops oj = true) →
      i ∈ Region.ready md ops listed → YieldsIn P ops C oi v a →
      headAny P md ops C n T m (listed.setIfInBounds i true) (a.put oi.dst v) → headAny P md ops C n T (m + 1) listed a := by
  have inHead : ∀ (listed : Array Bool), HeadInv md ops n listed → listed.getD i true = false → ∀ j ∈ Region.ready md ops listed, j < n := fun listed inv hun j hj => by
    rcases Nat.lt_or_ge j n with h | h
    · exact h
    · exact absurd hj (tail_waits hs hc hn inv _ i rfl hin hun j h)
  induction m with
  | zero =>
    intro listed a inv _ hr hy H
    have hun := (mem_ready.1 hr).1
    refine ⟨fun h => (by rw [h] at hr; cases hr), fun j hj => ⟨inHead listed inv hun j hj, ?_⟩⟩
    by_cases hji : j = i
    · subst hji
      exact hy.qOp hi H
    · have h1 := hT _ _ H j (ready_mono hj hji)
      have h2 := inHead listed inv hun j hj
      omega
  | succ m ih =>
    intro listed a inv hfree hr hy H
    have hun := (mem_ready.1 hr).1
    refine ⟨fun h => (by rw [h] at hr; cases hr), fun j hj => ⟨inHead listed inv hun j hj, ?_⟩⟩
    by_cases hji : j = i
    · subst hji
      exact hy.qOp hi H
    · obtain ⟨hjun, oj, hoj, hall⟩ := mem_ready.1 hj
      have hnot : ∀ e ∈ oj.after, Region.binds md e = true → e.on ≠ i := fun e he hb heq => by
        have h1 := hall e he hb
        rw [heq, getD_both hun] at h1
        cases h1
      have h1 := (H.2 j (ready_mono hj hji)).2
      have h2 := qOp_put hoj (hfree j oj hoj hji hjun hnot) (fun cs b => hsel i oi cs b hi) (fun cs b => hsel j oj cs b hoj) hy h1
      refine qOp_mono (fun a' h3 => ih (listed.setIfInBounds j true) a' (inv.set hj (inHead listed inv hun j hj)) (fun k ok hk hki hku hno => hfree k ok hk hki ?_ hno) (ready_mono hr (Ne.symm hji)) h3.1 ?_) h2
      · by_cases hjk : j = k
        · subst hjk
          exact hjun
        · rwa [getD_set_ne true hjk] at hku
      · rw [Array.setIfInBounds_comm _ _ hji]
        exact h3.2

theorem headAny_lex {n g : Nat} {K : Act → Prop} (hsel : Region.noSelect ops = true) (hs : Region.sinkB md ops n = true) (hc : Region.chainB md ops n = true) (hn : n < ops.size) (l : List Oper) :
    ∀ (k : Nat) (listed : Array Bool) (a : Act), (∀ j, j < l.length → l[j]? = ops[k + j]?) → k + l.length = n → HeadInv md ops n listed →
    Region.lexHead md ops g l.length k listed = true → wpQuiet P ops C K l a →
    headAny P md ops C n (fun listed' a' => Region.seqB md ops g n listed' = true ∧ K a') l.length listed a := by
  induction l with
  | nil =>
    intro k listed a _ hk _ hB h
    obtain rfl : k = n := by simpa using hk
    exact ⟨by simpa [Region.lexHead] using hB, h⟩
  | cons o l ih =>
    intro k listed a hl hk inv hB h
    have h0 : ops[k]? = some o := by simpa using (hl 0 (by simp)).symm
    simp only [List.length_cons, Region.lexHead, Bool.and_eq_true] at hB
    obtain ⟨⟨hr, hf⟩, hB'⟩ := hB
    simp only [List.length_cons] at hk
    have hkn : k < n := by omega
    have hr' : k ∈ Region.ready md ops listed := by simpa using hr
    have hq : qOp P ops C k (wpQuiet P ops C K l) a := by
      unfold qOp
      simp only [h0]
      exact h
    obtain ⟨v, hy, hK⟩ := yieldsIn_of_qOp h0 hq
    refine headAny_first h0 (Region.noSelect_spec hsel) hs hc hn hkn (fun listed' a' hL => seqB_ready hL.1) l.length listed a inv (Region.free_spec h0 hf) hr' hy ?_
    refine ih (k + 1) _ _ (fun j hj => ?_) (by omega) (inv.set hr' hkn) hB' hK
    have := hl (j + 1) (by simp; omega)
    simpa [Nat.add_assoc, Nat.add_comm 1 j] using this
end

theorem wp_region_class_tail {P : Program} {C : World → Prop} {id : Nat} {Q : Exit → Act → World → Prop} {a : Act} {w : World} {l : List Oper} (n : Nat) (hm : P.follows .mixedOrders = true) (hB : Region.lexTailB .any l.toArray n = true)
    (hC : C { w with drawn := w.drawn + 1 })
    (h : wpQuiet P l.toArray C (fun a' => ∀ w', C w' → wpList P l.toArray Q (l.drop n) a' w') (l.take n) a) : (Code.region id l.toArray true).wp P Q a w := by
  simp only [Region.lexTailB, Bool.and_eq_true, decide_eq_true_eq] at hB
  obtain ⟨⟨⟨⟨hsel, hn⟩, hs⟩, hc⟩, hlex⟩ := hB
  have hn' : n < l.length := by simpa using hn
  have htl : (l.take n).length = n := by simp; omega
  have hdl : (l.drop n).length = l.toArray.size - n := by simp
  have inv0 : HeadInv .any l.toArray n (Array.replicate l.toArray.size false) :=
    ⟨by simp, fun j oj _ hl => (by rw [getD_replicate_false] at hl; cases hl), fun t _ ht => getD_in (by simpa using ht) (getD_replicate_false _ _)⟩
  have H := headAny_lex (P := P) (C := C) (md := .any) (g := l.toArray.size - n) hsel hs hc hn (l.take n) 0 _ a (fun j hj => by
    have hj' : j < n := by omega
    simp [hj']) (by omega) inv0 (by rw [htl]; exact hlex) h
  refine wp_region_any hm ?_
  have H2 := wpAny_of_headAny (Q := Q) (g := l.toArray.size - n) (fun listed a' w' hw' hL => by
    have h3 := wpAny_of_seq (md := .any) (Q' := Q) (l.drop n) n listed a' w' (fun j => by simp [List.getElem?_drop]) (by rw [hdl]; exact hL.1) (hL.2 w' hw')
    rwa [hdl] at h3) _ _ _ _ hC H
  rwa [htl, show n + (l.toArray.size - n) = l.toArray.size by omega] at H2

theorem wp_region_kept_tail {P : Program} {id : Nat} {Q : Exit → Act → World → Prop} {a : Act} {w : World} {l : List Oper} (n : Nat) (hm : P.follows .mixedOrders = true) (hB : Region.lexTailB .any l.toArray n = true)
    (h : wpQuiet P l.toArray (fun w' => ∃ p : KeptBy w, w' = p.v) (fun a' => ∀ w', (∃ p : KeptBy w, w' = p.v) → wpList P l.toArray Q (l.drop n) a' w') (l.take n) a) : (Code.region id l.toArray true).wp P Q a w :=
  wp_region_class_tail (C := fun w' => ∃ p : KeptBy w, w' = p.v) n hm hB ⟨⟨w.drew, (Keep.refl _ w).drew⟩, rfl⟩ h
end Go.Proofs.YtdjgjffgheocfaaGreat

namespace Go.Proofs.YtdjgjffgheocfaaGreat
open Go.ChangeShapes Go.WideShapes Go.ChangeAt Go.RowKit

/-- A slice of numbers of kind k that came in: its element i is zs i. -/
structure ArgInts (k : IntKind) (w : World) (a : Option Addr) (len : Nat) (zs : Nat → Int) : Prop where
  small : len ≤ maxLen
  at_ : 0 < len → ∃ b off, a = some ⟨b, off, none⟩ ∧ b < w.heap.size ∧ ∀ i, i < len → w.cell? ⟨b, off + i, none⟩ = some (.int k (zs i))
  wf : ∀ i, i < len → (Lit.int k (zs i)).wf = true

theorem ArgInts.keep {k : IntKind} {w w' : World} {a : Option Addr} {len : Nat} {zs : Nat → Int} (h : ArgInts k w a len zs) (hk : Keep (fun _ => False) w w') : ArgInts k w' a len zs :=
  ⟨h.small, fun h0 => by
    obtain ⟨b, off, e, hb, hc⟩ := h.at_ h0
    exact ⟨b, off, e, Nat.lt_of_lt_of_le hb hk.size, fun i hi => (hk.cell (p := ⟨b, off + i, none⟩) hb (by simp)).trans (hc i hi)⟩, h.wf⟩

theorem argInts_of {H : Type} {enc : TypeId × Value → H} {P : Program} {t e : TypeId} {k : IntKind} {w : World} {base : Nat} {a : Option Addr} {len cap : Nat} {d : DataW H} {ps : List MemPlace} {sp : Nat → Bool}
    (ht : P.underlying t = some (.slice e)) (he : P.underlying e = some (.int k)) (hce : P.cellsOf e = 1)
    (h : DataW.Trod enc P w base sp true t (.slice a len cap) d ps) : ∃ zs, ArgInts k w a len zs := by
  obtain ⟨fuel, hf⟩ := h
  rcases open_ints ht he hce hf with ⟨hcs, _⟩ | ⟨x, l, c, zs, hcs, _, hl, hm, hz, _, hcell, hwz⟩
  · simp [Value.cells] at hcs
    obtain ⟨rfl, rfl, rfl⟩ := hcs
    exact ⟨fun _ => 0, by unfold maxLen; omega, fun h => by omega, fun i hi => by omega⟩
  · simp [Value.cells] at hcs
    obtain ⟨rfl, rfl, rfl⟩ := hcs
    have hz' : len ≤ zs.length := by rw [hz]; split <;> omega
    refine ⟨fun i => zs.getD i 0, by omega, fun h0 => ?_, fun i hi => ?_⟩
    · have hc0 := hcell 0 (by omega)
      obtain ⟨b, off, spot⟩ := x
      have hs : spot = none := by simpa [Addr.add] using World.cell?_spot hc0
      subst hs
      refine ⟨b, off, rfl, ?_, fun i hi => ?_⟩
      · have := World.block_lt_of_cell? _ _ hc0
        simpa [Addr.add] using this
      · have := hcell i (by omega)
        by_cases hi0 : i = 0
        · subst hi0; simpa [Addr.add] using this
        · simpa [Addr.add, hi0] using this
    · have hi' : i < zs.length := by omega
      simp only [List.getD, List.getElem?_eq_getElem hi', Option.getD_some]
      exact hwz _ (List.getElem_mem hi')
end Go.Proofs.YtdjgjffgheocfaaGreat
