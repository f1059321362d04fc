/- The words for rate.Worst: the events that came in, where the count stands. -/
import Derived.Test.YtaepllaipdacjaaGeo2
import Derived.Test.YtaepllaipdacjaaVals
import Derived.Outline
import Derived.StillTailTactics
import Derived.Deep.DeepCutAuto
import Derived.Deep.CutBlock
namespace Go.Proofs.Ytaepllaipdacjaa
open Go.RowKit

/-- The events that came in: what they do, their pages, their cells; the rest of each is whatever it is. -/
structure ArgEvents (w : World) (a : Option Addr) (len : Nat) (D G C : Nat → Int) : Prop where
  at_ : 0 < len → ∃ b off, a = some ⟨b, off, none⟩ ∧ b < w.heap.size ∧ ∀ i, i < len → ∃ l re im q yl yc, w.cell? ⟨b, off + i * 6, none⟩ = some (.int .i64 (D i)) ∧ w.cell? ⟨b, off + i * 6 + 1, none⟩ = some (.int .i64 l) ∧
    w.cell? ⟨b, off + i * 6 + 2, none⟩ = some (.int .i64 (G i)) ∧ w.cell? ⟨b, off + i * 6 + 3, none⟩ = some (.int .i64 (C i)) ∧ w.cell? ⟨b, off + i * 6 + 4, none⟩ = some (.complex .f64 re im) ∧ w.cell? ⟨b, off + i * 6 + 5, none⟩ = some (.slice q yl yc)
  small : len ≤ maxLen

/-- Where the count stands. -/
structure RSt where
  C : Nat → Nat → Nat
  worst : Nat
  t : Nat
def RSt.start : RSt := ⟨fun _ _ => 0, 0, 0⟩
def RSt.tick (s : RSt) (N : Nat) : RSt := ⟨fun n j => if n = s.t % N then 0 else s.C n j, s.worst, s.t + 1⟩
def RSt.drift (s : RSt) (n j : Nat) : RSt := ⟨fun n' j' => if n' = n ∧ j' = j then s.C n j + 1 else s.C n' j', Nat.max s.worst (s.C n j + 1), s.t⟩
def Hits (N L : Nat) (g c : Int) : Prop := 0 ≤ g ∧ g < N ∧ 0 ≤ c ∧ c < L
instance (N L : Nat) (g c : Int) : Decidable (Hits N L g c) := by unfold Hits; infer_instance
def RSt.step (s : RSt) (N m L : Nat) (d g c : Int) : RSt :=
  if d = 5 then s.tick N else if d = 6 ∧ Hits N L g c then s.drift g.toNat (c.toNat % m) else s
def rateAt (N m L : Nat) (D G C : Nat → Int) : Nat → RSt
  | 0 => RSt.start
  | i + 1 => (rateAt N m L D G C i).step N m L (D i) (G i) (C i)
/-- No number in it is more than i. -/
structure RSt.Le (s : RSt) (i : Nat) : Prop where
  C_ : ∀ n j, s.C n j ≤ i
  w_ : s.worst ≤ i
  t_ : s.t ≤ i
theorem RSt.Le.step {s : RSt} {i N m L : Nat} (h : s.Le i) (d g c : Int) : (s.step N m L d g c).Le (i + 1) := by
  obtain ⟨h1, h2, h3⟩ := h
  unfold RSt.step
  split
  · refine ⟨fun n j => ?_, Nat.le_succ_of_le h2, Nat.succ_le_succ h3⟩
    show (if n = s.t % N then 0 else s.C n j) ≤ i + 1
    have := h1 n j
    split <;> omega
  · split
    · refine ⟨fun n j => ?_, ?_, Nat.le_succ_of_le h3⟩
      · show (if n = g.toNat ∧ j = c.toNat % m then s.C g.toNat (c.toNat % m) + 1 else s.C n j) ≤ i + 1
        have a := h1 n j
        have b := h1 g.toNat (c.toNat % m)
        split <;> omega
      · show Nat.max _ _ ≤ _
        have b := h1 g.toNat (c.toNat % m)
        exact Nat.max_le.2 ⟨by omega, by omega⟩
    · exact ⟨fun n j => Nat.le_succ_of_le (h1 n j), Nat.le_succ_of_le h2, Nat.le_succ_of_le h3⟩
theorem rateAt_le (N m L : Nat) (D G C : Nat → Int) (i : Nat) : (rateAt N m L D G C i).Le i := by
  induction i with
  | zero => exact ⟨fun _ _ => Nat.le_refl _, Nat.le_refl _, Nat.le_refl _⟩
  | succ i ih => exact ih.step _ _ _

/-- The counts in memory. -/
abbrev countArr (C : Nat → Nat → Nat) (N : Nat) : Array Value := valsArr (fun k => .int .i64 (C (k / 4) (k % 4))) (N * 4)
theorem Try.info_count : (Try.prog.info? 44).map (fun i => (i.zero, i.size, i.bytes)) = some (some (.agg #[.int .i64 0, .int .i64 0, .int .i64 0, .int .i64 0]), 4, 32) := by kernel_rfl
theorem made_count (N : Nat) : madeCells #[.int .i64 0, .int .i64 0, .int .i64 0, .int .i64 0] (N * 4) = countArr (fun _ _ => 0) N := by
  apply Array.ext_getElem?
  intro i
  by_cases hi : i < N * 4
  · have h4 : i % 4 = 0 ∨ i % 4 = 1 ∨ i % 4 = 2 ∨ i % 4 = 3 := by omega
    rcases h4 with h | h | h | h <;> simp [madeCells, valsArr, hi, h]
  · simp [madeCells, valsArr, hi]
theorem make_count (x : Int) (N : Nat) (hx : x = N) (hN : N ≤ 2048) (w : World) :
    (Instr.makeSlice 37 (.int .i64 x) (.int .i64 x)).run Try.prog w = .ok (.slice (some ⟨w.heap.size, 0, none⟩) N N) (w.alloc (.cells (countArr (fun _ _ => 0) N) 44)) := by
  subst hx
  rw [← made_count]
  obtain ⟨i, hi, hzz⟩ := Option.map_eq_some_iff.1 Try.info_count
  simp only [Prod.mk.injEq] at hzz
  obtain ⟨hz, hs, hb⟩ := hzz
  have hr := run_make (P := Try.prog) w 37 44 i _ Try.underlying37 hi hz .i64 .i64 N N (by omega) (Int.le_refl _) (by rw [hb]; omega) (by omega)
  simp only [Int.toNat_natCast, hs] at hr
  exact hr

/-- What the loop holds on to. -/
structure RateAt (w : World) (gb mb N : Nat) (B P W K : Int) (C : Nat → Nat → Nat) (wr : World) : Prop where
  geo : Blk wr gb 24 #[.int .i64 B, .int .i64 P, .int .i64 W, .int .i64 K]
  cnt : Blk wr mb 44 (countArr C N)
  keep : Keep (fun _ => False) w wr
  gm : gb < mb
  wg : w.heap.size ≤ gb
section
variable {w wr w' : World} {gb mb N : Nat} {B P W K : Int} {C : Nat → Nat → Nat}
theorem RateAt.kept (h : RateAt w gb mb N B P W K C wr) (k : Keep (fun _ => False) wr w') : RateAt w gb mb N B P W K C w' :=
  ⟨h.geo.keep k (by simp), h.cnt.keep k (by simp), h.keep.trans k (fun _ hi => .inl hi), h.gm, h.wg⟩
theorem RateAt.alloc (h : RateAt w gb mb N B P W K C wr) (o : Obj) : RateAt w gb mb N B P W K C (wr.alloc o) := h.kept ((Keep.refl _ wr).alloc o)
theorem RateAt.drew (h : RateAt w gb mb N B P W K C wr) : RateAt w gb mb N B P W K C wr.drew := h.kept ((Keep.refl _ wr).drew)
theorem RateAt.drewN (h : RateAt w gb mb N B P W K C wr) (n : Nat) : RateAt w gb mb N B P W K C (wr.drewN n) := h.kept ((Keep.refl _ wr).drewN n)
theorem RateAt.c0 (h : RateAt w gb mb N B P W K C wr) : wr.cell? ⟨gb, 0, none⟩ = some (.int .i64 B) := by rw [h.geo.cell]; rfl
theorem RateAt.c1 (h : RateAt w gb mb N B P W K C wr) : wr.cell? ⟨gb, 1, none⟩ = some (.int .i64 P) := by rw [h.geo.cell]; rfl
theorem RateAt.c2 (h : RateAt w gb mb N B P W K C wr) : wr.cell? ⟨gb, 2, none⟩ = some (.int .i64 W) := by rw [h.geo.cell]; rfl
theorem RateAt.c3 (h : RateAt w gb mb N B P W K C wr) : wr.cell? ⟨gb, 3, none⟩ = some (.int .i64 K) := by rw [h.geo.cell]; rfl
theorem RateAt.cell (h : RateAt w gb mb N B P W K C wr) {n j : Nat} (hn : n < N) (hj : j < 4) : wr.cell? ⟨mb, n * 4 + j, none⟩ = some (.int .i64 (C n j)) := by
  rw [h.cnt.val (by omega)]
  have e1 : (n * 4 + j) / 4 = n := by omega
  have e2 : (n * 4 + j) % 4 = j := by omega
  simp only [e1, e2]
theorem RateAt.frozen (h : RateAt w gb mb N B P W K C wr) (i : Nat) : wr.frozen? ⟨mb, i, none⟩ = false := h.cnt.frozen i
/-- One cell set. -/
theorem RateAt.set (h : RateAt w gb mb N B P W K C wr) {n j : Nat} (hj : j < 4) (x : Nat) : RateAt w gb mb N B P W K (fun n' j' => if n' = n ∧ j' = j then x else C n' j') (wr.setCell ⟨mb, n * 4 + j, none⟩ (.int .i64 x)) := by
  have hg := h.gm
  have hw := h.wg
  refine ⟨h.geo.far (by simp; omega) _, ?_, h.keep.setCell (.inr (by show w.heap.size ≤ mb; omega)) _, h.gm, h.wg⟩
  have := h.cnt.store (n * 4 + j) (.int .i64 x)
  rwa [valsArr_congr (h := fun k => .int .i64 ((if k / 4 = n ∧ k % 4 = j then x else C (k / 4) (k % 4) : Nat) : Int)) fun k hk => by
    by_cases e : k = n * 4 + j
    · subst e
      have e1 : (n * 4 + j) / 4 = n := by omega
      have e2 : (n * 4 + j) % 4 = j := by omega
      simp [e1, e2]
    · have : ¬ (k / 4 = n ∧ k % 4 = j) := by omega
      simp [e, this]] at this
end

theorem RateAt.congr {w wr : World} {gb mb N : Nat} {B P W K : Int} {C C' : Nat → Nat → Nat} (h : RateAt w gb mb N B P W K C wr) (e : ∀ n j, j < 4 → C n j = C' n j) : RateAt w gb mb N B P W K C' wr :=
  ⟨h.geo, by
    have := h.cnt
    unfold countArr at this ⊢
    rwa [valsArr_congr (h := fun k => .int .i64 (C' (k / 4) (k % 4))) fun k _ => by rw [e _ _ (by omega)]] at this, h.keep, h.gm, h.wg⟩
theorem number_page (B P W K : Int) (q : Nat) (w : World) (h : GeoOk B P W K) (hq : (q : Int) < B * P) :
    Calls Try.prog 13 #[geoV B P W K, .int .i64 ((q : Int) / P), .int .i64 ((q : Int) % P)] w fun e w' => e = .returned (.tuple #[.int .i64 q, .bool true]) ∧ Keep (fun _ => False) w w' := by
  obtain ⟨m0, m1⟩ := mul_count h.b0 h.b1 h.p0 h.p1
  have p0 := h.p0
  obtain ⟨a1, a2, a3, a4, a5, a6⟩ := page_facts (B := B) (P := P) (q := q) rfl (by omega) (by omega) hq
  refine (number_any B P W K _ _ w h a1 a2 a3 a4 (by omega) a6).mono ?_
  rintro e w' ⟨rfl, k⟩
  rw [a5]
  exact ⟨rfl, k⟩
theorem step_tick (s : RSt) (N m L : Nat) (g c : Int) : s.step N m L 5 g c = s.tick N := by simp [RSt.step]
theorem RateAt.tick {w wr : World} {gb mb N : Nat} {B P W K : Int} {s : RSt} (h : RateAt w gb mb N B P W K s.C wr) {n : Nat} (hn : n = s.t % N) :
    RateAt w gb mb N B P W K (s.tick N).C ((((wr.setCell ⟨mb, n * 4, none⟩ (.int .i64 0)).setCell ⟨mb, n * 4 + 1, none⟩ (.int .i64 0)).setCell ⟨mb, n * 4 + 2, none⟩ (.int .i64 0)).setCell ⟨mb, n * 4 + 3, none⟩ (.int .i64 0)) := by
  have := (((h.set (n := n) (j := 0) (by omega) 0).set (n := n) (j := 1) (by omega) 0).set (n := n) (j := 2) (by omega) 0).set (n := n) (j := 3) (by omega) 0
  refine this.congr fun n' j' hj => ?_
  subst hn
  show _ = if n' = s.t % N then 0 else s.C n' j'
  by_cases e : n' = s.t % N
  · obtain rfl | rfl | rfl | rfl : j' = 0 ∨ j' = 1 ∨ j' = 2 ∨ j' = 3 := by omega
    all_goals simp [e]
  · simp [e]

theorem max_int (a b : Nat) : (if (a : Int) < (b : Int) + 1 then (b : Int) + 1 else (a : Int)) = ((Nat.max a (b + 1) : Nat) : Int) := by
  rw [show Nat.max a (b + 1) = max a (b + 1) from rfl]
  split <;> omega
theorem step_none (s : RSt) (N m L : Nat) (d g c : Int) (h5 : d ≠ 5) (h : ¬ (d = 6 ∧ Hits N L g c)) : s.step N m L d g c = s := by simp [RSt.step, h5, h]
theorem step_drift (s : RSt) (N m L : Nat) (g c : Int) (h : Hits N L g c) : s.step N m L 6 g c = s.drift g.toNat (c.toNat % m) := by simp [RSt.step, h]
theorem cells_at (B P W K : Int) (L : Nat) (w : World) (h : GeoOk B P W K) (hL : W * (K + 16) = L) :
    Calls Try.prog 14 #[geoV B P W K] w fun e w' => e = .returned (.int .i64 L) ∧ Keep (fun _ => False) w w' := by
  rw [← hL]
  exact cells_any B P W K w h

/-- A complex number stored: it lies in one cell. -/
theorem run_store_complex (P : Program) (w : World) (a : Addr) (m : Mode) (k : FloatKind) (x y) : (store a (.complex k x y) m).run P w = stored P w a (.complex k x y) m := run_store P w a _ m rfl

end Go.Proofs.Ytaepllaipdacjaa
