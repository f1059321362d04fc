/- Contracts of package lmap: rows, New. -/
import Derived.Test.YtdjgjffgheocfaaGreatBase
import Derived.Test.YtdjgjffgheocfaaGreatVset
import Derived.Test.YtdjgjffgheocfaaGreatVnew
import Derived.Outline
namespace Go.Proofs.YtdjgjffgheocfaaGreat
open Go.RowKit

/-- A place that may be none, as a number. -/
def optI : Option Nat → Int
  | none => -1
  | some p => p
def optArr (A : Nat → Option Nat) (n : Nat) : Array Value := valsArr (fun i => .int .i64 (optI (A i))) n
theorem optI_none (o : Option Nat) : optI o = -1 ↔ o = none := by
  cases o <;> simp [optI]
theorem optI_ge (o : Option Nat) : -1 ≤ optI o := by cases o <;> simp [optI]

theorem Tryz.info_intL : (Tryz.prog.info? 3).map (fun i => (i.zero, i.size, i.bytes)) = some (some (.int .i64 0), 1, 8) := by kernel_rfl

theorem rows_any (n : Nat) (hn : n ≤ 1048576) (w : World) :
    Calls Tryz.prog 73 #[.int .i64 n] w fun e w' => e = .returned (.slice (some ⟨w.heap.size, 0, none⟩) n n) ∧ Blk w' w.heap.size 3 (optArr (fun _ => none) n) ∧ Keep (fun _ => False) w w' := by
  have hm := make_vals (P := Tryz.prog) Tryz.underlying43 Tryz.info_intL rfl n n rfl (by omega) (by omega)
  go_enter Tryz.func73, Tryz.ntmps73
  go_wp2_with fail
  clear hm
  go_loopw [9] (fun i wr => ∃ j : Nat, j ≤ n ∧ i = .int .i64 j ∧ Blk wr w.heap.size 3 (valsArr (fun k => .int .i64 (if k < j then -1 else 0)) n) ∧ Keep (fun _ => False) w wr) (fun i _ => n - (intOf i).toNat)
  case atStart =>
    refine ⟨0, Nat.zero_le _, rfl, ?_, (Keep.refl _ _).alloc _⟩
    have := Blk.new w 3 (valsArr (fun _ => .int .i64 0) n)
    simpa using this
  case round =>
    obtain ⟨j, hj, rfl, hb, hk⟩ := hrel
    by_cases hjn : j < n
    · have hc := hb.val hjn
      have hz := hb.frozen j
      have hjn' : (j : Int) < (n : Int) := by omega
      go_wp2_with fail
      go_roundw
      case rel =>
        refine ⟨j + 1, by omega, by go_num, ?_, hk.setCell (p := ⟨w.heap.size, j, none⟩) (.inr (Nat.le_refl _)) _⟩
        have := hb.store j (.int .i64 (-1))
        rwa [valsArr_congr (h := fun k => .int .i64 (if k < j + 1 then -1 else 0))] at this
        intro i hi
        by_cases h1 : i = j
        · subst h1; simp
        · by_cases h2 : i < j
          · simp [h1, h2, show i < j + 1 by omega]
          · simp [h1, h2, show ¬ i < j + 1 by omega]
      case measure => simp [intOf]; omega
    · go_wp2
      go_ret
      refine ⟨rfl, ?_, hk⟩
      have e : optArr (fun _ => none) n = valsArr (fun k => .int .i64 (if k < j then -1 else 0)) n := valsArr_congr fun i hi => by simp [optI, show i < j by omega]
      rw [e]
      exact hb

/-- Where a map lies: its struct, its two rows, its bits (the struct's block, the words' block); how many of both there are. -/
structure LM where
  mb : Nat
  ab : Nat
  ob : Nat
  pb : Nat
  sb : Nat
  L : Nat
  P : Nat

def updO (A : Nat → Option Nat) (i : Nat) (v : Option Nat) : Nat → Option Nat := fun k => if k = i then v else A k
theorem updO_same (A : Nat → Option Nat) (i : Nat) (v : Option Nat) : updO A i v i = v := by simp [updO]
theorem updO_ne (A : Nat → Option Nat) {i k : Nat} (v : Option Nat) (h : k ≠ i) : updO A i v k = A k := by simp [updO, h]

/-- The cells of a map: who lies where, both ways; its bits; how many. -/
structure RawMap (m : LM) (A O : Nat → Option Nat) (f : Nat → Bool) (many : Int) (w : World) : Prop where
  hL : m.L ≤ 1048576
  hP : m.P ≤ 1048576
  ne : m.ab ≠ m.ob
  hm : Blk w m.mb 147 #[.slice (some ⟨m.ab, 0, none⟩) m.L m.L, .slice (some ⟨m.ob, 0, none⟩) m.P m.P, .pointer (some ⟨m.pb, 0, none⟩), .int .i64 many]
  ha : Blk w m.ab 3 (optArr A m.L)
  ho : Blk w m.ob 3 (optArr O m.P)
  hb : IsBits w m.pb m.sb m.P f

section
variable {m : LM} {A O : Nat → Option Nat} {f : Nat → Bool} {many : Int} {w w' : World}
theorem RawMap.c0 (h : RawMap m A O f many w) : w.cell? ⟨m.mb, 0, none⟩ = some (.slice (some ⟨m.ab, 0, none⟩) m.L m.L) := by rw [h.hm.cell]; rfl
theorem RawMap.c1 (h : RawMap m A O f many w) : w.cell? ⟨m.mb, 1, none⟩ = some (.slice (some ⟨m.ob, 0, none⟩) m.P m.P) := by rw [h.hm.cell]; rfl
theorem RawMap.c2 (h : RawMap m A O f many w) : w.cell? ⟨m.mb, 2, none⟩ = some (.pointer (some ⟨m.pb, 0, none⟩)) := by rw [h.hm.cell]; rfl
theorem RawMap.c3 (h : RawMap m A O f many w) : w.cell? ⟨m.mb, 3, none⟩ = some (.int .i64 many) := by rw [h.hm.cell]; rfl
theorem RawMap.at_ (h : RawMap m A O f many w) {l : Nat} (hl : l < m.L) : w.cell? ⟨m.ab, l, none⟩ = some (.int .i64 (optI (A l))) := h.ha.val hl
theorem RawMap.own (h : RawMap m A O f many w) {p : Nat} (hp : p < m.P) : w.cell? ⟨m.ob, p, none⟩ = some (.int .i64 (optI (O p))) := h.ho.val hp
theorem RawMap.ids (h : RawMap m A O f many w) : m.mb ≠ m.ab ∧ m.mb ≠ m.ob ∧ m.mb ≠ m.pb ∧ m.mb ≠ m.sb ∧ m.ab ≠ m.pb ∧ m.ab ≠ m.sb ∧ m.ob ≠ m.pb ∧ m.ob ≠ m.sb ∧ m.pb ≠ m.sb :=
  ⟨h.hm.ne h.ha (by decide), h.hm.ne h.ho (by decide), h.hm.ne h.hb.hp (by decide), h.hm.ne h.hb.hs (by decide), h.ha.ne h.hb.hp (by decide), h.ha.ne h.hb.hs (by decide), h.ho.ne h.hb.hp (by decide), h.ho.ne h.hb.hs (by decide), h.hb.hp.ne h.hb.hs (by decide)⟩
theorem IsBits.keep {S : Nat → Prop} {w w' : World} {pb sb n : Nat} {f : Nat → Bool} (h : IsBits w pb sb n f) (hk : Keep S w w') (hp : ¬ S pb) (hs : ¬ S sb) : IsBits w' pb sb n f :=
  ⟨h.hn, h.hp.keep hk hp, h.hs.keep hk hs, h.hf⟩
theorem IsBits.drewN {w : World} {pb sb n : Nat} {f : Nat → Bool} (h : IsBits w pb sb n f) (k : Nat) : IsBits (w.drewN k) pb sb n f := ⟨h.hn, h.hp.drewN k, h.hs.drewN k, h.hf⟩
theorem RawMap.keep {S : Nat → Prop} (h : RawMap m A O f many w) (hk : Keep S w w') (h1 : ¬ S m.mb) (h2 : ¬ S m.ab) (h3 : ¬ S m.ob) (h4 : ¬ S m.pb) (h5 : ¬ S m.sb) : RawMap m A O f many w' :=
  ⟨h.hL, h.hP, h.ne, h.hm.keep hk h1, h.ha.keep hk h2, h.ho.keep hk h3, h.hb.keep hk h4 h5⟩
theorem RawMap.drewN (h : RawMap m A O f many w) (k : Nat) : RawMap m A O f many (w.drewN k) := ⟨h.hL, h.hP, h.ne, h.hm.drewN k, h.ha.drewN k, h.ho.drewN k, h.hb.drewN k⟩
theorem RawMap.drew (h : RawMap m A O f many w) : RawMap m A O f many w.drew := h.drewN 1
theorem RawMap.setBits {f' : Nat → Bool} (h : RawMap m A O f many w) (hk : Keep (· = m.sb) w w') (hb : IsBits w' m.pb m.sb m.P f') : RawMap m A O f' many w' := by
  obtain ⟨i1, i2, i3, i4, i5, i6, i7, i8, i9⟩ := h.ids
  exact ⟨h.hL, h.hP, h.ne, h.hm.keep hk i4, h.ha.keep hk i6, h.ho.keep hk i8, hb⟩
theorem optArr_set (A : Nat → Option Nat) (n i : Nat) (v : Option Nat) : valsArr (fun k => if k = i then .int .i64 (optI v) else .int .i64 (optI (A k))) n = optArr (updO A i v) n :=
  valsArr_congr fun k _ => by
    unfold updO
    split <;> rfl
theorem RawMap.setAt (h : RawMap m A O f many w) (l : Nat) (v : Option Nat) : RawMap m (updO A l v) O f many (w.setCell ⟨m.ab, l, none⟩ (.int .i64 (optI v))) := by
  obtain ⟨i1, i2, i3, i4, i5, i6, i7, i8, i9⟩ := h.ids
  have hk : Keep (· = m.ab) w (w.setCell ⟨m.ab, l, none⟩ (.int .i64 (optI v))) := (Keep.refl (· = m.ab) w).setCell (p := ⟨m.ab, l, none⟩) (.inl rfl) _
  have ha := h.ha.store l (.int .i64 (optI v))
  rw [optArr_set] at ha
  exact ⟨h.hL, h.hP, h.ne, h.hm.keep hk i1, ha, h.ho.keep hk (fun e => h.ne e.symm), h.hb.keep hk (fun e => i5 e.symm) (fun e => i6 e.symm)⟩
theorem RawMap.setOwn (h : RawMap m A O f many w) (p : Nat) (v : Option Nat) : RawMap m A (updO O p v) f many (w.setCell ⟨m.ob, p, none⟩ (.int .i64 (optI v))) := by
  obtain ⟨i1, i2, i3, i4, i5, i6, i7, i8, i9⟩ := h.ids
  have hk : Keep (· = m.ob) w (w.setCell ⟨m.ob, p, none⟩ (.int .i64 (optI v))) := (Keep.refl (· = m.ob) w).setCell (p := ⟨m.ob, p, none⟩) (.inl rfl) _
  have ho := h.ho.store p (.int .i64 (optI v))
  rw [optArr_set] at ho
  exact ⟨h.hL, h.hP, h.ne, h.hm.keep hk i2, h.ha.keep hk h.ne, ho, h.hb.keep hk (fun e => i7 e.symm) (fun e => i8 e.symm)⟩
theorem RawMap.setMany (h : RawMap m A O f many w) (k : Int) : RawMap m A O f k (w.setCell ⟨m.mb, 3, none⟩ (.int .i64 k)) := by
  obtain ⟨i1, i2, i3, i4, i5, i6, i7, i8, i9⟩ := h.ids
  have hk : Keep (· = m.mb) w (w.setCell ⟨m.mb, 3, none⟩ (.int .i64 k)) := (Keep.refl (· = m.mb) w).setCell (p := ⟨m.mb, 3, none⟩) (.inl rfl) _
  exact ⟨h.hL, h.hP, h.ne, h.hm.put 3 (.int .i64 k), h.ha.keep hk (fun e => i1 e.symm), h.ho.keep hk (fun e => i2 e.symm), h.hb.keep hk (fun e => i3 e.symm) (fun e => i4 e.symm)⟩
end

/-- How many lie. -/
def mny (A : Nat → Option Nat) : Nat → Nat
  | 0 => 0
  | n + 1 => mny A n + if (A n).isSome then 1 else 0
theorem mny_le (A : Nat → Option Nat) (n : Nat) : mny A n ≤ n := by
  induction n with
  | zero => simp [mny]
  | succ n ih => unfold mny; split <;> omega
theorem mny_upd (A : Nat → Option Nat) (i : Nat) (v : Option Nat) (n : Nat) : mny (updO A i v) n + (if i < n ∧ (A i).isSome = true then 1 else 0) = mny A n + (if i < n ∧ v.isSome = true then 1 else 0) := by
  induction n with
  | zero => simp [mny]
  | succ n ih =>
    unfold mny
    by_cases h : n = i
    · subst h
      rw [updO_same]
      have h1 : ¬ n < n := by omega
      have h2 : n < n + 1 := by omega
      simp only [h1, false_and, if_false] at ih
      simp only [h2, true_and]
      omega
    · rw [updO_ne A v h]
      have : (i < n + 1) = (i < n) := by apply propext; omega
      simp only [this]
      omega

/-- A map: who lies where and who owns what agree. -/
structure IsMap (m : LM) (A O : Nat → Option Nat) (w : World) : Prop where
  raw : RawMap m A O (fun p => (O p).isSome) (mny A m.L) w
  con : ∀ l p, A l = some p ↔ O p = some l
  dom : ∀ l p, A l = some p → l < m.L ∧ p < m.P
def mapS (m : LM) : Nat → Prop := fun k => k = m.mb ∨ k = m.ab ∨ k = m.ob ∨ k = m.sb
theorem IsMap.keep {S : Nat → Prop} {m : LM} {A O : Nat → Option Nat} {w w' : World} (h : IsMap m A O w) (hk : Keep S w w') (h1 : ¬ S m.mb) (h2 : ¬ S m.ab) (h3 : ¬ S m.ob) (h4 : ¬ S m.pb) (h5 : ¬ S m.sb) : IsMap m A O w' :=
  ⟨h.raw.keep hk h1 h2 h3 h4 h5, h.con, h.dom⟩

theorem new_map (L P : Nat) (hL : L ≤ 1048576) (hP : P ≤ 1048576) (w : World) :
    Calls Tryz.prog 47 #[.int .i64 L, .int .i64 P] w fun e w' => ∃ m : LM, e = .returned (.tuple #[.pointer (some ⟨m.mb, 0, none⟩), .int .i64 0]) ∧ IsMap m (fun _ => none) (fun _ => none) w' ∧ Keep (fun _ => False) w w' ∧ m.L = L ∧ m.P = P ∧
      w.heap.size ≤ m.mb ∧ w.heap.size ≤ m.ab ∧ w.heap.size ≤ m.ob ∧ w.heap.size ≤ m.pb ∧ w.heap.size ≤ m.sb := by
  go_enter Tryz.func47, Tryz.ntmps47
  go_wp2_with fail
  refine (rows_any L hL _).mono ?_
  rintro e w1 ⟨rfl, b1, k1⟩
  go_wp2_with fail
  refine (rows_any P hP _).mono ?_
  rintro e w2 ⟨rfl, b2, k2⟩
  go_wp2_with fail
  refine (new_any P P _ (.inr (.inl ⟨rfl, hP⟩))).mono ?_
  rintro e w3 ⟨rfl, b3, k3⟩
  go_wp2_with fail
  go_ret2
  have z1 := b1.lt
  have z2 := b2.lt
  have z3 := b3.hp.lt
  have zz := k2.size
  have n1 := (b1.keep k2 (by simp)).keep k3 (by simp)
  have n2 := b2.keep k3 (by simp)
  refine ⟨⟨w3.heap.size, w.heap.size, w1.heap.size, w2.heap.size + 1, w2.heap.size, L, P⟩, rfl, ⟨⟨hL, hP, by show w.heap.size ≠ w1.heap.size; omega, ?_, n1.alloc _, n2.alloc _, b3.keep ((Keep.refl (fun _ => False) w3).alloc _) (by simp) (by simp)⟩, by simp, by simp⟩, ((k1.trans k2 (fun i hi => .inl hi)).trans k3 (fun i hi => .inl hi)).alloc _, rfl, rfl, ?_, Nat.le_refl _, ?_, ?_, ?_⟩
  · have e0 : mny (fun _ => none) L = 0 := by
      have h1 : ∀ n, mny (fun _ => none) n = 0 := fun n => by
        induction n with
        | zero => rfl
        | succ n ih => simp [mny, ih]
      exact h1 L
    show Blk _ _ _ #[_, _, _, .int .i64 ((mny (fun _ => none) L : Nat) : Int)]
    rw [e0]
    exact Blk.new w3 _ _
  · show w.heap.size ≤ w3.heap.size
    omega
  · show w.heap.size ≤ w1.heap.size
    omega
  · show w.heap.size ≤ w2.heap.size + 1
    omega
  · show w.heap.size ≤ w2.heap.size
    omega
end Go.Proofs.YtdjgjffgheocfaaGreat
