/- The walk of blackboardlaw14.ValidPlays: it answers true, and leaves alone what was there. -/
import Derived.Test.YtkkjfooijegpoaaDoorVlawSums
import Derived.Deep.RegionHeld3
import Derived.Deep.QuietTactic
import Derived.BigQuiet
import Derived.Outline
namespace Go.Proofs.YtkkjfooijegpoaaDoor
open Go.RowKit

/-- The deeds that came in. -/
structure ArgDeeds (w : World) (a : Option Addr) (len : Nat) (D A B : Nat → Int) (On : Nat → Bool) : Prop where
  at_ : 0 < len → ∃ b off, a = some ⟨b, off, none⟩ ∧ b < w.heap.size ∧ ∀ i, i < len → w.cell? ⟨b, off + i * 4, none⟩ = some (.int .i64 (D i)) ∧ w.cell? ⟨b, off + i * 4 + 1, none⟩ = some (.int .i64 (A i)) ∧ w.cell? ⟨b, off + i * 4 + 2, none⟩ = some (.int .i64 (B i)) ∧ w.cell? ⟨b, off + i * 4 + 3, none⟩ = some (.bool (On i))
  small : len ≤ maxLen

def boolsArr (f : Nat → Bool) (n : Nat) : Array Value := Array.ofFn (n := n) fun j => .bool (f j)
theorem Tryd.info_bool : (Tryd.prog.info? 4).map (fun i => (i.zero, i.size, i.bytes)) = some (some (.bool false), 1, 1) := by kernel_rfl
theorem bools_made (m : Nat) : madeCells #[Value.bool false] m = boolsArr (fun _ => false) m := by
  apply Array.ext_getElem?
  intro i
  by_cases hi : i < m
  · simp [madeCells, boolsArr, hi, Nat.mod_one]
  · simp [madeCells, boolsArr, hi]
theorem make_bools (m : Nat) (hm : m ≤ 20000) (w : World) :
    (Instr.makeSlice 27 (.int .i64 m) (.int .i64 m)).run Tryd.prog w = .ok (.slice (some ⟨w.heap.size, 0, none⟩) m m) (w.alloc (.cells (boolsArr (fun _ => false) m) 4)) := by
  rw [← bools_made]
  exact run_make_row' (P := Tryd.prog) 27 4 (.bool false) 1 Tryd.underlying27 Tryd.info_bool rfl .i64 .i64 m (by omega) (by omega) w

/-- The state at a round's head. -/
structure PlaysAt (w wr : World) (pb sb mb K : Nat) (f : Nat → Bool) : Prop where
  bits : IsBits wr pb sb K f
  row : Blk wr mb 4 (boolsArr f K)
  keep : Keep (fun _ => False) w wr

theorem PlaysAt.alloc {w wr : World} {pb sb mb K : Nat} {f : Nat → Bool} (h : PlaysAt w wr pb sb mb K f) (o : Obj) : PlaysAt w (wr.alloc o) pb sb mb K f :=
  ⟨h.bits.keep ((Keep.refl (fun _ => False) wr).alloc _) (by simp) (by simp), h.row.alloc _, h.keep.alloc _⟩
theorem PlaysAt.drew {w wr : World} {pb sb mb K : Nat} {f : Nat → Bool} (h : PlaysAt w wr pb sb mb K f) : PlaysAt w wr.drew pb sb mb K f := ⟨h.bits.drew, h.row.drew, h.keep.drew⟩
theorem PlaysAt.drewN {w wr : World} {pb sb mb K : Nat} {f : Nat → Bool} (h : PlaysAt w wr pb sb mb K f) (k : Nat) : PlaysAt w (wr.drewN k) pb sb mb K f := ⟨h.bits.drewN k, h.row.drewN k, h.keep.drewN k⟩
theorem PlaysAt.cell {w wr : World} {pb sb mb K : Nat} {f : Nat → Bool} (h : PlaysAt w wr pb sb mb K f) {m : Nat} (hm : m < K) : wr.cell? ⟨mb, m, none⟩ = some (.bool (f m)) := by
  rw [h.row.cell]; simp [boolsArr, hm]
/-- Set at a bit that is there. -/
theorem set_in (pb sb n : Nat) (f : Nat → Bool) (j : Nat) (on : Bool) (w : World) (h : IsBits w pb sb n f) (hj : j < n) :
    Calls Tryd.prog 9 #[.pointer (some ⟨pb, 0, none⟩), .int .i64 j, .bool on] w fun e w' => e = .returned (.bool (!(f j == on))) ∧ IsBits w' pb sb n (setF n f j on) ∧ Keep (· = sb) w w' := by
  have := set_any pb sb n f j on w h
  have e : setB n f j on = (!(f j == on)) := by simp [setB, hj]; rfl
  rw [e] at this
  exact this

theorem bools_set (f : Nat → Bool) (K m : Nat) (on : Bool) (hm : m < K) : (boolsArr f K).setIfInBounds m (.bool on) = boolsArr (setF K f m on) K := by
  apply Array.ext_getElem?
  intro i
  rw [Array.getElem?_setIfInBounds]
  by_cases hi : i < K
  · by_cases h : m = i
    · subst h
      simp [boolsArr, hi, setF]
    · rw [if_neg h]
      simp [boolsArr, hi, setF, show ¬ i = m from fun e => h e.symm]
  · have : m ≠ i := by omega
    simp [boolsArr, hi, this]
theorem PlaysAt.set {w wr w' : World} {pb sb mb K : Nat} {f : Nat → Bool} {m : Nat} {on : Bool} (h : PlaysAt w wr pb sb mb K f) (hm : m < K) (hsb : sb < mb) (hpb : pb < mb) (hw : w.heap.size ≤ sb)
    (b2 : IsBits w' pb sb K (setF K f m on)) (k2 : Keep (· = sb) wr w') : PlaysAt w (w'.setCell ⟨mb, m, none⟩ (.bool on)) pb sb mb K (setF K f m on) := by
  have hk : Keep (· = mb) w' (w'.setCell ⟨mb, m, none⟩ (.bool on)) := (Keep.refl (· = mb) w').setCell (p := ⟨mb, m, none⟩) (.inl rfl) _
  have hr := (h.row.keep k2 (show ¬ mb = sb by omega)).put m (.bool on)
  rw [bools_set f K m on hm] at hr
  exact ⟨b2.keep hk (show ¬ pb = mb by omega) (show ¬ sb = mb by omega), hr, (h.keep.trans k2 (fun i hi => .inr (by omega))).trans hk (fun i hi => .inr (by omega))⟩
theorem quiet_eq {P : Program} {f : FuncId} {args : Array Value} {w : World} {n : Nat} {v : Value} (h : Calls P f args (w.drewN n) fun e w' => e = .returned v ∧ w.drewN n = w') : Calls P f args (w.drewN n) fun e w'' => e = .returned v ∧ ∃ m, w'' = w.drewN m :=
  h.mono fun _ _ ⟨he, hm⟩ => ⟨he, n, hm.symm⟩

/-- The law's own count, over the first J. -/
def cR (f : Nat → Bool) (A B : Int) : Nat → Nat
  | 0 => 0
  | J + 1 => cR f A B J + if f J = true ∧ A ≤ J ∧ (J : Int) < B then 1 else 0
theorem cR_le (f : Nat → Bool) (A B : Int) (J : Nat) : cR f A B J ≤ J := by
  induction J with
  | zero => simp [cR]
  | succ J ih => unfold cR; split <;> omega
theorem cR_count (f : Nat → Bool) (A B : Int) (J : Nat) : cR f A B J = countN J f A B := by
  induction J with
  | zero => simp [cR, countN, cntF_self]
  | succ J ih =>
    unfold cR
    rw [ih]
    unfold countN
    by_cases h1 : (J : Int) < B
    · rw [show min (J + 1) B.toNat = J + 1 by omega, show min J B.toNat = J by omega]
      by_cases h2 : A ≤ J
      · rw [cntF_succ f _ _ (by omega)]
        simp [h1, h2]
      · rw [cntF_self f _ _ (by omega), cntF_self f _ _ (by omega)]
        simp [h2]
    · rw [show min (J + 1) B.toNat = min J B.toNat by omega]
      simp [h1]

/-- The law's own search, from the end down to J. -/
def atO (K : Nat) (f : Nat → Bool) (A : Int) (J : Nat) : Option Nat := nextO K f (max A.toNat J)
theorem atO_top (K : Nat) (f : Nat → Bool) (A : Int) : atO K f A K = none := nextO_none fun k h1 h2 => by omega
theorem atO_hit {K : Nat} {f : Nat → Bool} {A : Int} {J : Nat} (hJ : J < K) (hf : f J = true) (hA : A ≤ J) : atO K f A J = some J :=
  nextO_some (by omega) hJ hf fun j h1 h2 => by omega
theorem atO_miss {K : Nat} {f : Nat → Bool} {A : Int} {J : Nat} (h : f J = false ∨ ¬ A ≤ J) : atO K f A J = atO K f A (J + 1) := by
  unfold atO
  by_cases hA : A ≤ J
  · have hf : f J = false := by
      rcases h with h | h
      · exact h
      · exact absurd hA h
    rcases hx : nextO K f (max A.toNat (J + 1)) with _ | k
    · have := nextO_iff_none hx
      apply nextO_none
      intro k h1 h2
      by_cases e : k = J
      · rw [e]; exact hf
      · exact this k (by omega) h2
    · obtain ⟨h1, h2, h3, h4⟩ := nextO_iff hx
      apply nextO_some (by omega) h2 h3
      intro j h5 h6
      by_cases e : j = J
      · rw [e]; exact hf
      · exact h4 j (by omega) h6
  · rw [show max A.toNat J = max A.toNat (J + 1) by omega]
theorem atO_zero (K : Nat) (f : Nat → Bool) (A : Int) : atO K f A 0 = nextO K f A.toNat := by
  unfold atO
  rw [Nat.max_zero]
def AtSlot (K : Nat) (f : Nat → Bool) (A : Int) (J : Nat) (v : Value) : Prop := (atO K f A J = none ∧ v = .int .i64 (-1)) ∨ ∃ k : Nat, atO K f A J = some k ∧ v = .int .i64 k
theorem atSlot_keep {K : Nat} {f : Nat → Bool} {A : Int} {J : Nat} {v : Value} (h : AtSlot K f A (J + 1) v) (hm : f J = false ∨ ¬ A ≤ J) : AtSlot K f A J v := by
  unfold AtSlot
  rw [atO_miss hm]
  exact h
theorem atSlot_hit {K : Nat} {f : Nat → Bool} {A : Int} {J : Nat} (hJ : J < K) (hf : f J = true) (hA : A ≤ J) : AtSlot K f A J (.int .i64 J) := .inr ⟨J, atO_hit hJ hf hA, rfl⟩

set_option maxRecDepth 100000 in
set_option maxHeartbeats 4000000 in
theorem plays_true (w : World) (a : Option Addr) (len cap : Nat) (D A B : Nat → Int) (On : Nat → Bool) (n : Nat) (hn : n < 65536) (ha : ArgDeeds w a len D A B On) (hT : TabAt 0 Lib.deBruijn64tab w) :
    Calls Tryd.prog 3 #[.int .u16 n, .slice a len cap] w fun e w' => e = .returned (.bool true) ∧ Keep (fun _ => False) w w' := by
  have hlt := tab_lt hT
  have hsm := ha.small
  unfold maxLen at hsm
  go_enter Tryd.func3, Tryd.ntmps3
  go_wp2_with fail
  refine (awake_true w hT).mono ?_
  rintro e w0 ⟨rfl, k0⟩
  have hT0 := tab_keep hT k0 (by simp)
  have z0 := k0.size
  by_cases h300 : 300 < len
  · go_wp2
    go_ret
    exact ⟨rfl, k0⟩
  · obtain ⟨K, hK⟩ : ∃ K, K = n % 400 := ⟨_, rfl⟩
    have hK1 : (n : Int) % 400 = (K : Int) := by omega
    have hK2 : K < 400 := by omega
    clear hK
    have hm := make_bools K (by omega)
    go_wp2_with fail
    refine (new_any K K w0 (.inr (.inl ⟨rfl, by omega⟩))).mono ?_
    rintro e w1 ⟨rfl, b1, k1⟩
    have hT1 := tab_keep hT0 k1 (by simp)
    have z1 := b1.hp.lt
    go_wp2_with fail
    clear hm
    have p1 : PlaysAt w (w1.alloc (.cells (boolsArr (fun _ => false) K) 4)) (w0.heap.size + 1) w0.heap.size w1.heap.size K (fun _ => false) :=
      ⟨b1.keep ((Keep.refl (fun _ => False) w1).alloc _) (by simp) (by simp), Blk.new w1 _ _, (k0.trans k1 (fun i hi => .inl hi)).alloc _⟩
    go_loopw [8] (fun i wr => ∃ (j : Nat) (f : Nat → Bool), j ≤ len ∧ i = .int .i64 j ∧ PlaysAt w wr (w0.heap.size + 1) w0.heap.size w1.heap.size K f) (fun i _ => len - (intOf i).toNat)
    case atStart => exact ⟨0, fun _ => false, Nat.zero_le _, rfl, p1⟩
    case round =>
      obtain ⟨j, f, hj, rfl, pr⟩ := hrel
      by_cases hjl : j < len
      · obtain ⟨b, off, rfl, hb, hc⟩ := ha.at_ (by omega)
        obtain ⟨c0, c1, c2, c3⟩ := hc j hjl
        rw [← pr.keep.cell (p := ⟨b, off + j * 4, none⟩) hb (by simp)] at c0
        rw [← pr.keep.cell (p := ⟨b, off + j * 4 + 1, none⟩) hb (by simp)] at c1
        rw [← pr.keep.cell (p := ⟨b, off + j * 4 + 2, none⟩) hb (by simp)] at c2
        rw [← pr.keep.cell (p := ⟨b, off + j * 4 + 3, none⟩) hb (by simp)] at c3
        have hjl' : (j : Int) < (len : Int) := by omega
        generalize D j = d at c0
        generalize A j = x at c1
        generalize B j = y at c2
        generalize On j = on at c3
        have hsb : w0.heap.size < w1.heap.size := by omega
        clear hc hK1 hb k0 k1 b1 p1 hT0 hT1
        have zr := pr.bits.hs.lt
        have zm := pr.row.lt
        have hTr := tab_keep hT pr.keep (by simp)
        rcases (show (d = 0 ∨ d = 1 ∨ d = 2 ∨ d = 3) ∨ d = 4 ∨ d = 5 ∨ d = 6 ∨ (d < 0 ∨ 6 < d) from by omega) with (rfl | rfl | rfl | rfl) | rfl | rfl | rfl | hd
        · as_aux_lemma =>
            by_cases hin : 0 ≤ x ∧ x < K
            · obtain ⟨m, rfl⟩ := Int.eq_ofNat_of_zero_le hin.1
              have hmK : m < K := by omega
              have hmK' : (m : Int) < (K : Int) := by omega
              clear hin
              have pa := (pr.alloc (.cells #[.int .i64 0, .int .i64 m, .int .i64 y, .bool on] 29)).drew
              have cm := (pr.alloc (.cells #[.int .i64 0, .int .i64 m, .int .i64 y, .bool on] 29)).cell hmK
              have d1 := (Blk.new wr 29 #[.int .i64 0, .int .i64 m, .int .i64 y, .bool on]).cell 1
              have d3 := (Blk.new wr 29 #[.int .i64 0, .int .i64 m, .int .i64 y, .bool on]).cell 3
              simp only [List.getElem?_toArray, List.getElem?_cons_succ, List.getElem?_cons_zero] at d1 d3
              go_wp2_with fail
              go_region_held3 (fun w' => w'.cell? ⟨wr.heap.size, 1, none⟩ = some (.int .i64 m) ∧ w'.cell? ⟨wr.heap.size, 3, none⟩ = some (.bool on) ∧ w'.cell? ⟨w1.heap.size, m, none⟩ = some (.bool (f m))) (first | exact ⟨d1, d3, cm⟩ | exact ⟨g1, g2, g3⟩ | (refine ⟨?_, ?_, ?_⟩ <;> assumption))
                (first | (go_at_call 9; refine (set_in _ _ _ _ _ _ _ pa.bits hmK).mono ?_; rintro e w' ⟨rfl, br2, kr2⟩; have g1 := (kr2.cell (p := ⟨wr.heap.size, 1, none⟩) (by simp) (show ¬ (wr.heap.size = w0.heap.size) by omega)).trans d1; have g2 := (kr2.cell (p := ⟨wr.heap.size, 3, none⟩) (by simp) (show ¬ (wr.heap.size = w0.heap.size) by omega)).trans d3; have g3 := (kr2.cell (p := ⟨w1.heap.size, m, none⟩) (by simp; omega) (show ¬ (w1.heap.size = w0.heap.size) by omega)).trans cm; have g4 := (pa.row.keep kr2 (show ¬ (w1.heap.size = w0.heap.size) by omega)).frozen m; have pn := pa.set (on := on) hmK hsb (by omega) (by omega) br2 kr2))
              go_wp2_with (first | (go_at_call 13; refine (len_any _ _ _ _ _ pn.bits).mono ?_; rintro e w' ⟨rfl, rfl⟩))
              go_roundw
              case rel => exact ⟨j + 1, _, by omega, by go_num, pn⟩
              case measure => simp [intOf]; omega
            · have HS : Hid (setB K f x on = false) := Lib.hid (by
                unfold setB
                by_cases h1 : 0 ≤ x <;> by_cases h2 : x < K <;> simp [h1, h2]
                exact absurd ⟨h1, h2⟩ hin)
              have pa := pr.alloc (.cells #[.int .i64 0, .int .i64 x, .int .i64 y, .bool on] 29)
              have d1 := (Blk.new wr 29 #[.int .i64 0, .int .i64 x, .int .i64 y, .bool on]).cell 1
              have d3 := (Blk.new wr 29 #[.int .i64 0, .int .i64 x, .int .i64 y, .bool on]).cell 3
              simp only [List.getElem?_toArray, List.getElem?_cons_succ, List.getElem?_cons_zero] at d1 d3
              rcases (show x < 0 ∨ (0 ≤ x ∧ (K : Int) ≤ x) from by omega) with hx | ⟨hx, hx2⟩
              · clear hin
                go_wp2_with fail
                go_quiet ((go_at_call 9; exact quiet_eq (set_no _ _ _ _ _ _ _ (pa.bits.drewN _) HS)))
                go_wp2_with (first | (go_at_call 13; refine (len_any _ _ _ _ _ (pa.bits.drewN _)).mono ?_; rintro e w' ⟨rfl, rfl⟩))
                go_roundw
                case rel => exact ⟨j + 1, _, by omega, by go_num, pa.drewN _⟩
                case measure => simp [intOf]; omega
              · have hxd : decide (x < (K : Int)) = false := by simpa using hx2
                clear hin
                go_wp2_with fail
                go_quiet ((go_at_call 9; exact quiet_eq (set_no _ _ _ _ _ _ _ (pa.bits.drewN _) HS)))
                go_wp2_with (first | (go_at_call 13; refine (len_any _ _ _ _ _ (pa.bits.drewN _)).mono ?_; rintro e w' ⟨rfl, rfl⟩))
                go_roundw
                case rel => exact ⟨j + 1, _, by omega, by go_num, pa.drewN _⟩
                case measure => simp [intOf]; omega
        · as_aux_lemma =>
            by_cases hin : 0 ≤ x ∧ x < K
            · obtain ⟨m, rfl⟩ := Int.eq_ofNat_of_zero_le hin.1
              have hmK : m < K := by omega
              have hmK' : (m : Int) < (K : Int) := by omega
              clear hin
              have pa := (pr.alloc (.cells #[.int .i64 1, .int .i64 m, .int .i64 y, .bool on] 29)).drew
              have cm := (pr.alloc (.cells #[.int .i64 1, .int .i64 m, .int .i64 y, .bool on] 29)).cell hmK
              have d1 := (Blk.new wr 29 #[.int .i64 1, .int .i64 m, .int .i64 y, .bool on]).cell 1
              have d3 := (Blk.new wr 29 #[.int .i64 1, .int .i64 m, .int .i64 y, .bool on]).cell 3
              simp only [List.getElem?_toArray, List.getElem?_cons_succ, List.getElem?_cons_zero] at d1 d3
              go_wp2_with fail
              go_region_held3 (fun w' => w'.cell? ⟨wr.heap.size, 1, none⟩ = some (.int .i64 m) ∧ w'.cell? ⟨wr.heap.size, 3, none⟩ = some (.bool on) ∧ w'.cell? ⟨w1.heap.size, m, none⟩ = some (.bool (f m))) (first | exact ⟨d1, d3, cm⟩ | exact ⟨g1, g2, g3⟩ | (refine ⟨?_, ?_, ?_⟩ <;> assumption))
                (first | (go_at_call 9; refine (set_in _ _ _ _ _ _ _ pa.bits hmK).mono ?_; rintro e w' ⟨rfl, br2, kr2⟩; have g1 := (kr2.cell (p := ⟨wr.heap.size, 1, none⟩) (by simp) (show ¬ (wr.heap.size = w0.heap.size) by omega)).trans d1; have g2 := (kr2.cell (p := ⟨wr.heap.size, 3, none⟩) (by simp) (show ¬ (wr.heap.size = w0.heap.size) by omega)).trans d3; have g3 := (kr2.cell (p := ⟨w1.heap.size, m, none⟩) (by simp; omega) (show ¬ (w1.heap.size = w0.heap.size) by omega)).trans cm; have g4 := (pa.row.keep kr2 (show ¬ (w1.heap.size = w0.heap.size) by omega)).frozen m; have pn := pa.set (on := on) hmK hsb (by omega) (by omega) br2 kr2))
              go_wp2_with (first | (go_at_call 13; refine (len_any _ _ _ _ _ pn.bits).mono ?_; rintro e w' ⟨rfl, rfl⟩))
              go_roundw
              case rel => exact ⟨j + 1, _, by omega, by go_num, pn⟩
              case measure => simp [intOf]; omega
            · have HS : Hid (setB K f x on = false) := Lib.hid (by
                unfold setB
                by_cases h1 : 0 ≤ x <;> by_cases h2 : x < K <;> simp [h1, h2]
                exact absurd ⟨h1, h2⟩ hin)
              have pa := pr.alloc (.cells #[.int .i64 1, .int .i64 x, .int .i64 y, .bool on] 29)
              have d1 := (Blk.new wr 29 #[.int .i64 1, .int .i64 x, .int .i64 y, .bool on]).cell 1
              have d3 := (Blk.new wr 29 #[.int .i64 1, .int .i64 x, .int .i64 y, .bool on]).cell 3
              simp only [List.getElem?_toArray, List.getElem?_cons_succ, List.getElem?_cons_zero] at d1 d3
              rcases (show x < 0 ∨ (0 ≤ x ∧ (K : Int) ≤ x) from by omega) with hx | ⟨hx, hx2⟩
              · clear hin
                go_wp2_with fail
                go_quiet ((go_at_call 9; exact quiet_eq (set_no _ _ _ _ _ _ _ (pa.bits.drewN _) HS)))
                go_wp2_with (first | (go_at_call 13; refine (len_any _ _ _ _ _ (pa.bits.drewN _)).mono ?_; rintro e w' ⟨rfl, rfl⟩))
                go_roundw
                case rel => exact ⟨j + 1, _, by omega, by go_num, pa.drewN _⟩
                case measure => simp [intOf]; omega
              · have hxd : decide (x < (K : Int)) = false := by simpa using hx2
                clear hin
                go_wp2_with fail
                go_quiet ((go_at_call 9; exact quiet_eq (set_no _ _ _ _ _ _ _ (pa.bits.drewN _) HS)))
                go_wp2_with (first | (go_at_call 13; refine (len_any _ _ _ _ _ (pa.bits.drewN _)).mono ?_; rintro e w' ⟨rfl, rfl⟩))
                go_roundw
                case rel => exact ⟨j + 1, _, by omega, by go_num, pa.drewN _⟩
                case measure => simp [intOf]; omega
        · as_aux_lemma =>
            by_cases hin : 0 ≤ x ∧ x < K
            · obtain ⟨m, rfl⟩ := Int.eq_ofNat_of_zero_le hin.1
              have hmK : m < K := by omega
              have hmK' : (m : Int) < (K : Int) := by omega
              clear hin
              have pa := (pr.alloc (.cells #[.int .i64 2, .int .i64 m, .int .i64 y, .bool on] 29)).drew
              have cm := (pr.alloc (.cells #[.int .i64 2, .int .i64 m, .int .i64 y, .bool on] 29)).cell hmK
              have d1 := (Blk.new wr 29 #[.int .i64 2, .int .i64 m, .int .i64 y, .bool on]).cell 1
              have d3 := (Blk.new wr 29 #[.int .i64 2, .int .i64 m, .int .i64 y, .bool on]).cell 3
              simp only [List.getElem?_toArray, List.getElem?_cons_succ, List.getElem?_cons_zero] at d1 d3
              go_wp2_with fail
              go_region_held3 (fun w' => w'.cell? ⟨wr.heap.size, 1, none⟩ = some (.int .i64 m) ∧ w'.cell? ⟨wr.heap.size, 3, none⟩ = some (.bool on) ∧ w'.cell? ⟨w1.heap.size, m, none⟩ = some (.bool (f m))) (first | exact ⟨d1, d3, cm⟩ | exact ⟨g1, g2, g3⟩ | (refine ⟨?_, ?_, ?_⟩ <;> assumption))
                (first | (go_at_call 9; refine (set_in _ _ _ _ _ _ _ pa.bits hmK).mono ?_; rintro e w' ⟨rfl, br2, kr2⟩; have g1 := (kr2.cell (p := ⟨wr.heap.size, 1, none⟩) (by simp) (show ¬ (wr.heap.size = w0.heap.size) by omega)).trans d1; have g2 := (kr2.cell (p := ⟨wr.heap.size, 3, none⟩) (by simp) (show ¬ (wr.heap.size = w0.heap.size) by omega)).trans d3; have g3 := (kr2.cell (p := ⟨w1.heap.size, m, none⟩) (by simp; omega) (show ¬ (w1.heap.size = w0.heap.size) by omega)).trans cm; have g4 := (pa.row.keep kr2 (show ¬ (w1.heap.size = w0.heap.size) by omega)).frozen m; have pn := pa.set (on := on) hmK hsb (by omega) (by omega) br2 kr2))
              go_wp2_with (first | (go_at_call 13; refine (len_any _ _ _ _ _ pn.bits).mono ?_; rintro e w' ⟨rfl, rfl⟩))
              go_roundw
              case rel => exact ⟨j + 1, _, by omega, by go_num, pn⟩
              case measure => simp [intOf]; omega
            · have HS : Hid (setB K f x on = false) := Lib.hid (by
                unfold setB
                by_cases h1 : 0 ≤ x <;> by_cases h2 : x < K <;> simp [h1, h2]
                exact absurd ⟨h1, h2⟩ hin)
              have pa := pr.alloc (.cells #[.int .i64 2, .int .i64 x, .int .i64 y, .bool on] 29)
              have d1 := (Blk.new wr 29 #[.int .i64 2, .int .i64 x, .int .i64 y, .bool on]).cell 1
              have d3 := (Blk.new wr 29 #[.int .i64 2, .int .i64 x, .int .i64 y, .bool on]).cell 3
              simp only [List.getElem?_toArray, List.getElem?_cons_succ, List.getElem?_cons_zero] at d1 d3
              rcases (show x < 0 ∨ (0 ≤ x ∧ (K : Int) ≤ x) from by omega) with hx | ⟨hx, hx2⟩
              · clear hin
                go_wp2_with fail
                go_quiet ((go_at_call 9; exact quiet_eq (set_no _ _ _ _ _ _ _ (pa.bits.drewN _) HS)))
                go_wp2_with (first | (go_at_call 13; refine (len_any _ _ _ _ _ (pa.bits.drewN _)).mono ?_; rintro e w' ⟨rfl, rfl⟩))
                go_roundw
                case rel => exact ⟨j + 1, _, by omega, by go_num, pa.drewN _⟩
                case measure => simp [intOf]; omega
              · have hxd : decide (x < (K : Int)) = false := by simpa using hx2
                clear hin
                go_wp2_with fail
                go_quiet ((go_at_call 9; exact quiet_eq (set_no _ _ _ _ _ _ _ (pa.bits.drewN _) HS)))
                go_wp2_with (first | (go_at_call 13; refine (len_any _ _ _ _ _ (pa.bits.drewN _)).mono ?_; rintro e w' ⟨rfl, rfl⟩))
                go_roundw
                case rel => exact ⟨j + 1, _, by omega, by go_num, pa.drewN _⟩
                case measure => simp [intOf]; omega
        · as_aux_lemma =>
            by_cases hin : 0 ≤ x ∧ x < K
            · obtain ⟨m, rfl⟩ := Int.eq_ofNat_of_zero_le hin.1
              have hmK : m < K := by omega
              have hmK' : (m : Int) < (K : Int) := by omega
              clear hin
              have pa := (pr.alloc (.cells #[.int .i64 3, .int .i64 m, .int .i64 y, .bool on] 29)).drew
              have cm := (pr.alloc (.cells #[.int .i64 3, .int .i64 m, .int .i64 y, .bool on] 29)).cell hmK
              have d1 := (Blk.new wr 29 #[.int .i64 3, .int .i64 m, .int .i64 y, .bool on]).cell 1
              have d3 := (Blk.new wr 29 #[.int .i64 3, .int .i64 m, .int .i64 y, .bool on]).cell 3
              simp only [List.getElem?_toArray, List.getElem?_cons_succ, List.getElem?_cons_zero] at d1 d3
              go_wp2_with fail
              go_region_held3 (fun w' => w'.cell? ⟨wr.heap.size, 1, none⟩ = some (.int .i64 m) ∧ w'.cell? ⟨wr.heap.size, 3, none⟩ = some (.bool on) ∧ w'.cell? ⟨w1.heap.size, m, none⟩ = some (.bool (f m))) (first | exact ⟨d1, d3, cm⟩ | exact ⟨g1, g2, g3⟩ | (refine ⟨?_, ?_, ?_⟩ <;> assumption))
                (first | (go_at_call 9; refine (set_in _ _ _ _ _ _ _ pa.bits hmK).mono ?_; rintro e w' ⟨rfl, br2, kr2⟩; have g1 := (kr2.cell (p := ⟨wr.heap.size, 1, none⟩) (by simp) (show ¬ (wr.heap.size = w0.heap.size) by omega)).trans d1; have g2 := (kr2.cell (p := ⟨wr.heap.size, 3, none⟩) (by simp) (show ¬ (wr.heap.size = w0.heap.size) by omega)).trans d3; have g3 := (kr2.cell (p := ⟨w1.heap.size, m, none⟩) (by simp; omega) (show ¬ (w1.heap.size = w0.heap.size) by omega)).trans cm; have g4 := (pa.row.keep kr2 (show ¬ (w1.heap.size = w0.heap.size) by omega)).frozen m; have pn := pa.set (on := on) hmK hsb (by omega) (by omega) br2 kr2))
              go_wp2_with (first | (go_at_call 13; refine (len_any _ _ _ _ _ pn.bits).mono ?_; rintro e w' ⟨rfl, rfl⟩))
              go_roundw
              case rel => exact ⟨j + 1, _, by omega, by go_num, pn⟩
              case measure => simp [intOf]; omega
            · have HS : Hid (setB K f x on = false) := Lib.hid (by
                unfold setB
                by_cases h1 : 0 ≤ x <;> by_cases h2 : x < K <;> simp [h1, h2]
                exact absurd ⟨h1, h2⟩ hin)
              have pa := pr.alloc (.cells #[.int .i64 3, .int .i64 x, .int .i64 y, .bool on] 29)
              have d1 := (Blk.new wr 29 #[.int .i64 3, .int .i64 x, .int .i64 y, .bool on]).cell 1
              have d3 := (Blk.new wr 29 #[.int .i64 3, .int .i64 x, .int .i64 y, .bool on]).cell 3
              simp only [List.getElem?_toArray, List.getElem?_cons_succ, List.getElem?_cons_zero] at d1 d3
              rcases (show x < 0 ∨ (0 ≤ x ∧ (K : Int) ≤ x) from by omega) with hx | ⟨hx, hx2⟩
              · clear hin
                go_wp2_with fail
                go_quiet ((go_at_call 9; exact quiet_eq (set_no _ _ _ _ _ _ _ (pa.bits.drewN _) HS)))
                go_wp2_with (first | (go_at_call 13; refine (len_any _ _ _ _ _ (pa.bits.drewN _)).mono ?_; rintro e w' ⟨rfl, rfl⟩))
                go_roundw
                case rel => exact ⟨j + 1, _, by omega, by go_num, pa.drewN _⟩
                case measure => simp [intOf]; omega
              · have hxd : decide (x < (K : Int)) = false := by simpa using hx2
                clear hin
                go_wp2_with fail
                go_quiet ((go_at_call 9; exact quiet_eq (set_no _ _ _ _ _ _ _ (pa.bits.drewN _) HS)))
                go_wp2_with (first | (go_at_call 13; refine (len_any _ _ _ _ _ (pa.bits.drewN _)).mono ?_; rintro e w' ⟨rfl, rfl⟩))
                go_roundw
                case rel => exact ⟨j + 1, _, by omega, by go_num, pa.drewN _⟩
                case measure => simp [intOf]; omega
        · as_aux_lemma =>
            have pa := pr.alloc (.cells #[.int .i64 4, .int .i64 x, .int .i64 y, .bool on] 29)
            by_cases hin : 0 ≤ x ∧ x < K
            · obtain ⟨m, rfl⟩ := Int.eq_ofNat_of_zero_le hin.1
              have hmK : m < K := by omega
              have hmK' : (m : Int) < (K : Int) := by omega
              clear hin
              have cm := pa.cell hmK
              have hh : hasB K f m = f m := by simp [hasB, hmK]
              go_wp2_with (first | (go_at_call 10; refine (has_any _ _ _ _ _ _ pa.bits).mono ?_; rintro e w' ⟨rfl, rfl⟩) | (go_at_call 13; refine (len_any _ _ _ _ _ pa.bits).mono ?_; rintro e w' ⟨rfl, rfl⟩))
              go_roundw
              case rel => exact ⟨j + 1, _, by omega, by go_num, pa⟩
              case measure => simp [intOf]; omega
            · have hh : hasB K f x = false := by
                unfold hasB
                by_cases h1 : 0 ≤ x <;> by_cases h2 : x < K <;> simp [h1, h2]
                exact absurd ⟨h1, h2⟩ hin
              rcases (show x < 0 ∨ (0 ≤ x ∧ (K : Int) ≤ x) from by omega) with hx | ⟨hx, hx2⟩
              · clear hin
                go_wp2_with (first | (go_at_call 10; refine (has_any _ _ _ _ _ _ pa.bits).mono ?_; rintro e w' ⟨rfl, rfl⟩) | (go_at_call 13; refine (len_any _ _ _ _ _ pa.bits).mono ?_; rintro e w' ⟨rfl, rfl⟩))
                go_roundw
                case rel => exact ⟨j + 1, _, by omega, by go_num, pa⟩
                case measure => simp [intOf]; omega
              · have hxd : decide (x < (K : Int)) = false := by simpa using hx2
                clear hin
                go_wp2_with (first | (go_at_call 10; refine (has_any _ _ _ _ _ _ pa.bits).mono ?_; rintro e w' ⟨rfl, rfl⟩) | (go_at_call 13; refine (len_any _ _ _ _ _ pa.bits).mono ?_; rintro e w' ⟨rfl, rfl⟩))
                go_roundw
                case rel => exact ⟨j + 1, _, by omega, by go_num, pa⟩
                case measure => simp [intOf]; omega
        · as_aux_lemma =>
            have pa := pr.alloc (.cells #[.int .i64 5, .int .i64 x, .int .i64 y, .bool on] 29)
            have hTa := tab_keep hT pa.keep (by simp)
            have HE := Lib.hid (cR_count f x y K)
            rcases (show (0 ≤ x ∧ x < K) ∨ (0 ≤ x ∧ K ≤ x) ∨ x < 0 by omega) with ⟨h1, h2⟩ | ⟨h1, h2⟩ | h1
            · go_wp2_with fail
              go_loop [11, 12] (fun c i => ∃ J : Nat, J ≤ K ∧ c = .int .i64 (cR f x y J) ∧ i = .int .i64 J) (fun _ i => K - (intOf i).toNat)
              case atStart => exact ⟨0, by omega, rfl, rfl⟩
              case round =>
                obtain ⟨J, hJ, rfl, rfl⟩ := hrel
                have hle := cR_le f x y J
                by_cases hJK : J < K
                · have cm := pa.cell hJK
                  have hJK' : (J : Int) < (K : Int) := by omega
                  rcases hf : f J with _ | _
                  · have HR : Hid (cR f x y (J + 1) = cR f x y J) := Lib.hid (by simp [cR, hf])
                    rw [hf] at cm
                    clear hf
                    go_wp2_with fail
                    go_round
                    case rel => exact ⟨J + 1, by omega, by rw [HR.out], by go_num⟩
                    case measure => simp [intOf]; omega
                  · rw [hf] at cm
                    by_cases hxJ : x ≤ J
                    · by_cases hJy : (J : Int) < y
                      · have HR : Hid (cR f x y (J + 1) = cR f x y J + 1) := Lib.hid (by simp [cR, hf, hxJ, hJy])
                        clear hf
                        go_wp2_with fail
                        go_round
                        case rel => exact ⟨J + 1, by omega, by rw [HR.out]; go_num, by go_num⟩
                        case measure => simp [intOf]; omega
                      · have HR : Hid (cR f x y (J + 1) = cR f x y J) := Lib.hid (by simp [cR, hf, hJy])
                        clear hf
                        go_wp2_with fail
                        go_round
                        case rel => exact ⟨J + 1, by omega, by rw [HR.out], by go_num⟩
                        case measure => simp [intOf]; omega
                    · have HR : Hid (cR f x y (J + 1) = cR f x y J) := Lib.hid (by simp [cR, hf, hxJ])
                      clear hf
                      go_wp2_with fail
                      go_round
                      case rel => exact ⟨J + 1, by omega, by rw [HR.out], by go_num⟩
                      case measure => simp [intOf]; omega
                · have hJe : J = K := by omega
                  subst hJe
                  go_wp2_with (first | (go_at_call 11; refine (count_any _ _ _ _ _ _ _ pa.bits hTa).mono ?_; rintro e w' ⟨rfl, rfl⟩; rw [← HE.out]) | (go_at_call 13; refine (len_any _ _ _ _ _ pa.bits).mono ?_; rintro e w' ⟨rfl, rfl⟩))
                  go_roundw
                  case rel => exact ⟨j + 1, _, by omega, by go_num, pa⟩
                  case measure => simp [intOf]; omega
            · have hd2 : decide (x < (K : Int)) = false := by simpa using h2
              go_wp2_with fail
              go_loop [11, 12] (fun c i => ∃ J : Nat, J ≤ K ∧ c = .int .i64 (cR f x y J) ∧ i = .int .i64 J) (fun _ i => K - (intOf i).toNat)
              case atStart => exact ⟨0, by omega, rfl, rfl⟩
              case round =>
                obtain ⟨J, hJ, rfl, rfl⟩ := hrel
                have hle := cR_le f x y J
                by_cases hJK : J < K
                · have cm := pa.cell hJK
                  have hJK' : (J : Int) < (K : Int) := by omega
                  rcases hf : f J with _ | _
                  · have HR : Hid (cR f x y (J + 1) = cR f x y J) := Lib.hid (by simp [cR, hf])
                    rw [hf] at cm
                    clear hf
                    go_wp2_with fail
                    go_round
                    case rel => exact ⟨J + 1, by omega, by rw [HR.out], by go_num⟩
                    case measure => simp [intOf]; omega
                  · rw [hf] at cm
                    have hxJ : ¬ x ≤ J := by omega
                    have HR : Hid (cR f x y (J + 1) = cR f x y J) := Lib.hid (by simp [cR, hf, hxJ])
                    clear hf
                    go_wp2_with fail
                    go_round
                    case rel => exact ⟨J + 1, by omega, by rw [HR.out], by go_num⟩
                    case measure => simp [intOf]; omega
                · have hJe : J = K := by omega
                  subst hJe
                  go_wp2_with (first | (go_at_call 11; refine (count_any _ _ _ _ _ _ _ pa.bits hTa).mono ?_; rintro e w' ⟨rfl, rfl⟩; rw [← HE.out]) | (go_at_call 13; refine (len_any _ _ _ _ _ pa.bits).mono ?_; rintro e w' ⟨rfl, rfl⟩))
                  go_roundw
                  case rel => exact ⟨j + 1, _, by omega, by go_num, pa⟩
                  case measure => simp [intOf]; omega
            · go_wp2_with fail
              go_loop [11, 12] (fun c i => ∃ J : Nat, J ≤ K ∧ c = .int .i64 (cR f x y J) ∧ i = .int .i64 J) (fun _ i => K - (intOf i).toNat)
              case atStart => exact ⟨0, by omega, rfl, rfl⟩
              case round =>
                obtain ⟨J, hJ, rfl, rfl⟩ := hrel
                have hle := cR_le f x y J
                by_cases hJK : J < K
                · have cm := pa.cell hJK
                  have hJK' : (J : Int) < (K : Int) := by omega
                  rcases hf : f J with _ | _
                  · have HR : Hid (cR f x y (J + 1) = cR f x y J) := Lib.hid (by simp [cR, hf])
                    rw [hf] at cm
                    clear hf
                    go_wp2_with fail
                    go_round
                    case rel => exact ⟨J + 1, by omega, by rw [HR.out], by go_num⟩
                    case measure => simp [intOf]; omega
                  · rw [hf] at cm
                    have hxJ : x ≤ J := by omega
                    by_cases hJy : (J : Int) < y
                    · have HR : Hid (cR f x y (J + 1) = cR f x y J + 1) := Lib.hid (by simp [cR, hf, hxJ, hJy])
                      clear hf
                      go_wp2_with fail
                      go_round
                      case rel => exact ⟨J + 1, by omega, by rw [HR.out]; go_num, by go_num⟩
                      case measure => simp [intOf]; omega
                    · have HR : Hid (cR f x y (J + 1) = cR f x y J) := Lib.hid (by simp [cR, hf, hJy])
                      clear hf
                      go_wp2_with fail
                      go_round
                      case rel => exact ⟨J + 1, by omega, by rw [HR.out], by go_num⟩
                      case measure => simp [intOf]; omega
                · have hJe : J = K := by omega
                  subst hJe
                  go_wp2_with (first | (go_at_call 11; refine (count_any _ _ _ _ _ _ _ pa.bits hTa).mono ?_; rintro e w' ⟨rfl, rfl⟩; rw [← HE.out]) | (go_at_call 13; refine (len_any _ _ _ _ _ pa.bits).mono ?_; rintro e w' ⟨rfl, rfl⟩))
                  go_roundw
                  case rel => exact ⟨j + 1, _, by omega, by go_num, pa⟩
                  case measure => simp [intOf]; omega
        · as_aux_lemma =>
            have pa := pr.alloc (.cells #[.int .i64 6, .int .i64 x, .int .i64 y, .bool on] 29)
            have hTa := tab_keep hT pa.keep (by simp)
            have HZ := Lib.hid (atO_zero K f x)
            rcases (show (0 ≤ x ∧ x < K) ∨ (0 ≤ x ∧ K ≤ x) ∨ x < 0 by omega) with ⟨h1, h2⟩ | ⟨h1, h2⟩ | h1
            · go_wp2_with fail
              go_loop [13, 14] (fun v i => ∃ J : Nat, J ≤ K ∧ AtSlot K f x J v ∧ i = .int .i64 ((J : Int) - 1)) (fun _ i => (intOf i + 1).toNat)
              case atStart => exact ⟨K, by omega, .inl ⟨atO_top K f x, rfl⟩, rfl⟩
              case round =>
                obtain ⟨J, hJ, hat, rfl⟩ := hrel
                by_cases hJ0 : 0 < J
                · obtain ⟨I, rfl⟩ : ∃ I, J = I + 1 := ⟨J - 1, by omega⟩
                  have hIK : I < K := by omega
                  have cm := pa.cell hIK
                  have hIK' : (I : Int) < (K : Int) := by omega
                  have ei : (((I + 1 : Nat) : Int) - 1) = (I : Int) := by omega
                  rw [ei]
                  clear ei
                  rcases hf : f I with _ | _
                  · rw [hf] at cm
                    have hk := atSlot_keep hat (.inl hf)
                    clear hf
                    go_wp2_with fail
                    go_round
                    case rel => exact ⟨I, by omega, hk, rfl⟩
                    case measure => simp [intOf]
                  · rw [hf] at cm
                    by_cases hxI : x ≤ I
                    · have hk := atSlot_hit hIK hf hxI
                      clear hf
                      go_wp2_with fail
                      go_round
                      case rel => exact ⟨I, by omega, hk, rfl⟩
                      case measure => simp [intOf]
                    · have hk := atSlot_keep hat (.inr hxI)
                      clear hf
                      go_wp2_with fail
                      go_round
                      case rel => exact ⟨I, by omega, hk, rfl⟩
                      case measure => simp [intOf]
                · have hJe : J = 0 := by omega
                  subst hJe
                  rcases hat with ⟨hno, rfl⟩ | ⟨k, hyes, rfl⟩
                  · have HX : Hid (nextO K f x.toNat = none) := Lib.hid (by rw [← HZ.out]; exact hno)
                    clear hno
                    go_wp2_with (first | (go_at_call 12; refine (next_no _ _ _ _ _ _ pa.bits hTa HX).mono ?_; rintro e w' ⟨rfl, rfl⟩) | (go_at_call 13; refine (len_any _ _ _ _ _ pa.bits).mono ?_; rintro e w' ⟨rfl, rfl⟩))
                    go_roundw
                    case rel => exact ⟨j + 1, _, by omega, by go_num, pa⟩
                    case measure => simp [intOf]; omega
                  · have HX : Hid (nextO K f x.toNat = some k) := Lib.hid (by rw [← HZ.out]; exact hyes)
                    clear hyes
                    go_wp2_with (first | (go_at_call 12; refine (next_yes _ _ _ _ _ _ _ pa.bits hTa HX).mono ?_; rintro e w' ⟨rfl, rfl⟩) | (go_at_call 13; refine (len_any _ _ _ _ _ pa.bits).mono ?_; rintro e w' ⟨rfl, rfl⟩))
                    go_roundw
                    case rel => exact ⟨j + 1, _, by omega, by go_num, pa⟩
                    case measure => simp [intOf]; omega
            · have hd2 : decide (x < (K : Int)) = false := by simpa using h2
              go_wp2_with fail
              go_loop [13, 14] (fun v i => ∃ J : Nat, J ≤ K ∧ AtSlot K f x J v ∧ i = .int .i64 ((J : Int) - 1)) (fun _ i => (intOf i + 1).toNat)
              case atStart => exact ⟨K, by omega, .inl ⟨atO_top K f x, rfl⟩, rfl⟩
              case round =>
                obtain ⟨J, hJ, hat, rfl⟩ := hrel
                by_cases hJ0 : 0 < J
                · obtain ⟨I, rfl⟩ : ∃ I, J = I + 1 := ⟨J - 1, by omega⟩
                  have hIK : I < K := by omega
                  have cm := pa.cell hIK
                  have hIK' : (I : Int) < (K : Int) := by omega
                  have ei : (((I + 1 : Nat) : Int) - 1) = (I : Int) := by omega
                  rw [ei]
                  clear ei
                  rcases hf : f I with _ | _
                  · rw [hf] at cm
                    have hk := atSlot_keep hat (.inl hf)
                    clear hf
                    go_wp2_with fail
                    go_round
                    case rel => exact ⟨I, by omega, hk, rfl⟩
                    case measure => simp [intOf]
                  · rw [hf] at cm
                    have hxI : ¬ x ≤ I := by omega
                    have hk := atSlot_keep hat (.inr hxI)
                    clear hf
                    go_wp2_with fail
                    go_round
                    case rel => exact ⟨I, by omega, hk, rfl⟩
                    case measure => simp [intOf]
                · have hJe : J = 0 := by omega
                  subst hJe
                  rcases hat with ⟨hno, rfl⟩ | ⟨k, hyes, rfl⟩
                  · have HX : Hid (nextO K f x.toNat = none) := Lib.hid (by rw [← HZ.out]; exact hno)
                    clear hno
                    go_wp2_with (first | (go_at_call 12; refine (next_no _ _ _ _ _ _ pa.bits hTa HX).mono ?_; rintro e w' ⟨rfl, rfl⟩) | (go_at_call 13; refine (len_any _ _ _ _ _ pa.bits).mono ?_; rintro e w' ⟨rfl, rfl⟩))
                    go_roundw
                    case rel => exact ⟨j + 1, _, by omega, by go_num, pa⟩
                    case measure => simp [intOf]; omega
                  · have HX : Hid (nextO K f x.toNat = some k) := Lib.hid (by rw [← HZ.out]; exact hyes)
                    clear hyes
                    go_wp2_with (first | (go_at_call 12; refine (next_yes _ _ _ _ _ _ _ pa.bits hTa HX).mono ?_; rintro e w' ⟨rfl, rfl⟩) | (go_at_call 13; refine (len_any _ _ _ _ _ pa.bits).mono ?_; rintro e w' ⟨rfl, rfl⟩))
                    go_roundw
                    case rel => exact ⟨j + 1, _, by omega, by go_num, pa⟩
                    case measure => simp [intOf]; omega
            · go_wp2_with fail
              go_loop [13, 14] (fun v i => ∃ J : Nat, J ≤ K ∧ AtSlot K f x J v ∧ i = .int .i64 ((J : Int) - 1)) (fun _ i => (intOf i + 1).toNat)
              case atStart => exact ⟨K, by omega, .inl ⟨atO_top K f x, rfl⟩, rfl⟩
              case round =>
                obtain ⟨J, hJ, hat, rfl⟩ := hrel
                by_cases hJ0 : 0 < J
                · obtain ⟨I, rfl⟩ : ∃ I, J = I + 1 := ⟨J - 1, by omega⟩
                  have hIK : I < K := by omega
                  have cm := pa.cell hIK
                  have hIK' : (I : Int) < (K : Int) := by omega
                  have ei : (((I + 1 : Nat) : Int) - 1) = (I : Int) := by omega
                  rw [ei]
                  clear ei
                  rcases hf : f I with _ | _
                  · rw [hf] at cm
                    have hk := atSlot_keep hat (.inl hf)
                    clear hf
                    go_wp2_with fail
                    go_round
                    case rel => exact ⟨I, by omega, hk, rfl⟩
                    case measure => simp [intOf]
                  · rw [hf] at cm
                    have hxI : x ≤ I := by omega
                    have hk := atSlot_hit hIK hf hxI
                    clear hf
                    go_wp2_with fail
                    go_round
                    case rel => exact ⟨I, by omega, hk, rfl⟩
                    case measure => simp [intOf]
                · have hJe : J = 0 := by omega
                  subst hJe
                  rcases hat with ⟨hno, rfl⟩ | ⟨k, hyes, rfl⟩
                  · have HX : Hid (nextO K f x.toNat = none) := Lib.hid (by rw [← HZ.out]; exact hno)
                    clear hno
                    go_wp2_with (first | (go_at_call 12; refine (next_no _ _ _ _ _ _ pa.bits hTa HX).mono ?_; rintro e w' ⟨rfl, rfl⟩) | (go_at_call 13; refine (len_any _ _ _ _ _ pa.bits).mono ?_; rintro e w' ⟨rfl, rfl⟩))
                    go_roundw
                    case rel => exact ⟨j + 1, _, by omega, by go_num, pa⟩
                    case measure => simp [intOf]; omega
                  · have HX : Hid (nextO K f x.toNat = some k) := Lib.hid (by rw [← HZ.out]; exact hyes)
                    clear hyes
                    go_wp2_with (first | (go_at_call 12; refine (next_yes _ _ _ _ _ _ _ pa.bits hTa HX).mono ?_; rintro e w' ⟨rfl, rfl⟩) | (go_at_call 13; refine (len_any _ _ _ _ _ pa.bits).mono ?_; rintro e w' ⟨rfl, rfl⟩))
                    go_roundw
                    case rel => exact ⟨j + 1, _, by omega, by go_num, pa⟩
                    case measure => simp [intOf]; omega
        · as_aux_lemma =>
            have pa := pr.alloc (.cells #[.int .i64 d, .int .i64 x, .int .i64 y, .bool on] 29)
            go_wp2_with (first | (go_at_call 13; refine (len_any _ _ _ _ _ pa.bits).mono ?_; rintro e w' ⟨rfl, rfl⟩))
            all_goals
              go_roundw
              case rel => exact ⟨j + 1, _, by omega, by go_num, pa⟩
              case measure => simp [intOf]; omega
      · go_wp2
        go_ret
        exact ⟨rfl, pr.keep⟩
end Go.Proofs.YtkkjfooijegpoaaDoor
