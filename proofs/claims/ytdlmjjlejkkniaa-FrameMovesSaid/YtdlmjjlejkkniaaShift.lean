/- census.Shift: what all points are off, added up. -/
import Derived.Test.YtdlmjjlejkkniaaCof
import Derived.Test.YtdlmjjlejkkniaaRefMake
namespace Go.Proofs.Ytdlmjjlejkkniaa
open Go.RowKit

/-- r words of n symbols each, in a row of rows of the call's own. -/
structure WordsIn (w : World) (N r n : Nat) (ao : Option Addr) (co : Nat) (A : Nat → Option Addr) (C : Nat → Nat) (q : Nat → Nat → Nat) : Prop where
  v : OwnV w 29 N ao r co (famV A (fun _ => n) C)
  u : ∀ i, i < r → OwnU w N (A i) n (C i) (q i)
section
variable {w w' : World} {N r n : Nat} {ao : Option Addr} {co : Nat} {A : Nat → Option Addr} {C : Nat → Nat} {q : Nat → Nat → Nat}
theorem WordsIn.nil (w : World) (N n : Nat) (A : Nat → Option Addr) (C : Nat → Nat) (q : Nat → Nat → Nat) : WordsIn w N 0 n none 0 A C q := ⟨OwnV.nil _ _ _ _, fun _ h => by omega⟩
theorem WordsIn.keep (h : WordsIn w N r n ao co A C q) (hk : Keep (fun _ => False) w w') : WordsIn w' N r n ao co A C q := ⟨h.v.keep hk, fun i hi => (h.u i hi).keep hk⟩
theorem OwnV.row_blk {T : TypeId} {a : Option Addr} {m c : Nat} {f : Nat → Value} (h : OwnV w T N a m c f) {k : Nat} (hk : (Value.slice a m c).ownBlock = some k) : N ≤ k ∧ ∃ cs, Blk w k T cs := by
  rcases h.2 with ⟨e, _⟩ | ⟨g, cap, cs, e, hN, hb, _⟩
  · injection e with e1 e2 e3
    subst e1
    cases hk
  · injection e with e1 e2 e3
    subst e1
    have : some g = some k := hk
    cases this
    exact ⟨hN, cs, hb⟩
theorem OwnU.grownT {a : Option Addr} {m c : Nat} {f : Nat → Nat} (h : OwnU w N a m c f) {M : Nat} {F : Nat → Value} {l : Nat} (hv : OwnV w 29 M ao l co F) (hg : w.grownBy w' (Value.slice ao l co).ownBlock) : OwnU w' N a m c f := by
  refine ⟨h.1, ?_⟩
  rcases h.2 with e | ⟨g, cap, cs, e, hN, hb, hr⟩
  · exact .inl e
  · refine .inr ⟨g, cap, cs, e, hN, (hg.block g (Blk.lt (t := 45) (cs := cs) hb) (fun e2 => ?_)).trans hb, hr⟩
    obtain ⟨_, cs2, hb2⟩ := hv.row_blk e2.symm
    exact (show Blk w g 45 cs from hb).ne hb2 (by decide) rfl
/-- One word more. -/
theorem WordsIn.push (h : WordsIn w N r n ao co A C q) {a a' : Option Addr} {c c' : Nat} {p : Nat → Nat} (hu : OwnU w N a n c p) (ho : OwnV w' 29 N a' (r + 1) c' (fun i => if i < r then famV A (fun _ => n) C i else .slice a n c)) (hg : w.grownBy w' (Value.slice ao r co).ownBlock) :
    WordsIn w' N (r + 1) n a' c' (updF A r a) (updF C r c) (updF q r p) := by
  refine ⟨ho.congr fun i hi => ?_, fun i hi => ?_⟩
  · unfold famV updF
    by_cases h : i < r
    · rw [if_pos h, if_neg (by omega), if_neg (by omega)]
    · rw [if_neg h, if_pos (by omega), if_pos (by omega)]
  · by_cases hir : i = r
    · subst hir
      simp only [updF_at]
      exact hu.grownT h.v hg
    · simp only [updF_ne _ _ hir]
      exact (h.u i (by omega)).grownT h.v hg
end
/-- A codeword that can be read. -/
def GoodRow (x y : Nat → Int) (n : Nat) (q : Nat → Nat) : Prop := (∃ d, Near (slS x y) n q d) ∧ wrongN (fun i => onB (x i) (y i)) (slS x y) q n ≤ 8
theorem wrongN_congr {z : Nat → Bool} {s q q' : Nat → Nat} : ∀ {n}, (∀ i, i < n → q i = q' i) → wrongN z s q n = wrongN z s q' n
  | 0, _ => rfl
  | n + 1, h => by
    unfold wrongN
    rw [wrongN_congr (fun i hi => h i (by omega)), h n (by omega)]
theorem GoodRow.uniq {x y : Nat → Int} {n : Nat} {q q' : Nat → Nat} {d : Nat} (hn : n ≤ 1023) (h : Near (slS x y) n q d) (h' : GoodRow x y n q') : ∀ i, i < n → q i = q' i := by
  obtain ⟨⟨d', h2⟩, _⟩ := h'
  exact (Near.uniq hn h h2).1
/-- The points' distances from the words' symbols, added up. -/
def offX (W : Nat) (x : Nat → Int) (q : Nat → Nat → Nat) : Nat → Int
  | 0 => 0
  | n + 1 => offX W x q n + (x n - reS (q (n % W) (n / W)))
def offY (W : Nat) (y : Nat → Int) (q : Nat → Nat → Nat) : Nat → Int
  | 0 => 0
  | n + 1 => offY W y q n + (y n - imS (q (n % W) (n / W)))
/-- What is added up. -/
def Pu (a : Int) : Prop := a.natAbs ≤ 100000
theorem Pu.pm {a : Int} (h : Pu a) : Pm a := by unfold Pu Pm at *; omega
theorem offX_le {W : Nat} {x : Nat → Int} {q : Nat → Nat → Nat} : ∀ {n}, (∀ i, i < n → Pu (x i)) → (offX W x q n).natAbs ≤ 200000 * n
  | 0, _ => by show (0 : Int).natAbs ≤ _; omega
  | n + 1, h => by
    have h1 := offX_le (q := q) (W := W) (fun i hi => h i (by omega) : ∀ i, i < n → Pu (x i))
    have h2 := h n (by omega)
    have h3 : (reS (q (n % W) (n / W))).natAbs ≤ 1000 := by unfold reS co; omega
    unfold offX
    unfold Pu at h2
    omega
theorem offY_le {W : Nat} {y : Nat → Int} {q : Nat → Nat → Nat} : ∀ {n}, (∀ i, i < n → Pu (y i)) → (offY W y q n).natAbs ≤ 200000 * n
  | 0, _ => by show (0 : Int).natAbs ≤ _; omega
  | n + 1, h => by
    have h1 := offY_le (q := q) (W := W) (fun i hi => h i (by omega) : ∀ i, i < n → Pu (y i))
    have h2 := h n (by omega)
    have h3 : (imS (q (n % W) (n / W))).natAbs ≤ 1000 := by unfold imS co; omega
    unfold offY
    unfold Pu at h2
    omega
theorem re_le (s : Nat) : (reS s).natAbs ≤ 1000 := by unfold reS co; omega
theorem im_le (s : Nat) : (imS s).natAbs ≤ 1000 := by unfold imS co; omega
theorem Pm_off {a b : Int} (h : Pu a) (hb : b.natAbs ≤ 1000) : Pm (a - b) := by unfold Pu at h; unfold Pm; omega
/-- What Shift answers. -/
def ShiftR (x y : Nat → Int) (W K n : Nat) (e : Ending) : Prop :=
  (∃ q : Nat → Nat → Nat, (∀ r, r < W → GoodRow (fun i => x (r + i * W)) (fun i => y (r + i * W)) (K + 16) (q r)) ∧ e = .returned (.tuple #[ptv (offX W x q n) (offY W y q n), .int .i64 0])) ∨
  ((∃ r, r < W ∧ ∀ q, ¬ GoodRow (fun i => x (r + i * W)) (fun i => y (r + i * W)) (K + 16) q) ∧ e = .returned (.tuple #[.complex .f64 0 0, .int .i64 4]))
theorem MendR.good {w' : World} {N : Nat} {x y : Nat → Int} {n : Nat} {e : Ending} (hn : n ≤ 1023) (h : MendR w' N x y n e) :
    (∃ q a' c' v, e = .returned (.tuple #[.slice a' n c', .int .i64 (v : Nat), .bool true]) ∧ v = wrongN (fun i => onB (x i) (y i)) (slS x y) q n ∧ GoodRow x y n q ∧ OwnU w' N a' n c' q) ∨
    (∃ a' m c' v, e = .returned (.tuple #[.slice a' m c', .int .i64 (v : Nat), .bool false]) ∧ ∀ q, ¬ GoodRow x y n q) := by
  rcases h with ⟨q, d, a', c', hN, rfl, ho⟩ | ⟨hno, rfl⟩
  · by_cases h8 : wrongN (fun i => onB (x i) (y i)) (slS x y) q n ≤ 8
    · exact .inl ⟨q, a', c', _, by rw [decide_eq_true h8], rfl, ⟨⟨d, hN⟩, h8⟩, ho⟩
    · refine .inr ⟨a', n, c', _, by rw [decide_eq_false h8], fun q' h' => h8 ?_⟩
      rw [wrongN_congr (GoodRow.uniq hn hN h')]
      exact h'.2
  · exact .inr ⟨none, 0, 0, 0, rfl, fun q h => hno q _ h.1.choose_spec⟩
theorem MendR.forms {w' : World} {N : Nat} {x y : Nat → Int} {n : Nat} {e : Ending} (hn : n ≤ 1023) (h : MendR w' N x y n e) :
    ∃ aq nq cq v b, e = .returned (.tuple #[.slice aq nq cq, .int .i64 (v : Nat), .bool b]) ∧ ((b = true ∧ nq = n ∧ ∃ q, v = wrongN (fun i => onB (x i) (y i)) (slS x y) q n ∧ GoodRow x y n q ∧ OwnU w' N aq n cq q) ∨ (b = false ∧ ∀ q, ¬ GoodRow x y n q)) := by
  rcases h.good hn with ⟨q, a', c', v, he, hv, hg, ho⟩ | ⟨a', m, c', v, he, hno⟩
  · exact ⟨a', n, c', v, true, he, .inl ⟨rfl, rfl, q, hv, hg, ho⟩⟩
  · exact ⟨a', m, c', v, false, he, .inr ⟨rfl, hno⟩⟩
set_option maxRecDepth 100000 in
set_option maxHeartbeats 8000000 in
theorem shift_any (V : Value) (B P : Int) (W K n : Nat) (a : Option Addr) (c : Nat) (x y : Nat → Int) (w : World) (h : GeoOk B P W K) (hn : n = W * (K + 16)) (hT : HasT w V) (ha : ArgV w a n (ptsV x y)) (hx : ∀ i, i < n → Pu (x i) ∧ Pu (y i)) :
    Calls Try.prog 29 #[V, geoV B P W K, .slice a n c] w fun e w' => ShiftR x y W K n e ∧ Keep (fun _ => False) w w' := by
  obtain ⟨a1, n1, c1, a2, n2, c2, rfl⟩ := hT.form
  obtain ⟨hw0, hw1, hk0, hk1, _, _⟩ := geo_nat h
  have hn4 : n ≤ 320 := by rw [hn]; exact Nat.mul_le_mul hw1 (by omega : K + 16 ≤ 80)
  obtain ⟨M, hM⟩ : ∃ M, M = (w.alloc (.cells #[.slice a1 n1 c1, .slice a2 n2 c2] 32)).alloc (.cells #[.int .i64 B, .int .i64 P, .int .i64 W, .int .i64 K] 23) := ⟨_, rfl⟩
  have kw : Keep (fun _ => False) w M := by rw [hM]; exact ((Keep.refl _ w).alloc _).alloc _
  have bT : Blk M w.heap.size 32 #[.slice a1 n1 c1, .slice a2 n2 c2] := by rw [hM]; exact (Blk.new w _ _).alloc _
  have bG : Blk M (w.heap.size + 1) 23 #[.int .i64 B, .int .i64 P, .int .i64 W, .int .i64 K] := by rw [hM]; exact Blk.here _ _ _ _ (by simp)
  have HT := Lib.hid (hT.keep kw)
  have HA := Lib.hid (ha.keep kw)
  have HX := Lib.hid hx
  have HN := Lib.hid hn
  have HZ := Lib.hid kw.size
  have HF := Lib.hid (fun w => fits_yes B P W K n a c w h hn)
  clear hT ha hx hn
  go_enter Try.func29, Try.ntmps29
  go_wp2_with fail
  rw [← hM]
  clear hM
  go_wp2_with fail
  obtain ⟨g0, g1, g2, g3⟩ := geo_cells bG
  go_wp2_with fail
  clear g0 g1 g2 g3
  refine (HF.out _).mono ?_
  rintro e w1 ⟨rfl, k1⟩
  have bG1 := bG.keep k1 (by simp)
  obtain ⟨g0, g1, g2, g3⟩ := geo_cells bG1
  clear bG1
  go_wp2_with fail
  clear g0 g1 g2 g3
  go_loopw [9, 25] (fun v3 v4 wr => ∃ (r : Nat) (ao : Option Addr) (co : Nat) (A : Nat → Option Addr) (C : Nat → Nat) (q : Nat → Nat → Nat), r ≤ W ∧ v3 = .slice ao r co ∧ v4 = .int .i64 r ∧ Hid (WordsIn wr M.heap.size r (K + 16) ao co A C q) ∧ Hid (∀ i, i < r → GoodRow (fun t => x (i + t * W)) (fun t => y (i + t * W)) (K + 16) (q i)) ∧ Keep (fun _ => False) M wr) (fun _ v _ => W - (intOf v).toNat)
  case atStart => exact ⟨0, none, 0, fun _ => none, fun _ => 0, fun _ _ => 0, by omega, rfl, rfl, Lib.hid (WordsIn.nil _ _ _ _ _ _), Lib.hid (fun i hi => by omega), k1⟩
  case round =>
    obtain ⟨r, ao, co, A, C, q, hr, rfl, rfl, HO, HR, kk⟩ := hrel
    by_cases hrW : r < W
    · have hrW' : (r : Int) < (W : Int) := by omega
      have kd := kk.drew
      have bTr := bT.keep kd (by simp)
      have bGr := bG.keep kd (by simp)
      obtain ⟨t0, t1⟩ := tabs_cells bTr
      obtain ⟨g0, g1, g2, g3⟩ := geo_cells bGr
      have A0 := Lib.hid (HA.out.keep kd)
      go_wp2_with fail
      go_region_held3 (fun w' => w'.cell? ⟨w.heap.size, 0, none⟩ = some (.slice a1 n1 c1) ∧ w'.cell? ⟨w.heap.size, 1, none⟩ = some (.slice a2 n2 c2) ∧ w'.cell? ⟨w.heap.size + 1, 0, none⟩ = some (.int .i64 B) ∧ w'.cell? ⟨w.heap.size + 1, 1, none⟩ = some (.int .i64 P) ∧ w'.cell? ⟨w.heap.size + 1, 2, none⟩ = some (.int .i64 W) ∧ w'.cell? ⟨w.heap.size + 1, 3, none⟩ = some (.int .i64 K))
        (first | exact ⟨t0, t1, g0, g1, g2, g3⟩ | exact ⟨u0, u1, h0, h1, h2, h3⟩ | exact ⟨v0, v1, i0, i1, i2, i3⟩)
        (first
          | (go_at_call 46; refine (row_any B P W K r (K + 16) n _ _ x y _ A0.out HN.out hrW (by omega) (by omega)).mono ?_; rintro e w5 ⟨aR, cR, rfl, oR, k5⟩; have K5 := kd.comp k5; obtain ⟨u0, u1⟩ := tabs_cells (bT.keep K5 (by simp)); obtain ⟨h0, h1, h2, h3⟩ := geo_cells (bG.keep K5 (by simp)))
          | (go_at_call 45; refine (fmended_any _ _ (K + 16) _ _ _ _ (HT.out.keep K5) (oR.arg (by omega)) (fun i hi => by have := HX.out (r + i * W) (by have := (row_lt (r := r) (j := i) (W := W) (N := K + 16) hrW).2 hi; have := HN.out; omega); exact ⟨this.1.pm, this.2.pm⟩) (by omega) (by omega)).mono ?_; rintro e w6 ⟨hm, k6⟩; obtain ⟨aq, nq, cq, v, b2, rfl, hm2⟩ := hm.forms (by omega); have K6 := K5.comp k6; obtain ⟨v0, v1⟩ := tabs_cells (bT.keep K6 (by simp)); obtain ⟨i0, i1, i2, i3⟩ := geo_cells (bG.keep K6 (by simp))))
      have HO6 := HO.out.keep ((Keep.refl (fun _ => False) wr).drew.comp (k5.comp k6))
      clear t0 t1 g0 g1 g2 g3 u0 u1 h0 h1 h2 h3 v0 v1 i0 i1 i2 i3 hm A0 bTr bGr
      rcases hm2 with ⟨rfl, rfl, q5, _, hgood, ho⟩ | ⟨rfl, hno⟩
      · have HG := Lib.hid hgood
        have kL := K6.alloc (.cells #[.slice aq (K + 16) cq] 29)
        have k2L := (Keep.refl (fun _ => False) w6).alloc (.cells #[.slice aq (K + 16) cq] 29)
        have OL := Lib.hid (HO6.keep k2L)
        have OU := Lib.hid ((ho.more (show M.heap.size ≤ w5.heap.size from K5.size)).keep k2L)
        have BL := Lib.hid (Blk.new w6 29 #[.slice aq (K + 16) cq])
        have hsL := kL.size
        clear HO6 ho hgood k5 k6 oR K5 k2L
        go_wp2_with (refine wpList_append_1 ty_uu rfl (.tmp 40) (.tmp 42) rfl M.heap.size ao r co (famV A (fun _ => K + 16) C) rfl OL.out.v w6.heap.size _ rfl BL.out rfl (by omega) hsL ?_)
        intro a7 c7 w7 o7 g7
        have O7 := Lib.hid (OL.out.push OU.out o7 g7)
        have K7 := kL.grown g7 (fun t ht => .inr (OL.out.v.row_blk ht).1)
        have HR7 := Lib.hid (show ∀ i, i < r + 1 → GoodRow (fun t => x (i + t * W)) (fun t => y (i + t * W)) (K + 16) (updF q r q5 i) from fun i hi => by
          by_cases hir : i = r
          · subst hir
            rw [updF_at]
            exact HG.out
          · rw [updF_ne _ _ hir]
            exact HR.out i (by omega))
        clear o7 g7 kL OL BL hsL OU
        go_wp2_with fail
        exact ⟨⟨r + 1, a7, c7, updF A r aq, updF C r cq, updF q r q5, by omega, rfl, by go_num, O7, HR7, K7⟩, by simp [intOf]; omega⟩
      · clear HO6 k5 k6 oR K5
        go_wp2_with fail
        go_ret2
        exact ⟨.inr ⟨⟨r, hrW, hno⟩, rfl⟩, kw.comp K6⟩
    · obtain rfl : r = W := by omega
      have hrW' : ¬ (r : Int) < (r : Int) := by omega
      have hr0 : 0 < r := by omega
      go_wp2_with fail
      clear hrW'
      obtain ⟨gW, rfl, _, _, hrow⟩ := HO.out.v.row hr0
      have HW := Lib.hid hrow
      have HU := Lib.hid HO.out.u
      clear hrow HO
      go_loopw [14, 47] (fun v3 v4 wt => ∃ j : Nat, j ≤ n ∧ v3 = ptv (offX r x q j) (offY r y q j) ∧ v4 = .int .i64 j ∧ Keep (fun _ => False) wr wt) (fun _ v _ => n - (intOf v).toNat)
      case atStart => exact ⟨0, by omega, by show Value.complex .f64 0 0 = ptv 0 0; unfold ptv; rw [show (2 * (0 : Int)) = 0 from rfl, fx_zero], rfl, Keep.refl _ _⟩
      case round =>
        obtain ⟨j, hj, rfl, rfl, kt⟩ := hrel
        by_cases hjn : j < n
        · have hjn' : (j : Int) < (n : Int) := by omega
          obtain ⟨bA, oA, rfl, hbA, hcA⟩ := HA.out.at_ (by omega)
          have Kt := kk.comp kt
          have c0 := (Kt.cell (p := ⟨bA, oA + j, none⟩) hbA (by simp)).trans (hcA j hjn)
          rw [show ptsV x y j = ptv (x j) (y j) from rfl] at c0
          obtain ⟨g0, g1, g2, g3⟩ := geo_cells (bG.keep Kt (by simp))
          have hmr : j % r < r := Nat.mod_lt _ hr0
          have hdr : j / r < K + 16 := by
            rw [Nat.div_lt_iff_lt_mul hr0, Nat.mul_comm, ← HN.out]
            exact hjn
          have cW := (HW.out.keep kt (by simp)).val hmr
          have HUr := (HU.out (j % r) hmr).keep kt
          obtain ⟨gR, haR, _, _, hR⟩ := HUr.row (by omega)
          unfold famV at cW
          rw [haR] at cW
          have cR := hR.val hdr
          have hl : q (j % r) (j / r) < 1024 := by
            obtain ⟨⟨d, hnear⟩, _⟩ := HR.out (j % r) hmr
            exact hnear.1 _ hdr
          have hxy := HX.out j hjn
          have hoff := Lib.hid (fun w => (off_any (q (j % r) (j / r)) (by omega) (x j) (y j) hxy.1.pm hxy.2.pm w).mono fun _ _ ⟨h1, h2⟩ => And.intro h1 h2.symm)
          have hsx := offX_le (q := q) (W := r) (fun i hi => (HX.out i (by omega)).1 : ∀ i, i < j → Pu (x i))
          have hsy := offY_le (q := q) (W := r) (fun i hi => (HX.out i (by omega)).2 : ∀ i, i < j → Pu (y i))
          have hadd := pt_add (a := offX r x q j) (b := offY r y q j) (c := x j - reS (q (j % r) (j / r))) (d := y j - imS (q (j % r) (j / r)))
            (by unfold Pm; omega) (by unfold Pm; omega) (Pm_off hxy.1 (re_le _)) (Pm_off hxy.2 (im_le _))
          have HNX := Lib.hid (show offX r x q j + (x j - reS (q (j % r) (j / r))) = offX r x q (j + 1) from rfl)
          have HNY := Lib.hid (show offY r y q j + (y j - imS (q (j % r) (j / r))) = offY r y q (j + 1) from rfl)
          have e1 : (j : Int).tmod (r : Int) = ((j % r : Nat) : Int) := by rw [Int.tmod_eq_emod_of_nonneg (by omega)]; rfl
          have e2 : (j : Int).tdiv (r : Int) = ((j / r : Nat) : Int) := by rw [Int.tdiv_eq_ediv_of_nonneg (by omega)]; rfl
          have hrne : ¬ r = 0 := by omega
          have e3 : IntKind.i64.wrap ((j / r : Nat) : Int) = ((j / r : Nat) : Int) := wraps_i64 _ (Int.natCast_nonneg _) (by omega)
          have hrne1 : ¬ (r : Int) = -1 := by omega
          have hjd' : ((j / r : Nat) : Int) < (K : Int) + 16 := by omega
          rw [HNX.out, HNY.out] at hadd
          clear hcA hsx hsy hxy HUr haR hR
          generalize x j - reS (q (j % r) (j / r)) = dx at *
          generalize y j - imS (q (j % r) (j / r)) = dy at *
          generalize q (j % r) (j / r) = qj at *
          generalize C (j % r) = cj at *
          generalize j % r = jm at *
          generalize j / r = jd at *
          generalize ptv (offX r x q j) (offY r y q j) = P0 at *
          generalize hP1 : ptv (offX r x q (j + 1)) (offY r y q (j + 1)) = P1 at *
          have HP1 := Lib.hid hP1
          generalize ptv (x j) (y j) = X at *
          generalize ptv dx dy = D at *
          clear hP1 HNX HNY
          go_wp2_with fail
          go_quiet (first | (go_at_call 55; refine Calls.quiet_of_same (hoff.out _)))
          clear e1 e2 e3
          go_wp2_with fail
          exact ⟨⟨j + 1, by omega, HP1.out.symm, by go_num, kt.drewN _⟩, by simp [intOf]; omega⟩
        · obtain rfl : j = n := by omega
          have hjn' : ¬ (j : Int) < (j : Int) := by omega
          go_wp2_with fail
          go_ret2
          exact ⟨.inl ⟨q, HR.out, rfl⟩, kw.comp (kk.comp kt)⟩
end Go.Proofs.Ytdlmjjlejkkniaa
