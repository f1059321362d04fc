/- The functions of package field. -/
import Derived.Test.YtdlmjjlejkkniaaGreatU
import Derived.Test.YtdlmjjlejkkniaaGreatBitN
import Derived.Test.YtdlmjjlejkkniaaGreatGf
namespace Go.Proofs.YtdlmjjlejkkniaaGreat
open Go.RowKit

theorem fadd_any (a b : Nat) (w : World) (ha : a < 65536) (hb : b < 65536) :
    Calls Tryz.prog 124 #[.int .u16 a, .int .u16 b] w fun e w' => e = .returned (.int .u16 ((((a ^^^ b) % 1024 : Nat)) : Int)) ∧ w = w' := by
  have h := xor_u16 ha hb
  go_enter Tryz.func124, Tryz.ntmps124
  go_wp2
  go_ret
  exact ⟨rfl, rfl⟩

/-- The table of the powers of x. -/
def expArr : Array Value := uArr ex 1023
/-- The table of which power each symbol is. -/
noncomputable def logArr : Array Value := valsArr (fun a => .int .i64 (lg a)) 1024
def tabV (g1 g2 : Nat) : Value := .agg #[.slice (some ⟨g1, 0, none⟩) 1023 1023, .slice (some ⟨g2, 0, none⟩) 1024 1024]
/-- Tables that were made. -/
structure Tab (w : World) (g1 g2 : Nat) : Prop where
  e : Blk w g1 25 expArr
  l : Blk w g2 3 logArr
theorem Tab.keep {w w' : World} {g1 g2 : Nat} (h : Tab w g1 g2) (k : Keep (fun _ => False) w w') : Tab w' g1 g2 := ⟨h.e.keep k (by simp), h.l.keep k (by simp)⟩
theorem Tab.ecell {w : World} {g1 g2 : Nat} (h : Tab w g1 g2) {j : Nat} (hj : j < 1023) : w.cell? ⟨g1, j, none⟩ = some (.int .u16 (ex j : Nat)) := by
  have hb : Blk w g1 25 (valsArr (fun i => .int .u16 (ex i : Nat)) 1023) := h.e
  exact hb.val hj
theorem Tab.lcell {w : World} {g1 g2 : Nat} (h : Tab w g1 g2) {a : Nat} (ha : a < 1024) : w.cell? ⟨g2, a, none⟩ = some (.int .i64 (lg a : Nat)) := by
  have hb : Blk w g2 3 (valsArr (fun i => .int .i64 (lg i : Nat)) 1024) := h.l
  exact hb.val ha
theorem Tryz.info_int : (Tryz.prog.info? 3).map (fun i => (i.zero, i.size, i.bytes)) = some (some (.int .i64 0), 1, 8) := by kernel_rfl
noncomputable def logK (k a : Nat) : Nat := if a ≠ 0 ∧ a < 1024 ∧ lg a < k then lg a else 0
theorem logK_zero (a : Nat) : logK 0 a = 0 := by simp [logK]
theorem logK_full {a : Nat} (ha : a < 1024) : logK 1023 a = lg a := by
  unfold logK
  by_cases h : a = 0
  · subst h; simp [lg_zero]
  · rw [if_pos ⟨h, ha, lg_lt a⟩]
theorem logK_next {k a : Nat} (hk : k < 1023) (ha : a < 1024) : logK (k + 1) a = if a = ex k then k else logK k a := by
  by_cases h : a = ex k
  · subst h
    have h1 := lg_ex hk
    simp [logK, ex_pos, ex_lt, h1]
  · rw [if_neg h]
    unfold logK
    by_cases h0 : a = 0
    · simp [h0]
    · have h2 := lg_spec ha h0
      have h3 : lg a ≠ k := fun e => h (by rw [← e]; exact h2.2.symm)
      have h4 : (lg a < k + 1) = (lg a < k) := by apply propext; omega
      simp only [h4]
theorem xt_big {a : Nat} (h : 1024 ≤ 2 * a) : xt a = (2 * a) ^^^ 1033 := by simp [xt, h]
theorem xt_small {a : Nat} (h : ¬ 1024 ≤ 2 * a) : xt a = 2 * a := by simp [xt, h]

set_option maxHeartbeats 2000000 in
set_option maxRecDepth 100000 in
theorem make_any (w : World) :
    Calls Tryz.prog 17 #[] w fun e w' => ∃ g1 g2, e = .returned (tabV g1 g2) ∧ Tab w' g1 g2 ∧ w.heap.size ≤ g1 ∧ w.heap.size ≤ g2 ∧ Keep (fun _ => False) w w' := by
  have hm1 := make_u 1023 1023 rfl (by omega)
  have hm2 := make_vals (P := Tryz.prog) Tryz.underlying47 Tryz.info_int rfl 1024 1024 rfl (by omega) (by omega)
  go_enter Tryz.func17, Tryz.ntmps17
  go_upto_region 1 with (fail)
  go_cut [1, 4, 5] (fun v v4 v5 wc => ∃ gt g1 g2 : Nat, v = .pointer (some ⟨gt, 0, none⟩) ∧ v4 = .slice (some ⟨g1, 0, none⟩) 1023 1023 ∧ v5 = .slice (some ⟨g2, 0, none⟩) 1024 1024 ∧ Blk wc w.heap.size 49 #[.slice none 0 0, .slice none 0 0] ∧
    Blk wc gt 49 #[.slice (some ⟨g1, 0, none⟩) 1023 1023, .slice (some ⟨g2, 0, none⟩) 1024 1024] ∧ Blk wc g1 25 (uArr (fun _ => 0) 1023) ∧ Blk wc g2 3 (valsArr (fun _ => .int .i64 0) 1024) ∧
    w.heap.size < gt ∧ w.heap.size < g1 ∧ w.heap.size < g2 ∧ Keep (fun _ => False) w wc)
  case first =>
    go_region
    all_goals
      go_wp2_with fail
      go_meet
      refine ⟨_, _, _, rfl, rfl, rfl, ?_, ?_, ?_, ?_, ?_, ?_, ?_, ?_⟩
      all_goals first
        | omega
        | (with_reducible exact (((((Keep.refl _ _).alloc _).alloc _).alloc _).alloc _).drew)
        | (with_reducible repeat (first | (refine Blk.here _ _ _ _ ?_; (simp; done)) | refine Blk.drew ?_ | refine Blk.alloc ?_ _))
  case rest =>
    obtain ⟨gt, g1, g2, rfl, rfl, rfl, b0, bt, b1, b2, n0, n1, n2, k0⟩ := hcut
    clear hm1 hm2
    have hne : gt ≠ w.heap.size := by omega
    have ht1 := bt.ne b1 (by decide)
    have ht2 := bt.ne b2 (by decide)
    have h12 := b1.ne b2 (by decide)
    go_wp2
    go_loopw [2, 7] (fun v2 v7 wr => ∃ k : Nat, k ≤ 1023 ∧ v7 = .int .i64 k ∧ v2 = .int .i64 (ex k) ∧ Blk wr w.heap.size 49 #[.slice none 0 0, .slice none 0 0] ∧
      Blk wr gt 49 #[.slice (some ⟨g1, 0, none⟩) 1023 1023, .slice (some ⟨g2, 0, none⟩) 1024 1024] ∧ Blk wr g1 25 (uArr (fun i => if i < k then ex i else 0) 1023) ∧
      Blk wr g2 3 (valsArr (fun a => .int .i64 (logK k a)) 1024) ∧ Keep (fun _ => False) w wr) (fun _ v7 _ => 1023 - (intOf v7).toNat)
    case atStart =>
      refine ⟨0, by omega, rfl, rfl, b0, bt, ?_, ?_, k0⟩
      · simpa using b1
      · have e : (fun a : Nat => Value.int .i64 ((logK 0 a : Nat) : Int)) = fun _ => Value.int .i64 0 := by
          funext a
          rw [logK_zero]
          rfl
        rw [e]
        exact b2
    case round =>
      clear b0 bt b1 b2 k0
      obtain ⟨k, hk, rfl, rfl, b0, bt, b1, b2, kr⟩ := hrel
      by_cases hk1 : k < 1023
      · have hkk : (k : Int) < 1023 := by omega
        have hx := ex_lt k
        have c1 : wr.cell? ⟨gt, 0, none⟩ = some (.slice (some ⟨g1, 0, none⟩) 1023 1023) := by rw [bt.cell]; rfl
        have c2 : wr.cell? ⟨gt, 1, none⟩ = some (.slice (some ⟨g2, 0, none⟩) 1024 1024) := by rw [bt.cell]; rfl
        have c3 := b1.val hk1
        have c4 := b2.val hx
        have z3 := b1.frozen k
        have z4 := b2.frozen (ex k)
        have hxi : ((ex k : Nat) : Int) < 1024 := by omega
        have hw : IntKind.u16.wrap ((ex k : Nat) : Int) = (ex k : Nat) := wraps_u16 _ (by omega) (by omega)
        have hn1 : ({ block := g2, off := ex k } : Addr) ≠ { block := g1, off := k } := fun e => h12 (by injection e with e1; exact e1.symm)
        have hn2 : ({ block := gt, off := 1 } : Addr) ≠ { block := g1, off := k } := fun e => ht1 (by injection e)
        have kk := (kr.setCell (p := ⟨g1, k, none⟩) (.inr (by show w.heap.size ≤ g1; omega)) (.int .u16 (ex k))).setCell (p := ⟨g2, ex k, none⟩) (.inr (by show w.heap.size ≤ g2; omega)) (.int .i64 k)
        have d0 := (b0.far (p := ⟨g1, k, none⟩) (by show w.heap.size ≠ g1; omega) (.int .u16 (ex k))).far (p := ⟨g2, ex k, none⟩) (by show w.heap.size ≠ g2; omega) (.int .i64 k)
        have dt := (bt.far (p := ⟨g1, k, none⟩) ht1 (.int .u16 (ex k))).far (p := ⟨g2, ex k, none⟩) ht2 (.int .i64 k)
        have d1 := (b1.storeU k (ex k) (f' := fun i => if i < k + 1 then ex i else 0) (fun i hi => by
          by_cases e : i = k
          · subst e; simp
          · by_cases e2 : i < k
            · simp [e, e2, show i < k + 1 by omega]
            · simp [e, e2, show ¬ i < k + 1 by omega])).far (p := ⟨g2, ex k, none⟩) h12 (.int .i64 k)
        have d2 := (b2.far (p := ⟨g1, k, none⟩) (Ne.symm h12) (.int .u16 (ex k))).store (ex k) (.int .i64 k)
        rw [valsArr_congr (h := fun a => .int .i64 ((logK (k + 1) a : Nat) : Int)) (fun a ha => by rw [logK_next hk1 ha]; split <;> rfl)] at d2
        have HK := Lib.hid (And.intro kk (And.intro d0 (And.intro dt (And.intro d1 d2))))
        clear kk d0 dt d1 d2
        have hs : ex (k + 1) = xt (ex k) := rfl
        go_wp2
        · have h1 : 1024 ≤ ((ex k : Nat) : Int) * 2 := by omega
          refine ⟨⟨k + 1, by omega, by go_num, ?_, HK.out.2.1, HK.out.2.2.1, HK.out.2.2.2.1, HK.out.2.2.2.2, HK.out.1⟩, by simp [intOf]; omega⟩
          have h2 := xor_i64 (a := 2 * ex k) (b := 1033) (by omega) (by omega)
          rw [show ((ex k : Nat) : Int) * 2 = ((2 * ex k : Nat) : Int) by omega]
          rw [hs, xt_big (by omega)]
          exact congrArg _ h2
        · have h1 : ¬ 1024 ≤ ((ex k : Nat) : Int) * 2 := by omega
          refine ⟨⟨k + 1, by omega, by go_num, ?_, HK.out.2.1, HK.out.2.2.1, HK.out.2.2.2.1, HK.out.2.2.2.2, HK.out.1⟩, by simp [intOf]; omega⟩
          rw [hs, xt_small (by omega)]
          congr 1
          omega
      · obtain rfl : k = 1023 := by omega
        have c1 : wr.cell? ⟨gt, 0, none⟩ = some (.slice (some ⟨g1, 0, none⟩) 1023 1023) := by rw [bt.cell]; rfl
        have c2 : wr.cell? ⟨gt, 1, none⟩ = some (.slice (some ⟨g2, 0, none⟩) 1024 1024) := by rw [bt.cell]; rfl
        have c3 : wr.cell? ⟨w.heap.size, 0, none⟩ = some (.slice none 0 0) := by rw [b0.cell]; rfl
        have c4 : wr.cell? ⟨w.heap.size, 1, none⟩ = some (.slice none 0 0) := by rw [b0.cell]; rfl
        have z0 := b0.frozen 0
        have z1 := b0.frozen 1
        go_wp2
        refine bodyPost_ret (results_cell_row rfl _ _ w.heap.size 49 #[.slice (some ⟨g1, 0, none⟩) 1023 1023, .slice (some ⟨g2, 0, none⟩) 1024 1024] (0, 0) _ rfl ?_ Tryz.underlying49 rfl (by kernel_rfl)) rfl ?_
        · exact (b0.put 0 (.slice (some ⟨g1, 0, none⟩) 1023 1023)).put 1 (.slice (some ⟨g2, 0, none⟩) 1024 1024)
        · have e1 : uArr (fun i => if i < 1023 then ex i else 0) 1023 = expArr := uArr_congr fun i hi => by simp [hi]
          have e2 : valsArr (fun a => Value.int .i64 ((logK 1023 a : Nat) : Int)) 1024 = logArr := valsArr_congr fun a ha => by rw [logK_full ha]
          rw [e1] at b1
          rw [e2] at b2
          refine ⟨g1, g2, rfl, ⟨(b1.far (p := ⟨w.heap.size, 0, none⟩) (by show g1 ≠ w.heap.size; omega) _).far (p := ⟨w.heap.size, 1, none⟩) (by show g1 ≠ w.heap.size; omega) _, (b2.far (p := ⟨w.heap.size, 0, none⟩) (by show g2 ≠ w.heap.size; omega) _).far (p := ⟨w.heap.size, 1, none⟩) (by show g2 ≠ w.heap.size; omega) _⟩, by omega, by omega, ?_⟩
          exact (kr.setCell (p := ⟨w.heap.size, 0, none⟩) (.inr (Nat.le_refl _)) _).setCell (p := ⟨w.heap.size, 1, none⟩) (.inr (Nat.le_refl _)) _

/-- Tables, made or not. -/
def HasT (w : World) (V : Value) : Prop := (∃ g1 g2, V = tabV g1 g2 ∧ Tab w g1 g2) ∨ V = .agg #[.slice none 0 0, .slice none 0 0]
theorem HasT.keep {w w' : World} {V : Value} (h : HasT w V) (k : Keep (fun _ => False) w w') : HasT w' V := by
  rcases h with ⟨g1, g2, e, t⟩ | e
  · exact .inl ⟨g1, g2, e, t.keep k⟩
  · exact .inr e
theorem Tab.has {w : World} {g1 g2 : Nat} (h : Tab w g1 g2) : HasT w (tabV g1 g2) := .inl ⟨g1, g2, rfl, h⟩

set_option maxHeartbeats 1000000 in
theorem made_any (V : Value) (w : World) (hT : HasT w V) :
    Calls Tryz.prog 130 #[V] w fun e w' => ∃ g1 g2, e = .returned (tabV g1 g2) ∧ Tab w' g1 g2 ∧ Keep (fun _ => False) w w' := by
  rcases hT with ⟨g1, g2, rfl, t⟩ | rfl
  · unfold tabV
    go_enter Tryz.func130, Tryz.ntmps130
    go_wp2
    refine bodyPost_ret (results_cell_row rfl _ _ (w.heap.size + 1) 49 #[.slice (some ⟨g1, 0, none⟩) 1023 1023, .slice (some ⟨g2, 0, none⟩) 1024 1024] (0, 0) _ rfl ?_ Tryz.underlying49 rfl (by kernel_rfl)) rfl ?_
    · exact Blk.here _ _ _ _ (by simp)
    · exact ⟨g1, g2, rfl, t.keep (((Keep.refl _ w).alloc _).alloc _), ((Keep.refl _ w).alloc _).alloc _⟩
  · go_enter Tryz.func130, Tryz.ntmps130
    go_wp2_with fail
    refine (make_any _).mono ?_
    rintro e w1 ⟨g1, g2, rfl, t, n1, n2, k⟩
    have b := (Blk.here (w.alloc (.cells #[.slice none 0 0, .slice none 0 0] 49)) 49 #[.slice none 0 0, .slice none 0 0] (w.heap.size + 1) (by simp)).keep k (by simp)
    have kk := (((Keep.refl (fun _ => False) w).alloc (.cells #[.slice none 0 0, .slice none 0 0] 49)).alloc (.cells #[.slice none 0 0, .slice none 0 0] 49)).trans k (fun _ hi => .inl hi)
    have c0 : w1.cell? ⟨w.heap.size + 1, 0, none⟩ = some (.slice none 0 0) := by rw [b.cell]; rfl
    have c1 : w1.cell? ⟨w.heap.size + 1, 1, none⟩ = some (.slice none 0 0) := by rw [b.cell]; rfl
    have z0 := b.frozen 0
    have z1 := b.frozen 1
    simp at n1 n2
    clear k
    unfold tabV
    go_wp2_with fail
    refine bodyPost_ret (results_cell_row rfl _ _ (w.heap.size + 1) 49 #[.slice (some ⟨g1, 0, none⟩) 1023 1023, .slice (some ⟨g2, 0, none⟩) 1024 1024] (0, 0) _ rfl ?_ Tryz.underlying49 rfl (by kernel_rfl)) rfl ?_
    · exact (b.put 0 (.slice (some ⟨g1, 0, none⟩) 1023 1023)).put 1 (.slice (some ⟨g2, 0, none⟩) 1024 1024)
    · refine ⟨g1, g2, rfl, ⟨(t.e.far (p := ⟨w.heap.size + 1, 0, none⟩) (by show g1 ≠ w.heap.size + 1; omega) _).far (p := ⟨w.heap.size + 1, 1, none⟩) (by show g1 ≠ w.heap.size + 1; omega) _, (t.l.far (p := ⟨w.heap.size + 1, 0, none⟩) (by show g2 ≠ w.heap.size + 1; omega) _).far (p := ⟨w.heap.size + 1, 1, none⟩) (by show g2 ≠ w.heap.size + 1; omega) _⟩, ?_⟩
      exact (kk.setCell (p := ⟨w.heap.size + 1, 0, none⟩) (.inr (by show w.heap.size ≤ w.heap.size + 1; omega)) _).setCell (p := ⟨w.heap.size + 1, 1, none⟩) (.inr (by show w.heap.size ≤ w.heap.size + 1; omega)) _

theorem tab_field0 (a1 a2 : Option Addr) (n1 c1 n2 c2 : Nat) (w : World) : (Instr.field 49 (.agg #[.slice a1 n1 c1, .slice a2 n2 c2]) 0).run Tryz.prog w = .ok (.slice a1 n1 c1) w := by kernel_rfl
theorem tab_field1 (a1 a2 : Option Addr) (n1 c1 n2 c2 : Nat) (w : World) : (Instr.field 49 (.agg #[.slice a1 n1 c1, .slice a2 n2 c2]) 1).run Tryz.prog w = .ok (.slice a2 n2 c2) w := by kernel_rfl
theorem lg_small (a : Nat) : lg a < 1024 := by have := lg_lt a; omega
/-- The two fields of tables. -/
theorem HasT.form {w : World} {V : Value} (h : HasT w V) : ∃ a1 n1 c1 a2 n2 c2, V = .agg #[.slice a1 n1 c1, .slice a2 n2 c2] := by
  rcases h with ⟨g1, g2, rfl, _⟩ | rfl
  · exact ⟨_, _, _, _, _, _, rfl⟩
  · exact ⟨_, _, _, _, _, _, rfl⟩

set_option maxHeartbeats 1000000 in
theorem log_zero (V : Value) (a : Nat) (w : World) (hT : HasT w V) (h0 : a % 1024 = 0) :
    Calls Tryz.prog 131 #[V, .int .u16 a] w fun e w' => e = .returned (.tuple #[.int .i64 0, .bool false]) ∧ Keep (fun _ => False) w w' := by
  obtain ⟨a1, n1, c1, a2, n2, c2, rfl⟩ := hT.form
  have h1 : ((a : Nat) : Int) % 1024 = 0 := by omega
  go_enter Tryz.func131, Tryz.ntmps131
  go_wp2
  go_ret2
  exact ⟨rfl, (Keep.refl _ w).alloc _⟩
set_option maxHeartbeats 1000000 in
theorem log_some (V : Value) (a : Nat) (w : World) (hT : HasT w V) (h0 : a % 1024 ≠ 0) :
    Calls Tryz.prog 131 #[V, .int .u16 a] w fun e w' => e = .returned (.tuple #[.int .i64 (lg (a % 1024)), .bool true]) ∧ Keep (fun _ => False) w w' := by
  have k0 := (Keep.refl (fun _ => False) w)
  obtain ⟨a1, n1, c1, a2, n2, c2, rfl⟩ := hT.form
  have h1 : ¬ ((a : Nat) : Int) % 1024 = 0 := by omega
  have HT := Lib.hid (hT.keep (k0.alloc (.cells #[.slice a1 n1 c1, .slice a2 n2 c2] 49)))
  clear hT
  go_enter Tryz.func131, Tryz.ntmps131
  go_wp2_with fail
  refine (made_any _ _ HT.out).mono ?_
  rintro e w1 ⟨g1, g2, rfl, t, k⟩
  have hlt : a % 1024 < 1024 := by omega
  have c := t.lcell hlt
  have hx : ((a : Nat) : Int) % 1024 < 1024 := by omega
  have hn : (((a : Nat) : Int) % 1024).toNat = a % 1024 := by omega
  have hf := tab_field1 (some ⟨g1, 0, none⟩) (some ⟨g2, 0, none⟩) 1023 1023 1024 1024
  unfold tabV
  go_wp2_with fail
  go_ret2
  exact ⟨rfl, (k0.alloc _).trans k (fun _ hi => .inl hi)⟩

theorem exp_index (n : Int) (j : Nat) (hj : n % 1023 = j) : (wrap64 (n.tmod 1023 + 1023)).tmod 1023 = (j : Int) := by
  have h1 := Int.tmod_lt_of_pos n (show (0 : Int) < 1023 by omega)
  have h2 : -1023 < n.tmod 1023 := by have := Int.lt_tmod_of_pos n (show (0 : Int) < 1023 by omega); omega
  have h3 : wrap64 (n.tmod 1023 + 1023) = n.tmod 1023 + 1023 := by unfold wrap64; omega
  rw [h3, Int.tmod_eq_emod_of_nonneg (by omega), Int.add_emod_right, ← hj]
  rw [Int.tmod_eq_emod]
  split
  · simp
  · rw [Int.sub_emod]
    simp
set_option maxHeartbeats 1000000 in
theorem exp_any (V : Value) (n : Int) (w : World) (hT : HasT w V) :
    Calls Tryz.prog 115 #[V, .int .i64 n] w fun e w' => e = .returned (.int .u16 (ex ((n % 1023).toNat) : Nat)) ∧ Keep (fun _ => False) w w' := by
  have k0 := (Keep.refl (fun _ => False) w)
  obtain ⟨a1, n1, c1, a2, n2, c2, rfl⟩ := hT.form
  have HT := Lib.hid (hT.keep (k0.alloc (.cells #[.slice a1 n1 c1, .slice a2 n2 c2] 49)))
  clear hT
  go_enter Tryz.func115, Tryz.ntmps115
  go_wp2_with fail
  refine (made_any _ _ HT.out).mono ?_
  rintro e w1 ⟨g1, g2, rfl, t, k⟩
  have hf := tab_field0 (some ⟨g1, 0, none⟩) (some ⟨g2, 0, none⟩) 1023 1023 1024 1024
  obtain ⟨j, hj⟩ := Int.eq_ofNat_of_zero_le (Int.emod_nonneg n (show (1023 : Int) ≠ 0 by omega))
  have h1 := Int.emod_lt_of_pos n (show (0 : Int) < 1023 by omega)
  have hjl : j < 1023 := by omega
  have c := t.ecell hjl
  have hji : (j : Int) < 1023 := by omega
  have hw := exp_index n j hj
  have HJ := Lib.hid (show (n % 1023).toNat = j by omega)
  clear hj h1
  unfold tabV
  go_wp2_with fail
  go_ret
  rw [HJ.out]
  exact ⟨rfl, (k0.alloc _).trans k (fun _ hi => .inl hi)⟩
end Go.Proofs.YtdlmjjlejkkniaaGreat
