/- census.Of. -/
import Derived.Test.YtdlmjjlejkkniaaCensus
namespace Go.Proofs.Ytdlmjjlejkkniaa
open Go.RowKit

theorem OwnR.below {w : World} {N : Nat} {a : Option Addr} {n c : Nat} {f : Nat → Nat} {b : Nat → Bool} (h : OwnR w N a n c f b) (t : Nat) (ht : (Value.slice a n c).ownBlock = some t) : N ≤ t := by
  rcases h.2 with ⟨e, _⟩ | ⟨g, cap, cs, e, hN, _⟩
  · rw [e] at ht
    cases ht
  · rw [e] at ht
    cases ht
    exact hN
theorem row_info : ∃ i z, Try.prog.info? 72 = some i ∧ i.zero = some z ∧ i.size = 2 ∧ i.bytes = 16 ∧ z.cells.size = 2 := by
  have h : (Try.prog.info? 72).map (fun i => (i.zero, i.size, i.bytes)) = some (some (.agg #[.int .i64 0, .bool false]), 2, 16) := by kernel_rfl
  cases e : Try.prog.info? 72 with
  | none => rw [e] at h; cases h
  | some i =>
    rw [e] at h
    simp only [Option.map_some, Option.some.injEq, Prod.mk.injEq] at h
    exact ⟨i, _, rfl, h.1, h.2.1, h.2.2, rfl⟩
/-- append of one census.Row, just laid, onto a row of the call's own. -/
theorem wpList_append_row {w : World} {ops : Array Oper} {rest : List Oper} {o : Oper} {a : Act} {Q : Exit → Act → World → Prop} (hgd : o.guard = none) (s x : Operand)
    (ho : o.op = .call { callee := .builtin .append, args := #[s, x], argTypes := #[68, 68] })
    (N : Nat) (ao : Option Addr) (n co : Nat) (f : Nat → Nat) (b : Nat → Bool) (hs : a.eval s = .slice ao n co) (hown : OwnR w N ao n co f b) (g v : Nat) (u : Bool) (hx : a.eval x = .slice (some ⟨g, 0, none⟩) 1 1) (hp : Blk w g 72 #[.int .i64 (v : Nat), .bool u])
    (hn : n ≤ 1000) (hN : N ≤ w.heap.size)
    (h : ∀ a' c' w', OwnR w' N a' (n + 1) c' (fun i => if i = n then v else f i) (fun i => if i = n then u else b i) → w.grownBy w' (Value.slice ao n co).ownBlock → wpList Try.prog ops Q rest (a.put o.dst (.slice a' (n + 1) c')) w') :
    wpList Try.prog ops Q (o :: rest) a w := by
  obtain ⟨i, z, hi, hz, hsz, hby, hzs⟩ := row_info
  refine wpList_append_own w hgd s x 68 ho N 72 i z 2 16 Try.underlying68 hi hz hsz hby hzs (by omega) (.slice ao n co) n _ hs hown ⟨g, 0, none⟩ 1 1 [.int .i64 (v : Nat), .bool u] hx rfl ?_ ?_ (by unfold maxLen; omega) (by omega) hN ?_
  · intro j t hj
    rw [addr_add, Nat.zero_add, hp.cell]
    match j, hj with
    | 0, hj => exact hj
    | 1, hj => exact hj
  · intro t ht
    simp only [List.mem_cons, List.not_mem_nil, or_false] at ht
    rcases ht with rfl | rfl <;> rfl
  · intro v' w' h1 h2 _
    have hsl : ∃ a' c', v' = .slice a' (n + 1) c' := by
      rcases h1.2 with ⟨e, e0⟩ | ⟨g, cap, cs, e, _⟩
      · omega
      · exact ⟨_, _, e⟩
    obtain ⟨a', c', rfl⟩ := hsl
    refine h a' c' w' ?_ h2
    unfold OwnR
    rw [rowG_next]
    exact h1
theorem MendR.form {w' : World} {N : Nat} {x y : Nat → Int} {n : Nat} {e : Ending} (h : MendR w' N x y n e) :
    ∃ aq nq cq v b, e = .returned (.tuple #[.slice aq nq cq, .int .i64 (v : Nat), .bool b]) ∧ RowIs x y n (if b then v else 0) b := by
  rcases h with ⟨q, d, a', c', hN, rfl, _⟩ | ⟨hno, rfl⟩
  · exact ⟨a', n, c', _, _, rfl, .inl ⟨q, d, hN, rfl, rfl⟩⟩
  · exact ⟨none, 0, 0, 0, false, rfl, .inr ⟨hno, rfl, rfl⟩⟩
/-- What census.Of's rows say. -/
def CofR (w' : World) (N : Nat) (x y : Nat → Int) (W K : Nat) (a' : Option Addr) (c' : Nat) : Prop :=
  ∃ f b, OwnR w' N a' W c' f b ∧ ∀ r, r < W → RowIs (fun i => x (r + i * W)) (fun i => y (r + i * W)) (K + 16) (f r) (b r)
set_option maxRecDepth 100000 in
set_option maxHeartbeats 4000000 in
theorem cof_any (V : Value) (B P : Int) (W K n : Nat) (a : Option Addr) (c : Nat) (x y : Nat → Int) (w : World) (h : GeoOk B P W K) (hn : n = W * (K + 16)) (hT : HasT w V) (ha : ArgV w a n (ptsV x y)) (hx : ∀ i, i < n → Pm (x i) ∧ Pm (y i)) :
    Calls Try.prog 30 #[V, geoV B P W K, .slice a n c] w fun e w' => (∃ a' c', e = .returned (.tuple #[.slice a' W c', .int .i64 0]) ∧ CofR w' w.heap.size x y W K a' c') ∧ Keep (fun _ => False) w w' := by
  obtain ⟨a1, n1, c1, a2, n2, c2, rfl⟩ := hT.form
  obtain ⟨hw0, hw1, hk0, hk1, _, _⟩ := geo_nat h
  obtain ⟨M, hM⟩ : ∃ M, M = (w.alloc (.cells #[.slice a1 n1 c1, .slice a2 n2 c2] 32)).alloc (.cells #[.int .i64 B, .int .i64 P, .int .i64 W, .int .i64 K] 23) := ⟨_, rfl⟩
  have kw : Keep (fun _ => False) w M := by rw [hM]; exact ((Keep.refl _ w).alloc _).alloc _
  have bT : Blk M w.heap.size 32 #[.slice a1 n1 c1, .slice a2 n2 c2] := by rw [hM]; exact (Blk.new w _ _).alloc _
  have bG : Blk M (w.heap.size + 1) 23 #[.int .i64 B, .int .i64 P, .int .i64 W, .int .i64 K] := by rw [hM]; exact Blk.here _ _ _ _ (by simp)
  have HT := Lib.hid (hT.keep kw)
  have HA := Lib.hid (ha.keep kw)
  have HX := Lib.hid hx
  have HN := Lib.hid hn
  have HZ := Lib.hid kw.size
  have HF := Lib.hid (fun w => fits_yes B P W K n a c w h hn)
  clear hT ha hx hn
  go_enter Try.func30, Try.ntmps30
  go_wp2_with fail
  rw [← hM]
  clear hM
  refine (HF.out _).mono ?_
  rintro e w1 ⟨rfl, k1⟩
  have bG1 := bG.keep k1 (by simp)
  obtain ⟨g0, g1, g2, g3⟩ := geo_cells bG1
  clear bG1
  go_wp2_with fail
  clear g0 g1 g2 g3
  go_loopw [9, 22] (fun v3 v4 wr => ∃ (r : Nat) (ao : Option Addr) (co : Nat) (f : Nat → Nat) (b : Nat → Bool), r ≤ W ∧ v3 = .slice ao r co ∧ v4 = .int .i64 r ∧ Hid (OwnR wr M.heap.size ao r co f b) ∧ Hid (∀ i, i < r → RowIs (fun t => x (i + t * W)) (fun t => y (i + t * W)) (K + 16) (f i) (b i)) ∧ Keep (fun _ => False) M wr) (fun _ v _ => W - (intOf v).toNat)
  case atStart => exact ⟨0, none, 0, fun _ => 0, fun _ => false, by omega, rfl, rfl, Lib.hid (OwnR.nil _ _ _ _), Lib.hid (fun i hi => by omega), k1⟩
  case round =>
    obtain ⟨r, ao, co, f, b, hr, rfl, rfl, HO, HR, kk⟩ := hrel
    by_cases hrW : r < W
    · have hrW' : (r : Int) < (W : Int) := by omega
      have kd := kk.drew
      have bTr := bT.keep kd (by simp)
      have bGr := bG.keep kd (by simp)
      obtain ⟨t0, t1⟩ := tabs_cells bTr
      obtain ⟨g0, g1, g2, g3⟩ := geo_cells bGr
      have A0 := Lib.hid (HA.out.keep kd)
      go_wp2_with fail
      go_region_held3 (fun w' => w'.cell? ⟨w.heap.size, 0, none⟩ = some (.slice a1 n1 c1) ∧ w'.cell? ⟨w.heap.size, 1, none⟩ = some (.slice a2 n2 c2) ∧ w'.cell? ⟨w.heap.size + 1, 0, none⟩ = some (.int .i64 B) ∧ w'.cell? ⟨w.heap.size + 1, 1, none⟩ = some (.int .i64 P) ∧ w'.cell? ⟨w.heap.size + 1, 2, none⟩ = some (.int .i64 W) ∧ w'.cell? ⟨w.heap.size + 1, 3, none⟩ = some (.int .i64 K))
        (first | exact ⟨t0, t1, g0, g1, g2, g3⟩ | exact ⟨u0, u1, h0, h1, h2, h3⟩ | exact ⟨v0, v1, i0, i1, i2, i3⟩)
        (first
          | (go_at_call 46; refine (row_any B P W K r (K + 16) n _ _ x y _ A0.out HN.out hrW (by omega) (by omega)).mono ?_; rintro e w5 ⟨aR, cR, rfl, oR, k5⟩; have K5 := kd.comp k5; obtain ⟨u0, u1⟩ := tabs_cells (bT.keep K5 (by simp)); obtain ⟨h0, h1, h2, h3⟩ := geo_cells (bG.keep K5 (by simp)))
          | (go_at_call 45; refine (fmended_any _ _ (K + 16) _ _ _ _ (HT.out.keep K5) (oR.arg (by omega)) (fun i hi => HX.out _ (by have := (row_lt (r := r) (j := i) (W := W) (N := K + 16) hrW).2 hi; have := HN.out; omega)) (by omega) (by omega)).mono ?_; rintro e w6 ⟨hm, k6⟩; obtain ⟨aq, nq, cq, v, b2, rfl, hrow⟩ := hm.form; have K6 := K5.comp k6; obtain ⟨v0, v1⟩ := tabs_cells (bT.keep K6 (by simp)); obtain ⟨i0, i1, i2, i3⟩ := geo_cells (bG.keep K6 (by simp))))
      have HR2 := Lib.hid hrow
      have HO2 := Lib.hid (HO.out.keep ((Keep.refl (fun _ => False) wr).drew.comp (k5.comp k6)))
      clear hrow t0 t1 g0 g1 g2 g3 u0 u1 h0 h1 h2 h3 v0 v1 i0 i1 i2 i3 oR A0
      cases b2 with
      | true =>
        have kL := K6.alloc (.cells #[.int .i64 (v : Nat), .bool true] 72)
        have OL := Lib.hid (HO2.out.keep ((Keep.refl _ w6).alloc (.cells #[.int .i64 (v : Nat), .bool true] 72)))
        have BL := Lib.hid (Blk.new w6 72 #[.int .i64 (v : Nat), .bool true])
        have hsL := kL.size
        go_wp2_with (refine wpList_append_row rfl (.tmp 37) (.tmp 41) rfl M.heap.size ao r co f b rfl OL.out w6.heap.size v true rfl BL.out (by omega) hsL ?_)
        intro a3 c3 w7 o7 g7
        rw [show (fun i => decide (i = r) || b i) = (fun i => if i = r then true else b i) from funext fun i => by by_cases h : i = r <;> simp [h]] at o7
        have O7 := Lib.hid o7
        have K7 := kL.grown g7 (fun t ht => .inr (OL.out.below t ht))
        have HR7 := Lib.hid (show ∀ i, i < r + 1 → RowIs (fun t => x (i + t * W)) (fun t => y (i + t * W)) (K + 16) ((fun i => if i = r then v else f i) i) ((fun i => if i = r then true else b i) i) from fun i hi => by
          by_cases hir : i = r
          · subst hir
            dsimp only
            rw [if_pos rfl, if_pos rfl]
            exact HR2.out
          · dsimp only
            rw [if_neg hir, if_neg hir]
            exact HR.out i (by omega))
        clear o7 g7 kL OL BL hsL
        generalize (fun i => if i = r then v else f i) = f7 at O7 HR7
        generalize (fun i => if i = r then true else b i) = b7 at O7 HR7
        go_wp2_with fail
        exact ⟨⟨r + 1, a3, c3, f7, b7, by omega, rfl, by go_num, O7, HR7, K7⟩, by simp [intOf]; omega⟩
      | false =>
        have kL := K6.alloc (.cells #[.int .i64 (0 : Nat), .bool false] 72)
        have OL := Lib.hid (HO2.out.keep ((Keep.refl _ w6).alloc (.cells #[.int .i64 (0 : Nat), .bool false] 72)))
        have BL := Lib.hid (Blk.new w6 72 #[.int .i64 (0 : Nat), .bool false])
        have hsL := kL.size
        go_wp2_with (refine wpList_append_row rfl (.tmp 37) (.tmp 41) rfl M.heap.size ao r co f b rfl OL.out w6.heap.size 0 false rfl BL.out (by omega) hsL ?_)
        intro a3 c3 w7 o7 g7
        rw [show (fun i => !decide (i = r) && b i) = (fun i => if i = r then false else b i) from funext fun i => by by_cases h : i = r <;> simp [h]] at o7
        have O7 := Lib.hid o7
        have K7 := kL.grown g7 (fun t ht => .inr (OL.out.below t ht))
        have HR7 := Lib.hid (show ∀ i, i < r + 1 → RowIs (fun t => x (i + t * W)) (fun t => y (i + t * W)) (K + 16) ((fun i => if i = r then 0 else f i) i) ((fun i => if i = r then false else b i) i) from fun i hi => by
          by_cases hir : i = r
          · subst hir
            dsimp only
            rw [if_pos rfl, if_pos rfl]
            exact HR2.out
          · dsimp only
            rw [if_neg hir, if_neg hir]
            exact HR.out i (by omega))
        clear o7 g7 kL OL BL hsL
        generalize (fun i => if i = r then 0 else f i) = f7 at O7 HR7
        generalize (fun i => if i = r then false else b i) = b7 at O7 HR7
        go_wp2_with fail
        exact ⟨⟨r + 1, a3, c3, f7, b7, by omega, rfl, by go_num, O7, HR7, K7⟩, by simp [intOf]; omega⟩
    · obtain rfl : r = W := by omega
      have hrW' : ¬ (r : Int) < (r : Int) := by omega
      have O := Lib.hid (HO.out.more HZ.out)
      have K2 := kw.comp kk
      go_wp2_with fail
      go_ret2
      exact ⟨⟨ao, co, rfl, f, b, O.out, HR.out⟩, K2⟩
end Go.Proofs.Ytdlmjjlejkkniaa
