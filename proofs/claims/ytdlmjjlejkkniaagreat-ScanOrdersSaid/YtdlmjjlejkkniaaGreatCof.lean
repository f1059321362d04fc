/- census.Of and what it calls. -/
import Derived.Test.YtdlmjjlejkkniaaGreatPts
import Derived.Test.YtdlmjjlejkkniaaGreatCodeW
import Derived.Deep.RegionHeld3
namespace Go.Proofs.YtdlmjjlejkkniaaGreat
open Go.RowKit

/-- How many of the first n are nought or other than meant. -/
def wrongN (z : Nat → Bool) (s q : Nat → Nat) : Nat → Nat
  | 0 => 0
  | n + 1 => wrongN z s q n + if z n = true ∨ q n ≠ s n then 1 else 0
theorem wrongN_le (z : Nat → Bool) (s q : Nat → Nat) : ∀ n, wrongN z s q n ≤ n
  | 0 => Nat.le_refl _
  | n + 1 => by
    have := wrongN_le z s q n
    unfold wrongN
    split <;> omega
/-- Is a point nought? -/
def onB (a b : Int) : Bool := decide (a = 0) && decide (b = 0)
/-- The symbols that points are nearest. -/
def slS (x y : Nat → Int) : Nat → Nat := fun i => sl (x i) (y i)
/-- What Mended answers. -/
def MendR (w' : World) (N : Nat) (x y : Nat → Int) (n : Nat) (e : Ending) : Prop :=
  (∃ (q : Nat → Nat) (d : Nat) (a' : Option Addr) (c' : Nat), Near (slS x y) n q d ∧ e = .returned (.tuple #[.slice a' n c', .int .i64 (wrongN (fun i => onB (x i) (y i)) (slS x y) q n : Nat), .bool (decide (wrongN (fun i => onB (x i) (y i)) (slS x y) q n ≤ 8))]) ∧ OwnU w' N a' n c' q) ∨
  ((∀ q d, ¬ Near (slS x y) n q d) ∧ e = .returned (.tuple #[.slice none 0 0, .int .i64 0, .bool false]))

set_option maxRecDepth 100000 in
set_option maxHeartbeats 4000000 in
theorem fmended_any (V : Value) (a : Option Addr) (n c : Nat) (x y : Nat → Int) (w : World) (hT : HasT w V) (ha : ArgV w a n (ptsV x y)) (hx : ∀ i, i < n → Pm (x i) ∧ Pm (y i)) (hn : 16 < n) (hn2 : n ≤ 1023) :
    Calls Tryz.prog 71 #[V, .slice a n c] w fun e w' => MendR w' w.heap.size x y n e ∧ Keep (fun _ => False) w w' := by
  obtain ⟨a1, n1, c1, a2, n2, c2, rfl⟩ := hT.form
  obtain ⟨W, hW⟩ : ∃ W, W = w.alloc (.cells #[.slice a1 n1 c1, .slice a2 n2 c2] 49) := ⟨_, rfl⟩
  have kw : Keep (fun _ => False) w W := by rw [hW]; exact (Keep.refl _ w).alloc _
  have b0 : Blk W w.heap.size 49 #[.slice a1 n1 c1, .slice a2 n2 c2] := by rw [hW]; exact Blk.new w _ _
  have HT := Lib.hid (hT.keep kw)
  have HA := Lib.hid (ha.keep kw)
  have HX := Lib.hid hx
  have HZ := Lib.hid kw.size
  clear hT ha hx
  go_enter Tryz.func71, Tryz.ntmps71
  go_wp2_with fail
  rw [← hW]
  clear hW
  go_loopw [7, 18] (fun v3 v4 wr => ∃ (j : Nat) (ao : Option Addr) (co : Nat), j ≤ n ∧ v3 = .slice ao j co ∧ v4 = .int .i64 j ∧ Hid (OwnU wr W.heap.size ao j co (slS x y)) ∧ Keep (fun _ => False) W wr) (fun _ v _ => n - (intOf v).toNat)
  case atStart => exact ⟨0, none, 0, by omega, rfl, rfl, Lib.hid (OwnV.nil _ _ _ _), Keep.refl _ _⟩
  case round =>
    obtain ⟨j, ao, co, hj, rfl, rfl, HO, kk⟩ := hrel
    by_cases hjn : j < n
    · have hjn' : (j : Int) < (n : Int) := by omega
      obtain ⟨bA, oA, rfl, hbA, hcA⟩ := HA.out.at_ (by omega)
      have c0 := (kk.cell (p := ⟨bA, oA + j, none⟩) hbA (by simp)).trans (hcA j hjn)
      rw [show ptsV x y j = ptv (x j) (y j) from rfl] at c0
      have h1 := Lib.hid (fun w => slice_any (x j) (y j) (HX.out j hjn).1 (HX.out j hjn).2 w)
      rw [show sl (x j) (y j) = slS x y j from rfl] at h1
      have kL := kk.alloc (.cells #[.int .u16 (slS x y j : Nat)] 25)
      have OL := Lib.hid (HO.out.ownV.keep ((Keep.refl _ wr).alloc (.cells #[.int .u16 (slS x y j : Nat)] 25)))
      have BL := Lib.hid (Blk.new wr 25 #[.int .u16 (slS x y j : Nat)])
      have hsL := kL.size
      clear hcA HO kk b0
      unfold ptv at c0 h1
      go_wp2_with fail
      refine (h1.out _).mono ?_
      rintro e w1 ⟨rfl, rfl⟩
      clear c0
      go_wp2_with (refine wpList_append_1 ty_u rfl (.tmp 22) (.tmp 25) rfl W.heap.size ao j co (fun i => .int .u16 (slS x y i : Nat)) rfl OL.out wr.heap.size _ rfl BL.out rfl (by omega) hsL ?_)
      intro a3 c3 w6 o6 g6
      have O6 := Lib.hid (OwnV.ownU (o6.congr (f' := fun i => .int .u16 (slS x y i : Nat)) (fun i hi => by
        by_cases h : i < j
        · rw [if_pos h]
        · rw [if_neg h, show i = j by omega])))
      have K6 := kL.grown g6 (fun t ht => .inr (OL.out.lt t ht).1)
      clear o6 g6 kL OL BL hsL
      go_wp2_with fail
      exact ⟨⟨j + 1, a3, c3, by omega, rfl, by go_num, O6, K6⟩, by simp [intOf]; omega⟩
    · obtain rfl : j = n := by omega
      have hjn' : ¬ (j : Int) < (j : Int) := by omega
      have br := b0.keep kk (by simp)
      have d0 : wr.cell? ⟨w.heap.size, 0, none⟩ = some (.slice a1 n1 c1) := by rw [br.cell]; rfl
      have d1 : wr.cell? ⟨w.heap.size, 1, none⟩ = some (.slice a2 n2 c2) := by rw [br.cell]; rfl
      have HD := Lib.hid (dec_any _ _ j co _ wr (HT.out.keep kk) (HO.out.arg (by omega) (fun i _ => by have := sl_lt (x i) (y i); unfold slS; omega)) hn hn2 (fun i _ => sl_lt (x i) (y i)))
      clear br b0
      go_wp2_with fail
      refine HD.out.mono ?_
      rintro e w2 ⟨hdec, k2⟩
      have K2 := kk.comp k2
      clear d0 d1 HD
      rcases hdec with ⟨q, d, a', c', hN, rfl, oq⟩ | ⟨hno, rfl⟩
      · have HN := Lib.hid hN
        have HQ := Lib.hid oq
        have HS := Lib.hid (HO.out.keep k2)
        have HZ2 := Lib.hid kk.size
        clear hN oq HO k2
        go_wp2_with fail
        go_loopw [13, 39] (fun v3 v4 wt => ∃ k : Nat, k ≤ j ∧ v3 = .int .i64 (wrongN (fun i => onB (x i) (y i)) (slS x y) q k : Nat) ∧ v4 = .int .i64 k ∧ Keep (fun _ => False) w2 wt) (fun _ v _ => j - (intOf v).toNat)
        case atStart => exact ⟨0, by omega, rfl, rfl, Keep.refl _ _⟩
        case round =>
          obtain ⟨k, hk, rfl, rfl, k3⟩ := hrel
          have K3 := K2.comp k3
          by_cases hkj : k < j
          · have hkj' : (k : Int) < (j : Int) := by omega
            obtain ⟨bA, oA, rfl, hbA, hcA⟩ := HA.out.at_ (by omega)
            have c0 := (K3.cell (p := ⟨bA, oA + k, none⟩) hbA (by simp)).trans (hcA k hkj)
            rw [show ptsV x y k = ptv (x k) (y k) from rfl] at c0
            obtain ⟨gq, rfl, _, _, rq⟩ := (HQ.out.keep k3).row (by omega)
            obtain ⟨gs, rfl, _, _, rs⟩ := (HS.out.keep k3).row (by omega)
            have cq := rq.val hkj
            have cs := rs.val hkj
            have hw1 := wrongN_le (fun i => onB (x i) (y i)) (slS x y) q k
            have hz1 := order_zero (HX.out k hkj).1
            have hz2 := order_zero (HX.out k hkj).2
            have hstep := Lib.hid (show wrongN (fun i => onB (x i) (y i)) (slS x y) q (k + 1) = wrongN (fun i => onB (x i) (y i)) (slS x y) q k + if onB (x k) (y k) = true ∨ q k ≠ slS x y k then 1 else 0 from rfl)
            clear hcA rq rs
            unfold ptv at c0
            have hbb : onB (x k) (y k) = (decide (x k = 0) && decide (y k = 0)) := rfl
            rw [hbb] at hstep
            clear hbb
            generalize decide (x k = 0) = bx at *
            generalize decide (y k = 0) = by_ at *
            generalize fx (2 * x k) = X at *
            generalize fx (2 * y k) = Y at *
            generalize q k = qk at *
            generalize slS x y k = sk at *
            generalize hM : wrongN (fun i => onB (x i) (y i)) (slS x y) q k = M at *
            have hMs : M ≤ 1023 := by omega
            clear hw1 hM
            cases bx with
            | true =>
              cases by_ with
              | true =>
                have HS := Lib.hid (show wrongN (fun i => onB (x i) (y i)) (slS x y) q (k + 1) = M + 1 by rw [hstep.out]; simp)
                clear hstep cq cs
                go_wp2_with fail
                go_quiet (fail)
                go_wp2_with fail
                exact ⟨⟨k + 1, by omega, by rw [HS.out]; go_num, by go_num, k3.drewN _⟩, by simp [intOf]; omega⟩
              | false =>
                by_cases hq : qk = sk
                · have HS := Lib.hid (show wrongN (fun i => onB (x i) (y i)) (slS x y) q (k + 1) = M by rw [hstep.out]; simp [hq])
                  have e1 : (((qk : Nat) : Int) != ((sk : Nat) : Int)) = false := by simp [hq]
                  rw [hq] at cq e1
                  clear hq hstep
                  go_wp2_with fail
                  go_quiet (fail)
                  go_wp2_with fail
                  exact ⟨⟨k + 1, by omega, by rw [HS.out], by go_num, k3.drewN _⟩, by simp [intOf]; omega⟩
                · have HS := Lib.hid (show wrongN (fun i => onB (x i) (y i)) (slS x y) q (k + 1) = M + 1 by rw [hstep.out]; simp [hq])
                  have e1 : (((qk : Nat) : Int) != ((sk : Nat) : Int)) = true := by simp; omega
                  have e2 : ¬ ((qk : Nat) : Int) = ((sk : Nat) : Int) := by omega
                  clear hq hstep
                  go_wp2_with fail
                  go_quiet (fail)
                  go_wp2_with fail
                  exact ⟨⟨k + 1, by omega, by rw [HS.out]; go_num, by go_num, k3.drewN _⟩, by simp [intOf]; omega⟩
            | false =>
              by_cases hq : qk = sk
              · have HS := Lib.hid (show wrongN (fun i => onB (x i) (y i)) (slS x y) q (k + 1) = M by rw [hstep.out]; simp [hq])
                have e1 : (((qk : Nat) : Int) != ((sk : Nat) : Int)) = false := by simp [hq]
                rw [hq] at cq e1
                clear hq hstep
                go_wp2_with fail
                go_quiet (fail)
                go_wp2_with fail
                exact ⟨⟨k + 1, by omega, by rw [HS.out], by go_num, k3.drewN _⟩, by simp [intOf]; omega⟩
              · have HS := Lib.hid (show wrongN (fun i => onB (x i) (y i)) (slS x y) q (k + 1) = M + 1 by rw [hstep.out]; simp [hq])
                have e1 : (((qk : Nat) : Int) != ((sk : Nat) : Int)) = true := by simp; omega
                have e2 : ¬ ((qk : Nat) : Int) = ((sk : Nat) : Int) := by omega
                clear hq hstep
                go_wp2_with fail
                go_quiet (fail)
                go_wp2_with fail
                exact ⟨⟨k + 1, by omega, by rw [HS.out]; go_num, by go_num, k3.drewN _⟩, by simp [intOf]; omega⟩
          · obtain rfl : k = j := by omega
            have hkj' : ¬ (k : Int) < (k : Int) := by omega
            have hle : (decide (((wrongN (fun i => onB (x i) (y i)) (slS x y) q k : Nat) : Int) ≤ 8)) = decide (wrongN (fun i => onB (x i) (y i)) (slS x y) q k ≤ 8) := decide_eq_decide.2 (by omega)
            have OQ := Lib.hid ((HQ.out.keep k3).more (show w.heap.size ≤ _ from Nat.le_trans HZ.out HZ2.out))
            have HR := Lib.hid (show MendR wr w.heap.size x y k _ from .inl ⟨q, d, a', c', HN.out, rfl, OQ.out⟩)
            rw [← hle] at HR
            clear hle
            generalize wrongN (fun i => onB (x i) (y i)) (slS x y) q k = M at *
            go_wp2_with fail
            go_ret3
            exact ⟨HR.out, kw.comp K3⟩
      · go_wp2_with fail
        go_ret3
        exact ⟨.inr ⟨hno, rfl⟩, kw.comp K2⟩
end Go.Proofs.YtdlmjjlejkkniaaGreat

namespace Go.Proofs.YtdlmjjlejkkniaaGreat
open Go.RowKit

/-- The cells of rows: how many are wrong, whether it can be read. -/
def rowG (f : Nat → Nat) (b : Nat → Bool) : Nat → Value := fun j => if j % 2 = 0 then .int .i64 (f (j / 2) : Nat) else .bool (b (j / 2))
theorem rowG_next {f : Nat → Nat} {b : Nat → Bool} (n v : Nat) (u : Bool) :
    vList (rowG (fun i => if i = n then v else f i) (fun i => if i = n then u else b i)) ((n + 1) * 2) = vList (rowG f b) (n * 2) ++ [.int .i64 (v : Nat), .bool u] := List.ext_getElem? fun i => by
  have hl := vList_len (rowG f b) (n * 2)
  rw [vList_get]
  by_cases h1 : i < n * 2
  · rw [List.getElem?_append_left (by omega), vList_get, if_pos h1, if_pos (by omega)]
    unfold rowG
    dsimp only
    rw [if_neg (show ¬ i / 2 = n by omega), if_neg (show ¬ i / 2 = n by omega)]
  · rw [List.getElem?_append_right (by omega), hl]
    by_cases h2 : i = n * 2
    · subst h2
      rw [if_pos (by omega), Nat.sub_self]
      unfold rowG
      dsimp only
      rw [if_pos (show n * 2 % 2 = 0 by omega), if_pos (show n * 2 / 2 = n by omega)]
      rfl
    · by_cases h3 : i = n * 2 + 1
      · subst h3
        rw [if_pos (by omega), show n * 2 + 1 - n * 2 = 1 by omega]
        unfold rowG
        dsimp only
        rw [if_neg (show ¬ (n * 2 + 1) % 2 = 0 by omega), if_pos (show (n * 2 + 1) / 2 = n by omega)]
        rfl
      · rw [if_neg (by omega), List.getElem?_eq_none]
        simp
        omega
/-- What is said of a codeword. -/
def RowIs (x y : Nat → Int) (n v : Nat) (b : Bool) : Prop :=
  (∃ q d, Near (slS x y) n q d ∧ b = decide (wrongN (fun i => onB (x i) (y i)) (slS x y) q n ≤ 8) ∧ v = if b then wrongN (fun i => onB (x i) (y i)) (slS x y) q n else 0) ∨
  ((∀ q d, ¬ Near (slS x y) n q d) ∧ b = false ∧ v = 0)
end Go.Proofs.YtdlmjjlejkkniaaGreat

namespace Go.Proofs.YtdlmjjlejkkniaaGreat
open Go.RowKit

theorem MendR.form {w' : World} {N : Nat} {x y : Nat → Int} {n : Nat} {e : Ending} (h : MendR w' N x y n e) :
    ∃ aq nq cq v b, e = .returned (.tuple #[.slice aq nq cq, .int .i64 (v : Nat), .bool b]) ∧ RowIs x y n (if b then v else 0) b := by
  rcases h with ⟨q, d, a', c', hN, rfl, _⟩ | ⟨hno, rfl⟩
  · exact ⟨a', n, c', _, _, rfl, .inl ⟨q, d, hN, rfl, rfl⟩⟩
  · exact ⟨none, 0, 0, 0, false, rfl, .inr ⟨hno, rfl, rfl⟩⟩
end Go.Proofs.YtdlmjjlejkkniaaGreat

namespace Go.Proofs.YtdlmjjlejkkniaaGreat
open Go.RowKit

section
variable {P : Program} (w : World)
theorem max2_fl {a b : Int} (ha : Sm a) (hb : Sm b) : (Builtin.max2 (.float .f64 (fx a)) (.float .f64 (fx b))).run P w = .ok (.float .f64 (fx (max a b))) w := by
  have ho : FloatKind.f64.format.order (fx a) (fx b) = some (compare a b) := fx_order ha hb
  unfold Builtin.max2
  simp only [ho]
  rcases Int.lt_trichotomy a b with h | h | h
  · rw [Int.compare_eq_lt.2 h, show max a b = b by omega]
    rfl
  · subst h
    rw [Int.compare_eq_eq.2 rfl, show max a a = a by omega]
    simp
  · rw [Int.compare_eq_gt.2 h, show max a b = a by omega]
    rfl
theorem run_max_fl3 (ts : Array TypeId) (t : TypeId) {a b c : Int} (ha : Sm a) (hb : Sm b) (hc : Sm c) (hab : Sm (max a b)) :
    (Builtin.max_ ts t #[.float .f64 (fx a), .float .f64 (fx b), .float .f64 (fx c)]).run P w = .ok (.float .f64 (fx (max (max a b) c))) w := by
  simp [Builtin.max_, max2_fl w ha hb, max2_fl w hab hc, Result.andThen]
end
theorem fx_neg_word {n : Int} (h : Sm n) (hn : n < 0) : fx n = 9223372036854775808 + fx (-n) ∧ fx (-n) < 9223372036854775808 := by
  have h0 : n.natAbs ≠ 0 := by omega
  have hL := h.log h0
  have e1 : (-n).natAbs = n.natAbs := Int.natAbs_neg n
  have w1 := nearest_word true h0 (by omega) (-4) (by omega) (by omega)
  have w2 := nearest_word false h0 (by omega) (-4) (by omega) (by omega)
  have hs := sig_lt (m := n.natAbs) (by omega)
  unfold fx
  rw [e1, decide_eq_true hn, decide_eq_false (show ¬ -n < 0 by omega), w1, w2]
  have hr : (-4 + (n.natAbs.log2 : Int) - 52 + 1074).toNat ≤ 2000 := by omega
  generalize (-4 + (n.natAbs.log2 : Int) - 52 + 1074).toNat = R at *
  generalize n.natAbs * 2 ^ (52 - n.natAbs.log2) = S at *
  clear w1 w2 hL h0 e1 h hn
  have ew : ∀ s r, Ieee.double.word s r = if s then 9223372036854775808 + r else r := fun _ _ => rfl
  rw [ew, ew, if_pos rfl, if_neg (by simp)]
  exact ⟨rfl, by omega⟩
theorem fx_pos_lt {n : Int} (h : Sm n) (hn : 0 ≤ n) : fx n < 9223372036854775808 := by
  by_cases h0 : n = 0
  · subst h0
    rw [fx_zero]
    omega
  · have := (fx_neg_word (n := -n) (by unfold Sm at *; omega) (by omega)).2
    rwa [Int.neg_neg] at this
/-- Without its sign. -/
theorem fx_abs {n : Int} (h : Sm n) : fx n % 9223372036854775808 = fx n.natAbs := by
  by_cases hn : n < 0
  · obtain ⟨h1, h2⟩ := fx_neg_word h hn
    rw [h1, Nat.add_mod_left, Nat.mod_eq_of_lt h2]
    congr 1
    omega
  · rw [Nat.mod_eq_of_lt (fx_pos_lt h (by omega))]
    congr 1
    omega
theorem fx_lt {n : Int} (h : Sm n) : fx n < 18446744073709551616 := by
  by_cases hn : n < 0
  · obtain ⟨h1, h2⟩ := fx_neg_word h hn
    omega
  · have := fx_pos_lt h (by omega)
    omega
set_option maxRecDepth 100000 in
theorem abs_any {n : Int} (h : Sm n) (w : World) :
    Calls Tryz.prog 137 #[.float .f64 (fx n)] w fun e w' => e = .returned (.float .f64 (fx n.natAbs)) ∧ w = w' := by
  have hb : bits .andNot .u64 ((fx n : Nat) : Int) 9223372036854775808 = ((fx n.natAbs : Nat) : Int) := by
    have h1 := u64_andNot_nat (fx n) 9223372036854775808 (fx_lt h) (by omega)
    rw [show 18446744073709551615 - 9223372036854775808 = 2 ^ 63 - 1 by decide, Nat.and_two_pow_sub_one_eq_mod, show (2 : Nat) ^ 63 = 9223372036854775808 by decide, fx_abs h] at h1
    exact h1
  generalize fx n = X at *
  generalize fx n.natAbs = Y at *
  have r1 : ∀ w, (Extern.MathFloatBits.float64bits #[.float .f64 X]).run Tryz.prog w = .ok (.int .u64 (X : Nat)) w := fun _ => rfl
  have r2 : ∀ w, (Extern.MathFloatBits.float64frombits #[.int .u64 (Y : Nat)]).run Tryz.prog w = .ok (.float .f64 Y) w := fun _ => rfl
  go_enter Tryz.func137, Tryz.ntmps137
  go_wp2
  rw [run_callFunc_extern Tryz.func141 (by kernel_rfl) (by kernel_rfl) (by kernel_rfl) (e := Extern.MathFloatBits.float64bits) (by kernel_rfl), r1]
  simp only [Result.andThen]
  rw [Oper.upon_value]
  go_wp2_with fail
  rw [run_callFunc_extern Tryz.func140 (by kernel_rfl) (by kernel_rfl) (by kernel_rfl) (e := Extern.MathFloatBits.float64frombits) (by kernel_rfl), r2]
  simp only [Result.andThen]
  rw [Oper.upon_value]
  go_wp2
  go_ret
  exact ⟨rfl, rfl⟩
/-- max of three floats. -/
theorem wpList_max3 {w : World} {ops : Array Oper} {rest : List Oper} {o : Oper} {a : Act} {Q : Exit → Act → World → Prop} (hgd : o.guard = none) (s x y : Operand)
    (ho : o.op = .call { callee := .builtin .max, args := #[s, x, y], argTypes := #[144, 144, 144] })
    {i j k : Int} (hi : Sm i) (hj : Sm j) (hk : Sm k) (hs : a.eval s = .float .f64 (fx i)) (hx : a.eval x = .float .f64 (fx j)) (hy : a.eval y = .float .f64 (fx k))
    (h : wpList Tryz.prog ops Q rest (a.put o.dst (.float .f64 (fx (max i (max j k))))) w) : wpList Tryz.prog ops Q (o :: rest) a w :=
  wpList_plain hgd fun K hK => by
    have hij : Sm (max i j) := by unfold Sm at *; omega
    have hrun := run_max_fl3 (P := Tryz.prog) w #[144, 144, 144] o.type hi hj hk hij
    rw [Int.max_assoc] at hrun
    unfold Oper.wp
    simp [execOp, ho, resolve, invoke, builtin, hs, hx, hy, hrun, Result.andThen]
    exact hK _ _ h
/-- How far the worst of the first n points is from its symbol's. -/
def farE (x y : Nat → Int) : Nat → Nat
  | 0 => 0
  | n + 1 => max (max (farE x y n) (x n - reS (slS x y n)).natAbs) (y n - imS (slS x y n)).natAbs
theorem off_small {a : Int} {s : Nat} (h : Pm a) : (a - reS s).natAbs < 1099511628776 ∧ (a - imS s).natAbs < 1099511628776 := by
  have h1 := Pm_re s
  unfold Pm reS imS co at *
  omega
theorem farE_lt {x y : Nat → Int} {n : Nat} (h : ∀ i, i < n → Pm (x i) ∧ Pm (y i)) : farE x y n < 1099511628776 := by
  induction n with
  | zero => show 0 < 1099511628776; omega
  | succ n ih =>
    have h1 := ih (fun i hi => h i (by omega))
    have h2 := (off_small (s := slS x y n) (h n (by omega)).1).1
    have h3 := (off_small (s := slS x y n) (h n (by omega)).2).2
    unfold farE
    omega
end Go.Proofs.YtdlmjjlejkkniaaGreat
