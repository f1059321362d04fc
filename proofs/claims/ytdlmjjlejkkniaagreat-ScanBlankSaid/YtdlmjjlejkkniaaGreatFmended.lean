/- frame.Mended: a codeword of a page. -/
import Derived.Test.YtdlmjjlejkkniaaGreatBlank
import Derived.Test.YtdlmjjlejkkniaaGreatCodeAll
namespace Go.Proofs.YtdlmjjlejkkniaaGreat
open Go.RowKit

/-- How many of the first n are nought or other than meant. -/
def wrongN (z : Nat → Bool) (s q : Nat → Nat) : Nat → Nat
  | 0 => 0
  | n + 1 => wrongN z s q n + if z n = true ∨ q n ≠ s n then 1 else 0
theorem wrongN_le (z : Nat → Bool) (s q : Nat → Nat) : ∀ n, wrongN z s q n ≤ n
  | 0 => Nat.le_refl _
  | n + 1 => by
    have := wrongN_le z s q n
    unfold wrongN
    split <;> omega
/-- Is a point nought? -/
def onB (a b : Int) : Bool := decide (a = 0) && decide (b = 0)
/-- The symbols that points are nearest. -/
def slS (x y : Nat → Int) : Nat → Nat := fun i => sl (x i) (y i)
/-- What Mended answers. -/
def MendR (w' : World) (N : Nat) (x y : Nat → Int) (n : Nat) (e : Ending) : Prop :=
  (∃ (q : Nat → Nat) (d : Nat) (a' : Option Addr) (c' : Nat), Near (slS x y) n q d ∧ e = .returned (.tuple #[.slice a' n c', .int .i64 (wrongN (fun i => onB (x i) (y i)) (slS x y) q n : Nat), .bool (decide (wrongN (fun i => onB (x i) (y i)) (slS x y) q n ≤ 8))]) ∧ OwnU w' N a' n c' q) ∨
  ((∀ q d, ¬ Near (slS x y) n q d) ∧ e = .returned (.tuple #[.slice none 0 0, .int .i64 0, .bool false]))

set_option maxRecDepth 100000 in
set_option maxHeartbeats 4000000 in
theorem fmended_any (V : Value) (a : Option Addr) (n c : Nat) (x y : Nat → Int) (w : World) (hT : HasT w V) (ha : ArgV w a n (ptsV x y)) (hx : ∀ i, i < n → Pm (x i) ∧ Pm (y i)) (hn : 16 < n) (hn2 : n ≤ 1023) :
    Calls Tryz.prog 71 #[V, .slice a n c] w fun e w' => MendR w' w.heap.size x y n e ∧ Keep (fun _ => False) w w' := by
  obtain ⟨a1, n1, c1, a2, n2, c2, rfl⟩ := hT.form
  obtain ⟨W, hW⟩ : ∃ W, W = w.alloc (.cells #[.slice a1 n1 c1, .slice a2 n2 c2] 49) := ⟨_, rfl⟩
  have kw : Keep (fun _ => False) w W := by rw [hW]; exact (Keep.refl _ w).alloc _
  have b0 : Blk W w.heap.size 49 #[.slice a1 n1 c1, .slice a2 n2 c2] := by rw [hW]; exact Blk.new w _ _
  have HT := Lib.hid (hT.keep kw)
  have HA := Lib.hid (ha.keep kw)
  have HX := Lib.hid hx
  have HZ := Lib.hid kw.size
  clear hT ha hx
  go_enter Tryz.func71, Tryz.ntmps71
  go_wp2_with fail
  rw [← hW]
  clear hW
  go_loopw [7, 18] (fun v3 v4 wr => ∃ (j : Nat) (ao : Option Addr) (co : Nat), j ≤ n ∧ v3 = .slice ao j co ∧ v4 = .int .i64 j ∧ Hid (OwnU wr W.heap.size ao j co (slS x y)) ∧ Keep (fun _ => False) W wr) (fun _ v _ => n - (intOf v).toNat)
  case atStart => exact ⟨0, none, 0, by omega, rfl, rfl, Lib.hid (OwnV.nil _ _ _ _), Keep.refl _ _⟩
  case round =>
    obtain ⟨j, ao, co, hj, rfl, rfl, HO, kk⟩ := hrel
    by_cases hjn : j < n
    · have hjn' : (j : Int) < (n : Int) := by omega
      obtain ⟨bA, oA, rfl, hbA, hcA⟩ := HA.out.at_ (by omega)
      have c0 := (kk.cell (p := ⟨bA, oA + j, none⟩) hbA (by simp)).trans (hcA j hjn)
      rw [show ptsV x y j = ptv (x j) (y j) from rfl] at c0
      have h1 := Lib.hid (fun w => slice_any (x j) (y j) (HX.out j hjn).1 (HX.out j hjn).2 w)
      rw [show sl (x j) (y j) = slS x y j from rfl] at h1
      have kL := kk.alloc (.cells #[.int .u16 (slS x y j : Nat)] 25)
      have OL := Lib.hid (HO.out.ownV.keep ((Keep.refl _ wr).alloc (.cells #[.int .u16 (slS x y j : Nat)] 25)))
      have BL := Lib.hid (Blk.new wr 25 #[.int .u16 (slS x y j : Nat)])
      have hsL := kL.size
      clear hcA HO kk b0
      unfold ptv at c0 h1
      go_wp2_with fail
      refine (h1.out _).mono ?_
      rintro e w1 ⟨rfl, rfl⟩
      clear c0
      go_wp2_with (refine wpList_append_1 ty_u rfl (.tmp 22) (.tmp 25) rfl W.heap.size ao j co (fun i => .int .u16 (slS x y i : Nat)) rfl OL.out wr.heap.size _ rfl BL.out rfl (by omega) hsL ?_)
      intro a3 c3 w6 o6 g6
      have O6 := Lib.hid (OwnV.ownU (o6.congr (f' := fun i => .int .u16 (slS x y i : Nat)) (fun i hi => by
        by_cases h : i < j
        · rw [if_pos h]
        · rw [if_neg h, show i = j by omega])))
      have K6 := kL.grown g6 (fun t ht => .inr (OL.out.lt t ht).1)
      clear o6 g6 kL OL BL hsL
      go_wp2_with fail
      exact ⟨⟨j + 1, a3, c3, by omega, rfl, by go_num, O6, K6⟩, by simp [intOf]; omega⟩
    · obtain rfl : j = n := by omega
      have hjn' : ¬ (j : Int) < (j : Int) := by omega
      have br := b0.keep kk (by simp)
      have d0 : wr.cell? ⟨w.heap.size, 0, none⟩ = some (.slice a1 n1 c1) := by rw [br.cell]; rfl
      have d1 : wr.cell? ⟨w.heap.size, 1, none⟩ = some (.slice a2 n2 c2) := by rw [br.cell]; rfl
      have HD := Lib.hid (dec_any _ _ j co _ wr (HT.out.keep kk) (HO.out.arg (by omega) (fun i _ => by have := sl_lt (x i) (y i); unfold slS; omega)) hn hn2 (fun i _ => sl_lt (x i) (y i)))
      clear br b0
      go_wp2_with fail
      refine HD.out.mono ?_
      rintro e w2 ⟨hdec, k2⟩
      have K2 := kk.comp k2
      clear d0 d1 HD
      rcases hdec with ⟨q, d, a', c', hN, rfl, oq⟩ | ⟨hno, rfl⟩
      · have HN := Lib.hid hN
        have HQ := Lib.hid oq
        have HS := Lib.hid (HO.out.keep k2)
        have HZ2 := Lib.hid kk.size
        clear hN oq HO k2
        go_wp2_with fail
        go_loopw [13, 39] (fun v3 v4 wt => ∃ k : Nat, k ≤ j ∧ v3 = .int .i64 (wrongN (fun i => onB (x i) (y i)) (slS x y) q k : Nat) ∧ v4 = .int .i64 k ∧ Keep (fun _ => False) w2 wt) (fun _ v _ => j - (intOf v).toNat)
        case atStart => exact ⟨0, by omega, rfl, rfl, Keep.refl _ _⟩
        case round =>
          obtain ⟨k, hk, rfl, rfl, k3⟩ := hrel
          have K3 := K2.comp k3
          by_cases hkj : k < j
          · have hkj' : (k : Int) < (j : Int) := by omega
            obtain ⟨bA, oA, rfl, hbA, hcA⟩ := HA.out.at_ (by omega)
            have c0 := (K3.cell (p := ⟨bA, oA + k, none⟩) hbA (by simp)).trans (hcA k hkj)
            rw [show ptsV x y k = ptv (x k) (y k) from rfl] at c0
            obtain ⟨gq, rfl, _, _, rq⟩ := (HQ.out.keep k3).row (by omega)
            obtain ⟨gs, rfl, _, _, rs⟩ := (HS.out.keep k3).row (by omega)
            have cq := rq.val hkj
            have cs := rs.val hkj
            have hw1 := wrongN_le (fun i => onB (x i) (y i)) (slS x y) q k
            have hz1 := order_zero (HX.out k hkj).1
            have hz2 := order_zero (HX.out k hkj).2
            have hstep := Lib.hid (show wrongN (fun i => onB (x i) (y i)) (slS x y) q (k + 1) = wrongN (fun i => onB (x i) (y i)) (slS x y) q k + if onB (x k) (y k) = true ∨ q k ≠ slS x y k then 1 else 0 from rfl)
            clear hcA rq rs
            unfold ptv at c0
            have hbb : onB (x k) (y k) = (decide (x k = 0) && decide (y k = 0)) := rfl
            rw [hbb] at hstep
            clear hbb
            generalize decide (x k = 0) = bx at *
            generalize decide (y k = 0) = by_ at *
            generalize fx (2 * x k) = X at *
            generalize fx (2 * y k) = Y at *
            generalize q k = qk at *
            generalize slS x y k = sk at *
            generalize hM : wrongN (fun i => onB (x i) (y i)) (slS x y) q k = M at *
            have hMs : M ≤ 1023 := by omega
            clear hw1 hM
            cases bx with
            | true =>
              cases by_ with
              | true =>
                have HS := Lib.hid (show wrongN (fun i => onB (x i) (y i)) (slS x y) q (k + 1) = M + 1 by rw [hstep.out]; simp)
                clear hstep cq cs
                go_wp2_with fail
                go_quiet (fail)
                go_wp2_with fail
                exact ⟨⟨k + 1, by omega, by rw [HS.out]; go_num, by go_num, k3.drewN _⟩, by simp [intOf]; omega⟩
              | false =>
                by_cases hq : qk = sk
                · have HS := Lib.hid (show wrongN (fun i => onB (x i) (y i)) (slS x y) q (k + 1) = M by rw [hstep.out]; simp [hq])
                  have e1 : (((qk : Nat) : Int) != ((sk : Nat) : Int)) = false := by simp [hq]
                  rw [hq] at cq e1
                  clear hq hstep
                  go_wp2_with fail
                  go_quiet (fail)
                  go_wp2_with fail
                  exact ⟨⟨k + 1, by omega, by rw [HS.out], by go_num, k3.drewN _⟩, by simp [intOf]; omega⟩
                · have HS := Lib.hid (show wrongN (fun i => onB (x i) (y i)) (slS x y) q (k + 1) = M + 1 by rw [hstep.out]; simp [hq])
                  have e1 : (((qk : Nat) : Int) != ((sk : Nat) : Int)) = true := by simp; omega
                  have e2 : ¬ ((qk : Nat) : Int) = ((sk : Nat) : Int) := by omega
                  clear hq hstep
                  go_wp2_with fail
                  go_quiet (fail)
                  go_wp2_with fail
                  exact ⟨⟨k + 1, by omega, by rw [HS.out]; go_num, by go_num, k3.drewN _⟩, by simp [intOf]; omega⟩
            | false =>
              by_cases hq : qk = sk
              · have HS := Lib.hid (show wrongN (fun i => onB (x i) (y i)) (slS x y) q (k + 1) = M by rw [hstep.out]; simp [hq])
                have e1 : (((qk : Nat) : Int) != ((sk : Nat) : Int)) = false := by simp [hq]
                rw [hq] at cq e1
                clear hq hstep
                go_wp2_with fail
                go_quiet (fail)
                go_wp2_with fail
                exact ⟨⟨k + 1, by omega, by rw [HS.out], by go_num, k3.drewN _⟩, by simp [intOf]; omega⟩
              · have HS := Lib.hid (show wrongN (fun i => onB (x i) (y i)) (slS x y) q (k + 1) = M + 1 by rw [hstep.out]; simp [hq])
                have e1 : (((qk : Nat) : Int) != ((sk : Nat) : Int)) = true := by simp; omega
                have e2 : ¬ ((qk : Nat) : Int) = ((sk : Nat) : Int) := by omega
                clear hq hstep
                go_wp2_with fail
                go_quiet (fail)
                go_wp2_with fail
                exact ⟨⟨k + 1, by omega, by rw [HS.out]; go_num, by go_num, k3.drewN _⟩, by simp [intOf]; omega⟩
          · obtain rfl : k = j := by omega
            have hkj' : ¬ (k : Int) < (k : Int) := by omega
            have hle : (decide (((wrongN (fun i => onB (x i) (y i)) (slS x y) q k : Nat) : Int) ≤ 8)) = decide (wrongN (fun i => onB (x i) (y i)) (slS x y) q k ≤ 8) := decide_eq_decide.2 (by omega)
            have OQ := Lib.hid ((HQ.out.keep k3).more (show w.heap.size ≤ _ from Nat.le_trans HZ.out HZ2.out))
            have HR := Lib.hid (show MendR wr w.heap.size x y k _ from .inl ⟨q, d, a', c', HN.out, rfl, OQ.out⟩)
            rw [← hle] at HR
            clear hle
            generalize wrongN (fun i => onB (x i) (y i)) (slS x y) q k = M at *
            go_wp2_with fail
            go_ret3
            exact ⟨HR.out, kw.comp K3⟩
      · go_wp2_with fail
        go_ret3
        exact ⟨.inr ⟨hno, rfl⟩, kw.comp K2⟩
end Go.Proofs.YtdlmjjlejkkniaaGreat
