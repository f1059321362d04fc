/- blackboardlaw3.PolyKnown. -/
import Derived.Test.YtnpfncdfndabhaaLawReckons
import Derived.Test.YtnpfncdfndabhaaPoly
namespace Go.Proofs.Ytnpfncdfndabhaa
open Go.RowKit
attribute [local go_sem ↓] Go.wp_at_zero Go.wp_at_succ

theorem cut_pol {l : List Nat} {n : Nat} (h : IsPol (lst l) n) (m : Nat) (hm : n ≤ m) : cut (lst l) m = lst l := cut_of_lt h.lt (fun i hi => h.zero i (by omega))
theorem p12 : IsPol (lst [1, 2]) 2 := pol_list [1, 2] 2 (by decide) rfl (by decide)
theorem p5 : IsPol (lst [5]) 1 := pol_list [5] 1 (by decide) rfl (by decide)
theorem p806 : IsPol (lst [8, 0, 6]) 3 := pol_list [8, 0, 6] 3 (by decide) rfl (by decide)
theorem p73 : IsPol (lst [7, 3]) 2 := pol_list [7, 3] 2 (by decide) rfl (by decide)
theorem lst_small (l : List Nat) (h : ∀ x ∈ l, x < 65536) (i : Nat) : lst l i < 65536 := by
  show l.getD i 0 < 65536
  rw [List.getD_eq_getElem?_getD]
  cases e : l[i]? with
  | none => show 0 < 65536; omega
  | some x => exact h x (List.mem_of_getElem? e)
theorem cut_none : cut (lst [0, 1024]) 2 = fun _ => 0 := by
  funext i
  rcases i with _ | _ | i
  · rfl
  · rfl
  · exact cut_zero _ (by omega)
theorem cut_730 : cut (lst [7, 3, 0]) 3 = lst [7, 3] := by
  funext i
  rcases i with _ | _ | _ | i
  · rfl
  · rfl
  · rfl
  · exact cut_zero _ (by omega)
theorem slope_9876 : pslope (cut (lst [9, 8, 7, 6]) 4) = lst [8, 0, 6] := by
  funext i
  rcases i with _ | _ | _ | i
  · rfl
  · rfl
  · rfl
  · unfold pslope
    split
    · exact cut_zero _ (by omega)
    · rfl
theorem at_49 : hor (cut (lst [4, 9]) 2) (0 % 1024) 0 2 = 4 := by decide
theorem laid (w : World) (l : List Nat) (cs : Array Value) (n : Nat) (e : uArr (lst l) n = cs) (hn : n ≤ 1000) (h : ∀ x ∈ l, x < 65536) : Laid w cs (lst l) n :=
  Laid.new w cs _ n e (by omega) (fun i _ => lst_small l h i)

/-- A row whose last element is 1. -/
def tip (n : Nat) : Nat → Nat := fun i => if i = n then 1 else 0
theorem tip_pol (n : Nat) : IsPol (tip n) (n + 1) :=
  ⟨fun i => by unfold tip; split <;> omega, fun i hi => if_neg (by omega), fun _ => by rw [show n + 1 - 1 = n by omega, show tip n n = 1 from if_pos rfl]; omega⟩

set_option maxHeartbeats 4000000 in
set_option maxRecDepth 100000 in
theorem pknown_true (w : World) :
    Calls Try.prog 8 #[] w fun e w' => e = .returned (.bool true) ∧ Keep (fun _ => False) w w' := by
  go_enter Try.func8, Try.ntmps8
  go_wp2_with fail
  refine (awake_true _).mono ?_
  rintro e w1 ⟨rfl, k1⟩
  go_wp2_with fail
  refine (make_any _).mono ?_
  rintro e w2 ⟨g1, g2, rfl, T, _, _, k2⟩
  obtain ⟨TV, k3⟩ := TVar.new T
  have k := (k1.comp k2).comp k3
  clear k1 k2 k3 T
  unfold tabV
  go_upto_region 4 with (fail)
  generalize w2.alloc (.cells #[.slice (some ⟨g1, 0, none⟩) 1023 1023, .slice (some ⟨g2, 0, none⟩) 1024 1024] 27) = W at *
  generalize w2.heap.size = gt at *
  have A := laid W [1, 2] #[.int .u16 1, .int .u16 2] _ (uArr_two 1 2) (by omega) (by simp)
  have B := laid (W.alloc (.cells #[.int .u16 1, .int .u16 2] 23)) [0, 1024] #[.int .u16 0, .int .u16 1024] _ (uArr_two 0 1024) (by omega) (by simp)
  obtain ⟨d0, d1⟩ := tab_cells TV.b
  go_wp2_with fail
  clear d0 d1
  refine (div_any _ _ _ 2 2 2 2 _ _ 2 0 (by rw [cut_pol p12 2 (by omega)]; exact p12) (by rw [cut_none]; exact pol_none) _ ((TV.t.keep A.k).keep B.k).has ((A.a _ rfl).keep B.k) (B.a (W.heap.size + 1) (by simp)) (by omega) (by omega) (by omega) (by omega)).mono ?_
  rintro e w3 ⟨a1, n1, a2, n2, rfl, _, _, _, _, _, _, k3⟩
  have k4 := (A.k.comp B.k).comp k3
  have TV1 := TV.keep k4
  have K1 := k.comp k4
  have o1 : ((0 : Nat) != 0) = false := rfl
  clear A B k3 k4 TV k
  have A := laid w3 [5] #[.int .u16 5] _ (uArr_one 5) (by omega) (by simp)
  have B := laid (w3.alloc (.cells #[.int .u16 5] 23)) [1, 1] #[.int .u16 1, .int .u16 1] _ (uArr_two 1 1) (by omega) (by simp)
  obtain ⟨d0, d1⟩ := tab_cells TV1.b
  go_wp2_with fail
  clear d0 d1
  refine (div_any _ _ _ 1 2 1 2 _ _ 1 2 (by rw [cut_pol p5 1 (by omega)]; exact p5) pol11 _ ((TV1.t.keep A.k).keep B.k).has ((A.a _ rfl).keep B.k) (B.a (w3.heap.size + 1) (by simp)) (by omega) (by omega) (by omega) (by omega)).mono ?_
  rintro e w4 ⟨aq, nq, ar, nr, rfl, _, pq, rr, pr, lq, lr, k3⟩
  obtain rfl : nq = 0 := by unfold quoN at lq; omega
  have er : rst (cut (lst [5]) 1) 1 (cut (lst [1, 1]) 2) 2 = lst [5] := by
    unfold rst
    rw [if_neg (by omega), show quoN 1 2 = 0 from rfl, cut_pol p5 1 (by omega)]
    rfl
  rw [er] at pr rr
  obtain rfl : nr = 1 := pr.uniq p5
  have R := Lib.hid (rr.arg (by omega) pr.lt16)
  have k4 := (A.k.comp B.k).comp k3
  have TV2 := TV1.keep k4
  have K2 := K1.comp k4
  have o2 : ((2 : Nat) != 0) = true := rfl
  clear A B k3 k4 TV1 K1 lq lr pq pr rr er
  obtain ⟨m1, hm1⟩ : ∃ m : Nat, m = 3000 := ⟨_, rfl⟩
  have hmk1 := make_u 3000 m1 (by omega) (by omega)
  have j1 : (2999 : Int) < (m1 : Int) := by omega
  have HM1 := Lib.hid hm1
  clear hm1
  go_upto_region 7 with (fail)
  have kA := (Keep.refl (fun _ => False) w4).alloc (.cells (uArr (fun _ => 0) m1) 23)
  have b8 := Blk.new w4 23 (uArr (fun _ => 0) m1)
  have n8 : w4.heap.size ≤ w4.heap.size := Nat.le_refl _
  clear hmk1
  generalize w4.alloc (.cells (uArr (fun _ => 0) m1) 23) = W5 at *
  generalize hb8 : w4.heap.size = b at b8 ⊢
  rw [hb8] at n8
  have N8 : Hid (w4.heap.size ≤ b) := Lib.hid (by omega)
  clear hb8 n8
  have c8 := b8.val (show 2999 < m1 by have := HM1.out; omega)
  have z8 := b8.frozen 2999
  go_upto_region 8 with (fail)
  have f8 : Blk (W5.setCell ⟨b, 2999, none⟩ (.int .u16 1)) b 23 (uArr (tip 2999) m1) := b8.storeU 2999 1 (fun t _ => rfl)
  have kS := kA.setCell (p := ⟨b, 2999, none⟩) (.inr N8.out) (.int .u16 1)
  clear c8 z8 b8 kA N8
  generalize W5.setCell ⟨b, 2999, none⟩ (.int .u16 1) = W6 at *
  have TV3 := TV2.keep kS
  have R1 := Lib.hid (R.out.keep kS)
  have K3 := K2.comp kS
  have L8 := Lib.hid (f8.argU (by have := HM1.out; omega) (fun i _ => (tip_pol 2999).lt16 i))
  clear TV2 R K2 kS f8 j1
  obtain ⟨m2, hm2⟩ : ∃ m : Nat, m = 1097 := ⟨_, rfl⟩
  have hmk2 := make_u 1097 m2 (by omega) (by omega)
  have j2 : (1096 : Int) < (m2 : Int) := by omega
  have HM2 := Lib.hid hm2
  clear hm2
  go_upto_region 9 with (fail)
  have kA := (Keep.refl (fun _ => False) W6).alloc (.cells (uArr (fun _ => 0) m2) 23)
  have b8 := Blk.new W6 23 (uArr (fun _ => 0) m2)
  have n8 : W6.heap.size ≤ W6.heap.size := Nat.le_refl _
  clear hmk2
  generalize W6.alloc (.cells (uArr (fun _ => 0) m2) 23) = W7 at *
  generalize hb9 : W6.heap.size = b9 at b8 ⊢
  rw [hb9] at n8
  have N8 : Hid (W6.heap.size ≤ b9) := Lib.hid (by omega)
  clear hb9 n8
  have c8 := b8.val (show 1096 < m2 by have := HM2.out; omega)
  have z8 := b8.frozen 1096
  go_upto_region 10 with (fail)
  have f8 : Blk (W7.setCell ⟨b9, 1096, none⟩ (.int .u16 1)) b9 23 (uArr (tip 1096) m2) := b8.storeU 1096 1 (fun t _ => rfl)
  have kS := kA.setCell (p := ⟨b9, 1096, none⟩) (.inr N8.out) (.int .u16 1)
  clear c8 z8 b8 kA N8
  generalize W7.setCell ⟨b9, 1096, none⟩ (.int .u16 1) = W8 at *
  have TV2 := TV3.keep kS
  have R := Lib.hid (R1.out.keep kS)
  have K2 := K3.comp kS
  have L9 := Lib.hid (f8.argU (by have := HM2.out; omega) (fun i _ => (tip_pol 1096).lt16 i))
  have L8' := Lib.hid (L8.out.keep kS)
  clear TV3 R1 K3 kS f8 j2 L8
  have A := laid W8 [5] #[.int .u16 5] _ (uArr_one 5) (by omega) (by simp)
  go_wp2_with fail
  refine (same_yes _ _ 1 1 1 _ _ _ (R.out.keep A.k) (A.a _ rfl) (by omega) (fun _ _ => rfl)).mono ?_
  rintro e w5 ⟨rfl, k3⟩
  have k4 := A.k.comp k3
  have TV3 := TV2.keep k4
  have K3 := K2.comp k4
  have L8 := Lib.hid (L8'.out.keep k4)
  have L9' := Lib.hid (L9.out.keep k4)
  clear TV2 K2 L8' L9 A k3 k4 R
  have P8 : Hid (IsPol (cut (tip 2999) m1) 3000) := Lib.hid (by rw [HM1.out, (tip_pol 2999).cut (by omega)]; exact tip_pol 2999)
  have P9 : Hid (IsPol (cut (tip 1096) m2) 1097) := Lib.hid (by rw [HM2.out, (tip_pol 1096).cut (by omega)]; exact tip_pol 1096)
  obtain ⟨d0, d1⟩ := tab_cells TV3.b
  go_wp2_with fail
  clear d0 d1
  refine (mul_any _ _ _ _ _ _ _ _ _ _ _ P8.out P8.out _ TV3.t.has L8.out L8.out (by have := HM1.out; omega) (by have := HM1.out; omega) (Nat.le_refl _) (Nat.le_refl _)).mono ?_
  rintro e w6 ⟨a5, m5, rfl, _, p5', _, k3⟩
  obtain rfl : m5 = 0 := by
    rw [show pmulM (cut (tip 2999) m1) 3000 (cut (tip 2999) m1) 3000 = fun _ => 0 from if_pos (by omega)] at p5'
    exact p5'.uniq pol_none
  have TV2 := TV3.keep k3
  have K2 := K3.comp k3
  have L8' := Lib.hid (L8.out.keep k3)
  have L9 := Lib.hid (L9'.out.keep k3)
  clear TV3 K3 L8 L9' k3 p5'
  obtain ⟨d0, d1⟩ := tab_cells TV2.b
  go_wp2_with fail
  clear d0 d1
  refine (mul_any _ _ _ _ _ _ _ _ _ _ _ P8.out P9.out _ TV2.t.has L8'.out L9.out (by have := HM1.out; omega) (by have := HM2.out; omega) (Nat.le_refl _) (Nat.le_refl _)).mono ?_
  rintro e w7 ⟨a6, m6, rfl, _, p6', _, k3⟩
  obtain rfl : m6 = 4096 := by
    have := pmulM_len P8.out P9.out (by omega) p6'
    simpa using this
  have TV3 := TV2.keep k3
  have K3 := K2.comp k3
  clear TV2 K2 L8' L9 k3 p6' P8 P9
  have A := laid w7 [7, 3] #[.int .u16 7, .int .u16 3] _ (uArr_two 7 3) (by omega) (by simp)
  have B := laid (w7.alloc (.cells #[.int .u16 7, .int .u16 3] 23)) [7, 3, 0] #[.int .u16 7, .int .u16 3, .int .u16 0] _ (uArr_three 7 3 0) (by omega) (by simp)
  go_wp2_with fail
  refine (add_any _ _ 2 3 2 3 _ _ _ ((A.a _ rfl).keep B.k) (B.a (w7.heap.size + 1) (by simp)) (by omega) (by omega)).mono ?_
  rintro e w8 ⟨a7, m7, rfl, _, p7, _, k3⟩
  obtain rfl : m7 = 0 := by
    rw [cut_pol p73 2 (by omega), cut_730, show padd (lst [7, 3]) (lst [7, 3]) = fun _ => 0 from funext fun i => Nat.xor_self _] at p7
    exact p7.uniq pol_none
  have k4 := (A.k.comp B.k).comp k3
  have TV2 := TV3.keep k4
  have K2 := K3.comp k4
  clear TV3 K3 k4 k3 A B p7
  have A := laid w8 [9, 8, 7, 6] #[.int .u16 9, .int .u16 8, .int .u16 7, .int .u16 6] _ (uArr_four 9 8 7 6) (by omega) (by simp)
  go_wp2_with fail
  refine (slope_any _ 4 4 _ _ (A.a _ rfl) (by omega)).mono ?_
  rintro e w9 ⟨a8, m8, rfl, r8, p8, _, k3⟩
  rw [slope_9876] at r8 p8
  obtain rfl : m8 = 3 := p8.uniq p806
  have R := Lib.hid (r8.arg (by omega) p8.lt16)
  have k4 := A.k.comp k3
  have TV3 := TV2.keep k4
  have K3 := K2.comp k4
  clear TV2 K2 k4 k3 A p8 r8
  have A := laid w9 [8, 0, 6] #[.int .u16 8, .int .u16 0, .int .u16 6] _ (uArr_three 8 0 6) (by omega) (by simp)
  go_wp2_with fail
  refine (same_yes _ _ 3 3 3 _ _ _ (R.out.keep A.k) (A.a _ rfl) (by omega) (fun _ _ => rfl)).mono ?_
  rintro e w10 ⟨rfl, k3⟩
  have k4 := A.k.comp k3
  have TV2 := TV3.keep k4
  have K2 := K3.comp k4
  clear TV3 K3 k4 k3 A R
  obtain ⟨d0, d1⟩ := tab_cells TV2.b
  go_wp2_with fail
  clear d0 d1
  refine (at_any _ none 0 0 5 (fun _ => 0) _ TV2.t.has (ArgU.nil _ _)).mono ?_
  rintro e w11 ⟨rfl, k3⟩
  have TV3 := TV2.keep k3
  have K3 := K2.comp k3
  have e0 : hor (cut (fun _ => 0) 0) (5 % 1024) 0 0 = 0 := rfl
  clear TV2 K2 k3
  rw [e0]
  have A := laid w11 [4, 9] #[.int .u16 4, .int .u16 9] _ (uArr_two 4 9) (by omega) (by simp)
  obtain ⟨d0, d1⟩ := tab_cells TV3.b
  go_wp2_with fail
  clear d0 d1
  refine (at_any _ _ 2 2 0 _ _ (TV3.t.keep A.k).has (A.a _ rfl)).mono ?_
  rintro e w12 ⟨rfl, k3⟩
  rw [at_49]
  have K2 := K3.comp (A.k.comp k3)
  clear A k3 TV3 K3
  have A := laid w12 [0, 1024] #[.int .u16 0, .int .u16 1024] _ (uArr_two 0 1024) (by omega) (by simp)
  go_wp2_with fail
  refine (trim_any _ 2 2 _ _ (A.a _ rfl) (by omega) (by omega)).mono ?_
  rintro e w13 ⟨a9, m9, rfl, _, p9, _, k3⟩
  rw [cut_none] at p9
  obtain rfl : m9 = 0 := p9.uniq pol_none
  go_wp2_with fail
  go_ret
  exact ⟨rfl, K2.comp (A.k.comp k3)⟩
end Go.Proofs.Ytnpfncdfndabhaa
