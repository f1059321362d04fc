/- code.gap, code.shifted. -/
import Derived.Test.YtnejnoiogojplaaSyn
namespace Go.Proofs.Ytnejnoiogojplaa
open Go.RowKit

theorem pacc_next (f S : Nat → Nat) (i k : Nat) : pacc f S (i + 1) k = pacc f S i k ^^^ (if i ≤ k then gm (f i) (S (k - i)) else 0) := rfl
set_option maxHeartbeats 4000000 in
set_option maxRecDepth 100000 in
theorem gap_any (V : Value) (a s : Option Addr) (m c cs n : Nat) (f S : Nat → Nat) (w : World) (hT : HasT w V) (ha : ArgU w a m f) (hs : ArgU w s 16 S) (hm : m ≤ 1000000) (hn : n < 16) (hf : ∀ i, f i < 1024) (hS : ∀ i, S i < 1024) :
    Calls Try.prog 55 #[V, .slice a m c, .slice s 16 cs, .int .i64 n] w fun e w' => e = .returned (.int .u16 (pacc f S m n : Nat)) ∧ Keep (fun _ => False) w w' := by
  obtain ⟨a1, n1, c1, a2, n2, c2, rfl⟩ := hT.form
  obtain ⟨W, hW⟩ : ∃ W, W = w.alloc (.cells #[.slice a1 n1 c1, .slice a2 n2 c2] 27) := ⟨_, rfl⟩
  have kw : Keep (fun _ => False) w W := by rw [hW]; exact (Keep.refl _ w).alloc _
  have b0 : Blk W w.heap.size 27 #[.slice a1 n1 c1, .slice a2 n2 c2] := by rw [hW]; exact Blk.new w _ _
  have HT := Lib.hid (hT.keep kw)
  have HA := Lib.hid (ha.keep kw)
  have HS := Lib.hid (hs.keep kw)
  clear hT ha hs
  go_enter Try.func55, Try.ntmps55
  go_wp2_with fail
  rw [← hW]
  clear hW
  go_loopw [9, 14] (fun v9 v wr => ∃ j : Nat, j ≤ m ∧ v = .int .i64 j ∧ v9 = .int .u16 (pacc f S j n : Nat) ∧ Keep (fun _ => False) W wr) (fun _ v _ => m - (intOf v).toNat)
  case atStart => exact ⟨0, by omega, rfl, rfl, Keep.refl _ _⟩
  case round =>
    obtain ⟨j, hj, rfl, rfl, kk⟩ := hrel
    have hpl := pacc_lt (g := S) hf j n
    by_cases hjl : j < m
    · have hjl' : (j : Int) < (m : Int) := by omega
      obtain ⟨bA, oA, rfl, hbA, hcA⟩ := HA.out.at_ (by omega)
      have c0 := (kk.cell (p := ⟨bA, oA + j, none⟩) hbA (by simp)).trans (hcA j hjl)
      clear hcA
      by_cases hjn : j ≤ n
      · have hjn' : (j : Int) ≤ (n : Int) := by omega
        obtain ⟨bS, oS, rfl, hbS, hcS⟩ := HS.out.at_ (by omega)
        have d0 := (kk.cell (p := ⟨bS, oS + (n - j), none⟩) hbS (by simp)).trans (hcS (n - j) (by omega))
        clear hcS
        have b1 := b0.keep kk (by simp)
        have q0 : ∀ z : KeptBy wr, z.v.cell? ⟨w.heap.size, 0, none⟩ = some (.slice a1 n1 c1) := fun z => z.cell b1.lt (by rw [b1.cell]; rfl)
        have q1 : ∀ z : KeptBy wr, z.v.cell? ⟨w.heap.size, 1, none⟩ = some (.slice a2 n2 c2) := fun z => z.cell b1.lt (by rw [b1.cell]; rfl)
        have q2 : ∀ z : KeptBy wr, z.v.cell? ⟨bS, oS + (n - j), none⟩ = some (.int .u16 (S (n - j) : Nat)) := fun z => z.cell (Nat.lt_of_lt_of_le hbS kk.size) d0
        have e4 : IntKind.i64.wrap ((n : Int) - (j : Int)) = ((n - j : Nat) : Int) := by rw [wraps_i64 _ (by omega) (by omega)]; omega
        have e5 : ((n - j : Nat) : Int) < 16 := by omega
        have hfj := hf j
        have hSj := hS (n - j)
        have TW := Lib.hid (HT.out.keep kk)
        have HN := Lib.hid (show pacc f S j n ^^^ gm (f j) (S (n - j)) = pacc f S (j + 1) n by rw [pacc_next, if_pos hjn])
        clear d0
        go_upto_region 6 with fail
        refine wp_region_kept (by kernel_rfl) (by kernel_rfl) ?_
        repeat (quiet_step (first
          | (go_at_call 23; exact kept_of (tmul_lt _ _ _ _ (TW.out.keep (KeptBy.h _)) hfj hSj))
          | (go_at_call 51; exact kept_of (fadd_kept _ _ _ hpl (gm_lt hfj _)))))
        refine wpQuiet_nil ?_
        rintro w5 ⟨⟨_, k5⟩, rfl⟩
        rw [HN.out]
        have K6 := Lib.hid (kk.trans k5 (fun _ hi => .inl hi))
        clear q0 q1 q2 k5 e4 e5
        go_wp2_with fail
        exact ⟨⟨j + 1, by omega, by go_num, rfl, K6.out⟩, by simp [intOf]; omega⟩
      · have hjn' : ¬ (j : Int) ≤ (n : Int) := by omega
        have HN := Lib.hid (show pacc f S j n = pacc f S (j + 1) n by rw [pacc_next, if_neg hjn, Nat.xor_zero])
        go_wp2_with fail
        exact ⟨⟨j + 1, by omega, by go_num, by rw [HN.out], kk⟩, by simp [intOf]; omega⟩
    · obtain rfl : j = m := by omega
      have hjl' : ¬ (j : Int) < (j : Int) := by omega
      go_wp2_with fail
      go_ret
      exact ⟨rfl, kw.trans kk (fun _ hi => .inl hi)⟩

theorem make_u2 (x y : Int) (l m : Nat) (hx : x = l) (hy : y = m) (hl : l ≤ m) (hm : m ≤ 70368744177664) (w : World) :
    (Instr.makeSlice 22 (.int .i64 x) (.int .i64 y)).run Try.prog w = .ok (.slice (some ⟨w.heap.size, 0, none⟩) l m) (w.alloc (.cells (uArr (fun _ => 0) m) 23)) := by
  obtain ⟨i, hi, hz, hs, hb⟩ := Try.info_u16'
  have hr := run_make (P := Try.prog) (w := w) 22 23 i (.int .u16 0) Try.underlying22 hi hz .i64 .i64 x y (by omega) (by omega) (by rw [hb]; omega) (by omega)
  subst hx hy
  rw [hs, Int.toNat_natCast, Int.toNat_natCast, Nat.mul_one, show (Value.int IntKind.u16 0).cells = #[Value.int IntKind.u16 0] from rfl, valsArr_made] at hr
  exact hr

set_option maxHeartbeats 4000000 in
set_option maxRecDepth 100000 in
theorem shifted_any (V : Value) (a : Option Addr) (m c b x : Nat) (p : Nat → Nat) (w : World) (hT : HasT w V) (ha : ArgU w a m p) (hm : m ≤ 100000) (hb : b ≤ 100000) (hp : ∀ i, p i < 1024) (hx : x < 1024) :
    Calls Try.prog 57 #[V, .slice a m c, .int .i64 b, .int .u16 x] w fun e w' => ∃ a' c', e = .returned (.slice a' (b + m) c') ∧ OwnU w' w.heap.size a' (b + m) c' (shx b x p) ∧ Keep (fun _ => False) w w' := by
  obtain ⟨a1, n1, c1, a2, n2, c2, rfl⟩ := hT.form
  obtain ⟨W, hW⟩ : ∃ W, W = w.alloc (.cells #[.slice a1 n1 c1, .slice a2 n2 c2] 27) := ⟨_, rfl⟩
  have hws : W.heap.size = w.heap.size + 1 := by rw [hW]; simp
  have kw : Keep (fun _ => False) w W := by rw [hW]; exact (Keep.refl _ w).alloc _
  have b0 : Blk W w.heap.size 27 #[.slice a1 n1 c1, .slice a2 n2 c2] := by rw [hW]; exact Blk.new w _ _
  have HT := Lib.hid (hT.keep kw)
  have HA := Lib.hid (ha.keep kw)
  have hmk := make_u2 b (b + m) b (b + m) rfl (by omega) (by omega) (by omega)
  have k0 := (Keep.refl (fun _ => False) W).alloc (.cells (uArr (fun _ => 0) (b + m)) 23)
  have o0 : OwnU (W.alloc (.cells (uArr (fun _ => 0) (b + m)) 23)) (w.heap.size + 1) (some ⟨w.heap.size + 1, 0, none⟩) (b + 0) (b + m) (shx b x p) := by
    refine OwnU.of_row (((RowU.of_blk (Blk.here W _ _ _ hws.symm)).take (by omega)).congr (fun i hi => ?_)) (Nat.le_refl _) (by unfold maxLen; omega)
    unfold shx
    rw [if_pos (by omega)]
  clear hT ha
  go_enter Try.func57, Try.ntmps57
  go_wp2_with fail
  rw [← hW]
  clear hW hmk
  go_loopw [9, 20] (fun v9 v wr => ∃ (j : Nat) (a' : Option Addr) (c' : Nat), j ≤ m ∧ v = .int .i64 j ∧ v9 = .slice a' (b + j) c' ∧ Hid (OwnU wr (w.heap.size + 1) a' (b + j) c' (shx b x p)) ∧ Keep (fun _ => False) W wr) (fun _ v _ => m - (intOf v).toNat)
  case atStart => exact ⟨0, _, _, by omega, rfl, rfl, Lib.hid o0, k0⟩
  case round =>
    clear o0 k0
    obtain ⟨j, a', c', hj, rfl, rfl, HO, kk⟩ := hrel
    by_cases hjl : j < m
    · have hjl' : (j : Int) < (m : Int) := by omega
      obtain ⟨bA, oA, rfl, hbA, hcA⟩ := HA.out.at_ (by omega)
      have c0 := (kk.cell (p := ⟨bA, oA + j, none⟩) hbA (by simp)).trans (hcA j hjl)
      clear hcA
      have b1 := b0.keep kk (by simp)
      have q0 : wr.cell? ⟨w.heap.size, 0, none⟩ = some (.slice a1 n1 c1) := by rw [b1.cell]; rfl
      have q1 : wr.cell? ⟨w.heap.size, 1, none⟩ = some (.slice a2 n2 c2) := by rw [b1.cell]; rfl
      have hpj := hp j
      go_wp2_with fail
      refine (tmul_lt _ _ _ _ (HT.out.keep kk) hpj hx).mono ?_
      rintro e w3 ⟨rfl, k3⟩
      have k4 := kk.trans k3 (fun _ hi => .inl hi)
      have HO3 := Lib.hid ((HO.out.keep k3).keep ((Keep.refl _ w3).alloc (.cells #[.int .u16 (gm (p j) x : Nat)] 23)))
      have HL := Lib.hid ((Blk.here w3 23 #[.int .u16 (gm (p j) x : Nat)] w3.heap.size rfl).argU (n := 1) (f := fun _ => gm (p j) x) (by omega) (fun _ _ => by have := gm_lt hpj x; omega))
      have K4 := Lib.hid (k4.alloc (.cells #[.int .u16 (gm (p j) x : Nat)] 23))
      have hs4 : w.heap.size + 1 ≤ (w3.alloc (.cells #[.int .u16 (gm (p j) x : Nat)] 23)).heap.size := by have := k4.size; simp; omega
      clear q0 q1 b1 c0 kk k3 k4 HO
      go_wp2_with (refine wpList_append_u rfl (.tmp 24) (.tmp 29) rfl (w.heap.size + 1) _ _ _ (shx b x p) rfl HO3.out _ 1 1 (fun _ => gm (p j) x) rfl HL.out (by omega) hs4 ?_)
      intro a2' c2' w5 o5 g5
      have O5 := Lib.hid (o5.congr (f' := shx b x p) (fun i hi => by
        by_cases h : i < b + j
        · rw [if_pos h]
        · rw [if_neg h]
          obtain rfl : i = b + j := by omega
          unfold shx
          rw [if_neg (by omega), Nat.add_sub_cancel_left, gm_comm hpj hx]))
      have K5 := Lib.hid (K4.out.grown g5 (fun k hk => .inr (by have := HO3.out.lt k hk; omega)))
      clear o5 g5
      go_wp2_with fail
      exact ⟨⟨j + 1, _, _, by omega, by go_num, rfl, O5, K5.out⟩, by simp [intOf]; omega⟩
    · obtain rfl : j = m := by omega
      have hjl' : ¬ (j : Int) < (j : Int) := by omega
      go_wp2_with fail
      go_ret
      exact ⟨_, _, rfl, HO.out.more (by omega), kw.trans kk (fun _ hi => .inl hi)⟩
end Go.Proofs.Ytnejnoiogojplaa
