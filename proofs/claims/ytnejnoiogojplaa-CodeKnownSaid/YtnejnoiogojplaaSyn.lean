/- code.Syndromes, code.gap. -/
import Derived.Test.YtnejnoiogojplaaFinds
import Derived.Test.YtnejnoiogojplaaAt
import Derived.Test.YtnejnoiogojplaaNear
namespace Go.Proofs.Ytnejnoiogojplaa
open Go.RowKit

theorem cut_turned (p : Nat → Nat) (n : Nat) : cut (fun i => p (n - 1 - i)) n = rv (fun i => p i % 1024) n := rfl
theorem at_syn (p : Nat → Nat) (n j : Nat) : hor (cut (fun i => p (n - 1 - i)) n) (ex (j + 1) % 1024) 0 n = synW (fun i => p i % 1024) n j := by
  rw [cut_turned, Nat.mod_eq_of_lt (ex_lt _)]
  exact synW_hor (fun i _ => Nat.mod_lt _ (by omega)) j
theorem synW_mod {p : Nat → Nat} {n : Nat} (hp : ∀ i, i < n → p i < 1024) : synW (fun i => p i % 1024) n = synW p n := synW_congr fun i hi => Nat.mod_eq_of_lt (hp i hi)
theorem synM_lt (p : Nat → Nat) (n j : Nat) : synW (fun i => p i % 1024) n j < 1024 := synW_lt (fun i _ => Nat.mod_lt _ (by omega)) j

set_option maxHeartbeats 4000000 in
set_option maxRecDepth 100000 in
theorem syndromes_any (V : Value) (a : Option Addr) (n c : Nat) (p : Nat → Nat) (w : World) (hT : HasT w V) (ha : ArgU w a n p) (hn : n ≤ 1000000) :
    Calls Try.prog 18 #[V, .slice a n c] w fun e w' => ∃ g, e = .returned (.slice (some ⟨g, 0, none⟩) 16 16) ∧ w.heap.size ≤ g ∧ Blk w' g 23 (uArr (synW (fun i => p i % 1024) n) 16) ∧ Keep (fun _ => False) w w' := by
  obtain ⟨a1, n1, c1, a2, n2, c2, rfl⟩ := hT.form
  obtain ⟨W, hW⟩ : ∃ W, W = w.alloc (.cells #[.slice a1 n1 c1, .slice a2 n2 c2] 27) := ⟨_, rfl⟩
  have hws : W.heap.size = w.heap.size + 1 := by rw [hW]; simp
  have kw : Keep (fun _ => False) w W := by rw [hW]; exact (Keep.refl _ w).alloc _
  have b0 : Blk W w.heap.size 27 #[.slice a1 n1 c1, .slice a2 n2 c2] := by rw [hW]; exact Blk.new w _ _
  have HT := Lib.hid (hT.keep kw)
  have HA := Lib.hid ((ha.keep kw).keep ((Keep.refl _ W).alloc (.cells (uArr (fun _ => 0) 16) 23)))
  have r0 := Blk.here W 23 (uArr (fun _ => 0) 16) (w.heap.size + 1) hws.symm
  have k0 := (Keep.refl (fun _ => False) W).alloc (.cells (uArr (fun _ => 0) 16) 23)
  have hmk := make_u 16 16 rfl (by omega)
  clear hT ha
  go_enter Try.func18, Try.ntmps18
  go_wp2_with fail
  rw [← hW]
  refine (turned_any _ _ _ _ _ HA.out hn).mono ?_
  rintro e w1 ⟨a', c', rfl, o1, k2⟩
  have O1 := o1.more (show w.heap.size + 1 + 1 ≤ (W.alloc (.cells (uArr (fun _ => 0) 16) 23)).heap.size by simp [hws])
  have hp16 := Lib.hid (fun i (hi : i < n) => HA.out.lt (n - 1 - i) (by omega))
  have r1 := r0.keep k2 (by simp)
  have kk := k0.trans k2 (fun _ hi => .inl hi)
  clear HA r0 k0 k2 hmk o1
  go_wp2_with fail
  go_loopw [13] (fun v wr => ∃ j : Nat, j ≤ 16 ∧ v = .int .i64 j ∧ Blk wr (w.heap.size + 1) 23 (uArr (fun i => if i < j then synW (fun i => p i % 1024) n i else 0) 16) ∧ Hid (OwnU wr (w.heap.size + 1 + 1) a' n c' (fun i => p (n - 1 - i))) ∧ Keep (fun _ => False) W wr) (fun v _ => 16 - (intOf v).toNat)
  case atStart =>
    refine ⟨0, by omega, rfl, ?_, Lib.hid O1, kk⟩
    simpa using r1
  case round =>
    clear r1 kk O1
    obtain ⟨j, hj, rfl, r1, HO, kk⟩ := hrel
    by_cases hjl : j < 16
    · have hjl' : (j : Int) < 16 := by omega
      have b1 := b0.keep kk (by simp)
      have q0 : ∀ z : KeptBy wr, z.v.cell? ⟨w.heap.size, 0, none⟩ = some (.slice a1 n1 c1) := fun z => z.cell b1.lt (by rw [b1.cell]; rfl)
      have q1 : ∀ z : KeptBy wr, z.v.cell? ⟨w.heap.size, 1, none⟩ = some (.slice a2 n2 c2) := fun z => z.cell b1.lt (by rw [b1.cell]; rfl)
      have e4 : IntKind.i64.wrap ((j : Int) + 1) = (j : Int) + 1 := wraps_i64 _ (by omega) (by omega)
      have HX := Lib.hid (show (((j : Int) + 1) % 1023).toNat = j + 1 by omega)
      have TW := Lib.hid (HT.out.keep kk)
      go_upto_region 6 with fail
      refine wp_region_kept_tail 10 (by kernel_rfl) (by kernel_rfl) ?_
      simp only [List.take_succ_cons, List.take_zero, List.drop_succ_cons, List.drop_zero]
      repeat (quiet_step (first
        | (go_at_call 32; exact kept_of (exp_any _ _ _ (TW.out.keep (KeptBy.h _))))
        | (go_at_call 35; exact kept_of (at_any _ _ _ _ _ _ _ (TW.out.keep (KeptBy.h _)) ((HO.out.keep (KeptBy.h _)).arg (by omega) hp16.out)))))
      refine wpQuiet_nil ?_
      rintro w5 ⟨⟨_, k5⟩, rfl⟩
      clear q0 q1
      have r5 := r1.keep k5 (by simp)
      have d5 := r5.val hjl
      have z5 := r5.frozen j
      have k6 := kk.trans k5 (fun _ hi => .inl hi)
      have O5 := HO.out.keep k5
      obtain ⟨x, hx⟩ : ∃ x : Nat, x = hor (cut (fun i => p (n - 1 - i)) n) (ex (((j : Int) + 1) % 1023).toNat % 1024) 0 n := ⟨_, rfl⟩
      rw [← hx]
      have K7 := Lib.hid (k6.setCell (p := ⟨w.heap.size + 1, j, none⟩) (.inr (Nat.le_of_eq hws)) (.int .u16 x))
      have O7 := Lib.hid (O5.far (p := ⟨w.heap.size + 1, j, none⟩) (by show w.heap.size + 1 < w.heap.size + 1 + 1; omega) (.int .u16 x))
      have HN := Lib.hid (r5.storeU j x (f' := fun i => if i < j + 1 then synW (fun i => p i % 1024) n i else 0) (fun i _ => by
        by_cases e : i = j
        · subst e; rw [hx, HX.out, at_syn]; simp
        · by_cases e2 : i < j
          · simp [e, e2, show i < j + 1 by omega]
          · simp [e, e2, show ¬ i < j + 1 by omega]))
      clear r5 O5 k6 hx HX
      go_wp2_with fail
      exact ⟨⟨j + 1, by omega, by go_num, HN.out, O7, K7.out⟩, by simp [intOf]; omega⟩
    · obtain rfl : j = 16 := by omega
      have hjl' : ¬ ((16 : Nat) : Int) < 16 := by omega
      rw [uArr_congr (g := synW (fun i => p i % 1024) n) (fun i hi => by simp [hi])] at r1
      go_wp2_with fail
      go_ret
      exact ⟨_, rfl, by omega, r1, kw.trans kk (fun _ hi => .inl hi)⟩
end Go.Proofs.Ytnejnoiogojplaa
