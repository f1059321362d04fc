/- poly.Trim. -/
import Derived.Test.YtnejnoiogojplaaU
namespace Go.Proofs.Ytnejnoiogojplaa
open Go.RowKit

set_option maxHeartbeats 2000000 in
set_option maxRecDepth 100000 in
theorem trim_any (a : Option Addr) (n c : Nat) (p : Nat → Nat) (w : World) (ha : ArgU w a n p) (hn : n ≤ 1000000) (hc : n ≤ c) :
    Calls Try.prog 49 #[.slice a n c] w fun e w' => ∃ a' m, e = .returned (.slice a' m m) ∧ ResU w' w.heap.size a' m (cut p n) ∧ IsPol (cut p n) m ∧ m ≤ n ∧ Keep (fun _ => False) w w' := by
  have HA := Lib.hid ha
  have hc' : (n : Int) ≤ (c : Int) := by omega
  clear ha
  go_enter Try.func49, Try.ntmps49
  go_upto_block 0 with (fail)
  go_cut [3] (fun v wc => ∃ k : Nat, k ≤ n ∧ v = .int .i64 k ∧ w = wc ∧ Hid (IsPol (cut p n) k))
  case first =>
    go_wp2
    go_loop [3] (fun v => ∃ k : Nat, k ≤ n ∧ v = .int .i64 k ∧ Hid (∀ i, k ≤ i → cut p n i = 0)) (fun v => (intOf v).toNat)
    case atStart => exact ⟨n, Nat.le_refl _, rfl, Lib.hid fun i hi => cut_zero p hi⟩
    case round =>
      obtain ⟨k, hk, rfl, HZ⟩ := hrel
      by_cases h0 : k = 0
      · subst h0
        go_wp2
        go_meet
        case rel => exact ⟨0, by omega, by rfl, rfl, Lib.hid ⟨cut_lt p n, HZ.out, fun h => by omega⟩⟩
      · obtain ⟨b, off, rfl, hb, hcell⟩ := HA.out.at_ (by omega)
        obtain ⟨j, rfl⟩ : ∃ j, k = j + 1 := ⟨k - 1, by omega⟩
        have hj := hcell j (by omega)
        have e1 : cut p n j = p j % 1024 := cut_in p (by omega)
        have h3 : (((j + 1 : Nat) : Int) - 1) = (j : Int) := by omega
        clear hcell h0
        by_cases hz : p j % 1024 = 0
        · have HE := Lib.hid (e1.trans hz)
          have hb1 : (((p j : Nat) : Int) % 1024 == 0) = true := by simp; omega
          have hb2 : (((p j : Nat) : Int) % 1024) = 0 := by omega
          clear e1 hz
          go_wp2
          exact ⟨⟨j, by omega, rfl, Lib.hid fun i hi => by
            by_cases e : i = j
            · rw [e]; exact HE.out
            · exact HZ.out i (by omega)⟩, by simp [intOf]⟩
        · have HE := Lib.hid (fun h => hz (e1.symm.trans h) : cut p n j ≠ 0)
          have hb1 : (((p j : Nat) : Int) % 1024 == 0) = false := by simp; omega
          have hb2 : ¬ (((p j : Nat) : Int) % 1024) = 0 := by omega
          clear e1 hz
          go_wp2
          go_meet
          case rel => exact ⟨j + 1, by omega, by rfl, rfl, Lib.hid ⟨cut_lt p n, HZ.out, fun _ => HE.out⟩⟩
  case rest =>
    obtain ⟨k, hk0, rfl, hw, HP⟩ := hcut
    subst hw
    by_cases h0 : k = 0
    · subst h0
      go_wp2
      go_ret
      exact ⟨none, 0, rfl, .inl ⟨rfl, rfl⟩, HP.out, by omega, Keep.refl _ _⟩
    · obtain ⟨b, off, rfl, hb, hcell⟩ := HA.out.at_ (by omega)
      have hm := make_u k k rfl (by omega)
      have h1 : ¬ ((k : Int) = 0) := by omega
      have h2 : (k : Int) ≤ (c : Int) := by omega
      go_wp2
      clear hm
      go_loopw [30] (fun v wr => ∃ j : Nat, j ≤ k ∧ v = .int .i64 j ∧ Blk wr w.heap.size 23 (uArr (fun i => if i < j then p i % 1024 else 0) k) ∧ Keep (fun _ => False) w wr) (fun v _ => k - (intOf v).toNat)
      case atStart =>
        refine ⟨0, Nat.zero_le _, rfl, ?_, (Keep.refl _ _).alloc _⟩
        have := Blk.new w 23 (uArr (fun _ => 0) k)
        simpa using this
      case round =>
        obtain ⟨j, hj, rfl, hB, hk⟩ := hrel
        by_cases hjk : j < k
        · have hs := hk.size
          have hc1 := (hk.cell (p := ⟨b, off + j, none⟩) hb (by simp)).trans (hcell j (by omega))
          have hc2 := hB.val hjk
          have hz := hB.frozen j
          have hjk' : (j : Int) < (k : Int) := by omega
          have hjc : (j : Int) < (c : Int) := by omega
          clear hcell
          go_wp2
          go_roundw
          case rel =>
            refine ⟨j + 1, by omega, by go_num, ?_, hk.setCell (p := ⟨w.heap.size, j, none⟩) (.inr (Nat.le_refl _)) _⟩
            exact hB.storeU j (p j % 1024) (fun i hi => by
              by_cases e : i = j
              · subst e; simp
              · by_cases e2 : i < j
                · simp [e, e2, show i < j + 1 by omega]
                · simp [e, e2, show ¬ i < j + 1 by omega])
          case measure => simp [intOf]; omega
        · have hjk' : ¬ (j : Int) < (k : Int) := by omega
          clear hcell
          go_wp2
          go_ret
          refine ⟨some ⟨w.heap.size, 0, none⟩, k, rfl, .inr ⟨_, rfl, Nat.le_refl _, ?_⟩, HP.out, hk0, hk⟩
          rw [uArr_congr (g := fun i => if i < j then p i % 1024 else 0)]
          · exact hB
          · intro i hi
            simp [cut, show i < n by omega, show i < j by omega]
end Go.Proofs.Ytnejnoiogojplaa
