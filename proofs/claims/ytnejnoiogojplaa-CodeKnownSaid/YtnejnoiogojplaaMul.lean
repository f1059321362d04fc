/- poly.Slope, poly.Mul. -/
import Derived.Test.YtnejnoiogojplaaAdd
namespace Go.Proofs.Ytnejnoiogojplaa
open Go.RowKit

def slopeMid (p : Nat → Nat) (j : Nat) : Nat → Nat := fun i => if i < j ∧ i % 2 = 0 then p (i + 1) else 0
theorem slopeMid_even (p : Nat → Nat) {j : Nat} (h : j % 2 = 0) (i : Nat) : slopeMid p (j + 1) i = if i = j then p (j + 1) else slopeMid p j i := by
  unfold slopeMid
  by_cases e : i = j
  · subst e; simp [h]
  · by_cases e2 : i < j
    · simp [e, e2, show i < j + 1 by omega]
    · simp [e, e2, show ¬ i < j + 1 by omega]
theorem slopeMid_odd (p : Nat → Nat) {j : Nat} (h : ¬ j % 2 = 0) : slopeMid p (j + 1) = slopeMid p j := by
  funext i
  unfold slopeMid
  by_cases e : i = j
  · subst e; simp [h]
  · by_cases e2 : i < j
    · simp [e2, show i < j + 1 by omega]
    · simp [e2, show ¬ i < j + 1 by omega]
theorem slope_cut (p : Nat → Nat) (n : Nat) : cut (slopeMid p (n - 1)) (n - 1) = pslope (cut p n) := by
  funext i
  unfold cut slopeMid pslope
  by_cases h : i < n - 1
  · by_cases h2 : i % 2 = 0
    · simp [h, h2, show i + 1 < n by omega]
    · simp [h, h2]
  · simp [h, show ¬ i + 1 < n by omega]

set_option maxHeartbeats 2000000 in
set_option maxRecDepth 100000 in
theorem slope_any (a : Option Addr) (n c : Nat) (p : Nat → Nat) (w : World) (ha : ArgU w a n p) (hn : n ≤ 1000000) :
    Calls Try.prog 58 #[.slice a n c] w fun e w' => ∃ a' m, e = .returned (.slice a' m m) ∧ ResU w' w.heap.size a' m (pslope (cut p n)) ∧ IsPol (pslope (cut p n)) m ∧ m ≤ n - 1 ∧ Keep (fun _ => False) w w' := by
  have HA := Lib.hid ha
  have HC := Lib.hid (slope_cut p n)
  clear ha
  by_cases h0 : n = 0
  · subst h0
    go_enter Try.func58, Try.ntmps58
    go_wp2
    go_ret
    exact ⟨none, 0, rfl, .inl ⟨rfl, rfl⟩, ⟨fun i => by unfold pslope; split <;> first | exact cut_lt _ _ _ | omega, fun i _ => by simp [pslope, cut], fun h => by omega⟩, by omega, Keep.refl _ _⟩
  · obtain ⟨m, rfl⟩ : ∃ m, n = m + 1 := ⟨n - 1, by omega⟩
    have hmk := make_u m m rfl (by omega)
    have h1 : ¬ (((m + 1 : Nat) : Int)) = 0 := by omega
    go_enter Try.func58, Try.ntmps58
    go_wp2_with fail
    clear hmk
    go_loopw [14] (fun v wr => ∃ j : Nat, j ≤ m ∧ v = .int .i64 j ∧ Blk wr w.heap.size 23 (uArr (slopeMid p j) m) ∧ Keep (fun _ => False) w wr) (fun v _ => m - (intOf v).toNat)
    case atStart =>
      refine ⟨0, by omega, rfl, ?_, (Keep.refl _ _).alloc _⟩
      have := Blk.new w 23 (uArr (fun _ => 0) m)
      rwa [uArr_congr (g := slopeMid p 0) (fun i hi => by simp [slopeMid])] at this
    case round =>
      obtain ⟨j, hj, rfl, hR, hk⟩ := hrel
      have hs := hk.size
      by_cases hjm : j < m
      · have hjm' : (j : Int) < (m : Int) := by omega
        by_cases h2 : j % 2 = 0
        · obtain ⟨bb, off, rfl, hb, hcell⟩ := HA.out.at_ (by omega)
          have hc1 := (hk.cell (p := ⟨bb, off + (j + 1), none⟩) hb (by simp)).trans (hcell (j + 1) (by omega))
          have hc2 := hR.val hjm
          have hz := hR.frozen j
          have h3 : (j : Int) % 2 = 0 := by omega
          have h4 : (j : Int) + 1 < ((m + 1 : Nat) : Int) := by omega
          have h5 : (((j : Int) + 1)).toNat = j + 1 := by omega
          have HN := Lib.hid (hR.storeU j (p (j + 1)) (f' := slopeMid p (j + 1)) (fun i _ => slopeMid_even p h2 i))
          clear hcell
          go_wp2_with fail
          go_roundw
          case rel => exact ⟨j + 1, by omega, by go_num, HN.out, hk.setCell (p := ⟨w.heap.size, j, none⟩) (.inr (Nat.le_refl _)) _⟩
          case measure => simp [intOf]; omega
        · have h3 : ¬ (j : Int) % 2 = 0 := by omega
          have HN := Lib.hid (slopeMid_odd p h2)
          go_wp2_with fail
          go_roundw
          case rel => exact ⟨j + 1, by omega, by go_num, by rw [HN.out]; exact hR, hk⟩
          case measure => simp [intOf]; omega
      · obtain rfl : j = m := by omega
        have hp16 : ∀ i, i < j → slopeMid p j i < 65536 := fun i hi => by
          have hpa := HA.out.lt (i + 1) (by omega)
          unfold slopeMid
          split
          · exact hpa
          · omega
        have HR := Lib.hid (hR.argU (by omega) hp16)
        clear hp16
        go_wp2_with fail
        refine (trim_any _ _ _ _ _ HR.out (by omega) (Nat.le_refl _)).mono ?_
        rintro e w2 ⟨a', m', rfl, hres, hpol, hle, k2⟩
        have hc := HC.out
        rw [Nat.add_sub_cancel] at hc
        rw [hc] at hres hpol
        clear hc
        go_wp2_with fail
        go_ret
        exact ⟨a', m', rfl, hres.more hs, hpol, by omega, hk.trans k2 (fun _ hi => .inl hi)⟩
end Go.Proofs.Ytnejnoiogojplaa
