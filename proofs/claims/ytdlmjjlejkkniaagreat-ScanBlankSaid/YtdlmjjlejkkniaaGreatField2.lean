/- field.Tables: Mul, Inv. -/
import Derived.Test.YtdlmjjlejkkniaaGreatField
namespace Go.Proofs.YtdlmjjlejkkniaaGreat
open Go.RowKit

theorem log_any (V : Value) (a : Nat) (w : World) (hT : HasT w V) (x : Bool) (hx : Hid ((a % 1024 != 0) = x)) :
    Calls Tryz.prog 131 #[V, .int .u16 a] w fun e w' => e = .returned (.tuple #[.int .i64 (lg (a % 1024)), .bool x]) ∧ Keep (fun _ => False) w w' := by
  have h := hx.out
  by_cases h0 : a % 1024 = 0
  · have : x = false := by rw [← h]; simp [h0]
    subst this
    rw [h0, lg_zero]
    exact log_zero V a w hT h0
  · have : x = true := by rw [← h]; simp [h0]
    subst this
    exact log_some V a w hT h0

theorem tab_stored {w w1 : World} {g1 g2 : Nat} {x y : Value} (b : Blk w1 w.heap.size 49 #[x, y]) (t : Tab w1 g1 g2) (k : Keep (fun _ => False) w w1) :
    Blk ((w1.setCell ⟨w.heap.size, 0, none⟩ (.slice (some ⟨g1, 0, none⟩) 1023 1023)).setCell ⟨w.heap.size, 1, none⟩ (.slice (some ⟨g2, 0, none⟩) 1024 1024)) w.heap.size 49 #[.slice (some ⟨g1, 0, none⟩) 1023 1023, .slice (some ⟨g2, 0, none⟩) 1024 1024] ∧
    Tab ((w1.setCell ⟨w.heap.size, 0, none⟩ (.slice (some ⟨g1, 0, none⟩) 1023 1023)).setCell ⟨w.heap.size, 1, none⟩ (.slice (some ⟨g2, 0, none⟩) 1024 1024)) g1 g2 ∧
    Keep (fun _ => False) w ((w1.setCell ⟨w.heap.size, 0, none⟩ (.slice (some ⟨g1, 0, none⟩) 1023 1023)).setCell ⟨w.heap.size, 1, none⟩ (.slice (some ⟨g2, 0, none⟩) 1024 1024)) := by
  have n1 := t.e.ne b (by decide)
  have n2 := t.l.ne b (by decide)
  exact ⟨(b.put 0 _).put 1 _, ⟨(t.e.far (p := ⟨w.heap.size, 0, none⟩) n1 _).far (p := ⟨w.heap.size, 1, none⟩) n1 _, (t.l.far (p := ⟨w.heap.size, 0, none⟩) n2 _).far (p := ⟨w.heap.size, 1, none⟩) n2 _⟩,
    (k.setCell (p := ⟨w.heap.size, 0, none⟩) (.inr (Nat.le_refl _)) _).setCell (p := ⟨w.heap.size, 1, none⟩) (.inr (Nat.le_refl _)) _⟩

/-- The two cells of tables in a variable. -/
theorem tab_cells {w : World} {g g1 g2 : Nat} (b : Blk w g 49 #[.slice (some ⟨g1, 0, none⟩) 1023 1023, .slice (some ⟨g2, 0, none⟩) 1024 1024]) :
    w.cell? ⟨g, 0, none⟩ = some (.slice (some ⟨g1, 0, none⟩) 1023 1023) ∧ w.cell? ⟨g, 1, none⟩ = some (.slice (some ⟨g2, 0, none⟩) 1024 1024) := ⟨by rw [b.cell]; rfl, by rw [b.cell]; rfl⟩

theorem gm_logs {a b : Nat} (ha : a % 1024 ≠ 0) (hb : b % 1024 ≠ 0) : ex ((((lg (a % 1024) : Nat) : Int) + ((lg (b % 1024) : Nat) : Int)) % 1023).toNat = gm (a % 1024) (b % 1024) := by
  rw [gm_lg (by omega) (by omega) ha hb]
  congr 1
theorem gi_log {a : Nat} (ha : a % 1024 ≠ 0) : ex ((-((lg (a % 1024) : Nat) : Int)) % 1023).toNat = gi (a % 1024) := by
  unfold gi
  rw [if_neg ha]
  have := lg_lt (a % 1024)
  congr 1
  omega

set_option maxHeartbeats 1000000 in
theorem tmul_any (V : Value) (a b : Nat) (w : World) (hT : HasT w V) :
    Calls Tryz.prog 121 #[V, .int .u16 a, .int .u16 b] w fun e w' => e = .returned (.int .u16 (gm (a % 1024) (b % 1024) : Nat)) ∧ Keep (fun _ => False) w w' := by
  have k0 := (Keep.refl (fun _ => False) w)
  obtain ⟨a1, n1, c1, a2, n2, c2, rfl⟩ := hT.form
  have HT := Lib.hid (hT.keep (k0.alloc (.cells #[.slice a1 n1 c1, .slice a2 n2 c2] 49)))
  clear hT
  obtain ⟨x, hx⟩ : ∃ x, Hid ((a % 1024 != 0) = x) := ⟨_, Lib.hid rfl⟩
  obtain ⟨y, hy⟩ : ∃ y, Hid ((b % 1024 != 0) = y) := ⟨_, Lib.hid rfl⟩
  have la := lg_lt (a % 1024)
  have lb := lg_lt (b % 1024)
  have b0 := Blk.new w 49 #[.slice a1 n1 c1, .slice a2 n2 c2]
  go_enter Tryz.func121, Tryz.ntmps121
  go_wp2_with fail
  refine (made_any _ _ HT.out).mono ?_
  rintro e w1 ⟨g1, g2, rfl, t, k⟩
  have b1 := b0.keep k (by simp)
  have kk := (k0.alloc (.cells #[.slice a1 n1 c1, .slice a2 n2 c2] 49)).trans k (fun _ hi => .inl hi)
  have d0 : w1.cell? ⟨w.heap.size, 0, none⟩ = some (.slice a1 n1 c1) := by rw [b1.cell]; rfl
  have d1 : w1.cell? ⟨w.heap.size, 1, none⟩ = some (.slice a2 n2 c2) := by rw [b1.cell]; rfl
  have z0 := b1.frozen 0
  have z1 := b1.frozen 1
  clear b0 k
  unfold tabV
  go_wp2_with fail
  obtain ⟨b2, t2, k2⟩ := tab_stored b1 t kk
  generalize (w1.setCell ⟨w.heap.size, 0, none⟩ (.slice (some ⟨g1, 0, none⟩) 1023 1023)).setCell ⟨w.heap.size, 1, none⟩ (.slice (some ⟨g2, 0, none⟩) 1024 1024) = w2 at b2 t2 k2 ⊢
  clear d0 d1 z0 z1 b1 t kk
  refine (log_any _ a _ t2.has x hx).mono ?_
  rintro e w3 ⟨rfl, k⟩
  have b3 := b2.keep k (by simp)
  have t3 := t2.keep k
  have k3 := k2.trans k (fun _ hi => .inl hi)
  obtain ⟨d0, d1⟩ := tab_cells b3
  clear b2 t2 k2 k
  go_wp2_with fail
  refine (log_any _ b _ t3.has y hy).mono ?_
  rintro e w4 ⟨rfl, k⟩
  have b4 := b3.keep k (by simp)
  have t4 := t3.keep k
  have k4 := k3.trans k (fun _ hi => .inl hi)
  clear d0 d1
  obtain ⟨d0, d1⟩ := tab_cells b4
  clear b3 t3 k3 k
  rcases x with _ | _
  · have h0 : a % 1024 = 0 := by simpa using hx.out
    have HG := Lib.hid (show gm (a % 1024) (b % 1024) = 0 by rw [h0, gm_zero_left])
    clear h0
    rcases y with _ | _
    all_goals
      go_wp2_with fail
      go_ret
      exact ⟨by rw [HG.out]; rfl, k4⟩
  · rcases y with _ | _
    · have h0 : b % 1024 = 0 := by simpa using hy.out
      have HG := Lib.hid (show gm (a % 1024) (b % 1024) = 0 by rw [h0, gm_zero_right])
      clear h0
      go_wp2_with fail
      go_ret
      exact ⟨by rw [HG.out]; rfl, k4⟩
    · have h0 : a % 1024 ≠ 0 := by simpa using hx.out
      have h1 : b % 1024 ≠ 0 := by simpa using hy.out
      have HG := Lib.hid (gm_logs h0 h1)
      clear h0 h1
      go_wp2_with fail
      refine (exp_any _ _ _ t4.has).mono ?_
      rintro e w5 ⟨rfl, k⟩
      go_wp2_with fail
      go_ret
      exact ⟨by rw [HG.out]; rfl, k4.trans k (fun _ hi => .inl hi)⟩

set_option maxHeartbeats 1000000 in
theorem tinv_any (V : Value) (a : Nat) (w : World) (hT : HasT w V) (x : Bool) (hx : Hid ((a % 1024 != 0) = x)) :
    Calls Tryz.prog 118 #[V, .int .u16 a] w fun e w' => e = .returned (.tuple #[.int .u16 (gi (a % 1024) : Nat), .bool x]) ∧ Keep (fun _ => False) w w' := by
  have k0 := (Keep.refl (fun _ => False) w)
  obtain ⟨a1, n1, c1, a2, n2, c2, rfl⟩ := hT.form
  have HT := Lib.hid (hT.keep (k0.alloc (.cells #[.slice a1 n1 c1, .slice a2 n2 c2] 49)))
  clear hT
  have la := lg_lt (a % 1024)
  have b0 := Blk.new w 49 #[.slice a1 n1 c1, .slice a2 n2 c2]
  go_enter Tryz.func118, Tryz.ntmps118
  go_wp2_with fail
  refine (made_any _ _ HT.out).mono ?_
  rintro e w1 ⟨g1, g2, rfl, t, k⟩
  have b1 := b0.keep k (by simp)
  have kk := (k0.alloc (.cells #[.slice a1 n1 c1, .slice a2 n2 c2] 49)).trans k (fun _ hi => .inl hi)
  have d0 : w1.cell? ⟨w.heap.size, 0, none⟩ = some (.slice a1 n1 c1) := by rw [b1.cell]; rfl
  have d1 : w1.cell? ⟨w.heap.size, 1, none⟩ = some (.slice a2 n2 c2) := by rw [b1.cell]; rfl
  have z0 := b1.frozen 0
  have z1 := b1.frozen 1
  clear b0 k
  unfold tabV
  go_wp2_with fail
  obtain ⟨b2, t2, k2⟩ := tab_stored b1 t kk
  generalize (w1.setCell ⟨w.heap.size, 0, none⟩ (.slice (some ⟨g1, 0, none⟩) 1023 1023)).setCell ⟨w.heap.size, 1, none⟩ (.slice (some ⟨g2, 0, none⟩) 1024 1024) = w2 at b2 t2 k2 ⊢
  clear d0 d1 z0 z1 b1 t kk
  refine (log_any _ a _ t2.has x hx).mono ?_
  rintro e w3 ⟨rfl, k⟩
  have b3 := b2.keep k (by simp)
  have t3 := t2.keep k
  have k3 := k2.trans k (fun _ hi => .inl hi)
  obtain ⟨d0, d1⟩ := tab_cells b3
  clear b2 t2 k2 k
  rcases x with _ | _
  · have h0 : a % 1024 = 0 := by simpa using hx.out
    have HG := Lib.hid (show gi (a % 1024) = 0 by rw [h0, gi_zero])
    clear h0
    go_wp2_with fail
    go_ret2
    exact ⟨by rw [HG.out]; rfl, k3⟩
  · have h0 : a % 1024 ≠ 0 := by simpa using hx.out
    have HG := Lib.hid (gi_log h0)
    clear h0
    go_wp2_with fail
    refine (exp_any _ _ _ t3.has).mono ?_
    rintro e w5 ⟨rfl, k⟩
    go_wp2_with fail
    go_ret2
    exact ⟨by rw [HG.out]; rfl, k3.trans k (fun _ hi => .inl hi)⟩
end Go.Proofs.YtdlmjjlejkkniaaGreat
