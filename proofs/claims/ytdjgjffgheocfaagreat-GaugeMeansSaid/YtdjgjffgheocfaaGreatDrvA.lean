/- What a drive is made of: host pages, the frontier, the patrol, the yard. -/
import Derived.Test.YtdjgjffgheocfaaGreatYard
import Derived.Test.YtdjgjffgheocfaaGreatGeo
namespace Go.Proofs.YtdjgjffgheocfaaGreat
open Go.RowKit

/-- How many host pages there may be. -/
def lpN (B P s : Nat) : Nat := (B - s - 3) * P / 2
theorem lpN_le {B P s : Nat} (hB : B ≤ 64) (hP : P ≤ 32) : (B - s - 3) * P ≤ 2048 ∧ lpN B P s ≤ 1024 := by
  have : (B - s - 3) * P ≤ 64 * 32 := Nat.mul_le_mul (by omega) hP
  unfold lpN
  omega
set_option maxHeartbeats 1000000 in
theorem lpns_any (B P W K s : Nat) (w : World) (h : GeoOk B P W K) (hs : s ≤ B) :
    Calls Tryz.prog 46 #[geoV B P W K, .int .i64 s] w fun e w' => e = .returned (.int .i64 (lpN B P s : Nat)) ∧ Keep (fun _ => False) w w' := by
  have b1 := h.b1
  have p1 := h.p1
  obtain ⟨l1, l2⟩ := lpN_le (B := B) (P := P) (s := s) (by omega) (by omega)
  obtain ⟨M, hM⟩ : ∃ M, M = B - s - 3 := ⟨_, rfl⟩
  obtain ⟨Z, hZ⟩ : ∃ Z, Z = M * P := ⟨_, rfl⟩
  obtain ⟨L, hL⟩ : ∃ L, L = lpN B P s := ⟨_, rfl⟩
  have hZL : Z / 2 = L := by rw [hZ, hL, hM]; rfl
  have hZ2 : Z ≤ 2048 := by rw [hZ, hM]; exact l1
  rw [← hL]
  have HL := Lib.hid hL
  have e1 : (if (B : Int) - (s : Int) - 3 < 0 then 0 else (B : Int) - (s : Int) - 3) = (M : Int) := by
    split <;> omega
  have e2 : (M : Int) * (P : Int) = (Z : Int) := by rw [hZ]; exact (Int.natCast_mul M P).symm
  have e3 : (Z : Int).tdiv 2 = (L : Int) := by rw [Int.tdiv_eq_ediv_of_nonneg (by omega)]; omega
  have e4 : (Z : Int) / 2 = (L : Int) := by omega
  have d0 : decide ((s : Int) < 0) = false := by simp
  have d1 : decide ((B : Int) < (s : Int)) = false := by simp; omega
  have d2 : decide (B < s) = false := by simp; omega
  have HW := Lib.hid (fun w => may_yes B P W K w h)
  clear h hL hM hZ l1 l2 hZL
  go_enter Tryz.func46, Tryz.ntmps46
  go_wp2_with fail
  refine (HW.out _).mono ?_
  rintro e wx ⟨rfl, k⟩
  have hb := (Blk.new w 42 #[.int .i64 B, .int .i64 P, .int .i64 W, .int .i64 K]).keep k (by simp)
  have c0 : wx.cell? ⟨w.heap.size, 0, none⟩ = some (.int .i64 B) := by rw [hb.cell]; rfl
  have c1 : wx.cell? ⟨w.heap.size, 1, none⟩ = some (.int .i64 P) := by rw [hb.cell]; rfl
  have kk := Lib.hid (((Keep.refl (fun _ => False) w).alloc (.cells #[.int .i64 B, .int .i64 P, .int .i64 W, .int .i64 K] 42)).trans k (fun i hi => .inl hi))
  clear hb k
  go_wp2_with fail
  go_ret
  exact ⟨rfl, kk.out⟩
/-- A frontier: its block is none (-1) or a number. -/
def IsFront (fb : Nat) (B P W K : Nat) (blk : Int) (page : Nat) (w : World) : Prop := Blk w fb 153 #[.int .i64 B, .int .i64 P, .int .i64 W, .int .i64 K, .int .i64 blk, .int .i64 (page : Nat)]
def IsPatrol (pb : Nat) (B P W K : Nat) (told : Nat) (w : World) : Prop := Blk w pb 155 #[.int .i64 B, .int .i64 P, .int .i64 W, .int .i64 K, .int .i64 (told : Nat)]
theorem front_new (B P W K : Nat) (w : World) :
    Calls Tryz.prog 51 #[geoV B P W K] w fun e w' => ∃ fb, e = .returned (.pointer (some ⟨fb, 0, none⟩)) ∧ IsFront fb B P W K (-1) 0 w' ∧ w.heap.size ≤ fb ∧ Keep (fun _ => False) w w' := by
  have HZ := Lib.hid (Blk.here (w.alloc (.cells #[.int .i64 B, .int .i64 P, .int .i64 W, .int .i64 K] 42)) 153 #[.int .i64 B, .int .i64 P, .int .i64 W, .int .i64 K, .int .i64 (-1), .int .i64 0] (w.heap.size + 1) (by simp))
  have HK := Lib.hid (((Keep.refl (fun _ => False) w).alloc (.cells #[.int .i64 B, .int .i64 P, .int .i64 W, .int .i64 K] 42)).alloc (.cells #[.int .i64 B, .int .i64 P, .int .i64 W, .int .i64 K, .int .i64 (-1), .int .i64 0] 153))
  go_enter Tryz.func51, Tryz.ntmps51
  go_wp2_with fail
  go_ret
  exact ⟨w.heap.size + 1, rfl, HZ.out, by omega, HK.out⟩
theorem patrol_new (B P W K : Nat) (w : World) :
    Calls Tryz.prog 52 #[geoV B P W K] w fun e w' => ∃ pb, e = .returned (.pointer (some ⟨pb, 0, none⟩)) ∧ IsPatrol pb B P W K 0 w' ∧ w.heap.size ≤ pb ∧ Keep (fun _ => False) w w' := by
  have HZ := Lib.hid (Blk.here (w.alloc (.cells #[.int .i64 B, .int .i64 P, .int .i64 W, .int .i64 K] 42)) 155 #[.int .i64 B, .int .i64 P, .int .i64 W, .int .i64 K, .int .i64 0] (w.heap.size + 1) (by simp))
  have HK := Lib.hid (((Keep.refl (fun _ => False) w).alloc (.cells #[.int .i64 B, .int .i64 P, .int .i64 W, .int .i64 K] 42)).alloc (.cells #[.int .i64 B, .int .i64 P, .int .i64 W, .int .i64 K, .int .i64 0] 155))
  go_enter Tryz.func52, Tryz.ntmps52
  go_wp2_with fail
  go_ret
  exact ⟨w.heap.size + 1, rfl, HZ.out, by omega, HK.out⟩
theorem yard_made (n : Nat) (hn : n ≤ 64) (w : World) (s e : Nat) (h : (s = w.heap.size ∧ e = w.heap.size + 1) ∨ (e = w.heap.size ∧ s = w.heap.size + 1)) :
    IsYard ⟨w.heap.size + 1 + 1, s, e, n⟩ (fun _ => 0) (fun _ => 0) (((w.alloc (.cells (valsArr (fun _ => Value.int .i64 0) n) 3)).alloc (.cells (valsArr (fun _ => Value.int .i64 0) n) 3)).alloc (.cells #[.slice (some ⟨s, 0, none⟩) n n, .slice (some ⟨e, 0, none⟩) n n] 151)).drew ∧
    (∀ k, yardS ⟨w.heap.size + 1 + 1, s, e, n⟩ k → w.heap.size ≤ k) ∧
    Keep (fun _ => False) w (((w.alloc (.cells (valsArr (fun _ => Value.int .i64 0) n) 3)).alloc (.cells (valsArr (fun _ => Value.int .i64 0) n) 3)).alloc (.cells #[.slice (some ⟨s, 0, none⟩) n n, .slice (some ⟨e, 0, none⟩) n n] 151)).drew := by
  have b0 := (((Blk.new w 3 (valsArr (fun _ => Value.int .i64 0) n)).alloc (.cells (valsArr (fun _ => Value.int .i64 0) n) 3)).alloc (.cells #[.slice (some ⟨s, 0, none⟩) n n, .slice (some ⟨e, 0, none⟩) n n] 151)).drew
  have b1 := ((Blk.here (w.alloc (.cells (valsArr (fun _ => Value.int .i64 0) n) 3)) 3 (valsArr (fun _ => Value.int .i64 0) n) (w.heap.size + 1) (by simp)).alloc (.cells #[.slice (some ⟨s, 0, none⟩) n n, .slice (some ⟨e, 0, none⟩) n n] 151)).drew
  have b2 := (Blk.here ((w.alloc (.cells (valsArr (fun _ => Value.int .i64 0) n) 3)).alloc (.cells (valsArr (fun _ => Value.int .i64 0) n) 3)) 151 #[.slice (some ⟨s, 0, none⟩) n n, .slice (some ⟨e, 0, none⟩) n n] (w.heap.size + 1 + 1) (by simp)).drew
  have kk := ((((Keep.refl (fun _ => False) w).alloc (.cells (valsArr (fun _ => Value.int .i64 0) n) 3)).alloc (.cells (valsArr (fun _ => Value.int .i64 0) n) 3)).alloc (.cells #[.slice (some ⟨s, 0, none⟩) n n, .slice (some ⟨e, 0, none⟩) n n] 151)).drew
  refine ⟨?_, ?_, kk⟩
  · rcases h with ⟨rfl, rfl⟩ | ⟨rfl, rfl⟩
    · exact ⟨hn, b2, b0, b1, by simp⟩
    · exact ⟨hn, b2, b1, b0, by simp⟩
  · rintro k (rfl | rfl | rfl)
    · show w.heap.size ≤ w.heap.size + 1 + 1
      omega
    · omega
    · omega
set_option maxHeartbeats 1000000 in
theorem yard_new (n : Nat) (hn : n ≤ 64) (w : World) :
    Calls Tryz.prog 50 #[.int .i64 n] w fun e w' => ∃ y : YD, e = .returned (.pointer (some ⟨y.yb, 0, none⟩)) ∧ y.n = n ∧ IsYard y (fun _ => 1) (fun _ => 0) w' ∧ (∀ k, yardS y k → w.heap.size ≤ k) ∧ Keep (fun _ => False) w w' := by
  have hm := make_vals (P := Tryz.prog) Tryz.underlying43 Tryz.info_intY rfl n n rfl (by omega) (by omega)
  have hn' : (n : Int) ≤ 64 := by omega
  have HM := Lib.hid (fun s e => yard_made n hn w s e)
  go_enter Tryz.func50, Tryz.ntmps50
  go_upto_region 2 with (fail)
  go_cut [4] (fun v wc => ∃ y : YD, v = .pointer (some ⟨y.yb, 0, none⟩) ∧ y.n = n ∧ IsYard y (fun _ => 0) (fun _ => 0) wc ∧ (∀ k, yardS y k → w.heap.size ≤ k) ∧ Keep (fun _ => False) w wc)
  case first =>
    go_region
    all_goals
      go_wp2_with fail
      go_meet
      first
        | exact ⟨_, rfl, rfl, HM.out _ _ (.inl ⟨rfl, rfl⟩)⟩
        | exact ⟨_, rfl, rfl, HM.out _ _ (.inr ⟨rfl, rfl⟩)⟩
  case rest =>
  clear hm HM
  obtain ⟨y, rfl, hyn, hy, hlo, hk⟩ := hcut
  have c0 := hy.c0
  rw [hyn] at c0
  have HY := Lib.hid hy
  have HK := Lib.hid (And.intro hlo hk)
  have HYN := Lib.hid hyn
  clear hy hlo hk hyn
  go_wp2_with fail
  clear c0
  go_loopw [20] (fun v wr => ∃ j : Nat, j ≤ n ∧ v = .int .i64 j ∧ IsYard y (fun k => if k < j then 1 else 0) (fun _ => 0) wr ∧ Keep (· = y.sb) wc wr) (fun v _ => n - (intOf v).toNat)
  case atStart => exact ⟨0, by omega, rfl, by simpa using HY.out, Keep.refl _ _⟩
  case round =>
    obtain ⟨j, hj, rfl, hy, hk⟩ := hrel
    by_cases hjn : j < n
    · have hjn' : (j : Int) < (n : Int) := by omega
      have c0 := hy.c0
      rw [HYN.out] at c0
      have cj := hy.st_ (i := j) (by rw [HYN.out]; exact hjn)
      have hz := hy.hs.frozen j
      have HS := Lib.hid (hy.setSt j 1)
      have HKS := Lib.hid (hk.setCell (p := ⟨y.sb, j, none⟩) (.inl rfl) (.int .i64 (1 : Nat)))
      have HE := Lib.hid (show updN (fun k => if k < j then 1 else 0) j 1 = fun k => if k < j + 1 then 1 else 0 from funext fun k => by
        show (if k = j then 1 else if k < j then 1 else 0) = if k < j + 1 then 1 else 0
        by_cases e : k = j
        · rw [if_pos e, if_pos (by omega)]
        · rw [if_neg e]
          by_cases e2 : k < j
          · rw [if_pos e2, if_pos (by omega)]
          · rw [if_neg e2, if_neg (by omega)])
      rw [HE.out] at HS
      clear hy hk HE
      go_wp2_with fail
      go_roundw
      case rel => exact ⟨j + 1, by omega, by go_num, HS.out, HKS.out⟩
      case measure => simp [intOf]; omega
    · obtain rfl : j = n := by omega
      have hjn' : ¬ (j : Int) < (j : Int) := by omega
      have HE := Lib.hid (show IsYard y (fun _ => 1) (fun _ => 0) wr from by
        refine ⟨hy.hn, hy.hy, ?_, hy.he, hy.ne⟩
        have := hy.hs
        rw [show natArr (fun k => if k < j then 1 else 0) y.n = natArr (fun _ => 1) y.n from valsArr_congr fun i hi => by
          rw [HYN.out] at hi
          show Value.int .i64 ((if i < j then 1 else 0 : Nat) : Int) = Value.int .i64 ((1 : Nat) : Int)
          rw [if_pos hi]] at this
        exact this)
      have HKE := Lib.hid (HK.out.2.trans hk (fun i e => .inr (HK.out.1 i (.inr (.inl e)))))
      clear hy hk
      go_wp2_with fail
      go_ret
      exact ⟨y, rfl, HYN.out, HE.out, HK.out.1, HKE.out⟩
end Go.Proofs.YtdjgjffgheocfaaGreat
