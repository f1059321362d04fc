/- ScanTies, called with anything, returns true: the walk. -/
import Derived.Test.YtdlmjjlejkkniaaGreatLatest
namespace Go.Proofs.YtdlmjjlejkkniaaGreat
open Go.RowKit

theorem tiesat_lit (p l s : Int) (w : World) :
    Calls Tryz.prog 22 #[.int .i64 p, .int .i64 l, .int .i64 s] w fun e w' => e = .returned (.agg #[.int .i64 p, .int .i64 1, .int .i64 l, .int .i64 s, .int .i64 0]) ∧ Keep (fun _ => False) w w' := tiesat_any p l s w
theorem latest_none (c : Nat) (w : World) :
    Calls Tryz.prog 20 #[.slice none 0 c] w fun e w' => e = .returned (.slice none 0 0) ∧ Keep (fun _ => False) w w' := by
  have hcl : Calls Tryz.prog 48 #[.slice none 0 c] w fun e w' => e = .returned (.slice none 0 0) ∧ w' = w := by
    have q := fun (w : World) (a : Option Addr) (n c n' c' : Nat) => Lib.run_eql_slice_nil (P := Tryz.prog) w 42 52 a n c n' c' Tryz.underlying42
    go_enter Tryz.func48, Tryz.ntmps48
    go_wp2_with fail
    go_ret
    exact ⟨rfl, rfl⟩
  go_enter Tryz.func20, Tryz.ntmps20
  go_wp2_with fail
  refine hcl.mono ?_
  rintro e w1 ⟨rfl, rfl⟩
  go_wp2_with fail
  refine (stable_nil 0 _).mono ?_
  rintro e w1 ⟨rfl, rfl⟩
  go_wp2_with fail
  refine (compact_small none 0 0 _ (by omega)).mono ?_
  rintro e w1 ⟨rfl, rfl⟩
  go_wp2_with fail
  go_ret
  exact ⟨rfl, Keep.refl _ _⟩
/-- The five. -/
def tiF (i : Nat) : FoundE := if i = 0 then ⟨9, 1, 2, 5, 0⟩ else if i = 1 then ⟨3, 1, 2, 5, 0⟩ else if i = 2 then ⟨4, 1, 2, 4, 0⟩ else if i = 3 then ⟨1, 1, 0, 7, 0⟩ else ⟨7, 1, 0, 8, 0⟩
theorem ti_row {w : World} {g : Nat} (b : Blk w g 52 #[.int .i64 9, .int .i64 1, .int .i64 2, .int .i64 5, .int .i64 0, .int .i64 3, .int .i64 1, .int .i64 2, .int .i64 5, .int .i64 0, .int .i64 4, .int .i64 1, .int .i64 2, .int .i64 4, .int .i64 0, .int .i64 1, .int .i64 1, .int .i64 0, .int .i64 7, .int .i64 0, .int .i64 7, .int .i64 1, .int .i64 0, .int .i64 8, .int .i64 0]) : RowW w 52 5 g 5 5 (fdG tiF) := by
  refine ⟨_, b, rfl, Nat.le_refl _, fun q hq => ?_⟩
  match q, hq with
      | 0, _ => rfl
      | 1, _ => rfl
      | 2, _ => rfl
      | 3, _ => rfl
      | 4, _ => rfl
      | 5, _ => rfl
      | 6, _ => rfl
      | 7, _ => rfl
      | 8, _ => rfl
      | 9, _ => rfl
      | 10, _ => rfl
      | 11, _ => rfl
      | 12, _ => rfl
      | 13, _ => rfl
      | 14, _ => rfl
      | 15, _ => rfl
      | 16, _ => rfl
      | 17, _ => rfl
      | 18, _ => rfl
      | 19, _ => rfl
      | 20, _ => rfl
      | 21, _ => rfl
      | 22, _ => rfl
      | 23, _ => rfl
      | 24, _ => rfl
      | q + 25, h => omega
/-- .. in order. -/
def tiS (i : Nat) : Nat := if i = 0 then 4 else if i = 1 then 3 else if i = 2 then 1 else if i = 3 then 0 else if i = 4 then 2 else i
def tiT (i : Nat) : Nat := if i = 0 then 3 else if i = 1 then 2 else if i = 2 then 4 else if i = 3 then 1 else if i = 4 then 0 else i
theorem ti_perm : PermOn 0 5 tiF (fun i => tiF (tiS i)) := by
  refine ⟨tiS, tiT, fun i => ?_, fun i => ?_, fun i hi => ?_, fun _ => rfl⟩
  · match i with
    | 0 => rfl
    | 1 => rfl
    | 2 => rfl
    | 3 => rfl
    | 4 => rfl
    | _ + 5 => rfl
  · match i with
    | 0 => rfl
    | 1 => rfl
    | 2 => rfl
    | 3 => rfl
    | 4 => rfl
    | _ + 5 => rfl
  · match i, hi with
    | 0, h => omega
    | 1, h => omega
    | 2, h => omega
    | 3, h => omega
    | 4, h => omega
    | _ + 5, _ => rfl
theorem ti_srt : Srt leC (fun i => tiF (tiS i)) 0 5 := by
  have h : ∀ i, i < 5 → ∀ j, j < 5 → i < j → keyC (tiF (tiS i)) (tiF (tiS j)) ≤ 0 := by decide
  exact fun _ j _ h2 h3 => h _ (by omega) j h3 h2
theorem ti_flat : ∀ i, (tiF i).k = 1 ∧ (tiF i).m = 0
  | 0 => ⟨rfl, rfl⟩
  | 1 => ⟨rfl, rfl⟩
  | 2 => ⟨rfl, rfl⟩
  | 3 => ⟨rfl, rfl⟩
  | _ + 4 => ⟨rfl, rfl⟩
theorem ti_end {h : Nat → FoundE} (p : PermOn 0 5 tiF h) (s : Srt leC h 0 5) : cmpN h 5 = 2 ∧ cmpG h 5 0 = ⟨7, 1, 0, 8, 0⟩ ∧ cmpG h 5 1 = ⟨3, 1, 2, 5, 0⟩ := by
  have he : ∀ i, i < 5 → h i = tiF (tiS i) := fun i hi => by
    have h1 := srt_one (p.symm.trans ti_perm) s ti_srt hi
    obtain ⟨j, _, _, h2⟩ := p.from (Nat.zero_le i) hi
    have h3 := ti_flat j
    have h4 := ti_flat (tiS i)
    rw [← h2] at h3
    have : ∀ x y : FoundE, x.l = y.l → x.s = y.s → x.p = y.p → x.k = y.k → x.m = y.m → x = y := fun x y a b c d e => by cases x; cases y; simp_all
    exact this _ _ h1.1 h1.2.1 h1.2.2 (by rw [h3.1, h4.1]) (by rw [h3.2, h4.2])
  obtain ⟨h1, h2⟩ := cmp_congr 5 he
  rw [h1, h2 0 (by omega), h2 1 (by omega)]
  decide
set_option maxRecDepth 100000 in
set_option maxHeartbeats 2000000 in
theorem ties18_true (w : World) : Calls Tryz.prog 6 #[] w fun e w' => e = .returned (.bool true) ∧ Keep (fun _ => False) w w' := by
  go_enter Tryz.func6, Tryz.ntmps6
  go_wp2_with fail
  refine (awake18_true w).mono ?_
  rintro e w1 ⟨rfl, k1⟩
  have K1 := Lib.hid k1
  clear k1
  go_wp2_with fail
  refine (tiesat_lit 9 2 5 w1).mono ?_
  rintro e w2 ⟨rfl, k⟩
  have K2 := Lib.hid (K1.out.comp k)
  clear k K1
  go_wp2_with fail
  refine (tiesat_lit 3 2 5 w2).mono ?_
  rintro e w3 ⟨rfl, k⟩
  have K3 := Lib.hid (K2.out.comp k)
  clear k K2
  go_wp2_with fail
  refine (tiesat_lit 4 2 4 w3).mono ?_
  rintro e w4 ⟨rfl, k⟩
  have K4 := Lib.hid (K3.out.comp k)
  clear k K3
  go_wp2_with fail
  refine (tiesat_lit 1 0 7 w4).mono ?_
  rintro e w5 ⟨rfl, k⟩
  have K5 := Lib.hid (K4.out.comp k)
  clear k K4
  go_wp2_with fail
  refine (tiesat_lit 7 0 8 w5).mono ?_
  rintro e w6 ⟨rfl, k⟩
  have K6 := Lib.hid (K5.out.comp k)
  clear k K5
  go_wp2_with fail
  have K7 := Lib.hid (K6.out.alloc (.cells #[.int .i64 9, .int .i64 1, .int .i64 2, .int .i64 5, .int .i64 0, .int .i64 3, .int .i64 1, .int .i64 2, .int .i64 5, .int .i64 0, .int .i64 4, .int .i64 1, .int .i64 2, .int .i64 4, .int .i64 0, .int .i64 1, .int .i64 1, .int .i64 0, .int .i64 7, .int .i64 0, .int .i64 7, .int .i64 1, .int .i64 0, .int .i64 8, .int .i64 0] 52))
  have hL := Lib.hid (latest_all (some ⟨w6.heap.size, 0, none⟩) 5 5 tiF _ (ti_row (Blk.new w6 52 #[.int .i64 9, .int .i64 1, .int .i64 2, .int .i64 5, .int .i64 0, .int .i64 3, .int .i64 1, .int .i64 2, .int .i64 5, .int .i64 0, .int .i64 4, .int .i64 1, .int .i64 2, .int .i64 4, .int .i64 0, .int .i64 1, .int .i64 1, .int .i64 0, .int .i64 7, .int .i64 0, .int .i64 7, .int .i64 1, .int .i64 0, .int .i64 8, .int .i64 0])).arg (by omega))
  clear K6
  refine hL.out.mono ?_
  rintro e w8 ⟨a', c', h, rfl, ho, hp, hs, k8⟩
  have K8 := Lib.hid (K7.out.comp k8)
  obtain ⟨t1, t2, t3⟩ := ti_end hp hs
  rw [t1] at ho ⊢
  generalize cmpG h 5 = r at *
  obtain ⟨gR, rfl, _, _, hr⟩ := ho.row (by omega)
  obtain ⟨f0, f1, f2, f3, f4⟩ := ArgW.five hr (show 0 < 2 by omega)
  obtain ⟨d0, d1, d2, d3, d4⟩ := ArgW.five hr (show 1 < 2 by omega)
  rw [t2] at f0 f1 f2 f3 f4
  rw [t3] at d0 d1 d2 d3 d4
  have hg : grS r 2 = 8 := by simp [grS, t2, t3]
  have HG : Hid (∀ p : KeptBy w8, Calls Tryz.prog 21 #[.slice (some ⟨gR, 0, none⟩) 2 c'] p.v fun e w' => e = .returned (.int .i64 8) ∧ Keep (fun _ => False) p.v w') := Lib.hid (fun (p : KeptBy w8) => by have := greatest_any (some ⟨gR, 0, none⟩) 2 c' r p.v ((hr.keep p.h (by simp)).arg) (by omega); rwa [hg] at this)
  have HN : Hid (∀ p : KeptBy w8, Calls Tryz.prog 21 #[.slice none 0 0] p.v fun e w' => e = .returned (.int .i64 (-1)) ∧ Keep (fun _ => False) p.v w') := Lib.hid (fun (p : KeptBy w8) => greatest_any none 0 0 r p.v (ArgW.nil _ _ _) (by omega))
  have u0 : ∀ p : KeptBy w8, p.v.cell? ⟨gR, 0, none⟩ = some (.int .i64 7) := fun p => p.cell hr.lt f0
  have u1 : ∀ p : KeptBy w8, p.v.cell? ⟨gR, 1, none⟩ = some (.int .i64 1) := fun p => p.cell hr.lt f1
  have u2 : ∀ p : KeptBy w8, p.v.cell? ⟨gR, 2, none⟩ = some (.int .i64 0) := fun p => p.cell hr.lt f2
  have u3 : ∀ p : KeptBy w8, p.v.cell? ⟨gR, 3, none⟩ = some (.int .i64 8) := fun p => p.cell hr.lt f3
  have u4 : ∀ p : KeptBy w8, p.v.cell? ⟨gR, 4, none⟩ = some (.int .i64 0) := fun p => p.cell hr.lt f4
  have v0 : ∀ p : KeptBy w8, p.v.cell? ⟨gR, 5, none⟩ = some (.int .i64 3) := fun p => p.cell hr.lt d0
  have v1 : ∀ p : KeptBy w8, p.v.cell? ⟨gR, 6, none⟩ = some (.int .i64 1) := fun p => p.cell hr.lt d1
  have v2 : ∀ p : KeptBy w8, p.v.cell? ⟨gR, 7, none⟩ = some (.int .i64 2) := fun p => p.cell hr.lt d2
  have v3 : ∀ p : KeptBy w8, p.v.cell? ⟨gR, 8, none⟩ = some (.int .i64 5) := fun p => p.cell hr.lt d3
  have v4 : ∀ p : KeptBy w8, p.v.cell? ⟨gR, 9, none⟩ = some (.int .i64 0) := fun p => p.cell hr.lt d4
  clear f0 f1 f2 f3 f4 d0 d1 d2 d3 d4 hr ho hp hs k8 K7 hL t1 t2 t3 hg
  go_upto_region 5 with (fail)
  refine wp_region_kept (by kernel_rfl) (by kernel_rfl) ?_
  repeat (go_big_quiet_step (first
    | (go_at_call 22; exact kept_of (tiesat_lit _ _ _ _))
    | (go_at_call 21; with_reducible exact kept_of (HG.out _))
    | (go_at_call 21; with_reducible exact kept_of (HN.out _))
    | (go_at_call 20; exact kept_of (latest_none _ _))))
  refine wpQuiet_nil ?_
  rintro w9 ⟨⟨_, k9⟩, rfl⟩
  have K9 := Lib.hid (K8.out.comp k9)
  clear u0 u1 u2 u3 u4 v0 v1 v2 v3 v4 k9 K8
  go_wp2_with fail
  go_ret
  exact ⟨rfl, K9.out⟩
end Go.Proofs.YtdlmjjlejkkniaaGreat
