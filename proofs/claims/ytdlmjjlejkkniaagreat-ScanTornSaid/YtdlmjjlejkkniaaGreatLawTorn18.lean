/- blackboardlaw18.ScanTorn: a page that was torn is there wholly, or is counted as one that cannot be read, or is blank. -/
import Derived.Test.YtdlmjjlejkkniaaGreatScan
namespace Go.Proofs.YtdlmjjlejkkniaaGreat
open Go.RowKit

theorem cntR_tn {k W r : Nat} (hW : 1 ≤ W) (hW4 : W ≤ 4) (hr : r < W) : ∀ n, cntR (tnB k) W r n = if n ≤ k then 0 else (n + (W - 1 - r)) / W - (k + (W - 1 - r)) / W
  | 0 => by rw [if_pos (Nat.zero_le _)]; rfl
  | n + 1 => by
    have ih := cntR_tn (k := k) hW hW4 hr n
    unfold cntR
    rw [ih]
    have e : (tnB k n = true ∧ n % W = r) ↔ (k ≤ n ∧ n % W = r) := by unfold tnB; rw [decide_eq_true_iff]
    simp only [e]
    obtain rfl | rfl | rfl | rfl : W = 1 ∨ W = 2 ∨ W = 3 ∨ W = 4 := by omega
    · obtain rfl : r = 0 := by omega
      split <;> split <;> split <;> omega
    · obtain rfl | rfl : r = 0 ∨ r = 1 := by omega
      · split <;> split <;> split <;> omega
      · split <;> split <;> split <;> omega
    · obtain rfl | rfl | rfl : r = 0 ∨ r = 1 ∨ r = 2 := by omega
      · split <;> split <;> split <;> omega
      · split <;> split <;> split <;> omega
      · split <;> split <;> split <;> omega
    · obtain rfl | rfl | rfl | rfl : r = 0 ∨ r = 1 ∨ r = 2 ∨ r = 3 := by omega
      · split <;> split <;> split <;> omega
      · split <;> split <;> split <;> omega
      · split <;> split <;> split <;> omega
      · split <;> split <;> split <;> omega
theorem mostJ_worst {k W N : Nat} (hW : 1 ≤ W) (hW4 : W ≤ 4) (hk : k ≤ W * N) : mostJ (tnB k) W (W * N) = (W * N - k + W - 1) / W := by
  rw [mostJ_eq hW]
  have hd : ∀ s, s < W → (W * N + s) / W = N := fun s hs => by rw [Nat.mul_add_div hW, Nat.div_eq_of_lt hs, Nat.add_zero]
  have hle : ∀ r, r < W → cntR (tnB k) W r (W * N) ≤ (W * N - k + W - 1) / W := fun r hr => by
    rw [cntR_tn hW hW4 hr]
    split
    · exact Nat.zero_le _
    · rw [hd _ (by omega)]
      obtain rfl | rfl | rfl | rfl : W = 1 ∨ W = 2 ∨ W = 3 ∨ W = 4 := by omega
      all_goals omega
  refine Nat.le_antisymm (mostN_le hle) ?_
  refine Nat.le_trans ?_ (mostN_ge (f := fun r => cntR (tnB k) W r (W * N)) (show W - 1 < W by omega))
  rw [cntR_tn hW hW4 (by omega)]
  split
  · rename_i h
    have : k = W * N := by omega
    subst this
    obtain rfl | rfl | rfl | rfl : W = 1 ∨ W = 2 ∨ W = 3 ∨ W = 4 := by omega
    all_goals omega
  · rw [hd _ (by omega)]
    obtain rfl | rfl | rfl | rfl : W = 1 ∨ W = 2 ∨ W = 3 ∨ W = 4 := by omega
    all_goals omega
/-- Two pages, the others blank. -/
def twoR (a b : RdO) : Nat → RdO := fun j => if j = 0 then a else if j = 1 then b else .blank
theorem twoR_far (a b : RdO) (at_ : Nat → Int) : ∀ t, usedR (twoR a b) (2 + t) = usedR (twoR a b) 2 ∧ tornR (twoR a b) (2 + t) = tornR (twoR a b) 2 ∧ cntF (twoR a b) (2 + t) = cntF (twoR a b) 2 ∧ foundR (twoR a b) at_ (2 + t) = foundR (twoR a b) at_ 2
  | 0 => ⟨rfl, rfl, rfl, rfl⟩
  | t + 1 => by
    obtain ⟨h1, h2, h3, h4⟩ := twoR_far a b at_ t
    have e : twoR a b (2 + t) = .blank := by unfold twoR; rw [if_neg (by omega), if_neg (by omega)]
    refine ⟨?_, ?_, ?_, ?_⟩
    · show usedR (twoR a b) ((2 + t) + 1) = _
      unfold usedR
      rw [e]
      exact h1
    · show tornR (twoR a b) ((2 + t) + 1) = _
      unfold tornR
      rw [e]
      exact h2
    · show cntF (twoR a b) ((2 + t) + 1) = _
      unfold cntF
      rw [e]
      exact h3
    · show foundR (twoR a b) at_ ((2 + t) + 1) = _
      unfold foundR
      rw [e]
      exact h4
theorem twoR_blank (k l s : Int) (m : Nat) : usedR (twoR (.found k l s m) .blank) 2 = 1 ∧ tornR (twoR (.found k l s m) .blank) 2 = 0 ∧ cntF (twoR (.found k l s m) .blank) 2 = 1 := ⟨rfl, rfl, rfl⟩
theorem twoR_torn (k l s : Int) (m : Nat) : usedR (twoR (.found k l s m) .torn) 2 = 2 ∧ tornR (twoR (.found k l s m) .torn) 2 = 1 ∧ cntF (twoR (.found k l s m) .torn) 2 = 1 := ⟨rfl, rfl, rfl⟩
theorem twoR_found (k l s : Int) (m : Nat) (k' l' s' : Int) (m' : Nat) : usedR (twoR (.found k l s m) (.found k' l' s' m')) 2 = 2 ∧ tornR (twoR (.found k l s m) (.found k' l' s' m')) 2 = 0 ∧ cntF (twoR (.found k l s m) (.found k' l' s' m')) 2 = 2 := ⟨rfl, rfl, rfl⟩
theorem twoR_f0 (k l s : Int) (m : Nat) (b : RdO) (at_ : Nat → Int) : foundR (twoR (.found k l s m) b) at_ 2 0 = ⟨at_ 0, k, l, s, m⟩ := by
  cases b <;> rfl
theorem twoR_f1 (k l s : Int) (m : Nat) (k' l' s' : Int) (m' : Nat) (at_ : Nat → Int) : foundR (twoR (.found k l s m) (.found k' l' s' m')) at_ 2 1 = ⟨at_ 1, k', l', s', m'⟩ := rfl
/-- A full page. -/
theorem progO_full {W K k l s : Nat} (hW : 0 < W) : progO W K k l s (W * (K + 16)) = .found k l s 0 := by
  unfold progO
  have h : 0 < W * (K + 16) := Nat.mul_pos hW (by omega)
  rw [if_neg (by omega), tn_start_most (Nat.le_refl _), if_pos (Nat.zero_le _)]
theorem keepN_full (n : Nat) : keepN n n = n := by unfold keepN; omega
theorem keepN_nat (k n : Nat) : keepN k n = min k n := by unfold keepN; omega
end Go.Proofs.YtdlmjjlejkkniaaGreat

namespace Go.Proofs.YtdlmjjlejkkniaaGreat
open Go.RowKit

def tkF (kk : Nat) : Int → Option Value := fatF (fun _ => 1) (fun _ => 2) (fun _ => (kk : Int)) 1
theorem tkF_at (kk : Nat) (t : Int) : tkF kk t = if t = 1 then some (fateV 1 2 kk) else none := rfl
def tkC (B P W K kk : Nat) : ChipS := ChipS.new B P W K (fun _ => false) (tkF kk)
def tkC1 (B P W K kk m : Nat) (S2 : Nat → Nat) : ChipS := (tkC B P W K kk).tick.setPg 0 0 (PgS.prog S2 m m)
def tkC2 (B P W K kk m : Nat) (S2 S1 : Nat → Nat) : ChipS := (tkC1 B P W K kk m S2).tick.setPg 0 1 (PgS.prog S1 kk m)
section
variable {B P W K kk m : Nat} {S1 S2 : Nat → Nat} {num : CR → Nat}
theorem torn_new (w : World) (hg : GeoOk (B : Int) P W K) (g : Nat) (b : Blk w g 39 #[.int .i64 1, .int .i64 2, .int .i64 kk]) :
    Calls Tryz.prog 13 #[geoV B P W K, .slice none 0 0, .slice (some ⟨g, 0, none⟩) 1 1] w fun e w' => ∃ num : CR → Nat, e = .returned (.tuple #[.pointer (some ⟨num .chip, 0, none⟩), .int .i64 0]) ∧ ChipM num w' (tkC B P W K kk) ∧ Keep (fun _ => False) w w' ∧ ∀ k, Own num (tkC B P W K kk) k → w.heap.size ≤ k := by
  refine (chipnew_yes B P W K none 0 0 (fun _ => 0) (some ⟨g, 0, none⟩) 1 1 (fun _ => 1) (fun _ => 2) (fun _ => (kk : Int)) w hg (by omega) (ArgV.nil _ _) (fun i hi => by omega) ⟨fun _ => ⟨g, 0, rfl, b.lt, fun i hi => ?_⟩⟩ (by omega) (fun i hi => ⟨by omega, by omega, .inr rfl, by omega⟩) rfl).mono ?_
  · obtain rfl : i = 0 := by omega
    exact fate_cells b
  · rintro e w' ⟨num, he, hm, hk, hlo⟩
    exact ⟨num, he, hm, hk, fun k ⟨r, hr, e⟩ => by rw [← e]; exact hlo r hr⟩
theorem torn_p1 (w : World) (hmm : m = W * (K + 16)) (hm : ChipM num w (tkC B P W K kk)) (g cS : Nat) (ha : ArgU w (some ⟨g, 0, none⟩) m S2) (hlt : ∀ i, i < m → S2 i < 1024) (hno : ¬ Own num (tkC B P W K kk) g) :
    Calls Tryz.prog 14 #[.pointer (some ⟨num .chip, 0, none⟩), .int .i64 0, .int .i64 0, .slice (some ⟨g, 0, none⟩) m cS] w fun e w' => ∃ num2 : CR → Nat, e = .returned (.int .i64 0) ∧ ChipM num2 w' (tkC1 B P W K kk m S2) ∧ num2 .chip = num .chip ∧ Keep (Own num (tkC B P W K kk)) w w' ∧
      ∀ k, Own num2 (tkC1 B P W K kk m S2) k → Own num (tkC B P W K kk) k ∨ w.heap.size ≤ k := by
  have hB : 0 < B := by have := hm.geo.b0; have e : (tkC B P W K kk).B = B := rfl; rw [e] at this; omega
  have hP : 0 < P := by have := hm.geo.p0; have e : (tkC B P W K kk).P = P := rfl; rw [e] at this; omega
  have hn : (tkC B P W K kk).n = m := hmm.symm
  have h := program_yes num (tkC B P W K kk) w hm rfl (by show (0 : Nat) < 1099511627776; omega) 0 0 0 (by show (tkF kk ((0 : Nat) : Int)).getD _ = _; rw [tkF_at, if_neg (by decide)]; rfl) (by decide) 0 0 ⟨g, 0, none⟩ cS S2
    ⟨hB, hP, by rw [hn]; exact hlt, rfl, rfl, fun t _ _ => rfl, .inl rfl⟩ (by rw [hn]; exact ha) hno
  rw [hn] at h
  refine h.mono ?_
  rintro e w' ⟨e2, num2, C2, ⟨rfl, rfl⟩, rfl, hm2, hn2, hk, ho⟩
  rw [hn, show keptI 0 0 m = (m : Int) from rfl] at hm2 ho
  exact ⟨num2, rfl, hm2, hn2, hk, fun k ⟨r, hr, e⟩ => by rw [← e]; exact ho r hr⟩
theorem tkC1_00 : (tkC1 B P W K kk m S2).pg 0 0 = PgS.prog S2 m m := by
  unfold tkC1
  generalize PgS.prog S2 m m = Q
  rfl
theorem tkC1_far {t : Nat} (h : 0 < t) : (tkC1 B P W K kk m S2).pg 0 t = PgS.blank := by
  unfold tkC1
  generalize PgS.prog S2 m m = Q
  show (if 0 = 0 ∧ t = 0 then Q else PgS.blank) = _
  rw [if_neg (by omega)]
theorem prog_st (S : Nat → Nat) (h : 0 < m) : (PgS.prog S m m).st = 1 := by
  show (if (m : Int) ≤ 0 then 0 else if (m : Int) ≤ m then 1 else 2) = 1
  rw [if_neg (by omega), if_pos (by omega)]
theorem torn_p2 (w : World) (hmm : m = W * (K + 16)) (hm0 : 0 < m) (hm : ChipM num w (tkC1 B P W K kk m S2)) (g cS : Nat) (ha : ArgU w (some ⟨g, 0, none⟩) m S1) (hlt : ∀ i, i < m → S1 i < 1024) (hno : ¬ Own num (tkC1 B P W K kk m S2) g) :
    Calls Tryz.prog 14 #[.pointer (some ⟨num .chip, 0, none⟩), .int .i64 0, .int .i64 1, .slice (some ⟨g, 0, none⟩) m cS] w fun e w' => ∃ num2 : CR → Nat, e = .returned (.int .i64 8) ∧ ChipM num2 w' { tkC2 B P W K kk m S2 S1 with dark := true } ∧ num2 .chip = num .chip ∧ Keep (Own num (tkC1 B P W K kk m S2)) w w' ∧
      ∀ k, Own num2 (tkC2 B P W K kk m S2 S1) k → Own num (tkC1 B P W K kk m S2) k ∨ w.heap.size ≤ k := by
  have hB : 0 < B := by have := hm.geo.b0; have e : (tkC1 B P W K kk m S2).B = B := rfl; rw [e] at this; omega
  have hP : 1 < P := by have := hm.geo.p0; have e : (tkC1 B P W K kk m S2).P = P := rfl; rw [e] at this; omega
  have hn : (tkC1 B P W K kk m S2).n = m := hmm.symm
  have h := program_yes num (tkC1 B P W K kk m S2) w hm rfl (by show (1 : Nat) < 1099511627776; omega) 1 2 kk (by show (tkF kk ((1 : Nat) : Int)).getD _ = _; rw [tkF_at, if_pos (by decide)]; rfl) (by decide) 0 1 ⟨g, 0, none⟩ cS S1
    ⟨hB, hP, by rw [hn]; exact hlt, rfl, rfl, fun t h1 _ => by rw [tkC1_far (by omega)]; rfl, .inr (by rw [tkC1_00, prog_st S2 hm0]; decide)⟩ (by rw [hn]; exact ha) hno
  rw [hn] at h
  refine h.mono ?_
  rintro e w' ⟨e2, num2, C2, ⟨rfl, rfl⟩, rfl, hm2, hn2, hk, ho⟩
  rw [hn, show keptI 2 kk m = (kk : Int) from rfl] at hm2 ho
  exact ⟨num2, rfl, hm2, hn2, hk, fun k ⟨r, hr, e⟩ => by rw [← e]; exact ho r hr⟩
theorem tkC2_00 : (tkC2 B P W K kk m S2 S1).pg 0 0 = PgS.prog S2 m m := by
  unfold tkC2
  rw [← tkC1_00 (B := B) (P := P) (W := W) (K := K) (kk := kk) (m := m) (S2 := S2)]
  generalize PgS.prog S1 kk m = Q
  rfl
theorem tkC2_01 : (tkC2 B P W K kk m S2 S1).pg 0 1 = PgS.prog S1 kk m := by
  unfold tkC2
  generalize PgS.prog S1 kk m = Q
  rfl
theorem tkC2_far {t : Nat} (h : 1 < t) : (tkC2 B P W K kk m S2 S1).pg 0 t = PgS.blank := by
  rw [← tkC1_far (B := B) (P := P) (W := W) (K := K) (kk := kk) (m := m) (S2 := S2) (t := t) (by omega)]
  unfold tkC2
  generalize PgS.prog S1 kk m = Q
  show (if 0 = 0 ∧ t = 1 then Q else (tkC1 B P W K kk m S2).tick.pg 0 t) = _
  rw [if_neg (by omega)]
  rfl
def tkR (W K kp kk m : Nat) : Nat → RdO := twoR (.found 2 1 3 0) (progO W K 1 4 kp (min kk m))
theorem tk_reads {kp : Nat} (hr2 : Reads (tnX S2 m) (tnY S2 m) W K (.found 2 1 3 0)) (hr1 : ∀ q, Reads (tnX S1 q) (tnY S1 q) W K (progO W K 1 4 kp q)) (j : Nat) : Reads ((tkC2 B P W K kk m S2 S1).pg 0 j).x ((tkC2 B P W K kk m S2 S1).pg 0 j).y W K (tkR W K kp kk m j) := by
  match j with
  | 0 =>
    rw [tkC2_00, (prog_pts S2 m m).1, (prog_pts S2 m m).2, keepN_full]
    exact hr2
  | 1 =>
    rw [tkC2_01, (prog_pts S1 kk m).1, (prog_pts S1 kk m).2, keepN_nat]
    exact hr1 _
  | j + 2 =>
    rw [tkC2_far (by omega), show tkR W K kp kk m (j + 2) = .blank from by unfold tkR twoR; rw [if_neg (by omega), if_neg (by omega)]]
    exact blank_reads W K
theorem tk_pm (j q : Nat) : Pm (((tkC2 B P W K kk m S2 S1).pg 0 j).x q) ∧ Pm (((tkC2 B P W K kk m S2 S1).pg 0 j).y q) := by
  match j with
  | 0 =>
    rw [tkC2_00, (prog_pts S2 m m).1, (prog_pts S2 m m).2]
    exact tn_pm S2 _ q
  | 1 =>
    rw [tkC2_01, (prog_pts S1 kk m).1, (prog_pts S1 kk m).2]
    exact tn_pm S1 _ q
  | j + 2 =>
    rw [tkC2_far (by omega)]
    exact ⟨(by unfold Pm; decide : Pm 0), (by unfold Pm; decide : Pm 0)⟩
theorem torn_scan {kp : Nat} (w w0 : World) (t1 t2 : Nat) (hm : ChipM num w (tkC2 B P W K kk m S2 S1)) (hm0 : ChipM num w0 (tkC2 B P W K kk m S2 S1)) (T : Tab w t1 t2) (h1 : w0.heap.size ≤ t1) (h2 : w0.heap.size ≤ t2)
    (hr2 : Reads (tnX S2 m) (tnY S2 m) W K (.found 2 1 3 0)) (hr1 : ∀ q, Reads (tnX S1 q) (tnY S1 q) W K (progO W K 1 4 kp q)) :
    Calls Tryz.prog 16 #[tabV t1 t2, .pointer (some ⟨num .chip, 0, none⟩), .int .i64 0] w fun e w' => ∃ a c, e = .returned (.tuple #[.agg #[.slice a (cntF (tkR W K kp kk m) 2) c, .int .i64 (usedR (tkR W K kp kk m) 2 : Nat), .int .i64 (tornR (tkR W K kp kk m) 2 : Nat)], .int .i64 0]) ∧
      OwnF w' w.heap.size a (cntF (tkR W K kp kk m) 2) c (foundR (tkR W K kp kk m) (fun j => (j : Nat)) 2) ∧ Keep (Own num (tkC2 B P W K kk m S2 S1)) w w' := by
  have hB : 0 < B := by have := hm.geo.b0; have e : (tkC2 B P W K kk m S2 S1).B = B := rfl; rw [e] at this; omega
  have hP : 2 ≤ P := by have := hm.geo.p0; have e : (tkC2 B P W K kk m S2 S1).P = P := rfl; rw [e] at this; omega
  refine (block_any _ num (tkC2 B P W K kk m S2 S1) w hm T.has (tab_apart hm0 T h1 h2) rfl (by show (2 : Nat) < 549755813888; omega) (fun t _ => ?_) 0 hB (tkR W K kp kk m) (fun j _ => tk_reads hr2 hr1 j) (fun j _ q _ => tk_pm j q)).mono ?_
  · show tkF kk ((2 + t : Nat) : Int) = none
    rw [tkF_at, if_neg (by omega)]
  · rintro e w' ⟨a, c, he, ho, _, hk⟩
    have eP : (tkC2 B P W K kk m S2 S1).P = P := rfl
    have ea : (fun j => ((0 * P + j : Nat) : Int)) = fun j => ((j : Nat) : Int) := by funext j; rw [Nat.zero_mul, Nat.zero_add]
    rw [eP] at he ho
    rw [ea] at ho
    obtain ⟨t, rfl⟩ : ∃ t, P = 2 + t := ⟨P - 2, by omega⟩
    obtain ⟨f1, f2, f3, f4⟩ := twoR_far (.found 2 1 3 0) (progO W K 1 4 kp (min kk m)) (fun j => ((j : Nat) : Int)) t
    change usedR (tkR W K kp kk m) _ = usedR (tkR W K kp kk m) 2 at f1
    change tornR (tkR W K kp kk m) _ = tornR (tkR W K kp kk m) 2 at f2
    change cntF (tkR W K kp kk m) _ = cntF (tkR W K kp kk m) 2 at f3
    change foundR (tkR W K kp kk m) _ _ = foundR (tkR W K kp kk m) _ 2 at f4
    rw [f1, f2, f3] at he
    rw [f3, f4] at ho
    exact ⟨a, c, he, ho, hk⟩
/-- What the scan says of it. -/
theorem tk_all {W K kp kk m worst : Nat} (hmm : m = W * (K + 16)) (hW : 1 ≤ W) (hW4 : W ≤ 4) (hw : worst = (m - min kk m + W - 1) / W) :
    ∃ (u t q : Nat) (f : Nat → FoundE), usedR (tkR W K kp kk m) 2 = u ∧ tornR (tkR W K kp kk m) 2 = t ∧ cntF (tkR W K kp kk m) 2 = q ∧ foundR (tkR W K kp kk m) (fun j => ((j : Nat) : Int)) 2 = f ∧ 1 ≤ q ∧ q ≤ 2 ∧ f 0 = ⟨0, 2, 1, 3, 0⟩ ∧
      (kk = 0 → u = 1 ∧ t = 0 ∧ q = 1) ∧ (kk ≠ 0 → 8 < worst → u = 2 ∧ t = 1 ∧ q = 1) ∧ (kk ≠ 0 → worst ≤ 8 → u = 2 ∧ t = 0 ∧ q = 2 ∧ f 1 = ⟨1, 1, 4, kp, worst⟩) := by
  have hm0 : 0 < m := by rw [hmm]; exact Nat.mul_pos hW (by omega)
  have hmj : mostJ (tnB (min kk m)) W (W * (K + 16)) = worst := by
    rw [hw, hmm]
    exact mostJ_worst hW hW4 (Nat.min_le_right _ _)
  have hp : progO W K 1 4 kp (min kk m) = if kk = 0 then .blank else if worst ≤ 8 then .found 1 4 kp worst else .torn := by
    unfold progO
    rw [hmj]
    by_cases h : kk = 0
    · rw [if_pos (by omega), if_pos h]
    · rw [if_neg (by omega), if_neg h]
      rfl
  unfold tkR
  rw [hp]
  by_cases h : kk = 0
  · rw [if_pos h]
    obtain ⟨h1, h2, h3⟩ := twoR_blank 2 1 3 0
    exact ⟨_, _, _, _, rfl, rfl, rfl, rfl, by omega, by omega, twoR_f0 2 1 3 0 _ _, fun _ => ⟨h1, h2, h3⟩, fun e => absurd h e, fun e => absurd h e⟩
  · rw [if_neg h]
    by_cases h8 : worst ≤ 8
    · rw [if_pos h8]
      obtain ⟨h1, h2, h3⟩ := twoR_found 2 1 3 0 1 4 kp worst
      exact ⟨_, _, _, _, rfl, rfl, rfl, rfl, by omega, by omega, twoR_f0 2 1 3 0 _ _, fun e => absurd e h, fun _ e => by omega, fun _ _ => ⟨h1, h2, h3, twoR_f1 2 1 3 0 1 4 kp worst _⟩⟩
    · rw [if_neg h8]
      obtain ⟨h1, h2, h3⟩ := twoR_torn 2 1 3 0
      exact ⟨_, _, _, _, rfl, rfl, rfl, rfl, by omega, by omega, twoR_f0 2 1 3 0 _ _, fun e => absurd e h, fun _ _ => ⟨h1, h2, h3⟩, fun _ e => absurd e h8⟩
end
end Go.Proofs.YtdlmjjlejkkniaaGreat

namespace Go.Proofs.YtdlmjjlejkkniaaGreat
open Go.ChangeShapes Go.WideShapes Go.ChangeAt Go.RowKit

set_option maxRecDepth 100000 in
set_option maxHeartbeats 1600000 in
theorem torn18_true (w : World) (B P W K : Int) (a : Option Addr) (n c : Nat) (d : Nat → Nat) (kp : Nat) (hkp : kp < 65536) (ha : n ≤ 1000000 → ArgV w a n (fun i => .int .u8 (d i : Nat))) (hd : ∀ i, i < n → d i < 256) :
    Calls Tryz.prog 3 #[geoV B P W K, .slice a n c, .int .u16 kp] w fun e w' => e = .returned (.bool true) ∧ Keep (fun _ => False) w w' := by
  have k0 := (Keep.refl (fun _ => False) w).alloc (.cells #[.int .i64 B, .int .i64 P, .int .i64 W, .int .i64 K] 23)
  have b0 := Blk.new w 23 #[.int .i64 B, .int .i64 P, .int .i64 W, .int .i64 K]
  have HA := Lib.hid ha
  have HD := Lib.hid hd
  clear ha hd
  go_enter Tryz.func3, Tryz.ntmps3
  go_wp2_with fail
  refine (awake18_true _).mono ?_
  rintro e w1 ⟨rfl, q1⟩
  have k1 := k0.comp q1
  have b1 := b0.keep q1 (by simp)
  clear b0 k0 q1
  have a0 : w1.cell? ⟨w.heap.size, 0, none⟩ = some (.int .i64 B) := (geo_cells' b1).1
  have a1 : w1.cell? ⟨w.heap.size, 1, none⟩ = some (.int .i64 P) := (geo_cells' b1).2.1
  have a2 : w1.cell? ⟨w.heap.size, 2, none⟩ = some (.int .i64 W) := (geo_cells' b1).2.2.1
  have a3 : w1.cell? ⟨w.heap.size, 3, none⟩ = some (.int .i64 K) := (geo_cells' b1).2.2.2
  have u0 : ∀ p : KeptBy w1, p.v.cell? ⟨w.heap.size, 0, none⟩ = some (.int .i64 B) := fun p => p.cell b1.lt a0
  have u1 : ∀ p : KeptBy w1, p.v.cell? ⟨w.heap.size, 1, none⟩ = some (.int .i64 P) := fun p => p.cell b1.lt a1
  have u2 : ∀ p : KeptBy w1, p.v.cell? ⟨w.heap.size, 2, none⟩ = some (.int .i64 W) := fun p => p.cell b1.lt a2
  have u3 : ∀ p : KeptBy w1, p.v.cell? ⟨w.heap.size, 3, none⟩ = some (.int .i64 K) := fun p => p.cell b1.lt a3
  clear a0 a1 a2 a3
  go_upto_region 3 with (fail)
  by_cases hg : GeoOk B P W K
  rotate_left
  · refine wp_region_kept (by kernel_rfl) (by kernel_rfl) ?_
    repeat (go_big_quiet_step (first | (go_at_call 9; exact kept_of (gmay_no _ _ _ _ _ hg))))
    refine wpQuiet_nil ?_
    rintro w2 ⟨⟨_, k2⟩, rfl⟩
    have kf := k1.comp k2
    clear u0 u1 u2 u3 b1 k1 k2
    go_wp2_with fail
    go_ret
    exact ⟨rfl, kf⟩
  obtain ⟨Bn, rfl⟩ : ∃ X : Nat, B = X := ⟨B.toNat, by have := hg.b0; omega⟩
  obtain ⟨Pn, rfl⟩ : ∃ X : Nat, P = X := ⟨P.toNat, by have := hg.p0; omega⟩
  obtain ⟨Wn, rfl⟩ : ∃ X : Nat, W = X := ⟨W.toNat, by have := hg.w0; omega⟩
  obtain ⟨Kn, rfl⟩ : ∃ X : Nat, K = X := ⟨K.toNat, by have := hg.k0; omega⟩
  obtain ⟨hw0, hw1, hk0, hk1, hwk, hwk2⟩ := geo_nat hg
  obtain ⟨m, hmm⟩ : ∃ m, m = Wn * (Kn + 16) := ⟨_, rfl⟩
  have hmi : (Wn : Int) * ((Kn : Int) + 16) = (m : Int) := by rw [hmm, Int.natCast_mul]; rfl
  have HRC := Lib.hid (fun w => rcells_any (Bn : Int) Pn Wn Kn w hg)
  rw [hmi] at HRC
  have hm320 : m ≤ 320 := by rw [hmm]; exact Nat.mul_le_mul hw1 (show Kn + 16 ≤ 80 by omega)
  have hB64 : Bn ≤ 64 := by have := hg.b1; omega
  have hP32 : Pn ≤ 32 := by have := hg.p1; omega
  obtain ⟨X, hX⟩ : ∃ X, X = Bn * Pn := ⟨_, rfl⟩
  have hX2 : X ≤ 2048 := by rw [hX]; exact Nat.mul_le_mul hB64 hP32
  obtain ⟨Y, hY⟩ : ∃ Y, Y = X * m := ⟨_, rfl⟩
  have hY2 : Y ≤ 655360 := by rw [hY]; exact Nat.mul_le_mul hX2 hm320
  have e1 : IntKind.i64.wrap ((Bn : Int) * (Pn : Int)) = (X : Int) := by rw [hX, ← Int.natCast_mul]; exact wraps_i64 _ (by omega) (by omega)
  have e2 : IntKind.i64.wrap ((X : Int) * (m : Int)) = (Y : Int) := by rw [hY, ← Int.natCast_mul]; exact wraps_i64 _ (by omega) (by omega)
  have HHG := Lib.hid hg
  have HMM := Lib.hid hmm
  clear hmi hX hY hX2 hmm
  by_cases hbig : 6000 < Y ∨ 500 < n
  · by_cases hY6 : 6000 < Y
    · have hd6 : decide ((6000 : Int) < (Y : Int)) = true := decide_eq_true (by omega)
      clear hY2 hg
      refine wp_region_kept (by kernel_rfl) (by kernel_rfl) ?_
      repeat (go_big_quiet_step (first | (go_at_call 9; exact kept_of (gmay_yes _ _ _ _ _ HHG.out)) | (go_at_call 10; exact kept_of (HRC.out _))))
      refine wpQuiet_nil ?_
      rintro w2 ⟨⟨_, k2⟩, rfl⟩
      have kf := k1.comp k2
      clear u0 u1 u2 u3 b1 k1 k2
      go_wp2_with fail
      go_ret
      exact ⟨rfl, kf⟩
    · have hd6 : decide ((6000 : Int) < (Y : Int)) = false := decide_eq_false (by omega)
      have hd5 : decide ((500 : Int) < (n : Int)) = true := decide_eq_true (by omega)
      clear hY2 hg
      refine wp_region_kept (by kernel_rfl) (by kernel_rfl) ?_
      repeat (go_big_quiet_step (first | (go_at_call 9; exact kept_of (gmay_yes _ _ _ _ _ HHG.out)) | (go_at_call 10; exact kept_of (HRC.out _))))
      refine wpQuiet_nil ?_
      rintro w2 ⟨⟨_, k2⟩, rfl⟩
      have kf := k1.comp k2
      clear u0 u1 u2 u3 b1 k1 k2
      go_wp2_with fail
      go_ret
      exact ⟨rfl, kf⟩
  have hd6 : decide ((6000 : Int) < (Y : Int)) = false := decide_eq_false (by omega)
  have hd5 : decide ((500 : Int) < (n : Int)) = false := decide_eq_false (by omega)
  clear hY2 hg
  have hn5 : n ≤ 500 := by omega
  refine wp_region_kept (by kernel_rfl) (by kernel_rfl) ?_
  repeat (go_big_quiet_step (first | (go_at_call 9; exact kept_of (gmay_yes _ _ _ _ _ HHG.out)) | (go_at_call 10; exact kept_of (HRC.out _))))
  refine wpQuiet_nil ?_
  rintro w2 ⟨⟨_, k2⟩, rfl⟩
  have k3 := k1.comp k2
  have b3 := b1.keep k2 (by simp)
  clear u0 u1 u2 u3 b1 k1 k2 e1 e2
  obtain ⟨g0, g1, g2, g3⟩ := geo_cells b3
  go_wp2_with fail
  clear hd6 hd5
  refine (rsize_any (Bn : Int) Pn Wn Kn _ HHG.out).mono ?_
  rintro e w4 ⟨rfl, q4⟩
  have k4 := k3.comp q4
  have b4 := b3.keep q4 (by simp)
  have hz := szB_le HHG.out
  have hz1 := (szB_pk Wn Kn hwk).2
  have hmk := make_by (szB Wn Kn : Nat) (szB Wn Kn) rfl (by omega)
  have q5 := (Keep.refl (fun _ => False) w4).alloc (.cells (valsArr (fun _ => .int .u8 0) (szB Wn Kn)) 5)
  have r5 := Blk.new w4 5 (valsArr (fun _ => .int .u8 0) (szB Wn Kn))
  have HA5 := Lib.hid ((HA.out (by omega)).keep (k4.comp q5))
  clear b3 k3 q4 g0 g1 g2 g3 HA HRC hB64 hP32
  have HMK1 : MarkOk 1 4 kp := ⟨by omega, by omega, by omega, by omega⟩
  have HMK2 : MarkOk 2 1 3 := ⟨by omega, by omega, by omega, by omega⟩
  have HDD := Lib.hid (fun i => padB_lt HD.out i)
  have hm1 : ∀ w a c, ArgV w a (szB Wn Kn) (fun i => .int .u8 (padB d n i : Nat)) → Calls Tryz.prog 12 #[geoV Bn Pn Wn Kn, markV ((1 : Nat) : Int) ((4 : Nat) : Int) kp, .slice a (szB Wn Kn) c] w fun e w' => ∃ a' c', e = .returned (.tuple #[.slice a' m c', .int .i64 0]) ∧ OwnU w' w.heap.size a' m c' (pageS Wn Kn (pgD 1 4 kp (padB d n) (szB Wn Kn))) ∧ Keep (fun _ => False) w w' := by
    rw [HMM.out]
    exact fun w a c ha => rmake_yes Bn Pn Wn Kn 1 4 kp a c (padB d n) w HHG.out HMK1 ha (fun i _ => HDD.out i)
  have hm2 : ∀ w a c, ArgV w a (szB Wn Kn) (fun i => .int .u8 (padB d n i : Nat)) → Calls Tryz.prog 12 #[geoV Bn Pn Wn Kn, markV ((2 : Nat) : Int) ((1 : Nat) : Int) ((3 : Nat) : Int), .slice a (szB Wn Kn) c] w fun e w' => ∃ a' c', e = .returned (.tuple #[.slice a' m c', .int .i64 0]) ∧ OwnU w' w.heap.size a' m c' (pageS Wn Kn (pgD 2 1 3 (padB d n) (szB Wn Kn))) ∧ Keep (fun _ => False) w w' := by
    rw [HMM.out]
    exact fun w a c ha => rmake_yes Bn Pn Wn Kn 2 1 3 a c (padB d n) w HHG.out HMK2 ha (fun i _ => HDD.out i)
  have hs1 : ∀ i, i < m → pageS Wn Kn (pgD 1 4 kp (padB d n) (szB Wn Kn)) i < 1024 := by
    rw [HMM.out]
    exact fun i hi => pageS_lt (pgD_lt HMK1 _ _) hw0 hi
  have hs2 : ∀ i, i < m → pageS Wn Kn (pgD 2 1 3 (padB d n) (szB Wn Kn)) i < 1024 := by
    rw [HMM.out]
    exact fun i hi => pageS_lt (pgD_lt HMK2 _ _) hw0 hi
  have hr1 := fun q => reads_prog (kk := q) HMK1 (fun i (_ : i < szB Wn Kn) => HDD.out i) hw0 hk1 hwk
  have hr2 : Reads (tnX (pageS Wn Kn (pgD 2 1 3 (padB d n) (szB Wn Kn))) m) (tnY (pageS Wn Kn (pgD 2 1 3 (padB d n) (szB Wn Kn))) m) Wn Kn (.found 2 1 3 0) := by
    have := reads_prog (kk := Wn * (Kn + 16)) HMK2 (fun i (_ : i < szB Wn Kn) => HDD.out i) hw0 hk1 hwk
    rw [progO_full hw0, ← HMM.out] at this
    exact this
  have hm17 : 17 ≤ m := by
    have h1 : 1 * (1 + 16) ≤ Wn * (Kn + 16) := Nat.mul_le_mul hw0 (by omega)
    rw [HMM.out]
    omega
  generalize pageS Wn Kn (pgD 1 4 kp (padB d n) (szB Wn Kn)) = S1 at *
  generalize pageS Wn Kn (pgD 2 1 3 (padB d n) (szB Wn Kn)) = S2 at *
  have HM1 := Lib.hid hm1
  have HM2 := Lib.hid hm2
  have HS1 := Lib.hid hs1
  have HS2 := Lib.hid hs2
  have HR1 := Lib.hid hr1
  have HR2 := Lib.hid hr2
  clear hm1 hm2 hs1 hs2 hr1 hr2 HMK1 HMK2 HDD
  generalize hzz : szB Wn Kn = z at *
  clear hzz
  go_wp2_with (with_reducible refine wpList_copy_b rfl (.tmp 44) (.tmp 45) rfl w4.heap.size z _ _ _ rfl rfl _ _ r5 HA5.out (fun _ _ => rfl) w4 q5 (Nat.le_refl _) ?_)
  intro w6 r6 q6
  rw [padB_vals] at r6
  have k6 := k4.comp q6
  have b6 := b4.keep q6 (by simp)
  have HB6 := Lib.hid ((RowV.of_blk r6).arg (by omega))
  generalize padB d n = pd at *
  clear b4 k4 q5 q6 r5 r6 hmk HA5 HD
  generalize w4.heap.size = gB at *
  have f1 : IntKind.i64.wrap (kp : Int) = (kp : Int) := wraps_i64 _ (by omega) (by omega)
  have q7 := (Keep.refl (fun _ => False) w6).alloc (.cells #[.int .i64 1, .int .i64 4, .int .i64 kp] 30)
  have m7 := Blk.new w6 30 #[.int .i64 1, .int .i64 4, .int .i64 kp]
  have b7 := b6.keep q7 (by simp)
  have k7 := k6.comp q7
  have HB7 := Lib.hid (HB6.out.keep q7)
  clear k6 b6 HB6 q7
  go_upto_region 8 with (fail)
  generalize w6.alloc (.cells #[.int .i64 1, .int .i64 4, .int .i64 kp] 30) = w7 at *
  generalize w6.heap.size = gM at *
  obtain ⟨g0, g1, g2, g3⟩ := geo_cells b7
  obtain ⟨p0, p1, p2⟩ := mark_cells m7
  go_wp2_with fail
  refine (HM1.out _ _ _ HB7.out).mono ?_
  rintro e w8 ⟨aS, cS, rfl, oS, q8⟩
  obtain ⟨gS, rfl, hgS, _, _⟩ := oS.row (by omega)
  have hgS8 := oS.row (by omega)
  have k8 := k7.comp q8
  have b8 := b7.keep q8 (by simp)
  have m8 := m7.keep q8 (by simp)
  have HB8 := Lib.hid (HB7.out.keep q8)
  have A8 := oS.arg (by omega) (fun i hi => by have := HS1.out i hi; omega)
  have AS8 := Lib.hid A8
  obtain ⟨_, _, ee, hgS2, _⟩ := A8.at_ (by omega)
  cases ee
  clear k7 b7 m7 HB7 q8 oS g0 g1 g2 g3 p0 p1 p2 HM1 hgS8 A8 hgS
  have hm1 : ¬ (m : Int) + 2 = 0 := by omega
  have hm2 : ¬ (m : Int) + 2 = -1 := by omega
  have hrem : (kp : Int).tmod ((m : Int) + 2) = ((kp % (m + 2) : Nat) : Int) := by rw [Int.tmod_eq_emod_of_nonneg (by omega)]; rfl
  have hk2 : kp % (m + 2) ≤ m + 1 := by have := Nat.mod_lt kp (show 0 < m + 2 by omega); omega
  generalize hkk : kp % (m + 2) = kk at *
  clear hkk
  have q9 := (Keep.refl (fun _ => False) w8).alloc (.cells #[.int .i64 1, .int .i64 2, .int .i64 kk] 39)
  have x9 := Blk.new w8 39 #[.int .i64 1, .int .i64 2, .int .i64 kk]
  obtain ⟨g0, g1, g2, g3⟩ := geo_cells b8
  go_upto_region 10 with (fail)
  clear hm1 hm2 hrem f1
  have b9 := b8.keep q9 (by simp)
  have m9 := m8.keep q9 (by simp)
  have HB9 := Lib.hid (HB8.out.keep q9)
  have AS9 := Lib.hid (AS8.out.keep q9)
  have k9 := k8.comp q9
  have z9 := q9.size
  go_wp2_with fail
  clear g0 g1 g2 g3
  refine (torn_new _ HHG.out w8.heap.size x9).mono ?_
  rintro e w10 ⟨num, rfl, hmC, q10, hlo⟩
  have hz8 : (w8.alloc (.cells #[.int .i64 1, .int .i64 2, .int .i64 kk] 39)).heap.size = w8.heap.size + 1 := by simp
  rw [hz8] at hlo
  have b10 := b9.keep q10 (by simp)
  have m10 := m9.keep q10 (by simp)
  have HB10 := Lib.hid (HB9.out.keep q10)
  have AS10 := Lib.hid (AS9.out.keep q10)
  have k10 := k9.comp q10
  have hw8 := b8.lt
  have hm8 := m8.lt
  have HLO := Lib.hid hlo
  have hz10 := q10.size
  rw [hz8] at hz10
  clear b9 m9 HB9 AS9 k9 q10 x9 q9 k8 b8 m8 HB8 AS8 hz8 z9 hlo
  obtain ⟨g0, g1, g2, g3⟩ := geo_cells b10
  go_wp2_with fail
  clear g0 g1 g2 g3
  refine (HM2.out _ _ _ HB10.out).mono ?_
  rintro e w11 ⟨aO, cO, rfl, oO, q11⟩
  obtain ⟨gO, rfl, hgO, _, _⟩ := oO.row (by omega)
  have hP1 := torn_p1 (S2 := S2) w11 HMM.out (hmC.keepF q11) gO cO (oO.arg (by omega) (fun i hi => by have := HS2.out i hi; omega)) HS2.out (fun e => by have := e.lt hmC; omega)
  have P1 := Lib.hid hP1
  have b11 := b10.keep q11 (by simp)
  have m11 := m10.keep q11 (by simp)
  have AS11 := Lib.hid (AS10.out.keep q11)
  have k11 := k10.comp q11
  have hz11 := q11.size
  clear hP1 oO b10 m10 AS10 HB10 k10 q11 hmC HM2 hgO
  go_wp2_with fail
  refine P1.out.mono ?_
  rintro e w12 ⟨num2, rfl, hC12, hn2, q12, ho12⟩
  have hlo12 : ∀ k, Own num2 (tkC1 Bn Pn Wn Kn kk m S2) k → w8.heap.size + 1 ≤ k := fun k h => (ho12 k h).elim (fun h => HLO.out k h) (fun h => by omega)
  have hP2 := torn_p2 (S1 := S1) w12 HMM.out (by omega) hC12 gS cS (AS11.out.keepS q12 (fun e => by have h : _ ≤ gS := HLO.out _ e; omega)) HS1.out (fun e => by have := hlo12 _ e; omega)
  rw [hn2] at hP2
  have P2 := Lib.hid hP2
  have b12 := b11.keep q12 (fun e => by have := HLO.out _ e; omega)
  have m12 := m11.keep q12 (fun e => by have := HLO.out _ e; omega)
  have k12 := k11.drop q12 (fun k h => by have := HLO.out k h; omega)
  have hz12 := q12.size
  clear hP2 P1 AS11 ho12 q12 b11 m11 k11 hC12
  go_wp2_with fail
  refine P2.out.mono ?_
  rintro e w13 ⟨num3, rfl, hC13, hn3, q13, ho13⟩
  have hlo13 : ∀ k, Own num3 (tkC2 Bn Pn Wn Kn kk m S2 S1) k → w8.heap.size + 1 ≤ k := fun k h => (ho13 k h).elim (fun h => hlo12 k h) (fun h => by omega)
  have hP3 := power_any num3 _ w13 hC13
  have hch : num3 .chip = num .chip := hn3
  have hchl := HLO.out _ ⟨.chip, trivial, rfl⟩
  rw [hch] at hP3
  have P3 := Lib.hid hP3
  have b13 := b12.keep q13 (fun e => by have := hlo12 _ e; omega)
  have m13 := m12.keep q13 (fun e => by have := hlo12 _ e; omega)
  have k13 := k12.drop q13 (fun k h => by have := hlo12 k h; omega)
  clear hP3 P2 q13 ho13 b12 m12 k12 hC13
  go_wp2_with fail
  refine P3.out.mono ?_
  rintro e w14 ⟨rfl, hC14, q14⟩
  have hC : ChipM num3 w14 (tkC2 Bn Pn Wn Kn kk m S2 S1) := hC14
  have b14 := b13.keep q14 (by omega)
  have m14 := m13.keep q14 (by omega)
  have k14 := k13.drop q14 (fun k h => by omega)
  clear hC14 q14 b13 m13 k13 P3
  go_wp2_with fail
  refine (make_any _).mono ?_
  rintro e w15 ⟨t1, t2, rfl, T, ht1, ht2, q15⟩
  have hsc := torn_scan (kp := kp) w15 w14 t1 t2 (hC.keepF q15) hC T ht1 ht2 HR2.out HR1.out
  rw [hch] at hsc
  have b15 := b14.keep q15 (by simp)
  have m15 := m14.keep q15 (by simp)
  have k15 := k14.comp q15
  have hz15 := b15.lt
  obtain ⟨worst, hworst⟩ : ∃ worst, worst = (m - min kk m + Wn - 1) / Wn := ⟨_, rfl⟩
  obtain ⟨u, t, q, f, e1, e2, e3, e4, hq1, hq2, hf0, hA, hB, hD⟩ := tk_all (kp := kp) HMM.out hw0 hw1 hworst
  rw [e1, e2, e3, e4] at hsc
  have HSC := Lib.hid hsc
  have HE := Lib.hid (And.intro hf0 (And.intro hA (And.intro hB hD)))
  have HLO3 := Lib.hid hlo13
  clear hsc hC T ht1 ht2 e1 e2 e3 e4 hf0 hA hB hD HR1 HR2 b14 m14 k14 q15 hlo12 hlo13
  unfold tabV at HSC ⊢
  go_wp2_with fail
  refine HSC.out.mono ?_
  rintro e w16 ⟨aF, cF, rfl, oF, q16⟩
  obtain ⟨gF, rfl, _, _, rF⟩ := oF.row (by omega)
  have b16 := b15.keep q16 (fun e => by have := HLO3.out _ e; omega)
  have m16 := m15.keep q16 (fun e => by have := HLO3.out _ e; omega)
  have k16 := k15.drop q16 (fun k h => by have := HLO3.out k h; omega)
  clear HSC oF q16 b15 m15 k15 HLO3 HLO
  have q17 := (Keep.refl (fun _ => False) w16).alloc (.cells #[.slice (some ⟨gF, 0, none⟩) q cF, .int .i64 u, .int .i64 t] 44)
  have b17 := b16.keep q17 (by simp)
  have m17 := m16.keep q17 (by simp)
  have k17 := k16.comp q17
  have r17 := rF.keep q17 (by simp)
  have s17 := Blk.new w16 44 #[.slice (some ⟨gF, 0, none⟩) q cF, .int .i64 u, .int .i64 t]
  clear rF b16 m16 k16 q17
  go_upto_region 18 with (fail)
  generalize w16.alloc (.cells #[.slice (some ⟨gF, 0, none⟩) q cF, .int .i64 u, .int .i64 t] 44) = w17 at *
  generalize w16.heap.size = gZ at *
  obtain ⟨s0, s1, s2⟩ := sight_cells s17
  obtain ⟨_, _, y2, _, _⟩ := fdG_at f 0
  have c02 := (r17.val (show 2 < q * 5 by omega)).trans (congrArg some y2)
  rw [HE.out.1] at c02
  obtain ⟨g0, g1, g2, g3⟩ := geo_cells b17
  clear y2
  go_upto_region 22 with (fail)
  have hwI : ((if kk < m then (m : Int) - (kk : Int) else 0) + (Wn : Int) - 1) / (Wn : Int) = (worst : Int) := by
    rw [hworst, Int.natCast_ediv]
    by_cases h : kk < m
    · rw [if_pos h, show ((m - min kk m + Wn - 1 : Nat) : Int) = (m : Int) - kk + Wn - 1 by omega]
    · rw [if_neg h, show ((m - min kk m + Wn - 1 : Nat) : Int) = 0 + Wn - 1 by omega]
  generalize (if kk < m then (m : Int) - (kk : Int) else 0) = bl at *
  rw [hwI]
  clear hwI g0 g1 g2 g3 hworst c02 b17
  have HRR := Lib.hid r17
  have HM17 := Lib.hid m17
  have HKF := Lib.hid k17
  clear r17 m17 k17 s17
  by_cases hk0 : kk = 0
  · obtain ⟨rfl, rfl, rfl⟩ := HE.out.2.1 hk0
    subst hk0
    clear HE
    go_wp2_with fail
    go_ret
    exact ⟨rfl, HKF.out⟩
  by_cases h8 : 8 < worst
  · obtain ⟨rfl, rfl, rfl⟩ := HE.out.2.2.1 hk0 h8
    have h8' : (8 : Int) < (worst : Int) := by omega
    clear HE
    go_wp2_with fail
    go_ret
    exact ⟨rfl, HKF.out⟩
  obtain ⟨rfl, rfl, rfl, hf1⟩ := HE.out.2.2.2 hk0 (by omega)
  have h8' : ¬ (8 : Int) < (worst : Int) := by omega
  obtain ⟨y0, y1, y2, y3, y4⟩ := fdG_at f 1
  rw [hf1] at y0 y1 y2 y3 y4
  have r17 := HRR.out
  have c5 := (r17.val (show 5 < 2 * 5 by omega)).trans (congrArg some y0)
  have c6 := (r17.val (show 6 < 2 * 5 by omega)).trans (congrArg some y1)
  have c7 := (r17.val (show 7 < 2 * 5 by omega)).trans (congrArg some y2)
  have c8 := (r17.val (show 8 < 2 * 5 by omega)).trans (congrArg some y3)
  have c9 := (r17.val (show 9 < 2 * 5 by omega)).trans (congrArg some y4)
  obtain ⟨p0, p1, p2⟩ := mark_cells HM17.out
  clear HE y0 y1 y2 y3 y4 hf1 r17 HRR
  go_upto_region 26 with (fail)
  go_quiet (fail)
  go_wp2_with fail
  go_ret
  exact ⟨rfl, HKF.out.drewN nq⟩
set_option maxRecDepth 100000 in
theorem torn18_of {H : Type} {enc : TypeId × Value → H} {base b0 : Nat} {d0 d1 : DataW H} {ps0 ps1 : List MemPlace} {sp0 sp1 : Nat → Bool} (w : World) {v : Value} {a : Option Addr} {n c : Nat} {x : Int} (hx : (Lit.int .u16 x).wf = true)
    (hv : Value.okWide Tryz.prog w .any b0 23 v) (hg : DataW.Trod enc Tryz.prog w base sp0 true 23 v d0 ps0)
    (h : DataW.Trod enc Tryz.prog w base sp1 true 24 (.slice a n c) d1 ps1) :
    Calls Tryz.prog 3 #[v, .slice a n c, .int .u16 x] w fun e w' => e = .returned (.bool true) ∧ Keep (fun _ => False) w w' := by
  obtain ⟨B, P, W, K, rfl⟩ := geo4_of hv hg
  obtain ⟨d, _, hA, hd⟩ := argB_of h
  have hb := Go.bounds_u16 hx
  obtain ⟨kp, rfl⟩ : ∃ k : Nat, x = k := ⟨x.toNat, by omega⟩
  exact torn18_true w B P W K a n c d kp (by omega) hA hd
end Go.Proofs.YtdlmjjlejkkniaaGreat
