/- code.Decode. -/
import Derived.Test.YtnejnoiogojplaaMended
namespace Go.Proofs.Ytnejnoiogojplaa
open Go.RowKit

/-- What a decoder answers at a word that may be. -/
def DecR (w' : World) (N : Nat) (p : Nat → Nat) (n : Nat) (e : Ending) : Prop :=
  (∃ (q : Nat → Nat) (d : Nat) (a' : Option Addr) (c' : Nat), Near p n q d ∧ e = .returned (.tuple #[.slice a' n c', .int .i64 d, .int .i64 0]) ∧ OwnU w' N a' n c' q) ∨
  ((∀ q d, ¬ Near p n q d) ∧ e = .returned (.tuple #[.slice none 0 0, .int .i64 0, .int .i64 4]))
theorem rootN_cnt {n : Nat} {loc p q : Nat → Nat} {m : Nat} : ∀ k, k ≤ n → (∀ i, i < n → (hor loc (inv (n - 1 - i)) 0 m = 0 ↔ p i ≠ q i)) → rootN n loc m k = cntNe p q k
  | 0, _, _ => rfl
  | k + 1, hk, h => by
    rw [rootN, cntNe, rootN_cnt k (by omega) h]
    congr 1
    by_cases e : p k = q k
    · rw [if_neg (fun h0 => (h k (by omega)).1 h0 e), if_pos e]
    · rw [if_pos ((h k (by omega)).2 e), if_neg e]
/-- Where a word of the code is near, what the loop found passes each test. -/
theorem near_pass {p q loc old : Nat → Nat} {n d long by_ last m : Nat} (hn : n ≤ 1023) (hp : ∀ i, i < n → p i < 1024) (h : Near p n q d) (hb : BM (synW p n) 16 loc old long by_ last) (hm : IsPol loc m) :
    long ≤ 8 ∧ m = long + 1 ∧ rootN n loc m n = long ∧ cntNe (mendV p n loc (synW p n) m) p n = long ∧ (∀ i, i < n → mendV p n loc (synW p n) m i = q i) ∧ long = d := by
  obtain ⟨h1, h2, h3, h4⟩ := bm_near hn hp h hb hm
  have hle := h.le
  obtain rfl : m = long + 1 := by omega
  have hv : ∀ i, val loc long (inv i) = hor loc (inv i) 0 (long + 1) := fun i => val_hor hb.gen.lt (inv_lt i)
  have hmv : ∀ i, i < n → mendV p n loc (synW p n) (long + 1) i = q i := fun i hi => by
    unfold mendV
    by_cases e : hor loc (inv (n - 1 - i)) 0 (long + 1) = 0
    · rw [if_pos e]
      exact (h4 i hi (by rw [hv]; exact e)).2.symm
    · rw [if_neg e]
      by_cases hpq : p i = q i
      · exact hpq
      · exact absurd ((hv _).symm.trans ((h3 i hi).2 hpq)) e
  refine ⟨by omega, rfl, ?_, ?_, hmv, h1⟩
  · rw [rootN_cnt n (Nat.le_refl _) (fun i hi => by rw [← hv]; exact h3 i hi), cntNe_comm, h.dist, h1]
  · rw [cntNe_congr n hmv (fun _ _ => rfl), h.dist, h1]
theorem near_self {p : Nat → Nat} {n : Nat} (hp : ∀ i, i < n → p i < 1024) (h : ∀ j, j < 16 → synW p n j = 0) : Near p n p 0 :=
  ⟨hp, h, cntNe_zero.2 (fun _ _ => rfl), by omega⟩

set_option maxHeartbeats 4000000 in
theorem dec_size (V : Value) (a : Option Addr) (n c : Nat) (w : World) (hT : HasT w V) (hn : n ≤ 16 ∨ 1023 < n) :
    Calls Try.prog 20 #[V, .slice a n c] w fun e w' => e = .returned (.tuple #[.slice none 0 0, .int .i64 0, .int .i64 3]) ∧ Keep (fun _ => False) w w' := by
  obtain ⟨a1, n1, c1, a2, n2, c2, rfl⟩ := hT.form
  by_cases h : n ≤ 16
  · have e1 : decide ((n : Int) ≤ 16) = true := by simp; omega
    have e2 : (n : Int) ≤ 16 := by omega
    go_enter Try.func20, Try.ntmps20
    go_wp2_with fail
    go_ret3
    exact ⟨rfl, (Keep.refl _ w).alloc _⟩
  · have e1 : decide ((n : Int) ≤ 16) = false := by simp; omega
    have e2 : ¬ (n : Int) ≤ 16 := by omega
    have e3 : (1023 : Int) < (n : Int) := by omega
    go_enter Try.func20, Try.ntmps20
    go_wp2_with fail
    go_ret3
    exact ⟨rfl, (Keep.refl _ w).alloc _⟩
set_option maxHeartbeats 4000000 in
theorem dec_arg (V : Value) (a : Option Addr) (n c : Nat) (p : Nat → Nat) (w : World) (hT : HasT w V) (ha : ArgU w a n p) (hn : 16 < n) (hn2 : n ≤ 1023) (hx : ∃ i, i < n ∧ 1024 ≤ p i) :
    Calls Try.prog 20 #[V, .slice a n c] w fun e w' => e = .returned (.tuple #[.slice none 0 0, .int .i64 0, .int .i64 1]) ∧ Keep (fun _ => False) w w' := by
  obtain ⟨a1, n1, c1, a2, n2, c2, rfl⟩ := hT.form
  have e1 : decide ((n : Int) ≤ 16) = false := by simp; omega
  have e2 : ¬ (n : Int) ≤ 16 := by omega
  have e3 : ¬ (1023 : Int) < (n : Int) := by omega
  have k0 := (Keep.refl (fun _ => False) w).alloc (.cells #[.slice a1 n1 c1, .slice a2 n2 c2] 27)
  have HA := Lib.hid (ha.keep k0)
  have HX := Lib.hid hx
  clear ha hx
  go_enter Try.func20, Try.ntmps20
  go_wp2_with fail
  refine (contains_over _ _ _ _ _ HA.out).mono ?_
  rintro e w1 ⟨b, rfl, hb, k1⟩
  obtain rfl : b = true := hb.2 HX.out
  have k := k0.comp k1
  go_wp2_with fail
  go_ret3
  exact ⟨rfl, k⟩

set_option maxHeartbeats 8000000 in
set_option maxRecDepth 100000 in
theorem dec_any (V : Value) (a : Option Addr) (n c : Nat) (p : Nat → Nat) (w : World) (hT : HasT w V) (ha : ArgU w a n p) (hn : 16 < n) (hn2 : n ≤ 1023) (hp : ∀ i, i < n → p i < 1024) :
    Calls Try.prog 20 #[V, .slice a n c] w fun e w' => DecR w' w.heap.size p n e ∧ Keep (fun _ => False) w w' := by
  obtain ⟨a1, n1, c1, a2, n2, c2, rfl⟩ := hT.form
  have e1 : decide ((n : Int) ≤ 16) = false := by simp; omega
  have e2 : ¬ (n : Int) ≤ 16 := by omega
  have e3 : ¬ (1023 : Int) < (n : Int) := by omega
  obtain ⟨W, hW⟩ : ∃ W, W = w.alloc (.cells #[.slice a1 n1 c1, .slice a2 n2 c2] 27) := ⟨_, rfl⟩
  have hws : W.heap.size = w.heap.size + 1 := by rw [hW]; simp
  have kw : Keep (fun _ => False) w W := by rw [hW]; exact (Keep.refl _ w).alloc _
  have b0 : Blk W w.heap.size 27 #[.slice a1 n1 c1, .slice a2 n2 c2] := by rw [hW]; exact Blk.new w _ _
  have HT := Lib.hid (hT.keep kw)
  have HA := Lib.hid (ha.keep kw)
  have HP := Lib.hid hp
  clear hT ha hp
  go_enter Try.func20, Try.ntmps20
  go_wp2_with fail
  rw [← hW]
  clear hW
  refine (contains_over _ _ _ _ _ HA.out).mono ?_
  rintro e w1 ⟨b, rfl, hb, k1⟩
  obtain rfl : b = false := by
    cases b with
    | false => rfl
    | true =>
      obtain ⟨i, hi, h1⟩ := hb.1 rfl
      have := HP.out i hi
      omega
  have kk1 := kw.comp k1
  have b1 := b0.keep k1 (by simp)
  have d0 : w1.cell? ⟨w.heap.size, 0, none⟩ = some (.slice a1 n1 c1) := by rw [b1.cell]; rfl
  have d1 : w1.cell? ⟨w.heap.size, 1, none⟩ = some (.slice a2 n2 c2) := by rw [b1.cell]; rfl
  have T1 := Lib.hid (HT.out.keep k1)
  have A1 := Lib.hid (HA.out.keep k1)
  clear hb k1 b0 HT HA kw
  go_wp2_with fail
  refine (syndromes_any _ _ _ _ _ _ T1.out A1.out (by omega)).mono ?_
  rintro e w2 ⟨gS, rfl, hgS, rS, k2⟩
  rw [synW_mod HP.out] at rS
  have HSl := Lib.hid (fun i => synW_lt HP.out i)
  have S2 := Lib.hid (rS.argU (by omega) (fun i _ => by have := HSl.out i; omega))
  have kk2 := kk1.comp k2
  have b2 := b1.keep k2 (by simp)
  have T2 := Lib.hid (T1.out.keep k2)
  have A2 := Lib.hid (A1.out.keep k2)
  clear d0 d1 b1 T1 A1 k2 kk1 rS
  go_wp2_with fail
  refine (none_any _ _ _ _ _ S2.out).mono ?_
  rintro e w3 ⟨b, rfl, hb, k3⟩
  have kk3 := kk2.comp k3
  have b3 := b2.keep k3 (by simp)
  have T3 := Lib.hid (T2.out.keep k3)
  have A3 := Lib.hid (A2.out.keep k3)
  have S3 := Lib.hid (S2.out.keep k3)
  clear b2 T2 A2 S2 k3 kk2
  cases b with
  | true =>
    have HN := Lib.hid (near_self HP.out (hb.1 rfl))
    clear hb
    go_wp2_with fail
    refine (clone_any _ _ _ _ _ A3.out (by omega)).mono ?_
    rintro e w4 ⟨a4, c4, rfl, o4, k4⟩
    have O4 := Lib.hid (o4.more kk3.size)
    have kk4 := kk3.comp k4
    clear o4 k4
    go_wp2_with fail
    go_ret3
    exact ⟨.inl ⟨p, 0, a4, c4, HN.out, rfl, O4.out⟩, kk4⟩
  | false =>
    clear hb
    have d0 : w3.cell? ⟨w.heap.size, 0, none⟩ = some (.slice a1 n1 c1) := by rw [b3.cell]; rfl
    have d1 : w3.cell? ⟨w.heap.size, 1, none⟩ = some (.slice a2 n2 c2) := by rw [b3.cell]; rfl
    go_wp2_with fail
    refine (locator_any _ _ _ _ _ T3.out S3.out HSl.out).mono ?_
    rintro e w4 ⟨aL, m, long, loc, rfl, hL, hpl, hm, hbm, k4⟩
    have HL := Lib.hid hL
    have HPL := Lib.hid hpl
    have HBM := Lib.hid hbm
    have kk4 := kk3.comp k4
    have b4 := b3.keep k4 (by simp)
    have T4 := Lib.hid (T3.out.keep k4)
    have A4 := Lib.hid (A3.out.keep k4)
    have S4 := Lib.hid (S3.out.keep k4)
    clear d0 d1 b3 T3 A3 S3 k4 kk3 hL hpl hbm
    have hfound : Hid ((∃ q d, Near p n q d) → long ≤ 8 ∧ m = long + 1 ∧ rootN n loc m n = long ∧ cntNe (mendV p n loc (synW p n) m) p n = long ∧ ∀ j, j < 16 → synW (mendV p n loc (synW p n) m) n j = 0) := Lib.hid (by
      rintro ⟨q, d, h⟩
      obtain ⟨old, by_, last, hb⟩ := HBM.out
      obtain ⟨h1, h2, h3, h4, h5, h6⟩ := near_pass hn2 HP.out h hb HPL.out
      exact ⟨h1, h2, h3, h4, fun j hj => by rw [synW_congr h5]; exact h.word j hj⟩)
    clear HBM
    by_cases h1 : 8 < long
    · have f1 : decide (8 < (long : Int)) = true := by simp; omega
      have f2 : (8 : Int) < (long : Int) := by omega
      go_wp2_with fail
      go_ret3
      exact ⟨.inr ⟨fun q d h => by have := (hfound.out ⟨q, d, h⟩).1; omega, rfl⟩, kk4⟩
    have f1 : decide (8 < (long : Int)) = false := by simp; omega
    have f2 : ¬ (8 : Int) < (long : Int) := by omega
    rcases (Decidable.em (m = long + 1)).symm with h2 | h2
    · have f3 : ¬ (m : Int) - 1 = (long : Int) := by omega
      have f4 : ((m : Int) - 1 != (long : Int)) = true := by simpa using f3
      go_wp2_with fail
      go_ret3
      exact ⟨.inr ⟨fun q d h => by have := (hfound.out ⟨q, d, h⟩).2.1; omega, rfl⟩, kk4⟩
    have f3 : (m : Int) - 1 = (long : Int) := by omega
    have f4 : ((m : Int) - 1 != (long : Int)) = false := by simpa using f3
    have HM2 := Lib.hid h2
    have d0 : w4.cell? ⟨w.heap.size, 0, none⟩ = some (.slice a1 n1 c1) := by rw [b4.cell]; rfl
    have d1 : w4.cell? ⟨w.heap.size, 1, none⟩ = some (.slice a2 n2 c2) := by rw [b4.cell]; rfl
    clear h2
    go_wp2_with fail
    refine (mended_any _ _ _ _ n c m 16 p loc (synW p n) _ T4.out A4.out HL.out S4.out hn2 (by omega) HP.out HPL.out hm HSl.out (Nat.le_refl _)).mono ?_
    rintro e w5 ⟨a5, c5, rfl, o5, k5⟩
    have kk5 := kk4.comp k5
    have b5 := b4.keep k5 (by simp)
    have T5 := Lib.hid (T4.out.keep k5)
    have A5 := Lib.hid (A4.out.keep k5)
    have O5 := Lib.hid (o5.more kk4.size)
    have HQ := Lib.hid (fun i (hi : i < n) => mendV_lt (S := synW p n) (m := m) HP.out HPL.out.lt i hi)
    clear d0 d1 f1 f2 f3 f4 b4 T4 A4 S4 HL k5 kk4 o5
    generalize hq : mendV p n loc (synW p n) m = q at *
    generalize hr : rootN n loc m n = r at *
    clear hq hr
    rcases (Decidable.em (r = long)).symm with h3 | h3
    · have f3 : ¬ (r : Int) = (long : Int) := by omega
      have f4 : ((r : Int) != (long : Int)) = true := by simpa using f3
      go_wp2_with fail
      go_ret3
      exact ⟨.inr ⟨fun q d h => h3 (hfound.out ⟨q, d, h⟩).2.2.1, rfl⟩, kk5⟩
    subst h3
    have AQ5 := Lib.hid (O5.out.arg (by omega) (fun i hi => by have := HQ.out i hi; omega))
    go_wp2_with fail
    refine (dist_any _ _ _ _ _ _ q p _ AQ5.out A5.out (by omega) (by omega)).mono ?_
    rw [Nat.max_self, Nat.min_self, Nat.sub_self, Nat.zero_add]
    rintro e w6 ⟨rfl, k6⟩
    have kk6 := kk5.comp k6
    have b6 := b5.keep k6 (by simp)
    have T6 := Lib.hid (T5.out.keep k6)
    have AQ6 := Lib.hid (AQ5.out.keep k6)
    have O6 := Lib.hid (O5.out.keep k6)
    clear b5 T5 A5 AQ5 O5 k6 kk5
    generalize hd : cntNe q p n = d at *
    have HD := Lib.hid hd
    clear hd
    rcases (Decidable.em (d = r)).symm with h4 | h4
    · have f3 : ¬ (d : Int) = (r : Int) := by omega
      have f4 : ((d : Int) != (r : Int)) = true := by simpa using f3
      go_wp2_with fail
      go_ret3
      exact ⟨.inr ⟨fun q d h => h4 (hfound.out ⟨q, d, h⟩).2.2.2.1, rfl⟩, kk6⟩
    subst h4
    have d0 : w6.cell? ⟨w.heap.size, 0, none⟩ = some (.slice a1 n1 c1) := by rw [b6.cell]; rfl
    have d1 : w6.cell? ⟨w.heap.size, 1, none⟩ = some (.slice a2 n2 c2) := by rw [b6.cell]; rfl
    go_wp2_with fail
    refine (syndromes_any _ _ _ _ _ _ T6.out AQ6.out (by omega)).mono ?_
    rintro e w7 ⟨gS7, rfl, hgS7, rS7, k7⟩
    rw [synW_mod HQ.out] at rS7
    have S7 := Lib.hid (rS7.argU (by omega) (fun i _ => by have := synW_lt HQ.out i; omega))
    have kk7 := kk6.comp k7
    have O7 := Lib.hid (O6.out.keep k7)
    clear d0 d1 b6 T6 AQ6 O6 k7 kk6 rS7
    go_wp2_with fail
    refine (none_any _ _ _ _ _ S7.out).mono ?_
    rintro e w8 ⟨b, rfl, hb, k8⟩
    have kk8 := kk7.comp k8
    have O8 := Lib.hid (O7.out.keep k8)
    clear kk7 k8 O7 S7
    cases b with
    | false =>
      have HB := Lib.hid (fun h : ∀ j, j < 16 → synW q n j = 0 => Bool.false_ne_true (hb.2 h))
      clear hb
      go_wp2_with fail
      go_ret3
      exact ⟨.inr ⟨fun q d h => HB.out (hfound.out ⟨q, d, h⟩).2.2.2.2, rfl⟩, kk8⟩
    | true =>
      have HB := Lib.hid (hb.1 rfl)
      clear hb
      go_wp2_with fail
      go_ret3
      exact ⟨.inl ⟨q, d, a5, c5, ⟨HQ.out, HB.out, HD.out, by omega⟩, rfl, O8.out⟩, kk8⟩
end Go.Proofs.Ytnejnoiogojplaa
