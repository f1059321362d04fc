/- code.Encode. -/
import Derived.Test.YtnejnoiogojplaaGen
namespace Go.Proofs.Ytnejnoiogojplaa
open Go.RowKit

/-- q is the word of the code with the data p. -/
structure IsEnc (p : Nat → Nat) (k : Nat) (q : Nat → Nat) : Prop where
  lt : ∀ i, i < k + 16 → q i < 1024
  word : ∀ j, j < 16 → synW q (k + 16) j = 0
  data : ∀ i, i < k → q i = p i
theorem IsEnc.uniq {p q r : Nat → Nat} {k : Nat} (hk : k + 16 ≤ 1023) (hq : IsEnc p k q) (hr : IsEnc p k r) : ∀ i, i < k + 16 → q i = r i :=
  words_apart hk hq.lt hr.lt hq.word hr.word (List.range 16) (by simp) (fun i hi hne => by
    rw [List.mem_range]
    rcases Nat.lt_or_ge i k with h | h
    · exact absurd ((hq.data i h).trans (hr.data i h).symm) hne
    · omega)
/-- What an encoder answers at data that may be. -/
def EncR (w' : World) (N : Nat) (p : Nat → Nat) (k : Nat) (e : Ending) : Prop :=
  ∃ (q : Nat → Nat) (a' : Option Addr) (c' : Nat), IsEnc p k q ∧ e = .returned (.tuple #[.slice a' (k + 16) c', .int .i64 0]) ∧ OwnU w' N a' (k + 16) c' q
/-- Data, and noughts behind. -/
def dat (p : Nat → Nat) (k : Nat) : Nat → Nat := fun i => if i < k then p i else 0
theorem dat_lt {p : Nat → Nat} {k : Nat} (hp : ∀ i, i < k → p i < 1024) (i : Nat) : dat p k i < 1024 := by
  unfold dat
  split
  · exact hp i ‹_›
  · omega
/-- The data, and the rest behind. -/
def encV (p : Nat → Nat) (k : Nat) (R : Nat → Nat) : Nat → Nat := fun i => if i < k then p i else R (k + 15 - i)
theorem gen_zero {j : Nat} (hj : j < 16) : hor (genP 16) (ex (j + 1)) 0 17 = 0 := (genP_root (ex_lt _) 16).2 ⟨j, hj, rfl⟩
theorem cut_dat {p : Nat → Nat} {k : Nat} (hp : ∀ i, i < k → p i < 1024) : cut (fun i => dat p k (k + 16 - 1 - i)) (k + 16) = rv (dat p k) (k + 16) := by
  rw [cut_turned]
  have e : (fun i => dat p k i % 1024) = dat p k := funext fun i => Nat.mod_eq_of_lt (dat_lt hp i)
  rw [e]
theorem enc_is {p : Nat → Nat} {k la nr : Nat} (hp : ∀ i, i < k → p i < 1024) (hl : IsPol (rv (dat p k) (k + 16)) la) (hla : la ≤ k + 16) (hr : IsPol (rst (rv (dat p k) (k + 16)) la (genP 16) 17) nr) :
    nr ≤ 16 ∧ IsEnc p k (encV p k (rst (rv (dat p k) (k + 16)) la (genP 16) 17)) := by
  have hnr := rst_len hl (genP_pol 16) (by omega) hr
  have hds := div_sum hl (genP_pol 16) (by omega)
  have hq := quo_pol hl (genP_pol 16) (by omega)
  generalize hR : rst (rv (dat p k) (k + 16)) la (genP 16) 17 = R at *
  generalize hQ : quo (rv (dat p k) (k + 16)) la (genP 16) 17 = Q at *
  have hlt : ∀ i, i < k + 16 → encV p k R i < 1024 := fun i hi => by
    unfold encV
    split
    · exact hp i ‹_›
    · exact hr.lt _
  refine ⟨by omega, hlt, fun j hj => ?_, fun i hi => by unfold encV; rw [if_pos hi]⟩
  rw [← synW_hor hlt]
  have e : rv (encV p k R) (k + 16) = pmul Q (genP 16) := by
    have e1 : rv (encV p k R) (k + 16) = padd (rv (dat p k) (k + 16)) R := funext fun i => by
      show rv (encV p k R) (k + 16) i = rv (dat p k) (k + 16) i ^^^ R i
      unfold rv
      by_cases h : i < k + 16
      · rw [if_pos h, if_pos h]
        unfold encV dat
        by_cases h2 : i < 16
        · rw [if_neg (by omega), if_neg (by omega), Nat.zero_xor]
          congr 1
          omega
        · rw [if_pos (by omega), if_pos (by omega), hr.zero i (by omega), Nat.xor_zero]
      · rw [if_neg h, if_neg h, hr.zero i (by omega)]
        rfl
    rw [e1, ← hds]
    exact funext fun i => xor_cancel_right _ _
  rw [e, hor_pmul (genP_pol 16).lt (genP_pol 16).zero (ex_lt _) (quoN la 17) Q hq.lt hq.zero (k + 16) (by unfold quoN; omega), gen_zero hj, gm_zero_right]
/-- The word, the rest's first i symbols being laid. -/
def encK (p : Nat → Nat) (k : Nat) (R : Nat → Nat) (i : Nat) : Nat → Nat := fun t => if t < k then p t else if k + 15 - t < i then R (k + 15 - t) else 0
theorem encK_next (p : Nat → Nat) (k : Nat) (R : Nat → Nat) (i : Nat) (hi : i < 16) (t : Nat) (ht : t < k + 16) : encK p k R (i + 1) t = if t = k + 15 - i then R i else encK p k R i t := by
  unfold encK
  by_cases h : t = k + 15 - i
  · subst h
    rw [if_neg (by omega), if_pos (by omega), if_pos rfl]
    congr 1
    omega
  · rw [if_neg h]
    by_cases h2 : t < k
    · rw [if_pos h2, if_pos h2]
    · rw [if_neg h2, if_neg h2]
      by_cases h3 : k + 15 - t < i
      · rw [if_pos h3, if_pos (by omega)]
      · rw [if_neg h3, if_neg (by omega)]
theorem encK_end {p R : Nat → Nat} {k nr : Nat} (hz : ∀ i, nr ≤ i → R i = 0) (t : Nat) : encK p k R nr t = encV p k R t := by
  unfold encK encV
  by_cases h2 : t < k
  · rw [if_pos h2, if_pos h2]
  · rw [if_neg h2, if_neg h2]
    by_cases h3 : k + 15 - t < nr
    · rw [if_pos h3]
    · rw [if_neg h3, hz _ (by omega)]

set_option maxHeartbeats 4000000 in
theorem enc_size (V : Value) (a : Option Addr) (k c : Nat) (w : World) (hT : HasT w V) (hk : k = 0 ∨ 1007 < k) :
    Calls Try.prog 13 #[V, .slice a k c] w fun e w' => e = .returned (.tuple #[.slice none 0 0, .int .i64 3]) ∧ Keep (fun _ => False) w w' := by
  obtain ⟨a1, n1, c1, a2, n2, c2, rfl⟩ := hT.form
  by_cases h : k = 0
  · subst h
    go_enter Try.func13, Try.ntmps13
    go_wp2_with fail
    go_ret2
    exact ⟨rfl, (Keep.refl _ w).alloc _⟩
  · have e1 : ((k : Int) == 0) = false := by simp; omega
    have e2 : ¬ (k : Int) = 0 := by omega
    have e3 : (1007 : Int) < (k : Int) := by omega
    go_enter Try.func13, Try.ntmps13
    go_wp2_with fail
    go_ret2
    exact ⟨rfl, (Keep.refl _ w).alloc _⟩
set_option maxHeartbeats 4000000 in
theorem enc_arg (V : Value) (a : Option Addr) (k c : Nat) (p : Nat → Nat) (w : World) (hT : HasT w V) (ha : ArgU w a k p) (hk : 0 < k) (hk2 : k ≤ 1007) (hx : ∃ i, i < k ∧ 1024 ≤ p i) :
    Calls Try.prog 13 #[V, .slice a k c] w fun e w' => e = .returned (.tuple #[.slice none 0 0, .int .i64 1]) ∧ Keep (fun _ => False) w w' := by
  obtain ⟨a1, n1, c1, a2, n2, c2, rfl⟩ := hT.form
  have e1 : ((k : Int) == 0) = false := by simp; omega
  have e2 : ¬ (k : Int) = 0 := by omega
  have e3 : ¬ (1007 : Int) < (k : Int) := by omega
  have k0 := (Keep.refl (fun _ => False) w).alloc (.cells #[.slice a1 n1 c1, .slice a2 n2 c2] 27)
  have HA := Lib.hid (ha.keep k0)
  have HX := Lib.hid hx
  clear ha hx
  go_enter Try.func13, Try.ntmps13
  go_wp2_with fail
  refine (contains_over _ _ _ _ _ HA.out).mono ?_
  rintro e w1 ⟨b, rfl, hb, k1⟩
  obtain rfl : b = true := hb.2 HX.out
  have kk := k0.comp k1
  go_wp2_with fail
  go_ret2
  exact ⟨rfl, kk⟩

set_option maxHeartbeats 8000000 in
set_option maxRecDepth 100000 in
theorem enc_any (V : Value) (a : Option Addr) (k c : Nat) (p : Nat → Nat) (w : World) (hT : HasT w V) (ha : ArgU w a k p) (hk : 0 < k) (hk2 : k ≤ 1007) (hp : ∀ i, i < k → p i < 1024) :
    Calls Try.prog 13 #[V, .slice a k c] w fun e w' => EncR w' w.heap.size p k e ∧ Keep (fun _ => False) w w' := by
  obtain ⟨a1, n1, c1, a2, n2, c2, rfl⟩ := hT.form
  have e1 : ((k : Int) == 0) = false := by simp; omega
  have e2 : ¬ (k : Int) = 0 := by omega
  have e3 : ¬ (1007 : Int) < (k : Int) := by omega
  obtain ⟨W, hW⟩ : ∃ W, W = w.alloc (.cells #[.slice a1 n1 c1, .slice a2 n2 c2] 27) := ⟨_, rfl⟩
  have hws : W.heap.size = w.heap.size + 1 := by rw [hW]; simp
  have kw : Keep (fun _ => False) w W := by rw [hW]; exact (Keep.refl _ w).alloc _
  have b0 : Blk W w.heap.size 27 #[.slice a1 n1 c1, .slice a2 n2 c2] := by rw [hW]; exact Blk.new w _ _
  have HT := Lib.hid (hT.keep kw)
  have HA := Lib.hid (ha.keep kw)
  have HP := Lib.hid hp
  clear hT ha hp
  go_enter Try.func13, Try.ntmps13
  go_wp2_with fail
  rw [← hW]
  clear hW
  refine (contains_over _ _ _ _ _ HA.out).mono ?_
  rintro e w1 ⟨b, rfl, hb, k1⟩
  obtain rfl : b = false := by
    cases b with
    | false => rfl
    | true =>
      obtain ⟨i, hi, h1⟩ := hb.1 rfl
      have := HP.out i hi
      omega
  have A1 := Lib.hid (HA.out.keep k1)
  clear hb HA e1 e2 e3
  go_wp2_with fail
  refine (clone_any _ _ _ _ _ A1.out (by omega)).mono ?_
  rintro e w2 ⟨a2', c2', rfl, o2, k2⟩
  obtain ⟨g2, rfl, hg2, hc2, r2⟩ := o2.row hk
  have k12 := k1.comp k2
  have hsz1 := k1.size
  have hsz2 := k12.size
  clear o2 A1 k1 k2
  go_wp2_with (refine wpList_append_zeros rfl (.tmp 25) (.const (.int .i64 16)) rfl W.heap.size g2 k c2' p rfl r2 (by omega) hc2 16 rfl (by omega) hsz2 ?_)
  intro a3 c3 w3 o3 g3
  have k3 := k12.grown g3 (fun j hj => .inr (by injection hj with hj; omega))
  obtain ⟨gW, rfl, hgW, hc3, r3⟩ := o3.row (by omega)
  have r3' : RowU w3 gW c3 (k + 16) (dat p k) := r3
  have hl3 := r3'.lt
  clear r2 g3 o3 k12 r3
  have kd := (Keep.refl (fun _ => False) w3).drew
  have KD := Lib.hid (k3.comp kd)
  have RD := Lib.hid (r3'.keep kd (by simp))
  have AD := Lib.hid (RD.out.argU (by omega) (fun i _ => by have := dat_lt HP.out i; omega))
  have TD := Lib.hid (HT.out.keep KD.out)
  have b1 := b0.keep KD.out (by simp)
  have d0 : w3.drew.cell? ⟨w.heap.size, 0, none⟩ = some (.slice a1 n1 c1) := by rw [b1.cell]; rfl
  have d1 : w3.drew.cell? ⟨w.heap.size, 1, none⟩ = some (.slice a2 n2 c2) := by rw [b1.cell]; rfl
  obtain ⟨la, hla⟩ : ∃ la, la = topB (rv (dat p k) (k + 16)) (k + 16) := ⟨_, rfl⟩
  have HLA := Lib.hid (show IsPol (rv (dat p k) (k + 16)) la by
    rw [hla]
    exact topB_pol (rv_lt (fun i _ => dat_lt HP.out i)) (fun i hi => by unfold rv; rw [if_neg (by omega)]))
  have hlal : la ≤ k + 16 := by rw [hla]; exact topB_le _ _
  have HGP := Lib.hid (show IsPol (cut (genP 16) 17) 17 by rw [(genP_pol 16).cut (Nat.le_refl _)]; exact genP_pol 16)
  have HCD := Lib.hid (cut_dat HP.out)
  have hkk : w3.drew.heap.size = w3.heap.size := rfl
  clear hla k3 kd r3' b0
  go_upto_region 6 with fail
  go_region_held3 (fun w' => w'.cell? ⟨w.heap.size, 0, none⟩ = some (.slice a1 n1 c1) ∧ w'.cell? ⟨w.heap.size, 1, none⟩ = some (.slice a2 n2 c2))
    (first | exact ⟨d0, d1⟩ | exact ⟨f0, f1⟩ | exact ⟨g0, g1⟩ | exact ⟨h0, h1⟩)
    (first
      | (go_at_call 28; refine (turned_any _ _ _ _ _ AD.out (by omega)).mono ?_; rintro e W3 ⟨aT, cT, rfl, oT, k3⟩; have b5 := b1.keep k3 (by simp); have f0 : W3.cell? ⟨w.heap.size, 0, none⟩ = some (.slice a1 n1 c1) := by { rw [b5.cell]; rfl }; have f1 : W3.cell? ⟨w.heap.size, 1, none⟩ = some (.slice a2 n2 c2) := by { rw [b5.cell]; rfl }; have hcT := oT.le.1; have AT := Lib.hid (oT.arg (by omega) (fun i _ => by have := dat_lt HP.out (k + 16 - 1 - i); omega)))
      | (go_at_call 16; refine (generator_any _ _ (TD.out.keep k3)).mono ?_; rintro e W4 ⟨aG, rfl, rG, k4⟩; have b6 := b5.keep k4 (by simp); have g0 : W4.cell? ⟨w.heap.size, 0, none⟩ = some (.slice a1 n1 c1) := by { rw [b6.cell]; rfl }; have g1 : W4.cell? ⟨w.heap.size, 1, none⟩ = some (.slice a2 n2 c2) := by { rw [b6.cell]; rfl }; have AG := Lib.hid (rG.arg (by omega) (genP_pol 16).lt16))
      | (go_at_call 27; refine (div_any _ _ _ (k + 16) 17 cT 17 _ _ la 17 (by rw [HCD.out]; exact HLA.out) HGP.out _ ((TD.out.keep k3).keep k4) (AT.out.keep k4) AG.out (by omega) (by omega) hcT (Nat.le_refl _)).mono ?_; rw [HCD.out, (genP_pol 16).cut (Nat.le_refl _)]; rintro e W5 ⟨aq, nq, ar, nr, rfl, _, _, rR, pR, _, _, k5⟩; have b7 := b6.keep k5 (by simp); have h0 : W5.cell? ⟨w.heap.size, 0, none⟩ = some (.slice a1 n1 c1) := by { rw [b7.cell]; rfl }; have h1 : W5.cell? ⟨w.heap.size, 1, none⟩ = some (.slice a2 n2 c2) := by { rw [b7.cell]; rfl }))
  have k35 := (k3.comp k4).comp k5
  have KE := Lib.hid (KD.out.comp k35)
  have RE := Lib.hid (RD.out.keep k35 (by simp))
  obtain ⟨hnr, henc⟩ := enc_is HP.out HLA.out hlal pR
  have OR := Lib.hid ((rR.own (by unfold maxLen; omega)).more (show gW + 1 ≤ W4.heap.size by have := (k3.comp k4).size; omega))
  generalize hR : rst (rv (dat p k) (k + 16)) la (genP 16) 17 = R at *
  have HE := Lib.hid henc
  have HRZ := Lib.hid pR.zero
  have HRL := Lib.hid pR.lt
  clear d0 d1 f0 f1 g0 g1 h0 h1 hR henc pR rR k3 k4 k5 k35 b1 b5 b6 b7 AT AG oT rG TD AD RD KD HLA HCD HGP
  go_wp2_with fail
  go_loopw [39] (fun v wr => ∃ i : Nat, i ≤ nr ∧ v = .int .i64 i ∧ Hid (RowU wr gW c3 (k + 16) (encK p k R i)) ∧ Hid (OwnU wr (gW + 1) ar nr nr R) ∧ Keep (fun _ => False) W wr) (fun v _ => nr - (intOf v).toNat)
  case atStart =>
    refine ⟨0, by omega, rfl, Lib.hid (RE.out.congr (fun i _ => ?_)), OR, KE.out⟩
    unfold dat encK
    by_cases h : i < k
    · rw [if_pos h, if_pos h]
    · rw [if_neg h, if_neg h, if_neg (by omega)]
  case round =>
    clear RE OR KE
    obtain ⟨i, hi, rfl, HR, HO, kk⟩ := hrel
    by_cases hin : i < nr
    · have hin' : (i : Int) < (nr : Int) := by omega
      obtain ⟨gR, rfl, hgR, _, rR⟩ := HO.out.row (by omega)
      have cR := rR.val hin
      have hRi := HRL.out i
      have c0 := HR.out.val (show k + 15 - i < k + 16 by omega)
      have z0 := HR.out.frozen (k + 15 - i)
      have e1 : (k : Int) + 16 - 1 - (i : Int) = ((k + 15 - i : Nat) : Int) := by omega
      have e2 : ((k + 15 - i : Nat) : Int) < (k : Int) + 16 := by omega
      have HN := Lib.hid (HR.out.store (k + 15 - i) (R i) (f' := encK p k R (i + 1)) (fun t ht => encK_next p k R i (by omega) t ht))
      have HO2 := Lib.hid (HO.out.far (p := ⟨gW, k + 15 - i, none⟩) (Nat.lt_succ_self gW) (.int .u16 (R i : Nat)))
      have K2 := Lib.hid (kk.setCell (p := ⟨gW, k + 15 - i, none⟩) (.inr (by show W.heap.size ≤ gW; omega)) (.int .u16 (R i : Nat)))
      clear rR HR HO
      go_wp2_with fail
      exact ⟨⟨i + 1, by omega, by go_num, HN, HO2, K2.out⟩, by simp [intOf]; omega⟩
    · obtain rfl : i = nr := by omega
      have hin' : ¬ (i : Int) < (i : Int) := by omega
      go_wp2_with fail
      go_ret2
      exact ⟨⟨_, _, c3, HE.out, rfl, OwnU.of_row (HR.out.congr (fun t _ => encK_end HRZ.out t)) (by omega) hc3⟩, kw.comp kk⟩
end Go.Proofs.Ytnejnoiogojplaa
