/- poly.Div. -/
import Derived.Test.YtdlmjjlejkkniaaPolW
import Derived.WalkMore
import Derived.ScopeJumps
namespace Go.Proofs.Ytdlmjjlejkkniaa
open Go.RowKit

/-- One step of the long division, at place k. -/
def divR (g : Nat → Nat) (k c j : Nat) (R : Nat → Nat) : Nat → Nat := fun t => if k ≤ t ∧ t < k + j then R t ^^^ gm c (g (t - k)) else R t
noncomputable def divC (g : Nat → Nat) (lb : Nat) (R : Nat → Nat) (k : Nat) : Nat := gm (R (k + lb - 1)) (gi (g (lb - 1)))
/-- k steps of the long division, from place k - 1 down. -/
noncomputable def divRun (g : Nat → Nat) (lb : Nat) : Nat → (Nat → Nat) × (Nat → Nat) → (Nat → Nat) × (Nat → Nat)
  | 0, s => s
  | k + 1, s => divRun g lb k (divR g k (divC g lb s.1 k) lb s.1, fun t => if t = k then divC g lb s.1 k else s.2 t)
theorem divR_next (g : Nat → Nat) (k c j : Nat) (R : Nat → Nat) (t : Nat) : divR g k c (j + 1) R t = if t = k + j then divR g k c j R (k + j) ^^^ gm c (g j) else divR g k c j R t := by
  unfold divR
  by_cases e : t = k + j
  · subst e
    rw [if_pos ⟨by omega, by omega⟩, if_pos rfl, if_neg (by omega), Nat.add_sub_cancel_left]
  · rw [if_neg e]
    by_cases h : k ≤ t ∧ t < k + j
    · rw [if_pos h, if_pos ⟨h.1, by omega⟩]
    · rw [if_neg h, if_neg (by omega)]
theorem divR_lt {g R : Nat → Nat} {k c j : Nat} (hc : c < 1024) (hR : ∀ i, R i < 1024) (t : Nat) : divR g k c j R t < 1024 := by
  unfold divR
  split
  · exact xor_lt (hR t) (gm_lt hc _)
  · exact hR t
theorem divR_zero (g : Nat → Nat) (k c : Nat) (R : Nat → Nat) : divR g k c 0 R = R := by
  funext t
  unfold divR
  rw [if_neg (by omega)]

/-- What the division's loop holds, k places being left. -/
structure DivSt (w : World) (a1 a2 : Option Addr) (n1 n2 c1 c2 : Nat) (aR : Option Addr) (la : Nat) (g : Nat → Nat) (lb gB gq m : Nat) (f : Nat → Nat) (k : Nat) (R Q : Nat → Nat) (W : World) : Prop where
  hk : k ≤ m
  qb : gq ≠ gB
  far : ∀ gR, aR = some ⟨gR, 0, none⟩ → gR ≠ gB ∧ gR ≠ gq
  nq : w.heap.size ≤ gq
  run : Hid (divRun g lb k (R, Q) = divRun g lb m (f, fun _ => 0))
  rl : Hid (∀ i, R i < 1024)
  rz : Hid (∀ i, la ≤ i → R i = 0)
  ql : Hid (∀ i, Q i < 1024)
  qz : Hid (∀ i, m ≤ i → Q i = 0)
  row : ResU W w.heap.size aR la R
  q : Blk W gq 45 (uArr Q m)
  b : Blk W gB 45 (uArr g lb)
  t : Blk W w.heap.size 32 #[.slice a1 n1 c1, .slice a2 n2 c2]
  kp : Keep (fun _ => False) w W

/-- How many places the quotient has. -/
def quoN (la lb : Nat) : Nat := la + 1 - lb
/-- The quotient, and the rest. -/
noncomputable def quo (f : Nat → Nat) (la : Nat) (g : Nat → Nat) (lb : Nat) : Nat → Nat := if lb = 0 then fun _ => 0 else (divRun g lb (quoN la lb) (f, fun _ => 0)).2
noncomputable def rst (f : Nat → Nat) (la : Nat) (g : Nat → Nat) (lb : Nat) : Nat → Nat := if lb = 0 then fun _ => 0 else (divRun g lb (quoN la lb) (f, fun _ => 0)).1

theorem tinv_lt (V : Value) (a : Nat) (w : World) (hT : HasT w V) (ha : a < 1024) (h0 : a ≠ 0) :
    Calls Try.prog 86 #[V, .int .u16 a] w fun e w' => e = .returned (.tuple #[.int .u16 (gi a : Nat), .bool true]) ∧ Keep (fun _ => False) w w' := by
  have := tinv_any V a w hT true (Lib.hid (by rw [Nat.mod_eq_of_lt ha]; simpa using h0))
  rwa [Nat.mod_eq_of_lt ha] at this
theorem wp_scope_jumps2 {P : Program} {a : Act} {w : World} {Q : Exit → Act → World → Prop} {c X : Code} (l : Nat) (J : Act → World → Prop) (m : Act → World → Nat) (hf : findLabel c l = some (Code.skip.seq X))
    (pass : ∀ a w, J a w → X.wp P (Exit.jump l (fun a' w' => J a' w' ∧ m a' w' < m a w) Q) a w)
    (first : (∀ a w, J a w → X.wp P (Exit.jump l J Q) a w) → c.wp P (Exit.jump l J Q) a w) : (Code.scope c).wp P Q a w :=
  wp_scope_jumps l J m hf (first fun a w h => Code.wp_mono (fun e a' w' he => by
    cases e <;> first | exact he | exact ⟨he.1, he.2.1⟩) (pass a w h)) fun a w h => wp_seq (wp_skip (pass a w h))

set_option maxHeartbeats 8000000 in
set_option maxRecDepth 100000 in
theorem div_any (V : Value) (a b : Option Addr) (na nb ca cb : Nat) (p q : Nat → Nat) (la lb : Nat) (hla : IsPol (cut p na) la) (hlb : IsPol (cut q nb) lb) (w : World) (hT : HasT w V) (ha : ArgU w a na p) (hb : ArgU w b nb q)
    (hna : na ≤ 1000000) (hnb : nb ≤ 1000000) (hca : na ≤ ca) (hcb : nb ≤ cb) :
    Calls Try.prog 67 #[V, .slice a na ca, .slice b nb cb] w fun e w' => ∃ aq nq ar nr, e = .returned (.tuple #[.slice aq nq nq, .slice ar nr nr, .bool (lb != 0)]) ∧
      ResU w' w.heap.size aq nq (quo (cut p na) la (cut q nb) lb) ∧ IsPol (quo (cut p na) la (cut q nb) lb) nq ∧ ResU w' w.heap.size ar nr (rst (cut p na) la (cut q nb) lb) ∧ IsPol (rst (cut p na) la (cut q nb) lb) nr ∧ nq ≤ quoN la lb ∧ nr ≤ la ∧ Keep (fun _ => False) w w' := by
  have k0 := Keep.refl (fun _ => False) w
  obtain ⟨a1, n1, c1, a2, n2, c2, rfl⟩ := hT.form
  have b0 := Blk.new w 32 #[.slice a1 n1 c1, .slice a2 n2 c2]
  have k1 := k0.alloc (.cells #[.slice a1 n1 c1, .slice a2 n2 c2] 32)
  have HT := Lib.hid hT
  have HA := Lib.hid (ha.keep k1)
  have HB := Lib.hid (hb.keep k1)
  have hla0 := Lib.hid hla
  have hlb0 := Lib.hid hlb
  clear hT ha hb k0 hla hlb
  go_enter Try.func67, Try.ntmps67
  go_wp2_with fail
  by_cases hb0 : lb = 0
  · subst hb0
    go_step3
    go_wp2_with fail
    refine (trim_any _ _ _ _ _ HA.out hna hca).mono ?_
    rintro e w1 ⟨aR, la', rfl, rA, pA, lA, k2⟩
    have B1 := Lib.hid (HB.out.keep k2)
    have kk1 := k1.trans k2 (fun _ hi => .inl hi)
    clear HB HA b0 k1 k2 rA pA
    go_wp2_with fail
    refine (trim_any _ _ _ _ _ B1.out hnb hcb).mono ?_
    rintro e w2 ⟨aB, lb', rfl, rB, pB, lB, k2⟩
    obtain rfl := hlb0.out.uniq pB
    have kk2 := kk1.trans k2 (fun _ hi => .inl hi)
    clear rB pB
    go_wp2_with fail
    rw [Exit.noGoto_ret]
    go_ret3
    refine ⟨none, 0, none, 0, rfl, .inl ⟨rfl, rfl⟩, ?_, .inl ⟨rfl, rfl⟩, ?_, by omega, by omega, kk2⟩
    · unfold quo
      rw [if_pos rfl]
      exact pol_none
    · unfold rst
      rw [if_pos rfl]
      exact pol_none
  obtain ⟨m, hm⟩ : ∃ m, m = quoN la lb := ⟨_, rfl⟩
  generalize hf : cut p na = f at *
  generalize hg : cut q nb = g at *
  have hlm : la ≤ 1000000 := by
    have h1 := hla0.out.top (m := na) (by
      rcases Nat.lt_or_ge na la with h | h
      · exact absurd (by rw [← hf]; exact cut_zero p (by omega)) (hla0.out.lead (by omega))
      · exact h)
    have h2 := topB_le f na
    omega
  have hmm : m ≤ 1000000 := by rw [hm]; unfold quoN; omega
  have HMQ := Lib.hid hm
  have HF := Lib.hid hf
  have HG := Lib.hid hg
  clear hm hf hg
  refine wp_scope_jumps2 0 (fun a' W => ∃ (k : Nat) (R Q : Nat → Nat) (aR : Option Addr) (gB gq : Nat), a' = { tmps := #[.agg #[.slice a1 n1 c1, .slice a2 n2 c2], .slice a na ca, .slice (some ⟨gB, 0, none⟩) lb lb, .pointer (some ⟨w.heap.size, 0, none⟩), a'.tmps.getD 4 undef, a'.tmps.getD 5 undef, .slice none 0 0, .slice none 0 0, .bool false, .slice aR la la, .int .u16 (gi (g (lb - 1)) : Nat), a'.tmps.getD 11 undef, .slice (some ⟨gq, 0, none⟩) m m, .int .i64 ((k : Int) - 1), a'.tmps.getD 14 undef, a'.tmps.getD 15 undef, a'.tmps.getD 16 undef, a'.tmps.getD 17 undef, a'.tmps.getD 18 undef, a'.tmps.getD 19 undef, a'.tmps.getD 20 undef, a'.tmps.getD 21 undef, a'.tmps.getD 22 undef, a'.tmps.getD 23 undef, a'.tmps.getD 24 undef, a'.tmps.getD 25 undef, a'.tmps.getD 26 undef, a'.tmps.getD 27 undef, a'.tmps.getD 28 undef, a'.tmps.getD 29 undef, a'.tmps.getD 30 undef, a'.tmps.getD 31 undef, a'.tmps.getD 32 undef, a'.tmps.getD 33 undef, a'.tmps.getD 34 undef, a'.tmps.getD 35 undef, a'.tmps.getD 36 undef, a'.tmps.getD 37 undef, a'.tmps.getD 38 undef, a'.tmps.getD 39 undef, a'.tmps.getD 40 undef, a'.tmps.getD 41 undef, a'.tmps.getD 42 undef, a'.tmps.getD 43 undef, a'.tmps.getD 44 undef, a'.tmps.getD 45 undef, a'.tmps.getD 46 undef, a'.tmps.getD 47 undef, a'.tmps.getD 48 undef, a'.tmps.getD 49 undef, a'.tmps.getD 50 undef, a'.tmps.getD 51 undef, a'.tmps.getD 52 undef, a'.tmps.getD 53 undef, a'.tmps.getD 54 undef, a'.tmps.getD 55 undef, a'.tmps.getD 56 undef, a'.tmps.getD 57 undef, a'.tmps.getD 58 undef, a'.tmps.getD 59 undef, a'.tmps.getD 60 undef, a'.tmps.getD 61 undef, a'.tmps.getD 62 undef, a'.tmps.getD 63 undef, a'.tmps.getD 64 undef, a'.tmps.getD 65 undef, a'.tmps.getD 66 undef, a'.tmps.getD 67 undef, a'.tmps.getD 68 undef, a'.tmps.getD 69 undef, a'.tmps.getD 70 undef, a'.tmps.getD 71 undef, a'.tmps.getD 72 undef, a'.tmps.getD 73 undef, a'.tmps.getD 74 undef, a'.tmps.getD 75 undef, a'.tmps.getD 76 undef, a'.tmps.getD 77 undef, a'.tmps.getD 78 undef, a'.tmps.getD 79 undef, a'.tmps.getD 80 undef, a'.tmps.getD 81 undef, a'.tmps.getD 82 undef, a'.tmps.getD 83 undef, a'.tmps.getD 84 undef, a'.tmps.getD 85 undef, a'.tmps.getD 86 undef, a'.tmps.getD 87 undef, a'.tmps.getD 88 undef, a'.tmps.getD 89 undef, a'.tmps.getD 90 undef, a'.tmps.getD 91 undef, a'.tmps.getD 92 undef, a'.tmps.getD 93 undef], defers := [] } ∧ DivSt w a1 a2 n1 n2 c1 c2 aR la g lb gB gq m f k R Q W) (fun a' _ => ((intOf (a'.tmps.getD 13 undef)) + 1).toNat) rfl ?pass ?first
  case first =>
    intro hrest
    have HRest := Lib.hid hrest
    clear hrest
    go_wp2_with fail
    refine (trim_any _ _ _ _ _ HA.out hna hca).mono ?_
    rintro e w1 ⟨aR, la', rfl, rA, pA, lA, k2⟩
    rw [HF.out] at rA pA
    obtain rfl := hla0.out.uniq pA
    have B1 := Lib.hid (HB.out.keep k2)
    have b1 := b0.keep k2 (by simp)
    have kk1 := k1.trans k2 (fun _ hi => .inl hi)
    clear HB HA b0 k1 k2
    go_wp2_with fail
    refine (trim_any _ _ _ _ _ B1.out hnb hcb).mono ?_
    rintro e w2 ⟨aB, lb', rfl, rB, pB, lB, k2⟩
    rw [HG.out] at rB pB
    obtain rfl := hlb0.out.uniq pB
    obtain ⟨gB, rfl, nB, bB⟩ : ∃ gB, aB = some ⟨gB, 0, none⟩ ∧ w1.heap.size ≤ gB ∧ Blk w2 gB 45 (uArr g lb) := by
      rcases rB with h | h
      · omega
      · exact h
    have farA : ∀ gR, aR = some ⟨gR, 0, none⟩ → gR < gB := by
      intro gR e
      rcases rA with ⟨h, _⟩ | ⟨g', h, _, hb⟩
      · rw [h] at e; cases e
      · rw [h] at e
        obtain rfl : g' = gR := by injection e with e; injection e
        have := hb.lt
        omega
    have rA2 : ResU w2 w.heap.size aR la f := by
      have h := rA.more (show w.heap.size ≤ _ by simp)
      exact h.keep k2
    have b2 := b1.keep k2 (by simp)
    have kk2 := kk1.trans k2 (fun _ hi => .inl hi)
    clear B1 b1 kk1 k2 rA rB
    go_upto_region 4 with fail
    have q0 : ∀ z : KeptBy w2, z.v.cell? ⟨w.heap.size, 0, none⟩ = some (.slice a1 n1 c1) := fun z => z.cell b2.lt (by rw [b2.cell]; rfl)
    have q1 : ∀ z : KeptBy w2, z.v.cell? ⟨w.heap.size, 1, none⟩ = some (.slice a2 n2 c2) := fun z => z.cell b2.lt (by rw [b2.cell]; rfl)
    have q2 : ∀ z : KeptBy w2, z.v.cell? ⟨gB, lb - 1, none⟩ = some (.int .u16 (g (lb - 1) : Nat)) := fun z => z.cell bB.lt (bB.val (show lb - 1 < lb by omega))
    have TW := Lib.hid (HT.out.keep kk2)
    have hlb1 : lb ≤ 1000000 := by omega
    have hgl := hlb0.out.lt (lb - 1)
    have hgn := hlb0.out.lead (by omega)
    have e1 : (lb : Int) - 1 = ((lb - 1 : Nat) : Int) := by omega
    have e2 : ((lb - 1 : Nat) : Int) < (lb : Int) := by omega
    have e4 : IntKind.i64.wrap ((lb - 1 : Nat) : Int) = ((lb - 1 : Nat) : Int) := wraps_i64 _ (by omega) (by omega)
    refine wp_region_kept (by kernel_rfl) (by kernel_rfl) ?_
    repeat (quiet_step (first
      | (go_at_call 86; exact kept_of (tinv_lt _ _ _ (TW.out.keep (KeptBy.h _)) hgl hgn))))
    refine wpQuiet_nil ?_
    rintro w3 ⟨⟨_, k3⟩, rfl⟩
    have rA3 := rA2.keep k3
    have bB3 := bB.keep k3 (by simp)
    have b3 := b2.keep k3 (by simp)
    have kk3 := kk2.trans k3 (fun _ hi => .inl hi)
    clear q0 q1 q2 e1 e2 e4 TW rA2 bB b2 kk2 k3 hgl hgn
    have hmk := make_u m m rfl (by omega)
    have hmx : (if (la : Int) - (lb : Int) + 1 < 0 then 0 else (la : Int) - (lb : Int) + 1) = (m : Int) := by
      have := HMQ.out
      unfold quoN at this
      split <;> omega
    have kA := (Keep.refl (fun _ => False) w3).alloc (.cells (uArr (fun _ => 0) m) 45)
    have HD := Lib.hid (show DivSt w a1 a2 n1 n2 c1 c2 aR la g lb gB w3.heap.size m f m f (fun _ => 0) (w3.alloc (.cells (uArr (fun _ => 0) m) 45)) from {
      hk := Nat.le_refl _
      qb := by have := bB3.lt; omega
      far := fun gR e => ⟨by have := farA gR e; omega, by have := farA gR e; have := bB3.lt; omega⟩
      nq := kk3.size
      run := Lib.hid rfl
      rl := Lib.hid hla0.out.lt
      rz := Lib.hid hla0.out.zero
      ql := Lib.hid (fun _ => by omega)
      qz := Lib.hid (fun _ _ => rfl)
      row := rA3.keep kA
      q := Blk.new w3 _ _
      b := bB3.alloc _
      t := b3.alloc _
      kp := kk3.trans kA (fun _ hi => .inl hi) })
    clear rA3 bB3 b3 kk3 kA farA
    go_wp2_with fail
    go_step3
    rename_i hK
    exact hK _ _ (HRest.out _ _ ⟨m, _, _, _, _, _, rfl, HD.out⟩)
  case pass =>
    rintro a' W ⟨k, R, Q, aR, gB, gq, ha, hs⟩
    obtain ⟨T, hTT⟩ : ∃ T : Nat → Value, ∀ i, a'.tmps.getD i undef = T i := ⟨_, fun _ => rfl⟩
    simp only [hTT] at ha
    clear hTT
    subst ha
    rcases k with _ | k
    · have hR := Lib.hid (hs.row.arg (by omega) (fun i => by have := hs.rl.out i; omega))
      have hQ := Lib.hid (hs.q.argU (by omega) (fun i _ => by have := hs.ql.out i; omega))
      have eQ := Lib.hid (cut_of_lt hs.ql.out hs.qz.out)
      have eR := Lib.hid (cut_of_lt hs.rl.out hs.rz.out)
      have er := Lib.hid hs.run.out
      have kp := hs.kp
      have hsz := kp.size
      clear hs
      go_wp2_with fail
      refine (trim_any _ _ _ _ _ hQ.out (by omega) (Nat.le_refl _)).mono ?_
      rintro e W1 ⟨aq, nq, rfl, hq, pq, lq, k2⟩
      rw [eQ.out] at hq pq
      have hR1 := Lib.hid (hR.out.keep k2)
      go_wp2_with fail
      refine (trim_any _ _ _ _ _ hR1.out (by omega) (Nat.le_refl _)).mono ?_
      rintro e W2 ⟨ar, nr, rfl, hr, pr, lr, k3⟩
      rw [eR.out] at hr pr
      have hsz2 := k2.size
      go_wp2_with fail
      simp only [Exit.jump]
      go_ret3
      have e1 : quo f la g lb = Q := by
        have h := er.out
        simp only [divRun] at h
        unfold quo
        rw [if_neg hb0, ← HMQ.out, ← h]
      have e2 : rst f la g lb = R := by
        have h := er.out
        simp only [divRun] at h
        unfold rst
        rw [if_neg hb0, ← HMQ.out, ← h]
      rw [HF.out, HG.out]
      rw [e1, e2]
      refine ⟨aq, nq, ar, nr, ?_, (hq.keep k3).more hsz, pq, hr.more (by omega), pr, by rw [← HMQ.out]; exact lq, lr, (kp.trans k2 (fun _ hi => .inl hi)).trans k3 (fun _ hi => .inl hi)⟩
      have e3 : (lb != 0) = true := by simpa using hb0
      rw [e3]
      rfl
    · have hkm := hs.hk
      have hml : m = la + 1 - lb := by rw [HMQ.out]; rfl
      have hlal : lb ≤ la := by omega
      obtain ⟨gR, eaR, hNR, bR⟩ : ∃ gR, aR = some ⟨gR, 0, none⟩ ∧ w.heap.size ≤ gR ∧ Blk W gR 45 (uArr R la) := by
        rcases hs.row with h | ⟨gR, h1, h2, h3⟩
        · omega
        · exact ⟨gR, h1, h2, h3⟩
      subst eaR
      obtain ⟨nRB, nRq⟩ := hs.far gR rfl
      have nqB := hs.qb
      have HMm := Lib.hid hml
      clear hml
      have bq := hs.q
      have bB := hs.b
      have bT := hs.t
      have kp := hs.kp
      have nq := hs.nq
      have rl := hs.rl
      have ql := hs.ql
      have Hrun := Lib.hid hs.run.out
      have Hrz := Lib.hid hs.rz.out
      have Hqz := Lib.hid hs.qz.out
      clear hs
      have hik : k + lb - 1 < la := by have := HMm.out; omega
      have ek : (((k + 1 : Nat) : Int) - 1) = (k : Int) := by omega
      have e1 : (k : Int) + (lb : Int) - 1 = ((k + lb - 1 : Nat) : Int) := by omega
      have HkI := Lib.hid ek
      rw [ek]
      clear ek
      have q0 : ∀ z : KeptBy W, z.v.cell? ⟨w.heap.size, 0, none⟩ = some (.slice a1 n1 c1) := fun z => z.cell bT.lt (by rw [bT.cell]; rfl)
      have q1 : ∀ z : KeptBy W, z.v.cell? ⟨w.heap.size, 1, none⟩ = some (.slice a2 n2 c2) := fun z => z.cell bT.lt (by rw [bT.cell]; rfl)
      have q2 : ∀ z : KeptBy W, z.v.cell? ⟨gR, k + lb - 1, none⟩ = some (.int .u16 (R (k + lb - 1) : Nat)) := fun z => z.cell bR.lt (bR.val hik)
      have TW := Lib.hid (HT.out.keep kp)
      have hkm' : (k : Int) < (m : Int) := by omega
      have hrk := rl.out (k + lb - 1)
      have hgi := gi_lt (g (lb - 1))
      obtain ⟨c, hc⟩ : ∃ c, c = divC g lb R k := ⟨_, rfl⟩
      have HC := Lib.hid hc
      have hcl : c < 1024 := by rw [hc]; exact gm_lt hrk _
      clear hc
      go_upto_region 9 with fail
      have e2 : ((k + lb - 1 : Nat) : Int) < (la : Int) := by omega
      have e3 : IntKind.i64.wrap ((k : Int) + (lb : Int)) = (k : Int) + (lb : Int) := wraps_i64 _ (by omega) (by omega)
      have e4 : IntKind.i64.wrap ((k + lb - 1 : Nat) : Int) = ((k + lb - 1 : Nat) : Int) := wraps_i64 _ (by omega) (by omega)
      refine wp_region_kept_tail 14 (by kernel_rfl) (by kernel_rfl) ?_
      simp only [List.take_succ_cons, List.take_zero, List.drop_succ_cons, List.drop_zero]
      repeat (quiet_step (first
        | (go_at_call 87; exact kept_of (tmul_lt _ _ _ _ (TW.out.keep (KeptBy.h _)) hrk hgi))))
      refine wpQuiet_nil ?_
      rintro w5 ⟨⟨_, k5⟩, rfl⟩
      clear q0 q1 q2 e3 e4 TW
      have dR := bR.keep k5 (by simp)
      have dq := bq.keep k5 (by simp)
      have dB := bB.keep k5 (by simp)
      have dT := bT.keep k5 (by simp)
      have kp5 := kp.trans k5 (fun _ hi => .inl hi)
      have hkmn : k < m := by omega
      have cq := dq.val hkmn
      have zq := dq.frozen k
      obtain ⟨Q', hQ'⟩ : ∃ Q', Q' = fun t => if t = k then c else Q t := ⟨_, rfl⟩
      have hcc := HC.out
      unfold divC at hcc
      have nTq := dT.ne dq (by decide)
      have nTR := dT.ne dR (by decide)
      have fq : Blk (w5.setCell ⟨gq, k, none⟩ (.int .u16 (gm (R (k + lb - 1)) (gi (g (lb - 1))) : Nat))) gq 45 (uArr Q' m) := dq.storeU k _ (fun t _ => by rw [hQ', hcc])
      have fR := dR.far (p := ⟨gq, k, none⟩) nRq (.int .u16 (gm (R (k + lb - 1)) (gi (g (lb - 1))) : Nat))
      have fB := dB.far (p := ⟨gq, k, none⟩) (Ne.symm nqB) (.int .u16 (gm (R (k + lb - 1)) (gi (g (lb - 1))) : Nat))
      have fT := dT.far (p := ⟨gq, k, none⟩) nTq (.int .u16 (gm (R (k + lb - 1)) (gi (g (lb - 1))) : Nat))
      have fK := kp5.setCell (p := ⟨gq, k, none⟩) (.inr nq) (.int .u16 (gm (R (k + lb - 1)) (gi (g (lb - 1))) : Nat))
      have hQk : Q' k = c := by rw [hQ']; simp
      have HQ := Lib.hid hQ'
      have HQk := Lib.hid hQk
      clear hQ' hQk hcc bR bq bB bT kp dR dq dB dT kp5 k5 e2
      have fR0 := fR
      rw [show uArr R la = uArr (divR g k c 0 R) la by rw [divR_zero]] at fR0
      clear fR
      go_wp2_with fail
      clear cq zq
      generalize w5.setCell ⟨gq, k, none⟩ (.int .u16 (gm (R (k + lb - 1)) (gi (g (lb - 1))) : Nat)) = w6 at fq fR0 fB fT fK ⊢
      go_loopw [67] (fun v wr => ∃ j : Nat, j ≤ lb ∧ v = .int .i64 j ∧ Blk wr gR 45 (uArr (divR g k c j R) la) ∧ Blk wr gq 45 (uArr Q' m) ∧ Blk wr gB 45 (uArr g lb) ∧
        Blk wr w.heap.size 32 #[.slice a1 n1 c1, .slice a2 n2 c2] ∧ Keep (fun _ => False) w wr) (fun v _ => lb - (intOf v).toNat)
      case atStart => exact ⟨0, by omega, rfl, fR0, fq, fB, fT, fK⟩
      case round =>
        clear fR0 fq fB fT fK
        obtain ⟨j, hj, rfl, fR, fq, fB, fT, fK⟩ := hrel
        by_cases hjl : j < lb
        · have hjl' : (j : Int) < (lb : Int) := by omega
          have hkj : k + j < la := by have := HMm.out; omega
          have cg := fB.val hjl
          have cq := fq.val hkmn
          rw [HQk.out] at cq
          have cR := fR.val hkj
          have q0 : ∀ z : KeptBy wr, z.v.cell? ⟨w.heap.size, 0, none⟩ = some (.slice a1 n1 c1) := fun z => z.cell fT.lt (by rw [fT.cell]; rfl)
          have q1 : ∀ z : KeptBy wr, z.v.cell? ⟨w.heap.size, 1, none⟩ = some (.slice a2 n2 c2) := fun z => z.cell fT.lt (by rw [fT.cell]; rfl)
          have q2 : ∀ z : KeptBy wr, z.v.cell? ⟨gR, k + j, none⟩ = some (.int .u16 (divR g k c j R (k + j) : Nat)) := fun z => z.cell fR.lt cR
          have q3 : ∀ z : KeptBy wr, z.v.cell? ⟨gq, k, none⟩ = some (.int .u16 c) := fun z => z.cell fq.lt cq
          have TW := Lib.hid (HT.out.keep fK)
          have hgj := hlb0.out.lt j
          have hrl := divR_lt (g := g) (k := k) (j := j) hcl rl.out (k + j)
          have e1 : (k : Int) + (j : Int) < (la : Int) := by omega
          have e2 : (0 : Int) ≤ (k : Int) + (j : Int) := by omega
          have e3 : ((k : Int) + (j : Int)).toNat = k + j := by omega
          go_upto_region 13 with fail
          have e0 : IntKind.i64.wrap ((k : Int) + (j : Int)) = (k : Int) + (j : Int) := wraps_i64 _ (by omega) (by omega)
          refine wp_region_kept_tail 19 (by kernel_rfl) (by kernel_rfl) ?_
          simp only [List.take_succ_cons, List.take_zero, List.drop_succ_cons, List.drop_zero]
          repeat (quiet_step (first
            | (go_at_call 87; exact kept_of (tmul_lt _ _ _ _ (TW.out.keep (KeptBy.h _)) hcl hgj))
            | (go_at_call 88; exact kept_of (fadd_kept _ _ _ hrl (gm_lt hcl _)))))
          refine wpQuiet_nil ?_
          rintro w7 ⟨⟨_, k7⟩, rfl⟩
          clear q0 q1 q2 q3 e0 TW
          have dR := fR.keep k7 (by simp)
          have cR7 := dR.val hkj
          have zR := dR.frozen (k + j)
          have HN := Lib.hid (dR.storeU (k + j) (divR g k c j R (k + j) ^^^ gm c (g j)) (f' := divR g k c (j + 1) R) (fun t _ => divR_next g k c j R t))
          have Hq := Lib.hid ((fq.keep k7 (by simp)).far (p := ⟨gR, k + j, none⟩) (Ne.symm nRq) (.int .u16 (divR g k c j R (k + j) ^^^ gm c (g j) : Nat)))
          have HBB := Lib.hid ((fB.keep k7 (by simp)).far (p := ⟨gR, k + j, none⟩) (Ne.symm nRB) (.int .u16 (divR g k c j R (k + j) ^^^ gm c (g j) : Nat)))
          have HTT := Lib.hid ((fT.keep k7 (by simp)).far (p := ⟨gR, k + j, none⟩) nTR (.int .u16 (divR g k c j R (k + j) ^^^ gm c (g j) : Nat)))
          have HK := Lib.hid ((fK.trans k7 (fun _ hi => .inl hi)).setCell (p := ⟨gR, k + j, none⟩) (.inr hNR) (.int .u16 (divR g k c j R (k + j) ^^^ gm c (g j) : Nat)))
          clear fR fq fB fT fK k7 dR
          go_wp2_with fail
          exact ⟨⟨j + 1, by omega, by go_num, HN.out, Hq.out, HBB.out, HTT.out, HK.out⟩, by simp [intOf]; omega⟩
        · obtain rfl : j = lb := by omega
          have hjl' : ¬ (j : Int) < (j : Int) := by omega
          have HD := Lib.hid (show DivSt w a1 a2 n1 n2 c1 c2 (some ⟨gR, 0, none⟩) la g j gB gq m f k (divR g k c j R) Q' wr from {
            hk := by omega
            qb := nqB
            far := fun g' e => by
              obtain rfl : gR = g' := by injection e with e; injection e
              exact ⟨nRB, nRq⟩
            nq := nq
            run := Lib.hid (by
              have h := Hrun.out
              simp only [divRun] at h
              rw [← HC.out, ← HQ.out] at h
              exact h)
            rl := Lib.hid (divR_lt hcl rl.out)
            rz := Lib.hid (fun i hi => by
              unfold divR
              rw [if_neg (by have := HMm.out; omega)]
              exact Hrz.out i hi)
            ql := Lib.hid (fun i => by
              rw [HQ.out]
              show (if i = k then c else Q i) < 1024
              split
              · exact hcl
              · exact ql.out i)
            qz := Lib.hid (fun i hi => by
              rw [HQ.out]
              show (if i = k then c else Q i) = 0
              rw [if_neg (by omega)]
              exact Hqz.out i hi)
            row := .inr ⟨gR, rfl, hNR, fR⟩
            q := fq
            b := fB
            t := fT
            kp := fK })
          clear fR fq fB fT fK
          go_wp2_with fail
          go_step3
          refine ⟨rfl, ⟨k, _, _, _, _, _, rfl, HD.out⟩, ?_⟩
          simp [intOf]
end Go.Proofs.Ytdlmjjlejkkniaa
