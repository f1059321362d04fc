/- The reference's rows: Trim, Distance, Same, PolyAdd, Slope, At. -/
import Derived.Test.YtnejnoiogojplaaRefF
import Derived.Test.YtnejnoiogojplaaMul
import Derived.Test.YtnejnoiogojplaaKeptTail
namespace Go.Proofs.Ytnejnoiogojplaa
open Go.RowKit

set_option maxHeartbeats 2000000 in
set_option maxRecDepth 100000 in
theorem rtrim_any (a : Option Addr) (n c : Nat) (p : Nat → Nat) (w : World) (ha : ArgU w a n p) (hn : n ≤ 1000000) :
    Calls Try.prog 40 #[.slice a n c] w fun e w' => ∃ a' m, e = .returned (.slice a' m m) ∧ ResU w' w.heap.size a' m (cut p n) ∧ IsPol (cut p n) m ∧ m ≤ n ∧ Keep (fun _ => False) w w' := by
  have HA := Lib.hid ha
  clear ha
  go_enter Try.func40, Try.ntmps40
  go_upto_block 0 with (fail)
  go_cut [3] (fun v wc => ∃ k : Nat, k ≤ n ∧ v = .int .i64 k ∧ w = wc ∧ Hid (IsPol (cut p n) k))
  case first =>
    go_wp2
    go_loop [3] (fun v => ∃ k : Nat, k ≤ n ∧ v = .int .i64 k ∧ Hid (∀ i, k ≤ i → cut p n i = 0)) (fun v => (intOf v).toNat)
    case atStart => exact ⟨n, Nat.le_refl _, rfl, Lib.hid fun i hi => cut_zero p hi⟩
    case round =>
      obtain ⟨k, hk, rfl, HZ⟩ := hrel
      by_cases h0 : k = 0
      · subst h0
        go_wp2
        go_meet
        case rel => exact ⟨0, by omega, by rfl, rfl, Lib.hid ⟨cut_lt p n, HZ.out, fun h => by omega⟩⟩
      · obtain ⟨b, off, rfl, hb, hcell⟩ := HA.out.at_ (by omega)
        obtain ⟨j, rfl⟩ : ∃ j, k = j + 1 := ⟨k - 1, by omega⟩
        have hj := hcell j (by omega)
        have e1 : cut p n j = p j % 1024 := cut_in p (by omega)
        have h3 : (((j + 1 : Nat) : Int) - 1) = (j : Int) := by omega
        have h4 := and_1023 (HA.out.lt j (by omega))
        clear hcell h0
        by_cases hz : p j % 1024 = 0
        · have HE := Lib.hid (e1.trans hz)
          rw [hz] at h4
          clear e1 hz
          go_wp2
          exact ⟨⟨j, by omega, rfl, Lib.hid fun i hi => by
            by_cases e : i = j
            · rw [e]; exact HE.out
            · exact HZ.out i (by omega)⟩, by simp [intOf]⟩
        · have HE := Lib.hid (fun h => hz (e1.symm.trans h) : cut p n j ≠ 0)
          have hb1 : (((p j % 1024 : Nat) : Int) == 0) = false := by simp; omega
          have hb2 : ¬ (((p j % 1024 : Nat) : Int)) = 0 := by omega
          clear e1 hz
          go_wp2
          go_meet
          case rel => exact ⟨j + 1, by omega, by rfl, rfl, Lib.hid ⟨cut_lt p n, HZ.out, fun _ => HE.out⟩⟩
  case rest =>
    obtain ⟨k, hk0, rfl, hw, HP⟩ := hcut
    subst hw
    have hm := make_u k k rfl (by omega)
    go_wp2
    clear hm
    go_loopw [5] (fun v wr => ∃ j : Nat, j ≤ k ∧ v = .int .i64 j ∧ Blk wr w.heap.size 23 (uArr (fun i => if i < j then p i % 1024 else 0) k) ∧ Keep (fun _ => False) w wr) (fun v _ => k - (intOf v).toNat)
    case atStart =>
      refine ⟨0, Nat.zero_le _, rfl, ?_, (Keep.refl _ _).alloc _⟩
      have := Blk.new w 23 (uArr (fun _ => 0) k)
      simpa using this
    case round =>
      obtain ⟨j, hj, rfl, hB, hk⟩ := hrel
      by_cases hjk : j < k
      · obtain ⟨b, off, rfl, hb, hcell⟩ := HA.out.at_ (by omega)
        have hs := hk.size
        have hc1 := (hk.cell (p := ⟨b, off + j, none⟩) hb (by simp)).trans (hcell j (by omega))
        have hc2 := hB.val hjk
        have hz := hB.frozen j
        have hjk' : (j : Int) < (k : Int) := by omega
        have hjn : (j : Int) < (n : Int) := by omega
        have h4 := and_1023 (HA.out.lt j (by omega))
        clear hcell
        go_wp2
        go_roundw
        case rel =>
          refine ⟨j + 1, by omega, by go_num, ?_, hk.setCell (p := ⟨w.heap.size, j, none⟩) (.inr (Nat.le_refl _)) _⟩
          exact hB.storeU j (p j % 1024) (fun i hi => by
            by_cases e : i = j
            · subst e; simp
            · by_cases e2 : i < j
              · simp [e, e2, show i < j + 1 by omega]
              · simp [e, e2, show ¬ i < j + 1 by omega])
        case measure => simp [intOf]; omega
      · have hjk' : ¬ (j : Int) < (k : Int) := by omega
        go_wp2
        go_ret
        refine ⟨some ⟨w.heap.size, 0, none⟩, k, rfl, .inr ⟨_, rfl, Nat.le_refl _, ?_⟩, HP.out, hk0, hk⟩
        rw [uArr_congr (g := fun i => if i < j then p i % 1024 else 0)]
        · exact hB
        · intro i hi
          simp [cut, show i < n by omega, show i < j by omega]

theorem ret_int {k : IntKind} {a b : Int} (h : a = b) : Ending.returned (.int k a) = .returned (.int k b) := by rw [h]
set_option maxHeartbeats 2000000 in
set_option maxRecDepth 100000 in
theorem rdist_any (a b : Option Addr) (na nb ca cb : Nat) (p q : Nat → Nat) (w : World) (ha : ArgU w a na p) (hb : ArgU w b nb q) (hna : na ≤ 1000000) (hnb : nb ≤ 1000000) :
    Calls Try.prog 30 #[.slice a na ca, .slice b nb cb] w fun e w' => e = .returned (.int .i64 (max na nb - min na nb + cntNe p q (min na nb) : Nat)) ∧ Keep (fun _ => False) w w' := by
  have HA := Lib.hid ha
  have HB := Lib.hid hb
  obtain ⟨m, hm⟩ : ∃ m, m = max na nb := ⟨_, rfl⟩
  obtain ⟨l, hl⟩ : ∃ l, l = min na nb := ⟨_, rfl⟩
  have hml : m ≤ 1000000 := by omega
  have hlm : l ≤ m := by omega
  have hla : l ≤ na := by omega
  have hlb : l ≤ nb := by omega
  have hor : l = na ∨ l = nb := by omega
  have hmx : (if na < nb then (nb : Int) else (na : Int)) = (m : Int) := by split <;> omega
  have hmn : (if nb < na then (nb : Int) else (na : Int)) = (l : Int) := by split <;> omega
  have HR := Lib.hid (And.intro hm hl)
  clear ha hb hm hl
  go_enter Try.func30, Try.ntmps30
  go_wp2_with fail
  clear hmx hmn
  go_loopw [5, 6] (fun v5 v6 wr => ∃ j : Nat, j ≤ l ∧ v6 = .int .i64 j ∧ v5 = .int .i64 (m - l + cntNe p q j : Nat) ∧ Keep (fun _ => False) w wr) (fun _ v6 _ => l - (intOf v6).toNat)
  case atStart => exact ⟨0, by omega, rfl, by simp [cntNe]; omega, Keep.refl _ _⟩
  case round =>
    obtain ⟨j, hj, rfl, rfl, hk⟩ := hrel
    by_cases hjl : j < l
    · obtain ⟨bA, oA, rfl, hbA, hcA⟩ := HA.out.at_ (by omega)
      obtain ⟨bB, oB, rfl, hbB, hcB⟩ := HB.out.at_ (by omega)
      have c1 := (hk.cell (p := ⟨bA, oA + j, none⟩) hbA (by simp)).trans (hcA j (by omega))
      have c2 := (hk.cell (p := ⟨bB, oB + j, none⟩) hbB (by simp)).trans (hcB j (by omega))
      have h1 : (j : Int) < (na : Int) := by omega
      have h2 : (j : Int) < (nb : Int) := by omega
      have hcj := cntNe_le p q j
      clear hcA hcB
      by_cases hpq : p j = q j
      · have HN := Lib.hid (show cntNe p q (j + 1) = cntNe p q j by simp [cntNe, hpq])
        have e1 : (((p j : Nat) : Int) != ((q j : Nat) : Int)) = false := by simp [hpq]
        rw [hpq] at c1 e1
        clear hpq
        go_wp2_with fail
        go_quiet (fail)
        go_wp2_with fail
        go_roundw
        case rel => exact ⟨j + 1, by omega, by go_num, by rw [HN.out], hk.drewN _⟩
        case measure => simp [intOf]; omega
      · have HN := Lib.hid (show cntNe p q (j + 1) = cntNe p q j + 1 by simp [cntNe, hpq])
        have e1 : (((p j : Nat) : Int) != ((q j : Nat) : Int)) = true := by simp; omega
        have e2 : ¬ ((p j : Nat) : Int) = ((q j : Nat) : Int) := by omega
        go_wp2_with fail
        go_quiet (fail)
        go_wp2_with fail
        go_roundw
        case rel => exact ⟨j + 1, by omega, by go_num, by rw [HN.out]; go_num, hk.drewN _⟩
        case measure => simp [intOf]; omega
    · obtain rfl : j = l := by omega
      have e0 : m - j + cntNe p q j = max na nb - min na nb + cntNe p q (min na nb) := by rw [← HR.out.1, ← HR.out.2]
      have HE := Lib.hid e0
      clear e0
      rcases hor with h | h
      · have h1 : ¬ (j : Int) < (na : Int) := by omega
        go_wp2_with fail
        go_ret
        exact ⟨ret_int (by have h9 := HE.out; rw [h] at h9; omega), hk⟩
      · have h1 : ¬ (j : Int) < (nb : Int) := by omega
        by_cases h2 : j < na
        · have h3 : (j : Int) < (na : Int) := by omega
          go_wp2_with fail
          go_ret
          exact ⟨ret_int (by have h9 := HE.out; rw [h] at h9; omega), hk⟩
        · have h3 : ¬ (j : Int) < (na : Int) := by omega
          go_wp2_with fail
          go_ret
          exact ⟨ret_int (by have h9 := HE.out; rw [h] at h9; omega), hk⟩

set_option maxHeartbeats 2000000 in
theorem same_any (a b : Option Addr) (na nb ca cb : Nat) (p q : Nat → Nat) (w : World) (ha : ArgU w a na p) (hb : ArgU w b nb q) (hna : na ≤ 1000000) (hnb : nb ≤ 1000000) (x : Bool) (hx : Hid ((decide (na = nb) && (cntNe p q na == 0)) = x)) :
    Calls Try.prog 15 #[.slice a na ca, .slice b nb cb] w fun e w' => e = .returned (.bool x) ∧ Keep (fun _ => False) w w' := by
  have HA := Lib.hid ha
  have HB := Lib.hid hb
  clear ha hb
  by_cases h : na = nb
  · subst h
    have h1 := cntNe_le p q na
    have hx1 : (cntNe p q na == 0) = x := by simpa using hx.out
    have hx2 : (((cntNe p q na : Nat) : Int) == 0) = x := by rw [← hx1]; rw [Bool.eq_iff_iff, beq_iff_eq, beq_iff_eq]; omega
    have HX := Lib.hid hx2
    have hd := rdist_any a b na na ca cb p q w HA.out HB.out hna hnb
    rw [Nat.max_self, Nat.min_self, Nat.sub_self, Nat.zero_add] at hd
    have HD := Lib.hid hd
    clear hd hx1 hx2
    go_enter Try.func15, Try.ntmps15
    go_wp2_with fail
    refine HD.out.mono ?_
    rintro e w1 ⟨rfl, k⟩
    go_wp2_with fail
    go_ret
    exact ⟨by rw [← HX.out]; rfl, k⟩
  · have HX := Lib.hid (show false = x by have := hx.out; simpa [h] using this)
    have h1 : ((na : Int) == (nb : Int)) = false := beq_eq_false_iff_ne.2 (by omega)
    have h2 : ¬ (na : Int) = (nb : Int) := by omega
    go_enter Try.func15, Try.ntmps15
    go_wp2_with fail
    go_ret
    exact ⟨by rw [← HX.out]; rfl, Keep.refl _ _⟩
theorem same_yes (a b : Option Addr) (n ca cb : Nat) (p q : Nat → Nat) (w : World) (ha : ArgU w a n p) (hb : ArgU w b n q) (hn : n ≤ 1000000) (he : ∀ i, i < n → p i = q i) :
    Calls Try.prog 15 #[.slice a n ca, .slice b n cb] w fun e w' => e = .returned (.bool true) ∧ Keep (fun _ => False) w w' :=
  same_any a b n n ca cb p q w ha hb hn hn true (Lib.hid (by simp [cntNe_zero.2 he]))

set_option maxHeartbeats 2000000 in
set_option maxRecDepth 100000 in
theorem radd_any (a b : Option Addr) (na nb ca cb : Nat) (p q : Nat → Nat) (w : World) (ha : ArgU w a na p) (hb : ArgU w b nb q) (hna : na ≤ 1000000) (hnb : nb ≤ 1000000) :
    Calls Try.prog 42 #[.slice a na ca, .slice b nb cb] w fun e w' => ∃ a' m, e = .returned (.slice a' m m) ∧ ResU w' w.heap.size a' m (padd (cut p na) (cut q nb)) ∧ IsPol (padd (cut p na) (cut q nb)) m ∧ Keep (fun _ => False) w w' := by
  have HA := Lib.hid ha
  have HB := Lib.hid hb
  obtain ⟨m, hm⟩ : ∃ m, m = max na nb := ⟨_, rfl⟩
  have hma : na ≤ m := by omega
  have hmb : nb ≤ m := by omega
  have hml : m ≤ 1000000 := by omega
  have hmk := make_u m m rfl (by omega)
  have hmx : (if na < nb then (nb : Int) else (na : Int)) = (m : Int) := by split <;> omega
  have HC := Lib.hid (show cut (fun i => if i < nb then (if i < na then p i else 0) ^^^ q i else if i < na then p i else 0) m = padd (cut p na) (cut q nb) by
    funext i
    unfold cut padd
    by_cases h : i < m
    · by_cases h1 : i < nb <;> by_cases h2 : i < na <;> simp [h, h1, h2, xor_mod]
    · simp [h, show ¬ i < na by omega, show ¬ i < nb by omega])
  clear ha hb hm
  go_enter Try.func42, Try.ntmps42
  go_wp2_with fail
  clear hmk hmx
  go_loopw [6] (fun v wr => ∃ j : Nat, j ≤ na ∧ v = .int .i64 j ∧ Blk wr w.heap.size 23 (uArr (fun i => if i < j then p i else 0) m) ∧ Keep (fun _ => False) w wr) (fun v _ => na - (intOf v).toNat)
  case atStart =>
    refine ⟨0, by omega, rfl, ?_, (Keep.refl _ _).alloc _⟩
    have := Blk.new w 23 (uArr (fun _ => 0) m)
    simpa using this
  case round =>
    obtain ⟨j, hj, rfl, hR, hk⟩ := hrel
    by_cases hjn : j < na
    · have hs := hk.size
      obtain ⟨bb, off, rfl, hb, hcell⟩ := HA.out.at_ (by omega)
      have hc1 := (hk.cell (p := ⟨bb, off + j, none⟩) hb (by simp)).trans (hcell j hjn)
      have hc2 := hR.val (show j < m by omega)
      have hz := hR.frozen j
      have hjn' : (j : Int) < (na : Int) := by omega
      have hjm' : (j : Int) < (m : Int) := by omega
      have HN := Lib.hid (hR.storeU j (p j) (f' := fun i => if i < j + 1 then p i else 0) (fun i _ => by
        by_cases e : i = j
        · subst e; simp
        · by_cases e2 : i < j
          · simp [e, e2, show i < j + 1 by omega]
          · simp [e, e2, show ¬ i < j + 1 by omega]))
      clear hcell
      go_wp2_with fail
      go_roundw
      case rel => exact ⟨j + 1, by omega, by go_num, HN.out, hk.setCell (p := ⟨w.heap.size, j, none⟩) (.inr (Nat.le_refl _)) _⟩
      case measure => simp [intOf]; omega
    · obtain rfl : j = na := by omega
      go_wp2_with fail
      go_loopw [7] (fun v wr => ∃ t : Nat, t ≤ nb ∧ v = .int .i64 t ∧ Blk wr w.heap.size 23 (uArr (fun i => if i < t then (if i < j then p i else 0) ^^^ q i else if i < j then p i else 0) m) ∧ Keep (fun _ => False) w wr) (fun v _ => nb - (intOf v).toNat)
      case atStart =>
        refine ⟨0, by omega, rfl, ?_, hk⟩
        simpa using hR
      case round =>
        clear hR hk
        obtain ⟨t, ht, rfl, hR, hk⟩ := hrel
        have hs := hk.size
        by_cases htn : t < nb
        · obtain ⟨bb, off, rfl, hb, hcell⟩ := HB.out.at_ (by omega)
          have hc1 := (hk.cell (p := ⟨bb, off + t, none⟩) hb (by simp)).trans (hcell t htn)
          have htm : t < m := by omega
          have hc2 := hR.val htm
          simp only [Nat.lt_irrefl, if_false] at hc2
          have htn' : (t : Int) < (nb : Int) := by omega
          have htm' : (t : Int) < (m : Int) := by omega
          have hq := HB.out.lt t htn
          have hp : (if t < j then p t else 0) < 65536 := by
            have hpa := HA.out.lt t
            split
            · exact hpa ‹_›
            · omega
          have hx := xor_u16 hp hq
          obtain ⟨u, hu⟩ : ∃ u, u = if t < j then p t else 0 := ⟨_, rfl⟩
          rw [← hu] at hx hc2
          have HN := Lib.hid (fun (W : World) (hW : Blk W w.heap.size 23 (uArr (fun i => if i < t then (if i < j then p i else 0) ^^^ q i else if i < j then p i else 0) m)) => hW.storeU t (u ^^^ q t) (f' := fun i => if i < t + 1 then (if i < j then p i else 0) ^^^ q i else if i < j then p i else 0) (fun i _ => by
            by_cases e : i = t
            · subst e; simp [hu]
            · by_cases e2 : i < t
              · simp [e, e2, show i < t + 1 by omega]
              · simp [e, e2, show ¬ i < t + 1 by omega]))
          have q0 : ∀ z : KeptBy wr, z.v.cell? ⟨bb, off + t, none⟩ = some (.int .u16 (q t)) := fun z => z.cell (show bb < wr.heap.size by omega) hc1
          have q1 : ∀ z : KeptBy wr, z.v.cell? ⟨w.heap.size, t, none⟩ = some (.int .u16 u) := fun z => z.cell hR.lt hc2
          clear hcell hp hq hu
          go_upto_region 9 with fail
          refine wp_region_kept_tail 12 (by kernel_rfl) (by kernel_rfl) ?_
          simp only [List.take_succ_cons, List.take_zero, List.drop_succ_cons, List.drop_zero]
          repeat (quiet_step (fail))
          refine wpQuiet_nil ?_
          rintro w7 ⟨⟨_, k7⟩, rfl⟩
          clear q0 q1
          have dR := hR.keep k7 (by simp)
          have c7 := dR.val htm
          have z7 := dR.frozen t
          have HN2 := Lib.hid (HN.out _ dR)
          have k8 := hk.trans k7 (fun _ hi => .inl hi)
          go_wp2_with fail
          exact ⟨⟨t + 1, by omega, by go_num, HN2.out, k8.setCell (p := ⟨w.heap.size, t, none⟩) (.inr (Nat.le_refl _)) _⟩, by simp [intOf]; omega⟩
        · obtain rfl : t = nb := by omega
          have HR := Lib.hid (hR.argU (by omega) (fun i _ => by
            have hpa := HA.out.lt i
            have hqa := HB.out.lt i
            show (if i < t then (if i < j then p i else 0) ^^^ q i else if i < j then p i else 0) < 65536
            by_cases h1 : i < t <;> by_cases h2 : i < j <;> simp only [h1, h2, if_true, if_false]
            · exact xor_lt16 (hpa h2) (hqa h1)
            · exact xor_lt16 (by omega) (hqa h1)
            · exact hpa h2
            · omega))
          go_wp2_with fail
          refine (rtrim_any _ _ _ _ _ HR.out (by omega)).mono ?_
          rintro e w2 ⟨a', m', rfl, hres, hpol, hle, k2⟩
          rw [HC.out] at hres hpol
          go_wp2_with fail
          go_ret
          exact ⟨a', m', rfl, hres.more hs, hpol, hk.trans k2 (fun _ hi => .inl hi)⟩

def rslopeMid (p : Nat → Nat) (j : Nat) : Nat → Nat := fun i => if i + 1 < j ∧ i % 2 = 0 then p (i + 1) else 0
set_option maxHeartbeats 2000000 in
set_option maxRecDepth 100000 in
theorem rslope_any (a : Option Addr) (n c : Nat) (p : Nat → Nat) (w : World) (ha : ArgU w a n p) (hn : n ≤ 1000000) :
    Calls Try.prog 43 #[.slice a n c] w fun e w' => ∃ a' m, e = .returned (.slice a' m m) ∧ ResU w' w.heap.size a' m (pslope (cut p n)) ∧ IsPol (pslope (cut p n)) m ∧ Keep (fun _ => False) w w' := by
  have HA := Lib.hid ha
  have hmk := make_u n n rfl (by omega)
  clear ha
  go_enter Try.func43, Try.ntmps43
  go_wp2_with fail
  clear hmk
  go_loopw [4] (fun v wr => ∃ j : Nat, j % 2 = 1 ∧ j ≤ n + 1 ∧ v = .int .i64 j ∧ Blk wr w.heap.size 23 (uArr (rslopeMid p j) n) ∧ Keep (fun _ => False) w wr) (fun v _ => n + 1 - (intOf v).toNat)
  case atStart =>
    refine ⟨1, by omega, by omega, rfl, ?_, (Keep.refl _ _).alloc _⟩
    have := Blk.new w 23 (uArr (fun _ => 0) n)
    rwa [uArr_congr (g := rslopeMid p 1) (fun i hi => by simp [rslopeMid])] at this
  case round =>
    obtain ⟨j, hj2, hj, rfl, hR, hk⟩ := hrel
    have hs := hk.size
    by_cases hjn : j < n
    · obtain ⟨bb, off, rfl, hb, hcell⟩ := HA.out.at_ (by omega)
      have hc1 := (hk.cell (p := ⟨bb, off + j, none⟩) hb (by simp)).trans (hcell j hjn)
      have hc2 := hR.val (show j - 1 < n by omega)
      have hz := hR.frozen (j - 1)
      have hjn' : (j : Int) < (n : Int) := by omega
      have e1 : (j : Int) - 1 = ((j - 1 : Nat) : Int) := by omega
      have e2 : ((j - 1 : Nat) : Int) < (n : Int) := by omega
      have HN := Lib.hid (hR.storeU (j - 1) (p j) (f' := rslopeMid p (j + 2)) (fun i _ => by
        unfold rslopeMid
        by_cases e : i = j - 1
        · subst e
          rw [if_pos ⟨by omega, by omega⟩, if_pos rfl, show j - 1 + 1 = j by omega]
        · rw [if_neg e]
          by_cases h : i + 1 < j ∧ i % 2 = 0
          · rw [if_pos h, if_pos ⟨by omega, h.2⟩]
          · rw [if_neg h, if_neg (by omega)]))
      clear hcell
      go_wp2_with fail
      go_roundw
      case rel => exact ⟨j + 2, by omega, by omega, by go_num, HN.out, hk.setCell (p := ⟨w.heap.size, j - 1, none⟩) (.inr (Nat.le_refl _)) _⟩
      case measure => simp [intOf]; omega
    · have hjn' : ¬ (j : Int) < (n : Int) := by omega
      have HR := Lib.hid (hR.argU (by omega) (fun i hi => by
        unfold rslopeMid
        by_cases h : i + 1 < n
        · have := HA.out.lt (i + 1) h
          split <;> omega
        · rw [if_neg (by omega)]; omega))
      have HC := Lib.hid (show cut (rslopeMid p j) n = pslope (cut p n) by
        funext i
        unfold cut rslopeMid pslope
        by_cases h : i + 1 < n
        · by_cases h2 : i % 2 = 0
          · simp [h, h2, show i < n by omega, show i + 1 < j by omega]
          · simp [h2]
        · simp only [h, if_false]
          by_cases h3 : i < n
          · rw [if_pos h3, if_neg (by omega)]; split <;> rfl
          · rw [if_neg h3]; split <;> rfl)
      go_wp2_with fail
      refine (rtrim_any _ _ _ _ _ HR.out (by omega)).mono ?_
      rintro e w2 ⟨a', m', rfl, hres, hpol, hle, k2⟩
      rw [HC.out] at hres hpol
      go_wp2_with fail
      go_ret
      exact ⟨a', m', rfl, hres.more hs, hpol, hk.trans k2 (fun _ hi => .inl hi)⟩
end Go.Proofs.Ytnejnoiogojplaa
