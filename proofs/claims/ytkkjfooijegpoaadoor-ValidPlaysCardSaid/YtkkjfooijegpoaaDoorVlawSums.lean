/- The walk of blackboardlaw14.ValidSums: it answers true, and leaves alone what was there. -/
import Derived.Test.YtkkjfooijegpoaaDoorVlawWalks
import Derived.StillTailTactics
namespace Go.Proofs.YtkkjfooijegpoaaDoor
open Go.RowKit

theorem cntF_split (f : Nat → Bool) (a b c : Nat) (h1 : a ≤ b) (h2 : b ≤ c) : cntF f a c = cntF f a b + cntF f b c := by
  obtain ⟨d, rfl⟩ : ∃ d, c = b + d := ⟨c - b, by omega⟩
  clear h2
  induction d with
  | zero => simp [cntF_self]
  | succ d ih => rw [← Nat.add_assoc, cntF_succ f a _ (by omega), cntF_succ f b _ (by omega), ih, Nat.add_assoc]
theorem sums_split (n : Nat) (f : Nat → Bool) (c : Nat) : countN n f 0 c + countN n f c ((n : Int) + 5) = countN n f 0 n := by
  unfold countN
  simp only [Int.toNat_natCast, Int.toNat_zero]
  rw [show min n ((n : Int) + 5).toNat = n by omega, Nat.min_self]
  by_cases h : c ≤ n
  · rw [Nat.min_eq_right h, cntF_split f 0 c n (by omega) h]
  · rw [Nat.min_eq_left (by omega), cntF_self f c n (by omega), Nat.add_zero]
theorem countN_none (n : Nat) (f : Nat → Bool) (a b : Int) (h : b ≤ a) : countN n f a b = 0 := by
  unfold countN
  exact cntF_self _ _ _ (by omega)
/-- A bit turned and turned back. -/
theorem setF_back (n : Nat) (f : Nat → Bool) (i : Int) : setF n (setF n f i (!(f i.toNat))) i (f i.toNat) = f := by
  funext k
  unfold setF
  split
  · rename_i h; rw [h.2.2]
  · rfl

theorem IsBits.drew {w : World} {pb sb n : Nat} {f : Nat → Bool} (h : IsBits w pb sb n f) : IsBits w.drew pb sb n f := ⟨h.hn, h.hp.drew, h.hs.drew, h.hf⟩
theorem IsBits.drewN {w : World} {pb sb n : Nat} {f : Nat → Bool} (h : IsBits w pb sb n f) (k : Nat) : IsBits (w.drewN k) pb sb n f := ⟨h.hn, h.hp.drewN k, h.hs.drewN k, h.hf⟩

theorem sums_true (w : World) (a : Option Addr) (len cap : Nat) (zs : Nat → Int) (n c : Nat) (hn : n < 65536) (hc : c < 65536) (ha : ArgInts .u16 w a len zs) (hT : TabAt 0 Lib.deBruijn64tab w) :
    Calls Tryd.prog 5 #[.slice a len cap, .int .u16 n, .int .u16 c] w fun e w' => e = .returned (.bool true) ∧ Keep (fun _ => False) w w' := by
  have hlt := tab_lt hT
  have hsm := ha.small
  unfold maxLen at hsm
  go_enter Tryd.func5, Tryd.ntmps5
  go_wp2_with fail
  refine (awake_true w hT).mono ?_
  rintro e w0 ⟨rfl, k0⟩
  have hT0 := tab_keep hT k0 (by simp)
  have z0 := k0.size
  by_cases h300 : 300 < len
  · go_wp2
    go_ret
    exact ⟨rfl, k0⟩
  · obtain ⟨K, hK⟩ : ∃ K, K = n % 1000 := ⟨_, rfl⟩
    have hK1 : (n : Int) % 1000 = (K : Int) := by omega
    have hK2 : K < 1000 := by omega
    clear hK
    go_wp2_with fail
    refine (new_any K K w0 (.inr (.inl ⟨rfl, by omega⟩))).mono ?_
    rintro e w1 ⟨rfl, b1, k1⟩
    have hT1 := tab_keep hT0 k1 (by simp)
    have z1 := b1.hp.lt
    go_wp2_with fail
    have kk : Keep (fun _ => False) w w1 := k0.trans k1 (fun i hi => .inl hi)
    go_loopw [9] (fun i wr => ∃ (j : Nat) (f : Nat → Bool), j ≤ len ∧ i = .int .i64 j ∧ IsBits wr (w0.heap.size + 1) w0.heap.size K f ∧ Keep (fun _ => False) w wr) (fun i _ => len - (intOf i).toNat)
    case atStart => exact ⟨0, fun _ => false, Nat.zero_le _, rfl, b1, kk⟩
    case round =>
      obtain ⟨j, f, hj, rfl, br, kr⟩ := hrel
      have hTr := tab_keep hT kr (by simp)
      by_cases hjl : j < len
      · obtain ⟨b, off, rfl, hb, hc⟩ := (ha.keep kr).at_ (by omega)
        have hcell := hc j hjl
        have hz := u16_bounds (ha.wf j hjl)
        obtain ⟨hz0, hz1⟩ := hz
        have hjl' : (j : Int) < (len : Int) := by omega
        clear hc
        go_wp2_with fail
        go_still_tail 13, (by kernel_rfl)
        change wpList _ _ _ _ _ wr.drew
        go_wp2_with (go_at_call 9; refine (set_any _ _ _ _ _ _ _ br.drew).mono ?_; rintro e w' ⟨rfl, br2, kr2⟩)
        go_roundw
        case rel => exact ⟨j + 1, _, by omega, by go_num, br2, kr.drew.trans kr2 (fun i hi => .inr (by omega))⟩
        case measure => simp [intOf]; omega
      · obtain ⟨C, hC⟩ : ∃ C, C = c % 1001 := ⟨_, rfl⟩
        have hC1 : (c : Int) % 1001 = (C : Int) := by omega
        have hcl := cntF_le f 0 K
        have e1 := sums_split K f C
        have e2 := countN_none K f 5 5 (by omega)
        have e3 := countN_none K f 9 3 (by omega)
        have e4 := countN_all K f
        obtain ⟨x1, hx1⟩ : ∃ x, x = countN K f 0 C := ⟨_, rfl⟩
        obtain ⟨x2, hx2⟩ : ∃ x, x = countN K f C ((K : Int) + 5) := ⟨_, rfl⟩
        rw [← hx1, ← hx2, e4] at e1
        have h12 : (x1 : Int) + (x2 : Int) = (cntF f 0 K : Int) := by omega
        have H1 := Lib.hid hx1
        have H2 := Lib.hid hx2
        have H4 := Lib.hid e4
        clear hC hx1 hx2 e4 e1
        go_wp2_with fail
        refine (count_any _ _ _ _ _ _ _ br hTr).mono ?_
        rintro e w' ⟨rfl, rfl⟩
        rw [H4.out]
        go_wp2_with fail
        refine (count_any _ _ _ _ _ _ _ br hTr).mono ?_
        rintro e w' ⟨rfl, rfl⟩
        rw [← H1.out]
        go_wp2_with fail
        refine (count_any _ _ _ _ _ _ _ br hTr).mono ?_
        rintro e w' ⟨rfl, rfl⟩
        rw [← H2.out]
        go_wp2_with fail
        refine (count_any _ _ _ _ _ _ _ br hTr).mono ?_
        rintro e w' ⟨rfl, rfl⟩
        go_wp2_with fail
        refine (count_any _ _ _ _ _ _ _ br hTr).mono ?_
        rintro e w' ⟨rfl, rfl⟩
        go_wp2_with fail
        go_loopw [12] (fun i ws => ∃ j : Nat, j ≤ K + 7 ∧ i = .int .i64 j ∧ IsBits ws (w0.heap.size + 1) w0.heap.size K f ∧ Keep (fun _ => False) w ws) (fun i _ => K + 7 - (intOf i).toNat)
        case atStart => exact ⟨0, by omega, rfl, br, kr⟩
        case round =>
          obtain ⟨j, hj, rfl, bs, ks⟩ := hrel
          have hTs := tab_keep hT ks (by simp)
          by_cases hjk : j < K
          · have hh : hasB K f j = f j := by simp [hasB, hjk]
            have HS1 : Hid (setB K f j (!(f j)) = true) := Lib.hid (by simp [setB, hjk])
            have HS2 : Hid (setB K (setF K f j (!(f j))) j (f j) = true) := Lib.hid (by simp [setB, setF, hjk])
            have HS3 : Hid (setB K f j (f j) = false) := Lib.hid (by simp [setB, hjk])
            have HB := Lib.hid (setF_back K f j)
            obtain ⟨was, hwas⟩ : ∃ was, was = f j := ⟨_, rfl⟩
            rw [← hwas] at hh HS1 HS2 HS3
            have HB2 : Hid (setF K (setF K f j (!was)) j was = f) := Lib.hid (by rw [hwas]; exact HB.out)
            clear hwas HB
            go_wp2_with fail
            refine (has_any _ _ _ _ _ _ bs).mono ?_
            rintro e w' ⟨rfl, rfl⟩
            go_wp2_with fail
            refine (set_yes _ _ _ _ _ _ _ bs HS1).mono ?_
            rintro e w2 ⟨rfl, b2, k2⟩
            go_wp2_with fail
            refine (set_yes _ _ _ _ _ _ _ b2 HS2).mono ?_
            rintro e w3 ⟨rfl, b3, k3⟩
            rw [HB2.out] at b3
            go_wp2_with fail
            refine (set_no _ _ _ _ _ _ _ b3 HS3).mono ?_
            rintro e w' ⟨rfl, rfl⟩
            go_wp2_with fail
            go_roundw
            case rel => exact ⟨j + 7, by omega, by go_num, b3, (ks.trans k2 (fun i hi => .inr (by omega))).trans k3 (fun i hi => .inr (by omega))⟩
            case measure => simp [intOf]; omega
          · go_wp2_with fail
            refine (count_any _ _ _ _ _ _ _ bs hTs).mono ?_
            rintro e w' ⟨rfl, rfl⟩
            rw [H4.out]
            go_wp2_with fail
            go_ret
            exact ⟨rfl, ks⟩

theorem sums_of (w : World) (a : Option Addr) (len cap : Nat) (zs : Nat → Int) (n c : Int) (hn : (Lit.int .u16 n).wf = true) (hc : (Lit.int .u16 c).wf = true) (ha : ArgInts .u16 w a len zs) (hT : TabAt 0 Lib.deBruijn64tab w) :
    Calls Tryd.prog 5 #[.slice a len cap, .int .u16 n, .int .u16 c] w fun e w' => e = .returned (.bool true) ∧ Keep (fun _ => False) w w' := by
  obtain ⟨h0, h1⟩ := u16_bounds hn
  obtain ⟨h2, h3⟩ := u16_bounds hc
  obtain ⟨m, rfl⟩ := Int.eq_ofNat_of_zero_le h0
  obtain ⟨k, rfl⟩ := Int.eq_ofNat_of_zero_le h2
  exact sums_true w a len cap zs m k (by omega) (by omega) ha hT
end Go.Proofs.YtkkjfooijegpoaaDoor
