/- The reference's Exp, Generator, Syndromes, clean. -/
import Derived.Test.YtnejnoiogojplaaCodeAll
import Derived.Test.YtnejnoiogojplaaRefA
namespace Go.Proofs.Ytnejnoiogojplaa
open Go.RowKit

theorem gm_two (i : Nat) : gm (ex i) 2 = ex (i + 1) := ex_add i 1
set_option maxHeartbeats 1000000 in
theorem rexp_any (n : Nat) (w : World) (hn : n < 1023) :
    Calls Try.prog 34 #[.int .i64 n] w fun e w' => e = .returned (.int .u16 (ex n : Nat)) ∧ w = w' := by
  have e1 : ((n : Int)).tmod 1023 = (n : Int) := by rw [Int.tmod_eq_emod_of_nonneg (by omega)]; omega
  have e2 : ((n : Int) + 1023).tmod 1023 = (n : Int) := by rw [Int.tmod_eq_emod_of_nonneg (by omega)]; omega
  go_enter Try.func34, Try.ntmps34
  go_wp2_with fail
  go_loopw [3, 4] (fun v3 v4 wr => ∃ i : Nat, i ≤ n ∧ v4 = .int .i64 i ∧ v3 = .int .u16 (ex i : Nat) ∧ w = wr) (fun _ v4 _ => n - (intOf v4).toNat)
  case atStart => exact ⟨0, by omega, rfl, rfl, rfl⟩
  case round =>
    obtain ⟨i, hi, rfl, rfl, rfl⟩ := hrel
    have hx := ex_lt i
    by_cases hin : i < n
    · have hin' : (i : Int) < (n : Int) := by omega
      have HG := Lib.hid (gm_two i)
      go_wp2_with fail
      refine (rmul_lt (ex i) 2 _ hx (by omega)).mono ?_
      rintro e w1 ⟨rfl, rfl⟩
      rw [HG.out]
      go_wp2_with fail
      exact ⟨⟨i + 1, by omega, by go_num, rfl, by first | rfl | trivial⟩, by simp [intOf]; omega⟩
    · obtain rfl : i = n := by omega
      have hin' : ¬ (i : Int) < (i : Int) := by omega
      go_wp2_with fail
      go_ret
      exact ⟨rfl, rfl⟩

set_option maxHeartbeats 2000000 in
theorem rgenerator_any (w : World) :
    Calls Try.prog 17 #[] w fun e w' => ∃ a', e = .returned (.slice a' 17 17) ∧ ResU w' w.heap.size a' 17 (genP 16) ∧ Keep (fun _ => False) w w' := by
  have A := Laid.pol w #[.int .u16 1] _ _ p1 (by omega) (uArr_one 1)
  have k0 := A.k
  have r0 : ResU (w.alloc (.cells #[.int .u16 1] 23)) w.heap.size (some ⟨w.heap.size, 0, none⟩) (0 + 1) (genP 0) := .inr ⟨w.heap.size, rfl, by omega, Blk.new w _ _⟩
  clear A
  go_enter Try.func17, Try.ntmps17
  go_wp2_with fail
  go_loopw [1, 2] (fun v3 v4 wr => ∃ (i : Nat) (aP : Option Addr), i ≤ 16 ∧ v3 = .slice aP (i + 1) (i + 1) ∧ v4 = .int .i64 ((i : Int) + 1) ∧ Hid (ResU wr w.heap.size aP (i + 1) (genP i)) ∧ Keep (fun _ => False) w wr) (fun _ v _ => 17 - (intOf v).toNat)
  case atStart => exact ⟨0, _, by omega, rfl, rfl, Lib.hid r0, k0⟩
  case round =>
    clear r0 k0
    obtain ⟨i, aP, hi, rfl, rfl, HP, kk⟩ := hrel
    by_cases hil : i < 16
    · have hil' : (i : Int) + 1 ≤ 16 := by omega
      have eM := Lib.hid (genM i hil)
      have HPP := Lib.hid (show IsPol (cut (genP i) (i + 1)) (i + 1) by rw [(genP_pol i).cut (Nat.le_refl _)]; exact genP_pol i)
      have hxl := ex_lt (i + 1)
      have A := Laid.new wr #[.int .u16 (ex (i + 1) : Nat), .int .u16 1] (lst [ex (i + 1), 1]) 2 (uArr_two _ _) (by omega) (fun j _ => lst_small [ex (i + 1), 1] (by simp; omega) j)
      have AP := Lib.hid ((HP.out.keep A.k).arg (by omega) (genP_pol i).lt16)
      have AA := Lib.hid (A.a _ rfl)
      have kA := kk.comp A.k
      have HE := Lib.hid (rexp_any (i + 1) wr (by omega))
      clear A HP
      go_wp2_with fail
      refine HE.out.mono ?_
      rintro e w1 ⟨rfl, rfl⟩
      go_wp2_with fail
      refine (rpmul_any _ _ (i + 1) 2 (i + 1) 2 _ _ (i + 1) 2 HPP.out (lin_pol (ex (i + 1))) _ AP.out AA.out (by omega) (by omega)).mono ?_
      rintro e w5 ⟨aQ, mQ, rfl, rQ, pQ, k5⟩
      rw [eM.out] at rQ pQ
      obtain rfl : mQ = i + 1 + 1 := pQ.uniq (genP_pol (i + 1))
      have R5 := Lib.hid (rQ.more (show w.heap.size ≤ _ from kA.size))
      have K5 := kA.comp k5
      clear rQ pQ kA kk k5 AP AA
      go_wp2_with fail
      go_roundw
      case rel => exact ⟨i + 1, aQ, by omega, rfl, by go_num, R5, K5⟩
      case measure => simp [intOf]; omega
    · obtain rfl : i = 16 := by omega
      have hil' : ¬ ((16 : Nat) : Int) + 1 ≤ 16 := by omega
      go_wp2_with fail
      go_ret
      exact ⟨aP, rfl, HP.out, kk⟩

/-- The value so far: the first k symbols, by Horner. -/
theorem hor_front {p : Nat → Nat} {n x k : Nat} (hk : k < n) : hor (rv p n) x (n - (k + 1)) (k + 1) = gm (hor (rv p n) x (n - k) k) x ^^^ p k := by
  rw [hor, show n - (k + 1) + 1 = n - k by omega]
  congr 1
  unfold rv
  rw [if_pos (by omega)]
  congr 1
  omega
set_option maxHeartbeats 4000000 in
theorem rsyn_any (a : Option Addr) (n c : Nat) (p : Nat → Nat) (w : World) (ha : ArgU w a n p) (hn : n ≤ 1000000) :
    Calls Try.prog 22 #[.slice a n c] w fun e w' => ∃ a' c', e = .returned (.slice a' 16 c') ∧ OwnU w' w.heap.size a' 16 c' (synW (fun i => p i % 1024) n) ∧ Keep (fun _ => False) w w' := by
  have HA := Lib.hid ha
  have hpl : ∀ i, i < n → p i % 1024 < 1024 := fun i _ => Nat.mod_lt _ (by omega)
  have HPL := Lib.hid hpl
  clear ha hpl
  go_enter Try.func22, Try.ntmps22
  go_wp2_with fail
  go_loopw [3, 4, 5] (fun v3 v4 v5 wr => ∃ (j : Nat) (a' : Option Addr) (c' : Nat), j ≤ 16 ∧ v5 = .int .i64 ((j : Int) + 1) ∧ v4 = .int .u16 (ex j : Nat) ∧ v3 = .slice a' j c' ∧ Hid (OwnU wr w.heap.size a' j c' (synW (fun i => p i % 1024) n)) ∧ Keep (fun _ => False) w wr) (fun _ _ v5 _ => 17 - (intOf v5).toNat)
  case atStart => exact ⟨0, none, 0, by omega, rfl, rfl, rfl, Lib.hid (World.ownsRow_nil w _ _ 1), Keep.refl _ _⟩
  case round =>
    obtain ⟨j, a', c', hj, rfl, rfl, rfl, HO, kk⟩ := hrel
    by_cases hj16 : j < 16
    · have hj16' : (j : Int) + 1 ≤ 16 := by omega
      have hx := ex_lt j
      have HG := Lib.hid (gm_two j)
      go_wp2_with fail
      refine (rmul_lt (ex j) 2 _ hx (by omega)).mono ?_
      rintro e w1 ⟨rfl, rfl⟩
      rw [HG.out]
      clear HG hx
      have hx := ex_lt (j + 1)
      have HV := Lib.hid (fun k (hk : k < n) => hor_front (p := fun i => p i % 1024) (n := n) (x := ex (j + 1)) hk)
      have HL := Lib.hid (fun k => hor_lt (rv_lt HPL.out) (x := ex (j + 1)) (n - k) k)
      have HS := Lib.hid (synW_hor HPL.out j)
      obtain ⟨x, hxx⟩ : ∃ x, x = ex (j + 1) := ⟨_, rfl⟩
      rw [← hxx] at hx HV HL HS
      rw [← hxx]
      have HX := Lib.hid hxx
      clear hxx
      go_wp2_with fail
      go_loopw [6, 7] (fun v6 v7 wr => ∃ k : Nat, k ≤ n ∧ v7 = .int .i64 k ∧ v6 = .int .u16 (hor (rv (fun i => p i % 1024) n) x (n - k) k : Nat) ∧ Hid (OwnU wr w.heap.size a' j c' (synW (fun i => p i % 1024) n)) ∧ Keep (fun _ => False) w wr) (fun _ v7 _ => n - (intOf v7).toNat)
      case atStart => exact ⟨0, by omega, rfl, rfl, HO, kk⟩
      case round =>
        clear HO kk
        obtain ⟨k, hk, rfl, rfl, HO, kws⟩ := hrel
        have hvl := HL.out k
        by_cases hkn : k < n
        · have hkn' : (k : Int) < (n : Int) := by omega
          obtain ⟨bA, oA, rfl, hbA, hcA⟩ := HA.out.at_ (by omega)
          have c0 := (kws.cell (p := ⟨bA, oA + k, none⟩) hbA (by simp)).trans (hcA k hkn)
          have hpk := HA.out.lt k hkn
          have hand := and_1023 hpk
          have HN := HV.out k hkn
          obtain ⟨v, hv⟩ : ∃ v, v = hor (rv (fun i => p i % 1024) n) x (n - k) k := ⟨_, rfl⟩
          rw [← hv] at hvl HN ⊢
          obtain ⟨y, hy⟩ : ∃ y, y = p k % 1024 := ⟨_, rfl⟩
          have hyl : y < 1024 := by omega
          have HN2 := Lib.hid (show hor (rv (fun i => p i % 1024) n) x (n - (k + 1)) (k + 1) = gm v x ^^^ y by rw [HN, hy])
          rw [← hy] at hand
          have hxor := xor_u16 (a := gm v x) (b := y) (by have := gm_lt hvl x; omega) (by omega)
          clear hy
          have hbl : bA < wr.heap.size := Nat.lt_of_lt_of_le hbA kws.size
          have q0 : ∀ z : KeptBy wr, z.v.cell? ⟨bA, oA + k, none⟩ = some (.int .u16 (p k : Nat)) := fun z => z.cell hbl c0
          clear hcA hv HN
          go_upto_region 11 with fail
          refine wp_region_kept (by kernel_rfl) (by kernel_rfl) ?_
          repeat (quiet_step (first
            | (go_at_call 29; exact kept_of (rmul_kept _ _ _ hvl hx))))
          refine wpQuiet_nil ?_
          rintro w5 ⟨⟨_, k5⟩, rfl⟩
          have K6 := Lib.hid (kws.comp k5)
          have HO6 := Lib.hid (HO.out.keep k5)
          clear q0 k5
          go_wp2_with fail
          exact ⟨⟨k + 1, by omega, by go_num, by rw [HN2.out], HO6, K6.out⟩, by simp [intOf]; omega⟩
        · obtain rfl : k = n := by omega
          have hkn' : ¬ (k : Int) < (k : Int) := by omega
          rw [Nat.sub_self, HS.out] at hvl ⊢
          have HSl := Lib.hid hvl
          have kL := kws.alloc (.cells #[.int .u16 (synW (fun i => p i % 1024) k j : Nat)] 23)
          have OL := Lib.hid (HO.out.keep ((Keep.refl _ wr).alloc (.cells #[.int .u16 (synW (fun i => p i % 1024) k j : Nat)] 23)))
          have AL := Lib.hid ((Blk.here wr 23 #[.int .u16 (synW (fun i => p i % 1024) k j : Nat)] wr.heap.size rfl).argU (n := 1) (f := fun _ => synW (fun i => p i % 1024) k j) (by omega) (fun _ _ => by omega))
          have hsL := kL.size
          clear HO hvl kws
          go_wp2_with (refine wpList_append_u rfl (.tmp 29) (.tmp 31) rfl w.heap.size _ _ _ _ rfl OL.out _ 1 1 _ rfl AL.out (by omega) hsL ?_)
          intro a2 c2 w6 o6 g6
          have O6 := Lib.hid (o6.congr (f' := synW (fun i => p i % 1024) k) (fun i hi => by
            by_cases h : i < j
            · rw [if_pos h]
            · rw [if_neg h]
              congr 1
              omega))
          have K6 := kL.grown g6 (fun t ht => .inr (OL.out.lt t ht).1)
          clear o6 g6 kL OL AL hsL
          rw [HX.out]
          go_wp2_with fail
          go_roundw
          case rel => exact ⟨j + 1, a2, c2, by omega, by go_num, rfl, rfl, O6, K6⟩
          case measure => simp [intOf]; omega
    · obtain rfl : j = 16 := by omega
      have hj16' : ¬ ((16 : Nat) : Int) + 1 ≤ 16 := by omega
      go_wp2_with fail
      go_ret
      exact ⟨a', c', rfl, HO.out, kk⟩

set_option maxHeartbeats 1000000 in
theorem clean_any (a : Option Addr) (n c : Nat) (p : Nat → Nat) (w : World) (ha : ArgU w a n p) (hn : n ≤ 1000000) :
    Calls Try.prog 39 #[.slice a n c] w fun e w' => ∃ b, e = .returned (.bool b) ∧ (b = true ↔ ∀ i, i < n → p i = 0) ∧ Keep (fun _ => False) w w' := by
  have HA := Lib.hid ha
  clear ha
  go_enter Try.func39, Try.ntmps39
  go_wp2_with fail
  go_loopw [3] (fun v wr => ∃ j : Nat, j ≤ n ∧ v = .int .i64 j ∧ Hid (∀ i, i < j → p i = 0) ∧ Keep (fun _ => False) w wr) (fun v _ => n - (intOf v).toNat)
  case atStart => exact ⟨0, by omega, rfl, Lib.hid (fun i hi => by omega), Keep.refl _ _⟩
  case round =>
    obtain ⟨j, hj, rfl, HZ, kk⟩ := hrel
    by_cases hjn : j < n
    · have hjn' : (j : Int) < (n : Int) := by omega
      obtain ⟨bA, oA, rfl, hbA, hcA⟩ := HA.out.at_ (by omega)
      have c0 := (kk.cell (p := ⟨bA, oA + j, none⟩) hbA (by simp)).trans (hcA j hjn)
      clear hcA
      by_cases h0 : p j = 0
      · have HZ2 := Lib.hid (show ∀ i, i < j + 1 → p i = 0 from fun i hi => by
          by_cases e : i = j
          · rw [e]; exact h0
          · exact HZ.out i (by omega))
        rw [h0] at c0
        clear h0
        go_wp2_with fail
        exact ⟨⟨j + 1, by omega, by go_num, HZ2, kk⟩, by simp [intOf]; omega⟩
      · have e1 : ¬ ((p j : Nat) : Int) = 0 := by omega
        have e2 : (((p j : Nat) : Int) != 0) = true := by simpa using e1
        have HX := Lib.hid h0
        clear h0
        go_wp2_with fail
        go_ret
        exact ⟨false, rfl, ⟨fun h => absurd h (by simp), fun h => absurd (h j hjn) HX.out⟩, kk⟩
    · obtain rfl : j = n := by omega
      have hjn' : ¬ (j : Int) < (j : Int) := by omega
      go_wp2_with fail
      go_ret
      exact .inr ⟨rfl, HZ.out, kk⟩
end Go.Proofs.Ytnejnoiogojplaa
