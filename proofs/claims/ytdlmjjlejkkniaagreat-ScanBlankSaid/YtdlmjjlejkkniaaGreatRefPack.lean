/- The reference's Symbols, Pack, and head of a page. -/
import Derived.Test.YtdlmjjlejkkniaaGreatPackP
import Derived.Test.YtdlmjjlejkkniaaGreatRowV
namespace Go.Proofs.YtdlmjjlejkkniaaGreat
open Go.RowKit

set_option maxRecDepth 100000 in
set_option maxHeartbeats 1000000 in
theorem rsymbols_any (n : Nat) (hn : n ≤ 1000000) (w : World) :
    Calls Tryz.prog 55 #[.int .i64 n] w fun e w' => e = .returned (.int .i64 (pkN n : Nat)) ∧ w = w' := by
  have hd : (8 * (n : Int) + 9).tdiv 10 = ((pkN n : Nat) : Int) := by
    rw [Int.tdiv_eq_ediv_of_nonneg (by omega)]
    unfold pkN
    omega
  have hpk : pkN n ≤ 1000000 := by unfold pkN; omega
  have h1 : ¬ (n : Int) < 0 := by omega
  have h2 : (if (n : Int) < 0 then 0 else (n : Int)) = (n : Int) := by rw [if_neg h1]
  go_enter Tryz.func55, Tryz.ntmps55
  go_wp2_with fail
  go_ret
  exact ⟨rfl, rfl⟩
theorem shr_u8 {x r : Nat} : ((x : Int) / 2 ^ r) = ((x / 2 ^ r : Nat) : Int) := by
  rw [Int.natCast_ediv]; rfl

set_option maxRecDepth 100000 in
set_option maxHeartbeats 2000000 in
theorem rpack_any (a : Option Addr) (n c : Nat) (d : Nat → Nat) (w : World) (ha : ArgV w a n (fun i => .int .u8 (d i : Nat))) (hd : ∀ i, i < n → d i < 256) (hn : n ≤ 100000) :
    Calls Tryz.prog 25 #[.slice a n c] w fun e w' => ∃ g, e = .returned (.slice (some ⟨g, 0, none⟩) (pkN n) (pkN n)) ∧ w.heap.size ≤ g ∧ Blk w' g 25 (uArr (pkS d n) (pkN n)) ∧ Keep (fun _ => False) w w' := by
  have HA := Lib.hid ha
  have HD := Lib.hid hd
  have HS := Lib.hid (rsymbols_any n (by omega))
  have hpn : pkN n ≤ 100000 := by unfold pkN; omega
  have hmk := make_u (pkN n) (pkN n) rfl (by omega)
  have HPN := Lib.hid (show ∀ i, i < 8 * n → i / 10 < pkN n from fun i hi => by unfold pkN; omega)
  have b0 := Blk.new w 25 (uArr (fun _ => 0) (pkN n))
  have k0 := (Keep.refl (fun _ => False) w).alloc (.cells (uArr (fun _ => 0) (pkN n)) 25)
  clear ha hd
  generalize hM : pkN n = M at *
  clear hM
  go_enter Tryz.func25, Tryz.ntmps25
  go_wp2_with fail
  refine (HS.out _).mono ?_
  rintro e w1 ⟨rfl, rfl⟩
  go_wp2_with fail
  go_loopw [4] (fun v4 wr => ∃ i : Nat, i ≤ 8 * n ∧ v4 = .int .i64 i ∧ Blk wr w.heap.size 25 (uArr (rK d i) M) ∧ Keep (fun _ => False) w wr) (fun v _ => 8 * n - (intOf v).toNat)
  case atStart => exact ⟨0, by omega, rfl, by rwa [uArr_congr (g := fun _ => 0) (fun i _ => rK_zero d i)], k0⟩
  case round =>
    clear b0 k0
    obtain ⟨i, hi, rfl, bk, kk⟩ := hrel
    by_cases hin : i < 8 * n
    · have hin' : (i : Int) < 8 * (n : Int) := by omega
      obtain ⟨bA, oA, rfl, hbA, hcA⟩ := HA.out.at_ (by omega)
      have c0 := (kk.cell (p := ⟨bA, oA + i / 8, none⟩) hbA (by simp)).trans (hcA (i / 8) (by omega))
      have c1 := bk.val (HPN.out i hin)
      have hd8 := HD.out (i / 8) (by omega)
      have hb := bitB_num d i
      have hY := Lib.hid (rK_yes (d := d) (i := i))
      have hN := Lib.hid (rK_no (d := d) (i := i))
      have hrl := rK_lt d i (i / 10)
      have hfz := bk.frozen (i / 10)
      have hbit : (bits .and .u8 ((d (i / 8) : Int) / 2 ^ (7 - i % 8)) 1 == 1) = bitB d i := by
        have h1 := bits_nat .u8 8 (by decide) (fun n h0 h1 => by rw [show IntKind.u8.wrap n = n % 256 by simp [IntKind.wrap, IntKind.bits, IntKind.signed]]; omega) (d (i / 8) / 2 ^ (7 - i % 8)) 1 (Nat.lt_of_le_of_lt (Nat.div_le_self _ _) hd8) (by omega)
        have h2 := h1.1
        rw [Nat.and_one_is_mod, hb] at h2
        rw [shr_u8]
        rw [show (1 : Int) = ((1 : Nat) : Int) from rfl, h2]
        cases bitB d i <;> rfl
      have hwp : IntKind.u16.wrap (2 ^ (9 - i % 10)) = ((2 ^ (9 - i % 10) : Nat) : Int) := by
        have : 2 ^ (9 - i % 10) < 2 ^ 16 := Nat.pow_lt_pow_right (by omega) (by omega)
        rw [show (2 : Int) ^ (9 - i % 10) = ((2 ^ (9 - i % 10) : Nat) : Int) by exact_mod_cast rfl]
        generalize 2 ^ (9 - i % 10) = z at *
        exact wraps_u16 _ (by omega) (by omega)
      have hor := or_u16 (a := rK d i (i / 10)) (b := 2 ^ (9 - i % 10)) (by omega) (show 2 ^ (9 - i % 10) < 2 ^ 16 from Nat.pow_lt_pow_right (by omega) (by omega))
      have e1 : (i : Int).tdiv 8 = ((i / 8 : Nat) : Int) := by rw [Int.tdiv_eq_ediv_of_nonneg (by omega)]; rfl
      have e2 : (i : Int).tmod 8 = ((i % 8 : Nat) : Int) := by rw [Int.tmod_eq_emod_of_nonneg (by omega)]; rfl
      have e3 : (i : Int).tdiv 10 = ((i / 10 : Nat) : Int) := by rw [Int.tdiv_eq_ediv_of_nonneg (by omega)]; rfl
      have e4 : (i : Int).tmod 10 = ((i % 10 : Nat) : Int) := by rw [Int.tmod_eq_emod_of_nonneg (by omega)]; rfl
      have e5 : 7 - ((i % 8 : Nat) : Int) = ((7 - i % 8 : Nat) : Int) := by omega
      have e6 : 9 - ((i % 10 : Nat) : Int) = ((9 - i % 10 : Nat) : Int) := by omega
      have h7 : 7 - i % 8 ≤ 7 := by omega
      have h9 : 9 - i % 10 ≤ 9 := by omega
      have h8n : i / 8 < n := by omega
      have h10n := HPN.out i hin
      clear hcA
      generalize 7 - i % 8 = r8 at *
      generalize 9 - i % 10 = r10 at *
      generalize i % 8 = m8 at *
      generalize i % 10 = m10 at *
      generalize i / 8 = q8 at *
      generalize i / 10 = q10 at *
      generalize d q8 = x at *
      generalize rK d i q10 = y at *
      rw [← hwp] at hor
      have hY' := hY.out
      have hN' := hN.out
      clear hwp hb hN hY
      cases hB : bitB d i with
      | true =>
        rw [hB] at hbit
        have HB := Lib.hid (bk.storeU q10 (y ||| 2 ^ r10) (f' := rK d (i + 1)) (fun j _ => by rw [hY' hB j]))
        have HK := Lib.hid (kk.setCell (p := ⟨w.heap.size, q10, none⟩) (.inr (Nat.le_refl _)) (.int .u16 (y ||| 2 ^ r10 : Nat)))
        clear bk hB
        generalize y ||| 2 ^ r10 = z at *
        go_wp2_with (simp only [hor])
        exact ⟨⟨i + 1, by omega, by go_num, HB.out, HK.out⟩, by simp [intOf]; omega⟩
      | false =>
        rw [hB] at hbit
        have HE := Lib.hid (hN' hB)
        have HB := Lib.hid bk
        clear bk hB
        go_wp2_with fail
        exact ⟨⟨i + 1, by omega, by go_num, by rw [HE.out]; exact HB.out, kk⟩, by simp [intOf]; omega⟩
    · obtain rfl : i = 8 * n := by omega
      have hin' : ¬ ((8 * n : Nat) : Int) < 8 * (n : Int) := by omega
      go_wp2_with fail
      go_ret
      exact ⟨_, rfl, Nat.le_refl _, bk, kk⟩
end Go.Proofs.YtdlmjjlejkkniaaGreat
