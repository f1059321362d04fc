/- frame.Make, frame.Read. -/
import Derived.Test.YtdlmjjlejkkniaaGreatHead
import Derived.Test.YtdlmjjlejkkniaaGreatRefMake
import Derived.Test.YtdlmjjlejkkniaaGreatCof
import Derived.Test.YtdlmjjlejkkniaaGreatPts
import Derived.Test.YtdlmjjlejkkniaaGreatGeo
namespace Go.Proofs.YtdlmjjlejkkniaaGreat
open Go.RowKit

theorem or_byte {S x : Nat} (hS : S < 1024) (hx : x < 256) : bits .or .i64 ((S : Int) * 256) (x : Int) = ((S * 256 + x : Nat) : Int) := by
  have h := or_i64 (a := S * 256) (b := x) (by omega) (by omega)
  rw [show S * 256 ||| x = S * 256 + x by
    have := nat_join 8 (S * 256) x (by omega) (by omega)
    exact this] at h
  rwa [Int.natCast_mul] at h
theorem mask_i64 {A m : Nat} (hA : A < 4294967296) (hm : m ≤ 20) : bits .and .i64 (A : Int) ((2 : Int) ^ m - 1) = ((A % 2 ^ m : Nat) : Int) := by
  have h2 : 2 ^ m ≤ 2 ^ 20 := Nat.pow_le_pow_right (by omega) hm
  have h0 : 0 < 2 ^ m := Nat.two_pow_pos m
  have h := and_i64 (a := A) (b := 2 ^ m - 1) hA (by omega)
  rw [Nat.and_two_pow_sub_one_eq_mod] at h
  rw [← h]
  congr 1
  have : ((2 ^ m - 1 : Nat) : Int) = ((2 ^ m : Nat) : Int) - 1 := by omega
  rw [this]
  push_cast
  rfl
theorem wrap_small {x : Int} (h0 : 0 ≤ x) (h1 : x < 4294967296) : wrap64 x = x := by unfold wrap64; omega
theorem wrap_mask {m : Nat} (hm : m ≤ 20) : wrap64 (wrap64 ((2 : Int) ^ m) - 1) = (2 : Int) ^ m - 1 := by
  have h2 : 2 ^ m ≤ 2 ^ 20 := Nat.pow_le_pow_right (by omega) hm
  have h0 : 0 < 2 ^ m := Nat.two_pow_pos m
  have e : (2 : Int) ^ m = ((2 ^ m : Nat) : Int) := by exact_mod_cast rfl
  rw [e, wrap_small (x := ((2 ^ m : Nat) : Int)) (by omega) (by omega), wrap_small (by omega) (by omega)]
set_option maxRecDepth 100000 in
set_option maxHeartbeats 2000000 in
theorem pack_any (a : Option Addr) (n c : Nat) (d : Nat → Nat) (w : World) (ha : ArgV w a n (fun i => .int .u8 (d i : Nat))) (hd : ∀ i, i < n → d i < 256) (hn : n ≤ 100000) :
    Calls Tryz.prog 98 #[.slice a n c] w fun e w' => ∃ a' c', e = .returned (.slice a' (pkN n) c') ∧ OwnU w' w.heap.size a' (pkN n) c' (pkS d n) ∧ Keep (fun _ => False) w w' := by
  have HA := Lib.hid ha
  have HD := Lib.hid hd
  clear ha hd
  go_enter Tryz.func98, Tryz.ntmps98
  go_wp2_with fail
  go_loopw [3, 4, 5, 10] (fun v3 v4 v5 v10 wr => ∃ (i l : Nat) (ao : Option Addr) (co : Nat), i ≤ n ∧ Hid (l = 8 * i / 10) ∧ v3 = .slice ao l co ∧ v4 = .int .i64 (pSum d i : Nat) ∧ v5 = .int .i64 (8 * i % 10 : Nat) ∧ v10 = .int .i64 i ∧ Hid (OwnU wr w.heap.size ao l co (pkS d n)) ∧ Keep (fun _ => False) w wr) (fun _ _ _ v _ => n - (intOf v).toNat)
  case atStart => exact ⟨0, 0, none, 0, by omega, Lib.hid rfl, rfl, rfl, rfl, rfl, Lib.hid (OwnV.nil _ _ _ _), Keep.refl _ _⟩
  case round =>
    obtain ⟨i, l, ao, co, hi, HL, rfl, rfl, rfl, rfl, HO, kk⟩ := hrel
    by_cases hin : i < n
    · have hin' : (i : Int) < (n : Int) := by omega
      obtain ⟨bA, oA, rfl, hbA, hcA⟩ := HA.out.at_ (by omega)
      have c0 := (kk.cell (p := ⟨bA, oA + i, none⟩) hbA (by simp)).trans (hcA i hin)
      have hx := HD.out i hin
      have hS := pSum_lt9 d i
      have hor := or_byte hS hx
      have hAcc : pSum d i * 256 + d i = pAcc d i := rfl
      rw [hAcc] at hor
      have hAl := pAcc_lt (d := d) hx
      have HFew := Lib.hid (pAcc_few (d := d) hx)
      have HOut := Lib.hid (pAcc_out (d := d) (n := n) hx hin)
      have HLeft := Lib.hid (pAcc_left (d := d) hx)
      obtain ⟨m, hm⟩ : ∃ m, m = 8 * i % 10 := ⟨_, rfl⟩
      have HM := Lib.hid hm
      rw [← hm] at HFew HOut HLeft
      have hm10 : m < 10 := by omega
      rw [← HM.out]
      clear hcA hAcc hm
      generalize pAcc d i = A at *
      generalize pSum d i = S at *
      generalize d i = x at *
      by_cases hfull : 10 ≤ m + 8
      · have hfull' : (10 : Int) ≤ (m : Int) + 8 := by omega
        have h1 := HOut.out hfull
        have h2 := HLeft.out hfull
        rw [show m + 8 - 10 = m - 2 by omega] at h1 h2
        rw [← HL.out] at h1
        have hP := pkS_lt d n l
        have hcv : IntKind.u16.wrap ((A : Int) / 2 ^ (m - 2)) = ((pkS d n l : Nat) : Int) := by
          rw [shr_u8, h1]
          exact wraps_u16 _ (by omega) (by omega)
        have hmk := mask_i64 (A := A) (m := m - 2) (by omega) (by omega)
        rw [h2, ← wrap_mask (m := m - 2) (by omega)] at hmk
        have HV := Lib.hid (show (Value.int .u16 (pkS d n l : Nat)) = .int .u16 (pkS d n l : Nat) from rfl)
        have kL := kk.alloc (.cells #[.int .u16 (pkS d n l : Nat)] 25)
        have OL := Lib.hid (HO.out.ownV.keep ((Keep.refl _ wr).alloc (.cells #[.int .u16 (pkS d n l : Nat)] 25)))
        have BL := Lib.hid (Blk.new wr 25 #[.int .u16 (pkS d n l : Nat)])
        have hsL := kL.size
        have hl : l ≤ 100000 := by have := HL.out; omega
        have HS1 := Lib.hid (show 8 * (i + 1) % 10 = m - 2 by have := HM.out; omega)
        have HL1 := Lib.hid (show l + 1 = 8 * (i + 1) / 10 by have := HL.out; have := HM.out; omega)
        clear h1 h2 HO kk HOut HLeft HFew
        generalize hPe : pkS d n l = Pv at *
        have HPe := Lib.hid hPe
        clear hPe
        generalize hS1 : pSum d (i + 1) = S1 at *
        have HSe := Lib.hid hS1
        clear hS1
        go_wp2_with (refine wpList_append_1 ty_u rfl (.tmp 25) (.tmp 30) rfl w.heap.size ao l co (fun t => .int .u16 (pkS d n t : Nat)) rfl OL.out wr.heap.size _ rfl BL.out rfl (by omega) hsL ?_)
        intro a3 c3 w6 o6 g6
        have O6 := Lib.hid (OwnV.ownU (o6.congr (f' := fun t => .int .u16 (pkS d n t : Nat)) (fun t ht => by
          by_cases h : t < l
          · rw [if_pos h]
          · rw [if_neg h, show t = l by omega, HPe.out])))
        have K6 := kL.grown g6 (fun t ht => .inr (OL.out.lt t ht).1)
        clear o6 g6 kL OL BL hsL HV c0
        go_wp2_with fail
        exact ⟨⟨i + 1, l + 1, a3, c3, by omega, HL1, rfl, by rw [HSe.out], by rw [HS1.out]; go_num, by go_num, O6, K6⟩, by simp [intOf]; omega⟩
      · have hfull' : ¬ (10 : Int) ≤ (m : Int) + 8 := by omega
        have h1 := HFew.out (by omega)
        subst h1
        have HS1 := Lib.hid (show 8 * (i + 1) % 10 = m + 8 by have := HM.out; omega)
        have HL1 := Lib.hid (show l = 8 * (i + 1) / 10 by have := HL.out; have := HM.out; omega)
        clear HOut HLeft HFew
        generalize hS1 : pSum d (i + 1) = S1 at *
        have HSe := Lib.hid hS1
        clear hS1
        go_wp2_with fail
        exact ⟨⟨i + 1, l, ao, co, by omega, HL1, rfl, by rw [HSe.out], by rw [HS1.out]; go_num, by go_num, HO, kk⟩, by simp [intOf]; omega⟩
    · obtain rfl : i = n := by omega
      have hin' : ¬ (i : Int) < (i : Int) := by omega
      obtain ⟨m, hm⟩ : ∃ m, m = 8 * i % 10 := ⟨_, rfl⟩
      have HM := Lib.hid hm
      rw [← HM.out]
      have hm10 : m < 10 := by omega
      have HEnd := Lib.hid (pSum_end (d := d) (n := i))
      rw [← hm] at HEnd
      have hSl := pSum_lt9 d i
      clear hm
      by_cases h0 : 0 < m
      · have h0' : (0 : Int) < (m : Int) := by omega
        have h1 := HEnd.out h0
        rw [← HL.out] at h1
        have hP := pkS_lt d i l
        have HPN := Lib.hid (show pkN i = l + 1 by have := HL.out; have := HM.out; unfold pkN; omega)
        have kL := kk.alloc (.cells #[.int .u16 (pkS d i l : Nat)] 25)
        have OL := Lib.hid (HO.out.ownV.keep ((Keep.refl _ wr).alloc (.cells #[.int .u16 (pkS d i l : Nat)] 25)))
        have BL := Lib.hid (Blk.new wr 25 #[.int .u16 (pkS d i l : Nat)])
        have hsL := kL.size
        have hl : l ≤ 100000 := by have := HL.out; omega
        clear HO kk HEnd
        generalize hPe : pkS d i l = Pv at *
        have HPe := Lib.hid hPe
        clear hPe
        have hcv : IntKind.u16.wrap (wrap64 (((pSum d i : Nat) : Int) * 2 ^ (10 - m))) = (Pv : Int) := by
          have e : (((pSum d i : Nat) : Int) * 2 ^ (10 - m)) = ((pSum d i * 2 ^ (10 - m) : Nat) : Int) := by push_cast; rfl
          rw [e, h1, wrap_small (by omega) (by omega)]
          exact wraps_u16 _ (by omega) (by omega)
        clear h1
        generalize pSum d i = S at *
        go_wp2_with (refine wpList_append_1 ty_u rfl (.tmp 40) (.tmp 46) rfl w.heap.size ao l co (fun t => .int .u16 (pkS d i t : Nat)) rfl OL.out wr.heap.size _ rfl BL.out rfl (by omega) hsL ?_)
        intro a3 c3 w6 o6 g6
        have O6 := Lib.hid (OwnV.ownU (o6.congr (f' := fun t => .int .u16 (pkS d i t : Nat)) (fun t ht => by
          by_cases h : t < l
          · rw [if_pos h]
          · rw [if_neg h, show t = l by omega, HPe.out])))
        have K6 := kL.grown g6 (fun t ht => .inr (OL.out.lt t ht).1)
        clear o6 g6 kL OL BL hsL
        go_wp2_with fail
        go_ret
        rw [HPN.out]
        exact ⟨a3, c3, rfl, O6.out, K6⟩
      · have h0' : ¬ (0 : Int) < (m : Int) := by omega
        have HPN := Lib.hid (show pkN i = l by have := HL.out; have := HM.out; unfold pkN; omega)
        go_wp2_with fail
        go_ret
        rw [HPN.out]
        exact ⟨ao, co, rfl, HO.out, kk⟩
end Go.Proofs.YtdlmjjlejkkniaaGreat

namespace Go.Proofs.YtdlmjjlejkkniaaGreat
open Go.RowKit

theorem wmay_any (W : Nat) (h : 1 ≤ W) (h4 : W ≤ 4) (w : World) :
    Calls Tryz.prog 92 #[.int .i64 W] w fun e w' => e = .returned (.bool true) ∧ w = w' := by
  have d1 : decide (1 ≤ (W : Int)) = true := decide_eq_true (by omega)
  have d2 : decide ((W : Int) ≤ 4) = true := decide_eq_true (by omega)
  go_enter Tryz.func92, Tryz.ntmps92
  go_wp2_with fail
  go_ret
  exact ⟨rfl, rfl⟩
set_option maxRecDepth 100000 in
set_option maxHeartbeats 1000000 in
theorem outlen_any (K g c : Nat) (a : Option Addr) (w : World) (hc : w.cell? ⟨g, 0, none⟩ = some (.int .i64 K)) :
    Calls Tryz.prog 94 #[.slice a K c, .pointer (some ⟨g, 0, none⟩)] w fun e w' => e = .returned (.bool false) ∧ w = w' := by
  go_enter Tryz.func94, Tryz.ntmps94
  go_wp2_with fail
  go_ret
  exact ⟨rfl, rfl⟩
set_option maxRecDepth 100000 in
set_option maxHeartbeats 1000000 in
theorem index_len (W K c g : Nat) (a : Option Addr) (A : Nat → Option Addr) (C : Nat → Nat) (w : World) (hv : ArgV w a W (famV A (fun _ => K) C)) (hg : w.cell? ⟨g, 0, none⟩ = some (.int .i64 K)) :
    Calls Tryz.prog 109 #[.slice a W c, .func (.func 94) #[] #[.pointer (some ⟨g, 0, none⟩)]] w fun e w' => e = .returned (.int .i64 (-1)) ∧ w = w' := by
  have HA := Lib.hid hv
  have hsm := hv.small
  clear hv
  go_enter Tryz.func109, Tryz.ntmps109
  go_wp2_with fail
  go_loopw [8] (fun i wr => ∃ j : Nat, j ≤ W ∧ i = .int .i64 j ∧ w = wr) (fun i _ => W - (intOf i).toNat)
  case atStart => exact ⟨0, Nat.zero_le _, rfl, rfl⟩
  case round =>
    obtain ⟨j, hj, rfl, rfl⟩ := hrel
    by_cases hjl : j < W
    · obtain ⟨b, off, rfl, hbs, hc⟩ := HA.out.at_ (by omega)
      have c0 := hc j hjl
      unfold famV at c0
      have hjl' : (j : Int) < (W : Int) := by omega
      clear hc
      go_wp2_with fail
      refine (outlen_any K g (C j) (A j) _ hg).mono ?_
      rintro e w3 ⟨rfl, rfl⟩
      go_wp2_with fail
      exact ⟨⟨j + 1, by omega, by go_num, trivial⟩, by simp [intOf]; omega⟩
    · obtain rfl : j = W := by omega
      have hjl' : ¬ (j : Int) < (j : Int) := by omega
      go_wp2_with fail
      go_ret
      exact ⟨rfl, rfl⟩
set_option maxRecDepth 100000 in
set_option maxHeartbeats 1000000 in
theorem contains_len (W K c g : Nat) (a : Option Addr) (A : Nat → Option Addr) (C : Nat → Nat) (w : World) (hv : ArgV w a W (famV A (fun _ => K) C)) (hg : w.cell? ⟨g, 0, none⟩ = some (.int .i64 K)) :
    Calls Tryz.prog 93 #[.slice a W c, .func (.func 94) #[] #[.pointer (some ⟨g, 0, none⟩)]] w fun e w' => e = .returned (.bool false) ∧ w = w' := by
  go_enter Tryz.func93, Tryz.ntmps93
  go_wp2_with fail
  refine (index_len W K c g a A C _ hv hg).mono ?_
  rintro e w3 ⟨rfl, rfl⟩
  go_wp2_with fail
  go_ret
  exact ⟨rfl, rfl⟩
set_option maxRecDepth 100000 in
set_option maxHeartbeats 4000000 in
theorem wout_any (W K : Nat) (a : Option Addr) (c : Nat) (p : Nat → Nat → Nat) (w : World) (ha : ArgRows w a W K p) (hW : 1 ≤ W) (hW4 : W ≤ 4) (hK : 1 ≤ K) (hK2 : K ≤ 10000) :
    Calls Tryz.prog 73 #[.int .i64 W, .slice a W c] w fun e w' => ∃ a' c', e = .returned (.tuple #[.slice a' (W * K) c', .int .i64 0]) ∧ OwnU w' w.heap.size a' (W * K) c' (wovS W p) ∧ Keep (fun _ => False) w w' := by
  obtain ⟨A, C, ha⟩ := ha
  have HA := Lib.hid ha
  have hWne : ¬ W = 0 := by omega
  have e0 : ((K : Int) == 0) = false := by simp; omega
  obtain ⟨bA, oA, rfl, hbA, hcA⟩ := ha.v.at_ (by omega)
  have HC := Lib.hid hcA
  have c00 := hcA 0 (by omega)
  unfold famV at c00
  rw [Nat.add_zero] at c00
  have hW0' : (0 : Int) < (W : Int) := by omega
  have hl4 : W * K ≤ 40000 := Nat.mul_le_mul hW4 hK2
  clear ha hcA
  go_enter Tryz.func73, Tryz.ntmps73
  go_wp2_with fail
  refine (wmay_any W hW hW4 _).mono ?_
  rintro e w1 ⟨rfl, rfl⟩
  have k1 := (Keep.refl (fun _ => False) w).alloc (.cells #[.int .i64 K] 3)
  have b1 := Blk.new w 3 #[.int .i64 K]
  have HA1 := Lib.hid (HA.out.keep k1)
  obtain ⟨w1, hw1⟩ : ∃ X, X = w.alloc (.cells #[.int .i64 K] 3) := ⟨_, rfl⟩
  rw [← hw1] at k1 b1 HA1
  go_wp2_with fail
  rw [← hw1]
  clear hw1
  have d1 : w1.cell? ⟨w.heap.size, 0, none⟩ = some (.int .i64 K) := by rw [b1.cell]; rfl
  go_wp2_with fail
  refine (contains_len W K c w.heap.size _ A C _ HA1.out.v d1).mono ?_
  rintro e w2 ⟨rfl, rfl⟩
  have HS1 := Lib.hid k1.size
  clear c00 e0
  go_wp2_with fail
  clear d1
  go_loopw [7, 32] (fun v3 v4 wr => ∃ (k : Nat) (ao : Option Addr) (co : Nat), k ≤ K ∧ v3 = .slice ao (k * W) co ∧ v4 = .int .i64 k ∧ Hid (OwnU wr w1.heap.size ao (k * W) co (wovS W p)) ∧ Keep (fun _ => False) w1 wr) (fun _ v _ => K - (intOf v).toNat)
  case atStart => exact ⟨0, none, 0, by omega, by rw [Nat.zero_mul], rfl, Lib.hid (by rw [Nat.zero_mul]; exact OwnV.nil _ _ _ _), Keep.refl _ _⟩
  case round =>
    obtain ⟨k, ao, co, hk, rfl, rfl, HO, kk⟩ := hrel
    obtain ⟨m, hm⟩ : ∃ m, m = k * W := ⟨_, rfl⟩
    have HM := Lib.hid hm
    rw [← hm] at HO ⊢
    clear hm
    by_cases hkK : k < K
    · have hkK' : (k : Int) < (K : Int) := by omega
      have hm4 := Lib.hid (show m + W ≤ W * K from by
        have := Nat.mul_le_mul_left W (show k + 1 ≤ K from hkK)
        rw [Nat.mul_add, Nat.mul_one, Nat.mul_comm W k, ← HM.out] at this
        exact this)
      go_wp2_with fail
      go_loopw [7, 37] (fun v3 v4 wr => ∃ (j : Nat) (ao : Option Addr) (co : Nat), j ≤ W ∧ v3 = .slice ao (m + j) co ∧ v4 = .int .i64 j ∧ Hid (OwnU wr w1.heap.size ao (m + j) co (wovS W p)) ∧ Keep (fun _ => False) w1 wr) (fun _ v _ => W - (intOf v).toNat)
      case atStart => exact ⟨0, ao, co, by omega, rfl, rfl, HO, kk⟩
      case round =>
        clear HO kk
        obtain ⟨j, ao, co, hj, rfl, rfl, HO, kk⟩ := hrel
        by_cases hji : j < W
        · have hji' : (j : Int) < (W : Int) := by omega
          have hml : m + j ≤ 40000 := by have := hm4.out; omega
          have kw := k1.comp kk
          have c0 := (kw.cell (p := ⟨bA, oA + j, none⟩) hbA (by simp)).trans (HC.out j hji)
          unfold famV at c0
          obtain ⟨bR, oR, hR, hbR, hcR⟩ := (HA.out.u j hji).at_ (by omega)
          rw [hR] at c0
          have c1 := (kw.cell (p := ⟨bR, oR + k, none⟩) hbR (by simp)).trans (hcR k hkK)
          have hpl := (HA.out.u j hji).lt k hkK
          have HV := Lib.hid (show wovS W p (m + j) = p j k by unfold wovS; rw [HM.out, (woven_idx hji).1, (woven_idx hji).2])
          have kL := kk.alloc (.cells #[.int .u16 (p j k : Nat)] 25)
          have OL := Lib.hid (HO.out.ownV.keep ((Keep.refl _ wr).alloc (.cells #[.int .u16 (p j k : Nat)] 25)))
          have BL := Lib.hid (Blk.new wr 25 #[.int .u16 (p j k : Nat)])
          have hsL := kL.size
          clear hcR hR HO kk kw
          generalize p j k = x at *
          generalize C j = cj at *
          go_wp2_with (refine wpList_append_1 ty_u rfl (.tmp 41) (.tmp 46) rfl w1.heap.size ao (m + j) co (fun t => .int .u16 (wovS W p t : Nat)) rfl OL.out wr.heap.size _ rfl BL.out rfl (by omega) hsL ?_)
          intro a3 c3 w6 o6 g6
          have O6 := Lib.hid (OwnV.ownU (o6.congr (f' := fun t => .int .u16 (wovS W p t : Nat)) (fun t ht => by
            by_cases h : t < m + j
            · rw [if_pos h]
            · rw [if_neg h, show t = m + j by omega, HV.out])))
          have K6 := kL.grown g6 (fun t ht => .inr (OL.out.lt t ht).1)
          clear o6 g6 kL OL BL hsL c0 c1
          go_wp2_with fail
          exact ⟨⟨j + 1, a3, c3, by omega, rfl, by go_num, O6, K6⟩, by simp [intOf]; omega⟩
        · obtain rfl : j = W := by omega
          have hji' : ¬ (j : Int) < (j : Int) := by omega
          have HE := Lib.hid (show (k + 1) * j = m + j by rw [Nat.succ_mul, HM.out])
          go_wp2_with fail
          exact ⟨⟨k + 1, ao, co, by omega, by rw [HE.out], by go_num, by rw [HE.out]; exact HO, kk⟩, by simp [intOf]; omega⟩
    · obtain rfl : k = K := by omega
      have hkK' : ¬ (k : Int) < (k : Int) := by omega
      have HE := Lib.hid (show m = W * k by rw [HM.out, Nat.mul_comm])
      go_wp2_with fail
      go_ret2
      rw [← HE.out]
      exact ⟨ao, co, rfl, HO.out.more HS1.out, k1.comp kk⟩
end Go.Proofs.YtdlmjjlejkkniaaGreat

namespace Go.Proofs.YtdlmjjlejkkniaaGreat
open Go.RowKit

/-- A number without its j last symbols. -/
def shN (s : Nat) : Nat → Nat
  | 0 => s
  | j + 1 => shN s j / 1024
theorem hdS_seq (k l s : Nat) : hdS k l s 3 = shN s 3 % 1024 ∧ hdS k l s 4 = shN s 2 % 1024 ∧ hdS k l s 5 = shN s 1 % 1024 ∧ hdS k l s 6 = shN s 0 % 1024 := ⟨rfl, rfl, rfl, rfl⟩
set_option maxRecDepth 100000 in
set_option maxHeartbeats 4000000 in
theorem head_any (k l s : Nat) (h : MarkOk k l s) (w : World) :
    Calls Tryz.prog 97 #[markV k l s] w fun e w' => ∃ a' c', e = .returned (.slice a' 8 c') ∧ OwnU w' w.heap.size a' 8 c' (hdS k l s) ∧ Keep (fun _ => False) w w' := by
  have hk := h.k2
  have hl := h.l
  have e1 := shr1 l
  have e2 : (l : Int).tmod 1024 = ((l % 1024 : Nat) : Int) := by rw [Int.tmod_eq_emod_of_nonneg (by omega)]; rfl
  have hv : uArr (hdS k l s) 3 = #[.int .u16 k, .int .u16 (l / 1024 : Nat), .int .u16 (l % 1024 : Nat)] := rfl
  have b1 : l % 1024 ≤ 1023 := by omega
  obtain ⟨M, hM⟩ : ∃ M, M = w.alloc (.cells #[.int .i64 k, .int .i64 l, .int .i64 s] 30) := ⟨_, rfl⟩
  have kM : Keep (fun _ => False) w M := by rw [hM]; exact (Keep.refl _ w).alloc _
  have bM : Blk M w.heap.size 30 #[.int .i64 k, .int .i64 l, .int .i64 s] := by rw [hM]; exact Blk.new w _ _
  have k1 := (Keep.refl (fun _ => False) M).alloc (.cells (uArr (hdS k l s) 3) 25)
  have HMs := Lib.hid (show M.heap.size = w.heap.size + 1 by rw [hM]; simp)
  have k2 := Blk.here M 25 (uArr (hdS k l s) 3) (w.heap.size + 1) HMs.out.symm
  have O1 := Lib.hid (OwnU.of_row (RowU.of_blk k2) (Nat.le_refl _) (by unfold maxLen; omega))
  have q0 : M.cell? ⟨w.heap.size, 0, none⟩ = some (.int .i64 k) := by rw [bM.cell]; rfl
  have q1 : M.cell? ⟨w.heap.size, 1, none⟩ = some (.int .i64 l) := by rw [bM.cell]; rfl
  rw [hv] at k1 O1
  clear hv h k2
  generalize hl1 : l / 1024 = l1 at *
  generalize hl0 : l % 1024 = l0 at *
  have HSQ := Lib.hid (hdS_seq k l s)
  unfold markV
  clear hl1 hl0
  go_enter Tryz.func97, Tryz.ntmps97
  go_wp2_with fail
  rw [← hM]
  clear hM
  go_wp2_with fail
  clear q0 q1 e1 e2
  go_loopw [3, 4] (fun v3 v4 wr => ∃ (j : Nat) (ao : Option Addr) (co : Nat), j ≤ 4 ∧ v3 = .slice ao (3 + j) co ∧ v4 = .int .i64 (3 - (j : Int)) ∧ Hid (OwnU wr (w.heap.size + 1) ao (3 + j) co (hdS k l s)) ∧ Keep (fun _ => False) M wr) (fun _ v _ => (intOf v + 1).toNat)
  case atStart => exact ⟨0, _, _, by omega, rfl, rfl, O1, k1⟩
  case round =>
    clear O1 k1
    obtain ⟨j, ao, co, hj, rfl, rfl, HO, kk⟩ := hrel
    by_cases hj4 : j < 4
    · have hj4' : (0 : Int) ≤ 3 - (j : Int) := by omega
      have q2 : wr.cell? ⟨w.heap.size, 2, none⟩ = some (.int .i64 s) := by rw [(bM.keep kk (by simp)).cell]; rfl
      obtain ⟨a1, a2, a3, a4⟩ := HSQ.out
      obtain rfl | rfl | rfl | rfl : j = 0 ∨ j = 1 ∨ j = 2 ∨ j = 3 := by omega
      · obtain ⟨x, hx⟩ : ∃ x, x = hdS k l s 3 := ⟨_, rfl⟩
        have hE : (s : Int) / 1073741824 % 1024 = (x : Int) := by
          rw [hx, a1, shr3]
          rfl
        have hxl : x < 1024 := by rw [hx, a1]; exact Nat.mod_lt _ (by omega)
        have HX := Lib.hid hx
        have kL := kk.alloc (.cells #[.int .u16 (x : Nat)] 25)
        have OL := Lib.hid (HO.out.ownV.keep ((Keep.refl _ wr).alloc (.cells #[.int .u16 (x : Nat)] 25)))
        have BL := Lib.hid (Blk.new wr 25 #[.int .u16 (x : Nat)])
        have hsL : w.heap.size + 1 ≤ (wr.alloc (.cells #[.int .u16 (x : Nat)] 25)).heap.size := by have := kL.size; rw [HMs.out] at this; exact this
        clear a1 a2 a3 a4 hx HO kk
        go_wp2_with (refine wpList_append_1 ty_u rfl (.tmp 21) (.tmp 29) rfl (w.heap.size + 1) ao 3 co (fun t => .int .u16 (hdS k l s t : Nat)) rfl OL.out wr.heap.size _ rfl BL.out rfl (by omega) hsL ?_)
        intro a6 c6 w6 o6 g6
        have O6 := Lib.hid (OwnV.ownU (o6.congr (f' := fun t => .int .u16 (hdS k l s t : Nat)) (fun t ht => by
          by_cases h : t < 3
          · rw [if_pos h]
          · rw [if_neg h, show t = 3 by omega, HX.out])))
        have K6 := kL.grown g6 (fun t ht => .inr (by rw [HMs.out]; exact (OL.out.lt t ht).1))
        clear o6 g6 kL OL BL hsL q2 hE
        go_wp2_with fail
        exact ⟨⟨1, a6, c6, by omega, rfl, rfl, O6, K6⟩, by simp [intOf]⟩
      · obtain ⟨x, hx⟩ : ∃ x, x = hdS k l s 4 := ⟨_, rfl⟩
        have hE : (s : Int) / 1048576 % 1024 = (x : Int) := by
          rw [hx, a2, shr2]
          rfl
        have hxl : x < 1024 := by rw [hx, a2]; exact Nat.mod_lt _ (by omega)
        have HX := Lib.hid hx
        have kL := kk.alloc (.cells #[.int .u16 (x : Nat)] 25)
        have OL := Lib.hid (HO.out.ownV.keep ((Keep.refl _ wr).alloc (.cells #[.int .u16 (x : Nat)] 25)))
        have BL := Lib.hid (Blk.new wr 25 #[.int .u16 (x : Nat)])
        have hsL : w.heap.size + 1 ≤ (wr.alloc (.cells #[.int .u16 (x : Nat)] 25)).heap.size := by have := kL.size; rw [HMs.out] at this; exact this
        clear a1 a2 a3 a4 hx HO kk
        go_wp2_with (refine wpList_append_1 ty_u rfl (.tmp 21) (.tmp 29) rfl (w.heap.size + 1) ao 4 co (fun t => .int .u16 (hdS k l s t : Nat)) rfl OL.out wr.heap.size _ rfl BL.out rfl (by omega) hsL ?_)
        intro a6 c6 w6 o6 g6
        have O6 := Lib.hid (OwnV.ownU (o6.congr (f' := fun t => .int .u16 (hdS k l s t : Nat)) (fun t ht => by
          by_cases h : t < 4
          · rw [if_pos h]
          · rw [if_neg h, show t = 4 by omega, HX.out])))
        have K6 := kL.grown g6 (fun t ht => .inr (by rw [HMs.out]; exact (OL.out.lt t ht).1))
        clear o6 g6 kL OL BL hsL q2 hE
        go_wp2_with fail
        exact ⟨⟨2, a6, c6, by omega, rfl, rfl, O6, K6⟩, by simp [intOf]⟩
      · obtain ⟨x, hx⟩ : ∃ x, x = hdS k l s 5 := ⟨_, rfl⟩
        have hE : (s : Int) / 1024 % 1024 = (x : Int) := by
          rw [hx, a3, shr1]
          rfl
        have hxl : x < 1024 := by rw [hx, a3]; exact Nat.mod_lt _ (by omega)
        have HX := Lib.hid hx
        have kL := kk.alloc (.cells #[.int .u16 (x : Nat)] 25)
        have OL := Lib.hid (HO.out.ownV.keep ((Keep.refl _ wr).alloc (.cells #[.int .u16 (x : Nat)] 25)))
        have BL := Lib.hid (Blk.new wr 25 #[.int .u16 (x : Nat)])
        have hsL : w.heap.size + 1 ≤ (wr.alloc (.cells #[.int .u16 (x : Nat)] 25)).heap.size := by have := kL.size; rw [HMs.out] at this; exact this
        clear a1 a2 a3 a4 hx HO kk
        go_wp2_with (refine wpList_append_1 ty_u rfl (.tmp 21) (.tmp 29) rfl (w.heap.size + 1) ao 5 co (fun t => .int .u16 (hdS k l s t : Nat)) rfl OL.out wr.heap.size _ rfl BL.out rfl (by omega) hsL ?_)
        intro a6 c6 w6 o6 g6
        have O6 := Lib.hid (OwnV.ownU (o6.congr (f' := fun t => .int .u16 (hdS k l s t : Nat)) (fun t ht => by
          by_cases h : t < 5
          · rw [if_pos h]
          · rw [if_neg h, show t = 5 by omega, HX.out])))
        have K6 := kL.grown g6 (fun t ht => .inr (by rw [HMs.out]; exact (OL.out.lt t ht).1))
        clear o6 g6 kL OL BL hsL q2 hE
        go_wp2_with fail
        exact ⟨⟨3, a6, c6, by omega, rfl, rfl, O6, K6⟩, by simp [intOf]⟩
      · obtain ⟨x, hx⟩ : ∃ x, x = hdS k l s 6 := ⟨_, rfl⟩
        have hE : (s : Int) % 1024 = (x : Int) := by
          rw [hx, a4, show shN s 0 = s from rfl]
          rfl
        have hxl : x < 1024 := by rw [hx, a4]; exact Nat.mod_lt _ (by omega)
        have HX := Lib.hid hx
        have kL := kk.alloc (.cells #[.int .u16 (x : Nat)] 25)
        have OL := Lib.hid (HO.out.ownV.keep ((Keep.refl _ wr).alloc (.cells #[.int .u16 (x : Nat)] 25)))
        have BL := Lib.hid (Blk.new wr 25 #[.int .u16 (x : Nat)])
        have hsL : w.heap.size + 1 ≤ (wr.alloc (.cells #[.int .u16 (x : Nat)] 25)).heap.size := by have := kL.size; rw [HMs.out] at this; exact this
        clear a1 a2 a3 a4 hx HO kk
        go_wp2_with (refine wpList_append_1 ty_u rfl (.tmp 21) (.tmp 29) rfl (w.heap.size + 1) ao 6 co (fun t => .int .u16 (hdS k l s t : Nat)) rfl OL.out wr.heap.size _ rfl BL.out rfl (by omega) hsL ?_)
        intro a6 c6 w6 o6 g6
        have O6 := Lib.hid (OwnV.ownU (o6.congr (f' := fun t => .int .u16 (hdS k l s t : Nat)) (fun t ht => by
          by_cases h : t < 6
          · rw [if_pos h]
          · rw [if_neg h, show t = 6 by omega, HX.out])))
        have K6 := kL.grown g6 (fun t ht => .inr (by rw [HMs.out]; exact (OL.out.lt t ht).1))
        clear o6 g6 kL OL BL hsL q2 hE
        go_wp2_with fail
        exact ⟨⟨4, a6, c6, by omega, rfl, rfl, O6, K6⟩, by simp [intOf]⟩
    · obtain rfl : j = 4 := by omega
      have kL := kk.alloc (.cells #[.int .u16 (0 : Nat)] 25)
      have OL := Lib.hid (HO.out.ownV.keep ((Keep.refl _ wr).alloc (.cells #[.int .u16 (0 : Nat)] 25)))
      have BL := Lib.hid (Blk.new wr 25 #[.int .u16 (0 : Nat)])
      have hsL : w.heap.size + 1 ≤ (wr.alloc (.cells #[.int .u16 (0 : Nat)] 25)).heap.size := by have := kL.size; rw [HMs.out] at this; exact this
      clear HO kk
      go_wp2_with (refine wpList_append_1 ty_u rfl (.tmp 31) (.tmp 32) rfl (w.heap.size + 1) ao 7 co (fun t => .int .u16 (hdS k l s t : Nat)) rfl OL.out wr.heap.size _ rfl BL.out rfl (by omega) hsL ?_)
      intro a6 c6 w6 o6 g6
      have O6 := Lib.hid (OwnV.ownU (o6.congr (f' := fun t => .int .u16 (hdS k l s t : Nat)) (fun t ht => by
        by_cases h : t < 7
        · rw [if_pos h]
        · rw [if_neg h, show t = 7 by omega]
          rfl)))
      have K6 := kL.grown g6 (fun t ht => .inr (by rw [HMs.out]; exact (OL.out.lt t ht).1))
      clear o6 g6 kL OL BL hsL
      go_wp2_with fail
      go_ret
      exact ⟨a6, c6, rfl, O6.out.more (Nat.le_succ _), kM.comp K6⟩
set_option maxRecDepth 100000 in
set_option maxHeartbeats 1000000 in
theorem fmay_yes (k l s : Nat) (h : MarkOk k l s) (w : World) :
    Calls Tryz.prog 77 #[markV k l s] w fun e w' => e = .returned (.bool true) ∧ Keep (fun _ => False) w w' := by
  have m1 : decide (1 ≤ (k : Int)) = true := decide_eq_true (by have := h.k1; omega)
  have m2 : decide ((k : Int) ≤ 1023) = true := decide_eq_true (by have := h.k2; omega)
  have m3 : decide (0 ≤ (l : Int)) = true := decide_eq_true (by omega)
  have m4 : decide ((l : Int) < 1048576) = true := decide_eq_true (by have := h.l; omega)
  have m5 : decide (0 ≤ (s : Int)) = true := decide_eq_true (by omega)
  have m6 : decide ((s : Int) < 1099511627776) = true := decide_eq_true (by have := h.s; omega)
  have kM := (Keep.refl (fun _ => False) w).alloc (.cells #[.int .i64 k, .int .i64 l, .int .i64 s] 30)
  unfold markV
  clear h
  go_enter Tryz.func77, Tryz.ntmps77
  go_wp2_with fail
  go_ret
  exact ⟨rfl, kM⟩
set_option maxRecDepth 100000 in
set_option maxHeartbeats 2000000 in
theorem fmay_no (k l s : Int) (h : MarkBad k l s) (w : World) :
    Calls Tryz.prog 77 #[markV k l s] w fun e w' => e = .returned (.bool false) ∧ Keep (fun _ => False) w w' := by
  have kM := (Keep.refl (fun _ => False) w).alloc (.cells #[.int .i64 k, .int .i64 l, .int .i64 s] 30)
  unfold markV
  cases d1 : decide (1 ≤ k) with
  | false =>
    clear h
    go_enter Tryz.func77, Tryz.ntmps77
    go_wp2_with fail
    go_ret
    exact ⟨rfl, kM⟩
  | true =>
    cases d2 : decide (k ≤ 1023) with
    | false =>
      clear h
      go_enter Tryz.func77, Tryz.ntmps77
      go_wp2_with fail
      go_ret
      exact ⟨rfl, kM⟩
    | true =>
      cases d3 : decide (0 ≤ l) with
      | false =>
        clear h
        go_enter Tryz.func77, Tryz.ntmps77
        go_wp2_with fail
        go_ret
        exact ⟨rfl, kM⟩
      | true =>
        cases d4 : decide (l < 1048576) with
        | false =>
          clear h
          go_enter Tryz.func77, Tryz.ntmps77
          go_wp2_with fail
          go_ret
          exact ⟨rfl, kM⟩
        | true =>
          cases d5 : decide (0 ≤ s) with
          | false =>
            clear h
            go_enter Tryz.func77, Tryz.ntmps77
            go_wp2_with fail
            go_ret
            exact ⟨rfl, kM⟩
          | true =>
            have d6 : decide (s < 1099511627776) = false := by
              unfold MarkBad at h
              simp only [decide_eq_true_iff] at d1 d2 d3 d4 d5
              exact decide_eq_false (by omega)
            clear h
            go_enter Tryz.func77, Tryz.ntmps77
            go_wp2_with fail
            go_ret
            exact ⟨rfl, kM⟩
set_option maxRecDepth 100000 in
set_option maxHeartbeats 2000000 in
theorem symbols_any (B P : Int) (W K k l s n : Nat) (a : Option Addr) (c : Nat) (d : Nat → Nat) (w : World) (hm : MarkOk k l s) (hW : W ≤ 4) (hK : K ≤ 64) (hn : 8 + pkN n ≤ W * K) (hn1 : 1 ≤ n) (ha : ArgV w a n (fun i => .int .u8 (d i : Nat))) (hd : ∀ i, i < n → d i < 256) :
    Calls Tryz.prog 79 #[geoV B P W K, markV k l s, .slice a n c] w fun e w' => ∃ a' c', e = .returned (.slice a' (W * K) c') ∧ OwnU w' w.heap.size a' (W * K) c' (pgD k l s d n) ∧ Keep (fun _ => False) w w' := by
  have hwk : W * K ≤ 256 := Nat.mul_le_mul hW hK
  have hpn : n ≤ 400 := by unfold pkN at hn; omega
  obtain ⟨m, hmm⟩ : ∃ m, m = W * K := ⟨_, rfl⟩
  have hmul : (W : Int) * (K : Int) = (m : Int) := by rw [hmm]; exact (Int.natCast_mul W K).symm
  rw [← hmm] at hn hwk ⊢
  obtain ⟨M, hM⟩ : ∃ M, M = (w.alloc (.cells #[.int .i64 B, .int .i64 P, .int .i64 W, .int .i64 K] 23)).alloc (.cells #[.int .i64 k, .int .i64 l, .int .i64 s] 30) := ⟨_, rfl⟩
  have kw : Keep (fun _ => False) w M := by rw [hM]; exact ((Keep.refl _ w).alloc _).alloc _
  have bG : Blk M w.heap.size 23 #[.int .i64 B, .int .i64 P, .int .i64 W, .int .i64 K] := by rw [hM]; exact (Blk.new w _ _).alloc _
  have bM : Blk M (w.heap.size + 1) 30 #[.int .i64 k, .int .i64 l, .int .i64 s] := by rw [hM]; exact Blk.here _ _ _ _ (by simp)
  have q0 : M.cell? ⟨w.heap.size + 1, 0, none⟩ = some (.int .i64 k) := by rw [bM.cell]; rfl
  have q1 : M.cell? ⟨w.heap.size + 1, 1, none⟩ = some (.int .i64 l) := by rw [bM.cell]; rfl
  have q2 : M.cell? ⟨w.heap.size + 1, 2, none⟩ = some (.int .i64 s) := by rw [bM.cell]; rfl
  have HA := Lib.hid (ha.keep kw)
  have HD := Lib.hid hd
  have HH := Lib.hid (fun w => head_any k l s hm w)
  have HZ := Lib.hid kw.size
  unfold markV at HH ⊢
  clear ha hd hm hmm bM
  go_enter Tryz.func79, Tryz.ntmps79
  go_wp2_with fail
  rw [← hM]
  clear hM
  go_wp2_with fail
  clear q0 q1 q2
  refine (HH.out _).mono ?_
  rintro e w1 ⟨a1, c1, rfl, o1, k1⟩
  have HA1 := HA.out.keep k1
  go_wp2_with fail
  refine (pack_any a n c d _ HA1 HD.out (by omega)).mono ?_
  rintro e w2 ⟨a2, c2, rfl, o2, k2⟩
  have K2 := k1.comp k2
  have O1 := Lib.hid (o1.keep k2)
  have hpk0 : ∀ i, pkS d n i < 1024 := pkS_lt d n
  obtain ⟨g2, rfl, _, _, _⟩ := o2.row (show 0 < pkN n by unfold pkN; omega)
  have AP := Lib.hid (o2.arg (by omega) (fun i _ => by have := hpk0 i; omega))
  clear o1 o2 k1 k2 HA HA1 HH
  have hs2 := K2.size
  obtain ⟨L, hL⟩ : ∃ L, L = 8 + pkN n := ⟨_, rfl⟩
  go_wp2_with (refine wpList_append_u rfl (.tmp 9) (.tmp 11) rfl M.heap.size a1 8 c1 (hdS k l s) rfl O1.out ⟨g2, 0, none⟩ (pkN n) c2 (pkS d n) rfl AP.out (by omega) hs2 ?_)
  intro a3 c3 w3 o3 g3
  rw [← hL] at o3 ⊢
  have O3 := o3.congr (f' := pgD k l s d n) (fun i hi => by
    unfold pgD
    by_cases h : i < 8
    · rw [if_pos h, if_pos h]
    · rw [if_neg h, if_neg h, if_pos (by omega)])
  have K3 := K2.grown g3 (fun t ht => .inr (O1.out.row_ge ht))
  obtain ⟨g0, g1, g2', g3'⟩ := geo_cells (bG.keep K3 (by simp))
  obtain ⟨gR, rfl, hgR, hcR, rR⟩ := O3.row (by omega)
  obtain ⟨z, hz⟩ : ∃ z, z = m - L := ⟨_, rfl⟩
  have hzI : (m : Int) - (L : Int) = (z : Int) := by omega
  have hLz : L + z = m := by omega
  have hs3 := K3.size
  have hLm : L ≤ 256 := by omega
  have hzm : z ≤ 256 := by omega
  have HLE := Lib.hid hL
  have RR := Lib.hid rR
  clear o3 g3 hz hL O3 rR K2 AP O1 hn
  go_wp2_with (refine wpList_append_zeros rfl (.tmp 13) (.tmp 21) rfl M.heap.size gR L c3 (pgD k l s d n) rfl RR.out hgR hcR z rfl (by omega) hs3 ?_)
  intro a4 c4 w4 o4 g4
  have O4 := Lib.hid (show OwnU w4 w.heap.size a4 m c4 (pgD k l s d n) from (o4.congr (fun i hi => by
    by_cases h : i < L
    · rw [if_pos h]
    · rw [if_neg h]
      unfold pgD
      rw [if_neg (by have := HLE.out; omega), if_neg (by have := HLE.out; omega)])).more HZ.out)
  have K4 := K3.grown g4 (fun t ht => .inr (by cases ht; exact hgR))
  clear g0 g1 g2' g3' o4 g4
  go_wp2_with fail
  go_ret
  exact ⟨a4, c4, rfl, O4.out, kw.comp K4⟩
end Go.Proofs.YtdlmjjlejkkniaaGreat

namespace Go.Proofs.YtdlmjjlejkkniaaGreat
open Go.RowKit

theorem mark_cells {w : World} {g : Nat} {k l s : Int} (b : Blk w g 30 #[.int .i64 k, .int .i64 l, .int .i64 s]) :
    w.cell? ⟨g, 0, none⟩ = some (.int .i64 k) ∧ w.cell? ⟨g, 1, none⟩ = some (.int .i64 l) ∧ w.cell? ⟨g, 2, none⟩ = some (.int .i64 s) :=
  ⟨by rw [b.cell]; rfl, by rw [b.cell]; rfl, by rw [b.cell]; rfl⟩
end Go.Proofs.YtdlmjjlejkkniaaGreat

namespace Go.Proofs.YtdlmjjlejkkniaaGreat
open Go.RowKit

/-- r words of n symbols each, in a row of rows of the call's own. -/
structure WordsIn (w : World) (N r n : Nat) (ao : Option Addr) (co : Nat) (A : Nat → Option Addr) (C : Nat → Nat) (q : Nat → Nat → Nat) : Prop where
  v : OwnV w 31 N ao r co (famV A (fun _ => n) C)
  u : ∀ i, i < r → OwnU w N (A i) n (C i) (q i)
section
variable {w w' : World} {N r n : Nat} {ao : Option Addr} {co : Nat} {A : Nat → Option Addr} {C : Nat → Nat} {q : Nat → Nat → Nat}
theorem WordsIn.nil (w : World) (N n : Nat) (A : Nat → Option Addr) (C : Nat → Nat) (q : Nat → Nat → Nat) : WordsIn w N 0 n none 0 A C q := ⟨OwnV.nil _ _ _ _, fun _ h => by omega⟩
theorem WordsIn.keep (h : WordsIn w N r n ao co A C q) (hk : Keep (fun _ => False) w w') : WordsIn w' N r n ao co A C q := ⟨h.v.keep hk, fun i hi => (h.u i hi).keep hk⟩
theorem OwnV.row_blk {T : TypeId} {a : Option Addr} {m c : Nat} {f : Nat → Value} (h : OwnV w T N a m c f) {k : Nat} (hk : (Value.slice a m c).ownBlock = some k) : N ≤ k ∧ ∃ cs, Blk w k T cs := by
  rcases h.2 with ⟨e, _⟩ | ⟨g, cap, cs, e, hN, hb, _⟩
  · injection e with e1 e2 e3
    subst e1
    cases hk
  · injection e with e1 e2 e3
    subst e1
    have : some g = some k := hk
    cases this
    exact ⟨hN, cs, hb⟩
theorem OwnU.grownT {a : Option Addr} {m c : Nat} {f : Nat → Nat} (h : OwnU w N a m c f) {M : Nat} {F : Nat → Value} {l : Nat} (hv : OwnV w 31 M ao l co F) (hg : w.grownBy w' (Value.slice ao l co).ownBlock) : OwnU w' N a m c f := by
  refine ⟨h.1, ?_⟩
  rcases h.2 with e | ⟨g, cap, cs, e, hN, hb, hr⟩
  · exact .inl e
  · refine .inr ⟨g, cap, cs, e, hN, (hg.block g (Blk.lt (t := 25) (cs := cs) hb) (fun e2 => ?_)).trans hb, hr⟩
    obtain ⟨_, cs2, hb2⟩ := hv.row_blk e2.symm
    exact (show Blk w g 25 cs from hb).ne hb2 (by decide) rfl
/-- One word more. -/
theorem WordsIn.push (h : WordsIn w N r n ao co A C q) {a a' : Option Addr} {c c' : Nat} {p : Nat → Nat} (hu : OwnU w N a n c p) (ho : OwnV w' 31 N a' (r + 1) c' (fun i => if i < r then famV A (fun _ => n) C i else .slice a n c)) (hg : w.grownBy w' (Value.slice ao r co).ownBlock) :
    WordsIn w' N (r + 1) n a' c' (updF A r a) (updF C r c) (updF q r p) := by
  refine ⟨ho.congr fun i hi => ?_, fun i hi => ?_⟩
  · unfold famV updF
    by_cases h : i < r
    · rw [if_pos h, if_neg (by omega), if_neg (by omega)]
    · rw [if_neg h, if_pos (by omega), if_pos (by omega)]
  · by_cases hir : i = r
    · subst hir
      simp only [updF_at]
      exact hu.grownT h.v hg
    · simp only [updF_ne _ _ hir]
      exact (h.u i (by omega)).grownT h.v hg
end
/-- A codeword that can be read. -/
def GoodRow (x y : Nat → Int) (n : Nat) (q : Nat → Nat) : Prop := (∃ d, Near (slS x y) n q d) ∧ wrongN (fun i => onB (x i) (y i)) (slS x y) q n ≤ 8
theorem wrongN_congr {z : Nat → Bool} {s q q' : Nat → Nat} : ∀ {n}, (∀ i, i < n → q i = q' i) → wrongN z s q n = wrongN z s q' n
  | 0, _ => rfl
  | n + 1, h => by
    unfold wrongN
    rw [wrongN_congr (fun i hi => h i (by omega)), h n (by omega)]
theorem GoodRow.uniq {x y : Nat → Int} {n : Nat} {q q' : Nat → Nat} {d : Nat} (hn : n ≤ 1023) (h : Near (slS x y) n q d) (h' : GoodRow x y n q') : ∀ i, i < n → q i = q' i := by
  obtain ⟨⟨d', h2⟩, _⟩ := h'
  exact (Near.uniq hn h h2).1
/-- The points' distances from the words' symbols, added up. -/
def offX (W : Nat) (x : Nat → Int) (q : Nat → Nat → Nat) : Nat → Int
  | 0 => 0
  | n + 1 => offX W x q n + (x n - reS (q (n % W) (n / W)))
def offY (W : Nat) (y : Nat → Int) (q : Nat → Nat → Nat) : Nat → Int
  | 0 => 0
  | n + 1 => offY W y q n + (y n - imS (q (n % W) (n / W)))
/-- What is added up. -/
def Pu (a : Int) : Prop := a.natAbs ≤ 100000
theorem Pu.pm {a : Int} (h : Pu a) : Pm a := by unfold Pu Pm at *; omega
theorem offX_le {W : Nat} {x : Nat → Int} {q : Nat → Nat → Nat} : ∀ {n}, (∀ i, i < n → Pu (x i)) → (offX W x q n).natAbs ≤ 200000 * n
  | 0, _ => by show (0 : Int).natAbs ≤ _; omega
  | n + 1, h => by
    have h1 := offX_le (q := q) (W := W) (fun i hi => h i (by omega) : ∀ i, i < n → Pu (x i))
    have h2 := h n (by omega)
    have h3 : (reS (q (n % W) (n / W))).natAbs ≤ 1000 := by unfold reS co; omega
    unfold offX
    unfold Pu at h2
    omega
theorem offY_le {W : Nat} {y : Nat → Int} {q : Nat → Nat → Nat} : ∀ {n}, (∀ i, i < n → Pu (y i)) → (offY W y q n).natAbs ≤ 200000 * n
  | 0, _ => by show (0 : Int).natAbs ≤ _; omega
  | n + 1, h => by
    have h1 := offY_le (q := q) (W := W) (fun i hi => h i (by omega) : ∀ i, i < n → Pu (y i))
    have h2 := h n (by omega)
    have h3 : (imS (q (n % W) (n / W))).natAbs ≤ 1000 := by unfold imS co; omega
    unfold offY
    unfold Pu at h2
    omega
theorem re_le (s : Nat) : (reS s).natAbs ≤ 1000 := by unfold reS co; omega
theorem im_le (s : Nat) : (imS s).natAbs ≤ 1000 := by unfold imS co; omega
theorem Pm_off {a b : Int} (h : Pu a) (hb : b.natAbs ≤ 1000) : Pm (a - b) := by unfold Pu at h; unfold Pm; omega
/-- What Shift answers. -/
def ShiftR (x y : Nat → Int) (W K n : Nat) (e : Ending) : Prop :=
  (∃ q : Nat → Nat → Nat, (∀ r, r < W → GoodRow (fun i => x (r + i * W)) (fun i => y (r + i * W)) (K + 16) (q r)) ∧ e = .returned (.tuple #[ptv (offX W x q n) (offY W y q n), .int .i64 0])) ∨
  ((∃ r, r < W ∧ ∀ q, ¬ GoodRow (fun i => x (r + i * W)) (fun i => y (r + i * W)) (K + 16) q) ∧ e = .returned (.tuple #[.complex .f64 0 0, .int .i64 4]))
theorem MendR.good {w' : World} {N : Nat} {x y : Nat → Int} {n : Nat} {e : Ending} (hn : n ≤ 1023) (h : MendR w' N x y n e) :
    (∃ q a' c' v, e = .returned (.tuple #[.slice a' n c', .int .i64 (v : Nat), .bool true]) ∧ v = wrongN (fun i => onB (x i) (y i)) (slS x y) q n ∧ GoodRow x y n q ∧ OwnU w' N a' n c' q) ∨
    (∃ a' m c' v, e = .returned (.tuple #[.slice a' m c', .int .i64 (v : Nat), .bool false]) ∧ ∀ q, ¬ GoodRow x y n q) := by
  rcases h with ⟨q, d, a', c', hN, rfl, ho⟩ | ⟨hno, rfl⟩
  · by_cases h8 : wrongN (fun i => onB (x i) (y i)) (slS x y) q n ≤ 8
    · exact .inl ⟨q, a', c', _, by rw [decide_eq_true h8], rfl, ⟨⟨d, hN⟩, h8⟩, ho⟩
    · refine .inr ⟨a', n, c', _, by rw [decide_eq_false h8], fun q' h' => h8 ?_⟩
      rw [wrongN_congr (GoodRow.uniq hn hN h')]
      exact h'.2
  · exact .inr ⟨none, 0, 0, 0, rfl, fun q h => hno q _ h.1.choose_spec⟩
theorem MendR.forms {w' : World} {N : Nat} {x y : Nat → Int} {n : Nat} {e : Ending} (hn : n ≤ 1023) (h : MendR w' N x y n e) :
    ∃ aq nq cq v b, e = .returned (.tuple #[.slice aq nq cq, .int .i64 (v : Nat), .bool b]) ∧ ((b = true ∧ nq = n ∧ ∃ q, v = wrongN (fun i => onB (x i) (y i)) (slS x y) q n ∧ GoodRow x y n q ∧ OwnU w' N aq n cq q) ∨ (b = false ∧ ∀ q, ¬ GoodRow x y n q)) := by
  rcases h.good hn with ⟨q, a', c', v, he, hv, hg, ho⟩ | ⟨a', m, c', v, he, hno⟩
  · exact ⟨a', n, c', v, true, he, .inl ⟨rfl, rfl, q, hv, hg, ho⟩⟩
  · exact ⟨a', m, c', v, false, he, .inr ⟨rfl, hno⟩⟩
end Go.Proofs.YtdlmjjlejkkniaaGreat

namespace Go.Proofs.YtdlmjjlejkkniaaGreat
open Go.RowKit

/-- The number of symbols 3 .. 3+j. -/
def seqN (p : Nat → Nat) : Nat → Nat
  | 0 => 0
  | j + 1 => seqN p j * 1024 + p (3 + j)
theorem seqN_lt {p : Nat → Nat} (hp : ∀ i, i < 8 → p i < 1024) : ∀ {j}, j ≤ 4 → seqN p j < 1024 ^ j
  | 0, _ => by show 0 < 1; omega
  | j + 1, h => by
    have h1 := seqN_lt hp (show j ≤ 4 by omega)
    have h2 := hp (3 + j) (by omega)
    unfold seqN
    rw [Nat.pow_succ]
    omega
theorem or_join {S x : Nat} (hS : S < 2 ^ 50) (hx : x < 1024) : bits .or .i64 ((S : Int) * 1024) (x : Int) = ((S * 1024 + x : Nat) : Int) := by
  have h := (bits_nat .i64 62 (by decide) wraps_i64 (S * 1024) x (by omega) (by omega)).2
  rw [show S * 1024 ||| x = S * 1024 + x by
    have := nat_join 10 (S * 1024) x (by omega) (by omega)
    exact this] at h
  rwa [Int.natCast_mul] at h
theorem wrap_i62 {x : Int} (h0 : 0 ≤ x) (h1 : x < 2 ^ 62) : wrap64 x = x := by unfold wrap64; omega
set_option maxRecDepth 100000 in
set_option maxHeartbeats 4000000 in
theorem marked_any (a : Option Addr) (n c : Nat) (p : Nat → Nat) (w : World) (ha : ArgU w a n p) (hn : 8 ≤ n) (hc : n ≤ c) (hp : ∀ i, i < 8 → p i < 1024) :
    Calls Tryz.prog 74 #[.slice a n c] w fun e w' => e = .returned (markV (p 0 : Nat) (p 1 * 1024 + p 2 : Nat) (seqN p 4 : Nat)) ∧ Keep (fun _ => False) w w' := by
  obtain ⟨bA, oA, rfl, hbA, hcA⟩ := ha.at_ (by omega)
  have HC := Lib.hid hcA
  have HP := Lib.hid hp
  have h0 := hp 0 (by omega)
  have h1 := hp 1 (by omega)
  have h2 := hp 2 (by omega)
  have k1 := ((Keep.refl (fun _ => False) w).alloc (.cells #[.int .i64 0, .int .i64 0, .int .i64 0] 30)).drew
  have c0 := (k1.cell (p := ⟨bA, oA + 0, none⟩) hbA (by simp)).trans (hcA 0 (by omega))
  have c1 := (k1.cell (p := ⟨bA, oA + 1, none⟩) hbA (by simp)).trans (hcA 1 (by omega))
  have c2 := (k1.cell (p := ⟨bA, oA + 2, none⟩) hbA (by simp)).trans (hcA 2 (by omega))
  rw [Nat.add_zero] at c0
  have hor := or_join (S := p 1) (x := p 2) (by omega) h2
  have e8 : (8 : Int) ≤ (n : Int) := by omega
  have e0 : (0 : Int) < (n : Int) := by omega
  have e1 : (1 : Int) < (n : Int) := by omega
  have e2 : (2 : Int) < (n : Int) := by omega
  have e7 : (7 : Int) ≤ (c : Int) := by omega
  clear hcA ha hp
  generalize hp0 : p 0 = x0 at *
  generalize hp12 : p 1 * 1024 + p 2 = l0 at *
  generalize hp1 : p 1 = x1 at *
  generalize hp2 : p 2 = x2 at *
  unfold markV
  go_enter Tryz.func74, Tryz.ntmps74
  go_upto_region 1 with (fail)
  obtain ⟨M, hM⟩ : ∃ M, M = w.alloc (.cells #[.int .i64 0, .int .i64 0, .int .i64 0] 30) := ⟨_, rfl⟩
  have hMs : M.heap.size = w.heap.size + 1 := by rw [hM]; simp
  rw [← hM] at c0 c1 c2 k1 ⊢
  have kM : Keep (fun _ => False) w M := by rw [hM]; exact (Keep.refl _ w).alloc _
  have bZ : Blk M w.heap.size 30 #[.int .i64 0, .int .i64 0, .int .i64 0] := by rw [hM]; exact Blk.new w _ _
  clear hM
  have hlt : bA < M.heap.size := by omega
  have hne : bA ≠ M.heap.size := by omega
  clear hMs
  have hn0 : 0 < n := by omega
  have k2 : Keep (fun _ => False) w (M.alloc (.cells #[.int .i64 0, .int .i64 0, .int .i64 0] 30)).drew := (kM.alloc _).drew
  have d0 := (k2.cell (p := ⟨bA, oA + 0, none⟩) hbA (by simp)).trans (HC.out 0 (by omega))
  have d1 := (k2.cell (p := ⟨bA, oA + 1, none⟩) hbA (by simp)).trans (HC.out 1 (by omega))
  have d2 := (k2.cell (p := ⟨bA, oA + 2, none⟩) hbA (by simp)).trans (HC.out 2 (by omega))
  rw [Nat.add_zero, hp0] at d0
  rw [hp1] at d1
  rw [hp2] at d2
  have k3 : Keep (fun _ => False) w (M.alloc (.cells #[.int .i64 x0, .int .i64 l0, .int .i64 0] 30)).drew := (kM.alloc _).drew
  have i0 := (k3.cell (p := ⟨bA, oA + 0, none⟩) hbA (by simp)).trans (HC.out 0 (by omega))
  have i1 := (k3.cell (p := ⟨bA, oA + 1, none⟩) hbA (by simp)).trans (HC.out 1 (by omega))
  have i2 := (k3.cell (p := ⟨bA, oA + 2, none⟩) hbA (by simp)).trans (HC.out 2 (by omega))
  rw [Nat.add_zero, hp0] at i0
  rw [hp1] at i1
  rw [hp2] at i2
  have f0 : IntKind.i64.wrap (x0 : Int) = (x0 : Int) := wraps_i64 _ (by omega) (by omega)
  have f1 : IntKind.i64.wrap (x1 : Int) = (x1 : Int) := wraps_i64 _ (by omega) (by omega)
  have f2 : IntKind.i64.wrap (x2 : Int) = (x2 : Int) := wraps_i64 _ (by omega) (by omega)
  have f3 : IntKind.i64.wrap ((x1 : Int) * 1024) = (x1 : Int) * 1024 := wraps_i64 _ (by omega) (by omega)
  go_region_held3 (fun w' => w'.cell? ⟨bA, oA, none⟩ = some (.int .u16 x0) ∧ w'.cell? ⟨bA, oA + 1, none⟩ = some (.int .u16 x1) ∧ w'.cell? ⟨bA, oA + 2, none⟩ = some (.int .u16 x2))
    (first | exact ⟨c0, c1, c2⟩ | exact ⟨d0, d1, d2⟩ | exact ⟨i0, i1, i2⟩)
    (fail)
  have bK : Blk (M.alloc (.cells #[.int .i64 x0, .int .i64 l0, .int .i64 0] 30)).drew M.heap.size 30 #[.int .i64 x0, .int .i64 l0, .int .i64 0] := (Blk.new M _ _).drew
  have bZ3 : Blk (M.alloc (.cells #[.int .i64 x0, .int .i64 l0, .int .i64 0] 30)).drew w.heap.size 30 #[.int .i64 0, .int .i64 0, .int .i64 0] := (bZ.alloc _).drew
  have hgg : w.heap.size ≠ M.heap.size := by have := bZ.lt; omega
  have hMw : w.heap.size ≤ M.heap.size := kM.size
  clear c0 c1 c2 d0 d1 d2 i0 i1 i2 k1 k2 hor hne bZ hlt
  generalize (M.alloc (.cells #[.int .i64 x0, .int .i64 l0, .int .i64 0] 30)).drew = W3 at *
  generalize M.heap.size = gM at *
  have HE := Lib.hid (And.intro hp0 (And.intro hp1 (And.intro hp2 hp12)))
  clear hp0 hp1 hp2 hp12 f0 f1 f2 f3 h0 h1 h2 kM
  go_wp2_with fail
  go_loopw [24] (fun v wr => ∃ j : Nat, j ≤ 4 ∧ v = .int .i64 j ∧ Hid (Blk wr gM 30 #[.int .i64 x0, .int .i64 l0, .int .i64 (seqN p j : Nat)]) ∧ Hid (Blk wr w.heap.size 30 #[.int .i64 0, .int .i64 0, .int .i64 0]) ∧ Keep (fun _ => False) w wr) (fun v _ => 4 - (intOf v).toNat)
  case atStart => exact ⟨0, by omega, rfl, Lib.hid bK, Lib.hid bZ3, k3⟩
  case round =>
    obtain ⟨j, hj, rfl, HB, HZ, kk⟩ := hrel
    by_cases hj4 : j < 4
    · have hj4' : (j : Int) < 4 := by omega
      have c0 := (kk.cell (p := ⟨bA, oA + (3 + j), none⟩) hbA (by simp)).trans (HC.out (3 + j) (by omega))
      rw [← Nat.add_assoc] at c0
      have q2 : wr.cell? ⟨gM, 2, none⟩ = some (.int .i64 (seqN p j : Nat)) := by rw [HB.out.cell]; rfl
      have fz := HB.out.frozen 2
      have hS := seqN_lt HP.out (show j ≤ 4 by omega)
      have hS2 : seqN p j < 2 ^ 50 := Nat.lt_of_lt_of_le hS (show 1024 ^ j ≤ 2 ^ 50 from Nat.le_trans (Nat.pow_le_pow_right (by omega) (show j ≤ 5 by omega)) (by decide))
      have hx := HP.out (3 + j) (by omega)
      have hor := or_join hS2 hx
      have hN : seqN p j * 1024 + p (3 + j) = seqN p (j + 1) := rfl
      have f3 : IntKind.i64.wrap ((seqN p j : Int) * 1024) = (seqN p j : Int) * 1024 := wraps_i64 _ (by omega) (by omega)
      have f4 : wrap64 ((seqN p j : Int) * 1024) = (seqN p j : Int) * 1024 := wrap_i62 (by omega) (by omega)
      rw [hN] at hor
      have B2 := Lib.hid (show Blk (wr.setCell ⟨gM, 2, none⟩ (.int .i64 (seqN p (j + 1) : Nat))) gM 30 #[.int .i64 x0, .int .i64 l0, .int .i64 (seqN p (j + 1) : Nat)] from HB.out.put 2 _)
      have Z2 := Lib.hid (HZ.out.far (p := ⟨gM, 2, none⟩) hgg (.int .i64 (seqN p (j + 1) : Nat)))
      have K2 := Lib.hid (kk.setCell (p := ⟨gM, 2, none⟩) (.inr hMw) (.int .i64 (seqN p (j + 1) : Nat)))
      clear hS hS2 hN HB HZ kk
      generalize hS1 : seqN p (j + 1) = S1 at *
      have HS1 := Lib.hid hS1
      clear hS1
      generalize seqN p j = S at *
      generalize p (3 + j) = x at *
      go_wp2_with fail
      exact ⟨⟨j + 1, by omega, by go_num, by rw [HS1.out]; exact B2, Z2, K2.out⟩, by simp [intOf]; omega⟩
    · obtain rfl : j = 4 := by omega
      obtain ⟨q0, q1, q2⟩ := mark_cells HB.out
      have Z0 := HZ.out
      have Z1 : Blk (wr.setCell ⟨w.heap.size, 0, none⟩ (.int .i64 x0)) w.heap.size 30 #[.int .i64 x0, .int .i64 0, .int .i64 0] := Z0.put 0 _
      have Z2 : Blk ((wr.setCell ⟨w.heap.size, 0, none⟩ (.int .i64 x0)).setCell ⟨w.heap.size, 1, none⟩ (.int .i64 l0)) w.heap.size 30 #[.int .i64 x0, .int .i64 l0, .int .i64 0] := Z1.put 1 _
      have Z3 := Lib.hid (show Blk (((wr.setCell ⟨w.heap.size, 0, none⟩ (.int .i64 x0)).setCell ⟨w.heap.size, 1, none⟩ (.int .i64 l0)).setCell ⟨w.heap.size, 2, none⟩ (.int .i64 (seqN p 4 : Nat))) w.heap.size 30 #[.int .i64 x0, .int .i64 l0, .int .i64 (seqN p 4 : Nat)] from Z2.put 2 _)
      have KF := Lib.hid (((kk.setCell (p := ⟨w.heap.size, 0, none⟩) (.inr (Nat.le_refl _)) (.int .i64 x0)).setCell (p := ⟨w.heap.size, 1, none⟩) (.inr (Nat.le_refl _)) (.int .i64 l0)).setCell (p := ⟨w.heap.size, 2, none⟩) (.inr (Nat.le_refl _)) (.int .i64 (seqN p 4 : Nat)))
      obtain ⟨y0, _, _⟩ := mark_cells Z0
      obtain ⟨_, y1, _⟩ := mark_cells Z1
      obtain ⟨_, _, y2⟩ := mark_cells Z2
      have z0 := Z0.frozen 0
      have z1 := Z1.frozen 1
      have z2 := Z2.frozen 2
      clear Z0 Z1 Z2 HZ HB kk
      generalize hS4 : seqN p 4 = S4 at *
      have HS4 := Lib.hid hS4
      clear hS4
      go_wp2_with fail
      (try simp only [Exit.inBlock, Exit.then])
      refine bodyPost_ret (results_cell_row rfl _ _ w.heap.size 30 _ (0, 0) _ rfl Z3.out Tryz.underlying30 rfl (by kernel_rfl)) rfl ?_
      exact ⟨by rw [HS4.out], KF.out⟩
/-- Are two rows one? -/
def eqB (p q : Nat → Nat) : Nat → Bool
  | 0 => true
  | n + 1 => eqB p q n && decide (p n = q n)
theorem eqB_true {p q : Nat → Nat} : ∀ {n}, (∀ i, i < n → p i = q i) → eqB p q n = true
  | 0, _ => rfl
  | n + 1, h => by
    unfold eqB
    rw [eqB_true (fun i hi => h i (by omega)), decide_eq_true (h n (by omega))]
    rfl
theorem eqB_false {p q : Nat → Nat} {j : Nat} (h : p j ≠ q j) : ∀ {n}, j < n → eqB p q n = false
  | n + 1, hj => by
    unfold eqB
    by_cases e : j = n
    · rw [← e, decide_eq_false h, Bool.and_false]
    · rw [eqB_false h (by omega), Bool.false_and]
theorem eqB_iff {p q : Nat → Nat} {n : Nat} : eqB p q n = true ↔ ∀ i, i < n → p i = q i := by
  constructor
  · intro h i hi
    rcases Nat.decEq (p i) (q i) with h1 | h1
    · rw [eqB_false h1 hi] at h
      cases h
    · exact h1
  · exact eqB_true
set_option maxRecDepth 100000 in
set_option maxHeartbeats 2000000 in
theorem equal_any (a b : Option Addr) (n c c' : Nat) (p q : Nat → Nat) (w : World) (ha : ArgU w a n p) (hb : ArgU w b n q) :
    Calls Tryz.prog 78 #[.slice a n c, .slice b n c'] w fun e w' => e = .returned (.bool (eqB p q n)) ∧ Keep (fun _ => False) w w' := by
  have HA := Lib.hid ha
  have HB := Lib.hid hb
  have hsm := ha.small
  clear ha hb
  go_enter Tryz.func78, Tryz.ntmps78
  go_wp2_with fail
  go_loopw [13] (fun v wr => ∃ j : Nat, j ≤ n ∧ v = .int .i64 j ∧ Hid (∀ i, i < j → p i = q i) ∧ Keep (fun _ => False) w wr) (fun v _ => n - (intOf v).toNat)
  case atStart => exact ⟨0, by omega, rfl, Lib.hid (fun i hi => by omega), Keep.refl _ _⟩
  case round =>
    obtain ⟨j, hj, rfl, HE, kk⟩ := hrel
    by_cases hjn : j < n
    · have hjn' : (j : Int) < (n : Int) := by omega
      obtain ⟨bA, oA, rfl, hbA, hcA⟩ := HA.out.at_ (by omega)
      obtain ⟨bB, oB, rfl, hbB, hcB⟩ := HB.out.at_ (by omega)
      have c0 := (kk.cell (p := ⟨bA, oA + j, none⟩) hbA (by simp)).trans (hcA j hjn)
      have c1 := (kk.cell (p := ⟨bB, oB + j, none⟩) hbB (by simp)).trans (hcB j hjn)
      clear hcA hcB
      by_cases hpq : p j = q j
      · have HE2 := Lib.hid (show ∀ i, i < j + 1 → p i = q i from fun i hi => by
          by_cases e : i = j
          · rw [e]; exact hpq
          · exact HE.out i (by omega))
        rw [hpq] at c0
        have e1 : (((q j : Nat) : Int) != ((q j : Nat) : Int)) = false := by simp
        clear hpq
        generalize q j = y at *
        go_wp2_with fail
        go_quiet (fail)
        go_wp2_with fail
        exact ⟨⟨j + 1, by omega, by go_num, HE2, kk.drewN _⟩, by simp [intOf]; omega⟩
      · have HF := Lib.hid (eqB_false hpq hjn)
        have e1 : (((p j : Nat) : Int) != ((q j : Nat) : Int)) = true := by simp; omega
        have e2 : ¬ ((p j : Nat) : Int) = ((q j : Nat) : Int) := by omega
        clear hpq
        generalize p j = x at *
        generalize q j = y at *
        go_wp2_with fail
        go_quiet (fail)
        go_wp2_with fail
        go_ret
        exact ⟨by rw [HF.out]; rfl, kk.drewN _⟩
    · obtain rfl : j = n := by omega
      have hjn' : ¬ (j : Int) < (j : Int) := by omega
      have HT := Lib.hid (eqB_true HE.out)
      go_wp2_with fail
      go_ret
      exact ⟨by rw [HT.out]; rfl, kk⟩
end Go.Proofs.YtdlmjjlejkkniaaGreat

namespace Go.Proofs.YtdlmjjlejkkniaaGreat
open Go.RowKit

set_option maxHeartbeats 1000000 in
theorem upover_any (x : Nat) (hx : x < 1024) (w : World) : Calls Tryz.prog 96 #[.int .u16 x] w fun e w' => e = .returned (.bool false) ∧ w = w' := by
  have h : decide ((1024 : Int) ≤ (x : Int)) = false := decide_eq_false (by omega)
  go_enter Tryz.func96, Tryz.ntmps96
  go_wp2_with fail
  go_ret
  exact ⟨rfl, rfl⟩
set_option maxRecDepth 100000 in
set_option maxHeartbeats 1000000 in
theorem upindex_any (a : Option Addr) (n c : Nat) (p : Nat → Nat) (w : World) (ha : ArgU w a n p) (hp : ∀ i, i < n → p i < 1024) :
    Calls Tryz.prog 85 #[.slice a n c, .func (.func 96) #[] #[]] w fun e w' => e = .returned (.int .i64 (-1)) ∧ w = w' := by
  have HA := Lib.hid ha
  have HP := Lib.hid hp
  have hsm := ha.small
  clear ha hp
  go_enter Tryz.func85, Tryz.ntmps85
  go_wp2_with fail
  go_loopw [8] (fun i wr => ∃ j : Nat, j ≤ n ∧ i = .int .i64 j ∧ w = wr) (fun i _ => n - (intOf i).toNat)
  case atStart => exact ⟨0, Nat.zero_le _, rfl, rfl⟩
  case round =>
    obtain ⟨j, hj, rfl, rfl⟩ := hrel
    by_cases hjl : j < n
    · obtain ⟨b, off, rfl, hbs, hc⟩ := HA.out.at_ (by omega)
      have c0 := hc j hjl
      have hjl' : (j : Int) < (n : Int) := by omega
      have HU := Lib.hid (fun w => upover_any (p j) (HP.out j hjl) w)
      clear hc
      go_wp2_with fail
      refine (HU.out _).mono ?_
      rintro e w3 ⟨rfl, rfl⟩
      go_wp2_with fail
      exact ⟨⟨j + 1, by omega, by go_num, trivial⟩, by simp [intOf]; omega⟩
    · obtain rfl : j = n := by omega
      have hjl' : ¬ (j : Int) < (j : Int) := by omega
      go_wp2_with fail
      go_ret
      exact ⟨rfl, rfl⟩
set_option maxRecDepth 100000 in
set_option maxHeartbeats 1000000 in
theorem upcontains_any (a : Option Addr) (n c : Nat) (p : Nat → Nat) (w : World) (ha : ArgU w a n p) (hp : ∀ i, i < n → p i < 1024) :
    Calls Tryz.prog 62 #[.slice a n c, .func (.func 96) #[] #[]] w fun e w' => e = .returned (.bool false) ∧ w = w' := by
  go_enter Tryz.func62, Tryz.ntmps62
  go_wp2_with fail
  refine (upindex_any a n c p w ha hp).mono ?_
  rintro e w3 ⟨rfl, rfl⟩
  go_wp2_with fail
  go_ret
  exact ⟨rfl, rfl⟩
/-- What the sum holds of the first i symbols' bits: its m last. -/
def uSum (s : Nat → Nat) (i m : Nat) : Nat := mkB (fun k => bitS s (10 * i - 1 - k)) m
theorem uSum_bit (s : Nat → Nat) (i m k : Nat) : (uSum s i m).testBit k = (decide (k < m) && bitS s (10 * i - 1 - k)) := mkB_bit _ _ _
theorem uAcc_bit {s : Nat → Nat} {i m : Nat} (hs : s i < 1024) (k : Nat) : (uSum s i m * 1024 + s i).testBit k = (decide (k < m + 10) && bitS s (10 * i + 9 - k)) := by
  rw [show uSum s i m * 1024 + s i = 2 ^ 10 * uSum s i m + s i by omega, Nat.testBit_two_pow_mul_add _ (show s i < 2 ^ 10 from hs)]
  by_cases hk : k < 10
  · rw [if_pos hk, decide_eq_true (by omega), Bool.true_and]
    unfold bitS
    rw [show (10 * i + 9 - k) / 10 = i by omega, show 9 - (10 * i + 9 - k) % 10 = k by omega]
  · rw [if_neg hk, uSum_bit, show 10 * i - 1 - (k - 10) = 10 * i + 9 - k by omega]
    by_cases h2 : k < m + 10
    · rw [decide_eq_true h2, decide_eq_true (by omega)]
    · rw [decide_eq_false h2, decide_eq_false (by omega)]
theorem uAcc_byte {s : Nat → Nat} {i m l t : Nat} (hs : s i < 1024) (ht : t + 8 + 8 * l = 10 * (i + 1)) (htm : t + 8 ≤ m + 10) : (uSum s i m * 1024 + s i) / 2 ^ t % 256 = upB s l := by
  refine bits_eq 8 (Nat.mod_lt _ (by omega)) (upB_lt _ _) fun k hk => ?_
  rw [show (256 : Nat) = 2 ^ 8 from rfl, Nat.testBit_mod_two_pow, Nat.testBit_div_two_pow, uAcc_bit hs, upB_bit _ _ _ hk, decide_eq_true hk, Bool.true_and, decide_eq_true (by omega), Bool.true_and]
  congr 1
  omega
theorem uAcc_left {s : Nat → Nat} {i m t : Nat} (hs : s i < 1024) (ht : t ≤ m + 10) : (uSum s i m * 1024 + s i) % 2 ^ t = uSum s (i + 1) t := by
  apply Nat.eq_of_testBit_eq
  intro k
  rw [Nat.testBit_mod_two_pow, uAcc_bit hs, uSum_bit, show 10 * (i + 1) - 1 - k = 10 * i + 9 - k by omega]
  by_cases hk : k < t
  · rw [decide_eq_true hk, decide_eq_true (by omega)]
    rfl
  · rw [decide_eq_false hk, Bool.false_and, Bool.false_and]
theorem or_sym {S x : Nat} (hS : S < 262144) (hx : x < 1024) : bits .or .i64 ((S : Int) * 1024) (x : Int) = ((S * 1024 + x : Nat) : Int) := or_join (Nat.lt_of_lt_of_le hS (by decide)) hx
set_option maxRecDepth 100000 in
set_option maxHeartbeats 4000000 in
theorem unpack_any (a : Option Addr) (m c n : Nat) (s : Nat → Nat) (w : World) (ha : ArgU w a m s) (hs : ∀ i, i < m → s i < 1024) (hm : m ≤ 1000) (hn : 8 * n ≤ 10 * m) :
    Calls Tryz.prog 75 #[.slice a m c, .int .i64 n] w fun e w' => ∃ a' c', e = .returned (.tuple #[.slice a' n c', .int .i64 0]) ∧ OwnV w' 5 w.heap.size a' n c' (fun j => .int .u8 (upB s j : Nat)) ∧ Keep (fun _ => False) w w' := by
  have HA := Lib.hid ha
  have HS := Lib.hid hs
  have d1 : decide ((n : Int) < 0) = false := decide_eq_false (by omega)
  have hbd : n ≤ m * 10 / 8 := by omega
  have HB := Lib.hid (fun w => bytes_any m (by omega) w)
  have hb2 : m * 10 / 8 ≤ 2000 := by omega
  clear ha hs
  generalize hbb : m * 10 / 8 = bb at *
  have d2 : decide ((bb : Int) < (n : Int)) = false := decide_eq_false (by omega)
  clear hbb
  go_enter Tryz.func75, Tryz.ntmps75
  go_wp2_with fail
  refine (HB.out _).mono ?_
  rintro e w1 ⟨rfl, rfl⟩
  go_wp2_with fail
  refine (upcontains_any a m c s _ HA.out HS.out).mono ?_
  rintro e w1 ⟨rfl, rfl⟩
  go_wp2_with fail
  clear d1 d2
  go_loopw [6, 7, 8, 26] (fun v6 v7 v8 v26 wr => ∃ (i l t S : Nat) (ao : Option Addr) (co : Nat), i ≤ m ∧ l ≤ n ∧ t ≤ 18 ∧ S < 262144 ∧ Hid (l < n → t + 8 * l = 10 * i ∧ t < 8 ∧ S = uSum s i t) ∧ v6 = .slice ao l co ∧ v7 = .int .i64 S ∧ v8 = .int .i64 t ∧ v26 = .int .i64 i ∧ Hid (OwnV wr 5 w.heap.size ao l co (fun j => .int .u8 (upB s j : Nat))) ∧ Keep (fun _ => False) w wr) (fun _ _ _ v _ => m - (intOf v).toNat)
  case atStart => exact ⟨0, 0, 0, 0, none, 0, by omega, by omega, by omega, by omega, Lib.hid (fun _ => ⟨rfl, by omega, rfl⟩), rfl, rfl, rfl, rfl, Lib.hid (OwnV.nil _ _ _ _), Keep.refl _ _⟩
  case round =>
    obtain ⟨i, l, t, S, ao, co, hi, hl, ht, hS, HI, rfl, rfl, rfl, rfl, HO, kk⟩ := hrel
    by_cases him : i < m
    · have him' : (i : Int) < (m : Int) := by omega
      obtain ⟨bA, oA, rfl, hbA, hcA⟩ := HA.out.at_ (by omega)
      have c0 := (kk.cell (p := ⟨bA, oA + i, none⟩) hbA (by simp)).trans (hcA i him)
      have hx := HS.out i him
      have hor := or_sym hS hx
      obtain ⟨A, hA⟩ : ∃ A, A = S * 1024 + s i := ⟨_, rfl⟩
      have HAe := Lib.hid hA
      have hAl : A < 268435456 := by omega
      rw [← hA] at hor
      clear hcA hA
      generalize hsi : s i = x at *
      have HX := Lib.hid hsi
      clear hsi
      go_wp2_with fail
      go_loopw [6, 8] (fun v6 v8 wr => ∃ (l2 t2 : Nat) (ao : Option Addr) (co : Nat), l2 ≤ n ∧ t2 ≤ 28 ∧ Hid (l2 < n → l < n ∧ t2 + 8 * l2 = 10 * (i + 1) ∧ t2 ≤ t + 10) ∧ v6 = .slice ao l2 co ∧ v8 = .int .i64 t2 ∧ Hid (OwnV wr 5 w.heap.size ao l2 co (fun j => .int .u8 (upB s j : Nat))) ∧ Keep (fun _ => False) w wr) (fun _ v _ => (intOf v).toNat)
      case atStart => exact ⟨l, t + 10, ao, co, hl, by omega, Lib.hid (fun h => ⟨h, by have := HI.out h; omega, Nat.le_refl _⟩), rfl, by go_num, HO, kk⟩
      case round =>
        clear HO kk c0
        obtain ⟨l2, t2, ao, co, hl2, ht2, HI2, rfl, rfl, HO, kk⟩ := hrel
        by_cases hgo : 8 ≤ t2 ∧ l2 < n
        · have e1 : (8 : Int) ≤ (t2 : Int) := by omega
          have e2 : (l2 : Int) < (n : Int) := by omega
          obtain ⟨hl', hb2', ht'⟩ := HI2.out hgo.2
          obtain ⟨h1, h2, h3⟩ := HI.out hl'
          have hbyte := uAcc_byte (s := s) (i := i) (m := t) (l := l2) (t := t2 - 8) (HS.out i him) (by omega) (by omega)
          rw [← h3, HX.out, ← HAe.out] at hbyte
          have hv : (A : Int) / 2 ^ (t2 - 8) % 256 = ((upB s l2 : Nat) : Int) := by
            rw [shr_u8, ← hbyte]
            rfl
          have hbl := upB_lt s l2
          have kL := kk.alloc (.cells #[.int .u8 (upB s l2 : Nat)] 5)
          have OL := Lib.hid (HO.out.keep ((Keep.refl _ wr).alloc (.cells #[.int .u8 (upB s l2 : Nat)] 5)))
          have BL := Lib.hid (Blk.new wr 5 #[.int .u8 (upB s l2 : Nat)])
          have hsL := kL.size
          have HI3 := Lib.hid (show l2 + 1 < n → l < n ∧ t2 - 8 + 8 * (l2 + 1) = 10 * (i + 1) ∧ t2 - 8 ≤ t + 10 from fun _ => ⟨hl', by omega, by omega⟩)
          have hl2' : l2 + 1 ≤ 1000000 := by omega
          clear HO kk hbyte h1 h2 h3 hb2' ht'
          generalize hu : upB s l2 = ub at *
          have HU := Lib.hid hu
          clear hu
          go_wp2_with (refine wpList_append_1 ty_b rfl (.tmp 47) (.tmp 52) rfl w.heap.size ao l2 co (fun j => .int .u8 (upB s j : Nat)) rfl OL.out wr.heap.size _ rfl BL.out rfl hl2' hsL ?_)
          intro a6 c6 w6 o6 g6
          have O6 := Lib.hid (o6.congr (f' := fun j => .int .u8 (upB s j : Nat)) (fun j hj => by
            by_cases h : j < l2
            · rw [if_pos h]
            · rw [if_neg h, show j = l2 by omega, HU.out]))
          have K6 := kL.grown g6 (fun t ht => .inr (OL.out.lt t ht).1)
          clear o6 g6 kL OL BL hsL
          go_wp2_with fail
          exact ⟨⟨l2 + 1, t2 - 8, a6, c6, by omega, by omega, HI3, rfl, congrArg _ (by omega), O6, K6⟩, by simp [intOf]; omega⟩
        · obtain ⟨t3, ht3⟩ : ∃ t3, t3 = min t2 18 := ⟨_, rfl⟩
          have ht3' : t3 ≤ 18 := by omega
          have hmk := mask_i64 (A := A) (m := t3) (by omega) (by omega)
          rw [← wrap_mask (m := t3) (by omega)] at hmk
          have hI4 : l2 < n → t3 + 8 * l2 = 10 * (i + 1) ∧ t3 < 8 ∧ A % 2 ^ t3 = uSum s (i + 1) t3 := fun h => by
            obtain ⟨hl', hb2', ht'⟩ := HI2.out h
            obtain ⟨h1, h2, h3⟩ := HI.out hl'
            have h8 : ¬ 8 ≤ t2 := fun h8 => hgo ⟨h8, h⟩
            have hle := uAcc_left (s := s) (i := i) (m := t) (t := t3) (HS.out i him) (by omega)
            rw [← h3, HX.out, ← HAe.out] at hle
            exact ⟨by omega, by omega, hle⟩
          have hlt : A % 2 ^ t3 < 262144 := Nat.lt_of_lt_of_le (Nat.mod_lt _ (Nat.two_pow_pos _)) (show 2 ^ t3 ≤ 2 ^ 18 from Nat.pow_le_pow_right (by omega) ht3')
          have HI4 := Lib.hid hI4
          clear hI4
          have hmin : (if (18 : Int) < (t2 : Int) then (18 : Int) else (t2 : Int)) = (t3 : Int) := by split <;> omega
          have HT3 := Lib.hid ht3
          clear ht3
          generalize A % 2 ^ t3 = S3 at *
          by_cases h8 : 8 ≤ t2
          · have e1 : (8 : Int) ≤ (t2 : Int) := by omega
            have e2 : ¬ (l2 : Int) < (n : Int) := fun h => hgo ⟨h8, by omega⟩
            clear hgo
            go_wp2_with fail
            exact ⟨⟨i + 1, l2, t3, S3, ao, co, by omega, hl2, ht3', hlt, HI4, rfl, rfl, rfl, by go_num, HO, kk⟩, by simp [intOf]; omega⟩
          · have e1 : ¬ (8 : Int) ≤ (t2 : Int) := by omega
            obtain rfl : t3 = t2 := by have := HT3.out; omega
            clear hgo HT3
            go_wp2_with fail
            exact ⟨⟨i + 1, l2, t3, S3, ao, co, by omega, hl2, ht3', hlt, HI4, rfl, rfl, rfl, by go_num, HO, kk⟩, by simp [intOf]; omega⟩
    · obtain rfl : i = m := by omega
      have him' : ¬ (i : Int) < (i : Int) := by omega
      have hln : l = n := by
        rcases Nat.lt_or_ge l n with h | h
        · have := HI.out h
          omega
        · omega
      subst hln
      go_wp2_with fail
      go_ret2
      exact ⟨ao, co, rfl, HO.out, kk⟩
end Go.Proofs.YtdlmjjlejkkniaaGreat

namespace Go.Proofs.YtdlmjjlejkkniaaGreat
open Go.RowKit

theorem results_cell_row4 {P : Program} {fn : Func} {p u v z : Tmp} {ty : TypeId} (h : fn.results = #[.cell p ty, .tmp u, .tmp v, .tmp z]) (tmps : Array Value) (w : World) (g : Nat) (t : TypeId) (cs : Array Value) (fr : Nat × Nat) (d : TypeDesc)
    (hp : tmps.getD p undef = .pointer (some ⟨g, 0, none⟩)) (hg : w.heap[g]? = some (.cells cs t fr))
    (hu : P.underlying ty = some d) (hd : (match d with | .struct _ | .array _ _ => true | _ => false) = true) (hi : (P.info? ty).map (·.size) = some cs.size) :
    (results fn tmps).run P w = .ok (.tuple #[.agg cs, tmps.getD u undef, tmps.getD v undef, tmps.getD z undef]) w := by
  have hp' : tmps[p]?.getD undef = .pointer (some ⟨g, 0, none⟩) := by simpa using hp
  simp [results, h, hp', asAddr, run_loadVar_row w g t ty cs fr d hg hu hd hi]
/-- A head stored. -/
theorem mark_put {w : World} {g : Nat} {a0 a1 a2 : Int} (b : Blk w g 30 #[.int .i64 a0, .int .i64 a1, .int .i64 a2]) (k l s : Int) :
    ((w.cell? ⟨g, 0, none⟩ = some (.int .i64 a0) ∧ w.frozen? ⟨g, 0, none⟩ = false) ∧
    ((w.setCell ⟨g, 0, none⟩ (.int .i64 k)).cell? ⟨g, 1, none⟩ = some (.int .i64 a1) ∧ (w.setCell ⟨g, 0, none⟩ (.int .i64 k)).frozen? ⟨g, 1, none⟩ = false) ∧
    (((w.setCell ⟨g, 0, none⟩ (.int .i64 k)).setCell ⟨g, 1, none⟩ (.int .i64 l)).cell? ⟨g, 2, none⟩ = some (.int .i64 a2) ∧ ((w.setCell ⟨g, 0, none⟩ (.int .i64 k)).setCell ⟨g, 1, none⟩ (.int .i64 l)).frozen? ⟨g, 2, none⟩ = false)) ∧
    Blk (((w.setCell ⟨g, 0, none⟩ (.int .i64 k)).setCell ⟨g, 1, none⟩ (.int .i64 l)).setCell ⟨g, 2, none⟩ (.int .i64 s)) g 30 #[.int .i64 k, .int .i64 l, .int .i64 s] := by
  have Z1 : Blk (w.setCell ⟨g, 0, none⟩ (.int .i64 k)) g 30 #[.int .i64 k, .int .i64 a1, .int .i64 a2] := b.put 0 _
  have Z2 : Blk ((w.setCell ⟨g, 0, none⟩ (.int .i64 k)).setCell ⟨g, 1, none⟩ (.int .i64 l)) g 30 #[.int .i64 k, .int .i64 l, .int .i64 a2] := Z1.put 1 _
  obtain ⟨y0, _, _⟩ := mark_cells b
  obtain ⟨_, y1, _⟩ := mark_cells Z1
  obtain ⟨_, _, y2⟩ := mark_cells Z2
  exact ⟨⟨⟨y0, b.frozen 0⟩, ⟨y1, Z1.frozen 1⟩, y2, Z2.frozen 2⟩, Z2.put 2 _⟩
theorem Keep.mark {w w' : World} {g : Nat} (h : Keep (fun _ => False) w w') (hg : w.heap.size ≤ g) (k l s : Int) :
    Keep (fun _ => False) w (((w'.setCell ⟨g, 0, none⟩ (.int .i64 k)).setCell ⟨g, 1, none⟩ (.int .i64 l)).setCell ⟨g, 2, none⟩ (.int .i64 s)) :=
  ((h.setCell (p := ⟨g, 0, none⟩) (.inr hg) _).setCell (p := ⟨g, 1, none⟩) (.inr hg) _).setCell (p := ⟨g, 2, none⟩) (.inr hg) _
theorem ArgU.drop {w : World} {b off n m : Nat} {p : Nat → Nat} (h : ArgU w (some ⟨b, off, none⟩) n p) (hm : m ≤ n) : ArgU w (some ⟨b, off + m, none⟩) (n - m) (fun t => p (m + t)) :=
  ⟨by have := h.small; omega, fun h0 => by
    obtain ⟨b', off', e, hb, hc⟩ := h.at_ (by omega)
    cases e
    exact ⟨b, off + m, rfl, hb, fun i hi => by rw [Nat.add_assoc]; exact hc (m + i) (by omega)⟩, fun i hi => h.lt (m + i) (by omega)⟩
/-- The greatest of the first n. -/
def mostN (f : Nat → Nat) : Nat → Nat
  | 0 => 0
  | n + 1 => max (mostN f n) (f n)
theorem mostN_congr {f g : Nat → Nat} : ∀ {n}, (∀ i, i < n → f i = g i) → mostN f n = mostN g n
  | 0, _ => rfl
  | n + 1, h => by
    unfold mostN
    rw [mostN_congr (fun i hi => h i (by omega)), h n (by omega)]
theorem mostN_le {f : Nat → Nat} {b : Nat} : ∀ {n}, (∀ i, i < n → f i ≤ b) → mostN f n ≤ b
  | 0, _ => Nat.zero_le _
  | n + 1, h => by
    unfold mostN
    have h1 := mostN_le (fun i hi => h i (by omega) : ∀ i, i < n → f i ≤ b)
    have h2 := h n (by omega)
    omega
/-- How many each codeword has wrong. -/
def wrF (x y : Nat → Int) (W K : Nat) (q : Nat → Nat → Nat) : Nat → Nat := fun r => wrongN (fun i => onB (x (r + i * W)) (y (r + i * W))) (slS (fun i => x (r + i * W)) (fun i => y (r + i * W))) (q r) (K + 16)
/-- A page that says nothing. -/
def noE (z : Int) : Ending := .returned (.tuple #[markV 0 0 0, .slice none 0 0, .int .i64 0, .int .i64 z])
/-- Symbols that are a page's. -/
def FSays (S : Nat → Nat) (W K : Nat) : Prop :=
  MarkOk (S 0) (S 1 * 1024 + S 2) (seqN S 4) ∧ ∀ i, i < W * K → pgD (S 0) (S 1 * 1024 + S 2) (seqN S 4) (upB fun i => S (8 + i)) (szB W K) i = S i
def ReadR (w' : World) (N : Nat) (x y : Nat → Int) (W K : Nat) (e : Ending) : Prop :=
  (anyB (fun i => offB (x i) (y i)) (W * (K + 16)) = false ∧ e = noE 13) ∨
  (anyB (fun i => offB (x i) (y i)) (W * (K + 16)) = true ∧
    (((∃ r, r < W ∧ ∀ q, ¬ GoodRow (fun i => x (r + i * W)) (fun i => y (r + i * W)) (K + 16) q) ∧ e = noE 4) ∨
    (∃ q : Nat → Nat → Nat, (∀ r, r < W → GoodRow (fun i => x (r + i * W)) (fun i => y (r + i * W)) (K + 16) (q r)) ∧
      ((¬ FSays (wovS W q) W K ∧ e = noE 12) ∨
      (FSays (wovS W q) W K ∧ ∃ a' c', e = .returned (.tuple #[markV (wovS W q 0 : Nat) (wovS W q 1 * 1024 + wovS W q 2 : Nat) (seqN (wovS W q) 4 : Nat), .slice a' (szB W K) c', .int .i64 (mostN (wrF x y W K q) W : Nat), .int .i64 0]) ∧
        OwnV w' 5 N a' (szB W K) c' (fun j => .int .u8 (upB (fun i => wovS W q (8 + i)) j : Nat)))))))
set_option maxRecDepth 100000 in
set_option maxHeartbeats 4000000 in
theorem read_arg (V : Value) (B P W K : Int) (v : Value) (w : World) (hT : HasT w V) (h : ¬ GeoOk B P W K) :
    Calls Tryz.prog 42 #[V, geoV B P W K, v] w fun e w' => e = noE 1 ∧ Keep (fun _ => False) w w' := by
  obtain ⟨a1, n1, c1, a2, n2, c2, rfl⟩ := hT.form
  obtain ⟨M, hM⟩ : ∃ M, M = ((w.alloc (.cells #[.slice a1 n1 c1, .slice a2 n2 c2] 49)).alloc (.cells #[.int .i64 B, .int .i64 P, .int .i64 W, .int .i64 K] 23)).alloc (.cells #[.int .i64 0, .int .i64 0, .int .i64 0] 30) := ⟨_, rfl⟩
  have kw : Keep (fun _ => False) w M := by rw [hM]; exact (((Keep.refl _ w).alloc _).alloc _).alloc _
  have bG : Blk M (w.heap.size + 1) 23 #[.int .i64 B, .int .i64 P, .int .i64 W, .int .i64 K] := by rw [hM]; exact (Blk.here _ _ _ _ (by simp)).alloc _
  have bM : Blk M (w.heap.size + 2) 30 #[.int .i64 0, .int .i64 0, .int .i64 0] := by rw [hM]; exact Blk.here _ _ _ _ (by simp)
  have HN := Lib.hid (fun w => may_no _ _ _ _ w h)
  obtain ⟨g0, g1, g2, g3⟩ := geo_cells' bG
  clear hT h
  go_enter Tryz.func42, Tryz.ntmps42
  go_wp2_with fail
  rw [← hM]
  clear hM
  go_wp2_with fail
  clear g0 g1 g2 g3
  refine (HN.out _).mono ?_
  rintro e w1 ⟨rfl, k1⟩
  obtain ⟨⟨⟨p0, f0⟩, ⟨p1, f1⟩, p2, f2⟩, bF⟩ := mark_put (bM.keep k1 (by simp)) 0 0 0
  have BF := Lib.hid bF
  have KF := Lib.hid ((kw.comp k1).mark (g := w.heap.size + 2) (by omega) 0 0 0)
  clear bF k1
  go_wp2_with fail
  (try simp only [Exit.inBlock, Exit.then])
  refine bodyPost_ret (results_cell_row4 rfl _ _ (w.heap.size + 2) 30 _ (0, 0) _ rfl BF.out Tryz.underlying30 rfl (by kernel_rfl)) rfl ?_
  exact ⟨rfl, KF.out⟩
set_option maxRecDepth 100000 in
set_option maxHeartbeats 4000000 in
theorem read_size (V : Value) (B P : Int) (W K n : Nat) (a : Option Addr) (c : Nat) (w : World) (hT : HasT w V) (h : GeoOk B P W K) (hn : n ≠ W * (K + 16)) :
    Calls Tryz.prog 42 #[V, geoV B P W K, .slice a n c] w fun e w' => e = noE 3 ∧ Keep (fun _ => False) w w' := by
  obtain ⟨a1, n1, c1, a2, n2, c2, rfl⟩ := hT.form
  obtain ⟨M, hM⟩ : ∃ M, M = ((w.alloc (.cells #[.slice a1 n1 c1, .slice a2 n2 c2] 49)).alloc (.cells #[.int .i64 B, .int .i64 P, .int .i64 W, .int .i64 K] 23)).alloc (.cells #[.int .i64 0, .int .i64 0, .int .i64 0] 30) := ⟨_, rfl⟩
  have kw : Keep (fun _ => False) w M := by rw [hM]; exact (((Keep.refl _ w).alloc _).alloc _).alloc _
  have bG : Blk M (w.heap.size + 1) 23 #[.int .i64 B, .int .i64 P, .int .i64 W, .int .i64 K] := by rw [hM]; exact (Blk.here _ _ _ _ (by simp)).alloc _
  have bM : Blk M (w.heap.size + 2) 30 #[.int .i64 0, .int .i64 0, .int .i64 0] := by rw [hM]; exact Blk.here _ _ _ _ (by simp)
  have HY := Lib.hid (fun w => may_yes _ _ _ _ w h)
  have HC := Lib.hid (fun w => cells_any B P W K w h)
  have hmul : (W : Int) * ((K : Int) + 16) = ((W * (K + 16) : Nat) : Int) := (Int.natCast_mul W (K + 16)).symm
  rw [hmul] at HC
  clear hmul
  generalize W * (K + 16) = z at *
  have hne : ((n : Int) != (z : Int)) = true := by simp; omega
  have hne2 : ¬ (n : Int) = (z : Int) := by omega
  obtain ⟨g0, g1, g2, g3⟩ := geo_cells bG
  clear hT h hn
  go_enter Tryz.func42, Tryz.ntmps42
  go_wp2_with fail
  rw [← hM]
  clear hM
  go_wp2_with fail
  clear g0 g1 g2 g3
  refine (HY.out _).mono ?_
  rintro e w1 ⟨rfl, k1⟩
  obtain ⟨g0, g1, g2, g3⟩ := geo_cells (bG.keep k1 (by simp))
  go_wp2_with fail
  clear g0 g1 g2 g3
  refine (HC.out _).mono ?_
  rintro e w2 ⟨rfl, k2⟩
  have k2 := k1.comp k2
  obtain ⟨⟨⟨p0, f0⟩, ⟨p1, f1⟩, p2, f2⟩, bF⟩ := mark_put (bM.keep k2 (by simp)) 0 0 0
  have BF := Lib.hid bF
  have KF := Lib.hid ((kw.comp k2).mark (g := w.heap.size + 2) (by omega) 0 0 0)
  clear bF k1 k2
  go_wp2_with fail
  (try simp only [Exit.inBlock, Exit.then])
  refine bodyPost_ret (results_cell_row4 rfl _ _ (w.heap.size + 2) 30 _ (0, 0) _ rfl BF.out Tryz.underlying30 rfl (by kernel_rfl)) rfl ?_
  exact ⟨rfl, KF.out⟩
set_option maxRecDepth 100000 in
set_option maxHeartbeats 16000000 in
theorem read_any (V : Value) (B P : Int) (W K n : Nat) (a : Option Addr) (c : Nat) (x y : Nat → Int) (w : World) (h : GeoOk B P W K) (hn : n = W * (K + 16)) (hT : HasT w V) (ha : ArgV w a n (ptsV x y)) (hx : ∀ i, i < n → Pm (x i) ∧ Pm (y i)) :
    Calls Tryz.prog 42 #[V, geoV B P W K, .slice a n c] w fun e w' => ReadR w' w.heap.size x y W K e ∧ Keep (fun _ => False) w w' := by
  obtain ⟨a1, n1, c1, a2, n2, c2, rfl⟩ := hT.form
  obtain ⟨hw0, hw1, hk0, hk1, hwk, hwk2⟩ := geo_nat h
  have hz3 := szB_le h
  obtain ⟨M, hM⟩ : ∃ M, M = ((w.alloc (.cells #[.slice a1 n1 c1, .slice a2 n2 c2] 49)).alloc (.cells #[.int .i64 B, .int .i64 P, .int .i64 W, .int .i64 K] 23)).alloc (.cells #[.int .i64 0, .int .i64 0, .int .i64 0] 30) := ⟨_, rfl⟩
  have kw : Keep (fun _ => False) w M := by rw [hM]; exact (((Keep.refl _ w).alloc _).alloc _).alloc _
  have bT : Blk M w.heap.size 49 #[.slice a1 n1 c1, .slice a2 n2 c2] := by rw [hM]; exact ((Blk.new w _ _).alloc _).alloc _
  have bG : Blk M (w.heap.size + 1) 23 #[.int .i64 B, .int .i64 P, .int .i64 W, .int .i64 K] := by rw [hM]; exact (Blk.here _ _ _ _ (by simp)).alloc _
  have bM : Blk M (w.heap.size + 2) 30 #[.int .i64 0, .int .i64 0, .int .i64 0] := by rw [hM]; exact Blk.here _ _ _ _ (by simp)
  have HT := Lib.hid (hT.keep kw)
  have HA := Lib.hid (ha.keep kw)
  have HX := Lib.hid hx
  have HN := Lib.hid hn
  have HZ := Lib.hid kw.size
  have HY := Lib.hid (fun w => may_yes _ _ _ _ w h)
  have HC := Lib.hid (fun w => cells_any B P W K w h)
  have HS := Lib.hid (fun w => size_any _ _ _ _ w h)
  have hmul : (W : Int) * ((K : Int) + 16) = (n : Int) := by rw [hn]; exact (Int.natCast_mul W (K + 16)).symm
  rw [hmul] at HC
  have hn4 : n ≤ 320 := by rw [hn]; exact Nat.mul_le_mul hw1 (by omega : K + 16 ≤ 80)
  have HB := Lib.hid (fun w ha => blank_any a n c x y w ha hx)
  obtain ⟨blk, hblk⟩ : ∃ b, b = anyB (fun i => offB (x i) (y i)) n := ⟨_, rfl⟩
  have HBE := Lib.hid hblk
  rw [← hblk] at HB
  obtain ⟨g0, g1, g2, g3⟩ := geo_cells bG
  clear hT ha hx hn hmul hblk h
  go_enter Tryz.func42, Tryz.ntmps42
  go_wp2_with fail
  rw [← hM]
  clear hM
  go_wp2_with fail
  clear g0 g1 g2 g3
  refine (HY.out _).mono ?_
  rintro e w1 ⟨rfl, k1⟩
  obtain ⟨g0, g1, g2, g3⟩ := geo_cells (bG.keep k1 (by simp))
  go_wp2_with fail
  clear g0 g1 g2 g3
  refine (HC.out _).mono ?_
  rintro e w2 ⟨rfl, k2⟩
  have k2 := k1.comp k2
  clear k1
  go_wp2_with fail
  refine (HB.out _ (HA.out.keep k2)).mono ?_
  rintro e w3 ⟨rfl, rfl⟩
  cases blk with
  | false =>
    obtain ⟨⟨⟨p0, f0⟩, ⟨p1, f1⟩, p2, f2⟩, bF⟩ := mark_put (bM.keep k2 (by simp)) 0 0 0
    have BF := Lib.hid bF
    have KF := Lib.hid ((kw.comp k2).mark (g := w.heap.size + 2) (by omega) 0 0 0)
    clear bF k2
    go_wp2_with fail
    (try simp only [Exit.inBlock, Exit.then])
    refine bodyPost_ret (results_cell_row4 rfl _ _ (w.heap.size + 2) 30 _ (0, 0) _ rfl BF.out Tryz.underlying30 rfl (by kernel_rfl)) rfl ?_
    exact ⟨.inl ⟨by rw [← HN.out]; exact HBE.out.symm, rfl⟩, KF.out⟩
  | true =>
  obtain ⟨g0, g1, g2, g3⟩ := geo_cells (bG.keep k2 (by simp))
  go_wp2_with fail
  clear g0 g1 g2 g3
  go_loopw [10, 11, 39] (fun v2 v3 v4 wr => ∃ (r : Nat) (ao : Option Addr) (co : Nat) (A : Nat → Option Addr) (C : Nat → Nat) (q : Nat → Nat → Nat) (m : Nat), r ≤ W ∧ v2 = .int .i64 m ∧ v3 = .slice ao r co ∧ v4 = .int .i64 r ∧ m ≤ 8 ∧ Hid (m = mostN (wrF x y W K q) r) ∧ Hid (WordsIn wr M.heap.size r K ao co A C q) ∧ Hid (∀ i, i < r → GoodRow (fun t => x (i + t * W)) (fun t => y (i + t * W)) (K + 16) (q i)) ∧ Keep (fun _ => False) M wr) (fun _ _ v _ => W - (intOf v).toNat)
  case atStart => exact ⟨0, none, 0, fun _ => none, fun _ => 0, fun _ _ => 0, 0, by omega, rfl, rfl, rfl, by omega, Lib.hid rfl, Lib.hid (WordsIn.nil _ _ _ _ _ _), Lib.hid (fun i hi => by omega), k2⟩
  case round =>
    clear k2
    obtain ⟨r, ao, co, A, C, q, m, hr, rfl, rfl, rfl, hm8, HMO, HO, HR, kk⟩ := hrel
    by_cases hrW : r < W
    · have hrW' : (r : Int) < (W : Int) := by omega
      have kd := kk.drew
      have bTr := bT.keep kd (by simp)
      have bGr := bG.keep kd (by simp)
      obtain ⟨t0, t1⟩ := tabs_cells bTr
      obtain ⟨g0, g1, g2, g3⟩ := geo_cells bGr
      have A0 := Lib.hid (HA.out.keep kd)
      go_wp2_with fail
      go_region_held3 (fun w' => w'.cell? ⟨w.heap.size, 0, none⟩ = some (.slice a1 n1 c1) ∧ w'.cell? ⟨w.heap.size, 1, none⟩ = some (.slice a2 n2 c2) ∧ w'.cell? ⟨w.heap.size + 1, 0, none⟩ = some (.int .i64 B) ∧ w'.cell? ⟨w.heap.size + 1, 1, none⟩ = some (.int .i64 P) ∧ w'.cell? ⟨w.heap.size + 1, 2, none⟩ = some (.int .i64 W) ∧ w'.cell? ⟨w.heap.size + 1, 3, none⟩ = some (.int .i64 K))
        (first | exact ⟨t0, t1, g0, g1, g2, g3⟩ | exact ⟨u0, u1, h0, h1, h2, h3⟩ | exact ⟨v0, v1, i0, i1, i2, i3⟩)
        (first
          | (go_at_call 72; refine (row_any B P W K r (K + 16) n _ _ x y _ A0.out HN.out hrW (by omega) (by omega)).mono ?_; rintro e w5 ⟨aR, cR, rfl, oR, k5⟩; have K5 := kd.comp k5; obtain ⟨u0, u1⟩ := tabs_cells (bT.keep K5 (by simp)); obtain ⟨h0, h1, h2, h3⟩ := geo_cells (bG.keep K5 (by simp)))
          | (go_at_call 71; refine (fmended_any _ _ (K + 16) _ _ _ _ (HT.out.keep K5) (oR.arg (by omega)) (fun i hi => HX.out (r + i * W) (by have := (row_lt (r := r) (j := i) (W := W) (N := K + 16) hrW).2 hi; have := HN.out; omega)) (by omega) (by omega)).mono ?_; rintro e w6 ⟨hm, k6⟩; obtain ⟨aq, nq, cq, v, b2, rfl, hm2⟩ := hm.forms (by omega); have K6 := K5.comp k6; obtain ⟨v0, v1⟩ := tabs_cells (bT.keep K6 (by simp)); obtain ⟨i0, i1, i2, i3⟩ := geo_cells (bG.keep K6 (by simp))))
      have HO6 := HO.out.keep ((Keep.refl (fun _ => False) wr).drew.comp (k5.comp k6))
      clear t0 t1 g0 g1 g2 g3 u0 u1 h0 h1 h2 h3 v0 v1 hm A0 bTr bGr
      rcases hm2 with ⟨rfl, rfl, q5, hv, hgood, ho⟩ | ⟨rfl, hno⟩
      · have HG := Lib.hid hgood
        have hv8 : v ≤ 8 := by rw [hv]; exact hgood.2
        have HV := Lib.hid hv
        have kL := K6.alloc (.cells #[.slice aq K cq] 31)
        have k2L := (Keep.refl (fun _ => False) w6).alloc (.cells #[.slice aq K cq] 31)
        have OL := Lib.hid (HO6.keep k2L)
        have hcq := ho.le
        have OU := Lib.hid (((ho.take (show K ≤ K + 16 by omega)).more (show M.heap.size ≤ w5.heap.size from K5.size)).keep k2L)
        have BL := Lib.hid (Blk.new w6 31 #[.slice aq K cq])
        have hsL := kL.size
        have hKc : (K : Int) ≤ (cq : Int) := by omega
        clear HO6 ho hgood k5 k6 oR K5 k2L hv
        by_cases hmv : m < v
        · have hmv' : (m : Int) < (v : Int) := by omega
          go_wp2_with (refine wpList_append_1 ty_uu rfl (.tmp 58) (.tmp 63) rfl M.heap.size ao r co (famV A (fun _ => K) C) rfl OL.out.v w6.heap.size _ rfl BL.out rfl (by omega) hsL ?_)
          intro a7 c7 w7 o7 g7
          have O7 := Lib.hid (OL.out.push OU.out o7 g7)
          have K7 := kL.grown g7 (fun t ht => .inr (OL.out.v.row_blk ht).1)
          have HR7 := Lib.hid (show ∀ i, i < r + 1 → GoodRow (fun t => x (i + t * W)) (fun t => y (i + t * W)) (K + 16) (updF q r q5 i) from fun i hi => by
            by_cases hir : i = r
            · subst hir
              rw [updF_at]
              exact HG.out
            · rw [updF_ne _ _ hir]
              exact HR.out i (by omega))
          have HM7 := Lib.hid (show max m v = mostN (wrF x y W K (updF q r q5)) (r + 1) from by
            have e1 : mostN (wrF x y W K (updF q r q5)) r = mostN (wrF x y W K q) r := mostN_congr fun i hi => by
              unfold wrF
              rw [updF_ne _ _ (by omega)]
            have e2 : wrF x y W K (updF q r q5) r = v := by
              unfold wrF
              rw [updF_at, HV.out]
            unfold mostN
            rw [e1, e2, HMO.out])
          clear o7 g7 kL OL BL hsL OU i0 i1 i2 i3 hcq hKc
          rw [show max m v = v by omega] at HM7
          go_wp2_with fail
          exact ⟨⟨r + 1, a7, c7, updF A r aq, updF C r cq, updF q r q5, v, by omega, rfl, rfl, by go_num, hv8, HM7, O7, HR7, K7⟩, by simp [intOf]; omega⟩
        · have hmv' : ¬ (m : Int) < (v : Int) := by omega
          go_wp2_with (refine wpList_append_1 ty_uu rfl (.tmp 58) (.tmp 63) rfl M.heap.size ao r co (famV A (fun _ => K) C) rfl OL.out.v w6.heap.size _ rfl BL.out rfl (by omega) hsL ?_)
          intro a7 c7 w7 o7 g7
          have O7 := Lib.hid (OL.out.push OU.out o7 g7)
          have K7 := kL.grown g7 (fun t ht => .inr (OL.out.v.row_blk ht).1)
          have HR7 := Lib.hid (show ∀ i, i < r + 1 → GoodRow (fun t => x (i + t * W)) (fun t => y (i + t * W)) (K + 16) (updF q r q5 i) from fun i hi => by
            by_cases hir : i = r
            · subst hir
              rw [updF_at]
              exact HG.out
            · rw [updF_ne _ _ hir]
              exact HR.out i (by omega))
          have HM7 := Lib.hid (show max m v = mostN (wrF x y W K (updF q r q5)) (r + 1) from by
            have e1 : mostN (wrF x y W K (updF q r q5)) r = mostN (wrF x y W K q) r := mostN_congr fun i hi => by
              unfold wrF
              rw [updF_ne _ _ (by omega)]
            have e2 : wrF x y W K (updF q r q5) r = v := by
              unfold wrF
              rw [updF_at, HV.out]
            unfold mostN
            rw [e1, e2, HMO.out])
          clear o7 g7 kL OL BL hsL OU i0 i1 i2 i3 hcq hKc
          rw [show max m v = m by omega] at HM7
          go_wp2_with fail
          exact ⟨⟨r + 1, a7, c7, updF A r aq, updF C r cq, updF q r q5, m, by omega, rfl, rfl, by go_num, hm8, HM7, O7, HR7, K7⟩, by simp [intOf]; omega⟩
      · obtain ⟨⟨⟨p0, f0⟩, ⟨p1, f1⟩, p2, f2⟩, bF⟩ := mark_put (bM.keep K6 (by simp)) 0 0 0
        have BF := Lib.hid bF
        have KF := Lib.hid ((kw.comp K6).mark (g := w.heap.size + 2) (by omega) 0 0 0)
        clear HO6 k5 k6 oR K5 i0 i1 i2 i3 bF
        go_wp2_with fail
        (try simp only [Exit.inBlock, Exit.then])
        refine bodyPost_ret (results_cell_row4 rfl _ _ (w.heap.size + 2) 30 _ (0, 0) _ rfl BF.out Tryz.underlying30 rfl (by kernel_rfl)) rfl ?_
        exact ⟨.inr ⟨by rw [← HN.out]; exact HBE.out.symm, .inl ⟨⟨r, hrW, hno⟩, rfl⟩⟩, KF.out⟩
    · obtain rfl : r = W := by omega
      have hrW' : ¬ (r : Int) < (r : Int) := by omega
      have HAR := Lib.hid (show ArgRows wr ao r K q from ⟨A, C, HO.out.v.arg (by omega), fun i hi => (HO.out.u i hi).arg (by omega) (fun j hj => by
        obtain ⟨⟨d, hnear⟩, _⟩ := HR.out i hi
        have := hnear.1 j (by omega)
        omega)⟩)
      have HSL := Lib.hid (show ∀ i, i < r * K → wovS r q i < 1024 from fun i hi => by
        obtain ⟨⟨d, hnear⟩, _⟩ := HR.out (i % r) (Nat.mod_lt _ (by omega))
        unfold wovS
        refine hnear.1 _ ?_
        have : i / r < K := by
          rw [Nat.div_lt_iff_lt_mul (by omega), Nat.mul_comm]
          exact hi
        omega)
      obtain ⟨g0, g1, g2, g3⟩ := geo_cells (bG.keep kk (by simp))
      clear HO
      go_wp2_with fail
      clear g0 g1 g2 g3 hrW'
      refine (wout_any r K _ _ _ _ HAR.out hw0 hw1 hk0 (by omega)).mono ?_
      rintro e w8 ⟨aS, cS, rfl, oS, k8⟩
      obtain ⟨S, hS⟩ : ∃ S, S = wovS r q := ⟨_, rfl⟩
      have HSE := Lib.hid hS
      rw [← hS] at oS HSL
      clear hS
      have hrK : 8 ≤ r * K := by omega
      have HP8 := Lib.hid (show ∀ i, i < 8 → S i < 1024 from fun i hi => HSL.out i (by omega))
      have hcS := oS.le
      obtain ⟨L, hL⟩ : ∃ L, L = r * K := ⟨_, rfl⟩
      have HLE := Lib.hid hL
      rw [← hL] at oS HSL hrK hcS hwk hwk2 ⊢
      clear hL
      obtain ⟨gS, rfl, hgS, _, _⟩ := oS.row (by omega)
      have HAS := Lib.hid (oS.arg (by omega) (fun i hi => by have := HSL.out i hi; omega))
      have K8 := kk.comp k8
      obtain ⟨g0, g1, g2, g3⟩ := geo_cells (bG.keep K8 (by simp))
      have hcL := hcS.1
      clear oS k8 hcS
      go_wp2_with fail
      clear g0 g1 g2 g3
      refine (marked_any _ L cS S _ HAS.out hrK hcL HP8.out).mono ?_
      rintro e w9 ⟨rfl, k9⟩
      obtain ⟨mk, hmk⟩ : ∃ k, k = S 0 := ⟨_, rfl⟩
      obtain ⟨ml, hml⟩ : ∃ l, l = S 1 * 1024 + S 2 := ⟨_, rfl⟩
      obtain ⟨ms, hms⟩ : ∃ s, s = seqN S 4 := ⟨_, rfl⟩
      rw [← hmk, ← hml, ← hms]
      have HMK := Lib.hid (And.intro hmk (And.intro hml hms))
      clear hmk hml hms
      have K9 := K8.comp k9
      obtain ⟨D, hD⟩ : ∃ D, D = w9.alloc (.cells #[.int .i64 mk, .int .i64 ml, .int .i64 ms] 30) := ⟨_, rfl⟩
      have KD : Keep (fun _ => False) M D := by rw [hD]; exact K9.alloc _
      have bD : Blk D w9.heap.size 30 #[.int .i64 mk, .int .i64 ml, .int .i64 ms] := by rw [hD]; exact Blk.new w9 _ _
      have HASD := Lib.hid (show ArgU D (some ⟨gS, 0, none⟩) L S from by rw [hD]; exact (HAS.out.keep k9).keep ((Keep.refl _ w9).alloc _))
      unfold markV
      go_upto_region 20 with (fail)
      rw [← hD]
      clear hD
      have kdD := KD.drew
      have bGD := bG.keep kdD (by simp)
      obtain ⟨g0, g1, g2, g3⟩ := geo_cells bGD
      have h8 : (8 : Int) ≤ (L : Int) := by omega
      have hL8 : (L : Int) - 8 = ((L - 8 : Nat) : Int) := by omega
      have hc8 : ¬ cS = 8 := by omega
      have HDR := Lib.hid (show ArgU D.drew (some ⟨gS, 8, none⟩) (L - 8) (fun t => S (8 + t)) from by
        have := HASD.out.drop hrK
        rw [Nat.zero_add] at this
        exact this.keep (Keep.refl _ D).drew)
      have HS8 := Lib.hid (show ∀ i, i < L - 8 → S (8 + i) < 1024 from fun i hi => HSL.out _ (by omega))
      have HZZ := Lib.hid (show 8 * szB r K ≤ 10 * (L - 8) ∧ L - 8 ≤ 1000 from by
        unfold szB
        rw [← HLE.out]
        omega)
      go_region_held3 (fun w' => w'.cell? ⟨w.heap.size + 1, 0, none⟩ = some (.int .i64 B) ∧ w'.cell? ⟨w.heap.size + 1, 1, none⟩ = some (.int .i64 P) ∧ w'.cell? ⟨w.heap.size + 1, 2, none⟩ = some (.int .i64 r) ∧ w'.cell? ⟨w.heap.size + 1, 3, none⟩ = some (.int .i64 K))
        (first | exact ⟨g0, g1, g2, g3⟩ | exact geo_cells (bG.keep k11 (by simp)) | exact geo_cells (bG.keep k12 (by simp)))
        (first
          | (go_at_call 76; refine (HS.out _).mono ?_; rintro e wA ⟨rfl, kA⟩; have k11 := kdD.comp kA)
          | (go_at_call 75; refine (unpack_any _ (L - 8) _ (szB r K) _ _ (HDR.out.keep kA) HS8.out HZZ.out.2 HZZ.out.1).mono ?_; rintro e wB ⟨aB, cB, rfl, oB, kB⟩; have k12 := k11.comp kB))
      have HASB := Lib.hid (((HASD.out.keep (Keep.refl _ D).drew).keep kA).keep kB)
      have bDB := (((bD.drew).keep kA (by simp)).keep kB (by simp))
      obtain ⟨p0, p1, p2⟩ := mark_cells bDB
      have hsA : M.heap.size ≤ wA.heap.size := k11.size
      have OB := Lib.hid (oB.more hsA)
      clear g0 g1 g2 g3 kA kB oB k11 bGD kdD KD K9 HASD HDR
      rcases markBad_or mk ml ms with hbad | ⟨mk', ml', ms', ek, el, es, hok⟩
      · go_wp2_with fail
        refine (fmay_no _ _ _ hbad _).mono ?_
        rintro e wC ⟨rfl, kC⟩
        have k13 := k12.comp kC
        obtain ⟨⟨⟨q0, f0⟩, ⟨q1, f1⟩, q2, f2⟩, bF⟩ := mark_put (bM.keep k13 (by simp)) 0 0 0
        have BF := Lib.hid bF
        have KF := Lib.hid ((kw.comp k13).mark (g := w.heap.size + 2) (by omega) 0 0 0)
        clear p0 p1 p2 bF kC k12 k13
        go_wp2_with fail
        (try simp only [Exit.inBlock, Exit.then])
        refine bodyPost_ret (results_cell_row4 rfl _ _ (w.heap.size + 2) 30 _ (0, 0) _ rfl BF.out Tryz.underlying30 rfl (by kernel_rfl)) rfl ?_
        refine ⟨.inr ⟨by rw [← HN.out]; exact HBE.out.symm, .inr ⟨q, HR.out, .inl ⟨fun hs => ?_, rfl⟩⟩⟩, KF.out⟩
        rw [← HSE.out] at hs
        have h1 := hs.1
        rw [← HMK.out.1, ← HMK.out.2.1, ← HMK.out.2.2] at h1
        exact h1.notBad hbad
      · obtain rfl : mk = mk' := by omega
        obtain rfl : ml = ml' := by omega
        obtain rfl : ms = ms' := by omega
        have HSY := Lib.hid (fun w ha => symbols_any B P r K mk ml ms (szB r K) aB cB (upB fun i => S (8 + i)) w hok hw1 hk1 (szB_pk r K (by rw [← HLE.out]; exact hwk)).1 (szB_pk r K (by rw [← HLE.out]; exact hwk)).2 ha (fun i _ => upB_lt _ i))
        have HFY := Lib.hid (fun w => fmay_yes mk ml ms hok w)
        have HPG := Lib.hid (fun i => pgD_lt hok (upB fun i => S (8 + i)) (szB r K) i)
        have HMO2 := Lib.hid hok
        rw [← HLE.out] at HSY
        unfold markV at HSY HFY
        clear ek el es hok
        go_wp2_with fail
        clear p0 p1 p2
        refine (HFY.out _).mono ?_
        rintro e wC ⟨rfl, kC⟩
        have k13 := k12.comp kC
        obtain ⟨g0, g1, g2, g3⟩ := geo_cells (bG.keep k13 (by simp))
        obtain ⟨p0, p1, p2⟩ := mark_cells (bDB.keep kC (by simp))
        go_wp2_with fail
        clear p0 p1 p2 g0 g1 g2 g3
        refine (HSY.out _ ((OB.out.keep kC).arg (by omega))).mono ?_
        rintro e wE ⟨aE, cE, rfl, oE, kE⟩
        have k14 := k13.comp kE
        have HEQ := Lib.hid (fun w ha hb => equal_any aE (some ⟨gS, 0, none⟩) L cE cS (pgD mk ml ms (upB fun i => S (8 + i)) (szB r K)) S w ha hb)
        have HAE := Lib.hid (oE.arg (by omega) (fun i _ => by have := HPG.out i; omega))
        have HBE2 := Lib.hid ((HASB.out.keep kC).keep kE)
        obtain ⟨b, hb⟩ : ∃ b, b = eqB (pgD mk ml ms (upB fun i => S (8 + i)) (szB r K)) S L := ⟨_, rfl⟩
        rw [← hb] at HEQ
        have HEB := Lib.hid hb
        clear hb oE
        go_wp2_with fail
        refine (HEQ.out _ HAE.out HBE2.out).mono ?_
        rintro e wF ⟨rfl, kF⟩
        have k15 := k14.comp kF
        have bM15 := bM.keep k15 (by simp)
        cases b with
        | false =>
          obtain ⟨⟨⟨q0, f0⟩, ⟨q1, f1⟩, q2, f2⟩, bF⟩ := mark_put bM15 0 0 0
          have BF := Lib.hid bF
          have KF := Lib.hid ((kw.comp k15).mark (g := w.heap.size + 2) (by omega) 0 0 0)
          clear bF kC k12 k13 k14 k15 bM15
          go_wp2_with fail
          (try simp only [Exit.inBlock, Exit.then])
          refine bodyPost_ret (results_cell_row4 rfl _ _ (w.heap.size + 2) 30 _ (0, 0) _ rfl BF.out Tryz.underlying30 rfl (by kernel_rfl)) rfl ?_
          refine ⟨.inr ⟨by rw [← HN.out]; exact HBE.out.symm, .inr ⟨q, HR.out, .inl ⟨fun hs => ?_, rfl⟩⟩⟩, KF.out⟩
          rw [← HSE.out] at hs
          have h1 := hs.2
          rw [← HMK.out.1, ← HMK.out.2.1, ← HMK.out.2.2, ← HLE.out] at h1
          have h2 := HEB.out
          rw [eqB_true h1] at h2
          cases h2
        | true =>
          have bD15 := ((bDB.keep kC (by simp)).keep kE (by simp)).keep kF (by simp)
          obtain ⟨p0, p1, p2⟩ := mark_cells bD15
          obtain ⟨⟨⟨q0, f0⟩, ⟨q1, f1⟩, q2, f2⟩, bF⟩ := mark_put bM15 mk ml ms
          have BF := Lib.hid bF
          have KF := Lib.hid ((kw.comp k15).mark (g := w.heap.size + 2) (by omega) mk ml ms)
          have OF := Lib.hid (((OB.out.keep kC).keep kE).keep kF)
          have hM2 : w.heap.size + 2 < M.heap.size := bM.lt
          clear bF kC k12 k13 k14 k15 bM15
          go_wp2_with fail
          (try simp only [Exit.inBlock, Exit.then])
          refine bodyPost_ret (results_cell_row4 rfl _ _ (w.heap.size + 2) 30 _ (0, 0) _ rfl BF.out Tryz.underlying30 rfl (by kernel_rfl)) rfl ?_
          refine ⟨.inr ⟨by rw [← HN.out]; exact HBE.out.symm, .inr ⟨q, HR.out, .inr ⟨?_, aB, cB, ?_, ?_⟩⟩⟩, KF.out⟩
          · rw [← HSE.out]
            refine ⟨?_, ?_⟩
            · rw [← HMK.out.1, ← HMK.out.2.1, ← HMK.out.2.2]
              exact HMO2.out
            · rw [← HMK.out.1, ← HMK.out.2.1, ← HMK.out.2.2, ← HLE.out]
              exact eqB_iff.1 HEB.out.symm
          · rw [← HSE.out, ← HMK.out.1, ← HMK.out.2.1, ← HMK.out.2.2, ← HMO.out]
            rfl
          · rw [← HSE.out]
            exact (((OF.out.far (p := ⟨w.heap.size + 2, 0, none⟩) hM2 _).far (p := ⟨w.heap.size + 2, 1, none⟩) hM2 _).far (p := ⟨w.heap.size + 2, 2, none⟩) hM2 _).more (by omega)
end Go.Proofs.YtdlmjjlejkkniaaGreat
