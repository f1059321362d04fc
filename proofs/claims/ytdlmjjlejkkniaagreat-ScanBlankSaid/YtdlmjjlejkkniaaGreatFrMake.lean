/- pack.Pack, the weave, frame.head .. frame.Make. -/
import Derived.Test.YtdlmjjlejkkniaaGreatHead
import Derived.Test.YtdlmjjlejkkniaaGreatRefMake
import Derived.Test.YtdlmjjlejkkniaaGreatCof
namespace Go.Proofs.YtdlmjjlejkkniaaGreat
open Go.RowKit

theorem or_byte {S x : Nat} (hS : S < 1024) (hx : x < 256) : bits .or .i64 ((S : Int) * 256) (x : Int) = ((S * 256 + x : Nat) : Int) := by
  have h := or_i64 (a := S * 256) (b := x) (by omega) (by omega)
  rw [show S * 256 ||| x = S * 256 + x by
    have := nat_join 8 (S * 256) x (by omega) (by omega)
    exact this] at h
  rwa [Int.natCast_mul] at h
theorem mask_i64 {A m : Nat} (hA : A < 4294967296) (hm : m ≤ 20) : bits .and .i64 (A : Int) ((2 : Int) ^ m - 1) = ((A % 2 ^ m : Nat) : Int) := by
  have h2 : 2 ^ m ≤ 2 ^ 20 := Nat.pow_le_pow_right (by omega) hm
  have h0 : 0 < 2 ^ m := Nat.two_pow_pos m
  have h := and_i64 (a := A) (b := 2 ^ m - 1) hA (by omega)
  rw [Nat.and_two_pow_sub_one_eq_mod] at h
  rw [← h]
  congr 1
  have : ((2 ^ m - 1 : Nat) : Int) = ((2 ^ m : Nat) : Int) - 1 := by omega
  rw [this]
  push_cast
  rfl
theorem wrap_small {x : Int} (h0 : 0 ≤ x) (h1 : x < 4294967296) : wrap64 x = x := by unfold wrap64; omega
theorem wrap_mask {m : Nat} (hm : m ≤ 20) : wrap64 (wrap64 ((2 : Int) ^ m) - 1) = (2 : Int) ^ m - 1 := by
  have h2 : 2 ^ m ≤ 2 ^ 20 := Nat.pow_le_pow_right (by omega) hm
  have h0 : 0 < 2 ^ m := Nat.two_pow_pos m
  have e : (2 : Int) ^ m = ((2 ^ m : Nat) : Int) := by exact_mod_cast rfl
  rw [e, wrap_small (x := ((2 ^ m : Nat) : Int)) (by omega) (by omega), wrap_small (by omega) (by omega)]
set_option maxRecDepth 100000 in
set_option maxHeartbeats 2000000 in
theorem pack_any (a : Option Addr) (n c : Nat) (d : Nat → Nat) (w : World) (ha : ArgV w a n (fun i => .int .u8 (d i : Nat))) (hd : ∀ i, i < n → d i < 256) (hn : n ≤ 100000) :
    Calls Tryz.prog 98 #[.slice a n c] w fun e w' => ∃ a' c', e = .returned (.slice a' (pkN n) c') ∧ OwnU w' w.heap.size a' (pkN n) c' (pkS d n) ∧ Keep (fun _ => False) w w' := by
  have HA := Lib.hid ha
  have HD := Lib.hid hd
  clear ha hd
  go_enter Tryz.func98, Tryz.ntmps98
  go_wp2_with fail
  go_loopw [3, 4, 5, 10] (fun v3 v4 v5 v10 wr => ∃ (i l : Nat) (ao : Option Addr) (co : Nat), i ≤ n ∧ Hid (l = 8 * i / 10) ∧ v3 = .slice ao l co ∧ v4 = .int .i64 (pSum d i : Nat) ∧ v5 = .int .i64 (8 * i % 10 : Nat) ∧ v10 = .int .i64 i ∧ Hid (OwnU wr w.heap.size ao l co (pkS d n)) ∧ Keep (fun _ => False) w wr) (fun _ _ _ v _ => n - (intOf v).toNat)
  case atStart => exact ⟨0, 0, none, 0, by omega, Lib.hid rfl, rfl, rfl, rfl, rfl, Lib.hid (OwnV.nil _ _ _ _), Keep.refl _ _⟩
  case round =>
    obtain ⟨i, l, ao, co, hi, HL, rfl, rfl, rfl, rfl, HO, kk⟩ := hrel
    by_cases hin : i < n
    · have hin' : (i : Int) < (n : Int) := by omega
      obtain ⟨bA, oA, rfl, hbA, hcA⟩ := HA.out.at_ (by omega)
      have c0 := (kk.cell (p := ⟨bA, oA + i, none⟩) hbA (by simp)).trans (hcA i hin)
      have hx := HD.out i hin
      have hS := pSum_lt9 d i
      have hor := or_byte hS hx
      have hAcc : pSum d i * 256 + d i = pAcc d i := rfl
      rw [hAcc] at hor
      have hAl := pAcc_lt (d := d) hx
      have HFew := Lib.hid (pAcc_few (d := d) hx)
      have HOut := Lib.hid (pAcc_out (d := d) (n := n) hx hin)
      have HLeft := Lib.hid (pAcc_left (d := d) hx)
      obtain ⟨m, hm⟩ : ∃ m, m = 8 * i % 10 := ⟨_, rfl⟩
      have HM := Lib.hid hm
      rw [← hm] at HFew HOut HLeft
      have hm10 : m < 10 := by omega
      rw [← HM.out]
      clear hcA hAcc hm
      generalize pAcc d i = A at *
      generalize pSum d i = S at *
      generalize d i = x at *
      by_cases hfull : 10 ≤ m + 8
      · have hfull' : (10 : Int) ≤ (m : Int) + 8 := by omega
        have h1 := HOut.out hfull
        have h2 := HLeft.out hfull
        rw [show m + 8 - 10 = m - 2 by omega] at h1 h2
        rw [← HL.out] at h1
        have hP := pkS_lt d n l
        have hcv : IntKind.u16.wrap ((A : Int) / 2 ^ (m - 2)) = ((pkS d n l : Nat) : Int) := by
          rw [shr_u8, h1]
          exact wraps_u16 _ (by omega) (by omega)
        have hmk := mask_i64 (A := A) (m := m - 2) (by omega) (by omega)
        rw [h2, ← wrap_mask (m := m - 2) (by omega)] at hmk
        have HV := Lib.hid (show (Value.int .u16 (pkS d n l : Nat)) = .int .u16 (pkS d n l : Nat) from rfl)
        have kL := kk.alloc (.cells #[.int .u16 (pkS d n l : Nat)] 25)
        have OL := Lib.hid (HO.out.ownV.keep ((Keep.refl _ wr).alloc (.cells #[.int .u16 (pkS d n l : Nat)] 25)))
        have BL := Lib.hid (Blk.new wr 25 #[.int .u16 (pkS d n l : Nat)])
        have hsL := kL.size
        have hl : l ≤ 100000 := by have := HL.out; omega
        have HS1 := Lib.hid (show 8 * (i + 1) % 10 = m - 2 by have := HM.out; omega)
        have HL1 := Lib.hid (show l + 1 = 8 * (i + 1) / 10 by have := HL.out; have := HM.out; omega)
        clear h1 h2 HO kk HOut HLeft HFew
        generalize hPe : pkS d n l = Pv at *
        have HPe := Lib.hid hPe
        clear hPe
        generalize hS1 : pSum d (i + 1) = S1 at *
        have HSe := Lib.hid hS1
        clear hS1
        go_wp2_with (refine wpList_append_1 ty_u rfl (.tmp 25) (.tmp 30) rfl w.heap.size ao l co (fun t => .int .u16 (pkS d n t : Nat)) rfl OL.out wr.heap.size _ rfl BL.out rfl (by omega) hsL ?_)
        intro a3 c3 w6 o6 g6
        have O6 := Lib.hid (OwnV.ownU (o6.congr (f' := fun t => .int .u16 (pkS d n t : Nat)) (fun t ht => by
          by_cases h : t < l
          · rw [if_pos h]
          · rw [if_neg h, show t = l by omega, HPe.out])))
        have K6 := kL.grown g6 (fun t ht => .inr (OL.out.lt t ht).1)
        clear o6 g6 kL OL BL hsL HV c0
        go_wp2_with fail
        exact ⟨⟨i + 1, l + 1, a3, c3, by omega, HL1, rfl, by rw [HSe.out], by rw [HS1.out]; go_num, by go_num, O6, K6⟩, by simp [intOf]; omega⟩
      · have hfull' : ¬ (10 : Int) ≤ (m : Int) + 8 := by omega
        have h1 := HFew.out (by omega)
        subst h1
        have HS1 := Lib.hid (show 8 * (i + 1) % 10 = m + 8 by have := HM.out; omega)
        have HL1 := Lib.hid (show l = 8 * (i + 1) / 10 by have := HL.out; have := HM.out; omega)
        clear HOut HLeft HFew
        generalize hS1 : pSum d (i + 1) = S1 at *
        have HSe := Lib.hid hS1
        clear hS1
        go_wp2_with fail
        exact ⟨⟨i + 1, l, ao, co, by omega, HL1, rfl, by rw [HSe.out], by rw [HS1.out]; go_num, by go_num, HO, kk⟩, by simp [intOf]; omega⟩
    · obtain rfl : i = n := by omega
      have hin' : ¬ (i : Int) < (i : Int) := by omega
      obtain ⟨m, hm⟩ : ∃ m, m = 8 * i % 10 := ⟨_, rfl⟩
      have HM := Lib.hid hm
      rw [← HM.out]
      have hm10 : m < 10 := by omega
      have HEnd := Lib.hid (pSum_end (d := d) (n := i))
      rw [← hm] at HEnd
      have hSl := pSum_lt9 d i
      clear hm
      by_cases h0 : 0 < m
      · have h0' : (0 : Int) < (m : Int) := by omega
        have h1 := HEnd.out h0
        rw [← HL.out] at h1
        have hP := pkS_lt d i l
        have HPN := Lib.hid (show pkN i = l + 1 by have := HL.out; have := HM.out; unfold pkN; omega)
        have kL := kk.alloc (.cells #[.int .u16 (pkS d i l : Nat)] 25)
        have OL := Lib.hid (HO.out.ownV.keep ((Keep.refl _ wr).alloc (.cells #[.int .u16 (pkS d i l : Nat)] 25)))
        have BL := Lib.hid (Blk.new wr 25 #[.int .u16 (pkS d i l : Nat)])
        have hsL := kL.size
        have hl : l ≤ 100000 := by have := HL.out; omega
        clear HO kk HEnd
        generalize hPe : pkS d i l = Pv at *
        have HPe := Lib.hid hPe
        clear hPe
        have hcv : IntKind.u16.wrap (wrap64 (((pSum d i : Nat) : Int) * 2 ^ (10 - m))) = (Pv : Int) := by
          have e : (((pSum d i : Nat) : Int) * 2 ^ (10 - m)) = ((pSum d i * 2 ^ (10 - m) : Nat) : Int) := by push_cast; rfl
          rw [e, h1, wrap_small (by omega) (by omega)]
          exact wraps_u16 _ (by omega) (by omega)
        clear h1
        generalize pSum d i = S at *
        go_wp2_with (refine wpList_append_1 ty_u rfl (.tmp 40) (.tmp 46) rfl w.heap.size ao l co (fun t => .int .u16 (pkS d i t : Nat)) rfl OL.out wr.heap.size _ rfl BL.out rfl (by omega) hsL ?_)
        intro a3 c3 w6 o6 g6
        have O6 := Lib.hid (OwnV.ownU (o6.congr (f' := fun t => .int .u16 (pkS d i t : Nat)) (fun t ht => by
          by_cases h : t < l
          · rw [if_pos h]
          · rw [if_neg h, show t = l by omega, HPe.out])))
        have K6 := kL.grown g6 (fun t ht => .inr (OL.out.lt t ht).1)
        clear o6 g6 kL OL BL hsL
        go_wp2_with fail
        go_ret
        rw [HPN.out]
        exact ⟨a3, c3, rfl, O6.out, K6⟩
      · have h0' : ¬ (0 : Int) < (m : Int) := by omega
        have HPN := Lib.hid (show pkN i = l by have := HL.out; have := HM.out; unfold pkN; omega)
        go_wp2_with fail
        go_ret
        rw [HPN.out]
        exact ⟨ao, co, rfl, HO.out, kk⟩
end Go.Proofs.YtdlmjjlejkkniaaGreat

namespace Go.Proofs.YtdlmjjlejkkniaaGreat
open Go.RowKit

theorem wmay_any (W : Nat) (h : 1 ≤ W) (h4 : W ≤ 4) (w : World) :
    Calls Tryz.prog 92 #[.int .i64 W] w fun e w' => e = .returned (.bool true) ∧ w = w' := by
  have d1 : decide (1 ≤ (W : Int)) = true := decide_eq_true (by omega)
  have d2 : decide ((W : Int) ≤ 4) = true := decide_eq_true (by omega)
  go_enter Tryz.func92, Tryz.ntmps92
  go_wp2_with fail
  go_ret
  exact ⟨rfl, rfl⟩
set_option maxRecDepth 100000 in
set_option maxHeartbeats 1000000 in
theorem outlen_any (K g c : Nat) (a : Option Addr) (w : World) (hc : w.cell? ⟨g, 0, none⟩ = some (.int .i64 K)) :
    Calls Tryz.prog 94 #[.slice a K c, .pointer (some ⟨g, 0, none⟩)] w fun e w' => e = .returned (.bool false) ∧ w = w' := by
  go_enter Tryz.func94, Tryz.ntmps94
  go_wp2_with fail
  go_ret
  exact ⟨rfl, rfl⟩
set_option maxRecDepth 100000 in
set_option maxHeartbeats 1000000 in
theorem index_len (W K c g : Nat) (a : Option Addr) (A : Nat → Option Addr) (C : Nat → Nat) (w : World) (hv : ArgV w a W (famV A (fun _ => K) C)) (hg : w.cell? ⟨g, 0, none⟩ = some (.int .i64 K)) :
    Calls Tryz.prog 109 #[.slice a W c, .func (.func 94) #[] #[.pointer (some ⟨g, 0, none⟩)]] w fun e w' => e = .returned (.int .i64 (-1)) ∧ w = w' := by
  have HA := Lib.hid hv
  have hsm := hv.small
  clear hv
  go_enter Tryz.func109, Tryz.ntmps109
  go_wp2_with fail
  go_loopw [8] (fun i wr => ∃ j : Nat, j ≤ W ∧ i = .int .i64 j ∧ w = wr) (fun i _ => W - (intOf i).toNat)
  case atStart => exact ⟨0, Nat.zero_le _, rfl, rfl⟩
  case round =>
    obtain ⟨j, hj, rfl, rfl⟩ := hrel
    by_cases hjl : j < W
    · obtain ⟨b, off, rfl, hbs, hc⟩ := HA.out.at_ (by omega)
      have c0 := hc j hjl
      unfold famV at c0
      have hjl' : (j : Int) < (W : Int) := by omega
      clear hc
      go_wp2_with fail
      refine (outlen_any K g (C j) (A j) _ hg).mono ?_
      rintro e w3 ⟨rfl, rfl⟩
      go_wp2_with fail
      exact ⟨⟨j + 1, by omega, by go_num, trivial⟩, by simp [intOf]; omega⟩
    · obtain rfl : j = W := by omega
      have hjl' : ¬ (j : Int) < (j : Int) := by omega
      go_wp2_with fail
      go_ret
      exact ⟨rfl, rfl⟩
set_option maxRecDepth 100000 in
set_option maxHeartbeats 1000000 in
theorem contains_len (W K c g : Nat) (a : Option Addr) (A : Nat → Option Addr) (C : Nat → Nat) (w : World) (hv : ArgV w a W (famV A (fun _ => K) C)) (hg : w.cell? ⟨g, 0, none⟩ = some (.int .i64 K)) :
    Calls Tryz.prog 93 #[.slice a W c, .func (.func 94) #[] #[.pointer (some ⟨g, 0, none⟩)]] w fun e w' => e = .returned (.bool false) ∧ w = w' := by
  go_enter Tryz.func93, Tryz.ntmps93
  go_wp2_with fail
  refine (index_len W K c g a A C _ hv hg).mono ?_
  rintro e w3 ⟨rfl, rfl⟩
  go_wp2_with fail
  go_ret
  exact ⟨rfl, rfl⟩
set_option maxRecDepth 100000 in
set_option maxHeartbeats 4000000 in
theorem wout_any (W K : Nat) (a : Option Addr) (c : Nat) (p : Nat → Nat → Nat) (w : World) (ha : ArgRows w a W K p) (hW : 1 ≤ W) (hW4 : W ≤ 4) (hK : 1 ≤ K) (hK2 : K ≤ 10000) :
    Calls Tryz.prog 73 #[.int .i64 W, .slice a W c] w fun e w' => ∃ a' c', e = .returned (.tuple #[.slice a' (W * K) c', .int .i64 0]) ∧ OwnU w' w.heap.size a' (W * K) c' (wovS W p) ∧ Keep (fun _ => False) w w' := by
  obtain ⟨A, C, ha⟩ := ha
  have HA := Lib.hid ha
  have hWne : ¬ W = 0 := by omega
  have e0 : ((K : Int) == 0) = false := by simp; omega
  obtain ⟨bA, oA, rfl, hbA, hcA⟩ := ha.v.at_ (by omega)
  have HC := Lib.hid hcA
  have c00 := hcA 0 (by omega)
  unfold famV at c00
  rw [Nat.add_zero] at c00
  have hW0' : (0 : Int) < (W : Int) := by omega
  have hl4 : W * K ≤ 40000 := Nat.mul_le_mul hW4 hK2
  clear ha hcA
  go_enter Tryz.func73, Tryz.ntmps73
  go_wp2_with fail
  refine (wmay_any W hW hW4 _).mono ?_
  rintro e w1 ⟨rfl, rfl⟩
  have k1 := (Keep.refl (fun _ => False) w).alloc (.cells #[.int .i64 K] 3)
  have b1 := Blk.new w 3 #[.int .i64 K]
  have HA1 := Lib.hid (HA.out.keep k1)
  obtain ⟨w1, hw1⟩ : ∃ X, X = w.alloc (.cells #[.int .i64 K] 3) := ⟨_, rfl⟩
  rw [← hw1] at k1 b1 HA1
  go_wp2_with fail
  rw [← hw1]
  clear hw1
  have d1 : w1.cell? ⟨w.heap.size, 0, none⟩ = some (.int .i64 K) := by rw [b1.cell]; rfl
  go_wp2_with fail
  refine (contains_len W K c w.heap.size _ A C _ HA1.out.v d1).mono ?_
  rintro e w2 ⟨rfl, rfl⟩
  have HS1 := Lib.hid k1.size
  clear c00 e0
  go_wp2_with fail
  clear d1
  go_loopw [7, 32] (fun v3 v4 wr => ∃ (k : Nat) (ao : Option Addr) (co : Nat), k ≤ K ∧ v3 = .slice ao (k * W) co ∧ v4 = .int .i64 k ∧ Hid (OwnU wr w1.heap.size ao (k * W) co (wovS W p)) ∧ Keep (fun _ => False) w1 wr) (fun _ v _ => K - (intOf v).toNat)
  case atStart => exact ⟨0, none, 0, by omega, by rw [Nat.zero_mul], rfl, Lib.hid (by rw [Nat.zero_mul]; exact OwnV.nil _ _ _ _), Keep.refl _ _⟩
  case round =>
    obtain ⟨k, ao, co, hk, rfl, rfl, HO, kk⟩ := hrel
    obtain ⟨m, hm⟩ : ∃ m, m = k * W := ⟨_, rfl⟩
    have HM := Lib.hid hm
    rw [← hm] at HO ⊢
    clear hm
    by_cases hkK : k < K
    · have hkK' : (k : Int) < (K : Int) := by omega
      have hm4 := Lib.hid (show m + W ≤ W * K from by
        have := Nat.mul_le_mul_left W (show k + 1 ≤ K from hkK)
        rw [Nat.mul_add, Nat.mul_one, Nat.mul_comm W k, ← HM.out] at this
        exact this)
      go_wp2_with fail
      go_loopw [7, 37] (fun v3 v4 wr => ∃ (j : Nat) (ao : Option Addr) (co : Nat), j ≤ W ∧ v3 = .slice ao (m + j) co ∧ v4 = .int .i64 j ∧ Hid (OwnU wr w1.heap.size ao (m + j) co (wovS W p)) ∧ Keep (fun _ => False) w1 wr) (fun _ v _ => W - (intOf v).toNat)
      case atStart => exact ⟨0, ao, co, by omega, rfl, rfl, HO, kk⟩
      case round =>
        clear HO kk
        obtain ⟨j, ao, co, hj, rfl, rfl, HO, kk⟩ := hrel
        by_cases hji : j < W
        · have hji' : (j : Int) < (W : Int) := by omega
          have hml : m + j ≤ 40000 := by have := hm4.out; omega
          have kw := k1.comp kk
          have c0 := (kw.cell (p := ⟨bA, oA + j, none⟩) hbA (by simp)).trans (HC.out j hji)
          unfold famV at c0
          obtain ⟨bR, oR, hR, hbR, hcR⟩ := (HA.out.u j hji).at_ (by omega)
          rw [hR] at c0
          have c1 := (kw.cell (p := ⟨bR, oR + k, none⟩) hbR (by simp)).trans (hcR k hkK)
          have hpl := (HA.out.u j hji).lt k hkK
          have HV := Lib.hid (show wovS W p (m + j) = p j k by unfold wovS; rw [HM.out, (woven_idx hji).1, (woven_idx hji).2])
          have kL := kk.alloc (.cells #[.int .u16 (p j k : Nat)] 25)
          have OL := Lib.hid (HO.out.ownV.keep ((Keep.refl _ wr).alloc (.cells #[.int .u16 (p j k : Nat)] 25)))
          have BL := Lib.hid (Blk.new wr 25 #[.int .u16 (p j k : Nat)])
          have hsL := kL.size
          clear hcR hR HO kk kw
          generalize p j k = x at *
          generalize C j = cj at *
          go_wp2_with (refine wpList_append_1 ty_u rfl (.tmp 41) (.tmp 46) rfl w1.heap.size ao (m + j) co (fun t => .int .u16 (wovS W p t : Nat)) rfl OL.out wr.heap.size _ rfl BL.out rfl (by omega) hsL ?_)
          intro a3 c3 w6 o6 g6
          have O6 := Lib.hid (OwnV.ownU (o6.congr (f' := fun t => .int .u16 (wovS W p t : Nat)) (fun t ht => by
            by_cases h : t < m + j
            · rw [if_pos h]
            · rw [if_neg h, show t = m + j by omega, HV.out])))
          have K6 := kL.grown g6 (fun t ht => .inr (OL.out.lt t ht).1)
          clear o6 g6 kL OL BL hsL c0 c1
          go_wp2_with fail
          exact ⟨⟨j + 1, a3, c3, by omega, rfl, by go_num, O6, K6⟩, by simp [intOf]; omega⟩
        · obtain rfl : j = W := by omega
          have hji' : ¬ (j : Int) < (j : Int) := by omega
          have HE := Lib.hid (show (k + 1) * j = m + j by rw [Nat.succ_mul, HM.out])
          go_wp2_with fail
          exact ⟨⟨k + 1, ao, co, by omega, by rw [HE.out], by go_num, by rw [HE.out]; exact HO, kk⟩, by simp [intOf]; omega⟩
    · obtain rfl : k = K := by omega
      have hkK' : ¬ (k : Int) < (k : Int) := by omega
      have HE := Lib.hid (show m = W * k by rw [HM.out, Nat.mul_comm])
      go_wp2_with fail
      go_ret2
      rw [← HE.out]
      exact ⟨ao, co, rfl, HO.out.more HS1.out, k1.comp kk⟩
end Go.Proofs.YtdlmjjlejkkniaaGreat

namespace Go.Proofs.YtdlmjjlejkkniaaGreat
open Go.RowKit

/-- A number without its j last symbols. -/
def shN (s : Nat) : Nat → Nat
  | 0 => s
  | j + 1 => shN s j / 1024
theorem hdS_seq (k l s : Nat) : hdS k l s 3 = shN s 3 % 1024 ∧ hdS k l s 4 = shN s 2 % 1024 ∧ hdS k l s 5 = shN s 1 % 1024 ∧ hdS k l s 6 = shN s 0 % 1024 := ⟨rfl, rfl, rfl, rfl⟩
set_option maxRecDepth 100000 in
set_option maxHeartbeats 4000000 in
theorem head_any (k l s : Nat) (h : MarkOk k l s) (w : World) :
    Calls Tryz.prog 97 #[markV k l s] w fun e w' => ∃ a' c', e = .returned (.slice a' 8 c') ∧ OwnU w' w.heap.size a' 8 c' (hdS k l s) ∧ Keep (fun _ => False) w w' := by
  have hk := h.k2
  have hl := h.l
  have e1 := shr1 l
  have e2 : (l : Int).tmod 1024 = ((l % 1024 : Nat) : Int) := by rw [Int.tmod_eq_emod_of_nonneg (by omega)]; rfl
  have hv : uArr (hdS k l s) 3 = #[.int .u16 k, .int .u16 (l / 1024 : Nat), .int .u16 (l % 1024 : Nat)] := rfl
  have b1 : l % 1024 ≤ 1023 := by omega
  obtain ⟨M, hM⟩ : ∃ M, M = w.alloc (.cells #[.int .i64 k, .int .i64 l, .int .i64 s] 30) := ⟨_, rfl⟩
  have kM : Keep (fun _ => False) w M := by rw [hM]; exact (Keep.refl _ w).alloc _
  have bM : Blk M w.heap.size 30 #[.int .i64 k, .int .i64 l, .int .i64 s] := by rw [hM]; exact Blk.new w _ _
  have k1 := (Keep.refl (fun _ => False) M).alloc (.cells (uArr (hdS k l s) 3) 25)
  have HMs := Lib.hid (show M.heap.size = w.heap.size + 1 by rw [hM]; simp)
  have k2 := Blk.here M 25 (uArr (hdS k l s) 3) (w.heap.size + 1) HMs.out.symm
  have O1 := Lib.hid (OwnU.of_row (RowU.of_blk k2) (Nat.le_refl _) (by unfold maxLen; omega))
  have q0 : M.cell? ⟨w.heap.size, 0, none⟩ = some (.int .i64 k) := by rw [bM.cell]; rfl
  have q1 : M.cell? ⟨w.heap.size, 1, none⟩ = some (.int .i64 l) := by rw [bM.cell]; rfl
  rw [hv] at k1 O1
  clear hv h k2
  generalize hl1 : l / 1024 = l1 at *
  generalize hl0 : l % 1024 = l0 at *
  have HSQ := Lib.hid (hdS_seq k l s)
  unfold markV
  clear hl1 hl0
  go_enter Tryz.func97, Tryz.ntmps97
  go_wp2_with fail
  rw [← hM]
  clear hM
  go_wp2_with fail
  clear q0 q1 e1 e2
  go_loopw [3, 4] (fun v3 v4 wr => ∃ (j : Nat) (ao : Option Addr) (co : Nat), j ≤ 4 ∧ v3 = .slice ao (3 + j) co ∧ v4 = .int .i64 (3 - (j : Int)) ∧ Hid (OwnU wr (w.heap.size + 1) ao (3 + j) co (hdS k l s)) ∧ Keep (fun _ => False) M wr) (fun _ v _ => (intOf v + 1).toNat)
  case atStart => exact ⟨0, _, _, by omega, rfl, rfl, O1, k1⟩
  case round =>
    clear O1 k1
    obtain ⟨j, ao, co, hj, rfl, rfl, HO, kk⟩ := hrel
    by_cases hj4 : j < 4
    · have hj4' : (0 : Int) ≤ 3 - (j : Int) := by omega
      have q2 : wr.cell? ⟨w.heap.size, 2, none⟩ = some (.int .i64 s) := by rw [(bM.keep kk (by simp)).cell]; rfl
      obtain ⟨a1, a2, a3, a4⟩ := HSQ.out
      obtain rfl | rfl | rfl | rfl : j = 0 ∨ j = 1 ∨ j = 2 ∨ j = 3 := by omega
      · obtain ⟨x, hx⟩ : ∃ x, x = hdS k l s 3 := ⟨_, rfl⟩
        have hE : (s : Int) / 1073741824 % 1024 = (x : Int) := by
          rw [hx, a1, shr3]
          rfl
        have hxl : x < 1024 := by rw [hx, a1]; exact Nat.mod_lt _ (by omega)
        have HX := Lib.hid hx
        have kL := kk.alloc (.cells #[.int .u16 (x : Nat)] 25)
        have OL := Lib.hid (HO.out.ownV.keep ((Keep.refl _ wr).alloc (.cells #[.int .u16 (x : Nat)] 25)))
        have BL := Lib.hid (Blk.new wr 25 #[.int .u16 (x : Nat)])
        have hsL : w.heap.size + 1 ≤ (wr.alloc (.cells #[.int .u16 (x : Nat)] 25)).heap.size := by have := kL.size; rw [HMs.out] at this; exact this
        clear a1 a2 a3 a4 hx HO kk
        go_wp2_with (refine wpList_append_1 ty_u rfl (.tmp 21) (.tmp 29) rfl (w.heap.size + 1) ao 3 co (fun t => .int .u16 (hdS k l s t : Nat)) rfl OL.out wr.heap.size _ rfl BL.out rfl (by omega) hsL ?_)
        intro a6 c6 w6 o6 g6
        have O6 := Lib.hid (OwnV.ownU (o6.congr (f' := fun t => .int .u16 (hdS k l s t : Nat)) (fun t ht => by
          by_cases h : t < 3
          · rw [if_pos h]
          · rw [if_neg h, show t = 3 by omega, HX.out])))
        have K6 := kL.grown g6 (fun t ht => .inr (by rw [HMs.out]; exact (OL.out.lt t ht).1))
        clear o6 g6 kL OL BL hsL q2 hE
        go_wp2_with fail
        exact ⟨⟨1, a6, c6, by omega, rfl, rfl, O6, K6⟩, by simp [intOf]⟩
      · obtain ⟨x, hx⟩ : ∃ x, x = hdS k l s 4 := ⟨_, rfl⟩
        have hE : (s : Int) / 1048576 % 1024 = (x : Int) := by
          rw [hx, a2, shr2]
          rfl
        have hxl : x < 1024 := by rw [hx, a2]; exact Nat.mod_lt _ (by omega)
        have HX := Lib.hid hx
        have kL := kk.alloc (.cells #[.int .u16 (x : Nat)] 25)
        have OL := Lib.hid (HO.out.ownV.keep ((Keep.refl _ wr).alloc (.cells #[.int .u16 (x : Nat)] 25)))
        have BL := Lib.hid (Blk.new wr 25 #[.int .u16 (x : Nat)])
        have hsL : w.heap.size + 1 ≤ (wr.alloc (.cells #[.int .u16 (x : Nat)] 25)).heap.size := by have := kL.size; rw [HMs.out] at this; exact this
        clear a1 a2 a3 a4 hx HO kk
        go_wp2_with (refine wpList_append_1 ty_u rfl (.tmp 21) (.tmp 29) rfl (w.heap.size + 1) ao 4 co (fun t => .int .u16 (hdS k l s t : Nat)) rfl OL.out wr.heap.size _ rfl BL.out rfl (by omega) hsL ?_)
        intro a6 c6 w6 o6 g6
        have O6 := Lib.hid (OwnV.ownU (o6.congr (f' := fun t => .int .u16 (hdS k l s t : Nat)) (fun t ht => by
          by_cases h : t < 4
          · rw [if_pos h]
          · rw [if_neg h, show t = 4 by omega, HX.out])))
        have K6 := kL.grown g6 (fun t ht => .inr (by rw [HMs.out]; exact (OL.out.lt t ht).1))
        clear o6 g6 kL OL BL hsL q2 hE
        go_wp2_with fail
        exact ⟨⟨2, a6, c6, by omega, rfl, rfl, O6, K6⟩, by simp [intOf]⟩
      · obtain ⟨x, hx⟩ : ∃ x, x = hdS k l s 5 := ⟨_, rfl⟩
        have hE : (s : Int) / 1024 % 1024 = (x : Int) := by
          rw [hx, a3, shr1]
          rfl
        have hxl : x < 1024 := by rw [hx, a3]; exact Nat.mod_lt _ (by omega)
        have HX := Lib.hid hx
        have kL := kk.alloc (.cells #[.int .u16 (x : Nat)] 25)
        have OL := Lib.hid (HO.out.ownV.keep ((Keep.refl _ wr).alloc (.cells #[.int .u16 (x : Nat)] 25)))
        have BL := Lib.hid (Blk.new wr 25 #[.int .u16 (x : Nat)])
        have hsL : w.heap.size + 1 ≤ (wr.alloc (.cells #[.int .u16 (x : Nat)] 25)).heap.size := by have := kL.size; rw [HMs.out] at this; exact this
        clear a1 a2 a3 a4 hx HO kk
        go_wp2_with (refine wpList_append_1 ty_u rfl (.tmp 21) (.tmp 29) rfl (w.heap.size + 1) ao 5 co (fun t => .int .u16 (hdS k l s t : Nat)) rfl OL.out wr.heap.size _ rfl BL.out rfl (by omega) hsL ?_)
        intro a6 c6 w6 o6 g6
        have O6 := Lib.hid (OwnV.ownU (o6.congr (f' := fun t => .int .u16 (hdS k l s t : Nat)) (fun t ht => by
          by_cases h : t < 5
          · rw [if_pos h]
          · rw [if_neg h, show t = 5 by omega, HX.out])))
        have K6 := kL.grown g6 (fun t ht => .inr (by rw [HMs.out]; exact (OL.out.lt t ht).1))
        clear o6 g6 kL OL BL hsL q2 hE
        go_wp2_with fail
        exact ⟨⟨3, a6, c6, by omega, rfl, rfl, O6, K6⟩, by simp [intOf]⟩
      · obtain ⟨x, hx⟩ : ∃ x, x = hdS k l s 6 := ⟨_, rfl⟩
        have hE : (s : Int) % 1024 = (x : Int) := by
          rw [hx, a4, show shN s 0 = s from rfl]
          rfl
        have hxl : x < 1024 := by rw [hx, a4]; exact Nat.mod_lt _ (by omega)
        have HX := Lib.hid hx
        have kL := kk.alloc (.cells #[.int .u16 (x : Nat)] 25)
        have OL := Lib.hid (HO.out.ownV.keep ((Keep.refl _ wr).alloc (.cells #[.int .u16 (x : Nat)] 25)))
        have BL := Lib.hid (Blk.new wr 25 #[.int .u16 (x : Nat)])
        have hsL : w.heap.size + 1 ≤ (wr.alloc (.cells #[.int .u16 (x : Nat)] 25)).heap.size := by have := kL.size; rw [HMs.out] at this; exact this
        clear a1 a2 a3 a4 hx HO kk
        go_wp2_with (refine wpList_append_1 ty_u rfl (.tmp 21) (.tmp 29) rfl (w.heap.size + 1) ao 6 co (fun t => .int .u16 (hdS k l s t : Nat)) rfl OL.out wr.heap.size _ rfl BL.out rfl (by omega) hsL ?_)
        intro a6 c6 w6 o6 g6
        have O6 := Lib.hid (OwnV.ownU (o6.congr (f' := fun t => .int .u16 (hdS k l s t : Nat)) (fun t ht => by
          by_cases h : t < 6
          · rw [if_pos h]
          · rw [if_neg h, show t = 6 by omega, HX.out])))
        have K6 := kL.grown g6 (fun t ht => .inr (by rw [HMs.out]; exact (OL.out.lt t ht).1))
        clear o6 g6 kL OL BL hsL q2 hE
        go_wp2_with fail
        exact ⟨⟨4, a6, c6, by omega, rfl, rfl, O6, K6⟩, by simp [intOf]⟩
    · obtain rfl : j = 4 := by omega
      have kL := kk.alloc (.cells #[.int .u16 (0 : Nat)] 25)
      have OL := Lib.hid (HO.out.ownV.keep ((Keep.refl _ wr).alloc (.cells #[.int .u16 (0 : Nat)] 25)))
      have BL := Lib.hid (Blk.new wr 25 #[.int .u16 (0 : Nat)])
      have hsL : w.heap.size + 1 ≤ (wr.alloc (.cells #[.int .u16 (0 : Nat)] 25)).heap.size := by have := kL.size; rw [HMs.out] at this; exact this
      clear HO kk
      go_wp2_with (refine wpList_append_1 ty_u rfl (.tmp 31) (.tmp 32) rfl (w.heap.size + 1) ao 7 co (fun t => .int .u16 (hdS k l s t : Nat)) rfl OL.out wr.heap.size _ rfl BL.out rfl (by omega) hsL ?_)
      intro a6 c6 w6 o6 g6
      have O6 := Lib.hid (OwnV.ownU (o6.congr (f' := fun t => .int .u16 (hdS k l s t : Nat)) (fun t ht => by
        by_cases h : t < 7
        · rw [if_pos h]
        · rw [if_neg h, show t = 7 by omega]
          rfl)))
      have K6 := kL.grown g6 (fun t ht => .inr (by rw [HMs.out]; exact (OL.out.lt t ht).1))
      clear o6 g6 kL OL BL hsL
      go_wp2_with fail
      go_ret
      exact ⟨a6, c6, rfl, O6.out.more (Nat.le_succ _), kM.comp K6⟩
set_option maxRecDepth 100000 in
set_option maxHeartbeats 1000000 in
theorem fmay_yes (k l s : Nat) (h : MarkOk k l s) (w : World) :
    Calls Tryz.prog 77 #[markV k l s] w fun e w' => e = .returned (.bool true) ∧ Keep (fun _ => False) w w' := by
  have m1 : decide (1 ≤ (k : Int)) = true := decide_eq_true (by have := h.k1; omega)
  have m2 : decide ((k : Int) ≤ 1023) = true := decide_eq_true (by have := h.k2; omega)
  have m3 : decide (0 ≤ (l : Int)) = true := decide_eq_true (by omega)
  have m4 : decide ((l : Int) < 1048576) = true := decide_eq_true (by have := h.l; omega)
  have m5 : decide (0 ≤ (s : Int)) = true := decide_eq_true (by omega)
  have m6 : decide ((s : Int) < 1099511627776) = true := decide_eq_true (by have := h.s; omega)
  have kM := (Keep.refl (fun _ => False) w).alloc (.cells #[.int .i64 k, .int .i64 l, .int .i64 s] 30)
  unfold markV
  clear h
  go_enter Tryz.func77, Tryz.ntmps77
  go_wp2_with fail
  go_ret
  exact ⟨rfl, kM⟩
set_option maxRecDepth 100000 in
set_option maxHeartbeats 2000000 in
theorem fmay_no (k l s : Int) (h : MarkBad k l s) (w : World) :
    Calls Tryz.prog 77 #[markV k l s] w fun e w' => e = .returned (.bool false) ∧ Keep (fun _ => False) w w' := by
  have kM := (Keep.refl (fun _ => False) w).alloc (.cells #[.int .i64 k, .int .i64 l, .int .i64 s] 30)
  unfold markV
  cases d1 : decide (1 ≤ k) with
  | false =>
    clear h
    go_enter Tryz.func77, Tryz.ntmps77
    go_wp2_with fail
    go_ret
    exact ⟨rfl, kM⟩
  | true =>
    cases d2 : decide (k ≤ 1023) with
    | false =>
      clear h
      go_enter Tryz.func77, Tryz.ntmps77
      go_wp2_with fail
      go_ret
      exact ⟨rfl, kM⟩
    | true =>
      cases d3 : decide (0 ≤ l) with
      | false =>
        clear h
        go_enter Tryz.func77, Tryz.ntmps77
        go_wp2_with fail
        go_ret
        exact ⟨rfl, kM⟩
      | true =>
        cases d4 : decide (l < 1048576) with
        | false =>
          clear h
          go_enter Tryz.func77, Tryz.ntmps77
          go_wp2_with fail
          go_ret
          exact ⟨rfl, kM⟩
        | true =>
          cases d5 : decide (0 ≤ s) with
          | false =>
            clear h
            go_enter Tryz.func77, Tryz.ntmps77
            go_wp2_with fail
            go_ret
            exact ⟨rfl, kM⟩
          | true =>
            have d6 : decide (s < 1099511627776) = false := by
              unfold MarkBad at h
              simp only [decide_eq_true_iff] at d1 d2 d3 d4 d5
              exact decide_eq_false (by omega)
            clear h
            go_enter Tryz.func77, Tryz.ntmps77
            go_wp2_with fail
            go_ret
            exact ⟨rfl, kM⟩
set_option maxRecDepth 100000 in
set_option maxHeartbeats 2000000 in
theorem symbols_any (B P : Int) (W K k l s n : Nat) (a : Option Addr) (c : Nat) (d : Nat → Nat) (w : World) (hm : MarkOk k l s) (hW : W ≤ 4) (hK : K ≤ 64) (hn : 8 + pkN n ≤ W * K) (hn1 : 1 ≤ n) (ha : ArgV w a n (fun i => .int .u8 (d i : Nat))) (hd : ∀ i, i < n → d i < 256) :
    Calls Tryz.prog 79 #[geoV B P W K, markV k l s, .slice a n c] w fun e w' => ∃ a' c', e = .returned (.slice a' (W * K) c') ∧ OwnU w' w.heap.size a' (W * K) c' (pgD k l s d n) ∧ Keep (fun _ => False) w w' := by
  have hwk : W * K ≤ 256 := Nat.mul_le_mul hW hK
  have hpn : n ≤ 400 := by unfold pkN at hn; omega
  obtain ⟨m, hmm⟩ : ∃ m, m = W * K := ⟨_, rfl⟩
  have hmul : (W : Int) * (K : Int) = (m : Int) := by rw [hmm]; exact (Int.natCast_mul W K).symm
  rw [← hmm] at hn hwk ⊢
  obtain ⟨M, hM⟩ : ∃ M, M = (w.alloc (.cells #[.int .i64 B, .int .i64 P, .int .i64 W, .int .i64 K] 23)).alloc (.cells #[.int .i64 k, .int .i64 l, .int .i64 s] 30) := ⟨_, rfl⟩
  have kw : Keep (fun _ => False) w M := by rw [hM]; exact ((Keep.refl _ w).alloc _).alloc _
  have bG : Blk M w.heap.size 23 #[.int .i64 B, .int .i64 P, .int .i64 W, .int .i64 K] := by rw [hM]; exact (Blk.new w _ _).alloc _
  have bM : Blk M (w.heap.size + 1) 30 #[.int .i64 k, .int .i64 l, .int .i64 s] := by rw [hM]; exact Blk.here _ _ _ _ (by simp)
  have q0 : M.cell? ⟨w.heap.size + 1, 0, none⟩ = some (.int .i64 k) := by rw [bM.cell]; rfl
  have q1 : M.cell? ⟨w.heap.size + 1, 1, none⟩ = some (.int .i64 l) := by rw [bM.cell]; rfl
  have q2 : M.cell? ⟨w.heap.size + 1, 2, none⟩ = some (.int .i64 s) := by rw [bM.cell]; rfl
  have HA := Lib.hid (ha.keep kw)
  have HD := Lib.hid hd
  have HH := Lib.hid (fun w => head_any k l s hm w)
  have HZ := Lib.hid kw.size
  unfold markV at HH ⊢
  clear ha hd hm hmm bM
  go_enter Tryz.func79, Tryz.ntmps79
  go_wp2_with fail
  rw [← hM]
  clear hM
  go_wp2_with fail
  clear q0 q1 q2
  refine (HH.out _).mono ?_
  rintro e w1 ⟨a1, c1, rfl, o1, k1⟩
  have HA1 := HA.out.keep k1
  go_wp2_with fail
  refine (pack_any a n c d _ HA1 HD.out (by omega)).mono ?_
  rintro e w2 ⟨a2, c2, rfl, o2, k2⟩
  have K2 := k1.comp k2
  have O1 := Lib.hid (o1.keep k2)
  have hpk0 : ∀ i, pkS d n i < 1024 := pkS_lt d n
  obtain ⟨g2, rfl, _, _, _⟩ := o2.row (show 0 < pkN n by unfold pkN; omega)
  have AP := Lib.hid (o2.arg (by omega) (fun i _ => by have := hpk0 i; omega))
  clear o1 o2 k1 k2 HA HA1 HH
  have hs2 := K2.size
  obtain ⟨L, hL⟩ : ∃ L, L = 8 + pkN n := ⟨_, rfl⟩
  go_wp2_with (refine wpList_append_u rfl (.tmp 9) (.tmp 11) rfl M.heap.size a1 8 c1 (hdS k l s) rfl O1.out ⟨g2, 0, none⟩ (pkN n) c2 (pkS d n) rfl AP.out (by omega) hs2 ?_)
  intro a3 c3 w3 o3 g3
  rw [← hL] at o3 ⊢
  have O3 := o3.congr (f' := pgD k l s d n) (fun i hi => by
    unfold pgD
    by_cases h : i < 8
    · rw [if_pos h, if_pos h]
    · rw [if_neg h, if_neg h, if_pos (by omega)])
  have K3 := K2.grown g3 (fun t ht => .inr (O1.out.row_ge ht))
  obtain ⟨g0, g1, g2', g3'⟩ := geo_cells (bG.keep K3 (by simp))
  obtain ⟨gR, rfl, hgR, hcR, rR⟩ := O3.row (by omega)
  obtain ⟨z, hz⟩ : ∃ z, z = m - L := ⟨_, rfl⟩
  have hzI : (m : Int) - (L : Int) = (z : Int) := by omega
  have hLz : L + z = m := by omega
  have hs3 := K3.size
  have hLm : L ≤ 256 := by omega
  have hzm : z ≤ 256 := by omega
  have HLE := Lib.hid hL
  have RR := Lib.hid rR
  clear o3 g3 hz hL O3 rR K2 AP O1 hn
  go_wp2_with (refine wpList_append_zeros rfl (.tmp 13) (.tmp 21) rfl M.heap.size gR L c3 (pgD k l s d n) rfl RR.out hgR hcR z rfl (by omega) hs3 ?_)
  intro a4 c4 w4 o4 g4
  have O4 := Lib.hid (show OwnU w4 w.heap.size a4 m c4 (pgD k l s d n) from (o4.congr (fun i hi => by
    by_cases h : i < L
    · rw [if_pos h]
    · rw [if_neg h]
      unfold pgD
      rw [if_neg (by have := HLE.out; omega), if_neg (by have := HLE.out; omega)])).more HZ.out)
  have K4 := K3.grown g4 (fun t ht => .inr (by cases ht; exact hgR))
  clear g0 g1 g2' g3' o4 g4
  go_wp2_with fail
  go_ret
  exact ⟨a4, c4, rfl, O4.out, kw.comp K4⟩
end Go.Proofs.YtdlmjjlejkkniaaGreat

namespace Go.Proofs.YtdlmjjlejkkniaaGreat
open Go.RowKit

theorem mark_cells {w : World} {g : Nat} {k l s : Int} (b : Blk w g 30 #[.int .i64 k, .int .i64 l, .int .i64 s]) :
    w.cell? ⟨g, 0, none⟩ = some (.int .i64 k) ∧ w.cell? ⟨g, 1, none⟩ = some (.int .i64 l) ∧ w.cell? ⟨g, 2, none⟩ = some (.int .i64 s) :=
  ⟨by rw [b.cell]; rfl, by rw [b.cell]; rfl, by rw [b.cell]; rfl⟩
end Go.Proofs.YtdlmjjlejkkniaaGreat
